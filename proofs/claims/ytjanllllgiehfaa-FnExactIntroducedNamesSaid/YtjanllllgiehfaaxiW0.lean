/- Printed by a program of mine: the plain functions that the code computes (D), and the walks that show it (W). -/
import Derived.Test.YtjanllllgiehfaaLv
import Derived.Test.YtjanllllgiehfaaSaTy
import Derived.Test.YtjanllllgiehfaaChecked
import Derived.Lib.Strings
import Derived.Lib.Slices
import Derived.Lib.Walk
import Derived.Lib.Bytealg
import Derived.Test.YtjanllllgiehfaaxiD
set_option maxRecDepth 100000
set_option maxHeartbeats 2000000
set_option linter.unusedSimpArgs false
set_option linter.unusedVariables false
open Go Go.Proofs Go.Proofs.Shadow
namespace Go.Proofs.SA
theorem laws_toIntS_l0_ok : ∀ (a0 : List Int) (z0o_0 : List Int) (z0t_4 : Int) out, laws_toIntS_l0 a0 z0o_0 z0t_4 = some out → ∀ c, loopAt Try.f26 0 = some c → ∀ (Q : AX → AS → Prop) (τ : Sto) (b1 : Nat), (∀ (e0o_0 : List Int), out = e0o_0 → ∀ (T : Nat → AV) (σ : Sto), T 3 = .ref b1 a0.length a0.length → Fx τ σ [] [⟨.ref b1 a0.length a0.length, 3, 1, rws cI e0o_0⟩] → Q (.ex 0) ⟨T, σ⟩) → True → ∀ (T : Nat → AV) (σ : Sto), T 0 = .sl false (rws cI a0) ∧ T 3 = .ref b1 a0.length a0.length ∧ T 4 = .int .i64 z0t_4 → Fx τ σ [] [⟨.ref b1 a0.length a0.length, 3, 1, rws cI z0o_0⟩] → aLp Try.prog c Q ⟨T, σ⟩ := by
  intro a0 z0o_0 z0t_4
  revert z0o_0 z0t_4
  refine laws_toIntS_l0.partial_correctness a0 _ ?_
  intro laws_toIntS_l0 IH z0o_0 z0t_4 out H c hc Q τ b1 hE hR T σ tT hF
  obtain rfl := Option.some.inj ((rfl : loopAt Try.f26 0 = some _).symm.trans hc)
  refine aLoop_round ?_
  have q := dum
  have hX := Tau.none τ
  refine go ?_
  refine cdp H (fun h H => ?_) (fun h H => ?_)
  · obtain ⟨x18, f1, H⟩ := bil (g := cI) (fun _ => rfl) H
    obtain ⟨x20, hx20, H⟩ := bnd H
    try simp only [go_sem, ↓reduceIte, Nat.reduceEqDiff, Nat.reduceAdd, Nat.reduceMul, Nat.reduceLeDiff, Nat.reduceLT, Int.reduceEq, Int.toNat_natCast, q, tT, hF.f, hF.m, hF.x hX, f1, aidx_own (l := z0o_0) ((own_at hF 0 rfl).1.trans (rws_len _)) hx20]
    refine fx_oset hF 0 (o := 0) (sz := 1) (k := 1) (v := (.int .i64 x18)) (cs := [.int .i64 x18]) (g := cI) (i := z0t_4) x18 (fun _ => rfl) (by first | rfl | simp) rfl hx20 rfl rfl (by decide) (by first | rfl | simp [splice_eq, cI, cU, cS, cL, cB]) fun σ3 hF => ?_
    have hF : Fx τ σ3 [] [⟨.ref b1 a0.length a0.length, 3, 1, rws cI (z0o_0.set z0t_4.toNat x18)⟩] := hF
    refine go ?_
    exact IH  (z0o_0.set z0t_4.toNat x18) (IntKind.i64.wrap (z0t_4 + 1)) _ H _ rfl Q τ b1 hE hR _ _  S hF
  · refine go ?_
    exact wq (hE _ (pur H).symm _ _  S hF)
theorem laws_toIntS_ok : ∀ (a0 : List Int) r, laws_toIntS a0 = some r → PCtr Try.prog 26 [.sl false (rws cI a0)] (.sl false (rws cI r)) := by
  intro a0 r H
  intro σ
  unfold laws_toIntS at H
  refine hdg mixed Try.func26 (rs := [.tmp 2]) fun q tT => ?_
  have hF := Fx.refl σ
  have hX := Tau.none σ
  refine go ?_
  obtain ⟨x7, hx7, H⟩ := bnd H
  refine fx_make (g := cI) 0 hF rfl (fun _ => rfl) (by (try simp only [cI, cU, cS, cL, cB]); exact (.cons (.refl _) id .nil)) hx7 fun b1 σ2 hF => ?_
  simp only [Int.toNat_natCast] at hF
  refine go ?_
  obtain ⟨o4, ho4, H⟩ := bnd H
  refine laws_toIntS_l0_ok a0 x7 0 _ ho4 _ rfl _ _ b1 ?_ ?_ _ _  S hF
  · intro e5o_0 he T6 σ7 tT hF
    have he := he.symm
    subst he
    refine go ?_
    have e := pur H; subst e
    exact rt [.ref b1 a0.length a0.length]
  · trivial
theorem laws_toForm_all : (∀ (a0 : Fm) r, laws_toForm a0 = some r → PCtr Try.prog 7 [.agg (Fm.cells a0)] (.agg (Fm.cells r))) ∧ (∀ (a0 : List Fm) r, laws_toFormS a0 = some r → PCtr Try.prog 27 [.sl false (rws Fm.cells a0)] (.sl false (rws Fm.cells r))) := by
  have h := laws_toForm.mutual_partial_correctness  (motive_1 := fun a0 r => PCtr Try.prog 7 [.agg (Fm.cells a0)] (.agg (Fm.cells r))) (motive_2 := fun a0 r => PCtr Try.prog 27 [.sl false (rws Fm.cells a0)] (.sl false (rws Fm.cells r))) (motive_3 := fun a0 z0o_0 z0t_4 out => ∀ c, loopAt Try.f27 0 = some c → ∀ (Q : AX → AS → Prop) (τ : Sto) (b1 : Nat), (∀ (e0o_0 : List Fm), out = e0o_0 → ∀ (T : Nat → AV) (σ : Sto), T 3 = .ref b1 a0.length a0.length → Fx τ σ [] [⟨.ref b1 a0.length a0.length, 29, 5, rws Fm.cells e0o_0⟩] → Q (.ex 0) ⟨T, σ⟩) → True → ∀ (T : Nat → AV) (σ : Sto), T 0 = .sl false (rws Fm.cells a0) ∧ T 3 = .ref b1 a0.length a0.length ∧ T 4 = .int .i64 z0t_4 → Fx τ σ [] [⟨.ref b1 a0.length a0.length, 29, 5, rws Fm.cells z0o_0⟩] → aLp Try.prog c Q ⟨T, σ⟩) ?s0 ?s1 ?s2
  · exact ⟨h.1, h.2.1⟩
  · intro laws_toFormS C1 a0 r H
    intro σ
    refine hdg mixed Try.func7 (rs := [.cell 2 29]) fun q tT => ?_
    have hF := Fx.refl σ
    have hX := Tau.none σ
    refine go ?_
    refine fx_alloc hF rfl fun b1 σ2 hF => ?_
    refine go ?_
    refine fx_alloc hF rfl fun b3 σ4 hF => ?_
    refine go ?_
    refine fx_alloc hF rfl fun b5 σ6 hF => ?_
    refine go ?_
    refine st hF 0 rfl fun σ7 hF => ?_
    refine go ?_
    refine st hF 0 rfl fun σ8 hF => ?_
    refine go ?_
    refine st hF 0 rfl fun σ9 hF => ?_
    refine go ?_
    obtain ⟨x15, hx15, H⟩ := bnd H
    refine cl (laws_toIntS_ok a0.sc _ hx15) ?_
    refine go ?_
    refine st hF 0 rfl fun σ10 hF => ?_
    refine go ?_
    obtain ⟨x19, hx19, H⟩ := bnd H
    refine cl (C1 a0.kids _ hx19) ?_
    refine go ?_
    refine st hF 0 rfl fun σ11 hF => ?_
    refine go ?_
    refine st hF 1 rfl fun σ12 hF => ?_
    refine go ?_
    have e := pur H; subst e
    exact rt [.agg [.int .i64 a0.kind, .str a0.name, .int .i64 a0.num, .sl false (rws cI x15), .sl false (rws Fm.cells x19)]]
  · intro laws_toFormS_l0 L0 a0 r H
    intro σ
    refine hdg mixed Try.func27 (rs := [.tmp 2]) fun q tT => ?_
    have hF := Fx.refl σ
    have hX := Tau.none σ
    refine go ?_
    obtain ⟨x7, hx7, H⟩ := bnd H
    refine fx_make (g := Fm.cells) (Fm.mk 0 (ByteArray.mk #[]) 0 [] []) hF rfl Fm.cells_len (by (try simp only [cI, cU, cS, cL, cB, Fm.cells_eq]); exact (.cons (.refl _) id (.cons (.refl _) id (.cons (.refl _) id (.cons .nilsl (fun _ => rfl) (.cons .nilsl (fun _ => rfl) .nil)))))) hx7 fun b1 σ2 hF => ?_
    simp only [Int.toNat_natCast] at hF
    refine go ?_
    obtain ⟨o4, ho4, H⟩ := bnd H
    refine L0 a0 x7 0 _ ho4 _ rfl _ _ b1 ?_ ?_ _ _  S hF
    · intro e5o_0 he T6 σ7 tT hF
      have he := he.symm
      subst he
      refine go ?_
      have e := pur H; subst e
      exact rt [.ref b1 a0.length a0.length]
    · trivial
  · intro laws_toForm laws_toFormS_l0 C0 L0 a0 z0o_0 z0t_4 out H c hc Q τ b1 hE hR T σ tT hF
    obtain rfl := Option.some.inj ((rfl : loopAt Try.f27 0 = some _).symm.trans hc)
    refine aLoop_round ?_
    have q := dum
    have hX := Tau.none τ
    refine go ?_
    refine cdp H (fun h H => ?_) (fun h H => ?_)
    · obtain ⟨x18, f1, H⟩ := bil (g := Fm.cells) Fm.cells_len H
      refine go1 ?_
      obtain ⟨x20, hx20, H⟩ := bnd H
      refine cl (C0 x18 _ hx20) ?_
      obtain ⟨x21, hx21, H⟩ := bnd H
      try simp only [go_sem, ↓reduceIte, Nat.reduceEqDiff, Nat.reduceAdd, Nat.reduceMul, Nat.reduceLeDiff, Nat.reduceLT, Int.reduceEq, Int.toNat_natCast, q, tT, hF.f, hF.m, hF.x hX, aidx_own (l := z0o_0) ((own_at hF 0 rfl).1.trans (rws_len _)) hx21]
      refine fx_oset hF 0 (o := 0) (sz := 5) (k := 5) (v := (.agg [.int .i64 x20.kind, .str x20.name, .int .i64 x20.num, .sl false (rws cI x20.sc), .sl false (rws Fm.cells x20.kids)])) (cs := [.int .i64 x20.kind, .str x20.name, .int .i64 x20.num, .sl false (rws cI x20.sc), .sl false (rws Fm.cells x20.kids)]) (g := Fm.cells) (i := z0t_4) x20 Fm.cells_len (by first | rfl | simp) rfl hx21 rfl rfl (by decide) (by first | rfl | simp [splice_eq, cI, cU, cS, cL, cB, Fm.cells_eq]) fun σ3 hF => ?_
      have hF : Fx τ σ3 [] [⟨.ref b1 a0.length a0.length, 29, 5, rws Fm.cells (z0o_0.set z0t_4.toNat x20)⟩] := hF
      refine go ?_
      exact L0 a0 (z0o_0.set z0t_4.toNat x20) (IntKind.i64.wrap (z0t_4 + 1)) _ H _ rfl Q τ b1 hE hR _ _  S hF
    · refine go ?_
      exact wq (hE _ (pur H).symm _ _  S hF)
theorem laws_toForm_ok : ∀ (a0 : Fm) r, laws_toForm a0 = some r → PCtr Try.prog 7 [.agg (Fm.cells a0)] (.agg (Fm.cells r)) := laws_toForm_all.1
theorem laws_toStep_ok : ∀ (a0 : Stp) r, laws_toStep a0 = some r → PCtr Try.prog 14 [.agg (Stp.cells a0)] (.agg (Stp.cells r)) := by
  intro a0 r H
  intro σ
  unfold laws_toStep at H
  refine hdg mixed Try.func14 (rs := [.cell 2 41]) fun q tT => ?_
  have hF := Fx.refl σ
  have hX := Tau.none σ
  refine go ?_
  refine fx_alloc hF rfl fun b1 σ2 hF => ?_
  refine go ?_
  refine fx_alloc hF rfl fun b3 σ4 hF => ?_
  refine go ?_
  refine fx_alloc hF rfl fun b5 σ6 hF => ?_
  refine go ?_
  refine st hF 0 rfl fun σ7 hF => ?_
  refine go ?_
  refine st hF 0 rfl fun σ8 hF => ?_
  refine go ?_
  refine st hF 0 rfl fun σ9 hF => ?_
  refine go ?_
  obtain ⟨x15, hx15, H⟩ := bnd H
  refine cl (laws_toForm_ok a0.use _ hx15) ?_
  refine go ?_
  refine st hF 0 rfl fun σ10 hF => ?_
  refine go ?_
  obtain ⟨x19, hx19, H⟩ := bnd H
  refine cl (laws_toForm_ok a0.res _ hx19) ?_
  refine go ?_
  refine st hF 0 rfl fun σ11 hF => ?_
  refine go ?_
  refine st hF 1 rfl fun σ12 hF => ?_
  refine go ?_
  have e := pur H; subst e
  exact rt [.agg [.int .i64 a0.id, .int .i64 a0.rule, .int .i64 a0.scope, .int .i64 x15.kind, .str x15.name, .int .i64 x15.num, .sl false (rws cI x15.sc), .sl false (rws Fm.cells x15.kids), .int .i64 x19.kind, .str x19.name, .int .i64 x19.num, .sl false (rws cI x19.sc), .sl false (rws Fm.cells x19.kids)]]
set_option maxHeartbeats 1000000 in
set_option maxRecDepth 100000 in
theorem ib_lite (s : ByteArray) (c : Int) (w : World) :
    Calls Try.prog 59 #[.string s, .int .u8 c] w fun e w' => e = .returned (Value.int .i64 (Lib.indexByte s.data.toList c.toNat.toUInt8)) ∧ w' = w := by
  go_enter Try.func59, Try.ntmps59
  go_wp2
  rw [run_callFunc_extern Try.func64 (by kernel_rfl) (by kernel_rfl) (by kernel_rfl) (e := Extern.BytealgIndexByte.indexByte) (by kernel_rfl), Lib.run_indexByteString]
  simp only [Result.andThen]
  rw [Oper.upon_value]
  go_wp2
  go_ret
  exact ⟨rfl, rfl⟩
set_option maxHeartbeats 1000000 in
theorem ib_str (s : ByteArray) (c : Int) (w : World) :
    Calls Try.prog 47 #[.string s, .int .u8 c] w fun e w' => e = .returned (Value.int .i64 (Lib.indexByte s.data.toList c.toNat.toUInt8)) ∧ w' = w := by
  go_enter Try.func47, Try.ntmps47
  go_wp2_with (go_at_call 59; refine (ib_lite _ _ _).mono ?_; rintro e w' ⟨rfl, rfl⟩)
  go_ret
  exact ⟨rfl, rfl⟩
theorem ib_ctr {P : Program} {f : FuncId} {fn : Func} (hf : P.funcs[f]? = some fn) (hb : fn.body.isNone = false) (hn : (fn.name == "runtime.NumGoroutine") = false) {s : ByteArray} {c r : Int}
    (h : ∀ w, Calls P f #[.string s, .int .u8 c] w fun e w' => e = .returned (Value.int .i64 r) ∧ w' = w) : PCtr P f [.str s, .int .u8 c] (.int .i64 r) := by
  intro σ
  refine ⟨⟨fn, hf, hb, hn⟩, fun w cargs hsim htb hl hr => ?_⟩
  have h0 := hr 0 _ rfl
  have h1 := hr 1 _ rfl
  match cargs, hl with
  | [x, y], _ =>
    simp only [List.getD_cons_zero, List.getD_cons_succ] at h0 h1
    cases h0
    cases h1
    refine (h w).mono ?_
    rintro e w' ⟨rfl, rfl⟩
    exact ⟨_, _, σ, rfl, Step.refl _ _, hsim, .int, rfl, rfl⟩
theorem strings_IndexByte_ok : ∀ (a0 : ByteArray) (a1 : Int) r, strings_IndexByte a0 a1 = some r → PCtr Try.prog 47 [.str a0, .int .u8 a1] (.int .i64 r) := by
  intro a0 a1 r H
  injection H with H
  subst H
  exact ib_ctr Try.func47 (by kernel_rfl) (by kernel_rfl) (ib_str a0 a1)
theorem impl_within_ok : ∀ (a0 : Int) (a1 : Int) (a2 : Int) r, impl_within a0 a1 a2 = some r → PCtr Try.prog 36 [.int .i64 a0, .int .i64 a1, .int .i64 a2] (.bool r) := by
  intro a0 a1 a2 r H
  intro σ
  unfold impl_within at H
  refine hdg mixed Try.func36 (rs := [.tmp 6]) fun q tT => ?_
  have hF := Fx.refl σ
  have hX := Tau.none σ
  refine go ?_
  obtain ⟨x14, g1, H⟩ := bnd H
  refine aGd_cutN 3 11 14 (.bool x14) (gi q (fun q => ?_) (fun q => ?_)) (fun J => ?_)
  · refine go ?_
    exact cutd 11 g1
  · refine go ?_
    exact cutd 11 g1
  refine go ?_
  have e := pur H; subst e
  exact rt [.bool x14]
theorem impl_NameValid_l0_ok : ∀ (a0 : ByteArray) (z0t_3 : Int) out, impl_NameValid_l0 a0 z0t_3 = some out → ∀ c, loopAt Try.f29 0 = some c → ∀ (Q : AX → AS → Prop) (τ : Sto), (∀ (_u : Unit), out = Sum.inr () → ∀ (T : Nat → AV) (σ : Sto), T 0 = .str a0 → Fx τ σ [] [] → Q (.ex 0) ⟨T, σ⟩) → (∀ r, out = Sum.inl r → ∀ s', aRet Try.prog [.tmp 2] (fun r' σ' => r' = .bool r ∧ σ' = τ) s' → Q .ret s') → ∀ (T : Nat → AV) (σ : Sto), T 0 = .str a0 ∧ T 3 = .int .i64 z0t_3 → Fx τ σ [] [] → aLp Try.prog c Q ⟨T, σ⟩ := by
  intro a0 z0t_3
  revert z0t_3
  refine impl_NameValid_l0.partial_correctness a0 _ ?_
  intro impl_NameValid_l0 IH z0t_3 out H c hc Q τ  hE hR T σ tT hF
  obtain rfl := Option.some.inj ((rfl : loopAt Try.f29 0 = some _).symm.trans hc)
  refine aLoop_round ?_
  have q := dum
  have hX := Tau.none τ
  refine go ?_
  refine cdp H (fun h H => ?_) (fun h H => ?_)
  · obtain ⟨x19, f1, H⟩ := bsx H
    refine go1 ?_
    refine go ?_
    obtain ⟨x26, g3, H⟩ := bnd H
    refine aGd_cutN 2 24 26 (.bool x26) (gi q (fun q => ?_) (fun q => ?_)) (fun J => ?_)
    · refine go ?_
      exact cutd 24 g3
    · refine go ?_
      exact cutd 24 g3
    refine go ?_
    obtain ⟨x31, g5, H⟩ := bnd H
    refine aGd_cutN 3 28 31 (.bool x31) (giN q (fun q => ?_) (fun q => ?_)) (fun J => ?_)
    · rw [if_neg (dbf q)] at g5
      refine go ?_
      obtain ⟨x29, hx29, g5⟩ := bnd g5
      refine cl (strings_IndexByte_ok (ByteArray.mk #[42, 63, 61, 43, 60]) x19 _ hx29) ?_
      refine go ?_
      exact cutd 28 g5
    · rw [if_pos (dbt q)] at g5
      refine go ?_
      exact cutd 28 g5
    refine go ?_
    refine cdb H (fun h H => ?_) (fun h H => ?_)
    · refine go ?_
      exact IH  (IntKind.i64.wrap (z0t_3 + 1)) _ H _ rfl Q τ  hE hR _ _  S hF
    · refine go ?_
      obtain ⟨x46, g7, H⟩ := bnd H
      refine aGd_cutN 10 36 46 (.bool x46) (gi q (fun q => ?_) (fun q => ?_)) (fun J => ?_)
      · rw [if_pos (dt q)] at g7
        refine go ?_
        obtain ⟨x41, g9, g7⟩ := bnd g7
        refine aGd_cutN 2 39 41 (.bool x41) (gi q (fun q => ?_) (fun q => ?_)) (fun J => ?_)
        · refine go ?_
          exact cutd 39 g9
        · refine go ?_
          exact cutd 39 g9
        refine go ?_
        obtain ⟨x45, g11, g7⟩ := bnd g7
        refine aGd_cutN 2 43 45 (.bool x45) (giN q (fun q => ?_) (fun q => ?_)) (fun J => ?_)
        · refine go ?_
          exact cutd 43 g11
        · refine go ?_
          exact cutd 43 g11
        refine go ?_
        exact cutd 36 g7
      · rw [if_neg (df q)] at g7
        refine go ?_
        exact cutd 36 g7
      refine go ?_
      refine cdb H (fun h H => ?_) (fun h H => ?_)
      · refine go ?_
        exact IH  (IntKind.i64.wrap (z0t_3 + 1)) _ H _ rfl Q τ  hE hR _ _  S hF
      · refine go ?_
        exact wq (hR _ (pur H).symm _ (rt [.bool false]))
  · refine go ?_
    exact wq (hE () (pur H).symm _ _  S hF)
theorem impl_NameValid_ok : ∀ (a0 : ByteArray) r, impl_NameValid a0 = some r → PCtr Try.prog 29 [.str a0] (.bool r) := by
  intro a0 r H
  intro σ
  unfold impl_NameValid at H
  refine hdg mixed Try.func29 (rs := [.tmp 2]) fun q tT => ?_
  have hF := Fx.refl σ
  have hX := Tau.none σ
  refine go ?_
  obtain ⟨x10, g1, H⟩ := bnd H
  refine aGd_cutN 2 8 10 (.bool x10) (giN q (fun q => ?_) (fun q => ?_)) (fun J => ?_)
  · refine go ?_
    exact cutd 8 g1
  · refine go ?_
    exact cutd 8 g1
  refine go ?_
  refine cdb H (fun h H => ?_) (fun h H => ?_)
  · refine go ?_
    have e := pur H; subst e
    exact rt [.bool true]
  · refine go ?_
    obtain ⟨o13, ho13, H⟩ := bnd H
    refine impl_NameValid_l0_ok a0 0 _ ho13 _ rfl _ _  ?_ ?_ _ _  S hF
    · intro _ he T15 σ16 tT hF
      have he := he.symm
      subst he
      try dsimp only at H
      refine go ?_
      obtain ⟨x49, hx49, H⟩ := bnd H
      refine cl (impl_within_ok (a0.size : Int) 1 12 _ hx49) ?_
      refine go ?_
      have e := pur H; subst e
      exact rt [.bool x49]
    · intro r hr s' hs
      subst hr
      have e := pur H; subst e
      exact hsq hs
theorem impl_scopesOk_l0_ok : ∀ (a0 : List Int) (z0t_7 : Int) out, impl_scopesOk_l0 a0 z0t_7 = some out → ∀ c, loopAt Try.f58 0 = some c → ∀ (Q : AX → AS → Prop) (τ : Sto), (∀ (_u : Unit), out = Sum.inr () → ∀ (T : Nat → AV) (σ : Sto), T 0 = .sl false (rws cI a0) → Fx τ σ [] [] → Q (.ex 0) ⟨T, σ⟩) → (∀ r, out = Sum.inl r → ∀ s', aRet Try.prog [.tmp 2] (fun r' σ' => r' = .bool r ∧ σ' = τ) s' → Q .ret s') → ∀ (T : Nat → AV) (σ : Sto), T 0 = .sl false (rws cI a0) ∧ T 5 = .sl false (rws cI a0) ∧ T 6 = .int .i64 (a0.length : Int) ∧ T 7 = .int .i64 z0t_7 → Fx τ σ [] [] → aLp Try.prog c Q ⟨T, σ⟩ := by
  intro a0 z0t_7
  revert z0t_7
  refine impl_scopesOk_l0.partial_correctness a0 _ ?_
  intro impl_scopesOk_l0 IH z0t_7 out H c hc Q τ  hE hR T σ tT hF
  obtain rfl := Option.some.inj ((rfl : loopAt Try.f58 0 = some _).symm.trans hc)
  refine aLoop_round ?_
  have q := dum
  have hX := Tau.none τ
  refine go ?_
  refine cdp H (fun h H => ?_) (fun h H => ?_)
  · obtain ⟨x10, f1, H⟩ := bil (g := cI) (fun _ => rfl) H
    refine go1 ?_
    refine go ?_
    obtain ⟨x13, hx13, H⟩ := bnd H
    refine cl (impl_within_ok x10 1 99 _ hx13) ?_
    refine go ?_
    obtain ⟨x27, g1, H⟩ := bnd H
    refine aGd_cutN 11 16 27 (.bool x27) (giN q (fun q => ?_) (fun q => ?_)) (fun J => ?_)
    · rw [if_neg (dbf q)] at g1
      refine go ?_
      obtain ⟨x26, g3, g1⟩ := bnd g1
      refine aGd_cutN 7 19 26 (.bool x26) (gi q (fun q => ?_) (fun q => ?_)) (fun J => ?_)
      · rw [if_pos (dt q)] at g3
        obtain ⟨x22, f1, g3⟩ := bil (g := cI) (fun _ => rfl) g3
        refine go1 ?_
        refine go ?_
        exact cutd 19 g3
      · rw [if_neg (df q)] at g3
        refine go ?_
        exact cutd 19 g3
      refine go ?_
      exact cutd 16 g1
    · rw [if_pos (dbt q)] at g1
      refine go ?_
      exact cutd 16 g1
    refine go ?_
    refine cdb H (fun h H => ?_) (fun h H => ?_)
    · refine go ?_
      exact wq (hR _ (pur H).symm _ (rt [.bool false]))
    · refine go ?_
      exact IH  (IntKind.i64.wrap (z0t_7 + 1)) _ H _ rfl Q τ  hE hR _ _  S hF
  · refine go ?_
    exact wq (hE () (pur H).symm _ _  S hF)
theorem impl_scopesOk_ok : ∀ (a0 : List Int) r, impl_scopesOk a0 = some r → PCtr Try.prog 58 [.sl false (rws cI a0)] (.bool r) := by
  intro a0 r H
  intro σ
  unfold impl_scopesOk at H
  refine hdg mixed Try.func58 (rs := [.tmp 2]) fun q tT => ?_
  have hF := Fx.refl σ
  have hX := Tau.none σ
  refine go ?_
  obtain ⟨o5, ho5, H⟩ := bnd H
  refine impl_scopesOk_l0_ok a0 0 _ ho5 _ rfl _ _  ?_ ?_ _ _  S hF
  · intro _ he T7 σ8 tT hF
    have he := he.symm
    subst he
    try dsimp only at H
    refine go ?_
    have e := pur H; subst e
    exact rt [.bool (decide ((a0.length : Int) ≤ 24))]
  · intro r hr s' hs
    subst hr
    have e := pur H; subst e
    exact hsq hs
theorem impl_formOk_ok : ∀ (a0 : Fm) (a1 : Int) (c0 : Int) r, impl_formOk a0 a1 c0 = some r → ∀ (e0 : Nat)  (σ : Sto), Pre σ [(e0, ⟨3, 1, [.int .i64 c0]⟩)] [] → Ctr Try.prog 46 [.agg (Fm.cells a0), .int .i64 a1, .ptr e0 0] σ (fun r' σ' => ∃ (τ' : Sto), r' = .bool r.1 ∧ Tau (strip σ []) [(e0, ⟨3, 1, [.int .i64 r.2]⟩)] τ' ∧ Fx τ' σ' [] []) := by
  refine impl_formOk.partial_correctness  (motive_1 := fun a0 a1 c0 r => ∀ (e0 : Nat)  (σ : Sto), Pre σ [(e0, ⟨3, 1, [.int .i64 c0]⟩)] [] → Ctr Try.prog 46 [.agg (Fm.cells a0), .int .i64 a1, .ptr e0 0] σ (fun r' σ' => ∃ (τ' : Sto), r' = .bool r.1 ∧ Tau (strip σ []) [(e0, ⟨3, 1, [.int .i64 r.2]⟩)] τ' ∧ Fx τ' σ' [] [])) (motive_2 := fun a0 a1 z0t_86 z0x_0_0 out => ∀ c, loopAt Try.f46 0 = some c → ∀ (Q : AX → AS → Prop) (τ0 : Sto) (e0 : Nat) (b1 : Nat), (∀ (e0x_0_0 : Int), out = Sum.inr e0x_0_0 → ∀ (T : Nat → AV) (σ : Sto) (τ : Sto), 0 + 0 = 0 → Tau τ0 [(e0, ⟨3, 1, [.int .i64 e0x_0_0]⟩)] τ → Fx τ σ [(b1, ⟨29, 5, [.int .i64 a0.kind, .str a0.name, .int .i64 a0.num, .sl false (rws cI a0.sc), .sl false (rws Fm.cells a0.kids)]⟩)] [] → Q (.ex 1) ⟨T, σ⟩) → (∀ r, out = Sum.inl r → ∀ s', aRet Try.prog [.tmp 6] (fun r' σ' => ∃ (τ' : Sto), r' = .bool r.1 ∧ Tau τ0 [(e0, ⟨3, 1, [.int .i64 r.2]⟩)] τ' ∧ Fx τ' σ' [] []) s' → Q .ret s') → ∀ (T : Nat → AV) (σ : Sto) (τ : Sto), T 1 = .int .i64 a1 ∧ T 2 = .ptr e0 0 ∧ T 84 = .sl false (rws Fm.cells a0.kids) ∧ T 85 = .int .i64 (a0.kids.length : Int) ∧ T 86 = .int .i64 z0t_86 → Tau τ0 [(e0, ⟨3, 1, [.int .i64 z0x_0_0]⟩)] τ → Fx τ σ [(b1, ⟨29, 5, [.int .i64 a0.kind, .str a0.name, .int .i64 a0.num, .sl false (rws cI a0.sc), .sl false (rws Fm.cells a0.kids)]⟩)] [] → aLp Try.prog c Q ⟨T, σ⟩) ?_ ?_
  · intro impl_formOk_l0 L0 a0 a1 c0 r H
    intro e0  σ hP
    refine hdg mixed Try.func46 (rs := [.tmp 6]) fun q tT => ?_
    obtain ⟨hF, hX⟩ := hP.start
    generalize strip σ [] = τ0 at hF hX ⊢
    refine go ?_
    refine fx_alloc hF rfl fun b1 σ2 hF => ?_
    refine go ?_
    refine stT hF hX 0 rfl fun τ4 σ3 hF hX => ?_
    refine go ?_
    obtain ⟨x21, g5, H⟩ := bnd H
    refine aGd_cutN 2 19 21 (.bool x21) (giN q (fun q => ?_) (fun q => ?_)) (fun J => ?_)
    · refine go ?_
      exact cutd 19 g5
    · refine go ?_
      exact cutd 19 g5
    refine go ?_
    refine cdb H (fun h H => ?_) (fun h H => ?_)
    · refine go ?_
      have e := pur H; subst e
      exact rg [.bool false] ⟨_, rfl, hX, Fx.self _⟩
    · refine go ?_
      refine cdp H (fun h H => ?_) (fun h H => ?_)
      · refine go ?_
        obtain ⟨x28, hx28, H⟩ := bnd H
        refine cl (impl_NameValid_ok a0.name _ hx28) ?_
        refine go ?_
        obtain ⟨x33, g7, H⟩ := bnd H
        refine aGd_cutN 3 30 33 (.bool x33) (gi q (fun q => ?_) (fun q => ?_)) (fun J => ?_)
        · refine go ?_
          exact cutd 30 g7
        · refine go ?_
          exact cutd 30 g7
        refine go ?_
        obtain ⟨x38, g9, H⟩ := bnd H
        refine aGd_cutN 3 35 38 (.bool x38) (gi q (fun q => ?_) (fun q => ?_)) (fun J => ?_)
        · rw [if_pos (dbt q)] at g9
          refine go ?_
          obtain ⟨x37, hx37, g9⟩ := bnd g9
          refine cl (impl_scopesOk_ok a0.sc _ hx37) ?_
          refine go ?_
          exact cutd 35 g9
        · rw [if_neg (dbf q)] at g9
          refine go ?_
          exact cutd 35 g9
        refine go ?_
        obtain ⟨x44, g11, H⟩ := bnd H
        refine aGd_cutN 4 40 44 (.bool x44) (gi q (fun q => ?_) (fun q => ?_)) (fun J => ?_)
        · refine go ?_
          exact cutd 40 g11
        · refine go ?_
          exact cutd 40 g11
        refine go ?_
        have e := pur H; subst e
        exact rg [.bool x44] ⟨_, rfl, hX, Fx.self _⟩
      · refine go ?_
        refine cdp H (fun h H => ?_) (fun h H => ?_)
        · refine go ?_
          obtain ⟨x54, g13, H⟩ := bnd H
          refine aGd_cutN 3 51 54 (.bool x54) (gi q (fun q => ?_) (fun q => ?_)) (fun J => ?_)
          · rw [if_pos (dt q)] at g13
            refine go ?_
            obtain ⟨x53, hx53, g13⟩ := bnd g13
            refine cl (impl_within_ok a0.num 0 999 _ hx53) ?_
            refine go ?_
            exact cutd 51 g13
          · rw [if_neg (df q)] at g13
            refine go ?_
            exact cutd 51 g13
          refine go ?_
          obtain ⟨x60, g15, H⟩ := bnd H
          refine aGd_cutN 4 56 60 (.bool x60) (gi q (fun q => ?_) (fun q => ?_)) (fun J => ?_)
          · refine go ?_
            exact cutd 56 g15
          · refine go ?_
            exact cutd 56 g15
          refine go ?_
          obtain ⟨x66, g17, H⟩ := bnd H
          refine aGd_cutN 4 62 66 (.bool x66) (gi q (fun q => ?_) (fun q => ?_)) (fun J => ?_)
          · refine go ?_
            exact cutd 62 g17
          · refine go ?_
            exact cutd 62 g17
          refine go ?_
          have e := pur H; subst e
          exact rg [.bool x66] ⟨_, rfl, hX, Fx.self _⟩
        · refine go ?_
          refine cdp H (fun h H => ?_) (fun h H => ?_)
          · refine go ?_
            obtain ⟨x76, g19, H⟩ := bnd H
            refine aGd_cutN 3 73 76 (.bool x76) (giN q (fun q => ?_) (fun q => ?_)) (fun J => ?_)
            · refine go ?_
              exact cutd 73 g19
            · refine go ?_
              exact cutd 73 g19
            refine go ?_
            obtain ⟨x82, g21, H⟩ := bnd H
            refine aGd_cutN 4 78 82 (.bool x82) (giN q (fun q => ?_) (fun q => ?_)) (fun J => ?_)
            · refine go ?_
              exact cutd 78 g21
            · refine go ?_
              exact cutd 78 g21
            refine go ?_
            refine cdb H (fun h H => ?_) (fun h H => ?_)
            · refine go ?_
              have e := pur H; subst e
              exact rg [.bool false] ⟨_, rfl, hX, Fx.self _⟩
            · refine go ?_
              obtain ⟨o29, ho29, H⟩ := bnd H
              refine L0 a0 a1 0 (IntKind.i64.wrap (c0 - 1)) _ ho29 _ rfl _ τ0 e0 b1 ?_ ?_ _ _ _  S hX hF
              · intro e30x_0_0 he T31 σ32 τ33 tT hX hF
                have he := he.symm
                subst he
                try dsimp only at H
                refine go ?_
                have e := pur H; subst e
                exact rg [.bool true] ⟨_, rfl, hX, Fx.self _⟩
              · intro r hr s' hs
                subst hr
                have e := pur H; subst e
                exact hsq hs
          · refine go ?_
            have e := pur H; subst e
            exact rg [.bool false] ⟨_, rfl, hX, Fx.self _⟩
  · intro impl_formOk impl_formOk_l0 C0 L0 a0 a1 z0t_86 z0x_0_0 out H c hc Q τ0 e0 b1 hE hR T σ τ tT hX hF
    obtain rfl := Option.some.inj ((rfl : loopAt Try.f46 0 = some _).symm.trans hc)
    refine aLoop_round ?_
    have q := dum
    refine go ?_
    refine cdp H (fun h H => ?_) (fun h H => ?_)
    · obtain ⟨x88, f1, H⟩ := bil (g := Fm.cells) Fm.cells_len H
      refine go1 ?_
      refine fx_alloc hF rfl fun b23 σ24 hF => ?_
      refine go ?_
      refine st hF 0 rfl fun σ25 hF => ?_
      refine go ?_
      obtain ⟨x94, hx94, H⟩ := bnd H
      refine cx (C0 x88 (IntKind.i64.wrap (a1 + 1)) z0x_0_0 _ hx94 e0  _ (pre 0 1 0 hF hX)) ?_
      rintro _ σ26 ⟨τ27, rfl, hT, hG⟩
      obtain ⟨τ28, hX, hF⟩ := aft 0 1 0 hF hX hT hG
      refine go ?_
      refine cdb H (fun h H => ?_) (fun h H => ?_)
      · refine go ?_
        exact wq (hR _ (pur H).symm _ (rg [.bool false] ⟨_, rfl, hX, Fx.self _⟩))
      · refine go ?_
        exact L0 a0 a1 (IntKind.i64.wrap (z0t_86 + 1)) x94.2 _ H _ rfl Q τ0 e0 b1 hE hR _ _ _  S hX (hF.drop 1 0)
    · refine go ?_
      exact wq (hE _ (pur H).symm _ _ _  S hX hF)
theorem impl_FormValid_ok : ∀ (a0 : Fm) r, impl_FormValid a0 = some r → PCtr Try.prog 28 [.agg (Fm.cells a0)] (.bool r) := by
  intro a0 r H
  intro σ
  unfold impl_FormValid at H
  refine hdg mixed Try.func28 (rs := [.tmp 2]) fun q tT => ?_
  have hF := Fx.refl σ
  have hX := Tau.none σ
  refine go ?_
  refine fx_alloc hF rfl fun b1 σ2 hF => ?_
  refine go ?_
  refine fx_alloc hF rfl fun b3 σ4 hF => ?_
  refine go ?_
  refine st hF 0 rfl fun σ5 hF => ?_
  refine go ?_
  obtain ⟨x5, hx5, H⟩ := bnd H
  refine cx (impl_formOk_ok a0 1 400 _ hx5 b3  _ (pre 1 0 0 hF hX)) ?_
  rintro _ σ6 ⟨τ7, rfl, hT, hG⟩
  have hF := aftP 1 0 hF hX hT hG
  refine go ?_
  have e := pur H; subst e
  exact rt [.bool x5.1]
theorem slices_Index_int_int_l0_ok : ∀ (a0 : List Int) (a1 : Int) (z0t_8 : Int) out, slices_Index_int_int_l0 a0 a1 z0t_8 = some out → ∀ c, loopAt Try.f53 0 = some c → ∀ (Q : AX → AS → Prop) (τ : Sto), (∀ (_u : Unit), out = Sum.inr () → ∀ (T : Nat → AV) (σ : Sto), 0 + 0 = 0 → Fx τ σ [] [] → Q (.ex 0) ⟨T, σ⟩) → (∀ r, out = Sum.inl r → ∀ s', aRet Try.prog [.tmp 4] (fun r' σ' => r' = .int .i64 r ∧ σ' = τ) s' → Q .ret s') → ∀ (T : Nat → AV) (σ : Sto), T 0 = .sl false (rws cI a0) ∧ T 1 = .int .i64 a1 ∧ T 7 = .int .i64 (a0.length : Int) ∧ T 8 = .int .i64 z0t_8 → Fx τ σ [] [] → aLp Try.prog c Q ⟨T, σ⟩ := by
  intro a0 a1 z0t_8
  revert z0t_8
  refine slices_Index_int_int_l0.partial_correctness a0 a1 _ ?_
  intro slices_Index_int_int_l0 IH z0t_8 out H c hc Q τ  hE hR T σ tT hF
  obtain rfl := Option.some.inj ((rfl : loopAt Try.f53 0 = some _).symm.trans hc)
  refine aLoop_round ?_
  have q := dum
  have hX := Tau.none τ
  refine go ?_
  refine cdp H (fun h H => ?_) (fun h H => ?_)
  · obtain ⟨x14, f1, H⟩ := bil (g := cI) (fun _ => rfl) H
    refine go1 ?_
    refine go ?_
    refine cdp H (fun h H => ?_) (fun h H => ?_)
    · refine go ?_
      exact wq (hR _ (pur H).symm _ (rt [.int .i64 z0t_8]))
    · refine go ?_
      exact IH  (IntKind.i64.wrap (z0t_8 + 1)) _ H _ rfl Q τ  hE hR _ _  S hF
  · refine go ?_
    exact wq (hE () (pur H).symm _ _  S hF)
theorem slices_Index_int_int_ok : ∀ (a0 : List Int) (a1 : Int) r, slices_Index_int_int a0 a1 = some r → PCtr Try.prog 53 [.sl false (rws cI a0), .int .i64 a1] (.int .i64 r) := by
  intro a0 a1 r H
  intro σ
  unfold slices_Index_int_int at H
  refine hdg mixed Try.func53 (rs := [.tmp 4]) fun q tT => ?_
  have hF := Fx.refl σ
  have hX := Tau.none σ
  refine go ?_
  obtain ⟨o1, ho1, H⟩ := bnd H
  refine slices_Index_int_int_l0_ok a0 a1 0 _ ho1 _ rfl _ _  ?_ ?_ _ _  S hF
  · intro _ he T3 σ4 tT hF
    have he := he.symm
    subst he
    try dsimp only at H
    refine go ?_
    have e := pur H; subst e
    exact rt [.int .i64 (-1)]
  · intro r hr s' hs
    subst hr
    have e := pur H; subst e
    exact hsq hs
theorem slices_Contains_int_int_ok : ∀ (a0 : List Int) (a1 : Int) r, slices_Contains_int_int a0 a1 = some r → PCtr Try.prog 39 [.sl false (rws cI a0), .int .i64 a1] (.bool r) := by
  intro a0 a1 r H
  intro σ
  unfold slices_Contains_int_int at H
  refine hdg mixed Try.func39 (rs := [.tmp 4]) fun q tT => ?_
  have hF := Fx.refl σ
  have hX := Tau.none σ
  refine go ?_
  obtain ⟨x7, hx7, H⟩ := bnd H
  refine cl (slices_Index_int_int_ok a0 a1 _ hx7) ?_
  refine go ?_
  have e := pur H; subst e
  exact rt [.bool (decide (x7 ≥ 0))]
theorem slices_Equal_int_int_l0_ok : ∀ (a0 : List Int) (a1 : List Int) (z0t_13 : Int) out, slices_Equal_int_int_l0 a0 a1 z0t_13 = some out → ∀ c, loopAt Try.f62 0 = some c → ∀ (Q : AX → AS → Prop) (τ : Sto), (∀ (_u : Unit), out = Sum.inr () → ∀ (T : Nat → AV) (σ : Sto), 0 + 0 = 0 → Fx τ σ [] [] → Q (.ex 0) ⟨T, σ⟩) → (∀ r, out = Sum.inl r → ∀ s', aRet Try.prog [.tmp 4] (fun r' σ' => r' = .bool r ∧ σ' = τ) s' → Q .ret s') → ∀ (T : Nat → AV) (σ : Sto), T 0 = .sl false (rws cI a0) ∧ T 1 = .sl false (rws cI a1) ∧ T 12 = .int .i64 (a0.length : Int) ∧ T 13 = .int .i64 z0t_13 → Fx τ σ [] [] → aLp Try.prog c Q ⟨T, σ⟩ := by
  intro a0 a1 z0t_13
  revert z0t_13
  refine slices_Equal_int_int_l0.partial_correctness a0 a1 _ ?_
  intro slices_Equal_int_int_l0 IH z0t_13 out H c hc Q τ  hE hR T σ tT hF
  obtain rfl := Option.some.inj ((rfl : loopAt Try.f62 0 = some _).symm.trans hc)
  refine aLoop_round ?_
  have q := dum
  have hX := Tau.none τ
  refine go ?_
  refine cdp H (fun h H => ?_) (fun h H => ?_)
  · refine go ?_
    refine draw_text E0 [.v, .v, .v, .v, .v, .v, .v, .v, .v] (by kernel_rfl) ?_
    obtain ⟨x18, f1, H⟩ := bil (g := cI) (fun _ => rfl) H
    obtain ⟨x22, f2, H⟩ := bil (g := cI) (fun _ => rfl) H
    refine go2 ?_
    refine go ?_
    refine cdn H (fun h H => ?_) (fun h H => ?_)
    · refine go ?_
      exact wq (hR _ (pur H).symm _ (rt [.bool false]))
    · refine go ?_
      exact IH  (IntKind.i64.wrap (z0t_13 + 1)) _ H _ rfl Q τ  hE hR _ _  S hF
  · refine go ?_
    exact wq (hE () (pur H).symm _ _  S hF)
theorem slices_Equal_int_int_ok : ∀ (a0 : List Int) (a1 : List Int) r, slices_Equal_int_int a0 a1 = some r → PCtr Try.prog 62 [.sl false (rws cI a0), .sl false (rws cI a1)] (.bool r) := by
  intro a0 a1 r H
  intro σ
  unfold slices_Equal_int_int at H
  refine hdg mixed Try.func62 (rs := [.tmp 4]) fun q tT => ?_
  have hF := Fx.refl σ
  have hX := Tau.none σ
  refine go ?_
  refine cdn H (fun h H => ?_) (fun h H => ?_)
  · refine go ?_
    have e := pur H; subst e
    exact rt [.bool false]
  · refine go ?_
    obtain ⟨o1, ho1, H⟩ := bnd H
    refine slices_Equal_int_int_l0_ok a0 a1 0 _ ho1 _ rfl _ _  ?_ ?_ _ _  S hF
    · intro _ he T3 σ4 tT hF
      have he := he.symm
      subst he
      try dsimp only at H
      refine go ?_
      have e := pur H; subst e
      exact rt [.bool true]
    · intro r hr s' hs
      subst hr
      have e := pur H; subst e
      exact hsq hs
theorem impl_FormSame_all : (∀ (a0 : Fm) (a1 : Fm) r, impl_FormSame a0 a1 = some r → PCtr Try.prog 56 [.agg (Fm.cells a0), .agg (Fm.cells a1)] (.bool r)) ∧ (∀ (a0 : List Fm) (a1 : List Fm) r, slices_EqualFunc_Form_Form_Form_Form__impl_FormSame a0 a1 = some r → PCtr Try.prog 63 [.sl false (rws Fm.cells a0), .sl false (rws Fm.cells a1), .fn 56 []] (.bool r)) := by
  have h := impl_FormSame.mutual_partial_correctness  (motive_1 := fun a0 a1 r => PCtr Try.prog 56 [.agg (Fm.cells a0), .agg (Fm.cells a1)] (.bool r)) (motive_2 := fun a0 a1 r => PCtr Try.prog 63 [.sl false (rws Fm.cells a0), .sl false (rws Fm.cells a1), .fn 56 []] (.bool r)) (motive_3 := fun a0 a1 z0t_17 out => ∀ c, loopAt Try.f63 0 = some c → ∀ (Q : AX → AS → Prop) (τ : Sto), (∀ (_u : Unit), out = Sum.inr () → ∀ (T : Nat → AV) (σ : Sto), 0 + 0 = 0 → Fx τ σ [] [] → Q (.ex 0) ⟨T, σ⟩) → (∀ r, out = Sum.inl r → ∀ s', aRet Try.prog [.tmp 6] (fun r' σ' => r' = .bool r ∧ σ' = τ) s' → Q .ret s') → ∀ (T : Nat → AV) (σ : Sto), T 1 = .sl false (rws Fm.cells a1) ∧ T 2 = .fn 56 [] ∧ T 15 = .sl false (rws Fm.cells a0) ∧ T 16 = .int .i64 (a0.length : Int) ∧ T 17 = .int .i64 z0t_17 → Fx τ σ [] [] → aLp Try.prog c Q ⟨T, σ⟩) ?s0 ?s1 ?s2
  · exact ⟨h.1, h.2.1⟩
  · intro slices_EqualFunc_Form_Form_Form_Form__impl_FormSame C1 a0 a1 r H
    intro σ
    refine hdg mixed Try.func56 (rs := [.tmp 4]) fun q tT => ?_
    have hF := Fx.refl σ
    have hX := Tau.none σ
    refine go ?_
    refine fx_alloc hF rfl fun b1 σ2 hF => ?_
    refine go ?_
    refine fx_alloc hF rfl fun b3 σ4 hF => ?_
    refine go ?_
    obtain ⟨x16, g5, H⟩ := bnd H
    refine aGd_cutN 5 11 16 (.bool x16) (gi q (fun q => ?_) (fun q => ?_)) (fun J => ?_)
    · refine go ?_
      exact cutd 11 g5
    · refine go ?_
      exact cutd 11 g5
    refine go ?_
    obtain ⟨x23, g7, H⟩ := bnd H
    refine aGd_cutN 5 18 23 (.bool x23) (gi q (fun q => ?_) (fun q => ?_)) (fun J => ?_)
    · refine go ?_
      exact cutd 18 g7
    · refine go ?_
      exact cutd 18 g7
    refine go ?_
    obtain ⟨x30, g9, H⟩ := bnd H
    refine aGd_cutN 5 25 30 (.bool x30) (gi q (fun q => ?_) (fun q => ?_)) (fun J => ?_)
    · rw [if_pos (dbt q)] at g9
      refine go ?_
      obtain ⟨x29, hx29, g9⟩ := bnd g9
      refine cl (slices_Equal_int_int_ok a0.sc a1.sc _ hx29) ?_
      refine go ?_
      exact cutd 25 g9
    · rw [if_neg (dbf q)] at g9
      refine go ?_
      exact cutd 25 g9
    refine go ?_
    obtain ⟨x37, g11, H⟩ := bnd H
    refine aGd_cutN 5 32 37 (.bool x37) (gi q (fun q => ?_) (fun q => ?_)) (fun J => ?_)
    · rw [if_pos (dbt q)] at g11
      refine go ?_
      obtain ⟨x36, hx36, g11⟩ := bnd g11
      refine cl (C1 a0.kids a1.kids _ hx36) ?_
      refine go ?_
      exact cutd 32 g11
    · rw [if_neg (dbf q)] at g11
      refine go ?_
      exact cutd 32 g11
    refine go ?_
    have e := pur H; subst e
    exact rt [.bool x37]
  · intro slices_EqualFunc_Form_Form_Form_Form__impl_FormSame_l0 L0 a0 a1 r H
    intro σ
    refine hdg mixed Try.func63 (rs := [.tmp 6]) fun q tT => ?_
    have hF := Fx.refl σ
    have hX := Tau.none σ
    refine go ?_
    refine cdn H (fun h H => ?_) (fun h H => ?_)
    · refine go ?_
      have e := pur H; subst e
      exact rt [.bool false]
    · refine go ?_
      obtain ⟨o7, ho7, H⟩ := bnd H
      refine L0 a0 a1 0 _ ho7 _ rfl _ _  ?_ ?_ _ _  S hF
      · intro _ he T9 σ10 tT hF
        have he := he.symm
        subst he
        try dsimp only at H
        refine go ?_
        have e := pur H; subst e
        exact rt [.bool true]
      · intro r hr s' hs
        subst hr
        have e := pur H; subst e
        exact hsq hs
  · intro impl_FormSame slices_EqualFunc_Form_Form_Form_Form__impl_FormSame_l0 C0 L0 a0 a1 z0t_17 out H c hc Q τ  hE hR T σ tT hF
    obtain rfl := Option.some.inj ((rfl : loopAt Try.f63 0 = some _).symm.trans hc)
    refine aLoop_round ?_
    have q := dum
    have hX := Tau.none τ
    refine go ?_
    refine cdp H (fun h H => ?_) (fun h H => ?_)
    · obtain ⟨x20, f1, H⟩ := bil (g := Fm.cells) Fm.cells_len H
      refine go1 ?_
      refine fx_alloc hF rfl fun b1 σ2 hF => ?_
      refine go ?_
      refine st hF 0 rfl fun σ3 hF => ?_
      obtain ⟨x24, f1, H⟩ := bil (g := Fm.cells) Fm.cells_len H
      refine go1 ?_
      refine fx_alloc hF rfl fun b4 σ5 hF => ?_
      refine go ?_
      refine st hF 0 rfl fun σ6 hF => ?_
      refine go ?_
      obtain ⟨x29, hx29, H⟩ := bnd H
      refine cl (C0 x20 x24 _ hx29) ?_
      refine go ?_
      refine cdb H (fun h H => ?_) (fun h H => ?_)
      · refine go ?_
        exact wq (hR _ (pur H).symm _ (rt [.bool false]))
      · refine go ?_
        exact L0 a0 a1 (IntKind.i64.wrap (z0t_17 + 1)) _ H _ rfl Q τ  hE hR _ _  S (hF.drop 2 0)
    · refine go ?_
      exact wq (hE () (pur H).symm _ _  S hF)
theorem impl_FormSame_ok : ∀ (a0 : Fm) (a1 : Fm) r, impl_FormSame a0 a1 = some r → PCtr Try.prog 56 [.agg (Fm.cells a0), .agg (Fm.cells a1)] (.bool r) := impl_FormSame_all.1
theorem impl_isIn_c1_ok : ∀ (a0 : Fm) (c0 : Fm) r, impl_isIn_c1 a0 c0 = some r → ∀ (e0 : Nat)  (σ : Sto), Pre σ [(e0, ⟨29, 5, [.int .i64 c0.kind, .str c0.name, .int .i64 c0.num, .sl false (rws cI c0.sc), .sl false (rws Fm.cells c0.kids)]⟩)] [] → Ctr Try.prog 55 [.agg (Fm.cells a0), .ptr e0 0] σ (fun r' σ' => ∃ (τ' : Sto), r' = .bool r ∧ Tau (strip σ []) [(e0, ⟨29, 5, [.int .i64 c0.kind, .str c0.name, .int .i64 c0.num, .sl false (rws cI c0.sc), .sl false (rws Fm.cells c0.kids)]⟩)] τ' ∧ Fx τ' σ' [] []) := by
  intro a0 c0 r H
  intro e0  σ hP
  unfold impl_isIn_c1 at H
  refine hdg mixed Try.func55 (rs := [.tmp 3]) fun q tT => ?_
  obtain ⟨hF, hX⟩ := hP.start
  generalize strip σ [] = τ0 at hF hX ⊢
  refine go ?_
  refine fx_alloc hF rfl fun b1 σ2 hF => ?_
  refine go ?_
  obtain ⟨x6, hx6, H⟩ := bnd H
  refine cl (impl_FormSame_ok a0 c0 _ hx6) ?_
  refine go ?_
  have e := pur H; subst e
  exact rg [.bool x6] ⟨_, rfl, hX, Fx.self _⟩
theorem slices_IndexFunc_Form_Form__impl_isIn_c1_l0_ok : ∀ (a0 : List Fm) (c0 : Fm) (z0t_8 : Int) out, slices_IndexFunc_Form_Form__impl_isIn_c1_l0 a0 c0 z0t_8 = some out → ∀ c, loopAt Try.f61 0 = some c → ∀ (Q : AX → AS → Prop) (τ0 : Sto) (e0 : Nat), (∀ (_u : Unit), out = Sum.inr () → ∀ (T : Nat → AV) (σ : Sto) (τ : Sto), 0 + 0 = 0 → Tau τ0 [(e0, ⟨29, 5, [.int .i64 c0.kind, .str c0.name, .int .i64 c0.num, .sl false (rws cI c0.sc), .sl false (rws Fm.cells c0.kids)]⟩)] τ → Fx τ σ [] [] → Q (.ex 0) ⟨T, σ⟩) → (∀ r, out = Sum.inl r → ∀ s', aRet Try.prog [.tmp 4] (fun r' σ' => ∃ (τ' : Sto), r' = .int .i64 r ∧ Tau τ0 [(e0, ⟨29, 5, [.int .i64 c0.kind, .str c0.name, .int .i64 c0.num, .sl false (rws cI c0.sc), .sl false (rws Fm.cells c0.kids)]⟩)] τ' ∧ Fx τ' σ' [] []) s' → Q .ret s') → ∀ (T : Nat → AV) (σ : Sto) (τ : Sto), T 0 = .sl false (rws Fm.cells a0) ∧ T 1 = .fn 55 [.ptr e0 0] ∧ T 7 = .int .i64 (a0.length : Int) ∧ T 8 = .int .i64 z0t_8 → Tau τ0 [(e0, ⟨29, 5, [.int .i64 c0.kind, .str c0.name, .int .i64 c0.num, .sl false (rws cI c0.sc), .sl false (rws Fm.cells c0.kids)]⟩)] τ → Fx τ σ [] [] → aLp Try.prog c Q ⟨T, σ⟩ := by
  intro a0 c0 z0t_8
  revert z0t_8
  refine slices_IndexFunc_Form_Form__impl_isIn_c1_l0.partial_correctness a0 c0 _ ?_
  intro slices_IndexFunc_Form_Form__impl_isIn_c1_l0 IH z0t_8 out H c hc Q τ0 e0 hE hR T σ τ tT hX hF
  obtain rfl := Option.some.inj ((rfl : loopAt Try.f61 0 = some _).symm.trans hc)
  refine aLoop_round ?_
  have q := dum
  refine go ?_
  refine cdp H (fun h H => ?_) (fun h H => ?_)
  · obtain ⟨x14, f1, H⟩ := bil (g := Fm.cells) Fm.cells_len H
    refine go1 ?_
    obtain ⟨x16, hx16, H⟩ := bnd H
    refine cx (impl_isIn_c1_ok x14 c0 _ hx16 e0  _ (pre 0 1 0 hF hX)) ?_
    rintro _ σ1 ⟨τ2, rfl, hT, hG⟩
    obtain ⟨τ3, hX, hF⟩ := aft 0 1 0 hF hX hT hG
    refine go ?_
    refine cdb H (fun h H => ?_) (fun h H => ?_)
    · refine go ?_
      exact wq (hR _ (pur H).symm _ (rg [.int .i64 z0t_8] ⟨_, rfl, hX, Fx.self _⟩))
    · refine go ?_
      exact IH  (IntKind.i64.wrap (z0t_8 + 1)) _ H _ rfl Q τ0 e0 hE hR _ _ _  S hX hF
  · refine go ?_
    exact wq (hE () (pur H).symm _ _ _  S hX hF)
theorem slices_IndexFunc_Form_Form__impl_isIn_c1_ok : ∀ (a0 : List Fm) (c0 : Fm) r, slices_IndexFunc_Form_Form__impl_isIn_c1 a0 c0 = some r → ∀ (e0 : Nat)  (σ : Sto), Pre σ [(e0, ⟨29, 5, [.int .i64 c0.kind, .str c0.name, .int .i64 c0.num, .sl false (rws cI c0.sc), .sl false (rws Fm.cells c0.kids)]⟩)] [] → Ctr Try.prog 61 [.sl false (rws Fm.cells a0), .fn 55 [.ptr e0 0]] σ (fun r' σ' => ∃ (τ' : Sto), r' = .int .i64 r ∧ Tau (strip σ []) [(e0, ⟨29, 5, [.int .i64 c0.kind, .str c0.name, .int .i64 c0.num, .sl false (rws cI c0.sc), .sl false (rws Fm.cells c0.kids)]⟩)] τ' ∧ Fx τ' σ' [] []) := by
  intro a0 c0 r H
  intro e0  σ hP
  unfold slices_IndexFunc_Form_Form__impl_isIn_c1 at H
  refine hdg mixed Try.func61 (rs := [.tmp 4]) fun q tT => ?_
  obtain ⟨hF, hX⟩ := hP.start
  generalize strip σ [] = τ0 at hF hX ⊢
  refine go ?_
  obtain ⟨o4, ho4, H⟩ := bnd H
  refine slices_IndexFunc_Form_Form__impl_isIn_c1_l0_ok a0 c0 0 _ ho4 _ rfl _ τ0 e0 ?_ ?_ _ _ _  S hX hF
  · intro _ he T6 σ7 τ8 tT hX hF
    have he := he.symm
    subst he
    try dsimp only at H
    refine go ?_
    have e := pur H; subst e
    exact rg [.int .i64 (-1)] ⟨_, rfl, hX, Fx.self _⟩
  · intro r hr s' hs
    subst hr
    have e := pur H; subst e
    exact hsq hs
theorem slices_ContainsFunc_Form_Form__impl_isIn_c1_ok : ∀ (a0 : List Fm) (c0 : Fm) r, slices_ContainsFunc_Form_Form__impl_isIn_c1 a0 c0 = some r → ∀ (e0 : Nat)  (σ : Sto), Pre σ [(e0, ⟨29, 5, [.int .i64 c0.kind, .str c0.name, .int .i64 c0.num, .sl false (rws cI c0.sc), .sl false (rws Fm.cells c0.kids)]⟩)] [] → Ctr Try.prog 54 [.sl false (rws Fm.cells a0), .fn 55 [.ptr e0 0]] σ (fun r' σ' => ∃ (τ' : Sto), r' = .bool r ∧ Tau (strip σ []) [(e0, ⟨29, 5, [.int .i64 c0.kind, .str c0.name, .int .i64 c0.num, .sl false (rws cI c0.sc), .sl false (rws Fm.cells c0.kids)]⟩)] τ' ∧ Fx τ' σ' [] []) := by
  intro a0 c0 r H
  intro e0  σ hP
  unfold slices_ContainsFunc_Form_Form__impl_isIn_c1 at H
  refine hdg mixed Try.func54 (rs := [.tmp 4]) fun q tT => ?_
  obtain ⟨hF, hX⟩ := hP.start
  generalize strip σ [] = τ0 at hF hX ⊢
  refine go ?_
  obtain ⟨x7, hx7, H⟩ := bnd H
  refine cx (slices_IndexFunc_Form_Form__impl_isIn_c1_ok a0 c0 _ hx7 e0  _ (pre 0 1 0 hF hX)) ?_
  rintro _ σ1 ⟨τ2, rfl, hT, hG⟩
  obtain ⟨τ3, hX, hF⟩ := aft 0 1 0 hF hX hT hG
  refine go ?_
  have e := pur H; subst e
  exact rg [.bool (decide (x7 ≥ 0))] ⟨_, rfl, hX, Fx.self _⟩
theorem impl_isIn_ok : ∀ (a0 : List Fm) (a1 : Fm) r, impl_isIn a0 a1 = some r → PCtr Try.prog 40 [.sl false (rws Fm.cells a0), .agg (Fm.cells a1)] (.bool r) := by
  intro a0 a1 r H
  intro σ
  unfold impl_isIn at H
  refine hdg mixed Try.func40 (rs := [.tmp 4]) fun q tT => ?_
  have hF := Fx.refl σ
  have hX := Tau.none σ
  refine go ?_
  refine fx_alloc hF rfl fun b1 σ2 hF => ?_
  refine go ?_
  obtain ⟨x7, hx7, H⟩ := bnd H
  refine cx (slices_ContainsFunc_Form_Form__impl_isIn_c1_ok a0 a1 _ hx7 b1  _ (pre 1 0 0 hF hX)) ?_
  rintro _ σ3 ⟨τ4, rfl, hT, hG⟩
  have hF := aftP 1 0 hF hX hT hG
  refine go ?_
  have e := pur H; subst e
  exact rt [.bool x7]
theorem slices_Clone_int_int_ok : ∀ (a0 : List Int) r, slices_Clone_int_int a0 = some r → PCtr Try.prog 48 [.sl (false) (rws cI a0)] (.sl false (rws cI r)) := by
  intro a0 r H σ
  unfold slices_Clone_int_int at H
  refine ctr_of mixed Try.func48 rfl (by kernel_rfl) (rs := [.tmp 2]) rfl (by kernel_rfl) ?_
  have hF := Fx.refl σ
  have hX := Tau.none σ
  have hF := hF.lit 3 1 (rws cI []) rfl
  cases a0 with
  | nil =>
    obtain ⟨rfl, _⟩ := lcat_eq H
    try simp only [go_sem, ↓reduceIte, Nat.reduceEqDiff, Nat.reduceAdd, Nat.reduceMul, Nat.reduceLeDiff, Nat.reduceLT, Int.reduceEq, Int.toNat_natCast]
    refine aCnd_ub ?_ ?_
    · try simp only [go_sem, ↓reduceIte, Nat.reduceEqDiff, Nat.reduceAdd, Nat.reduceMul, Nat.reduceLeDiff, Nat.reduceLT, Int.reduceEq, Int.toNat_natCast]
      exact fx_ret (vs := [.nilsl]) (by first | (simp only [go_sem, ↓reduceIte, Nat.reduceEqDiff, Nat.reduceAdd, Nat.reduceMul, Nat.reduceLeDiff, Nat.reduceLT, Int.reduceEq, Int.toNat_natCast]; done) | rfl | (simp only [go_sem, ↓reduceIte, Nat.reduceEqDiff, Nat.reduceAdd, Nat.reduceMul, Nat.reduceLeDiff, Nat.reduceLT, Int.reduceEq, Int.toNat_natCast]; rfl)) (Wk.val2 .nilsl hF.sub)
    · try simp only [go_sem, ↓reduceIte, Nat.reduceEqDiff, Nat.reduceAdd, Nat.reduceMul, Nat.reduceLeDiff, Nat.reduceLT, Int.reduceEq, Int.toNat_natCast]
      refine fx_app hF 0 (g := cI) (xs := []) (ys := []) rfl (by decide) (by decide) (RdL.of (c := false) (fun _ => rfl) rfl) H fun v1 σ1 hF => ?_
      try simp only [go_sem, ↓reduceIte, Nat.reduceEqDiff, Nat.reduceAdd, Nat.reduceMul, Nat.reduceLeDiff, Nat.reduceLT, Int.reduceEq, Int.toNat_natCast, hF.cells 0 rfl, hF.len 0 rfl]
      exact fx_ret (vs := [v1]) (by first | (simp only [go_sem, ↓reduceIte, Nat.reduceEqDiff, Nat.reduceAdd, Nat.reduceMul, Nat.reduceLeDiff, Nat.reduceLT, Int.reduceEq, Int.toNat_natCast, hF.cells 0 rfl, hF.len 0 rfl]; done) | rfl | (simp only [go_sem, ↓reduceIte, Nat.reduceEqDiff, Nat.reduceAdd, Nat.reduceMul, Nat.reduceLeDiff, Nat.reduceLT, Int.reduceEq, Int.toNat_natCast, hF.cells 0 rfl, hF.len 0 rfl]; rfl)) (hF.wk 0 rfl)
  | cons x xs =>
    try simp only [go_sem, ↓reduceIte, Nat.reduceEqDiff, Nat.reduceAdd, Nat.reduceMul, Nat.reduceLeDiff, Nat.reduceLT, Int.reduceEq, Int.toNat_natCast]
    refine fx_app hF 0 (g := cI) (xs := []) (ys := x :: xs) rfl (by decide) (by decide) (RdL.of (c := false) (fun _ => rfl) (by first | rfl | simp only [rws_cons, rws_nil, cI, cU, cS, cL])) H fun v1 σ1 hF => ?_
    try simp only [go_sem, ↓reduceIte, Nat.reduceEqDiff, Nat.reduceAdd, Nat.reduceMul, Nat.reduceLeDiff, Nat.reduceLT, Int.reduceEq, Int.toNat_natCast, hF.cells 0 rfl, hF.len 0 rfl]
    exact fx_ret (vs := [v1]) (by first | (simp only [go_sem, ↓reduceIte, Nat.reduceEqDiff, Nat.reduceAdd, Nat.reduceMul, Nat.reduceLeDiff, Nat.reduceLT, Int.reduceEq, Int.toNat_natCast, hF.cells 0 rfl, hF.len 0 rfl]; done) | rfl | (simp only [go_sem, ↓reduceIte, Nat.reduceEqDiff, Nat.reduceAdd, Nat.reduceMul, Nat.reduceLeDiff, Nat.reduceLT, Int.reduceEq, Int.toNat_natCast, hF.cells 0 rfl, hF.len 0 rfl]; rfl)) (hF.wk 0 rfl)
theorem impl_copyForm_ok : ∀ (a0 : Fm) r, impl_copyForm a0 = some r → PCtr Try.prog 41 [.agg (Fm.cells a0)] (.agg (Fm.cells r)) := by
  refine impl_copyForm.partial_correctness  (motive_1 := fun a0 r => PCtr Try.prog 41 [.agg (Fm.cells a0)] (.agg (Fm.cells r))) (motive_2 := fun a0 x14 z0o_0 z0t_19 out => ∀ c, loopAt Try.f41 0 = some c → ∀ (Q : AX → AS → Prop) (τ : Sto) (b1 : Nat) (b3 : Nat) (b5 : Nat), (∀ (e0o_0 : List Fm), out = e0o_0 → ∀ (T : Nat → AV) (σ : Sto) (e0v0 : AV), T 2 = .ptr b3 0 ∧ T 3 = .ptr b5 0 → Fx τ σ [(b5, ⟨29, 5, [.int .i64 a0.kind, .str a0.name, .int .i64 a0.num, .sl false (rws cI x14), e0v0]⟩), (b3, ⟨29, 5, [.int .i64 0, .str (ByteArray.mk #[]), .int .i64 0, .nilsl, .nilsl]⟩), (b1, ⟨29, 5, [.int .i64 a0.kind, .str a0.name, .int .i64 a0.num, .sl false (rws cI a0.sc), .sl false (rws Fm.cells a0.kids)]⟩)] [⟨e0v0, 29, 5, rws Fm.cells e0o_0⟩] → Q (.ex 0) ⟨T, σ⟩) → True → ∀ (T : Nat → AV) (σ : Sto) (z0v0 : AV), T 2 = .ptr b3 0 ∧ T 3 = .ptr b5 0 ∧ T 17 = .sl false (rws Fm.cells a0.kids) ∧ T 18 = .int .i64 (a0.kids.length : Int) ∧ T 19 = .int .i64 z0t_19 → Fx τ σ [(b5, ⟨29, 5, [.int .i64 a0.kind, .str a0.name, .int .i64 a0.num, .sl false (rws cI x14), z0v0]⟩), (b3, ⟨29, 5, [.int .i64 0, .str (ByteArray.mk #[]), .int .i64 0, .nilsl, .nilsl]⟩), (b1, ⟨29, 5, [.int .i64 a0.kind, .str a0.name, .int .i64 a0.num, .sl false (rws cI a0.sc), .sl false (rws Fm.cells a0.kids)]⟩)] [⟨z0v0, 29, 5, rws Fm.cells z0o_0⟩] → aLp Try.prog c Q ⟨T, σ⟩) ?_ ?_
  · intro impl_copyForm_l0 L0 a0 r H
    intro σ
    refine hdg mixed Try.func41 (rs := [.cell 2 29]) fun q tT => ?_
    have hF := Fx.refl σ
    have hX := Tau.none σ
    refine go ?_
    refine fx_alloc hF rfl fun b1 σ2 hF => ?_
    refine go ?_
    refine fx_alloc hF rfl fun b3 σ4 hF => ?_
    refine go ?_
    refine draw_text E0 [.v, .v, .v, .v, .v, .v, .v, .v, .v, .v, .x, .z] (by kernel_rfl) ?_
    refine go ?_
    obtain ⟨x14, hx14, H⟩ := bnd H
    refine cv (slices_Clone_int_int_ok a0.sc _ hx14) ?_
    refine go ?_
    refine fx_allocK hF rfl fun b5 σ6 hF => ?_
    refine go ?_
    refine st hF 0 rfl fun σ7 hF => ?_
    have hF := hF.nil 29 5
    refine go ?_
    obtain ⟨o14, ho14, H⟩ := bnd H
    refine L0 a0 x14 [] 0 _ ho14 _ rfl _ _ b1 b3 b5 ?_ ?_ _ _ .nilsl S hF
    · intro e15o_0 he T16 σ17 e15v0 tT hF
      have he := he.symm
      subst he
      refine go ?_
      refine st hF 1 rfl fun σ19 hF => ?_
      refine go ?_
      have e := pur H; subst e
      exact rt [.agg [.int .i64 a0.kind, .str a0.name, .int .i64 a0.num, .sl false (rws cI x14), e15v0]]
    · trivial
  · intro impl_copyForm impl_copyForm_l0 C0 L0 a0 x14 z0o_0 z0t_19 out H c hc Q τ b1 b3 b5 hE hR T σ z0v0 tT hF
    obtain rfl := Option.some.inj ((rfl : loopAt Try.f41 0 = some _).symm.trans hc)
    refine aLoop_round ?_
    have q := dum
    have hX := Tau.none τ
    refine go ?_
    refine cdp H (fun h H => ?_) (fun h H => ?_)
    · obtain ⟨x21, f1, H⟩ := bil (g := Fm.cells) Fm.cells_len H
      refine go1 ?_
      refine fx_alloc hF rfl fun b8 σ9 hF => ?_
      refine go ?_
      refine st hF 0 rfl fun σ10 hF => ?_
      refine go ?_
      refine draw_text E0 [.v, .v, .v, .v, .v, .x, .v, .z] (by kernel_rfl) ?_
      refine go ?_
      obtain ⟨x26, hx26, H⟩ := bnd H
      refine cv (C0 x21 _ hx26) ?_
      refine go ?_
      refine apdK (g := Fm.cells) hF 0 H (rdo (c := true) (g := Fm.cells) Fm.cells_len) fun x28 H v11 σ12 hF => ?_
      refine go ?_
      refine st hF 1 (hF.cells 0 rfl) fun σ13 hF => ?_
      refine go ?_
      exact L0 a0 x14 x28 (IntKind.i64.wrap (z0t_19 + 1)) _ H _ rfl Q τ b1 b3 b5 hE hR _ _ v11 S (hF.drop 1 0)
    · refine go ?_
      exact wq (hE _ (pur H).symm _ _ z0v0 S hF)
theorem impl_IntroducedNames_c1_ok : ∀ (a0 : Fm) (c0 : Stp) (c1 : List Fm) r, impl_IntroducedNames_c1 a0 c0 c1 = some r → ∀ (e0 : Nat) (e1 : Nat) (o1_0 : AV) (σ : Sto), Pre σ [(e0, ⟨41, 13, [.int .i64 c0.id, .int .i64 c0.rule, .int .i64 c0.scope, .int .i64 c0.use.kind, .str c0.use.name, .int .i64 c0.use.num, .sl false (rws cI c0.use.sc), .sl false (rws Fm.cells c0.use.kids), .int .i64 c0.res.kind, .str c0.res.name, .int .i64 c0.res.num, .sl false (rws cI c0.res.sc), .sl false (rws Fm.cells c0.res.kids)]⟩), (e1, ⟨27, 1, [o1_0]⟩)] [⟨o1_0, 29, 5, rws Fm.cells c1⟩] → Ctr Try.prog 38 [.agg (Fm.cells a0), .ptr e0 0, .ptr e1 0] σ (fun r' σ' => ∃ (τ' : Sto) (u1_0 : AV), r' = .tup [] ∧ Tau (strip σ [⟨o1_0, 29, 5, rws Fm.cells c1⟩]) [(e0, ⟨41, 13, [.int .i64 c0.id, .int .i64 c0.rule, .int .i64 c0.scope, .int .i64 c0.use.kind, .str c0.use.name, .int .i64 c0.use.num, .sl false (rws cI c0.use.sc), .sl false (rws Fm.cells c0.use.kids), .int .i64 c0.res.kind, .str c0.res.name, .int .i64 c0.res.num, .sl false (rws cI c0.res.sc), .sl false (rws Fm.cells c0.res.kids)]⟩), (e1, ⟨27, 1, [u1_0]⟩)] τ' ∧ Fx τ' σ' [] [⟨u1_0, 29, 5, rws Fm.cells r⟩]) := by
  intro a0 c0 c1 r H
  intro e0 e1 o1_0 σ hP
  unfold impl_IntroducedNames_c1 at H
  refine hdg mixed Try.func38 (rs := []) fun q tT => ?_
  obtain ⟨hF, hX⟩ := hP.start
  generalize strip σ [⟨o1_0, 29, 5, rws Fm.cells c1⟩] = τ0 at hF hX ⊢
  refine go ?_
  refine fx_alloc hF rfl fun b1 σ2 hF => ?_
  refine go ?_
  obtain ⟨x13, g3, H⟩ := bnd H
  refine aGd_cutN 5 8 13 (.bool x13) (gi q (fun q => ?_) (fun q => ?_)) (fun J => ?_)
  · rw [if_pos (dt q)] at g3
    refine go ?_
    obtain ⟨x12, hx12, g3⟩ := bnd g3
    refine cl (slices_Contains_int_int_ok a0.sc c0.scope _ hx12) ?_
    refine go ?_
    exact cutd 8 g3
  · rw [if_neg (df q)] at g3
    refine go ?_
    exact cutd 8 g3
  refine go ?_
  obtain ⟨x19, g5, H⟩ := bnd H
  refine aGd_cutN 4 15 19 (.bool x19) (gi q (fun q => ?_) (fun q => ?_)) (fun J => ?_)
  · rw [if_pos (dbt q)] at g5
    refine go ?_
    obtain ⟨x17, hx17, g5⟩ := bnd g5
    refine aCall_flat (impl_isIn_ok c1 a0 _ hx17) .bool (by (try simp only [Fm.cells_eq]); exact (.cons ((hF.wk 0 rfl).trans (Wk.sub (Sub.zero _) _)) (fun _ => rfl) (.cons (Wk.agg (Sub.zero _) (.cons (Wk.sub (Sub.zero _) _) id (.cons (Wk.sub (Sub.zero _) _) id (.cons (Wk.sub (Sub.zero _) _) id (.cons (Wk.sub (Sub.zero _) _) id (.cons (Wk.sub (Sub.zero _) _) id .nil)))))) (fun h => by first | exact h | rfl) .nil))) ?_
    refine go ?_
    exact cutd 15 g5
  · rw [if_neg (dbf q)] at g5
    refine go ?_
    exact cutd 15 g5
  refine go ?_
  refine cdb H (fun h H => ?_) (fun h H => ?_)
  · refine go ?_
    obtain ⟨E, hEq⟩ : ∃ E, E = EE σ2 [e1] := ⟨_, rfl⟩
    have n7 : ¬ E b1 := by rw [hEq]; exact EE.not (hF.at 0 rfl) (by simp only [List.mem_cons, List.not_mem_nil, or_false, not_or]; exact neX hF 0 rfl hX 1 rfl)
    have n8 : ¬ E e0 := by rw [hEq]; exact EE.not (hF.xat hX 0 rfl) (by simp only [List.mem_cons, List.not_mem_nil, or_false, not_or]; exact neE hX 0 1 rfl rfl (by decide))
    refine draw_ca1 E [.v, .v, .v, .x, .v, .x, .v] [1, 2, 4, 0, 3, 5, 6] 7 8 [] [] [] [] (by kernel_rfl) ?_
    have z := And.intro (hide_at (hF.at 0 rfl) n7) (hide_at (hF.xat hX 0 rfl) n8); refine gh ?_
    obtain ⟨x22, hx22, H⟩ := bnd H
    refine cv (impl_copyForm_ok a0 _ hx22) ?_
    try simp only [go_sem, ↓reduceIte, Nat.reduceEqDiff, Nat.reduceAdd, Nat.reduceMul, Nat.reduceLeDiff, Nat.reduceLT, Int.reduceEq, Int.toNat_natCast, q, tT, hF.f, hF.m, hF.x hX, hide_at (hF.at 0 rfl) n7, hide_at (hF.xat hX 0 rfl) n8, aev_zF]
    refine apwK (g := Fm.cells) (rows := [[.int .i64 0, .str (ByteArray.mk #[]), .int .i64 0, .nilsl, .nilsl]]) hF 0 H Fm.cells_len true rfl (by simp only [rws_cons, rws_nil, cI, cU, cS, cL, Fm.cells_eq, Fm.kind, Fm.name, Fm.num, Fm.sc, Fm.kids, Hit.name, Hit.depth, Hit.one, Hit.many, Cor.kind, Cor.id, Cor.name, Cor.num, Cor.ids, Cor.data, Cor.kids, Val.kind, Val.num, Val.name, Val.items, Val.fn, Val.env, Slt.id, Slt.val, List.flatten_cons, List.flatten_nil, List.append_nil, List.cons_append, List.nil_append]; exact (.cons (.refl _) id (.cons (.refl _) id (.cons (.refl _) id (.cons .nilsl (fun _ => rfl) (.cons .nilsl (fun _ => rfl) .nil)))))) fun x25 H v9 σ10 hF => ?_
    have z := And.intro (hide_at (hF.at 0 rfl) n7) (hide_at (hF.xat hX 0 rfl) n8); refine gh ?_
    obtain ⟨x26, hx26, H⟩ := bnd H
    obtain ⟨b11, k12, hv⟩ := hF.ref 0 rfl hx26
    subst hv
    try simp only [go_sem, ↓reduceIte, Nat.reduceEqDiff, Nat.reduceAdd, Nat.reduceMul, Nat.reduceLeDiff, Nat.reduceLT, Int.reduceEq, Int.toNat_natCast, q, tT, hF.f, hF.m, hF.x hX, hide_at (hF.at 0 rfl) n7, hide_at (hF.xat hX 0 rfl) n8, aidx_own (l := x25) rfl hx26]
    refine ⟨?_, ?_⟩
    · have z := And.intro (hide_at (hF.at 0 rfl) n7) (hide_at (hF.xat hX 0 rfl) n8); refine gh ?_
      refine fx_osetK hF 0 (o := 0) (sz := 5) (k := 5) (v := (.agg [.int .i64 x22.kind, .str x22.name, .int .i64 x22.num, .sl false (rws cI x22.sc), .sl false (rws Fm.cells x22.kids)])) (cs := [.int .i64 x22.kind, .str x22.name, .int .i64 x22.num, .sl false (rws cI x22.sc), .sl false (rws Fm.cells x22.kids)]) (g := Fm.cells) (i := (c1.length : Int)) x22 Fm.cells_len (by first | rfl | simp) rfl hx26 rfl rfl (by decide) (by first | rfl | simp [splice_eq, cI, cU, cS, cL, cB, Fm.cells_eq]) fun σ13 hF => ?_
      have hF : Fx τ0 σ13 [(b1, ⟨29, 5, [.int .i64 a0.kind, .str a0.name, .int .i64 a0.num, .sl false (rws cI a0.sc), .sl false (rws Fm.cells a0.kids)]⟩)] [⟨.ref b11 x25.length k12, 29, 5, rws Fm.cells (x25.set (c1.length : Int).toNat x22)⟩] := hF
      have z := And.intro (hide_at (hF.at 0 rfl) n7) (hide_at (hF.xat hX 0 rfl) n8); refine gh ?_
      refine stTK hF hX 1 (by rw [hEq]; exact EE.of (by simp)) (hF.cells 0 rfl) fun τ15 σ14 hF hX => ?_
      have z := And.intro (hide_at (hF.at 0 rfl) n7) (hide_at (hF.xat hX 0 rfl) n8); refine gh ?_
      refine go ?_
      have e := pur H; subst e
      exact rg [] ⟨_, _, rfl, hX, hF.pick [] [0] (by decide) (by decide)⟩
    · have z := And.intro (hide_at (hF.at 0 rfl) n7) (hide_at (hF.xat hX 0 rfl) n8); refine gh ?_
      refine stTK hF hX 1 (by rw [hEq]; exact EE.of (by simp)) (hF.cells 0 rfl) fun τ17 σ16 hF hX => ?_
      have z := And.intro (hide_at (hF.at 0 rfl) n7) (hide_at (hF.xat hX 0 rfl) n8); refine gh ?_
      refine fx_osetK hF 0 (o := 0) (sz := 5) (k := 5) (v := (.agg [.int .i64 x22.kind, .str x22.name, .int .i64 x22.num, .sl false (rws cI x22.sc), .sl false (rws Fm.cells x22.kids)])) (cs := [.int .i64 x22.kind, .str x22.name, .int .i64 x22.num, .sl false (rws cI x22.sc), .sl false (rws Fm.cells x22.kids)]) (g := Fm.cells) (i := (c1.length : Int)) x22 Fm.cells_len (by first | rfl | simp) rfl hx26 rfl rfl (by decide) (by first | rfl | simp [splice_eq, cI, cU, cS, cL, cB, Fm.cells_eq]) fun σ18 hF => ?_
      have hF : Fx τ17 σ18 [(b1, ⟨29, 5, [.int .i64 a0.kind, .str a0.name, .int .i64 a0.num, .sl false (rws cI a0.sc), .sl false (rws Fm.cells a0.kids)]⟩)] [⟨.ref b11 x25.length k12, 29, 5, rws Fm.cells (x25.set (c1.length : Int).toNat x22)⟩] := hF
      have z := And.intro (hide_at (hF.at 0 rfl) n7) (hide_at (hF.xat hX 0 rfl) n8); refine gh ?_
      refine go ?_
      have e := pur H; subst e
      exact rg [] ⟨_, _, rfl, hX, hF.pick [] [0] (by decide) (by decide)⟩
  · refine go ?_
    have e := pur H; subst e
    exact rg [] ⟨_, _, rfl, hX, hF.pick [] [0] (by decide) (by decide)⟩
theorem impl_eachForm__impl_IntroducedNames_c1_ok : ∀ (a0 : Fm) (c0 : Stp) (c1 : List Fm) r, impl_eachForm__impl_IntroducedNames_c1 a0 c0 c1 = some r → ∀ (e0 : Nat) (e1 : Nat) (o1_0 : AV) (σ : Sto), Pre σ [(e0, ⟨41, 13, [.int .i64 c0.id, .int .i64 c0.rule, .int .i64 c0.scope, .int .i64 c0.use.kind, .str c0.use.name, .int .i64 c0.use.num, .sl false (rws cI c0.use.sc), .sl false (rws Fm.cells c0.use.kids), .int .i64 c0.res.kind, .str c0.res.name, .int .i64 c0.res.num, .sl false (rws cI c0.res.sc), .sl false (rws Fm.cells c0.res.kids)]⟩), (e1, ⟨27, 1, [o1_0]⟩)] [⟨o1_0, 29, 5, rws Fm.cells c1⟩] → Ctr Try.prog 37 [.agg (Fm.cells a0), .fn 38 [.ptr e0 0, .ptr e1 0]] σ (fun r' σ' => ∃ (τ' : Sto) (u1_0 : AV), r' = .tup [] ∧ Tau (strip σ [⟨o1_0, 29, 5, rws Fm.cells c1⟩]) [(e0, ⟨41, 13, [.int .i64 c0.id, .int .i64 c0.rule, .int .i64 c0.scope, .int .i64 c0.use.kind, .str c0.use.name, .int .i64 c0.use.num, .sl false (rws cI c0.use.sc), .sl false (rws Fm.cells c0.use.kids), .int .i64 c0.res.kind, .str c0.res.name, .int .i64 c0.res.num, .sl false (rws cI c0.res.sc), .sl false (rws Fm.cells c0.res.kids)]⟩), (e1, ⟨27, 1, [u1_0]⟩)] τ' ∧ Fx τ' σ' [] [⟨u1_0, 29, 5, rws Fm.cells r⟩]) := by
  intro a0 c0 c1
  revert a0 c1
  refine impl_eachForm__impl_IntroducedNames_c1.partial_correctness c0 (motive_1 := fun a0 c1 r => ∀ (e0 : Nat) (e1 : Nat) (o1_0 : AV) (σ : Sto), Pre σ [(e0, ⟨41, 13, [.int .i64 c0.id, .int .i64 c0.rule, .int .i64 c0.scope, .int .i64 c0.use.kind, .str c0.use.name, .int .i64 c0.use.num, .sl false (rws cI c0.use.sc), .sl false (rws Fm.cells c0.use.kids), .int .i64 c0.res.kind, .str c0.res.name, .int .i64 c0.res.num, .sl false (rws cI c0.res.sc), .sl false (rws Fm.cells c0.res.kids)]⟩), (e1, ⟨27, 1, [o1_0]⟩)] [⟨o1_0, 29, 5, rws Fm.cells c1⟩] → Ctr Try.prog 37 [.agg (Fm.cells a0), .fn 38 [.ptr e0 0, .ptr e1 0]] σ (fun r' σ' => ∃ (τ' : Sto) (u1_0 : AV), r' = .tup [] ∧ Tau (strip σ [⟨o1_0, 29, 5, rws Fm.cells c1⟩]) [(e0, ⟨41, 13, [.int .i64 c0.id, .int .i64 c0.rule, .int .i64 c0.scope, .int .i64 c0.use.kind, .str c0.use.name, .int .i64 c0.use.num, .sl false (rws cI c0.use.sc), .sl false (rws Fm.cells c0.use.kids), .int .i64 c0.res.kind, .str c0.res.name, .int .i64 c0.res.num, .sl false (rws cI c0.res.sc), .sl false (rws Fm.cells c0.res.kids)]⟩), (e1, ⟨27, 1, [u1_0]⟩)] τ' ∧ Fx τ' σ' [] [⟨u1_0, 29, 5, rws Fm.cells r⟩])) (motive_2 := fun a0 z0o_0 z0t_12 out => ∀ c, loopAt Try.f37 0 = some c → ∀ (Q : AX → AS → Prop) (τ0 : Sto) (e0 : Nat) (e1 : Nat) (b1 : Nat), (∀ (e0o_0 : List Fm), out = e0o_0 → ∀ (T : Nat → AV) (σ : Sto) (τ : Sto) (e0v0 : AV), 0 + 0 = 0 → Tau τ0 [(e0, ⟨41, 13, [.int .i64 c0.id, .int .i64 c0.rule, .int .i64 c0.scope, .int .i64 c0.use.kind, .str c0.use.name, .int .i64 c0.use.num, .sl false (rws cI c0.use.sc), .sl false (rws Fm.cells c0.use.kids), .int .i64 c0.res.kind, .str c0.res.name, .int .i64 c0.res.num, .sl false (rws cI c0.res.sc), .sl false (rws Fm.cells c0.res.kids)]⟩), (e1, ⟨27, 1, [e0v0]⟩)] τ → Fx τ σ [(b1, ⟨29, 5, [.int .i64 a0.kind, .str a0.name, .int .i64 a0.num, .sl false (rws cI a0.sc), .sl false (rws Fm.cells a0.kids)]⟩)] [⟨e0v0, 29, 5, rws Fm.cells e0o_0⟩] → Q (.ex 0) ⟨T, σ⟩) → True → ∀ (T : Nat → AV) (σ : Sto) (τ : Sto) (z0v0 : AV), T 1 = .fn 38 [.ptr e0 0, .ptr e1 0] ∧ T 10 = .sl false (rws Fm.cells a0.kids) ∧ T 11 = .int .i64 (a0.kids.length : Int) ∧ T 12 = .int .i64 z0t_12 → Tau τ0 [(e0, ⟨41, 13, [.int .i64 c0.id, .int .i64 c0.rule, .int .i64 c0.scope, .int .i64 c0.use.kind, .str c0.use.name, .int .i64 c0.use.num, .sl false (rws cI c0.use.sc), .sl false (rws Fm.cells c0.use.kids), .int .i64 c0.res.kind, .str c0.res.name, .int .i64 c0.res.num, .sl false (rws cI c0.res.sc), .sl false (rws Fm.cells c0.res.kids)]⟩), (e1, ⟨27, 1, [z0v0]⟩)] τ → Fx τ σ [(b1, ⟨29, 5, [.int .i64 a0.kind, .str a0.name, .int .i64 a0.num, .sl false (rws cI a0.sc), .sl false (rws Fm.cells a0.kids)]⟩)] [⟨z0v0, 29, 5, rws Fm.cells z0o_0⟩] → aLp Try.prog c Q ⟨T, σ⟩) ?_ ?_
  · intro impl_eachForm__impl_IntroducedNames_c1_l0 L0 a0 c1 r H
    intro e0 e1 o1_0 σ hP
    refine hdg mixed Try.func37 (rs := []) fun q tT => ?_
    obtain ⟨hF, hX⟩ := hP.start
    generalize strip σ [⟨o1_0, 29, 5, rws Fm.cells c1⟩] = τ0 at hF hX ⊢
    refine go ?_
    refine fx_alloc hF rfl fun b1 σ2 hF => ?_
    refine go ?_
    obtain ⟨x8, hx8, H⟩ := bnd H
    refine cx (impl_IntroducedNames_c1_ok a0 c0 c1 _ hx8 e0 e1 o1_0 _ (pre 0 2 1 hF hX)) ?_
    rintro _ σ4 ⟨τ5, v3, rfl, hT, hG⟩
    obtain ⟨τ6, hX, hF⟩ := aft 0 2 1 hF hX hT hG
    refine go ?_
    obtain ⟨o14, ho14, H⟩ := bnd H
    refine L0 a0 x8 0 _ ho14 _ rfl _ τ0 e0 e1 b1 ?_ ?_ _ _ _ v3 S hX hF
    · intro e15o_0 he T16 σ17 τ18 e15v0 tT hX hF
      have he := he.symm
      subst he
      refine go ?_
      have e := pur H; subst e
      exact rg [] ⟨_, _, rfl, hX, hF.pick [] [0] (by decide) (by decide)⟩
    · trivial
  · intro impl_eachForm__impl_IntroducedNames_c1 impl_eachForm__impl_IntroducedNames_c1_l0 C0 L0 a0 z0o_0 z0t_12 out H c hc Q τ0 e0 e1 b1 hE hR T σ τ z0v0 tT hX hF
    obtain rfl := Option.some.inj ((rfl : loopAt Try.f37 0 = some _).symm.trans hc)
    refine aLoop_round ?_
    have q := dum
    refine go ?_
    refine cdp H (fun h H => ?_) (fun h H => ?_)
    · obtain ⟨x14, f1, H⟩ := bil (g := Fm.cells) Fm.cells_len H
      refine go1 ?_
      refine fx_alloc hF rfl fun b7 σ8 hF => ?_
      refine go ?_
      refine st hF 0 rfl fun σ9 hF => ?_
      refine go ?_
      obtain ⟨x18, hx18, H⟩ := bnd H
      refine cx (C0 x14 z0o_0 _ hx18 e0 e1 z0v0 _ (pre 0 2 1 hF hX)) ?_
      rintro _ σ11 ⟨τ12, v10, rfl, hT, hG⟩
      obtain ⟨τ13, hX, hF⟩ := aft 0 2 1 hF hX hT hG
      refine go ?_
      exact L0 a0 x18 (IntKind.i64.wrap (z0t_12 + 1)) _ H _ rfl Q τ0 e0 e1 b1 hE hR _ _ _ v10 S hX (hF.drop 1 0)
    · refine go ?_
      exact wq (hE _ (pur H).symm _ _ _ z0v0 S hX hF)
theorem impl_IntroducedNames_ok : ∀ (a0 : Stp) r, impl_IntroducedNames a0 = some r → PCtr Try.prog 15 [.agg (Stp.cells a0)] (.sl false (rws Fm.cells r)) := by
  intro a0 r H
  intro σ
  unfold impl_IntroducedNames at H
  refine hdg mixed Try.func15 (rs := [.tmp 2]) fun q tT => ?_
  have hF := Fx.refl σ
  have hX := Tau.none σ
  refine go ?_
  refine fx_alloc hF rfl fun b1 σ2 hF => ?_
  refine go ?_
  refine fx_alloc hF rfl fun b3 σ4 hF => ?_
  refine go ?_
  refine st hF 0 rfl fun σ5 hF => ?_
  refine go ?_
  obtain ⟨x7, hx7, H⟩ := bnd H
  refine cl (impl_FormValid_ok a0.res _ hx7) ?_
  refine go ?_
  obtain ⟨x14, g6, H⟩ := bnd H
  refine aGd_cutN 4 10 14 (.bool x14) (giN q (fun q => ?_) (fun q => ?_)) (fun J => ?_)
  · rw [if_neg (dbf q)] at g6
    refine go ?_
    obtain ⟨x12, hx12, g6⟩ := bnd g6
    refine cl (impl_within_ok a0.scope 1 99 _ hx12) ?_
    refine go ?_
    exact cutd 10 g6
  · rw [if_pos (dbt q)] at g6
    refine go ?_
    exact cutd 10 g6
  refine go ?_
  refine cdb H (fun h H => ?_) (fun h H => ?_)
  · refine go ?_
    have e := pur H; subst e
    exact rt [.sl true (rws Fm.cells [])]
  · have hF := hF.lit 29 5 (rws Fm.cells []) rfl
    refine go ?_
    have hF := pck hF [1, 0] [0]
    obtain ⟨x19, hx19, H⟩ := bnd H
    refine cx (impl_eachForm__impl_IntroducedNames_c1_ok a0.res a0 [] _ hx19 b1 b3 (.sl true (rws Fm.cells [])) _ (pre 2 0 1 hF hX)) ?_
    rintro _ σ9 ⟨τ10, v8, rfl, hT, hG⟩
    have hF := aftP 2 1 hF hX hT hG
    refine go ?_
    have e := pur H; subst e
    exact rt [v8]
theorem spec_l1Letter_ok : ∀ (a0 : Int) (a1 : Bool) r, spec_l1Letter a0 a1 = some r → PCtr Try.prog 45 [.int .u8 a0, .bool a1] (.bool r) := by
  intro a0 a1 r H
  intro σ
  unfold spec_l1Letter at H
  refine hdg mixed Try.func45 (rs := [.tmp 4]) fun q tT => ?_
  have hF := Fx.refl σ
  have hX := Tau.none σ
  refine go ?_
  obtain ⟨x10, g1, H⟩ := bnd H
  refine aGd_cutN 2 8 10 (.bool x10) (gi q (fun q => ?_) (fun q => ?_)) (fun J => ?_)
  · refine go ?_
    exact cutd 8 g1
  · refine go ?_
    exact cutd 8 g1
  refine go ?_
  obtain ⟨x14, g3, H⟩ := bnd H
  refine aGd_cutN 2 12 14 (.bool x14) (giN q (fun q => ?_) (fun q => ?_)) (fun J => ?_)
  · refine go ?_
    exact cutd 12 g3
  · refine go ?_
    exact cutd 12 g3
  refine go ?_
  obtain ⟨x18, g5, H⟩ := bnd H
  refine aGd_cutN 2 16 18 (.bool x18) (giN q (fun q => ?_) (fun q => ?_)) (fun J => ?_)
  · refine go ?_
    exact cutd 16 g5
  · refine go ?_
    exact cutd 16 g5
  refine go ?_
  obtain ⟨x22, g7, H⟩ := bnd H
  refine aGd_cutN 2 20 22 (.bool x22) (giN q (fun q => ?_) (fun q => ?_)) (fun J => ?_)
  · refine go ?_
    exact cutd 20 g7
  · refine go ?_
    exact cutd 20 g7
  refine go ?_
  obtain ⟨x26, g9, H⟩ := bnd H
  refine aGd_cutN 2 24 26 (.bool x26) (giN q (fun q => ?_) (fun q => ?_)) (fun J => ?_)
  · refine go ?_
    exact cutd 24 g9
  · refine go ?_
    exact cutd 24 g9
  refine go ?_
  obtain ⟨x30, g11, H⟩ := bnd H
  refine aGd_cutN 2 28 30 (.bool x30) (giN q (fun q => ?_) (fun q => ?_)) (fun J => ?_)
  · refine go ?_
    exact cutd 28 g11
  · refine go ?_
    exact cutd 28 g11
  refine go ?_
  refine cdb H (fun h H => ?_) (fun h H => ?_)
  · refine go ?_
    have e := pur H; subst e
    exact rt [.bool true]
  · refine go ?_
    obtain ⟨x44, g13, H⟩ := bnd H
    refine aGd_cutN 10 34 44 (.bool x44) (gi q (fun q => ?_) (fun q => ?_)) (fun J => ?_)
    · rw [if_pos (dbt q)] at g13
      refine go ?_
      obtain ⟨x39, g15, g13⟩ := bnd g13
      refine aGd_cutN 2 37 39 (.bool x39) (gi q (fun q => ?_) (fun q => ?_)) (fun J => ?_)
      · refine go ?_
        exact cutd 37 g15
      · refine go ?_
        exact cutd 37 g15
      refine go ?_
      obtain ⟨x43, g17, g13⟩ := bnd g13
      refine aGd_cutN 2 41 43 (.bool x43) (giN q (fun q => ?_) (fun q => ?_)) (fun J => ?_)
      · refine go ?_
        exact cutd 41 g17
      · refine go ?_
        exact cutd 41 g17
      refine go ?_
      exact cutd 34 g13
    · rw [if_neg (dbf q)] at g13
      refine go ?_
      exact cutd 34 g13
    refine go ?_
    have e := pur H; subst e
    exact rt [.bool x44]
theorem spec_NameValid_l0_ok : ∀ (a0 : ByteArray) (z0t_3 : Int) out, spec_NameValid_l0 a0 z0t_3 = some out → ∀ c, loopAt Try.f24 0 = some c → ∀ (Q : AX → AS → Prop) (τ : Sto), (∀ (_u : Unit), out = Sum.inr () → ∀ (T : Nat → AV) (σ : Sto), T 0 = .str a0 → Fx τ σ [] [] → Q (.ex 0) ⟨T, σ⟩) → (∀ r, out = Sum.inl r → ∀ s', aRet Try.prog [.tmp 2] (fun r' σ' => r' = .bool r ∧ σ' = τ) s' → Q .ret s') → ∀ (T : Nat → AV) (σ : Sto), T 0 = .str a0 ∧ T 3 = .int .i64 z0t_3 → Fx τ σ [] [] → aLp Try.prog c Q ⟨T, σ⟩ := by
  intro a0 z0t_3
  revert z0t_3
  refine spec_NameValid_l0.partial_correctness a0 _ ?_
  intro spec_NameValid_l0 IH z0t_3 out H c hc Q τ  hE hR T σ tT hF
  obtain rfl := Option.some.inj ((rfl : loopAt Try.f24 0 = some _).symm.trans hc)
  refine aLoop_round ?_
  have q := dum
  have hX := Tau.none τ
  refine go ?_
  obtain ⟨x17, g3, H⟩ := bnd H
  refine aGd_cutN 2 15 17 (.bool x17) (gi q (fun q => ?_) (fun q => ?_)) (fun J => ?_)
  · refine go ?_
    exact cutd 15 g3
  · refine go ?_
    exact cutd 15 g3
  refine go ?_
  refine cdb H (fun h H => ?_) (fun h H => ?_)
  · obtain ⟨x22, f1, H⟩ := bsx H
    refine go1 ?_
    obtain ⟨x25, hx25, H⟩ := bnd H
    refine cl (spec_l1Letter_ok x22 (decide (z0t_3 = 0)) _ hx25) ?_
    refine go ?_
    refine cdb H (fun h H => ?_) (fun h H => ?_)
    · refine go ?_
      exact wq (hR _ (pur H).symm _ (rt [.bool false]))
    · refine go ?_
      exact IH  (IntKind.i64.wrap (z0t_3 + 1)) _ H _ rfl Q τ  hE hR _ _  S hF
  · refine go ?_
    exact wq (hE () (pur H).symm _ _  S hF)
theorem spec_NameValid_ok : ∀ (a0 : ByteArray) r, spec_NameValid a0 = some r → PCtr Try.prog 24 [.str a0] (.bool r) := by
  intro a0 r H
  intro σ
  unfold spec_NameValid at H
  refine hdg mixed Try.func24 (rs := [.tmp 2]) fun q tT => ?_
  have hF := Fx.refl σ
  have hX := Tau.none σ
  refine go ?_
  obtain ⟨x9, g1, H⟩ := bnd H
  refine aGd_cutN 2 7 9 (.bool x9) (giN q (fun q => ?_) (fun q => ?_)) (fun J => ?_)
  · refine go ?_
    exact cutd 7 g1
  · refine go ?_
    exact cutd 7 g1
  refine go ?_
  refine cdb H (fun h H => ?_) (fun h H => ?_)
  · refine go ?_
    have e := pur H; subst e
    exact rt [.bool true]
  · refine go ?_
    obtain ⟨o5, ho5, H⟩ := bnd H
    refine spec_NameValid_l0_ok a0 0 _ ho5 _ rfl _ _  ?_ ?_ _ _  S hF
    · intro _ he T7 σ8 tT hF
      have he := he.symm
      subst he
      try dsimp only at H
      refine go ?_
      obtain ⟨x34, g10, H⟩ := bnd H
      refine aGd_cutN 3 31 34 (.bool x34) (gi q (fun q => ?_) (fun q => ?_)) (fun J => ?_)
      · refine go ?_
        exact cutd 31 g10
      · refine go ?_
        exact cutd 31 g10
      refine go ?_
      have e := pur H; subst e
      exact rt [.bool x34]
    · intro r hr s' hs
      subst hr
      have e := pur H; subst e
      exact hsq hs
theorem spec_l1Scopes_l0_ok : ∀ (a0 : List Int) (z0t_3 : Int) out, spec_l1Scopes_l0 a0 z0t_3 = some out → ∀ c, loopAt Try.f57 0 = some c → ∀ (Q : AX → AS → Prop) (τ : Sto), (∀ (_u : Unit), out = Sum.inr () → ∀ (T : Nat → AV) (σ : Sto), T 0 = .sl false (rws cI a0) → Fx τ σ [] [] → Q (.ex 0) ⟨T, σ⟩) → (∀ r, out = Sum.inl r → ∀ s', aRet Try.prog [.tmp 2] (fun r' σ' => r' = .bool r ∧ σ' = τ) s' → Q .ret s') → ∀ (T : Nat → AV) (σ : Sto), T 0 = .sl false (rws cI a0) ∧ T 3 = .int .i64 z0t_3 → Fx τ σ [] [] → aLp Try.prog c Q ⟨T, σ⟩ := by
  intro a0 z0t_3
  revert z0t_3
  refine spec_l1Scopes_l0.partial_correctness a0 _ ?_
  intro spec_l1Scopes_l0 IH z0t_3 out H c hc Q τ  hE hR T σ tT hF
  obtain rfl := Option.some.inj ((rfl : loopAt Try.f57 0 = some _).symm.trans hc)
  refine aLoop_round ?_
  have q := dum
  have hX := Tau.none τ
  refine go ?_
  obtain ⟨x11, g1, H⟩ := bnd H
  refine aGd_cutN 2 9 11 (.bool x11) (gi q (fun q => ?_) (fun q => ?_)) (fun J => ?_)
  · refine go ?_
    exact cutd 9 g1
  · refine go ?_
    exact cutd 9 g1
  refine go ?_
  refine cdb H (fun h H => ?_) (fun h H => ?_)
  · refine go ?_
    refine draw_text E0 [.v, .v, .v, .v, .v, .v, .v, .v, .v, .v, .v, .v, .v, .v, .v, .v, .v, .v, .v, .v, .v, .v, .v, .v, .v, .v, .v, .v] (by kernel_rfl) ?_
    obtain ⟨x16, f1, H⟩ := bil (g := cI) (fun _ => rfl) H
    refine go1 ?_
    obtain ⟨x25, g3, H⟩ := bnd H
    refine tGd_cutN 5 20 25 (.bool x25) (tiN q (fun q => ?_) (fun q => ?_)) (fun J => ?_)
    · rw [if_neg (df q)] at g3
      obtain ⟨x22, f1, g3⟩ := bil (g := cI) (fun _ => rfl) g3
      refine go1 ?_
      refine go ?_
      exact cutd 20 g3
    · rw [if_pos (dt q)] at g3
      refine go ?_
      exact cutd 20 g3
    refine go ?_
    obtain ⟨x41, g5, H⟩ := bnd H
    refine tGd_cutN 14 27 41 (.bool x41) (tiN q (fun q => ?_) (fun q => ?_)) (fun J => ?_)
    · rw [if_neg (dbf q)] at g5
      refine go ?_
      obtain ⟨x40, g7, g5⟩ := bnd g5
      refine tGd_cutN 10 30 40 (.bool x40) (ti q (fun q => ?_) (fun q => ?_)) (fun J => ?_)
      · rw [if_pos (dt q)] at g7
        obtain ⟨x32, f1, g7⟩ := bil (g := cI) (fun _ => rfl) g7
        obtain ⟨x37, f2, g7⟩ := bil (g := cI) (fun _ => rfl) g7
        refine go2 ?_
        refine go ?_
        exact cutd 30 g7
      · rw [if_neg (df q)] at g7
        refine go ?_
        exact cutd 30 g7
      refine go ?_
      exact cutd 27 g5
    · rw [if_pos (dbt q)] at g5
      refine go ?_
      exact cutd 27 g5
    refine go ?_
    refine cdb H (fun h H => ?_) (fun h H => ?_)
    · refine go ?_
      exact wq (hR _ (pur H).symm _ (rt [.bool false]))
    · refine go ?_
      exact IH  (IntKind.i64.wrap (z0t_3 + 1)) _ H _ rfl Q τ  hE hR _ _  S hF
  · refine go ?_
    exact wq (hE () (pur H).symm _ _  S hF)
theorem spec_l1Scopes_ok : ∀ (a0 : List Int) r, spec_l1Scopes a0 = some r → PCtr Try.prog 57 [.sl false (rws cI a0)] (.bool r) := by
  intro a0 r H
  intro σ
  unfold spec_l1Scopes at H
  refine hdg mixed Try.func57 (rs := [.tmp 2]) fun q tT => ?_
  have hF := Fx.refl σ
  have hX := Tau.none σ
  refine go ?_
  obtain ⟨o9, ho9, H⟩ := bnd H
  refine spec_l1Scopes_l0_ok a0 0 _ ho9 _ rfl _ _  ?_ ?_ _ _  S hF
  · intro _ he T11 σ12 tT hF
    have he := he.symm
    subst he
    try dsimp only at H
    refine go ?_
    have e := pur H; subst e
    exact rt [.bool (decide ((a0.length : Int) ≤ 24))]
  · intro r hr s' hs
    subst hr
    have e := pur H; subst e
    exact hsq hs
theorem spec_l1Is_ok : ∀ (a0 : Fm) (a1 : Int) r, spec_l1Is a0 a1 = some r → PCtr Try.prog 43 [.agg (Fm.cells a0), .int .i64 a1] (.bool r) := by
  refine spec_l1Is.partial_correctness  (motive_1 := fun a0 a1 r => PCtr Try.prog 43 [.agg (Fm.cells a0), .int .i64 a1] (.bool r)) (motive_2 := fun a0 a1 z0t_5 out => ∀ c, loopAt Try.f43 0 = some c → ∀ (Q : AX → AS → Prop) (τ : Sto) (b1 : Nat), (∀ (_u : Unit), out = Sum.inr () → ∀ (T : Nat → AV) (σ : Sto), 0 + 0 = 0 → Fx τ σ [(b1, ⟨29, 5, [.int .i64 a0.kind, .str a0.name, .int .i64 a0.num, .sl false (rws cI a0.sc), .sl false (rws Fm.cells a0.kids)]⟩)] [] → Q (.ex 1) ⟨T, σ⟩) → (∀ r, out = Sum.inl r → ∀ s', aRet Try.prog [.tmp 4] (fun r' σ' => r' = .bool r ∧ σ' = τ) s' → Q .ret s') → ∀ (T : Nat → AV) (σ : Sto), T 1 = .int .i64 a1 ∧ T 2 = .ptr b1 0 ∧ T 5 = .int .i64 z0t_5 → Fx τ σ [(b1, ⟨29, 5, [.int .i64 a0.kind, .str a0.name, .int .i64 a0.num, .sl false (rws cI a0.sc), .sl false (rws Fm.cells a0.kids)]⟩)] [] → aLp Try.prog c Q ⟨T, σ⟩) ?_ ?_
  · intro spec_l1Is_l0 L0 a0 a1 r H
    intro σ
    refine hdg mixed Try.func43 (rs := [.tmp 4]) fun q tT => ?_
    have hF := Fx.refl σ
    have hX := Tau.none σ
    refine go ?_
    refine fx_alloc hF rfl fun b1 σ2 hF => ?_
    refine go ?_
    refine cdp H (fun h H => ?_) (fun h H => ?_)
    · refine go ?_
      have e := pur H; subst e
      exact rt [.bool false]
    · refine go ?_
      refine cdp H (fun h H => ?_) (fun h H => ?_)
      · refine go ?_
        obtain ⟨x14, hx14, H⟩ := bnd H
        refine cl (spec_NameValid_ok a0.name _ hx14) ?_
        refine go ?_
        obtain ⟨x19, g3, H⟩ := bnd H
        refine aGd_cutN 3 16 19 (.bool x19) (gi q (fun q => ?_) (fun q => ?_)) (fun J => ?_)
        · refine go ?_
          exact cutd 16 g3
        · refine go ?_
          exact cutd 16 g3
        refine go ?_
        obtain ⟨x24, g5, H⟩ := bnd H
        refine aGd_cutN 3 21 24 (.bool x24) (gi q (fun q => ?_) (fun q => ?_)) (fun J => ?_)
        · rw [if_pos (dbt q)] at g5
          refine go ?_
          obtain ⟨x23, hx23, g5⟩ := bnd g5
          refine cl (spec_l1Scopes_ok a0.sc _ hx23) ?_
          refine go ?_
          exact cutd 21 g5
        · rw [if_neg (dbf q)] at g5
          refine go ?_
          exact cutd 21 g5
        refine go ?_
        obtain ⟨x30, g7, H⟩ := bnd H
        refine aGd_cutN 4 26 30 (.bool x30) (gi q (fun q => ?_) (fun q => ?_)) (fun J => ?_)
        · refine go ?_
          exact cutd 26 g7
        · refine go ?_
          exact cutd 26 g7
        refine go ?_
        have e := pur H; subst e
        exact rt [.bool x30]
      · refine go ?_
        refine cdp H (fun h H => ?_) (fun h H => ?_)
        · refine go ?_
          obtain ⟨x40, g9, H⟩ := bnd H
          refine aGd_cutN 3 37 40 (.bool x40) (gi q (fun q => ?_) (fun q => ?_)) (fun J => ?_)
          · refine go ?_
            exact cutd 37 g9
          · refine go ?_
            exact cutd 37 g9
          refine go ?_
          obtain ⟨x45, g11, H⟩ := bnd H
          refine aGd_cutN 3 42 45 (.bool x45) (gi q (fun q => ?_) (fun q => ?_)) (fun J => ?_)
          · refine go ?_
            exact cutd 42 g11
          · refine go ?_
            exact cutd 42 g11
          refine go ?_
          obtain ⟨x51, g13, H⟩ := bnd H
          refine aGd_cutN 4 47 51 (.bool x51) (gi q (fun q => ?_) (fun q => ?_)) (fun J => ?_)
          · refine go ?_
            exact cutd 47 g13
          · refine go ?_
            exact cutd 47 g13
          refine go ?_
          obtain ⟨x57, g15, H⟩ := bnd H
          refine aGd_cutN 4 53 57 (.bool x57) (gi q (fun q => ?_) (fun q => ?_)) (fun J => ?_)
          · refine go ?_
            exact cutd 53 g15
          · refine go ?_
            exact cutd 53 g15
          refine go ?_
          have e := pur H; subst e
          exact rt [.bool x57]
        · refine go ?_
          obtain ⟨x65, g17, H⟩ := bnd H
          refine aGd_cutN 3 62 65 (.bool x65) (giN q (fun q => ?_) (fun q => ?_)) (fun J => ?_)
          · refine go ?_
            exact cutd 62 g17
          · refine go ?_
            exact cutd 62 g17
          refine go ?_
          obtain ⟨x70, g19, H⟩ := bnd H
          refine aGd_cutN 3 67 70 (.bool x70) (giN q (fun q => ?_) (fun q => ?_)) (fun J => ?_)
          · refine go ?_
            exact cutd 67 g19
          · refine go ?_
            exact cutd 67 g19
          refine go ?_
          obtain ⟨x76, g21, H⟩ := bnd H
          refine aGd_cutN 4 72 76 (.bool x76) (giN q (fun q => ?_) (fun q => ?_)) (fun J => ?_)
          · refine go ?_
            exact cutd 72 g21
          · refine go ?_
            exact cutd 72 g21
          refine go ?_
          refine cdb H (fun h H => ?_) (fun h H => ?_)
          · refine go ?_
            have e := pur H; subst e
            exact rt [.bool false]
          · refine go ?_
            obtain ⟨o23, ho23, H⟩ := bnd H
            refine L0 a0 a1 0 _ ho23 _ rfl _ _ b1 ?_ ?_ _ _  S hF
            · intro _ he T25 σ26 tT hF
              have he := he.symm
              subst he
              try dsimp only at H
              refine go ?_
              have e := pur H; subst e
              exact rt [.bool true]
            · intro r hr s' hs
              subst hr
              have e := pur H; subst e
              exact hsq hs
  · intro spec_l1Is spec_l1Is_l0 C0 L0 a0 a1 z0t_5 out H c hc Q τ b1 hE hR T σ tT hF
    obtain rfl := Option.some.inj ((rfl : loopAt Try.f43 0 = some _).symm.trans hc)
    refine aLoop_round ?_
    have q := dum
    have hX := Tau.none τ
    refine go ?_
    refine cdp H (fun h H => ?_) (fun h H => ?_)
    · obtain ⟨x87, f1, H⟩ := bil (g := Fm.cells) Fm.cells_len H
      refine go1 ?_
      obtain ⟨x91, hx91, H⟩ := bnd H
      refine cl (C0 x87 (IntKind.i64.wrap (a1 - 1)) _ hx91) ?_
      refine go ?_
      refine cdb H (fun h H => ?_) (fun h H => ?_)
      · refine go ?_
        exact wq (hR _ (pur H).symm _ (rt [.bool false]))
      · refine go ?_
        exact L0 a0 a1 (IntKind.i64.wrap (z0t_5 + 1)) _ H _ rfl Q τ b1 hE hR _ _  S hF
    · refine go ?_
      exact wq (hE () (pur H).symm _ _  S hF)
theorem spec_l1Count_ok : ∀ (a0 : Fm) r, spec_l1Count a0 = some r → PCtr Try.prog 44 [.agg (Fm.cells a0)] (.int .i64 r) := by
  refine spec_l1Count.partial_correctness  (motive_1 := fun a0 r => PCtr Try.prog 44 [.agg (Fm.cells a0)] (.int .i64 r)) (motive_2 := fun a0 z0t_3 z0t_4 out => ∀ c, loopAt Try.f44 0 = some c → ∀ (Q : AX → AS → Prop) (τ : Sto) (b1 : Nat), (∀ (e0t_3 : Int), out = e0t_3 → ∀ (T : Nat → AV) (σ : Sto), T 3 = .int .i64 e0t_3 → Fx τ σ [(b1, ⟨29, 5, [.int .i64 a0.kind, .str a0.name, .int .i64 a0.num, .sl false (rws cI a0.sc), .sl false (rws Fm.cells a0.kids)]⟩)] [] → Q (.ex 0) ⟨T, σ⟩) → True → ∀ (T : Nat → AV) (σ : Sto), T 1 = .ptr b1 0 ∧ T 3 = .int .i64 z0t_3 ∧ T 4 = .int .i64 z0t_4 → Fx τ σ [(b1, ⟨29, 5, [.int .i64 a0.kind, .str a0.name, .int .i64 a0.num, .sl false (rws cI a0.sc), .sl false (rws Fm.cells a0.kids)]⟩)] [] → aLp Try.prog c Q ⟨T, σ⟩) ?_ ?_
  · intro spec_l1Count_l0 L0 a0 r H
    intro σ
    refine hdg mixed Try.func44 (rs := [.tmp 2]) fun q tT => ?_
    have hF := Fx.refl σ
    have hX := Tau.none σ
    refine go ?_
    refine fx_alloc hF rfl fun b1 σ2 hF => ?_
    refine go ?_
    obtain ⟨o3, ho3, H⟩ := bnd H
    refine L0 a0 1 0 _ ho3 _ rfl _ _ b1 ?_ ?_ _ _  S hF
    · intro e4t_3 he T5 σ6 tT hF
      have he := he.symm
      subst he
      refine go ?_
      have e := pur H; subst e
      exact rt [.int .i64 e4t_3]
    · trivial
  · intro spec_l1Count spec_l1Count_l0 C0 L0 a0 z0t_3 z0t_4 out H c hc Q τ b1 hE hR T σ tT hF
    obtain rfl := Option.some.inj ((rfl : loopAt Try.f44 0 = some _).symm.trans hc)
    refine aLoop_round ?_
    have q := dum
    have hX := Tau.none τ
    refine go ?_
    refine cdp H (fun h H => ?_) (fun h H => ?_)
    · obtain ⟨x16, f1, H⟩ := bil (g := Fm.cells) Fm.cells_len H
      refine go1 ?_
      obtain ⟨x18, hx18, H⟩ := bnd H
      refine cl (C0 x16 _ hx18) ?_
      refine go ?_
      exact L0 a0 (IntKind.i64.wrap (z0t_3 + x18)) (IntKind.i64.wrap (z0t_4 + 1)) _ H _ rfl Q τ b1 hE hR _ _  S hF
    · refine go ?_
      exact wq (hE _ (pur H).symm _ _  S hF)
theorem spec_FormValid_ok : ∀ (a0 : Fm) r, spec_FormValid a0 = some r → PCtr Try.prog 23 [.agg (Fm.cells a0)] (.bool r) := by
  intro a0 r H
  intro σ
  unfold spec_FormValid at H
  refine hdg mixed Try.func23 (rs := [.tmp 2]) fun q tT => ?_
  have hF := Fx.refl σ
  have hX := Tau.none σ
  refine go ?_
  refine fx_alloc hF rfl fun b1 σ2 hF => ?_
  refine go ?_
  obtain ⟨x4, hx4, H⟩ := bnd H
  refine cl (spec_l1Is_ok a0 40 _ hx4) ?_
  refine go ?_
  obtain ⟨x9, g3, H⟩ := bnd H
  refine aGd_cutN 3 6 9 (.bool x9) (gi q (fun q => ?_) (fun q => ?_)) (fun J => ?_)
  · rw [if_pos (dbt q)] at g3
    refine go ?_
    obtain ⟨x7, hx7, g3⟩ := bnd g3
    refine cl (spec_l1Count_ok a0 _ hx7) ?_
    refine go ?_
    exact cutd 6 g3
  · rw [if_neg (dbf q)] at g3
    refine go ?_
    exact cutd 6 g3
  refine go ?_
  have e := pur H; subst e
  exact rt [.bool x9]
theorem spec_l7In_ok : ∀ (a0 : Int) (a1 : Int) (a2 : Int) r, spec_l7In a0 a1 a2 = some r → PCtr Try.prog 34 [.int .i64 a0, .int .i64 a1, .int .i64 a2] (.bool r) := by
  intro a0 a1 a2 r H
  intro σ
  unfold spec_l7In at H
  refine hdg mixed Try.func34 (rs := [.tmp 6]) fun q tT => ?_
  have hF := Fx.refl σ
  have hX := Tau.none σ
  refine go ?_
  obtain ⟨x14, g1, H⟩ := bnd H
  refine aGd_cutN 3 11 14 (.bool x14) (gi q (fun q => ?_) (fun q => ?_)) (fun J => ?_)
  · refine go ?_
    exact cutd 11 g1
  · refine go ?_
    exact cutd 11 g1
  refine go ?_
  have e := pur H; subst e
  exact rt [.bool x14]
theorem spec_l2Has_l0_ok : ∀ (a0 : List Int) (a1 : Int) (z0t_5 : Int) out, spec_l2Has_l0 a0 a1 z0t_5 = some out → ∀ c, loopAt Try.f50 0 = some c → ∀ (Q : AX → AS → Prop) (τ : Sto), (∀ (_u : Unit), out = Sum.inr () → ∀ (T : Nat → AV) (σ : Sto), 0 + 0 = 0 → Fx τ σ [] [] → Q (.ex 0) ⟨T, σ⟩) → (∀ r, out = Sum.inl r → ∀ s', aRet Try.prog [.tmp 4] (fun r' σ' => r' = .bool r ∧ σ' = τ) s' → Q .ret s') → ∀ (T : Nat → AV) (σ : Sto), T 0 = .sl false (rws cI a0) ∧ T 1 = .int .i64 a1 ∧ T 5 = .int .i64 z0t_5 → Fx τ σ [] [] → aLp Try.prog c Q ⟨T, σ⟩ := by
  intro a0 a1 z0t_5
  revert z0t_5
  refine spec_l2Has_l0.partial_correctness a0 a1 _ ?_
  intro spec_l2Has_l0 IH z0t_5 out H c hc Q τ  hE hR T σ tT hF
  obtain rfl := Option.some.inj ((rfl : loopAt Try.f50 0 = some _).symm.trans hc)
  refine aLoop_round ?_
  have q := dum
  have hX := Tau.none τ
  refine go ?_
  refine cdp H (fun h H => ?_) (fun h H => ?_)
  · obtain ⟨x14, f1, H⟩ := bil (g := cI) (fun _ => rfl) H
    refine go1 ?_
    refine go ?_
    refine cdp H (fun h H => ?_) (fun h H => ?_)
    · refine go ?_
      exact wq (hR _ (pur H).symm _ (rt [.bool true]))
    · refine go ?_
      exact IH  (IntKind.i64.wrap (z0t_5 + 1)) _ H _ rfl Q τ  hE hR _ _  S hF
  · refine go ?_
    exact wq (hE () (pur H).symm _ _  S hF)
theorem spec_l2Has_ok : ∀ (a0 : List Int) (a1 : Int) r, spec_l2Has a0 a1 = some r → PCtr Try.prog 50 [.sl false (rws cI a0), .int .i64 a1] (.bool r) := by
  intro a0 a1 r H
  intro σ
  unfold spec_l2Has at H
  refine hdg mixed Try.func50 (rs := [.tmp 4]) fun q tT => ?_
  have hF := Fx.refl σ
  have hX := Tau.none σ
  refine go ?_
  obtain ⟨o1, ho1, H⟩ := bnd H
  refine spec_l2Has_l0_ok a0 a1 0 _ ho1 _ rfl _ _  ?_ ?_ _ _  S hF
  · intro _ he T3 σ4 tT hF
    have he := he.symm
    subst he
    try dsimp only at H
    refine go ?_
    have e := pur H; subst e
    exact rt [.bool false]
  · intro r hr s' hs
    subst hr
    have e := pur H; subst e
    exact hsq hs
theorem spec_l1Ints_l0_ok : ∀ (a0 : List Int) (a1 : List Int) (z0t_5 : Int) out, spec_l1Ints_l0 a0 a1 z0t_5 = some out → ∀ c, loopAt Try.f65 0 = some c → ∀ (Q : AX → AS → Prop) (τ : Sto), (∀ (_u : Unit), out = Sum.inr () → ∀ (T : Nat → AV) (σ : Sto), 0 + 0 = 0 → Fx τ σ [] [] → Q (.ex 0) ⟨T, σ⟩) → (∀ r, out = Sum.inl r → ∀ s', aRet Try.prog [.tmp 4] (fun r' σ' => r' = .bool r ∧ σ' = τ) s' → Q .ret s') → ∀ (T : Nat → AV) (σ : Sto), T 0 = .sl false (rws cI a0) ∧ T 1 = .sl false (rws cI a1) ∧ T 5 = .int .i64 z0t_5 → Fx τ σ [] [] → aLp Try.prog c Q ⟨T, σ⟩ := by
  intro a0 a1 z0t_5
  revert z0t_5
  refine spec_l1Ints_l0.partial_correctness a0 a1 _ ?_
  intro spec_l1Ints_l0 IH z0t_5 out H c hc Q τ  hE hR T σ tT hF
  obtain rfl := Option.some.inj ((rfl : loopAt Try.f65 0 = some _).symm.trans hc)
  refine aLoop_round ?_
  have q := dum
  have hX := Tau.none τ
  refine go ?_
  refine cdp H (fun h H => ?_) (fun h H => ?_)
  · refine go ?_
    refine draw_text E0 [.v, .v, .v, .v, .v, .v, .v, .v, .v] (by kernel_rfl) ?_
    obtain ⟨x19, f1, H⟩ := bil (g := cI) (fun _ => rfl) H
    obtain ⟨x23, f2, H⟩ := bil (g := cI) (fun _ => rfl) H
    refine go2 ?_
    refine go ?_
    refine cdn H (fun h H => ?_) (fun h H => ?_)
    · refine go ?_
      exact wq (hR _ (pur H).symm _ (rt [.bool false]))
    · refine go ?_
      exact IH  (IntKind.i64.wrap (z0t_5 + 1)) _ H _ rfl Q τ  hE hR _ _  S hF
  · refine go ?_
    exact wq (hE () (pur H).symm _ _  S hF)
theorem spec_l1Ints_ok : ∀ (a0 : List Int) (a1 : List Int) r, spec_l1Ints a0 a1 = some r → PCtr Try.prog 65 [.sl false (rws cI a0), .sl false (rws cI a1)] (.bool r) := by
  intro a0 a1 r H
  intro σ
  unfold spec_l1Ints at H
  refine hdg mixed Try.func65 (rs := [.tmp 4]) fun q tT => ?_
  have hF := Fx.refl σ
  have hX := Tau.none σ
  refine go ?_
  refine cdn H (fun h H => ?_) (fun h H => ?_)
  · refine go ?_
    have e := pur H; subst e
    exact rt [.bool false]
  · refine go ?_
    obtain ⟨o1, ho1, H⟩ := bnd H
    refine spec_l1Ints_l0_ok a0 a1 0 _ ho1 _ rfl _ _  ?_ ?_ _ _  S hF
    · intro _ he T3 σ4 tT hF
      have he := he.symm
      subst he
      try dsimp only at H
      refine go ?_
      have e := pur H; subst e
      exact rt [.bool true]
    · intro r hr s' hs
      subst hr
      have e := pur H; subst e
      exact hsq hs
theorem spec_FormSame_ok : ∀ (a0 : Fm) (a1 : Fm) r, spec_FormSame a0 a1 = some r → PCtr Try.prog 60 [.agg (Fm.cells a0), .agg (Fm.cells a1)] (.bool r) := by
  refine spec_FormSame.partial_correctness  (motive_1 := fun a0 a1 r => PCtr Try.prog 60 [.agg (Fm.cells a0), .agg (Fm.cells a1)] (.bool r)) (motive_2 := fun a0 a1 z0t_5 out => ∀ c, loopAt Try.f60 0 = some c → ∀ (Q : AX → AS → Prop) (τ : Sto) (b1 : Nat) (b3 : Nat), (∀ (_u : Unit), out = Sum.inr () → ∀ (T : Nat → AV) (σ : Sto), 0 + 0 = 0 → Fx τ σ [(b3, ⟨29, 5, [.int .i64 a1.kind, .str a1.name, .int .i64 a1.num, .sl false (rws cI a1.sc), .sl false (rws Fm.cells a1.kids)]⟩), (b1, ⟨29, 5, [.int .i64 a0.kind, .str a0.name, .int .i64 a0.num, .sl false (rws cI a0.sc), .sl false (rws Fm.cells a0.kids)]⟩)] [] → Q (.ex 0) ⟨T, σ⟩) → (∀ r, out = Sum.inl r → ∀ s', aRet Try.prog [.tmp 4] (fun r' σ' => r' = .bool r ∧ σ' = τ) s' → Q .ret s') → ∀ (T : Nat → AV) (σ : Sto), T 2 = .ptr b1 0 ∧ T 3 = .ptr b3 0 ∧ T 5 = .int .i64 z0t_5 → Fx τ σ [(b3, ⟨29, 5, [.int .i64 a1.kind, .str a1.name, .int .i64 a1.num, .sl false (rws cI a1.sc), .sl false (rws Fm.cells a1.kids)]⟩), (b1, ⟨29, 5, [.int .i64 a0.kind, .str a0.name, .int .i64 a0.num, .sl false (rws cI a0.sc), .sl false (rws Fm.cells a0.kids)]⟩)] [] → aLp Try.prog c Q ⟨T, σ⟩) ?_ ?_
  · intro spec_FormSame_l0 L0 a0 a1 r H
    intro σ
    refine hdg mixed Try.func60 (rs := [.tmp 4]) fun q tT => ?_
    have hF := Fx.refl σ
    have hX := Tau.none σ
    refine go ?_
    refine fx_alloc hF rfl fun b1 σ2 hF => ?_
    refine go ?_
    refine fx_alloc hF rfl fun b3 σ4 hF => ?_
    refine go ?_
    obtain ⟨x17, g5, H⟩ := bnd H
    refine aGd_cutN 5 12 17 (.bool x17) (giN q (fun q => ?_) (fun q => ?_)) (fun J => ?_)
    · refine go ?_
      exact cutd 12 g5
    · refine go ?_
      exact cutd 12 g5
    refine go ?_
    obtain ⟨x24, g7, H⟩ := bnd H
    refine aGd_cutN 5 19 24 (.bool x24) (giN q (fun q => ?_) (fun q => ?_)) (fun J => ?_)
    · refine go ?_
      exact cutd 19 g7
    · refine go ?_
      exact cutd 19 g7
    refine go ?_
    obtain ⟨x32, g9, H⟩ := bnd H
    refine aGd_cutN 6 26 32 (.bool x32) (giN q (fun q => ?_) (fun q => ?_)) (fun J => ?_)
    · rw [if_neg (dbf q)] at g9
      refine go ?_
      obtain ⟨x30, hx30, g9⟩ := bnd g9
      refine cl (spec_l1Ints_ok a0.sc a1.sc _ hx30) ?_
      refine go ?_
      exact cutd 26 g9
    · rw [if_pos (dbt q)] at g9
      refine go ?_
      exact cutd 26 g9
    refine go ?_
    obtain ⟨x41, g11, H⟩ := bnd H
    refine aGd_cutN 7 34 41 (.bool x41) (giN q (fun q => ?_) (fun q => ?_)) (fun J => ?_)
    · refine go ?_
      exact cutd 34 g11
    · refine go ?_
      exact cutd 34 g11
    refine go ?_
    refine cdb H (fun h H => ?_) (fun h H => ?_)
    · refine go ?_
      have e := pur H; subst e
      exact rt [.bool false]
    · refine go ?_
      obtain ⟨o13, ho13, H⟩ := bnd H
      refine L0 a0 a1 0 _ ho13 _ rfl _ _ b1 b3 ?_ ?_ _ _  S hF
      · intro _ he T15 σ16 tT hF
        have he := he.symm
        subst he
        try dsimp only at H
        refine go ?_
        have e := pur H; subst e
        exact rt [.bool true]
      · intro r hr s' hs
        subst hr
        have e := pur H; subst e
        exact hsq hs
  · intro spec_FormSame spec_FormSame_l0 C0 L0 a0 a1 z0t_5 out H c hc Q τ b1 b3 hE hR T σ tT hF
    obtain rfl := Option.some.inj ((rfl : loopAt Try.f60 0 = some _).symm.trans hc)
    refine aLoop_round ?_
    have q := dum
    have hX := Tau.none τ
    refine go ?_
    refine cdp H (fun h H => ?_) (fun h H => ?_)
    · refine go ?_
      refine draw_text E0 [.v, .v, .v, .v, .v, .v, .v, .v, .v, .v, .v, .v] (by kernel_rfl) ?_
      obtain ⟨x52, f1, H⟩ := bil (g := Fm.cells) Fm.cells_len H
      obtain ⟨x57, f2, H⟩ := bil (g := Fm.cells) Fm.cells_len H
      refine go2 ?_
      obtain ⟨x59, hx59, H⟩ := bnd H
      refine cv (C0 x52 x57 _ hx59) ?_
      refine go ?_
      refine cdb H (fun h H => ?_) (fun h H => ?_)
      · refine go ?_
        exact wq (hR _ (pur H).symm _ (rt [.bool false]))
      · refine go ?_
        exact L0 a0 a1 (IntKind.i64.wrap (z0t_5 + 1)) _ H _ rfl Q τ b1 b3 hE hR _ _  S hF
    · refine go ?_
      exact wq (hE () (pur H).symm _ _  S hF)
theorem spec_l4In_l0_ok : ∀ (a0 : List Fm) (a1 : Fm) (z0t_5 : Int) out, spec_l4In_l0 a0 a1 z0t_5 = some out → ∀ c, loopAt Try.f51 0 = some c → ∀ (Q : AX → AS → Prop) (τ : Sto) (b1 : Nat), (∀ (_u : Unit), out = Sum.inr () → ∀ (T : Nat → AV) (σ : Sto), 0 + 0 = 0 → Fx τ σ [(b1, ⟨29, 5, [.int .i64 a1.kind, .str a1.name, .int .i64 a1.num, .sl false (rws cI a1.sc), .sl false (rws Fm.cells a1.kids)]⟩)] [] → Q (.ex 0) ⟨T, σ⟩) → (∀ r, out = Sum.inl r → ∀ s', aRet Try.prog [.tmp 4] (fun r' σ' => r' = .bool r ∧ σ' = τ) s' → Q .ret s') → ∀ (T : Nat → AV) (σ : Sto), T 0 = .sl false (rws Fm.cells a0) ∧ T 3 = .ptr b1 0 ∧ T 5 = .int .i64 z0t_5 → Fx τ σ [(b1, ⟨29, 5, [.int .i64 a1.kind, .str a1.name, .int .i64 a1.num, .sl false (rws cI a1.sc), .sl false (rws Fm.cells a1.kids)]⟩)] [] → aLp Try.prog c Q ⟨T, σ⟩ := by
  intro a0 a1 z0t_5
  revert z0t_5
  refine spec_l4In_l0.partial_correctness a0 a1 _ ?_
  intro spec_l4In_l0 IH z0t_5 out H c hc Q τ b1 hE hR T σ tT hF
  obtain rfl := Option.some.inj ((rfl : loopAt Try.f51 0 = some _).symm.trans hc)
  refine aLoop_round ?_
  have q := dum
  have hX := Tau.none τ
  refine go ?_
  refine cdp H (fun h H => ?_) (fun h H => ?_)
  · refine go ?_
    refine draw_text E0 [.v, .v, .v, .v, .v, .v] (by kernel_rfl) ?_
    obtain ⟨x14, f1, H⟩ := bil (g := Fm.cells) Fm.cells_len H
    refine go1 ?_
    obtain ⟨x17, hx17, H⟩ := bnd H
    refine cv (spec_FormSame_ok x14 a1 _ hx17) ?_
    refine go ?_
    refine cdb H (fun h H => ?_) (fun h H => ?_)
    · refine go ?_
      exact wq (hR _ (pur H).symm _ (rt [.bool true]))
    · refine go ?_
      exact IH  (IntKind.i64.wrap (z0t_5 + 1)) _ H _ rfl Q τ b1 hE hR _ _  S hF
  · refine go ?_
    exact wq (hE () (pur H).symm _ _  S hF)
theorem spec_l4In_ok : ∀ (a0 : List Fm) (a1 : Fm) r, spec_l4In a0 a1 = some r → PCtr Try.prog 51 [.sl false (rws Fm.cells a0), .agg (Fm.cells a1)] (.bool r) := by
  intro a0 a1 r H
  intro σ
  unfold spec_l4In at H
  refine hdg mixed Try.func51 (rs := [.tmp 4]) fun q tT => ?_
  have hF := Fx.refl σ
  have hX := Tau.none σ
  refine go ?_
  refine fx_alloc hF rfl fun b1 σ2 hF => ?_
  refine go ?_
  obtain ⟨o3, ho3, H⟩ := bnd H
  refine spec_l4In_l0_ok a0 a1 0 _ ho3 _ rfl _ _ b1 ?_ ?_ _ _  S hF
  · intro _ he T5 σ6 tT hF
    have he := he.symm
    subst he
    try dsimp only at H
    refine go ?_
    have e := pur H; subst e
    exact rt [.bool false]
  · intro r hr s' hs
    subst hr
    have e := pur H; subst e
    exact hsq hs
theorem spec_l1Copy_ok : ∀ (a0 : Fm) r, spec_l1Copy a0 = some r → PCtr Try.prog 52 [.agg (Fm.cells a0)] (.agg (Fm.cells r)) := by
  refine spec_l1Copy.partial_correctness  (motive_1 := fun a0 r => PCtr Try.prog 52 [.agg (Fm.cells a0)] (.agg (Fm.cells r))) (motive_2 := fun a0 x14 z0o_0 z0t_4 out => ∀ c, loopAt Try.f52 0 = some c → ∀ (Q : AX → AS → Prop) (τ : Sto) (b1 : Nat) (b3 : Nat) (b5 : Nat), (∀ (e0o_0 : List Fm), out = e0o_0 → ∀ (T : Nat → AV) (σ : Sto) (e0v0 : AV), T 2 = .ptr b3 0 ∧ T 3 = .ptr b5 0 → Fx τ σ [(b5, ⟨29, 5, [.int .i64 a0.kind, .str a0.name, .int .i64 a0.num, .sl false (rws cI x14), e0v0]⟩), (b3, ⟨29, 5, [.int .i64 0, .str (ByteArray.mk #[]), .int .i64 0, .nilsl, .nilsl]⟩), (b1, ⟨29, 5, [.int .i64 a0.kind, .str a0.name, .int .i64 a0.num, .sl false (rws cI a0.sc), .sl false (rws Fm.cells a0.kids)]⟩)] [⟨e0v0, 29, 5, rws Fm.cells e0o_0⟩] → Q (.ex 0) ⟨T, σ⟩) → True → ∀ (T : Nat → AV) (σ : Sto) (z0v0 : AV), T 1 = .ptr b1 0 ∧ T 2 = .ptr b3 0 ∧ T 3 = .ptr b5 0 ∧ T 4 = .int .i64 z0t_4 → Fx τ σ [(b5, ⟨29, 5, [.int .i64 a0.kind, .str a0.name, .int .i64 a0.num, .sl false (rws cI x14), z0v0]⟩), (b3, ⟨29, 5, [.int .i64 0, .str (ByteArray.mk #[]), .int .i64 0, .nilsl, .nilsl]⟩), (b1, ⟨29, 5, [.int .i64 a0.kind, .str a0.name, .int .i64 a0.num, .sl false (rws cI a0.sc), .sl false (rws Fm.cells a0.kids)]⟩)] [⟨z0v0, 29, 5, rws Fm.cells z0o_0⟩] → aLp Try.prog c Q ⟨T, σ⟩) ?_ ?_
  · intro spec_l1Copy_l0 L0 a0 r H
    intro σ
    refine hdg mixed Try.func52 (rs := [.cell 2 29]) fun q tT => ?_
    have hF := Fx.refl σ
    have hX := Tau.none σ
    refine go ?_
    refine fx_alloc hF rfl fun b1 σ2 hF => ?_
    refine go ?_
    refine fx_alloc hF rfl fun b3 σ4 hF => ?_
    refine go ?_
    refine draw_text E0 [.v, .v, .v, .v, .v, .v, .v, .v, .v, .v, .v, .x, .z] (by kernel_rfl) ?_
    refine go ?_
    obtain ⟨x14, hx14, H⟩ := bnd H
    refine vApp_g (g := cI) (xs := []) (ys := a0.sc) (fun _ => rfl) (by decide) (by decide) (.inr (by first | rfl | simp only [rws_cons, rws_nil, cI, cU, cS, cL])) (.inr ⟨_, by first | rfl | simp only [rws_cons, rws_nil, cI, cU, cS, cL]⟩) hx14 ?_
    refine go ?_
    refine fx_allocK hF rfl fun b5 σ6 hF => ?_
    refine go ?_
    refine st hF 0 rfl fun σ7 hF => ?_
    have hF := hF.nil 29 5
    refine go ?_
    obtain ⟨o11, ho11, H⟩ := bnd H
    refine L0 a0 x14 [] 0 _ ho11 _ rfl _ _ b1 b3 b5 ?_ ?_ _ _ .nilsl S hF
    · intro e12o_0 he T13 σ14 e12v0 tT hF
      have he := he.symm
      subst he
      refine go ?_
      refine st hF 1 rfl fun σ16 hF => ?_
      refine go ?_
      have e := pur H; subst e
      exact rt [.agg [.int .i64 a0.kind, .str a0.name, .int .i64 a0.num, .sl false (rws cI x14), e12v0]]
    · trivial
  · intro spec_l1Copy spec_l1Copy_l0 C0 L0 a0 x14 z0o_0 z0t_4 out H c hc Q τ b1 b3 b5 hE hR T σ z0v0 tT hF
    obtain rfl := Option.some.inj ((rfl : loopAt Try.f52 0 = some _).symm.trans hc)
    refine aLoop_round ?_
    have q := dum
    have hX := Tau.none τ
    refine go ?_
    refine cdp H (fun h H => ?_) (fun h H => ?_)
    · refine go ?_
      refine draw_text E0 [.v, .v, .v, .v, .v, .v, .v, .v, .v, .x, .v, .z] (by kernel_rfl) ?_
      obtain ⟨x28, f1, H⟩ := bil (g := Fm.cells) Fm.cells_len H
      refine go1 ?_
      obtain ⟨x30, hx30, H⟩ := bnd H
      refine cv (C0 x28 _ hx30) ?_
      refine go ?_
      refine apdK (g := Fm.cells) hF 0 H (rdo (c := true) (g := Fm.cells) Fm.cells_len) fun x32 H v8 σ9 hF => ?_
      refine go ?_
      refine st hF 0 (hF.cells 0 rfl) fun σ10 hF => ?_
      refine go ?_
      exact L0 a0 x14 x32 (IntKind.i64.wrap (z0t_4 + 1)) _ H _ rfl Q τ b1 b3 b5 hE hR _ _ v8 S hF
    · refine go ?_
      exact wq (hE _ (pur H).symm _ _ z0v0 S hF)
theorem spec_l10Names_o0_ok : ∀ (a0 : List Fm) (a1 : Fm) (a2 : Int) r, spec_l10Names_o0 a0 a1 a2 = some r → ∀  (p0 : AV) (σ : Sto), Pre σ [] [⟨p0, 29, 5, rws Fm.cells a0⟩] → Ctr Try.prog 35 [p0, .agg (Fm.cells a1), .int .i64 a2] σ (fun r' σ' => ∃ (τ' : Sto) (w0 : AV), r' = w0 ∧ Tau (strip σ [⟨p0, 29, 5, rws Fm.cells a0⟩]) [] τ' ∧ Fx τ' σ' [] [⟨w0, 29, 5, rws Fm.cells r⟩]) := by
  intro a0 a1 a2
  revert a0 a1
  refine spec_l10Names_o0.partial_correctness a2 (motive_1 := fun a0 a1 r => ∀  (p0 : AV) (σ : Sto), Pre σ [] [⟨p0, 29, 5, rws Fm.cells a0⟩] → Ctr Try.prog 35 [p0, .agg (Fm.cells a1), .int .i64 a2] σ (fun r' σ' => ∃ (τ' : Sto) (w0 : AV), r' = w0 ∧ Tau (strip σ [⟨p0, 29, 5, rws Fm.cells a0⟩]) [] τ' ∧ Fx τ' σ' [] [⟨w0, 29, 5, rws Fm.cells r⟩])) (motive_2 := fun a1 z0o_0 z0t_7 out => ∀ c, loopAt Try.f35 0 = some c → ∀ (Q : AX → AS → Prop) (τ0 : Sto) (b1 : Nat), (∀ (e0o_0 : List Fm), out = e0o_0 → ∀ (T : Nat → AV) (σ : Sto) (τ : Sto) (e0v0 : AV), T 0 = e0v0 → Tau τ0 [] τ → Fx τ σ [(b1, ⟨29, 5, [.int .i64 a1.kind, .str a1.name, .int .i64 a1.num, .sl false (rws cI a1.sc), .sl false (rws Fm.cells a1.kids)]⟩)] [⟨e0v0, 29, 5, rws Fm.cells e0o_0⟩] → Q (.ex 0) ⟨T, σ⟩) → True → ∀ (T : Nat → AV) (σ : Sto) (τ : Sto) (z0v0 : AV), T 0 = z0v0 ∧ T 2 = .int .i64 a2 ∧ T 4 = .ptr b1 0 ∧ T 7 = .int .i64 z0t_7 → Tau τ0 [] τ → Fx τ σ [(b1, ⟨29, 5, [.int .i64 a1.kind, .str a1.name, .int .i64 a1.num, .sl false (rws cI a1.sc), .sl false (rws Fm.cells a1.kids)]⟩)] [⟨z0v0, 29, 5, rws Fm.cells z0o_0⟩] → aLp Try.prog c Q ⟨T, σ⟩) ?_ ?_
  · intro spec_l10Names_o0_l0 L0 a0 a1 r H
    intro  p0 σ hP
    refine hdg mixed Try.func35 (rs := [.tmp 6]) fun q tT => ?_
    obtain ⟨hF, hX⟩ := hP.start
    generalize strip σ [⟨p0, 29, 5, rws Fm.cells a0⟩] = τ0 at hF hX ⊢
    refine go ?_
    refine fx_alloc hF rfl fun b1 σ2 hF => ?_
    refine go ?_
    obtain ⟨x16, g3, H⟩ := bnd H
    refine aGd_cutN 4 12 16 (.bool x16) (gi q (fun q => ?_) (fun q => ?_)) (fun J => ?_)
    · rw [if_pos (dt q)] at g3
      refine go ?_
      obtain ⟨x15, hx15, g3⟩ := bnd g3
      refine cl (spec_l2Has_ok a1.sc a2 _ hx15) ?_
      refine go ?_
      exact cutd 12 g3
    · rw [if_neg (df q)] at g3
      refine go ?_
      exact cutd 12 g3
    refine go ?_
    obtain ⟨x22, g5, H⟩ := bnd H
    refine aGd_cutN 4 18 22 (.bool x22) (gi q (fun q => ?_) (fun q => ?_)) (fun J => ?_)
    · rw [if_pos (dbt q)] at g5
      refine go ?_
      obtain ⟨x20, hx20, g5⟩ := bnd g5
      refine aCall_flat (spec_l4In_ok a0 a1 _ hx20) .bool (by (try simp only [Fm.cells_eq]); exact (.cons ((hF.wk 0 rfl).trans (Wk.sub (Sub.zero _) _)) (fun _ => rfl) (.cons (Wk.agg (Sub.zero _) (.cons (Wk.sub (Sub.zero _) _) id (.cons (Wk.sub (Sub.zero _) _) id (.cons (Wk.sub (Sub.zero _) _) id (.cons (Wk.sub (Sub.zero _) _) id (.cons (Wk.sub (Sub.zero _) _) id .nil)))))) (fun h => by first | exact h | rfl) .nil))) ?_
      refine go ?_
      exact cutd 18 g5
    · rw [if_neg (dbf q)] at g5
      refine go ?_
      exact cutd 18 g5
    refine go ?_
    obtain ⟨y7o_0, j8, H⟩ := bnd H
    refine aCnd_join (fun s' => ∃ (T : Nat → AV) (σ1 : Sto) (τ1 : Sto) (y7v0 : AV), s' = ⟨T, σ1⟩ ∧ (T 0 = y7v0 ∧ T 2 = .int .i64 a2 ∧ T 4 = .ptr b1 0) ∧ Tau τ0 [] τ1 ∧ Fx τ1 σ1 [(b1, ⟨29, 5, [.int .i64 a1.kind, .str a1.name, .int .i64 a1.num, .sl false (rws cI a1.sc), .sl false (rws Fm.cells a1.kids)]⟩)] [⟨y7v0, 29, 5, rws Fm.cells y7o_0⟩]) (cdb j8 (fun h j8 => ?_) (fun h j8 => ?_)) ?_
    · refine go ?_
      obtain ⟨x25, hx25, j8⟩ := bnd j8
      refine cl (spec_l1Copy_ok a1 _ hx25) ?_
      refine go ?_
      refine apd (g := Fm.cells) hF 0 j8 (rdo (c := true) (g := Fm.cells) Fm.cells_len) fun x27 j8 v9 σ10 hF => ?_
      refine go ?_
      have e := pur j8
      subst e
      exact ⟨_, _, _, v9, rfl, S, hX, hF⟩
    · refine go ?_
      have e := pur j8
      subst e
      exact ⟨_, _, _, p0, rfl, S, hX, hF⟩
    · rintro s' ⟨T11, σ12, τ13, y7v0, rfl, tT, hX, hF⟩
      refine go ?_
      obtain ⟨o18, ho18, H⟩ := bnd H
      refine L0 a1 y7o_0 0 _ ho18 _ rfl _ τ0 b1 ?_ ?_ _ _ _ y7v0 S hX hF
      · intro e19o_0 he T20 σ21 τ22 e19v0 tT hX hF
        have he := he.symm
        subst he
        refine go ?_
        have e := pur H; subst e
        exact rg [e19v0] ⟨_, _, rfl, hX, hF.pick [] [0] (by decide) (by decide)⟩
      · trivial
  · intro spec_l10Names_o0 spec_l10Names_o0_l0 C0 L0 a1 z0o_0 z0t_7 out H c hc Q τ0 b1 hE hR T σ τ z0v0 tT hX hF
    obtain rfl := Option.some.inj ((rfl : loopAt Try.f35 0 = some _).symm.trans hc)
    refine aLoop_round ?_
    have q := dum
    refine go ?_
    refine cdp H (fun h H => ?_) (fun h H => ?_)
    · obtain ⟨x39, f1, H⟩ := bil (g := Fm.cells) Fm.cells_len H
      refine go1 ?_
      obtain ⟨x42, hx42, H⟩ := bnd H
      refine cx (C0 z0o_0 x39 _ hx42  z0v0 _ (pre 0 0 1 hF hX)) ?_
      rintro v14 σ15 ⟨τ16, _, rfl, hT, hG⟩
      obtain ⟨τ17, hX, hF⟩ := aft 0 0 1 hF hX hT hG
      refine go ?_
      exact L0 a1 x42 (IntKind.i64.wrap (z0t_7 + 1)) _ H _ rfl Q τ0 b1 hE hR _ _ _ v14 S hX hF
    · refine go ?_
      exact wq (hE _ (pur H).symm _ _ _ z0v0 S hX hF)
theorem spec_l10Names_l0_ok : ∀ (a1 : Fm) (a2 : Int) (z0o_0 : List Fm) (z0t_7 : Int) out, spec_l10Names_l0 a1 a2 z0o_0 z0t_7 = some out → ∀ c, loopAt Try.f35 0 = some c → ∀ (Q : AX → AS → Prop) (τ0 : Sto) (b1 : Nat), (∀ (e0o_0 : List Fm), out = e0o_0 → ∀ (T : Nat → AV) (σ : Sto) (τ : Sto) (e0v0 : AV), T 0 = e0v0 → Tau τ0 [] τ → Fx τ σ [(b1, ⟨29, 5, [.int .i64 a1.kind, .str a1.name, .int .i64 a1.num, .sl false (rws cI a1.sc), .sl false (rws Fm.cells a1.kids)]⟩)] [⟨e0v0, 29, 5, rws Fm.cells e0o_0⟩] → Q (.ex 0) ⟨T, σ⟩) → True → ∀ (T : Nat → AV) (σ : Sto) (τ : Sto) (z0v0 : AV), T 0 = z0v0 ∧ T 2 = .int .i64 a2 ∧ T 4 = .ptr b1 0 ∧ T 7 = .int .i64 z0t_7 → Tau τ0 [] τ → Fx τ σ [(b1, ⟨29, 5, [.int .i64 a1.kind, .str a1.name, .int .i64 a1.num, .sl false (rws cI a1.sc), .sl false (rws Fm.cells a1.kids)]⟩)] [⟨z0v0, 29, 5, rws Fm.cells z0o_0⟩] → aLp Try.prog c Q ⟨T, σ⟩ := by
  intro a1 a2 z0o_0 z0t_7
  revert z0o_0 z0t_7
  refine spec_l10Names_l0.partial_correctness a1 a2 _ ?_
  intro spec_l10Names_l0 IH z0o_0 z0t_7 out H c hc Q τ0 b1 hE hR T σ τ z0v0 tT hX hF
  obtain rfl := Option.some.inj ((rfl : loopAt Try.f35 0 = some _).symm.trans hc)
  refine aLoop_round ?_
  have q := dum
  refine go ?_
  refine cdp H (fun h H => ?_) (fun h H => ?_)
  · obtain ⟨x39, f1, H⟩ := bil (g := Fm.cells) Fm.cells_len H
    refine go1 ?_
    obtain ⟨x42, hx42, H⟩ := bnd H
    refine cx (spec_l10Names_o0_ok z0o_0 x39 a2 _ hx42  z0v0 _ (pre 0 0 1 hF hX)) ?_
    rintro v14 σ15 ⟨τ16, _, rfl, hT, hG⟩
    obtain ⟨τ17, hX, hF⟩ := aft 0 0 1 hF hX hT hG
    refine go ?_
    exact IH  x42 (IntKind.i64.wrap (z0t_7 + 1)) _ H _ rfl Q τ0 b1 hE hR _ _ _ v14 S hX hF
  · refine go ?_
    exact wq (hE _ (pur H).symm _ _ _ z0v0 S hX hF)
theorem spec_l10Names_ok : ∀ (a0 : List Fm) (a1 : Fm) (a2 : Int) r, spec_l10Names a0 a1 a2 = some r → ∀  (p0 : AV) (σ : Sto), Pre σ [] [⟨p0, 29, 5, rws Fm.cells a0⟩] → Ctr Try.prog 35 [p0, .agg (Fm.cells a1), .int .i64 a2] σ (fun r' σ' => ∃ (τ' : Sto), r' = .sl false (rws Fm.cells r) ∧ Tau (strip σ [⟨p0, 29, 5, rws Fm.cells a0⟩]) [] τ' ∧ Fx τ' σ' [] []) := by
  intro a0 a1 a2 r H
  intro  p0 σ hP
  unfold spec_l10Names at H
  refine hdg mixed Try.func35 (rs := [.tmp 6]) fun q tT => ?_
  obtain ⟨hF, hX⟩ := hP.start
  generalize strip σ [⟨p0, 29, 5, rws Fm.cells a0⟩] = τ0 at hF hX ⊢
  refine go ?_
  refine fx_alloc hF rfl fun b1 σ2 hF => ?_
  refine go ?_
  obtain ⟨x16, g3, H⟩ := bnd H
  refine aGd_cutN 4 12 16 (.bool x16) (gi q (fun q => ?_) (fun q => ?_)) (fun J => ?_)
  · rw [if_pos (dt q)] at g3
    refine go ?_
    obtain ⟨x15, hx15, g3⟩ := bnd g3
    refine cl (spec_l2Has_ok a1.sc a2 _ hx15) ?_
    refine go ?_
    exact cutd 12 g3
  · rw [if_neg (df q)] at g3
    refine go ?_
    exact cutd 12 g3
  refine go ?_
  obtain ⟨x22, g5, H⟩ := bnd H
  refine aGd_cutN 4 18 22 (.bool x22) (gi q (fun q => ?_) (fun q => ?_)) (fun J => ?_)
  · rw [if_pos (dbt q)] at g5
    refine go ?_
    obtain ⟨x20, hx20, g5⟩ := bnd g5
    refine aCall_flat (spec_l4In_ok a0 a1 _ hx20) .bool (by (try simp only [Fm.cells_eq]); exact (.cons ((hF.wk 0 rfl).trans (Wk.sub (Sub.zero _) _)) (fun _ => rfl) (.cons (Wk.agg (Sub.zero _) (.cons (Wk.sub (Sub.zero _) _) id (.cons (Wk.sub (Sub.zero _) _) id (.cons (Wk.sub (Sub.zero _) _) id (.cons (Wk.sub (Sub.zero _) _) id (.cons (Wk.sub (Sub.zero _) _) id .nil)))))) (fun h => by first | exact h | rfl) .nil))) ?_
    refine go ?_
    exact cutd 18 g5
  · rw [if_neg (dbf q)] at g5
    refine go ?_
    exact cutd 18 g5
  refine go ?_
  obtain ⟨y7o_0, j8, H⟩ := bnd H
  refine aCnd_join (fun s' => ∃ (T : Nat → AV) (σ1 : Sto) (τ1 : Sto) (y7v0 : AV), s' = ⟨T, σ1⟩ ∧ (T 0 = y7v0 ∧ T 2 = .int .i64 a2 ∧ T 4 = .ptr b1 0) ∧ Tau τ0 [] τ1 ∧ Fx τ1 σ1 [(b1, ⟨29, 5, [.int .i64 a1.kind, .str a1.name, .int .i64 a1.num, .sl false (rws cI a1.sc), .sl false (rws Fm.cells a1.kids)]⟩)] [⟨y7v0, 29, 5, rws Fm.cells y7o_0⟩]) (cdb j8 (fun h j8 => ?_) (fun h j8 => ?_)) ?_
  · refine go ?_
    obtain ⟨x25, hx25, j8⟩ := bnd j8
    refine cl (spec_l1Copy_ok a1 _ hx25) ?_
    refine go ?_
    refine apd (g := Fm.cells) hF 0 j8 (rdo (c := true) (g := Fm.cells) Fm.cells_len) fun x27 j8 v9 σ10 hF => ?_
    refine go ?_
    have e := pur j8
    subst e
    exact ⟨_, _, _, v9, rfl, S, hX, hF⟩
  · refine go ?_
    have e := pur j8
    subst e
    exact ⟨_, _, _, p0, rfl, S, hX, hF⟩
  · rintro s' ⟨T11, σ12, τ13, y7v0, rfl, tT, hX, hF⟩
    refine go ?_
    obtain ⟨o18, ho18, H⟩ := bnd H
    refine spec_l10Names_l0_ok a1 a2 y7o_0 0 _ ho18 _ rfl _ τ0 b1 ?_ ?_ _ _ _ y7v0 S hX hF
    · intro e19o_0 he T20 σ21 τ22 e19v0 tT hX hF
      have he := he.symm
      subst he
      refine go ?_
      have e := pur H; subst e
      exact rg [e19v0] ⟨_, rfl, hX, Fx.self _⟩
    · trivial
theorem spec_IntroducedNames_ok : ∀ (a0 : Stp) r, spec_IntroducedNames a0 = some r → PCtr Try.prog 13 [.agg (Stp.cells a0)] (.sl false (rws Fm.cells r)) := by
  intro a0 r H
  intro σ
  unfold spec_IntroducedNames at H
  refine hdg mixed Try.func13 (rs := [.tmp 2]) fun q tT => ?_
  have hF := Fx.refl σ
  have hX := Tau.none σ
  refine go ?_
  refine fx_alloc hF rfl fun b1 σ2 hF => ?_
  refine go ?_
  obtain ⟨x5, hx5, H⟩ := bnd H
  refine cl (spec_FormValid_ok a0.res _ hx5) ?_
  refine go ?_
  obtain ⟨x12, g3, H⟩ := bnd H
  refine aGd_cutN 4 8 12 (.bool x12) (giN q (fun q => ?_) (fun q => ?_)) (fun J => ?_)
  · rw [if_neg (dbf q)] at g3
    refine go ?_
    obtain ⟨x10, hx10, g3⟩ := bnd g3
    refine cl (spec_l7In_ok a0.scope 1 99 _ hx10) ?_
    refine go ?_
    exact cutd 8 g3
  · rw [if_pos (dbt q)] at g3
    refine go ?_
    exact cutd 8 g3
  refine go ?_
  refine cdb H (fun h H => ?_) (fun h H => ?_)
  · refine go ?_
    have e := pur H; subst e
    exact rt [.sl true (rws Fm.cells [])]
  · have hF := hF.lit 29 5 (rws Fm.cells []) rfl
    refine go ?_
    obtain ⟨x19, hx19, H⟩ := bnd H
    refine cx (spec_l10Names_ok [] a0.res a0.scope _ hx19  (.sl true (rws Fm.cells [])) _ (pre 0 0 1 hF hX)) ?_
    rintro _ σ5 ⟨τ6, rfl, hT, hG⟩
    have hF := aftP 0 1 hF hX hT hG
    refine go ?_
    have e := pur H; subst e
    exact rt [.sl false (rws Fm.cells x19)]
theorem laws_szIntS_ok : ∀ (a0 : List Int) (a1 : Int) r, laws_szIntS a0 a1 = some r → PCtr Try.prog 21 [.sl false (rws cI a0), .int .i64 a1] (.int .i64 r) := by
  intro a0 a1 r H
  intro σ
  unfold laws_szIntS at H
  refine hdg mixed Try.func21 (rs := [.tmp 4]) fun q tT => ?_
  have hF := Fx.refl σ
  have hX := Tau.none σ
  refine go ?_
  refine cdp H (fun h H => ?_) (fun h H => ?_)
  · refine go ?_
    have e := pur H; subst e
    exact rt [.int .i64 (-1)]
  · refine go ?_
    have e := pur H; subst e
    exact rt [.int .i64 (IntKind.i64.wrap (a1 - (a0.length : Int)))]
theorem laws_szForm_all : (∀ (a0 : Fm) (a1 : Int) r, laws_szForm a0 a1 = some r → PCtr Try.prog 5 [.agg (Fm.cells a0), .int .i64 a1] (.int .i64 r)) ∧ (∀ (a0 : List Fm) (a1 : Int) r, laws_szFormS a0 a1 = some r → PCtr Try.prog 22 [.sl false (rws Fm.cells a0), .int .i64 a1] (.int .i64 r)) := by
  have h := laws_szForm.mutual_partial_correctness  (motive_1 := fun a0 a1 r => PCtr Try.prog 5 [.agg (Fm.cells a0), .int .i64 a1] (.int .i64 r)) (motive_2 := fun a0 a1 r => PCtr Try.prog 22 [.sl false (rws Fm.cells a0), .int .i64 a1] (.int .i64 r)) (motive_3 := fun a0 z0t_1 z0t_5 out => ∀ c, loopAt Try.f22 0 = some c → ∀ (Q : AX → AS → Prop) (τ : Sto), (∀ (e0t_1 : Int), out = Sum.inr e0t_1 → ∀ (T : Nat → AV) (σ : Sto), T 1 = .int .i64 e0t_1 → Fx τ σ [] [] → Q (.ex 0) ⟨T, σ⟩) → (∀ r, out = Sum.inl r → ∀ s', aRet Try.prog [.tmp 4] (fun r' σ' => r' = .int .i64 r ∧ σ' = τ) s' → Q .ret s') → ∀ (T : Nat → AV) (σ : Sto), T 0 = .sl false (rws Fm.cells a0) ∧ T 1 = .int .i64 z0t_1 ∧ T 5 = .int .i64 z0t_5 → Fx τ σ [] [] → aLp Try.prog c Q ⟨T, σ⟩) ?s0 ?s1 ?s2
  · exact ⟨h.1, h.2.1⟩
  · intro laws_szFormS C1 a0 a1 r H
    intro σ
    refine hdg mixed Try.func5 (rs := [.tmp 4]) fun q tT => ?_
    have hF := Fx.refl σ
    have hX := Tau.none σ
    refine go ?_
    refine fx_alloc hF rfl fun b1 σ2 hF => ?_
    refine go ?_
    refine cdp H (fun h H => ?_) (fun h H => ?_)
    · refine go ?_
      have e := pur H; subst e
      exact rt [.int .i64 (-1)]
    · refine go ?_
      obtain ⟨x15, hx15, H⟩ := bnd H
      refine cl (laws_szIntS_ok a0.sc (IntKind.i64.wrap (a1 - (a0.name.size : Int))) _ hx15) ?_
      refine go ?_
      refine cdp H (fun h H => ?_) (fun h H => ?_)
      · refine go ?_
        have e := pur H; subst e
        exact rt [.int .i64 (-1)]
      · refine go ?_
        obtain ⟨x21, hx21, H⟩ := bnd H
        refine cl (C1 a0.kids x15 _ hx21) ?_
        refine go ?_
        refine cdp H (fun h H => ?_) (fun h H => ?_)
        · refine go ?_
          have e := pur H; subst e
          exact rt [.int .i64 (-1)]
        · refine go ?_
          have e := pur H; subst e
          exact rt [.int .i64 x21]
  · intro laws_szFormS_l0 L0 a0 a1 r H
    intro σ
    refine hdg mixed Try.func22 (rs := [.tmp 4]) fun q tT => ?_
    have hF := Fx.refl σ
    have hX := Tau.none σ
    refine go ?_
    refine cdp H (fun h H => ?_) (fun h H => ?_)
    · refine go ?_
      have e := pur H; subst e
      exact rt [.int .i64 (-1)]
    · refine go ?_
      obtain ⟨o1, ho1, H⟩ := bnd H
      refine L0 a0 (IntKind.i64.wrap (a1 - (a0.length : Int))) 0 _ ho1 _ rfl _ _  ?_ ?_ _ _  S hF
      · intro e2t_1 he T3 σ4 tT hF
        have he := he.symm
        subst he
        try dsimp only at H
        refine go ?_
        have e := pur H; subst e
        exact rt [.int .i64 e2t_1]
      · intro r hr s' hs
        subst hr
        have e := pur H; subst e
        exact hsq hs
  · intro laws_szForm laws_szFormS_l0 C0 L0 a0 z0t_1 z0t_5 out H c hc Q τ  hE hR T σ tT hF
    obtain rfl := Option.some.inj ((rfl : loopAt Try.f22 0 = some _).symm.trans hc)
    refine aLoop_round ?_
    have q := dum
    have hX := Tau.none τ
    refine go ?_
    refine cdp H (fun h H => ?_) (fun h H => ?_)
    · obtain ⟨x20, f1, H⟩ := bil (g := Fm.cells) Fm.cells_len H
      refine go1 ?_
      obtain ⟨x23, hx23, H⟩ := bnd H
      refine cl (C0 x20 z0t_1 _ hx23) ?_
      refine go ?_
      refine cdp H (fun h H => ?_) (fun h H => ?_)
      · refine go ?_
        exact wq (hR _ (pur H).symm _ (rt [.int .i64 (-1)]))
      · refine go ?_
        exact L0 a0 x23 (IntKind.i64.wrap (z0t_5 + 1)) _ H _ rfl Q τ  hE hR _ _  S hF
    · refine go ?_
      exact wq (hE _ (pur H).symm _ _  S hF)
theorem laws_szForm_ok : ∀ (a0 : Fm) (a1 : Int) r, laws_szForm a0 a1 = some r → PCtr Try.prog 5 [.agg (Fm.cells a0), .int .i64 a1] (.int .i64 r) := laws_szForm_all.1
theorem laws_szStep_ok : ∀ (a0 : Stp) (a1 : Int) r, laws_szStep a0 a1 = some r → PCtr Try.prog 12 [.agg (Stp.cells a0), .int .i64 a1] (.int .i64 r) := by
  intro a0 a1 r H
  intro σ
  unfold laws_szStep at H
  refine hdg mixed Try.func12 (rs := [.tmp 4]) fun q tT => ?_
  have hF := Fx.refl σ
  have hX := Tau.none σ
  refine go ?_
  refine fx_alloc hF rfl fun b1 σ2 hF => ?_
  refine go ?_
  obtain ⟨x8, hx8, H⟩ := bnd H
  refine cl (laws_szForm_ok a0.use a1 _ hx8) ?_
  refine go ?_
  refine cdp H (fun h H => ?_) (fun h H => ?_)
  · refine go ?_
    have e := pur H; subst e
    exact rt [.int .i64 (-1)]
  · refine go ?_
    obtain ⟨x14, hx14, H⟩ := bnd H
    refine cl (laws_szForm_ok a0.res x8 _ hx14) ?_
    refine go ?_
    refine cdp H (fun h H => ?_) (fun h H => ?_)
    · refine go ?_
      have e := pur H; subst e
      exact rt [.int .i64 (-1)]
    · refine go ?_
      have e := pur H; subst e
      exact rt [.int .i64 x14]
theorem laws_eqIntS_l0_ok : ∀ (a0 : List Int) (a1 : List Int) (z0t_5 : Int) out, laws_eqIntS_l0 a0 a1 z0t_5 = some out → ∀ c, loopAt Try.f31 0 = some c → ∀ (Q : AX → AS → Prop) (τ : Sto), (∀ (_u : Unit), out = Sum.inr () → ∀ (T : Nat → AV) (σ : Sto), 0 + 0 = 0 → Fx τ σ [] [] → Q (.ex 0) ⟨T, σ⟩) → (∀ r, out = Sum.inl r → ∀ s', aRet Try.prog [.tmp 4] (fun r' σ' => r' = .bool r ∧ σ' = τ) s' → Q .ret s') → ∀ (T : Nat → AV) (σ : Sto), T 0 = .sl false (rws cI a0) ∧ T 1 = .sl false (rws cI a1) ∧ T 5 = .int .i64 z0t_5 → Fx τ σ [] [] → aLp Try.prog c Q ⟨T, σ⟩ := by
  intro a0 a1 z0t_5
  revert z0t_5
  refine laws_eqIntS_l0.partial_correctness a0 a1 _ ?_
  intro laws_eqIntS_l0 IH z0t_5 out H c hc Q τ  hE hR T σ tT hF
  obtain rfl := Option.some.inj ((rfl : loopAt Try.f31 0 = some _).symm.trans hc)
  refine aLoop_round ?_
  have q := dum
  have hX := Tau.none τ
  refine go ?_
  refine cdp H (fun h H => ?_) (fun h H => ?_)
  · refine go ?_
    refine draw_text E0 [.v, .v, .v, .v, .v, .v, .v, .v, .v] (by kernel_rfl) ?_
    obtain ⟨x19, f1, H⟩ := bil (g := cI) (fun _ => rfl) H
    obtain ⟨x23, f2, H⟩ := bil (g := cI) (fun _ => rfl) H
    refine go2 ?_
    refine go ?_
    refine cdn H (fun h H => ?_) (fun h H => ?_)
    · refine go ?_
      exact wq (hR _ (pur H).symm _ (rt [.bool false]))
    · refine go ?_
      exact IH  (IntKind.i64.wrap (z0t_5 + 1)) _ H _ rfl Q τ  hE hR _ _  S hF
  · refine go ?_
    exact wq (hE () (pur H).symm _ _  S hF)
theorem laws_eqIntS_ok : ∀ (a0 : List Int) (a1 : List Int) r, laws_eqIntS a0 a1 = some r → PCtr Try.prog 31 [.sl false (rws cI a0), .sl false (rws cI a1)] (.bool r) := by
  intro a0 a1 r H
  intro σ
  unfold laws_eqIntS at H
  refine hdg mixed Try.func31 (rs := [.tmp 4]) fun q tT => ?_
  have hF := Fx.refl σ
  have hX := Tau.none σ
  refine go ?_
  refine cdn H (fun h H => ?_) (fun h H => ?_)
  · refine go ?_
    have e := pur H; subst e
    exact rt [.bool false]
  · refine go ?_
    obtain ⟨o1, ho1, H⟩ := bnd H
    refine laws_eqIntS_l0_ok a0 a1 0 _ ho1 _ rfl _ _  ?_ ?_ _ _  S hF
    · intro _ he T3 σ4 tT hF
      have he := he.symm
      subst he
      try dsimp only at H
      refine go ?_
      have e := pur H; subst e
      exact rt [.bool true]
    · intro r hr s' hs
      subst hr
      have e := pur H; subst e
      exact hsq hs
theorem laws_eqForm_all : (∀ (a0 : Fm) (a1 : Fm) r, laws_eqForm a0 a1 = some r → PCtr Try.prog 9 [.agg (Fm.cells a0), .agg (Fm.cells a1)] (.bool r)) ∧ (∀ (a0 : List Fm) (a1 : List Fm) r, laws_eqFormS a0 a1 = some r → PCtr Try.prog 16 [.sl false (rws Fm.cells a0), .sl false (rws Fm.cells a1)] (.bool r)) := by
  have h := laws_eqForm.mutual_partial_correctness  (motive_1 := fun a0 a1 r => PCtr Try.prog 9 [.agg (Fm.cells a0), .agg (Fm.cells a1)] (.bool r)) (motive_2 := fun a0 a1 r => PCtr Try.prog 16 [.sl false (rws Fm.cells a0), .sl false (rws Fm.cells a1)] (.bool r)) (motive_3 := fun a0 a1 z0t_5 out => ∀ c, loopAt Try.f16 0 = some c → ∀ (Q : AX → AS → Prop) (τ : Sto), (∀ (_u : Unit), out = Sum.inr () → ∀ (T : Nat → AV) (σ : Sto), 0 + 0 = 0 → Fx τ σ [] [] → Q (.ex 0) ⟨T, σ⟩) → (∀ r, out = Sum.inl r → ∀ s', aRet Try.prog [.tmp 4] (fun r' σ' => r' = .bool r ∧ σ' = τ) s' → Q .ret s') → ∀ (T : Nat → AV) (σ : Sto), T 0 = .sl false (rws Fm.cells a0) ∧ T 1 = .sl false (rws Fm.cells a1) ∧ T 5 = .int .i64 z0t_5 → Fx τ σ [] [] → aLp Try.prog c Q ⟨T, σ⟩) ?s0 ?s1 ?s2
  · exact ⟨h.1, h.2.1⟩
  · intro laws_eqFormS C1 a0 a1 r H
    intro σ
    refine hdg mixed Try.func9 (rs := [.tmp 4]) fun q tT => ?_
    have hF := Fx.refl σ
    have hX := Tau.none σ
    refine go ?_
    refine fx_alloc hF rfl fun b1 σ2 hF => ?_
    refine go ?_
    refine fx_alloc hF rfl fun b3 σ4 hF => ?_
    refine go ?_
    refine cdn H (fun h H => ?_) (fun h H => ?_)
    · refine go ?_
      have e := pur H; subst e
      exact rt [.bool false]
    · refine go ?_
      refine cdn H (fun h H => ?_) (fun h H => ?_)
      · refine go ?_
        have e := pur H; subst e
        exact rt [.bool false]
      · refine go ?_
        refine cdn H (fun h H => ?_) (fun h H => ?_)
        · refine go ?_
          have e := pur H; subst e
          exact rt [.bool false]
        · refine go ?_
          obtain ⟨x24, hx24, H⟩ := bnd H
          refine cl (laws_eqIntS_ok a0.sc a1.sc _ hx24) ?_
          refine go ?_
          refine cdb H (fun h H => ?_) (fun h H => ?_)
          · refine go ?_
            have e := pur H; subst e
            exact rt [.bool false]
          · refine go ?_
            obtain ⟨x30, hx30, H⟩ := bnd H
            refine cl (C1 a0.kids a1.kids _ hx30) ?_
            refine go ?_
            refine cdb H (fun h H => ?_) (fun h H => ?_)
            · refine go ?_
              have e := pur H; subst e
              exact rt [.bool false]
            · refine go ?_
              have e := pur H; subst e
              exact rt [.bool true]
  · intro laws_eqFormS_l0 L0 a0 a1 r H
    intro σ
    refine hdg mixed Try.func16 (rs := [.tmp 4]) fun q tT => ?_
    have hF := Fx.refl σ
    have hX := Tau.none σ
    refine go ?_
    refine cdn H (fun h H => ?_) (fun h H => ?_)
    · refine go ?_
      have e := pur H; subst e
      exact rt [.bool false]
    · refine go ?_
      obtain ⟨o1, ho1, H⟩ := bnd H
      refine L0 a0 a1 0 _ ho1 _ rfl _ _  ?_ ?_ _ _  S hF
      · intro _ he T3 σ4 tT hF
        have he := he.symm
        subst he
        try dsimp only at H
        refine go ?_
        have e := pur H; subst e
        exact rt [.bool true]
      · intro r hr s' hs
        subst hr
        have e := pur H; subst e
        exact hsq hs
  · intro laws_eqForm laws_eqFormS_l0 C0 L0 a0 a1 z0t_5 out H c hc Q τ  hE hR T σ tT hF
    obtain rfl := Option.some.inj ((rfl : loopAt Try.f16 0 = some _).symm.trans hc)
    refine aLoop_round ?_
    have q := dum
    have hX := Tau.none τ
    refine go ?_
    refine cdp H (fun h H => ?_) (fun h H => ?_)
    · refine go ?_
      refine draw_text E0 [.v, .v, .v, .v, .v, .v, .v, .v, .v, .v] (by kernel_rfl) ?_
      obtain ⟨x19, f1, H⟩ := bil (g := Fm.cells) Fm.cells_len H
      obtain ⟨x23, f2, H⟩ := bil (g := Fm.cells) Fm.cells_len H
      refine go2 ?_
      obtain ⟨x25, hx25, H⟩ := bnd H
      refine cv (C0 x19 x23 _ hx25) ?_
      refine go ?_
      refine cdb H (fun h H => ?_) (fun h H => ?_)
      · refine go ?_
        exact wq (hR _ (pur H).symm _ (rt [.bool false]))
      · refine go ?_
        exact L0 a0 a1 (IntKind.i64.wrap (z0t_5 + 1)) _ H _ rfl Q τ  hE hR _ _  S hF
    · refine go ?_
      exact wq (hE () (pur H).symm _ _  S hF)
theorem laws_eqForm_ok : ∀ (a0 : Fm) (a1 : Fm) r, laws_eqForm a0 a1 = some r → PCtr Try.prog 9 [.agg (Fm.cells a0), .agg (Fm.cells a1)] (.bool r) := laws_eqForm_all.1
theorem laws_eqFormS_ok : ∀ (a0 : List Fm) (a1 : List Fm) r, laws_eqFormS a0 a1 = some r → PCtr Try.prog 16 [.sl false (rws Fm.cells a0), .sl false (rws Fm.cells a1)] (.bool r) := laws_eqForm_all.2
theorem laws_eqStep_ok : ∀ (a0 : Stp) (a1 : Stp) r, laws_eqStep a0 a1 = some r → PCtr Try.prog 17 [.agg (Stp.cells a0), .agg (Stp.cells a1)] (.bool r) := by
  intro a0 a1 r H
  intro σ
  unfold laws_eqStep at H
  refine hdg mixed Try.func17 (rs := [.tmp 4]) fun q tT => ?_
  have hF := Fx.refl σ
  have hX := Tau.none σ
  refine go ?_
  refine fx_alloc hF rfl fun b1 σ2 hF => ?_
  refine go ?_
  refine fx_alloc hF rfl fun b3 σ4 hF => ?_
  refine go ?_
  refine cdn H (fun h H => ?_) (fun h H => ?_)
  · refine go ?_
    have e := pur H; subst e
    exact rt [.bool false]
  · refine go ?_
    refine cdn H (fun h H => ?_) (fun h H => ?_)
    · refine go ?_
      have e := pur H; subst e
      exact rt [.bool false]
    · refine go ?_
      refine cdn H (fun h H => ?_) (fun h H => ?_)
      · refine go ?_
        have e := pur H; subst e
        exact rt [.bool false]
      · refine go ?_
        obtain ⟨x24, hx24, H⟩ := bnd H
        refine cl (laws_eqForm_ok a0.use a1.use _ hx24) ?_
        refine go ?_
        refine cdb H (fun h H => ?_) (fun h H => ?_)
        · refine go ?_
          have e := pur H; subst e
          exact rt [.bool false]
        · refine go ?_
          obtain ⟨x30, hx30, H⟩ := bnd H
          refine cl (laws_eqForm_ok a0.res a1.res _ hx30) ?_
          refine go ?_
          refine cdb H (fun h H => ?_) (fun h H => ?_)
          · refine go ?_
            have e := pur H; subst e
            exact rt [.bool false]
          · refine go ?_
            have e := pur H; subst e
            exact rt [.bool true]
theorem laws_markText_l0_ok : ∀ (z0t_0 : Int) (z0t_3 : ByteArray) out, laws_markText_l0 z0t_0 z0t_3 = some out → ∀ c, loopAt Try.f42 0 = some c → ∀ (Q : AX → AS → Prop) (τ : Sto), (∀ (e0t_3 : ByteArray), out = e0t_3 → ∀ (T : Nat → AV) (σ : Sto), T 3 = .str e0t_3 → Fx τ σ [] [] → Q (.ex 0) ⟨T, σ⟩) → True → ∀ (T : Nat → AV) (σ : Sto), T 0 = .int .i64 z0t_0 ∧ T 3 = .str z0t_3 → Fx τ σ [] [] → aLp Try.prog c Q ⟨T, σ⟩ := by
  refine laws_markText_l0.partial_correctness  _ ?_
  intro laws_markText_l0 IH z0t_0 z0t_3 out H c hc Q τ  hE hR T σ tT hF
  obtain rfl := Option.some.inj ((rfl : loopAt Try.f42 0 = some _).symm.trans hc)
  refine aLoop_round ?_
  have q := dum
  have hX := Tau.none τ
  refine go ?_
  refine cdp H (fun h H => ?_) (fun h H => ?_)
  · obtain ⟨x15, f1, H⟩ := bsc H
    refine go1 ?_
    refine go ?_
    exact IH  (IntKind.i64.wrap (z0t_0.tdiv 10)) x15 _ H _ rfl Q τ  hE hR _ _  S hF
  · refine go ?_
    exact wq (hE _ (pur H).symm _ _  S hF)
theorem laws_markText_ok : ∀ (a0 : Int) r, laws_markText a0 = some r → PCtr Try.prog 42 [.int .i64 a0] (.str r) := by
  intro a0 r H
  intro σ
  unfold laws_markText at H
  refine hdg mixed Try.func42 (rs := [.tmp 2]) fun q tT => ?_
  have hF := Fx.refl σ
  have hX := Tau.none σ
  refine go ?_
  refine cdp H (fun h H => ?_) (fun h H => ?_)
  · refine go ?_
    have e := pur H; subst e
    exact rt [.str (ByteArray.mk #[109, 48])]
  · refine go ?_
    obtain ⟨o1, ho1, H⟩ := bnd H
    refine laws_markText_l0_ok  a0 (ByteArray.mk #[]) _ ho1 _ rfl _ _  ?_ ?_ _ _  S hF
    · intro e2t_3 he T3 σ4 tT hF
      have he := he.symm
      subst he
      obtain ⟨x19, f1, H⟩ := bsc H
      refine go1 ?_
      refine go ?_
      have e := pur H; subst e
      exact rt [.str x19]
    · trivial
theorem laws_heldIntS_l0_ok : ∀ (a0 : List Int) (z0t_1 : Int) (z0t_5 : Int) out, laws_heldIntS_l0 a0 z0t_1 z0t_5 = some out → ∀ c, loopAt Try.f33 0 = some c → ∀ (Q : AX → AS → Prop) (τ : Sto), (∀ (e0t_1 : Int), out = Sum.inr e0t_1 → ∀ (T : Nat → AV) (σ : Sto), T 1 = .int .i64 e0t_1 → Fx τ σ [] [] → Q (.ex 0) ⟨T, σ⟩) → (∀ r, out = Sum.inl r → ∀ s', aRet Try.prog [.tmp 4] (fun r' σ' => r' = .int .i64 r ∧ σ' = τ) s' → Q .ret s') → ∀ (T : Nat → AV) (σ : Sto), T 0 = .sl false (rws cI a0) ∧ T 1 = .int .i64 z0t_1 ∧ T 5 = .int .i64 z0t_5 → Fx τ σ [] [] → aLp Try.prog c Q ⟨T, σ⟩ := by
  intro a0 z0t_1 z0t_5
  revert z0t_1 z0t_5
  refine laws_heldIntS_l0.partial_correctness a0 _ ?_
  intro laws_heldIntS_l0 IH z0t_1 z0t_5 out H c hc Q τ  hE hR T σ tT hF
  obtain rfl := Option.some.inj ((rfl : loopAt Try.f33 0 = some _).symm.trans hc)
  refine aLoop_round ?_
  have q := dum
  have hX := Tau.none τ
  refine go ?_
  refine cdp H (fun h H => ?_) (fun h H => ?_)
  · obtain ⟨x14, f1, H⟩ := bil (g := cI) (fun _ => rfl) H
    refine go1 ?_
    refine go ?_
    refine cdn H (fun h H => ?_) (fun h H => ?_)
    · refine go ?_
      exact wq (hR _ (pur H).symm _ (rt [.int .i64 (-1)]))
    · refine go ?_
      exact IH  (IntKind.i64.wrap (z0t_1 + 1)) (IntKind.i64.wrap (z0t_5 + 1)) _ H _ rfl Q τ  hE hR _ _  S hF
  · refine go ?_
    exact wq (hE _ (pur H).symm _ _  S hF)
theorem laws_heldIntS_ok : ∀ (a0 : List Int) (a1 : Int) r, laws_heldIntS a0 a1 = some r → PCtr Try.prog 33 [.sl false (rws cI a0), .int .i64 a1] (.int .i64 r) := by
  intro a0 a1 r H
  intro σ
  unfold laws_heldIntS at H
  refine hdg mixed Try.func33 (rs := [.tmp 4]) fun q tT => ?_
  have hF := Fx.refl σ
  have hX := Tau.none σ
  refine go ?_
  obtain ⟨o1, ho1, H⟩ := bnd H
  refine laws_heldIntS_l0_ok a0 a1 0 _ ho1 _ rfl _ _  ?_ ?_ _ _  S hF
  · intro e2t_1 he T3 σ4 tT hF
    have he := he.symm
    subst he
    try dsimp only at H
    refine go ?_
    have e := pur H; subst e
    exact rt [.int .i64 e2t_1]
  · intro r hr s' hs
    subst hr
    have e := pur H; subst e
    exact hsq hs
theorem laws_heldFormS_ok : ∀ (a0 : List Fm) (a1 : Int) r, laws_heldFormS a0 a1 = some r → PCtr Try.prog 20 [.sl false (rws Fm.cells a0), .int .i64 a1] (.int .i64 r) := by
  refine laws_heldFormS.partial_correctness  (motive_1 := fun a0 a1 r => PCtr Try.prog 20 [.sl false (rws Fm.cells a0), .int .i64 a1] (.int .i64 r)) (motive_2 := fun a0 z0t_1 z0t_5 out => ∀ c, loopAt Try.f20 0 = some c → ∀ (Q : AX → AS → Prop) (τ : Sto), (∀ (e0t_1 : Int), out = Sum.inr e0t_1 → ∀ (T : Nat → AV) (σ : Sto), T 1 = .int .i64 e0t_1 → Fx τ σ [] [] → Q (.ex 0) ⟨T, σ⟩) → (∀ r, out = Sum.inl r → ∀ s', aRet Try.prog [.tmp 4] (fun r' σ' => r' = .int .i64 r ∧ σ' = τ) s' → Q .ret s') → ∀ (T : Nat → AV) (σ : Sto), T 0 = .sl false (rws Fm.cells a0) ∧ T 1 = .int .i64 z0t_1 ∧ T 5 = .int .i64 z0t_5 → Fx τ σ [] [] → aLp Try.prog c Q ⟨T, σ⟩) ?_ ?_
  · intro laws_heldFormS_l0 L0 a0 a1 r H
    intro σ
    refine hdg mixed Try.func20 (rs := [.tmp 4]) fun q tT => ?_
    have hF := Fx.refl σ
    have hX := Tau.none σ
    refine go ?_
    obtain ⟨o1, ho1, H⟩ := bnd H
    refine L0 a0 a1 0 _ ho1 _ rfl _ _  ?_ ?_ _ _  S hF
    · intro e2t_1 he T3 σ4 tT hF
      have he := he.symm
      subst he
      try dsimp only at H
      refine go ?_
      have e := pur H; subst e
      exact rt [.int .i64 e2t_1]
    · intro r hr s' hs
      subst hr
      have e := pur H; subst e
      exact hsq hs
  · intro laws_heldFormS laws_heldFormS_l0 C0 L0 a0 z0t_1 z0t_5 out H c hc Q τ  hE hR T σ tT hF
    obtain rfl := Option.some.inj ((rfl : loopAt Try.f20 0 = some _).symm.trans hc)
    refine aLoop_round ?_
    have q := dum
    have hX := Tau.none τ
    refine go ?_
    refine cdp H (fun h H => ?_) (fun h H => ?_)
    · obtain ⟨x14, f1, H⟩ := bil (g := Fm.cells) Fm.cells_len H
      refine go1 ?_
      refine go ?_
      refine cdn H (fun h H => ?_) (fun h H => ?_)
      · refine go ?_
        exact wq (hR _ (pur H).symm _ (rt [.int .i64 (-1)]))
      · refine go ?_
        refine draw_text E0 [.v, .v, .v, .v, .v, .v, .v, .v] (by kernel_rfl) ?_
        obtain ⟨x23, f1, H⟩ := bil (g := Fm.cells) Fm.cells_len H
        refine go1 ?_
        obtain ⟨x27, hx27, H⟩ := bnd H
        refine cv (laws_markText_ok (IntKind.i64.wrap (z0t_1 + 1)) _ hx27) ?_
        refine go ?_
        refine cdn H (fun h H => ?_) (fun h H => ?_)
        · refine go ?_
          exact wq (hR _ (pur H).symm _ (rt [.int .i64 (-1)]))
        · obtain ⟨x33, f1, H⟩ := bil (g := Fm.cells) Fm.cells_len H
          refine go1 ?_
          refine go ?_
          refine cdn H (fun h H => ?_) (fun h H => ?_)
          · refine go ?_
            exact wq (hR _ (pur H).symm _ (rt [.int .i64 (-1)]))
          · obtain ⟨x42, f1, H⟩ := bil (g := Fm.cells) Fm.cells_len H
            refine go1 ?_
            obtain ⟨x46, hx46, H⟩ := bnd H
            refine cl (laws_heldIntS_ok x42.sc (IntKind.i64.wrap ((IntKind.i64.wrap ((IntKind.i64.wrap (z0t_1 + 1)) + 1)) + 1)) _ hx46) ?_
            refine go ?_
            refine cdp H (fun h H => ?_) (fun h H => ?_)
            · refine go ?_
              exact wq (hR _ (pur H).symm _ (rt [.int .i64 (-1)]))
            · obtain ⟨x51, f1, H⟩ := bil (g := Fm.cells) Fm.cells_len H
              refine go1 ?_
              obtain ⟨x55, hx55, H⟩ := bnd H
              refine cl (C0 x51.kids x46 _ hx55) ?_
              refine go ?_
              refine cdp H (fun h H => ?_) (fun h H => ?_)
              · refine go ?_
                exact wq (hR _ (pur H).symm _ (rt [.int .i64 (-1)]))
              · refine go ?_
                exact L0 a0 x55 (IntKind.i64.wrap (z0t_5 + 1)) _ H _ rfl Q τ  hE hR _ _  S hF
    · refine go ?_
      exact wq (hE _ (pur H).symm _ _  S hF)
end Go.Proofs.SA

