/- Printed by a program of mine: the plain functions that the code computes (D), and the walks that show it (W). -/
import Derived.Test.YtmacemmkocjkaaaDoorGz
import Derived.Test.YtmacemmkocjkaaaDoorSaTy
import Derived.Test.YtmacemmkocjkaaaDoorGv
import Derived.Test.YtmacemmkocjkaaaDoorSf
import Derived.Test.YtmacemmkocjkaaaDoorChecked
import Derived.Lib.Strings
import Derived.Lib.Slices
import Derived.Lib.Walk
import Derived.Lib.Bytealg
import Derived.Test.YtmacemmkocjkaaaDoorFnD
set_option maxRecDepth 100000
set_option linter.unusedSimpArgs false
set_option linter.unusedVariables false
open Go Go.Proofs Go.Proofs.Shadow
namespace Go.Proofs.SA
theorem spec_l15Open_ok : ∀ (a0 : List Int) r, spec_l15Open a0 = some r → ∀   (σ : Sto), Pre σ [] [] → Ctr Tryd.prog 60 [.sl false (rws cU a0)] σ (fun r' σ' => ∃ (τ' : Sto) (n0 : Nat), r' = .ptr n0 0 ∧ Tau (strip σ []) [] τ' ∧ Fx τ' σ' [(n0, ⟨123, 2, [.sl false (rws cU r.b), .int .i64 r.p]⟩)] []) := by
  intro a0 r H
  intro   σ hP
  unfold spec_l15Open at H
  refine ctr_of mixed Tryd.func60 rfl (by kernel_rfl) (rs := [.tmp 2]) rfl (by kernel_rfl) ?_
  obtain ⟨hF, hX⟩ := hP.start
  generalize strip σ [] = τ0 at hF hX ⊢
  have q := dum
  have tT := dum
  refine go ?_
  refine cdp H (fun h H => ?_) (fun h H => ?_)
  · obtain ⟨x7, f1, H⟩ := bls (g := cU) (fun _ => rfl) (lo := none) (hi := some (.int .i64 2000)) rfl rfl H
    refine go1 ?_
    refine go ?_
    refine fx_alloc hF rfl fun b1 σ2 hF => ?_
    refine go ?_
    have e := pur H; subst e
    exact rg [.ptr b1 0] ⟨_, _, rfl, hX, hF.pick [0] [] (by decide) (by decide)⟩
  · refine go ?_
    refine fx_alloc hF rfl fun b3 σ4 hF => ?_
    refine go ?_
    have e := pur H; subst e
    exact rg [.ptr b3 0] ⟨_, _, rfl, hX, hF.pick [0] [] (by decide) (by decide)⟩
theorem spec_l15Rd_pick_ok : ∀ (a1 : Int) (c0 : Rdr) r, spec_l15Rd_pick a1 c0 = some r → ∀ (e0 : Nat)  (σ : Sto), Pre σ [(e0, ⟨123, 2, [.sl false (rws cU c0.b), .int .i64 c0.p]⟩)] [] → Ctr Tryd.prog 62 [.ptr e0 0, .int .i64 a1] σ (fun r' σ' => ∃ (τ' : Sto), r' = .int .i64 r.1 ∧ Tau (strip σ []) [(e0, ⟨123, 2, [.sl false (rws cU r.2.b), .int .i64 r.2.p]⟩)] τ' ∧ Fx τ' σ' [] []) := by
  intro a1 c0 r H
  intro e0  σ hP
  unfold spec_l15Rd_pick at H
  refine ctr_of mixed Tryd.func62 rfl (by kernel_rfl) (rs := [.tmp 4]) rfl (by kernel_rfl) ?_
  obtain ⟨hF, hX⟩ := hP.start
  generalize strip σ [] = τ0 at hF hX ⊢
  have q := dum
  have tT := dum
  refine go ?_
  refine stT hF hX 0 rfl fun τ2 σ1 hF hX => ?_
  refine go ?_
  obtain ⟨x24, g3, H⟩ := bnd H
  refine aGd_cutN 6 18 24 (.bool x24) (giN q (fun q => ?_) (fun q => ?_)) (fun J => ?_)
  · refine go ?_
    exact cutd 18 g3
  · refine go ?_
    exact cutd 18 g3
  refine go ?_
  refine cdb H (fun h H => ?_) (fun h H => ?_)
  · refine go ?_
    have e := pur H; subst e
    exact rg [.int .i64 0] ⟨_, rfl, hX, Fx.self _⟩
  · refine go ?_
    refine cdp H (fun h H => ?_) (fun h H => ?_)
    · obtain ⟨x42, f1, H⟩ := bil (g := cU) (fun _ => rfl) H
      obtain ⟨x46, f2, H⟩ := brm H
      refine go2 ?_
      refine go ?_
      have e := pur H; subst e
      exact rg [.int .i64 x46] ⟨_, rfl, hX, Fx.self _⟩
    · refine go ?_
      refine draw_text E0 [.v, .v, .v, .v, .v, .v, .v, .v, .v, .v, .v, .v, .v, .v, .v, .v, .v, .v, .v, .v, .v, .v, .v, .v, .v, .v, .v, .v, .v, .v, .v, .v, .v, .v, .v, .v, .v, .v, .v, .v, .v, .v, .v, .v, .v, .v] (by kernel_rfl) ?_
      obtain ⟨x57, f1, H⟩ := brm H
      obtain ⟨x58, f2, H⟩ := bil (g := cU) (fun _ => rfl) H
      obtain ⟨x74, f3, H⟩ := brm H
      obtain ⟨x75, f4, H⟩ := bil (g := cU) (fun _ => rfl) H
      obtain ⟨x89, f5, H⟩ := bqu H
      refine go5 ?_
      obtain ⟨x98, f1, H⟩ := brm H
      refine go1 ?_
      refine go ?_
      have e := pur H; subst e
      exact rg [.int .i64 x98] ⟨_, rfl, hX, Fx.self _⟩
theorem spec_l1Skip_l0_ok : ∀ (a0 : ByteArray) (z0t_1 : Int) out, spec_l1Skip_l0 a0 z0t_1 = some out → ∀ c, loopAt Tryd.f121 0 = some c → ∀ (Q : AX → AS → Prop) (τ : Sto), (∀ (e0t_1 : Int), out = e0t_1 → ∀ (T : Nat → AV) (σ : Sto), T 1 = .int .i64 e0t_1 ∧ T 4 = .int .i64 0 → Fx τ σ [] [] → Q (.ex 0) ⟨T, σ⟩) → True → ∀ (T : Nat → AV) (σ : Sto), T 0 = .str a0 ∧ T 1 = .int .i64 z0t_1 ∧ T 4 = .int .i64 0 → Fx τ σ [] [] → aLoop (acode Tryd.prog c) Q ⟨T, σ⟩ := by
  intro a0 z0t_1
  revert z0t_1
  refine spec_l1Skip_l0.partial_correctness a0 _ ?_
  intro spec_l1Skip_l0 IH z0t_1 out H c hc Q τ  hE hR T σ tT hF
  obtain rfl := Option.some.inj ((rfl : loopAt Tryd.f121 0 = some _).symm.trans hc)
  refine aLoop_round ?_
  have q := dum
  have hX := Tau.none τ
  refine go ?_
  obtain ⟨x14, g1, H⟩ := bnd H
  refine aGd_cutN 4 10 14 (.bool x14) (gi q (fun q => ?_) (fun q => ?_)) (fun J => ?_)
  · rw [if_pos (dt q)] at g1
    obtain ⟨x12, f1, g1⟩ := bsx g1
    refine go1 ?_
    refine go ?_
    exact cutd 10 g1
  · rw [if_neg (df q)] at g1
    refine go ?_
    exact cutd 10 g1
  refine go ?_
  refine cdb H (fun h H => ?_) (fun h H => ?_)
  · refine go ?_
    exact IH  (IntKind.i64.wrap (z0t_1 + 1)) _ H _ rfl Q τ  hE hR _ _  S hF
  · refine go ?_
    exact hE _ (pur H).symm _ _  S hF
theorem spec_l1Skip_ok : ∀ (a0 : ByteArray) (a1 : Int) r, spec_l1Skip a0 a1 = some r → PCtr Tryd.prog 121 [.str a0, .int .i64 a1] (.int .i64 r) := by
  intro a0 a1 r H
  intro σ
  unfold spec_l1Skip at H
  refine ctr_of mixed Tryd.func121 rfl (by kernel_rfl) (rs := [.tmp 4]) rfl (by kernel_rfl) ?_
  have hF := Fx.refl σ
  have hX := Tau.none σ
  have q := dum
  have tT := dum
  refine go ?_
  obtain ⟨o3, ho3, H⟩ := bnd H
  refine spec_l1Skip_l0_ok a0 a1 _ ho3 _ rfl _ _  ?_ ?_ _ _  S hF
  · intro e4t_1 he T5 σ6 tT hF
    have he := he.symm
    subst he
    refine go ?_
    have e := pur H; subst e
    exact rt [.int .i64 e4t_1]
  · trivial
theorem spec_l1Word_l0_ok : ∀ (a0 : ByteArray) (z0t_1 : Int) out, spec_l1Word_l0 a0 z0t_1 = some out → ∀ c, loopAt Tryd.f126 0 = some c → ∀ (Q : AX → AS → Prop) (τ : Sto), (∀ (e0t_1 : Int), out = e0t_1 → ∀ (T : Nat → AV) (σ : Sto), T 1 = .int .i64 e0t_1 ∧ T 4 = .int .i64 0 → Fx τ σ [] [] → Q (.ex 0) ⟨T, σ⟩) → True → ∀ (T : Nat → AV) (σ : Sto), T 0 = .str a0 ∧ T 1 = .int .i64 z0t_1 ∧ T 4 = .int .i64 0 → Fx τ σ [] [] → aLoop (acode Tryd.prog c) Q ⟨T, σ⟩ := by
  intro a0 z0t_1
  revert z0t_1
  refine spec_l1Word_l0.partial_correctness a0 _ ?_
  intro spec_l1Word_l0 IH z0t_1 out H c hc Q τ  hE hR T σ tT hF
  obtain rfl := Option.some.inj ((rfl : loopAt Tryd.f126 0 = some _).symm.trans hc)
  refine aLoop_round ?_
  have q := dum
  have hX := Tau.none τ
  refine go ?_
  obtain ⟨x14, g1, H⟩ := bnd H
  refine aGd_cutN 4 10 14 (.bool x14) (gi q (fun q => ?_) (fun q => ?_)) (fun J => ?_)
  · rw [if_pos (dt q)] at g1
    obtain ⟨x12, f1, g1⟩ := bsx g1
    refine go1 ?_
    refine go ?_
    exact cutd 10 g1
  · rw [if_neg (df q)] at g1
    refine go ?_
    exact cutd 10 g1
  refine go ?_
  obtain ⟨x20, g3, H⟩ := bnd H
  refine aGd_cutN 4 16 20 (.bool x20) (gi q (fun q => ?_) (fun q => ?_)) (fun J => ?_)
  · rw [if_pos (dbt q)] at g3
    obtain ⟨x18, f1, g3⟩ := bsx g3
    refine go1 ?_
    refine go ?_
    exact cutd 16 g3
  · rw [if_neg (dbf q)] at g3
    refine go ?_
    exact cutd 16 g3
  refine go ?_
  obtain ⟨x26, g5, H⟩ := bnd H
  refine aGd_cutN 4 22 26 (.bool x26) (gi q (fun q => ?_) (fun q => ?_)) (fun J => ?_)
  · rw [if_pos (dbt q)] at g5
    obtain ⟨x24, f1, g5⟩ := bsx g5
    refine go1 ?_
    refine go ?_
    exact cutd 22 g5
  · rw [if_neg (dbf q)] at g5
    refine go ?_
    exact cutd 22 g5
  refine go ?_
  obtain ⟨x32, g7, H⟩ := bnd H
  refine aGd_cutN 4 28 32 (.bool x32) (gi q (fun q => ?_) (fun q => ?_)) (fun J => ?_)
  · rw [if_pos (dbt q)] at g7
    obtain ⟨x30, f1, g7⟩ := bsx g7
    refine go1 ?_
    refine go ?_
    exact cutd 28 g7
  · rw [if_neg (dbf q)] at g7
    refine go ?_
    exact cutd 28 g7
  refine go ?_
  refine cdb H (fun h H => ?_) (fun h H => ?_)
  · refine go ?_
    exact IH  (IntKind.i64.wrap (z0t_1 + 1)) _ H _ rfl Q τ  hE hR _ _  S hF
  · refine go ?_
    exact hE _ (pur H).symm _ _  S hF
theorem spec_l1Word_ok : ∀ (a0 : ByteArray) (a1 : Int) r, spec_l1Word a0 a1 = some r → PCtr Tryd.prog 126 [.str a0, .int .i64 a1] (.int .i64 r) := by
  intro a0 a1 r H
  intro σ
  unfold spec_l1Word at H
  refine ctr_of mixed Tryd.func126 rfl (by kernel_rfl) (rs := [.tmp 4]) rfl (by kernel_rfl) ?_
  have hF := Fx.refl σ
  have hX := Tau.none σ
  have q := dum
  have tT := dum
  refine go ?_
  obtain ⟨o9, ho9, H⟩ := bnd H
  refine spec_l1Word_l0_ok a0 a1 _ ho9 _ rfl _ _  ?_ ?_ _ _  S hF
  · intro e10t_1 he T11 σ12 tT hF
    have he := he.symm
    subst he
    refine go ?_
    have e := pur H; subst e
    exact rt [.int .i64 e10t_1]
  · trivial
theorem spec_l15Num_l0_ok : ∀ (x14 : Bool) (y3t_0 : ByteArray) (z0t_5 : Int) (z0t_6 : Int) out, spec_l15Num_l0 x14 y3t_0 z0t_5 z0t_6 = some out → ∀ c, loopAt Tryd.f127 0 = some c → ∀ (Q : AX → AS → Prop) (τ : Sto), (∀ (e0t_5 : Int), out = Sum.inr e0t_5 → ∀ (T : Nat → AV) (σ : Sto), T 2 = .int .i64 0 ∧ T 3 = .bool false ∧ T 4 = .bool x14 ∧ T 5 = .int .i64 e0t_5 → Fx τ σ [] [] → Q (.ex 0) ⟨T, σ⟩) → (∀ r, out = Sum.inl r → ∀ s', aRet Tryd.prog [.tmp 2, .tmp 3] (fun r' σ' => r' = .tup [.int .i64 r.1, .bool r.2] ∧ σ' = τ) s' → Q .ret s') → ∀ (T : Nat → AV) (σ : Sto), T 0 = .str y3t_0 ∧ T 2 = .int .i64 0 ∧ T 3 = .bool false ∧ T 4 = .bool x14 ∧ T 5 = .int .i64 z0t_5 ∧ T 6 = .int .i64 z0t_6 → Fx τ σ [] [] → aLoop (acode Tryd.prog c) Q ⟨T, σ⟩ := by
  intro x14 y3t_0 z0t_5 z0t_6
  revert z0t_5 z0t_6
  refine spec_l15Num_l0.partial_correctness x14 y3t_0 _ ?_
  intro spec_l15Num_l0 IH z0t_5 z0t_6 out H c hc Q τ  hE hR T σ tT hF
  obtain rfl := Option.some.inj ((rfl : loopAt Tryd.f127 0 = some _).symm.trans hc)
  refine aLoop_round ?_
  have q := dum
  have hX := Tau.none τ
  refine go ?_
  refine cdp H (fun h H => ?_) (fun h H => ?_)
  · obtain ⟨x47, f1, H⟩ := bsx H
    refine go1 ?_
    obtain ⟨x54, g16, H⟩ := bnd H
    refine aGd_cutN 4 50 54 (.bool x54) (giN q (fun q => ?_) (fun q => ?_)) (fun J => ?_)
    · rw [if_neg (df q)] at g16
      obtain ⟨x52, f1, g16⟩ := bsx g16
      refine go1 ?_
      refine go ?_
      exact cutd 50 g16
    · rw [if_pos (dt q)] at g16
      refine go ?_
      exact cutd 50 g16
    refine go ?_
    refine cdb H (fun h H => ?_) (fun h H => ?_)
    · refine go ?_
      exact hR _ (pur H).symm _ (rt [.int .i64 0, .bool false])
    · obtain ⟨x59, f1, H⟩ := bsx H
      refine go1 ?_
      refine go ?_
      exact IH  (IntKind.i64.wrap ((IntKind.i64.wrap (z0t_5 * 10)) + (IntKind.i64.wrap (IntKind.u8.wrap (x59 - 48))))) (IntKind.i64.wrap (z0t_6 + 1)) _ H _ rfl Q τ  hE hR _ _  S hF
  · refine go ?_
    exact hE _ (pur H).symm _ _  S hF
theorem spec_l15Num_ok : ∀ (a0 : ByteArray) r, spec_l15Num a0 = some r → PCtr Tryd.prog 127 [.str a0] (.tup [.int .i64 r.1, .bool r.2]) := by
  intro a0 r H
  intro σ
  unfold spec_l15Num at H
  refine ctr_of mixed Tryd.func127 rfl (by kernel_rfl) (rs := [.tmp 2, .tmp 3]) rfl (by kernel_rfl) ?_
  have hF := Fx.refl σ
  have hX := Tau.none σ
  have q := dum
  have tT := dum
  refine go ?_
  obtain ⟨x14, g1, H⟩ := bnd H
  refine aGd_cutN 3 11 14 (.bool x14) (gi q (fun q => ?_) (fun q => ?_)) (fun J => ?_)
  · rw [if_pos (dt q)] at g1
    obtain ⟨x12, f1, g1⟩ := bsx g1
    refine go1 ?_
    refine go ?_
    exact cutd 11 g1
  · rw [if_neg (df q)] at g1
    refine go ?_
    exact cutd 11 g1
  refine go ?_
  obtain ⟨y3t_0, j4, H⟩ := bnd H
  refine aCnd_join (fun s' => ∃ (T : Nat → AV) (σ1 : Sto), s' = ⟨T, σ1⟩ ∧ (T 0 = .str y3t_0 ∧ T 2 = .int .i64 0 ∧ T 3 = .bool false ∧ T 4 = .bool x14) ∧ Fx σ σ1 [] []) (cdb j4 (fun h j4 => ?_) (fun h j4 => ?_)) ?_
  · obtain ⟨x17, f1, j4⟩ := bss (lo := some (.int .i64 1)) (hi := none) rfl rfl j4
    refine go1 ?_
    refine go ?_
    have e := pur j4
    subst e
    exact ⟨_, _, rfl, S, hF⟩
  · refine go ?_
    have e := pur j4
    subst e
    exact ⟨_, _, rfl, S, hF⟩
  · rintro s' ⟨T5, σ6, rfl, tT, hF⟩
    refine go ?_
    obtain ⟨x25, g8, H⟩ := bnd H
    refine aGd_cutN 3 22 25 (.bool x25) (giN q (fun q => ?_) (fun q => ?_)) (fun J => ?_)
    · refine go ?_
      exact cutd 22 g8
    · refine go ?_
      exact cutd 22 g8
    refine go ?_
    obtain ⟨x38, g10, H⟩ := bnd H
    refine aGd_cutN 11 27 38 (.bool x38) (giN q (fun q => ?_) (fun q => ?_)) (fun J => ?_)
    · rw [if_neg (dbf q)] at g10
      obtain ⟨x28, f1, g10⟩ := bsx g10
      refine go1 ?_
      obtain ⟨x37, g12, g10⟩ := bnd g10
      refine aGd_cutN 6 31 37 (.bool x37) (gi q (fun q => ?_) (fun q => ?_)) (fun J => ?_)
      · rw [if_pos (dt q)] at g12
        refine go ?_
        obtain ⟨x36, g14, g12⟩ := bnd g12
        refine aGd_cutN 1 35 36 (.bool x36) (giN q (fun q => ?_) (fun q => ?_)) (fun J => ?_)
        · refine go ?_
          exact cutd 35 g14
        · refine go ?_
          exact cutd 35 g14
        refine go ?_
        exact cutd 31 g12
      · rw [if_neg (df q)] at g12
        refine go ?_
        exact cutd 31 g12
      refine go ?_
      exact cutd 27 g10
    · rw [if_pos (dbt q)] at g10
      refine go ?_
      exact cutd 27 g10
    refine go ?_
    refine cdb H (fun h H => ?_) (fun h H => ?_)
    · refine go ?_
      have e := pur H; subst e
      exact rt [.int .i64 0, .bool false]
    · refine go ?_
      obtain ⟨o18, ho18, H⟩ := bnd H
      refine spec_l15Num_l0_ok x14 y3t_0 0 0 _ ho18 _ rfl _ _  ?_ ?_ _ _  S hF
      · intro e19t_5 he T20 σ21 tT hF
        have he := he.symm
        subst he
        dsimp only at H
        refine go ?_
        refine cdb H (fun h H => ?_) (fun h H => ?_)
        · refine go ?_
          have e := pur H; subst e
          exact rt [.int .i64 (IntKind.i64.wrap (0 - e19t_5)), .bool true]
        · refine go ?_
          have e := pur H; subst e
          exact rt [.int .i64 e19t_5, .bool true]
      · intro r hr s' hs
        subst hr
        have e := pur H; subst e
        first | exact hs | (try simp only [Fm.cells_eq] at hs ⊢; exact hs)
theorem spec_l15Cut_l0_ok : ∀ (a0 : ByteArray) (a1 : Int) (z0o_0 : List ByteArray) (z0t_6 : Int) (z0t_7 : Int) out, spec_l15Cut_l0 a0 a1 z0o_0 z0t_6 z0t_7 = some out → ∀ c, loopAt Tryd.f129 0 = some c → ∀ (Q : AX → AS → Prop) (τ : Sto), (∀ (e0o_0 : List ByteArray), out = e0o_0 → ∀ (T : Nat → AV) (σ : Sto) (e0v0 : AV), T 4 = .nilsl ∧ T 5 = e0v0 → Fx τ σ [] [⟨e0v0, 9, 1, rws cS e0o_0⟩] → Q (.ex 0) ⟨T, σ⟩) → True → ∀ (T : Nat → AV) (σ : Sto) (z0v0 : AV), T 0 = .str a0 ∧ T 1 = .int .u8 a1 ∧ T 4 = .nilsl ∧ T 5 = z0v0 ∧ T 6 = .int .i64 z0t_6 ∧ T 7 = .int .i64 z0t_7 → Fx τ σ [] [⟨z0v0, 9, 1, rws cS z0o_0⟩] → aLoop (acode Tryd.prog c) Q ⟨T, σ⟩ := by
  intro a0 a1 z0o_0 z0t_6 z0t_7
  revert z0o_0 z0t_6 z0t_7
  refine spec_l15Cut_l0.partial_correctness a0 a1 _ ?_
  intro spec_l15Cut_l0 IH z0o_0 z0t_6 z0t_7 out H c hc Q τ  hE hR T σ z0v0 tT hF
  obtain rfl := Option.some.inj ((rfl : loopAt Tryd.f129 0 = some _).symm.trans hc)
  refine aLoop_round ?_
  have q := dum
  have hX := Tau.none τ
  refine go ?_
  refine cdp H (fun h H => ?_) (fun h H => ?_)
  · refine go ?_
    obtain ⟨x25, g1, H⟩ := bnd H
    refine aGd_cutN 5 20 25 (.bool x25) (giN q (fun q => ?_) (fun q => ?_)) (fun J => ?_)
    · rw [if_neg (df q)] at g1
      obtain ⟨x22, f1, g1⟩ := bsx g1
      refine go1 ?_
      refine go ?_
      exact cutd 20 g1
    · rw [if_pos (dt q)] at g1
      refine go ?_
      exact cutd 20 g1
    refine go ?_
    refine cdb H (fun h H => ?_) (fun h H => ?_)
    · obtain ⟨x30, f1, H⟩ := bss (lo := some (.int .i64 z0t_6)) (hi := some (.int .i64 z0t_7)) rfl rfl H
      refine go1 ?_
      refine apd (g := cS) hF 0 H (rdo (c := true) (g := cS) (fun _ => rfl)) fun x32 H v3 σ4 hF => ?_
      refine go ?_
      exact IH  x32 (IntKind.i64.wrap (z0t_7 + 1)) (IntKind.i64.wrap (z0t_7 + 1)) _ H _ rfl Q τ  hE hR _ _ v3 S hF
    · refine go ?_
      exact IH  z0o_0 z0t_6 (IntKind.i64.wrap (z0t_7 + 1)) _ H _ rfl Q τ  hE hR _ _ z0v0 S hF
  · refine go ?_
    exact hE _ (pur H).symm _ _ z0v0 S hF
theorem spec_l15Cut_ok : ∀ (a0 : ByteArray) (a1 : Int) r, spec_l15Cut a0 a1 = some r → PCtr Tryd.prog 129 [.str a0, .int .u8 a1] (.sl false (rws cS r)) := by
  intro a0 a1 r H
  intro σ
  unfold spec_l15Cut at H
  refine ctr_of mixed Tryd.func129 rfl (by kernel_rfl) (rs := [.tmp 4]) rfl (by kernel_rfl) ?_
  have hF := Fx.refl σ
  have hX := Tau.none σ
  have q := dum
  have tT := dum
  have hF := hF.lit 9 1 (rws cS []) rfl
  refine go ?_
  obtain ⟨o5, ho5, H⟩ := bnd H
  refine spec_l15Cut_l0_ok a0 a1 [] 0 0 _ ho5 _ rfl _ _  ?_ ?_ _ _ (.sl true (rws cS [])) S hF
  · intro e6o_0 he T7 σ8 e6v0 tT hF
    have he := he.symm
    subst he
    refine go ?_
    have e := pur H; subst e
    exact rt [e6v0]
  · trivial
theorem spec_l1Sets_l0_ok : ∀ (a0 : ByteArray) (a1 : Int) (z0t_7 : Int) out, spec_l1Sets_l0 a0 a1 z0t_7 = some out → ∀ c, loopAt Tryd.f128 0 = some c → ∀ (Q : AX → AS → Prop) (τ : Sto), (∀ (e0t_7 : Int), out = e0t_7 → ∀ (T : Nat → AV) (σ : Sto), T 0 = .str a0 ∧ T 1 = .int .i64 a1 ∧ T 4 = .nilsl ∧ T 5 = .int .i64 0 ∧ T 6 = .sl true (rws cI []) ∧ T 7 = .int .i64 e0t_7 → Fx τ σ [] [] → Q (.ex 0) ⟨T, σ⟩) → True → ∀ (T : Nat → AV) (σ : Sto), T 0 = .str a0 ∧ T 1 = .int .i64 a1 ∧ T 4 = .nilsl ∧ T 5 = .int .i64 0 ∧ T 6 = .sl true (rws cI []) ∧ T 7 = .int .i64 z0t_7 → Fx τ σ [] [] → aLoop (acode Tryd.prog c) Q ⟨T, σ⟩ := by
  intro a0 a1 z0t_7
  revert z0t_7
  refine spec_l1Sets_l0.partial_correctness a0 a1 _ ?_
  intro spec_l1Sets_l0 IH z0t_7 out H c hc Q τ  hE hR T σ tT hF
  obtain rfl := Option.some.inj ((rfl : loopAt Tryd.f128 0 = some _).symm.trans hc)
  refine aLoop_round ?_
  have q := dum
  have hX := Tau.none τ
  refine go ?_
  obtain ⟨x35, g3, H⟩ := bnd H
  refine aGd_cutN 4 31 35 (.bool x35) (gi q (fun q => ?_) (fun q => ?_)) (fun J => ?_)
  · rw [if_pos (dt q)] at g3
    obtain ⟨x33, f1, g3⟩ := bsx g3
    refine go1 ?_
    refine go ?_
    exact cutd 31 g3
  · rw [if_neg (df q)] at g3
    refine go ?_
    exact cutd 31 g3
  refine go ?_
  refine cdb H (fun h H => ?_) (fun h H => ?_)
  · refine go ?_
    exact IH  (IntKind.i64.wrap (z0t_7 + 1)) _ H _ rfl Q τ  hE hR _ _  S hF
  · refine go ?_
    exact hE _ (pur H).symm _ _  S hF
theorem spec_l1Sets_l1_ok : ∀ (e6t_7 : Int) (x48 : List ByteArray) (z1o_0 : List Int) (z1t_9 : Int) out, spec_l1Sets_l1 e6t_7 x48 z1o_0 z1t_9 = some out → ∀ c, loopAt Tryd.f128 1 = some c → ∀ (Q : AX → AS → Prop) (τ : Sto), (∀ (e1o_0 : List Int), out = Sum.inr e1o_0 → ∀ (T : Nat → AV) (σ : Sto) (e1v0 : AV), T 4 = .nilsl ∧ T 5 = .int .i64 0 ∧ T 6 = e1v0 ∧ T 7 = .int .i64 e6t_7 → Fx τ σ [] [⟨e1v0, 3, 1, rws cI e1o_0⟩] → Q (.ex 2) ⟨T, σ⟩) → (∀ r, out = Sum.inl r → ∀ s', aRet Tryd.prog [.tmp 4, .tmp 5] (fun r' σ' => r' = .tup [.sl false (rws cI r.1), .int .i64 r.2] ∧ σ' = τ) s' → Q .ret s') → ∀ (T : Nat → AV) (σ : Sto) (z1v0 : AV), T 4 = .nilsl ∧ T 5 = .int .i64 0 ∧ T 6 = z1v0 ∧ T 7 = .int .i64 e6t_7 ∧ T 8 = .sl false (rws cS x48) ∧ T 9 = .int .i64 z1t_9 → Fx τ σ [] [⟨z1v0, 3, 1, rws cI z1o_0⟩] → aLoop (acode Tryd.prog c) Q ⟨T, σ⟩ := by
  intro e6t_7 x48 z1o_0 z1t_9
  revert z1o_0 z1t_9
  refine spec_l1Sets_l1.partial_correctness e6t_7 x48 _ ?_
  intro spec_l1Sets_l1 IH z1o_0 z1t_9 out H c hc Q τ  hE hR T σ z1v0 tT hF
  obtain rfl := Option.some.inj ((rfl : loopAt Tryd.f128 1 = some _).symm.trans hc)
  refine aLoop_round ?_
  have q := dum
  have hX := Tau.none τ
  refine go ?_
  obtain ⟨x56, g10, H⟩ := bnd H
  refine aGd_cutN 2 54 56 (.bool x56) (gi q (fun q => ?_) (fun q => ?_)) (fun J => ?_)
  · refine go ?_
    exact cutd 54 g10
  · refine go ?_
    exact cutd 54 g10
  refine go ?_
  refine cdb H (fun h H => ?_) (fun h H => ?_)
  · obtain ⟨x62, f1, H⟩ := bil (g := cS) (fun _ => rfl) H
    refine go1 ?_
    obtain ⟨x64, hx64, H⟩ := bnd H
    refine cl (spec_l15Num_ok x62 _ hx64) ?_
    refine go ?_
    refine cdb H (fun h H => ?_) (fun h H => ?_)
    · refine go ?_
      exact hR _ (pur H).symm _ (rt [z1v0, .int .i64 (-1)])
    · refine go ?_
      refine apd (g := cI) hF 0 H (rdo (c := true) (g := cI) (fun _ => rfl)) fun x73 H v12 σ13 hF => ?_
      refine go ?_
      exact IH  x73 (IntKind.i64.wrap (z1t_9 + 1)) _ H _ rfl Q τ  hE hR _ _ v12 S hF
  · refine go ?_
    exact hE _ (pur H).symm _ _ z1v0 S hF
theorem spec_l1Sets_ok : ∀ (a0 : ByteArray) (a1 : Int) r, spec_l1Sets a0 a1 = some r → PCtr Tryd.prog 128 [.str a0, .int .i64 a1] (.tup [.sl false (rws cI r.1), .int .i64 r.2]) := by
  intro a0 a1 r H
  intro σ
  unfold spec_l1Sets at H
  refine ctr_of mixed Tryd.func128 rfl (by kernel_rfl) (rs := [.tmp 4, .tmp 5]) rfl (by kernel_rfl) ?_
  have hF := Fx.refl σ
  have hX := Tau.none σ
  have q := dum
  have tT := dum
  refine go ?_
  obtain ⟨x22, g1, H⟩ := bnd H
  refine aGd_cutN 4 18 22 (.bool x22) (giN q (fun q => ?_) (fun q => ?_)) (fun J => ?_)
  · rw [if_neg (df q)] at g1
    obtain ⟨x20, f1, g1⟩ := bsx g1
    refine go1 ?_
    refine go ?_
    exact cutd 18 g1
  · rw [if_pos (dt q)] at g1
    refine go ?_
    exact cutd 18 g1
  refine go ?_
  refine cdb H (fun h H => ?_) (fun h H => ?_)
  · refine go ?_
    have e := pur H; subst e
    exact rt [.sl true (rws cI []), .int .i64 a1]
  · refine go ?_
    obtain ⟨o5, ho5, H⟩ := bnd H
    refine spec_l1Sets_l0_ok a0 a1 a1 _ ho5 _ rfl _ _  ?_ ?_ _ _  S hF
    · intro e6t_7 he T7 σ8 tT hF
      have he := he.symm
      subst he
      refine go ?_
      refine cdp H (fun h H => ?_) (fun h H => ?_)
      · refine go ?_
        have e := pur H; subst e
        exact rt [.sl true (rws cI []), .int .i64 (-1)]
      · obtain ⟨x47, f1, H⟩ := bss (lo := some (.int .i64 (IntKind.i64.wrap (a1 + 1)))) (hi := some (.int .i64 e6t_7)) rfl rfl H
        refine go1 ?_
        obtain ⟨x48, hx48, H⟩ := bnd H
        refine cl (spec_l15Cut_ok x47 44 _ hx48) ?_
        have hF := hF.lit 3 1 (rws cI []) rfl
        refine go ?_
        obtain ⟨o14, ho14, H⟩ := bnd H
        refine spec_l1Sets_l1_ok e6t_7 x48 [] 0 _ ho14 _ rfl _ _  ?_ ?_ _ _ (.sl true (rws cI [])) S hF
        · intro e15o_0 he T16 σ17 e15v0 tT hF
          have he := he.symm
          subst he
          dsimp only at H
          refine go ?_
          have e := pur H; subst e
          exact rt [e15v0, .int .i64 (IntKind.i64.wrap (e6t_7 + 1))]
        · intro r hr s' hs
          subst hr
          have e := pur H; subst e
          first | exact hs | (try simp only [Fm.cells_eq] at hs ⊢; exact hs)
    · trivial
theorem spec_l1Atom_ok : ∀ (a0 : ByteArray) (a1 : Int) r, spec_l1Atom a0 a1 = some r → PCtr Tryd.prog 125 [.str a0, .int .i64 a1] (.tup [.agg (Fm.cells r.1), .int .i64 r.2]) := by
  intro a0 a1 r H
  intro σ
  unfold spec_l1Atom at H
  refine ctr_of mixed Tryd.func125 rfl (by kernel_rfl) (rs := [.cell 4 30, .tmp 5]) rfl (by kernel_rfl) ?_
  have hF := Fx.refl σ
  have hX := Tau.none σ
  have q := dum
  have tT := dum
  refine go ?_
  refine fx_alloc hF rfl fun b1 σ2 hF => ?_
  refine go ?_
  obtain ⟨x14, hx14, H⟩ := bnd H
  refine cl (spec_l1Word_ok a0 a1 _ hx14) ?_
  obtain ⟨x18, f1, H⟩ := bss (lo := some (.int .i64 a1)) (hi := some (.int .i64 x14)) rfl rfl H
  refine go1 ?_
  refine go ?_
  obtain ⟨x21, hx21, H⟩ := bnd H
  refine cl (spec_l15Num_ok x18 _ hx21) ?_
  refine go ?_
  refine cdb H (fun h H => ?_) (fun h H => ?_)
  · refine go ?_
    refine st hF 0 rfl fun σ3 hF => ?_
    refine go ?_
    have e := pur H; subst e
    exact rt [.agg [.int .i64 2, .str (ByteArray.mk #[]), .int .i64 x21.1, .nilsl, .nilsl], .int .i64 x14]
  · refine go ?_
    refine cdp H (fun h H => ?_) (fun h H => ?_)
    · refine go ?_
      refine st hF 0 rfl fun σ4 hF => ?_
      refine go ?_
      have e := pur H; subst e
      exact rt [.agg [.int .i64 0, .str (ByteArray.mk #[]), .int .i64 0, .nilsl, .nilsl], .int .i64 (-1)]
    · refine go ?_
      obtain ⟨x34, hx34, H⟩ := bnd H
      refine cl (spec_l1Sets_ok a0 x14 _ hx34) ?_
      refine go ?_
      refine st hF 0 rfl fun σ5 hF => ?_
      refine go ?_
      have e := pur H; subst e
      exact rt [.agg [.int .i64 1, .str x18, .int .i64 0, .sl false (rws cI x34.1), .nilsl], .int .i64 x34.2]
theorem spec_l1Read_ok : ∀ (a0 : ByteArray) (a1 : Int) (a2 : Int) r, spec_l1Read a0 a1 a2 = some r → PCtr Tryd.prog 120 [.str a0, .int .i64 a1, .int .i64 a2] (.tup [.agg (Fm.cells r.1), .int .i64 r.2]) := by
  intro a0 a1 a2
  revert a1 a2
  refine spec_l1Read.partial_correctness a0 (motive_1 := fun a1 a2 r => PCtr Tryd.prog 120 [.str a0, .int .i64 a1, .int .i64 a2] (.tup [.agg (Fm.cells r.1), .int .i64 r.2])) (motive_2 := fun a2 z0o_0 z0t_1 out => ∀ c, loopAt Tryd.f120 0 = some c → ∀ (Q : AX → AS → Prop) (τ : Sto) (b1 : Nat) (b7 : Nat), (∀ (e0o_0 : List Fm) (e0t_1 : Int), out = Sum.inr (e0o_0, e0t_1) → ∀ (T : Nat → AV) (σ : Sto) (e0v0 : AV), T 0 = .str a0 ∧ T 1 = .int .i64 e0t_1 ∧ T 6 = .ptr b1 0 ∧ T 7 = .int .i64 0 ∧ T 8 = .ptr b7 0 → Fx τ σ [(b7, ⟨30, 5, [.int .i64 3, .str (ByteArray.mk #[]), .int .i64 0, .nilsl, e0v0]⟩), (b1, ⟨30, 5, [.int .i64 0, .str (ByteArray.mk #[]), .int .i64 0, .nilsl, .nilsl]⟩)] [⟨e0v0, 30, 5, rws Fm.cells e0o_0⟩] → Q (.ex 0) ⟨T, σ⟩) → (∀ r, out = Sum.inl r → ∀ s', aRet Tryd.prog [.cell 6 30, .tmp 7] (fun r' σ' => r' = .tup [.agg (Fm.cells r.1), .int .i64 r.2] ∧ σ' = τ) s' → Q .ret s') → ∀ (T : Nat → AV) (σ : Sto) (z0v0 : AV), T 0 = .str a0 ∧ T 1 = .int .i64 z0t_1 ∧ T 2 = .int .i64 a2 ∧ T 6 = .ptr b1 0 ∧ T 7 = .int .i64 0 ∧ T 8 = .ptr b7 0 → Fx τ σ [(b7, ⟨30, 5, [.int .i64 3, .str (ByteArray.mk #[]), .int .i64 0, .nilsl, z0v0]⟩), (b1, ⟨30, 5, [.int .i64 0, .str (ByteArray.mk #[]), .int .i64 0, .nilsl, .nilsl]⟩)] [⟨z0v0, 30, 5, rws Fm.cells z0o_0⟩] → aLoop (acode Tryd.prog c) Q ⟨T, σ⟩) ?_ ?_
  · intro spec_l1Read_l0 L0 a1 a2 r H
    intro σ
    refine ctr_of mixed Tryd.func120 rfl (by kernel_rfl) (rs := [.cell 6 30, .tmp 7]) rfl (by kernel_rfl) ?_
    have hF := Fx.refl σ
    have hX := Tau.none σ
    have q := dum
    have tT := dum
    refine go ?_
    refine fx_alloc hF rfl fun b1 σ2 hF => ?_
    refine go ?_
    obtain ⟨x13, hx13, H⟩ := bnd H
    refine cl (spec_l1Skip_ok a0 a1 _ hx13) ?_
    refine go ?_
    obtain ⟨x21, g3, H⟩ := bnd H
    refine aGd_cutN 2 19 21 (.bool x21) (giN q (fun q => ?_) (fun q => ?_)) (fun J => ?_)
    · refine go ?_
      exact cutd 19 g3
    · refine go ?_
      exact cutd 19 g3
    refine go ?_
    refine cdb H (fun h H => ?_) (fun h H => ?_)
    · refine go ?_
      refine st hF 0 rfl fun σ5 hF => ?_
      refine go ?_
      have e := pur H; subst e
      exact rt [.agg [.int .i64 0, .str (ByteArray.mk #[]), .int .i64 0, .nilsl, .nilsl], .int .i64 (-1)]
    · obtain ⟨x25, f1, H⟩ := bsx H
      refine go1 ?_
      refine go ?_
      refine cdn H (fun h H => ?_) (fun h H => ?_)
      · refine go ?_
        obtain ⟨x29, hx29, H⟩ := bnd H
        refine cl (spec_l1Atom_ok a0 x13 _ hx29) ?_
        refine go ?_
        refine st hF 0 rfl fun σ6 hF => ?_
        refine go ?_
        have e := pur H; subst e
        exact rt [.agg [.int .i64 x29.1.kind, .str x29.1.name, .int .i64 x29.1.num, .sl false (rws cI x29.1.sc), .sl false (rws Fm.cells x29.1.kids)], .int .i64 x29.2]
      · refine go ?_
        refine fx_alloc hF rfl fun b7 σ8 hF => ?_
        refine go ?_
        refine st hF 0 rfl fun σ9 hF => ?_
        refine go ?_
        obtain ⟨x36, hx36, H⟩ := bnd H
        refine cl (spec_l1Skip_ok a0 (IntKind.i64.wrap (x13 + 1)) _ hx36) ?_
        have hF := hF.nil 30 5
        refine go ?_
        obtain ⟨o21, ho21, H⟩ := bnd H
        refine L0 a2 [] x36 _ ho21 _ rfl _ _ b1 b7 ?_ ?_ _ _ .nilsl S hF
        · intro e22o_0 e22t_1 he T23 σ24 e22v0 tT hF
          have he := he.symm
          subst he
          dsimp only at H
          refine go ?_
          obtain ⟨x82, g26, H⟩ := bnd H
          refine aGd_cutN 4 78 82 (.bool x82) (giN q (fun q => ?_) (fun q => ?_)) (fun J => ?_)
          · rw [if_neg (df q)] at g26
            obtain ⟨x80, f1, g26⟩ := bsx g26
            refine go1 ?_
            refine go ?_
            exact cutd 78 g26
          · rw [if_pos (dt q)] at g26
            refine go ?_
            exact cutd 78 g26
          refine go ?_
          refine cdb H (fun h H => ?_) (fun h H => ?_)
          · refine go ?_
            refine st hF 1 rfl fun σ28 hF => ?_
            refine go ?_
            have e := pur H; subst e
            exact rt [.agg [.int .i64 3, .str (ByteArray.mk #[]), .int .i64 0, .nilsl, e22v0], .int .i64 (-1)]
          · refine go ?_
            refine st hF 1 rfl fun σ29 hF => ?_
            refine go ?_
            have e := pur H; subst e
            exact rt [.agg [.int .i64 3, .str (ByteArray.mk #[]), .int .i64 0, .nilsl, e22v0], .int .i64 (IntKind.i64.wrap (e22t_1 + 1))]
        · intro r hr s' hs
          subst hr
          have e := pur H; subst e
          first | exact hs | (try simp only [Fm.cells_eq] at hs ⊢; exact hs)
  · intro spec_l1Read spec_l1Read_l0 C0 L0 a2 z0o_0 z0t_1 out H c hc Q τ b1 b7 hE hR T σ z0v0 tT hF
    obtain rfl := Option.some.inj ((rfl : loopAt Tryd.f120 0 = some _).symm.trans hc)
    refine aLoop_round ?_
    have q := dum
    have hX := Tau.none τ
    refine go ?_
    obtain ⟨x46, g10, H⟩ := bnd H
    refine aGd_cutN 4 42 46 (.bool x46) (gi q (fun q => ?_) (fun q => ?_)) (fun J => ?_)
    · rw [if_pos (dt q)] at g10
      obtain ⟨x44, f1, g10⟩ := bsx g10
      refine go1 ?_
      refine go ?_
      exact cutd 42 g10
    · rw [if_neg (df q)] at g10
      refine go ?_
      exact cutd 42 g10
    refine go ?_
    obtain ⟨x52, g12, H⟩ := bnd H
    refine aGd_cutN 4 48 52 (.bool x52) (gi q (fun q => ?_) (fun q => ?_)) (fun J => ?_)
    · refine go ?_
      exact cutd 48 g12
    · refine go ?_
      exact cutd 48 g12
    refine go ?_
    refine cdb H (fun h H => ?_) (fun h H => ?_)
    · refine go ?_
      obtain ⟨x58, hx58, H⟩ := bnd H
      refine cl (C0 z0t_1 (IntKind.i64.wrap (a2 - 1)) _ hx58) ?_
      refine go ?_
      refine fx_alloc hF rfl fun b14 σ15 hF => ?_
      refine go ?_
      refine st hF 0 rfl fun σ16 hF => ?_
      refine go ?_
      refine cdp H (fun h H => ?_) (fun h H => ?_)
      · refine go ?_
        refine st hF 2 rfl fun σ17 hF => ?_
        refine go ?_
        exact hR _ (pur H).symm _ (rt [.agg [.int .i64 3, .str (ByteArray.mk #[]), .int .i64 0, .nilsl, z0v0], .int .i64 (-1)])
      · refine go ?_
        refine apd (g := Fm.cells) hF 0 H (rdo (c := true) (g := Fm.cells) Fm.cells_len) fun x68 H v18 σ19 hF => ?_
        refine go ?_
        refine st hF 1 (hF.cells 0 rfl) fun σ20 hF => ?_
        refine go ?_
        obtain ⟨x72, hx72, H⟩ := bnd H
        refine cl (spec_l1Skip_ok a0 x58.2 _ hx72) ?_
        refine go ?_
        exact L0 a2 x68 x72 _ H _ rfl Q τ b1 b7 hE hR _ _ v18 S (hF.drop 1 0)
    · refine go ?_
      exact hE _ _ (pur H).symm _ _ z0v0 S hF
theorem spec_l1Letter_ok : ∀ (a0 : Int) (a1 : Bool) r, spec_l1Letter a0 a1 = some r → PCtr Tryd.prog 119 [.int .u8 a0, .bool a1] (.bool r) := by
  intro a0 a1 r H
  intro σ
  unfold spec_l1Letter at H
  refine ctr_of mixed Tryd.func119 rfl (by kernel_rfl) (rs := [.tmp 4]) rfl (by kernel_rfl) ?_
  have hF := Fx.refl σ
  have hX := Tau.none σ
  have q := dum
  have tT := dum
  refine go ?_
  obtain ⟨x10, g1, H⟩ := bnd H
  refine aGd_cutN 2 8 10 (.bool x10) (gi q (fun q => ?_) (fun q => ?_)) (fun J => ?_)
  · refine go ?_
    exact cutd 8 g1
  · refine go ?_
    exact cutd 8 g1
  refine go ?_
  obtain ⟨x14, g3, H⟩ := bnd H
  refine aGd_cutN 2 12 14 (.bool x14) (giN q (fun q => ?_) (fun q => ?_)) (fun J => ?_)
  · refine go ?_
    exact cutd 12 g3
  · refine go ?_
    exact cutd 12 g3
  refine go ?_
  obtain ⟨x18, g5, H⟩ := bnd H
  refine aGd_cutN 2 16 18 (.bool x18) (giN q (fun q => ?_) (fun q => ?_)) (fun J => ?_)
  · refine go ?_
    exact cutd 16 g5
  · refine go ?_
    exact cutd 16 g5
  refine go ?_
  obtain ⟨x22, g7, H⟩ := bnd H
  refine aGd_cutN 2 20 22 (.bool x22) (giN q (fun q => ?_) (fun q => ?_)) (fun J => ?_)
  · refine go ?_
    exact cutd 20 g7
  · refine go ?_
    exact cutd 20 g7
  refine go ?_
  obtain ⟨x26, g9, H⟩ := bnd H
  refine aGd_cutN 2 24 26 (.bool x26) (giN q (fun q => ?_) (fun q => ?_)) (fun J => ?_)
  · refine go ?_
    exact cutd 24 g9
  · refine go ?_
    exact cutd 24 g9
  refine go ?_
  obtain ⟨x30, g11, H⟩ := bnd H
  refine aGd_cutN 2 28 30 (.bool x30) (giN q (fun q => ?_) (fun q => ?_)) (fun J => ?_)
  · refine go ?_
    exact cutd 28 g11
  · refine go ?_
    exact cutd 28 g11
  refine go ?_
  refine cdb H (fun h H => ?_) (fun h H => ?_)
  · refine go ?_
    have e := pur H; subst e
    exact rt [.bool true]
  · refine go ?_
    obtain ⟨x44, g13, H⟩ := bnd H
    refine aGd_cutN 10 34 44 (.bool x44) (gi q (fun q => ?_) (fun q => ?_)) (fun J => ?_)
    · rw [if_pos (dbt q)] at g13
      refine go ?_
      obtain ⟨x39, g15, g13⟩ := bnd g13
      refine aGd_cutN 2 37 39 (.bool x39) (gi q (fun q => ?_) (fun q => ?_)) (fun J => ?_)
      · refine go ?_
        exact cutd 37 g15
      · refine go ?_
        exact cutd 37 g15
      refine go ?_
      obtain ⟨x43, g17, g13⟩ := bnd g13
      refine aGd_cutN 2 41 43 (.bool x43) (giN q (fun q => ?_) (fun q => ?_)) (fun J => ?_)
      · refine go ?_
        exact cutd 41 g17
      · refine go ?_
        exact cutd 41 g17
      refine go ?_
      exact cutd 34 g13
    · rw [if_neg (dbf q)] at g13
      refine go ?_
      exact cutd 34 g13
    refine go ?_
    have e := pur H; subst e
    exact rt [.bool x44]
theorem spec_NameValid_l0_ok : ∀ (a0 : ByteArray) (z0t_3 : Int) out, spec_NameValid_l0 a0 z0t_3 = some out → ∀ c, loopAt Tryd.f106 0 = some c → ∀ (Q : AX → AS → Prop) (τ : Sto), (∀ (_u : Unit), out = Sum.inr () → ∀ (T : Nat → AV) (σ : Sto), T 0 = .str a0 ∧ T 2 = .bool false → Fx τ σ [] [] → Q (.ex 0) ⟨T, σ⟩) → (∀ r, out = Sum.inl r → ∀ s', aRet Tryd.prog [.tmp 2] (fun r' σ' => r' = .bool r ∧ σ' = τ) s' → Q .ret s') → ∀ (T : Nat → AV) (σ : Sto), T 0 = .str a0 ∧ T 2 = .bool false ∧ T 3 = .int .i64 z0t_3 → Fx τ σ [] [] → aLoop (acode Tryd.prog c) Q ⟨T, σ⟩ := by
  intro a0 z0t_3
  revert z0t_3
  refine spec_NameValid_l0.partial_correctness a0 _ ?_
  intro spec_NameValid_l0 IH z0t_3 out H c hc Q τ  hE hR T σ tT hF
  obtain rfl := Option.some.inj ((rfl : loopAt Tryd.f106 0 = some _).symm.trans hc)
  refine aLoop_round ?_
  have q := dum
  have hX := Tau.none τ
  refine go ?_
  obtain ⟨x17, g3, H⟩ := bnd H
  refine aGd_cutN 2 15 17 (.bool x17) (gi q (fun q => ?_) (fun q => ?_)) (fun J => ?_)
  · refine go ?_
    exact cutd 15 g3
  · refine go ?_
    exact cutd 15 g3
  refine go ?_
  refine cdb H (fun h H => ?_) (fun h H => ?_)
  · obtain ⟨x22, f1, H⟩ := bsx H
    refine go1 ?_
    obtain ⟨x25, hx25, H⟩ := bnd H
    refine cl (spec_l1Letter_ok x22 (decide (z0t_3 = 0)) _ hx25) ?_
    refine go ?_
    refine cdb H (fun h H => ?_) (fun h H => ?_)
    · refine go ?_
      exact hR _ (pur H).symm _ (rt [.bool false])
    · refine go ?_
      exact IH  (IntKind.i64.wrap (z0t_3 + 1)) _ H _ rfl Q τ  hE hR _ _  S hF
  · refine go ?_
    exact hE () (pur H).symm _ _  S hF
theorem spec_NameValid_ok : ∀ (a0 : ByteArray) r, spec_NameValid a0 = some r → PCtr Tryd.prog 106 [.str a0] (.bool r) := by
  intro a0 r H
  intro σ
  unfold spec_NameValid at H
  refine ctr_of mixed Tryd.func106 rfl (by kernel_rfl) (rs := [.tmp 2]) rfl (by kernel_rfl) ?_
  have hF := Fx.refl σ
  have hX := Tau.none σ
  have q := dum
  have tT := dum
  refine go ?_
  obtain ⟨x9, g1, H⟩ := bnd H
  refine aGd_cutN 2 7 9 (.bool x9) (giN q (fun q => ?_) (fun q => ?_)) (fun J => ?_)
  · refine go ?_
    exact cutd 7 g1
  · refine go ?_
    exact cutd 7 g1
  refine go ?_
  refine cdb H (fun h H => ?_) (fun h H => ?_)
  · refine go ?_
    have e := pur H; subst e
    exact rt [.bool true]
  · refine go ?_
    obtain ⟨o5, ho5, H⟩ := bnd H
    refine spec_NameValid_l0_ok a0 0 _ ho5 _ rfl _ _  ?_ ?_ _ _  S hF
    · intro _ he T7 σ8 tT hF
      have he := he.symm
      subst he
      dsimp only at H
      refine go ?_
      obtain ⟨x34, g10, H⟩ := bnd H
      refine aGd_cutN 3 31 34 (.bool x34) (gi q (fun q => ?_) (fun q => ?_)) (fun J => ?_)
      · refine go ?_
        exact cutd 31 g10
      · refine go ?_
        exact cutd 31 g10
      refine go ?_
      have e := pur H; subst e
      exact rt [.bool x34]
    · intro r hr s' hs
      subst hr
      have e := pur H; subst e
      first | exact hs | (try simp only [Fm.cells_eq] at hs ⊢; exact hs)
theorem spec_l1Scopes_l0_ok : ∀ (a0 : List Int) (z0t_3 : Int) out, spec_l1Scopes_l0 a0 z0t_3 = some out → ∀ c, loopAt Tryd.f107 0 = some c → ∀ (Q : AX → AS → Prop) (τ : Sto), (∀ (_u : Unit), out = Sum.inr () → ∀ (T : Nat → AV) (σ : Sto), T 0 = .sl false (rws cI a0) ∧ T 2 = .bool false → Fx τ σ [] [] → Q (.ex 0) ⟨T, σ⟩) → (∀ r, out = Sum.inl r → ∀ s', aRet Tryd.prog [.tmp 2] (fun r' σ' => r' = .bool r ∧ σ' = τ) s' → Q .ret s') → ∀ (T : Nat → AV) (σ : Sto), T 0 = .sl false (rws cI a0) ∧ T 2 = .bool false ∧ T 3 = .int .i64 z0t_3 → Fx τ σ [] [] → aLoop (acode Tryd.prog c) Q ⟨T, σ⟩ := by
  intro a0 z0t_3
  revert z0t_3
  refine spec_l1Scopes_l0.partial_correctness a0 _ ?_
  intro spec_l1Scopes_l0 IH z0t_3 out H c hc Q τ  hE hR T σ tT hF
  obtain rfl := Option.some.inj ((rfl : loopAt Tryd.f107 0 = some _).symm.trans hc)
  refine aLoop_round ?_
  have q := dum
  have hX := Tau.none τ
  refine go ?_
  obtain ⟨x11, g1, H⟩ := bnd H
  refine aGd_cutN 2 9 11 (.bool x11) (gi q (fun q => ?_) (fun q => ?_)) (fun J => ?_)
  · refine go ?_
    exact cutd 9 g1
  · refine go ?_
    exact cutd 9 g1
  refine go ?_
  refine cdb H (fun h H => ?_) (fun h H => ?_)
  · refine go ?_
    refine draw_text E0 [.v, .v, .v, .v, .v, .v, .v, .v, .v, .v, .v, .v, .v, .v, .v, .v, .v, .v, .v, .v, .v, .v, .v, .v, .v, .v, .v, .v] (by kernel_rfl) ?_
    obtain ⟨x16, f1, H⟩ := bil (g := cI) (fun _ => rfl) H
    refine go1 ?_
    obtain ⟨x25, g3, H⟩ := bnd H
    refine tGd_cutN 5 20 25 (.bool x25) (tiN q (fun q => ?_) (fun q => ?_)) (fun J => ?_)
    · rw [if_neg (df q)] at g3
      obtain ⟨x22, f1, g3⟩ := bil (g := cI) (fun _ => rfl) g3
      refine go1 ?_
      refine go ?_
      exact cutd 20 g3
    · rw [if_pos (dt q)] at g3
      refine go ?_
      exact cutd 20 g3
    refine go ?_
    obtain ⟨x41, g5, H⟩ := bnd H
    refine tGd_cutN 14 27 41 (.bool x41) (tiN q (fun q => ?_) (fun q => ?_)) (fun J => ?_)
    · rw [if_neg (dbf q)] at g5
      refine go ?_
      obtain ⟨x40, g7, g5⟩ := bnd g5
      refine tGd_cutN 10 30 40 (.bool x40) (ti q (fun q => ?_) (fun q => ?_)) (fun J => ?_)
      · rw [if_pos (dt q)] at g7
        obtain ⟨x32, f1, g7⟩ := bil (g := cI) (fun _ => rfl) g7
        obtain ⟨x37, f2, g7⟩ := bil (g := cI) (fun _ => rfl) g7
        refine go2 ?_
        refine go ?_
        exact cutd 30 g7
      · rw [if_neg (df q)] at g7
        refine go ?_
        exact cutd 30 g7
      refine go ?_
      exact cutd 27 g5
    · rw [if_pos (dbt q)] at g5
      refine go ?_
      exact cutd 27 g5
    refine go ?_
    refine cdb H (fun h H => ?_) (fun h H => ?_)
    · refine go ?_
      exact hR _ (pur H).symm _ (rt [.bool false])
    · refine go ?_
      exact IH  (IntKind.i64.wrap (z0t_3 + 1)) _ H _ rfl Q τ  hE hR _ _  S hF
  · refine go ?_
    exact hE () (pur H).symm _ _  S hF
theorem spec_l1Scopes_ok : ∀ (a0 : List Int) r, spec_l1Scopes a0 = some r → PCtr Tryd.prog 107 [.sl false (rws cI a0)] (.bool r) := by
  intro a0 r H
  intro σ
  unfold spec_l1Scopes at H
  refine ctr_of mixed Tryd.func107 rfl (by kernel_rfl) (rs := [.tmp 2]) rfl (by kernel_rfl) ?_
  have hF := Fx.refl σ
  have hX := Tau.none σ
  have q := dum
  have tT := dum
  refine go ?_
  obtain ⟨o9, ho9, H⟩ := bnd H
  refine spec_l1Scopes_l0_ok a0 0 _ ho9 _ rfl _ _  ?_ ?_ _ _  S hF
  · intro _ he T11 σ12 tT hF
    have he := he.symm
    subst he
    dsimp only at H
    refine go ?_
    have e := pur H; subst e
    exact rt [.bool (decide ((a0.length : Int) ≤ 24))]
  · intro r hr s' hs
    subst hr
    have e := pur H; subst e
    first | exact hs | (try simp only [Fm.cells_eq] at hs ⊢; exact hs)
theorem spec_l1Is_ok : ∀ (a0 : Fm) (a1 : Int) r, spec_l1Is a0 a1 = some r → PCtr Tryd.prog 93 [.agg (Fm.cells a0), .int .i64 a1] (.bool r) := by
  refine spec_l1Is.partial_correctness  (motive_1 := fun a0 a1 r => PCtr Tryd.prog 93 [.agg (Fm.cells a0), .int .i64 a1] (.bool r)) (motive_2 := fun a0 a1 z0t_5 out => ∀ c, loopAt Tryd.f93 0 = some c → ∀ (Q : AX → AS → Prop) (τ : Sto) (b1 : Nat), (∀ (_u : Unit), out = Sum.inr () → ∀ (T : Nat → AV) (σ : Sto), T 4 = .bool false → Fx τ σ [(b1, ⟨30, 5, [.int .i64 a0.kind, .str a0.name, .int .i64 a0.num, .sl false (rws cI a0.sc), .sl false (rws Fm.cells a0.kids)]⟩)] [] → Q (.ex 1) ⟨T, σ⟩) → (∀ r, out = Sum.inl r → ∀ s', aRet Tryd.prog [.tmp 4] (fun r' σ' => r' = .bool r ∧ σ' = τ) s' → Q .ret s') → ∀ (T : Nat → AV) (σ : Sto), T 1 = .int .i64 a1 ∧ T 2 = .ptr b1 0 ∧ T 4 = .bool false ∧ T 5 = .int .i64 z0t_5 → Fx τ σ [(b1, ⟨30, 5, [.int .i64 a0.kind, .str a0.name, .int .i64 a0.num, .sl false (rws cI a0.sc), .sl false (rws Fm.cells a0.kids)]⟩)] [] → aLoop (acode Tryd.prog c) Q ⟨T, σ⟩) ?_ ?_
  · intro spec_l1Is_l0 L0 a0 a1 r H
    intro σ
    refine ctr_of mixed Tryd.func93 rfl (by kernel_rfl) (rs := [.tmp 4]) rfl (by kernel_rfl) ?_
    have hF := Fx.refl σ
    have hX := Tau.none σ
    have q := dum
    have tT := dum
    refine go ?_
    refine fx_alloc hF rfl fun b1 σ2 hF => ?_
    refine go ?_
    refine cdp H (fun h H => ?_) (fun h H => ?_)
    · refine go ?_
      have e := pur H; subst e
      exact rt [.bool false]
    · refine go ?_
      refine cdp H (fun h H => ?_) (fun h H => ?_)
      · refine go ?_
        obtain ⟨x14, hx14, H⟩ := bnd H
        refine cl (spec_NameValid_ok a0.name _ hx14) ?_
        refine go ?_
        obtain ⟨x19, g3, H⟩ := bnd H
        refine aGd_cutN 3 16 19 (.bool x19) (gi q (fun q => ?_) (fun q => ?_)) (fun J => ?_)
        · refine go ?_
          exact cutd 16 g3
        · refine go ?_
          exact cutd 16 g3
        refine go ?_
        obtain ⟨x24, g5, H⟩ := bnd H
        refine aGd_cutN 3 21 24 (.bool x24) (gi q (fun q => ?_) (fun q => ?_)) (fun J => ?_)
        · rw [if_pos (dbt q)] at g5
          refine go ?_
          obtain ⟨x23, hx23, g5⟩ := bnd g5
          refine cl (spec_l1Scopes_ok a0.sc _ hx23) ?_
          refine go ?_
          exact cutd 21 g5
        · rw [if_neg (dbf q)] at g5
          refine go ?_
          exact cutd 21 g5
        refine go ?_
        obtain ⟨x30, g7, H⟩ := bnd H
        refine aGd_cutN 4 26 30 (.bool x30) (gi q (fun q => ?_) (fun q => ?_)) (fun J => ?_)
        · refine go ?_
          exact cutd 26 g7
        · refine go ?_
          exact cutd 26 g7
        refine go ?_
        have e := pur H; subst e
        exact rt [.bool x30]
      · refine go ?_
        refine cdp H (fun h H => ?_) (fun h H => ?_)
        · refine go ?_
          obtain ⟨x40, g9, H⟩ := bnd H
          refine aGd_cutN 3 37 40 (.bool x40) (gi q (fun q => ?_) (fun q => ?_)) (fun J => ?_)
          · refine go ?_
            exact cutd 37 g9
          · refine go ?_
            exact cutd 37 g9
          refine go ?_
          obtain ⟨x45, g11, H⟩ := bnd H
          refine aGd_cutN 3 42 45 (.bool x45) (gi q (fun q => ?_) (fun q => ?_)) (fun J => ?_)
          · refine go ?_
            exact cutd 42 g11
          · refine go ?_
            exact cutd 42 g11
          refine go ?_
          obtain ⟨x51, g13, H⟩ := bnd H
          refine aGd_cutN 4 47 51 (.bool x51) (gi q (fun q => ?_) (fun q => ?_)) (fun J => ?_)
          · refine go ?_
            exact cutd 47 g13
          · refine go ?_
            exact cutd 47 g13
          refine go ?_
          obtain ⟨x57, g15, H⟩ := bnd H
          refine aGd_cutN 4 53 57 (.bool x57) (gi q (fun q => ?_) (fun q => ?_)) (fun J => ?_)
          · refine go ?_
            exact cutd 53 g15
          · refine go ?_
            exact cutd 53 g15
          refine go ?_
          have e := pur H; subst e
          exact rt [.bool x57]
        · refine go ?_
          obtain ⟨x65, g17, H⟩ := bnd H
          refine aGd_cutN 3 62 65 (.bool x65) (giN q (fun q => ?_) (fun q => ?_)) (fun J => ?_)
          · refine go ?_
            exact cutd 62 g17
          · refine go ?_
            exact cutd 62 g17
          refine go ?_
          obtain ⟨x70, g19, H⟩ := bnd H
          refine aGd_cutN 3 67 70 (.bool x70) (giN q (fun q => ?_) (fun q => ?_)) (fun J => ?_)
          · refine go ?_
            exact cutd 67 g19
          · refine go ?_
            exact cutd 67 g19
          refine go ?_
          obtain ⟨x76, g21, H⟩ := bnd H
          refine aGd_cutN 4 72 76 (.bool x76) (giN q (fun q => ?_) (fun q => ?_)) (fun J => ?_)
          · refine go ?_
            exact cutd 72 g21
          · refine go ?_
            exact cutd 72 g21
          refine go ?_
          refine cdb H (fun h H => ?_) (fun h H => ?_)
          · refine go ?_
            have e := pur H; subst e
            exact rt [.bool false]
          · refine go ?_
            obtain ⟨o23, ho23, H⟩ := bnd H
            refine L0 a0 a1 0 _ ho23 _ rfl _ _ b1 ?_ ?_ _ _  S hF
            · intro _ he T25 σ26 tT hF
              have he := he.symm
              subst he
              dsimp only at H
              refine go ?_
              have e := pur H; subst e
              exact rt [.bool true]
            · intro r hr s' hs
              subst hr
              have e := pur H; subst e
              first | exact hs | (try simp only [Fm.cells_eq] at hs ⊢; exact hs)
  · intro spec_l1Is spec_l1Is_l0 C0 L0 a0 a1 z0t_5 out H c hc Q τ b1 hE hR T σ tT hF
    obtain rfl := Option.some.inj ((rfl : loopAt Tryd.f93 0 = some _).symm.trans hc)
    refine aLoop_round ?_
    have q := dum
    have hX := Tau.none τ
    refine go ?_
    refine cdp H (fun h H => ?_) (fun h H => ?_)
    · obtain ⟨x87, f1, H⟩ := bil (g := Fm.cells) Fm.cells_len H
      refine go1 ?_
      obtain ⟨x91, hx91, H⟩ := bnd H
      refine cl (C0 x87 (IntKind.i64.wrap (a1 - 1)) _ hx91) ?_
      refine go ?_
      refine cdb H (fun h H => ?_) (fun h H => ?_)
      · refine go ?_
        exact hR _ (pur H).symm _ (rt [.bool false])
      · refine go ?_
        exact L0 a0 a1 (IntKind.i64.wrap (z0t_5 + 1)) _ H _ rfl Q τ b1 hE hR _ _  S hF
    · refine go ?_
      exact hE () (pur H).symm _ _  S hF
theorem spec_l1Count_ok : ∀ (a0 : Fm) r, spec_l1Count a0 = some r → PCtr Tryd.prog 94 [.agg (Fm.cells a0)] (.int .i64 r) := by
  refine spec_l1Count.partial_correctness  (motive_1 := fun a0 r => PCtr Tryd.prog 94 [.agg (Fm.cells a0)] (.int .i64 r)) (motive_2 := fun a0 z0t_3 z0t_4 out => ∀ c, loopAt Tryd.f94 0 = some c → ∀ (Q : AX → AS → Prop) (τ : Sto) (b1 : Nat), (∀ (e0t_3 : Int), out = e0t_3 → ∀ (T : Nat → AV) (σ : Sto), T 2 = .int .i64 0 ∧ T 3 = .int .i64 e0t_3 → Fx τ σ [(b1, ⟨30, 5, [.int .i64 a0.kind, .str a0.name, .int .i64 a0.num, .sl false (rws cI a0.sc), .sl false (rws Fm.cells a0.kids)]⟩)] [] → Q (.ex 0) ⟨T, σ⟩) → True → ∀ (T : Nat → AV) (σ : Sto), T 1 = .ptr b1 0 ∧ T 2 = .int .i64 0 ∧ T 3 = .int .i64 z0t_3 ∧ T 4 = .int .i64 z0t_4 → Fx τ σ [(b1, ⟨30, 5, [.int .i64 a0.kind, .str a0.name, .int .i64 a0.num, .sl false (rws cI a0.sc), .sl false (rws Fm.cells a0.kids)]⟩)] [] → aLoop (acode Tryd.prog c) Q ⟨T, σ⟩) ?_ ?_
  · intro spec_l1Count_l0 L0 a0 r H
    intro σ
    refine ctr_of mixed Tryd.func94 rfl (by kernel_rfl) (rs := [.tmp 2]) rfl (by kernel_rfl) ?_
    have hF := Fx.refl σ
    have hX := Tau.none σ
    have q := dum
    have tT := dum
    refine go ?_
    refine fx_alloc hF rfl fun b1 σ2 hF => ?_
    refine go ?_
    obtain ⟨o3, ho3, H⟩ := bnd H
    refine L0 a0 1 0 _ ho3 _ rfl _ _ b1 ?_ ?_ _ _  S hF
    · intro e4t_3 he T5 σ6 tT hF
      have he := he.symm
      subst he
      refine go ?_
      have e := pur H; subst e
      exact rt [.int .i64 e4t_3]
    · trivial
  · intro spec_l1Count spec_l1Count_l0 C0 L0 a0 z0t_3 z0t_4 out H c hc Q τ b1 hE hR T σ tT hF
    obtain rfl := Option.some.inj ((rfl : loopAt Tryd.f94 0 = some _).symm.trans hc)
    refine aLoop_round ?_
    have q := dum
    have hX := Tau.none τ
    refine go ?_
    refine cdp H (fun h H => ?_) (fun h H => ?_)
    · obtain ⟨x16, f1, H⟩ := bil (g := Fm.cells) Fm.cells_len H
      refine go1 ?_
      obtain ⟨x18, hx18, H⟩ := bnd H
      refine cl (C0 x16 _ hx18) ?_
      refine go ?_
      exact L0 a0 (IntKind.i64.wrap (z0t_3 + x18)) (IntKind.i64.wrap (z0t_4 + 1)) _ H _ rfl Q τ b1 hE hR _ _  S hF
    · refine go ?_
      exact hE _ (pur H).symm _ _  S hF
theorem spec_FormValid_ok : ∀ (a0 : Fm) r, spec_FormValid a0 = some r → PCtr Tryd.prog 81 [.agg (Fm.cells a0)] (.bool r) := by
  intro a0 r H
  intro σ
  unfold spec_FormValid at H
  refine ctr_of mixed Tryd.func81 rfl (by kernel_rfl) (rs := [.tmp 2]) rfl (by kernel_rfl) ?_
  have hF := Fx.refl σ
  have hX := Tau.none σ
  have q := dum
  have tT := dum
  refine go ?_
  refine fx_alloc hF rfl fun b1 σ2 hF => ?_
  refine go ?_
  obtain ⟨x4, hx4, H⟩ := bnd H
  refine cl (spec_l1Is_ok a0 40 _ hx4) ?_
  refine go ?_
  obtain ⟨x9, g3, H⟩ := bnd H
  refine aGd_cutN 3 6 9 (.bool x9) (gi q (fun q => ?_) (fun q => ?_)) (fun J => ?_)
  · rw [if_pos (dbt q)] at g3
    refine go ?_
    obtain ⟨x7, hx7, g3⟩ := bnd g3
    refine cl (spec_l1Count_ok a0 _ hx7) ?_
    refine go ?_
    exact cutd 6 g3
  · rw [if_neg (dbf q)] at g3
    refine go ?_
    exact cutd 6 g3
  refine go ?_
  have e := pur H; subst e
  exact rt [.bool x9]
theorem spec_ParseForm_ok : ∀ (a0 : ByteArray) r, spec_ParseForm a0 = some r → PCtr Tryd.prog 109 [.str a0] (.tup [.agg (Fm.cells r.1), .bool r.2]) := by
  intro a0 r H
  intro σ
  unfold spec_ParseForm at H
  refine ctr_of mixed Tryd.func109 rfl (by kernel_rfl) (rs := [.cell 2 30, .tmp 3]) rfl (by kernel_rfl) ?_
  have hF := Fx.refl σ
  have hX := Tau.none σ
  have q := dum
  have tT := dum
  refine go ?_
  refine fx_alloc hF rfl fun b1 σ2 hF => ?_
  refine go ?_
  obtain ⟨x8, hx8, H⟩ := bnd H
  refine cl (spec_l1Read_ok a0 0 40 _ hx8) ?_
  refine go ?_
  refine fx_alloc hF rfl fun b3 σ4 hF => ?_
  refine go ?_
  refine st hF 0 rfl fun σ5 hF => ?_
  refine go ?_
  obtain ⟨x20, g6, H⟩ := bnd H
  refine aGd_cutN 6 14 20 (.bool x20) (giN q (fun q => ?_) (fun q => ?_)) (fun J => ?_)
  · rw [if_neg (df q)] at g6
    refine go ?_
    obtain ⟨x16, hx16, g6⟩ := bnd g6
    refine cl (spec_l1Skip_ok a0 x8.2 _ hx16) ?_
    refine go ?_
    exact cutd 14 g6
  · rw [if_pos (dt q)] at g6
    refine go ?_
    exact cutd 14 g6
  refine go ?_
  obtain ⟨x25, g8, H⟩ := bnd H
  refine aGd_cutN 3 22 25 (.bool x25) (giN q (fun q => ?_) (fun q => ?_)) (fun J => ?_)
  · rw [if_neg (dbf q)] at g8
    refine go ?_
    obtain ⟨x23, hx23, g8⟩ := bnd g8
    refine cl (spec_FormValid_ok x8.1 _ hx23) ?_
    refine go ?_
    exact cutd 22 g8
  · rw [if_pos (dbt q)] at g8
    refine go ?_
    exact cutd 22 g8
  refine go ?_
  refine cdb H (fun h H => ?_) (fun h H => ?_)
  · refine go ?_
    refine st hF 1 rfl fun σ10 hF => ?_
    refine go ?_
    have e := pur H; subst e
    exact rt [.agg [.int .i64 0, .str (ByteArray.mk #[]), .int .i64 0, .nilsl, .nilsl], .bool false]
  · refine go ?_
    refine st hF 1 rfl fun σ11 hF => ?_
    refine go ?_
    have e := pur H; subst e
    exact rt [.agg [.int .i64 x8.1.kind, .str x8.1.name, .int .i64 x8.1.num, .sl false (rws cI x8.1.sc), .sl false (rws Fm.cells x8.1.kids)], .bool true]
theorem spec_l1Parse_ok : ∀ (a0 : ByteArray) r, spec_l1Parse a0 = some r → PCtr Tryd.prog 96 [.str a0] (.agg (Fm.cells r)) := by
  intro a0 r H
  intro σ
  unfold spec_l1Parse at H
  refine ctr_of mixed Tryd.func96 rfl (by kernel_rfl) (rs := [.cell 2 30]) rfl (by kernel_rfl) ?_
  have hF := Fx.refl σ
  have hX := Tau.none σ
  have q := dum
  have tT := dum
  refine go ?_
  refine fx_alloc hF rfl fun b1 σ2 hF => ?_
  refine go ?_
  obtain ⟨x7, hx7, H⟩ := bnd H
  refine cl (spec_ParseForm_ok a0 _ hx7) ?_
  refine go ?_
  refine fx_alloc hF rfl fun b3 σ4 hF => ?_
  refine go ?_
  refine st hF 0 rfl fun σ5 hF => ?_
  refine go ?_
  refine st hF 1 rfl fun σ6 hF => ?_
  refine go ?_
  have e := pur H; subst e
  exact rt [.agg [.int .i64 x7.1.kind, .str x7.1.name, .int .i64 x7.1.num, .sl false (rws cI x7.1.sc), .sl false (rws Fm.cells x7.1.kids)]]
theorem spec_l7Texts_ok : ∀  r, spec_l7Texts  = some r → PCtr Tryd.prog 110 [] (.sl false (rws cS r)) := by
  intro  r H
  intro σ
  unfold spec_l7Texts at H
  refine ctr_of mixed Tryd.func110 rfl (by kernel_rfl) (rs := [.tmp 0]) rfl (by kernel_rfl) ?_
  have hF := Fx.refl σ
  have hX := Tau.none σ
  have q := dum
  have tT := dum
  refine goL ?_
  have e := pur H; subst e
  exact rt [.sl true (rws cS [(ByteArray.mk #[40, 108, 101, 116, 32, 40, 40, 120, 32, 49, 41, 32, 40, 121, 32, 50, 41, 41, 32, 40, 108, 101, 116, 45, 115, 121, 110, 116, 97, 120, 32, 40, 40, 115, 119, 97, 112, 32, 40, 114, 117, 108, 101, 115, 32, 40, 41, 32, 40, 40, 95, 32, 97, 32, 98, 41, 32, 40, 108, 101, 116, 32, 40, 40, 116, 109, 112, 32, 97, 41, 41, 32, 40, 108, 105, 115, 116, 32, 98, 32, 116, 109, 112, 41, 41, 41, 41, 41, 41, 32, 40, 115, 119, 97, 112, 32, 120, 32, 121, 41, 41, 41]), (ByteArray.mk #[40, 108, 101, 116, 32, 40, 40, 116, 109, 112, 32, 53, 41, 32, 40, 122, 32, 54, 41, 41, 32, 40, 108, 101, 116, 45, 115, 121, 110, 116, 97, 120, 32, 40, 40, 115, 119, 97, 112, 32, 40, 114, 117, 108, 101, 115, 32, 40, 41, 32, 40, 40, 95, 32, 97, 32, 98, 41, 32, 40, 108, 101, 116, 32, 40, 40, 116, 109, 112, 32, 97, 41, 41, 32, 40, 108, 105, 115, 116, 32, 98, 32, 116, 109, 112, 41, 41, 41, 41, 41, 41, 32, 40, 115, 119, 97, 112, 32, 116, 109, 112, 32, 122, 41, 41, 41]), (ByteArray.mk #[40, 108, 101, 116, 45, 115, 121, 110, 116, 97, 120, 32, 40, 40, 111, 114, 32, 40, 114, 117, 108, 101, 115, 32, 40, 41, 32, 40, 40, 95, 41, 32, 48, 41, 32, 40, 40, 95, 32, 97, 41, 32, 97, 41, 32, 40, 40, 95, 32, 97, 32, 98, 32, 46, 46, 46, 41, 32, 40, 108, 101, 116, 32, 40, 40, 116, 32, 97, 41, 41, 32, 40, 105, 102, 32, 116, 32, 116, 32, 40, 111, 114, 32, 98, 32, 46, 46, 46, 41, 41, 41, 41, 41, 41, 41, 32, 40, 108, 101, 116, 32, 40, 40, 116, 32, 53, 41, 41, 32, 40, 111, 114, 32, 48, 32, 116, 32, 55, 41, 41, 41]), (ByteArray.mk #[40, 108, 101, 116, 45, 115, 121, 110, 116, 97, 120, 32, 40, 40, 119, 105, 116, 104, 32, 40, 114, 117, 108, 101, 115, 32, 40, 41, 32, 40, 40, 95, 32, 40, 40, 120, 32, 118, 41, 32, 46, 46, 46, 41, 32, 98, 111, 100, 121, 41, 32, 40, 40, 108, 97, 109, 98, 100, 97, 32, 40, 120, 32, 46, 46, 46, 41, 32, 98, 111, 100, 121, 41, 32, 118, 32, 46, 46, 46, 41, 41, 41, 41, 41, 32, 40, 119, 105, 116, 104, 32, 40, 40, 112, 32, 49, 41, 32, 40, 113, 32, 50, 41, 41, 32, 40, 43, 32, 112, 32, 113, 41, 41, 41]), (ByteArray.mk #[40, 108, 101, 116, 32, 40, 40, 105, 102, 32, 108, 105, 115, 116, 41, 41, 32, 40, 108, 101, 116, 45, 115, 121, 110, 116, 97, 120, 32, 40, 40, 109, 32, 40, 114, 117, 108, 101, 115, 32, 40, 41, 32, 40, 40, 95, 32, 97, 41, 32, 40, 105, 102, 32, 97, 32, 49, 32, 50, 41, 41, 41, 41, 41, 32, 40, 109, 32, 53, 41, 41, 41]), (ByteArray.mk #[40, 108, 101, 116, 45, 115, 121, 110, 116, 97, 120, 32, 40, 40, 109, 32, 40, 114, 117, 108, 101, 115, 32, 40, 41, 32, 40, 40, 95, 32, 97, 41, 32, 40, 105, 102, 32, 97, 32, 49, 32, 50, 41, 41, 41, 41, 41, 32, 40, 108, 101, 116, 32, 40, 40, 105, 102, 32, 108, 105, 115, 116, 41, 41, 32, 40, 109, 32, 105, 102, 41, 41, 41]), (ByteArray.mk #[40, 108, 101, 116, 45, 115, 121, 110, 116, 97, 120, 32, 40, 40, 107, 32, 40, 114, 117, 108, 101, 115, 32, 40, 101, 108, 115, 101, 41, 32, 40, 40, 95, 32, 101, 108, 115, 101, 32, 97, 41, 32, 97, 41, 32, 40, 40, 95, 32, 98, 32, 97, 41, 32, 40, 108, 105, 115, 116, 32, 98, 32, 97, 41, 41, 41, 41, 41, 32, 40, 108, 101, 116, 32, 40, 40, 101, 108, 115, 101, 32, 51, 41, 41, 32, 40, 107, 32, 101, 108, 115, 101, 32, 52, 41, 41, 41]), (ByteArray.mk #[40, 108, 101, 116, 45, 115, 121, 110, 116, 97, 120, 32, 40, 40, 107, 32, 40, 114, 117, 108, 101, 115, 32, 40, 101, 108, 115, 101, 41, 32, 40, 40, 95, 32, 101, 108, 115, 101, 32, 97, 41, 32, 97, 41, 32, 40, 40, 95, 32, 98, 32, 97, 41, 32, 40, 108, 105, 115, 116, 32, 98, 32, 97, 41, 41, 41, 41, 41, 32, 40, 107, 32, 101, 108, 115, 101, 32, 52, 41, 41]), (ByteArray.mk #[40, 108, 101, 116, 45, 115, 121, 110, 116, 97, 120, 32, 40, 40, 108, 111, 111, 112, 32, 40, 114, 117, 108, 101, 115, 32, 40, 41, 32, 40, 40, 95, 41, 32, 40, 108, 111, 111, 112, 41, 41, 41, 41, 41, 32, 40, 108, 111, 111, 112, 41, 41]), (ByteArray.mk #[40, 108, 101, 116, 45, 115, 121, 110, 116, 97, 120, 32, 40, 40, 109, 32, 40, 114, 117, 108, 101, 115, 32, 40, 41, 32, 40, 40, 95, 32, 97, 41, 32, 49, 41, 41, 41, 41, 32, 40, 109, 41, 41]), (ByteArray.mk #[40, 108, 97, 109, 98, 100, 97, 32, 40, 120, 41, 32, 40, 108, 97, 109, 98, 100, 97, 32, 40, 120, 32, 121, 41, 32, 40, 120, 32, 121, 32, 40, 113, 117, 111, 116, 101, 32, 40, 120, 32, 49, 41, 41, 41, 41, 41]), (ByteArray.mk #[40, 108, 101, 116, 45, 115, 121, 110, 116, 97, 120, 32, 40, 40, 100, 101, 102, 32, 40, 114, 117, 108, 101, 115, 32, 40, 41, 32, 40, 40, 95, 32, 110, 32, 101, 32, 98, 41, 32, 40, 108, 101, 116, 32, 40, 40, 110, 32, 101, 41, 41, 32, 98, 41, 41, 41, 41, 41, 32, 40, 100, 101, 102, 32, 122, 32, 51, 32, 40, 43, 32, 122, 32, 122, 41, 41, 41]), (ByteArray.mk #[40, 108, 101, 116, 45, 115, 121, 110, 116, 97, 120, 32, 40, 40, 97, 32, 40, 114, 117, 108, 101, 115, 32, 40, 41, 32, 40, 40, 95, 32, 120, 41, 32, 40, 98, 32, 120, 41, 41, 41, 41, 32, 40, 98, 32, 40, 114, 117, 108, 101, 115, 32, 40, 41, 32, 40, 40, 95, 32, 121, 41, 32, 40, 108, 105, 115, 116, 32, 121, 32, 121, 41, 41, 41, 41, 41, 32, 40, 97, 32, 55, 41, 41]), (ByteArray.mk #[40, 108, 101, 116, 45, 115, 121, 110, 116, 97, 120, 32, 40, 40, 109, 121, 32, 40, 114, 117, 108, 101, 115, 32, 40, 41, 32, 40, 40, 95, 32, 102, 41, 32, 40, 108, 97, 109, 98, 100, 97, 32, 40, 120, 41, 32, 40, 102, 32, 120, 41, 41, 41, 41, 41, 41, 32, 40, 108, 101, 116, 32, 40, 40, 120, 32, 51, 41, 41, 32, 40, 40, 109, 121, 32, 40, 108, 97, 109, 98, 100, 97, 32, 40, 121, 41, 32, 40, 43, 32, 120, 32, 121, 41, 41, 41, 32, 52, 41, 41, 41]), (ByteArray.mk #[40, 108, 101, 116, 45, 115, 121, 110, 116, 97, 120, 32, 40, 40, 116, 119, 111, 32, 40, 114, 117, 108, 101, 115, 32, 40, 41, 32, 40, 40, 95, 32, 110, 41, 32, 40, 108, 97, 109, 98, 100, 97, 32, 40, 110, 32, 120, 41, 32, 40, 43, 32, 110, 32, 120, 41, 41, 41, 41, 41, 41, 32, 40, 116, 119, 111, 32, 120, 41, 41])])]
theorem spec_l15Rd_num_ok : ∀ (a1 : List Int) (c0 : Rdr) r, spec_l15Rd_num a1 c0 = some r → ∀ (e0 : Nat)  (σ : Sto), Pre σ [(e0, ⟨123, 2, [.sl false (rws cU c0.b), .int .i64 c0.p]⟩)] [] → Ctr Tryd.prog 87 [.ptr e0 0, .sl false (rws cI a1)] σ (fun r' σ' => ∃ (τ' : Sto), r' = .int .i64 r.1 ∧ Tau (strip σ []) [(e0, ⟨123, 2, [.sl false (rws cU r.2.b), .int .i64 r.2.p]⟩)] τ' ∧ Fx τ' σ' [] []) := by
  intro a1 c0 r H
  intro e0  σ hP
  unfold spec_l15Rd_num at H
  refine ctr_of mixed Tryd.func87 rfl (by kernel_rfl) (rs := [.tmp 4]) rfl (by kernel_rfl) ?_
  obtain ⟨hF, hX⟩ := hP.start
  generalize strip σ [] = τ0 at hF hX ⊢
  have q := dum
  have tT := dum
  refine go ?_
  obtain ⟨x9, hx9, H⟩ := bnd H
  refine cx (spec_l15Rd_pick_ok (a1.length : Int) c0 _ hx9 e0  _ (pre 0 1 0 hF hX)) ?_
  rintro _ σ1 ⟨τ2, rfl, hT, hG⟩
  obtain ⟨τ3, hX, hF⟩ := aft 0 1 0 hF hX hT hG
  obtain ⟨x10, f1, H⟩ := bil (g := cI) (fun _ => rfl) H
  refine go1 ?_
  refine go ?_
  have e := pur H; subst e
  exact rg [.int .i64 x10] ⟨_, rfl, hX, Fx.self _⟩
theorem spec_l1Name_ok : ∀ (a0 : ByteArray) r, spec_l1Name a0 = some r → PCtr Tryd.prog 64 [.str a0] (.agg (Fm.cells r)) := by
  intro a0 r H
  intro σ
  unfold spec_l1Name at H
  refine ctr_of mixed Tryd.func64 rfl (by kernel_rfl) (rs := [.cell 2 30]) rfl (by kernel_rfl) ?_
  have hF := Fx.refl σ
  have hX := Tau.none σ
  have q := dum
  have tT := dum
  refine go ?_
  refine fx_alloc hF rfl fun b1 σ2 hF => ?_
  refine go ?_
  refine st hF 0 rfl fun σ3 hF => ?_
  refine go ?_
  have e := pur H; subst e
  exact rt [.agg [.int .i64 1, .str a0, .int .i64 0, .nilsl, .nilsl]]
theorem spec_l15Rd_of_ok : ∀ (a1 : List ByteArray) (c0 : Rdr) r, spec_l15Rd_of a1 c0 = some r → ∀ (e0 : Nat)  (σ : Sto), Pre σ [(e0, ⟨123, 2, [.sl false (rws cU c0.b), .int .i64 c0.p]⟩)] [] → Ctr Tryd.prog 65 [.ptr e0 0, .sl false (rws cS a1)] σ (fun r' σ' => ∃ (τ' : Sto), r' = .str r.1 ∧ Tau (strip σ []) [(e0, ⟨123, 2, [.sl false (rws cU r.2.b), .int .i64 r.2.p]⟩)] τ' ∧ Fx τ' σ' [] []) := by
  intro a1 c0 r H
  intro e0  σ hP
  unfold spec_l15Rd_of at H
  refine ctr_of mixed Tryd.func65 rfl (by kernel_rfl) (rs := [.tmp 4]) rfl (by kernel_rfl) ?_
  obtain ⟨hF, hX⟩ := hP.start
  generalize strip σ [] = τ0 at hF hX ⊢
  have q := dum
  have tT := dum
  refine go ?_
  obtain ⟨x9, hx9, H⟩ := bnd H
  refine cx (spec_l15Rd_pick_ok (a1.length : Int) c0 _ hx9 e0  _ (pre 0 1 0 hF hX)) ?_
  rintro _ σ1 ⟨τ2, rfl, hT, hG⟩
  obtain ⟨τ3, hX, hF⟩ := aft 0 1 0 hF hX hT hG
  obtain ⟨x10, f1, H⟩ := bil (g := cS) (fun _ => rfl) H
  refine go1 ?_
  refine go ?_
  have e := pur H; subst e
  exact rg [.str x10] ⟨_, rfl, hX, Fx.self _⟩
theorem spec_l1List_ok : ∀ (a0 : List Fm) r, spec_l1List a0 = some r → PCtr Tryd.prog 63 [.sl false (rws Fm.cells a0)] (.agg (Fm.cells r)) := by
  intro a0 r H
  intro σ
  unfold spec_l1List at H
  refine ctr_of mixed Tryd.func63 rfl (by kernel_rfl) (rs := [.cell 2 30]) rfl (by kernel_rfl) ?_
  have hF := Fx.refl σ
  have hX := Tau.none σ
  have q := dum
  have tT := dum
  refine go ?_
  refine fx_alloc hF rfl fun b1 σ2 hF => ?_
  refine go ?_
  refine st hF 0 rfl fun σ3 hF => ?_
  refine go ?_
  have e := pur H; subst e
  exact rt [.agg [.int .i64 3, .str (ByteArray.mk #[]), .int .i64 0, .nilsl, .sl false (rws Fm.cells a0)]]
theorem spec_l1Some_ok : ∀ (a1 : Int) (c0 : Rdr) r, spec_l1Some a1 c0 = some r → ∀ (e0 : Nat)  (σ : Sto), Pre σ [(e0, ⟨123, 2, [.sl false (rws cU c0.b), .int .i64 c0.p]⟩)] [] → Ctr Tryd.prog 122 [.ptr e0 0, .int .i64 a1] σ (fun r' σ' => ∃ (τ' : Sto), r' = .agg (Fm.cells r.1) ∧ Tau (strip σ []) [(e0, ⟨123, 2, [.sl false (rws cU r.2.b), .int .i64 r.2.p]⟩)] τ' ∧ Fx τ' σ' [] []) := by
  refine spec_l1Some.partial_correctness  (motive_1 := fun a1 c0 r => ∀ (e0 : Nat)  (σ : Sto), Pre σ [(e0, ⟨123, 2, [.sl false (rws cU c0.b), .int .i64 c0.p]⟩)] [] → Ctr Tryd.prog 122 [.ptr e0 0, .int .i64 a1] σ (fun r' σ' => ∃ (τ' : Sto), r' = .agg (Fm.cells r.1) ∧ Tau (strip σ []) [(e0, ⟨123, 2, [.sl false (rws cU r.2.b), .int .i64 r.2.p]⟩)] τ' ∧ Fx τ' σ' [] [])) (motive_2 := fun a1 z0o_0 z0t_6 z0x_0_0 z0x_0_1 out => ∀ c, loopAt Tryd.f122 0 = some c → ∀ (Q : AX → AS → Prop) (τ0 : Sto) (e0 : Nat) (b1 : Nat) (b22 : Nat), (∀ (e0o_0 : List Fm) (e0x_0_0 : List Int) (e0x_0_1 : Int), out = (e0o_0, e0x_0_0, e0x_0_1) → ∀ (T : Nat → AV) (σ : Sto) (τ : Sto) (e0v0 : AV), T 4 = .ptr b1 0 ∧ T 5 = .ptr b22 0 → Tau τ0 [(e0, ⟨123, 2, [.sl false (rws cU e0x_0_0), .int .i64 e0x_0_1]⟩)] τ → Fx τ σ [(b22, ⟨30, 5, [.int .i64 3, .str (ByteArray.mk #[]), .int .i64 0, .nilsl, e0v0]⟩), (b1, ⟨30, 5, [.int .i64 0, .str (ByteArray.mk #[]), .int .i64 0, .nilsl, .nilsl]⟩)] [⟨e0v0, 30, 5, rws Fm.cells e0o_0⟩] → Q (.ex 0) ⟨T, σ⟩) → True → ∀ (T : Nat → AV) (σ : Sto) (τ : Sto) (z0v0 : AV), T 0 = .ptr e0 0 ∧ T 1 = .int .i64 a1 ∧ T 4 = .ptr b1 0 ∧ T 5 = .ptr b22 0 ∧ T 6 = .int .i64 z0t_6 → Tau τ0 [(e0, ⟨123, 2, [.sl false (rws cU z0x_0_0), .int .i64 z0x_0_1]⟩)] τ → Fx τ σ [(b22, ⟨30, 5, [.int .i64 3, .str (ByteArray.mk #[]), .int .i64 0, .nilsl, z0v0]⟩), (b1, ⟨30, 5, [.int .i64 0, .str (ByteArray.mk #[]), .int .i64 0, .nilsl, .nilsl]⟩)] [⟨z0v0, 30, 5, rws Fm.cells z0o_0⟩] → aLoop (acode Tryd.prog c) Q ⟨T, σ⟩) ?_ ?_
  · intro spec_l1Some_l0 L0 a1 c0 r H
    intro e0  σ hP
    refine ctr_of mixed Tryd.func122 rfl (by kernel_rfl) (rs := [.cell 4 30]) rfl (by kernel_rfl) ?_
    obtain ⟨hF, hX⟩ := hP.start
    generalize strip σ [] = τ0 at hF hX ⊢
    have q := dum
    have tT := dum
    refine go ?_
    refine fx_alloc hF rfl fun b1 σ2 hF => ?_
    refine go ?_
    refine giN q (fun q => ?_) (fun q => ?_)
    · rw [if_neg (df q)] at H
      refine go ?_
      obtain ⟨x11_1, hx11_1, H⟩ := bnd H
      refine cx (spec_l15Rd_pick_ok 3 c0 _ hx11_1 e0  _ (pre 0 1 0 hF hX)) ?_
      rintro _ σ8 ⟨τ9, rfl, hT, hG⟩
      obtain ⟨τ10, hX, hF⟩ := aft 0 1 0 hF hX hT hG
      refine go ?_
      refine cdp H (fun h H => ?_) (fun h H => ?_)
      · refine go ?_
        obtain ⟨x15, hx15, H⟩ := bnd H
        refine cx (spec_l15Rd_pick_ok 4 x11_1.2 _ hx15 e0  _ (pre 0 1 0 hF hX)) ?_
        rintro _ σ11 ⟨τ12, rfl, hT, hG⟩
        obtain ⟨τ13, hX, hF⟩ := aft 0 1 0 hF hX hT hG
        refine go ?_
        refine cdp H (fun h H => ?_) (fun h H => ?_)
        · refine go ?_
          obtain ⟨x19, hx19, H⟩ := bnd H
          refine cx (spec_l15Rd_num_ok [0, 1, 2, 7, 42, 999] x15.2 _ hx19 e0  _ (pre 0 1 0 hF hX)) ?_
          rintro _ σ14 ⟨τ15, rfl, hT, hG⟩
          obtain ⟨τ16, hX, hF⟩ := aft 0 1 0 hF hX hT hG
          refine go ?_
          refine st hF 0 rfl fun σ17 hF => ?_
          refine go ?_
          have e := pur H; subst e
          exact rg [.agg [.int .i64 2, .str (ByteArray.mk #[]), .int .i64 x19.1, .nilsl, .nilsl]] ⟨_, rfl, hX, Fx.self _⟩
        · refine go ?_
          obtain ⟨x23, hx23, H⟩ := bnd H
          refine cx (spec_l15Rd_of_ok [(ByteArray.mk #[97]), (ByteArray.mk #[98]), (ByteArray.mk #[120]), (ByteArray.mk #[121]), (ByteArray.mk #[102]), (ByteArray.mk #[105, 102]), (ByteArray.mk #[108, 101, 116]), (ByteArray.mk #[43])] x15.2 _ hx23 e0  _ (pre 0 1 0 hF hX)) ?_
          rintro _ σ18 ⟨τ19, rfl, hT, hG⟩
          obtain ⟨τ20, hX, hF⟩ := aft 0 1 0 hF hX hT hG
          refine go ?_
          obtain ⟨x24, hx24, H⟩ := bnd H
          refine cl (spec_l1Name_ok x23.1 _ hx24) ?_
          refine go ?_
          refine st hF 0 rfl fun σ21 hF => ?_
          refine go ?_
          have e := pur H; subst e
          exact rg [.agg [.int .i64 x24.kind, .str x24.name, .int .i64 x24.num, .sl false (rws cI x24.sc), .sl false (rws Fm.cells x24.kids)]] ⟨_, rfl, hX, Fx.self _⟩
      · refine go ?_
        refine fx_alloc hF rfl fun b22 σ23 hF => ?_
        refine go ?_
        refine st hF 0 rfl fun σ24 hF => ?_
        refine go ?_
        obtain ⟨x27, hx27, H⟩ := bnd H
        refine cx (spec_l15Rd_pick_ok 4 x11_1.2 _ hx27 e0  _ (pre 0 1 0 hF hX)) ?_
        rintro _ σ25 ⟨τ26, rfl, hT, hG⟩
        obtain ⟨τ27, hX, hF⟩ := aft 0 1 0 hF hX hT hG
        have hF := hF.nil 30 5
        refine go ?_
        obtain ⟨o36, ho36, H⟩ := bnd H
        refine L0 a1 [] x27.1 x27.2.b x27.2.p _ ho36 _ rfl _ τ0 e0 b1 b22 ?_ ?_ _ _ _ .nilsl S hX hF
        · intro e37o_0 e37x_0_0 e37x_0_1 he T38 σ39 τ40 e37v0 tT hX hF
          have he := he.symm
          subst he
          dsimp only at H
          refine go ?_
          refine st hF 1 rfl fun σ41 hF => ?_
          refine go ?_
          have e := pur H; subst e
          exact rg [.agg [.int .i64 3, .str (ByteArray.mk #[]), .int .i64 0, .nilsl, e37v0]] ⟨_, rfl, hX, Fx.self _⟩
        · trivial
    · rw [if_pos (dt q)] at H
      refine go ?_
      obtain ⟨x15_1, hx15_1, H⟩ := bnd H
      refine cx (spec_l15Rd_pick_ok 4 c0 _ hx15_1 e0  _ (pre 0 1 0 hF hX)) ?_
      rintro _ σ42 ⟨τ43, rfl, hT, hG⟩
      obtain ⟨τ44, hX, hF⟩ := aft 0 1 0 hF hX hT hG
      refine go ?_
      refine cdp H (fun h H => ?_) (fun h H => ?_)
      · refine go ?_
        obtain ⟨x19_1, hx19_1, H⟩ := bnd H
        refine cx (spec_l15Rd_num_ok [0, 1, 2, 7, 42, 999] x15_1.2 _ hx19_1 e0  _ (pre 0 1 0 hF hX)) ?_
        rintro _ σ45 ⟨τ46, rfl, hT, hG⟩
        obtain ⟨τ47, hX, hF⟩ := aft 0 1 0 hF hX hT hG
        refine go ?_
        refine st hF 0 rfl fun σ48 hF => ?_
        refine go ?_
        have e := pur H; subst e
        exact rg [.agg [.int .i64 2, .str (ByteArray.mk #[]), .int .i64 x19_1.1, .nilsl, .nilsl]] ⟨_, rfl, hX, Fx.self _⟩
      · refine go ?_
        obtain ⟨x23_1, hx23_1, H⟩ := bnd H
        refine cx (spec_l15Rd_of_ok [(ByteArray.mk #[97]), (ByteArray.mk #[98]), (ByteArray.mk #[120]), (ByteArray.mk #[121]), (ByteArray.mk #[102]), (ByteArray.mk #[105, 102]), (ByteArray.mk #[108, 101, 116]), (ByteArray.mk #[43])] x15_1.2 _ hx23_1 e0  _ (pre 0 1 0 hF hX)) ?_
        rintro _ σ49 ⟨τ50, rfl, hT, hG⟩
        obtain ⟨τ51, hX, hF⟩ := aft 0 1 0 hF hX hT hG
        refine go ?_
        obtain ⟨x24_1, hx24_1, H⟩ := bnd H
        refine cl (spec_l1Name_ok x23_1.1 _ hx24_1) ?_
        refine go ?_
        refine st hF 0 rfl fun σ52 hF => ?_
        refine go ?_
        have e := pur H; subst e
        exact rg [.agg [.int .i64 x24_1.kind, .str x24_1.name, .int .i64 x24_1.num, .sl false (rws cI x24_1.sc), .sl false (rws Fm.cells x24_1.kids)]] ⟨_, rfl, hX, Fx.self _⟩
  · intro spec_l1Some spec_l1Some_l0 C0 L0 a1 z0o_0 z0t_6 z0x_0_0 z0x_0_1 out H c hc Q τ0 e0 b1 b22 hE hR T σ τ z0v0 tT hX hF
    obtain rfl := Option.some.inj ((rfl : loopAt Tryd.f122 0 = some _).symm.trans hc)
    refine aLoop_round ?_
    have q := dum
    refine go ?_
    refine cdp H (fun h H => ?_) (fun h H => ?_)
    · refine go ?_
      obtain ⟨E, hEq⟩ : ∃ E, E = EE σ [e0] := ⟨_, rfl⟩
      have n28 : ¬ E b22 := by rw [hEq]; exact EE.not (hF.at 0 rfl) (by simp only [List.mem_cons, List.not_mem_nil, or_false, not_or]; exact neX hF 0 rfl hX 0 rfl)
      have n29 : ¬ E b1 := by rw [hEq]; exact EE.not (hF.at 1 rfl) (by simp only [List.mem_cons, List.not_mem_nil, or_false, not_or]; exact neX hF 1 rfl hX 0 rfl)
      refine draw_text E [.v, .v, .v, .v, .v, .x, .v, .x, .v, .z] (by kernel_rfl) ?_
      have z := And.intro (hide_at (hF.at 0 rfl) n28) (hide_at (hF.at 1 rfl) n29); refine gh ?_
      obtain ⟨x37, hx37, H⟩ := bnd H
      refine cx (C0 (IntKind.i64.wrap (a1 - 1)) (Rdr.mk z0x_0_0 z0x_0_1) _ hx37 e0  _ (pre 0 1 0 hF hX)) ?_
      rintro _ σ30 ⟨τ31, rfl, hT, hG⟩
      refine kp_intro (Fx.kept hT hG (by intro p hp; simp only [List.mem_cons, List.not_mem_nil, or_false] at hp <;> first | (rcases hp with rfl <;> (rw [hEq]; first | (refine EE.of ?_; simp; done) | exact EE.new rfl))| cases hp)) ?_
      obtain ⟨τ32, hX, hF⟩ := aft 0 1 0 hF hX hT hG
      have z := And.intro (hide_at (hF.at 0 rfl) n28) (hide_at (hF.at 1 rfl) n29); refine gh ?_
      refine apdK (g := Fm.cells) hF 0 H (rdo (c := true) (g := Fm.cells) Fm.cells_len) fun x39 H v33 σ34 hF => ?_
      have z := And.intro (hide_at (hF.at 0 rfl) n28) (hide_at (hF.at 1 rfl) n29); refine gh ?_
      refine st hF 0 (hF.cells 0 rfl) fun σ35 hF => ?_
      have z := And.intro (hide_at (hF.at 0 rfl) n28) (hide_at (hF.at 1 rfl) n29); refine gh ?_
      refine go ?_
      exact L0 a1 x39 (IntKind.i64.wrap (z0t_6 - 1)) x37.2.b x37.2.p _ H _ rfl Q τ0 e0 b1 b22 hE hR _ _ _ v33 S hX hF
    · refine go ?_
      exact hE _ _ _ (pur H).symm _ _ _ z0v0 S hX hF
theorem spec_l7Some_ok : ∀ (a1 : List ByteArray) (a2 : Int) (c0 : Rdr) r, spec_l7Some a1 a2 c0 = some r → ∀ (e0 : Nat)  (σ : Sto), Pre σ [(e0, ⟨123, 2, [.sl false (rws cU c0.b), .int .i64 c0.p]⟩)] [] → Ctr Tryd.prog 111 [.ptr e0 0, .sl false (rws cS a1), .int .i64 a2] σ (fun r' σ' => ∃ (τ' : Sto), r' = .agg (Fm.cells r.1) ∧ Tau (strip σ []) [(e0, ⟨123, 2, [.sl false (rws cU r.2.b), .int .i64 r.2.p]⟩)] τ' ∧ Fx τ' σ' [] []) := by
  refine spec_l7Some.partial_correctness  (motive := fun a1 a2 c0 r => ∀ (e0 : Nat)  (σ : Sto), Pre σ [(e0, ⟨123, 2, [.sl false (rws cU c0.b), .int .i64 c0.p]⟩)] [] → Ctr Tryd.prog 111 [.ptr e0 0, .sl false (rws cS a1), .int .i64 a2] σ (fun r' σ' => ∃ (τ' : Sto), r' = .agg (Fm.cells r.1) ∧ Tau (strip σ []) [(e0, ⟨123, 2, [.sl false (rws cU r.2.b), .int .i64 r.2.p]⟩)] τ' ∧ Fx τ' σ' [] [])) ?_
  · intro spec_l7Some C0 a1 a2 c0 r H
    intro e0  σ hP
    refine ctr_of mixed Tryd.func111 rfl (by kernel_rfl) (rs := [.cell 6 30]) rfl (by kernel_rfl) ?_
    obtain ⟨hF, hX⟩ := hP.start
    generalize strip σ [] = τ0 at hF hX ⊢
    have q := dum
    have tT := dum
    refine go ?_
    refine fx_alloc hF rfl fun b1 σ2 hF => ?_
    refine go ?_
    refine giN q (fun q => ?_) (fun q => ?_)
    · rw [if_neg (df q)] at H
      refine go ?_
      obtain ⟨x14_1, hx14_1, H⟩ := bnd H
      refine cx (spec_l15Rd_pick_ok 5 c0 _ hx14_1 e0  _ (pre 0 1 0 hF hX)) ?_
      rintro _ σ8 ⟨τ9, rfl, hT, hG⟩
      obtain ⟨τ10, hX, hF⟩ := aft 0 1 0 hF hX hT hG
      refine go ?_
      refine cdp H (fun h H => ?_) (fun h H => ?_)
      · refine go ?_
        obtain ⟨x18, hx18, H⟩ := bnd H
        refine cx (spec_l15Rd_pick_ok 3 x14_1.2 _ hx18 e0  _ (pre 0 1 0 hF hX)) ?_
        rintro _ σ11 ⟨τ12, rfl, hT, hG⟩
        obtain ⟨τ13, hX, hF⟩ := aft 0 1 0 hF hX hT hG
        refine go ?_
        refine cdp H (fun h H => ?_) (fun h H => ?_)
        · refine go ?_
          obtain ⟨x22, hx22, H⟩ := bnd H
          refine cx (spec_l15Rd_num_ok [0, 1, 2, 7] x18.2 _ hx22 e0  _ (pre 0 1 0 hF hX)) ?_
          rintro _ σ14 ⟨τ15, rfl, hT, hG⟩
          obtain ⟨τ16, hX, hF⟩ := aft 0 1 0 hF hX hT hG
          refine go ?_
          refine st hF 0 rfl fun σ17 hF => ?_
          refine go ?_
          have e := pur H; subst e
          exact rg [.agg [.int .i64 2, .str (ByteArray.mk #[]), .int .i64 x22.1, .nilsl, .nilsl]] ⟨_, rfl, hX, Fx.self _⟩
        · refine go ?_
          obtain ⟨x28, hx28, H⟩ := bnd H
          refine cx (spec_l15Rd_pick_ok (a1.length : Int) x18.2 _ hx28 e0  _ (pre 0 1 0 hF hX)) ?_
          rintro _ σ18 ⟨τ19, rfl, hT, hG⟩
          obtain ⟨τ20, hX, hF⟩ := aft 0 1 0 hF hX hT hG
          obtain ⟨x29, f1, H⟩ := bil (g := cS) (fun _ => rfl) H
          refine go1 ?_
          obtain ⟨x31, hx31, H⟩ := bnd H
          refine cl (spec_l1Name_ok x29 _ hx31) ?_
          refine go ?_
          refine st hF 0 rfl fun σ21 hF => ?_
          refine go ?_
          have e := pur H; subst e
          exact rg [.agg [.int .i64 x31.kind, .str x31.name, .int .i64 x31.num, .sl false (rws cI x31.sc), .sl false (rws Fm.cells x31.kids)]] ⟨_, rfl, hX, Fx.self _⟩
      · refine go ?_
        obtain ⟨x34, hx34, H⟩ := bnd H
        refine cx (spec_l15Rd_of_ok [(ByteArray.mk #[120]), (ByteArray.mk #[121]), (ByteArray.mk #[116])] x14_1.2 _ hx34 e0  _ (pre 0 1 0 hF hX)) ?_
        rintro _ σ22 ⟨τ23, rfl, hT, hG⟩
        obtain ⟨τ24, hX, hF⟩ := aft 0 1 0 hF hX hT hG
        refine go ?_
        have hF := hF.lit 9 1 (rws cS []) rfl
        refine apd (g := cS) hF 0 H (rdo (c := false) (g := cS) (fun _ => rfl)) fun x37 H v25 σ26 hF => ?_
        refine go ?_
        refine apd (g := cS) hF 0 H (rdo (c := true) (g := cS) (fun _ => rfl)) fun x40 H v27 σ28 hF => ?_
        refine go ?_
        obtain ⟨x42, hx42, H⟩ := bnd H
        refine cx (spec_l15Rd_pick_ok 8 x34.2 _ hx42 e0  _ (pre 0 1 0 hF hX)) ?_
        rintro _ σ29 ⟨τ30, rfl, hT, hG⟩
        obtain ⟨τ31, hX, hF⟩ := aft 0 1 0 hF hX hT hG
        refine go ?_
        obtain ⟨y32t_43, j33, H⟩ := bnd H
        refine aCnd_join (fun s' => ∃ (T : Nat → AV) (σ1 : Sto) (τ1 : Sto), s' = ⟨T, σ1⟩ ∧ (T 0 = .ptr e0 0 ∧ T 1 = .sl false (rws cS a1) ∧ T 2 = .int .i64 a2 ∧ T 6 = .ptr b1 0 ∧ T 7 = .str x34.1 ∧ T 8 = v27 ∧ T 42 = .int .i64 x42.1 ∧ T 43 = .bool y32t_43) ∧ Tau τ0 [(e0, ⟨123, 2, [.sl false (rws cU x42.2.b), .int .i64 x42.2.p]⟩)] τ1 ∧ Fx τ1 σ1 [(b1, ⟨30, 5, [.int .i64 0, .str (ByteArray.mk #[]), .int .i64 0, .nilsl, .nilsl]⟩)] [⟨v27, 9, 1, rws cS x40⟩]) (cdp j33 (fun h j33 => ?_) (fun h j33 => ?_)) ?_
        · refine go ?_
          have e := pur j33
          subst e
          exact ⟨_, _, _, rfl, S, hX, hF⟩
        · refine go ?_
          have e := pur j33
          subst e
          exact ⟨_, _, _, rfl, S, hX, hF⟩
        · rintro s' ⟨T34, σ35, τ36, rfl, tT, hX, hF⟩
          refine go ?_
          refine cdb H (fun h H => ?_) (fun h H => ?_)
          · refine go ?_
            obtain ⟨x46, hx46, H⟩ := bnd H
            refine cl (spec_l1Name_ok (ByteArray.mk #[108, 97, 109, 98, 100, 97]) _ hx46) ?_
            refine go ?_
            obtain ⟨x48, hx48, H⟩ := bnd H
            refine cl (spec_l1Name_ok x34.1 _ hx48) ?_
            refine go ?_
            obtain ⟨x50, hx50, H⟩ := bnd H
            refine cl (spec_l1List_ok [x48] _ hx50) ?_
            refine go ?_
            obtain ⟨x55, hx55, H⟩ := bnd H
            obtain ⟨σ37, hF, hw38, hb39, hz40⟩ := frz hF 0
            refine aCall_wk (C0 x40 (IntKind.i64.wrap (a2 - 1)) x42.2 _ hx55 e0  _ (pre 0 1 0 hF hX)) (.cons (Wk.sub hb39 _) id (.cons hw38 (fun _ => rfl) (.cons (Wk.sub hb39 _) id .nil))) hb39 ?_
            rintro _ σ41 ⟨τ42, rfl, hT, hG⟩
            obtain ⟨τ43, hX, hF⟩ := aft 0 1 0 hF hX hT hG
            refine go ?_
            obtain ⟨x57, hx57, H⟩ := bnd H
            refine cl (spec_l1List_ok [x46, x50, x55.1] _ hx57) ?_
            refine go ?_
            refine st hF 0 rfl fun σ44 hF => ?_
            refine go ?_
            have e := pur H; subst e
            exact rg [.agg [.int .i64 x57.kind, .str x57.name, .int .i64 x57.num, .sl false (rws cI x57.sc), .sl false (rws Fm.cells x57.kids)]] ⟨_, rfl, hX, Fx.self _⟩
          · refine go ?_
            obtain ⟨y45t_58, j46, H⟩ := bnd H
            refine aCnd_join (fun s' => ∃ (T : Nat → AV) (σ1 : Sto) (τ1 : Sto), s' = ⟨T, σ1⟩ ∧ (T 0 = .ptr e0 0 ∧ T 1 = .sl false (rws cS a1) ∧ T 2 = .int .i64 a2 ∧ T 6 = .ptr b1 0 ∧ T 7 = .str x34.1 ∧ T 8 = v27 ∧ T 42 = .int .i64 x42.1 ∧ T 58 = .bool y45t_58) ∧ Tau τ0 [(e0, ⟨123, 2, [.sl false (rws cU x42.2.b), .int .i64 x42.2.p]⟩)] τ1 ∧ Fx τ1 σ1 [(b1, ⟨30, 5, [.int .i64 0, .str (ByteArray.mk #[]), .int .i64 0, .nilsl, .nilsl]⟩)] [⟨v27, 9, 1, rws cS x40⟩]) (cdp j46 (fun h j46 => ?_) (fun h j46 => ?_)) ?_
            · refine go ?_
              have e := pur j46
              subst e
              exact ⟨_, _, _, rfl, S, hX, hF⟩
            · refine go ?_
              have e := pur j46
              subst e
              exact ⟨_, _, _, rfl, S, hX, hF⟩
            · rintro s' ⟨T47, σ48, τ49, rfl, tT, hX, hF⟩
              refine go ?_
              refine cdb H (fun h H => ?_) (fun h H => ?_)
              · refine go ?_
                obtain ⟨x62, hx62, H⟩ := bnd H
                refine cl (spec_l1Name_ok x34.1 _ hx62) ?_
                refine go ?_
                obtain ⟨x67, hx67, H⟩ := bnd H
                refine cx (C0 a1 (IntKind.i64.wrap (a2 - 1)) x42.2 _ hx67 e0  _ (pre 0 1 0 hF hX)) ?_
                rintro _ σ50 ⟨τ51, rfl, hT, hG⟩
                obtain ⟨τ52, hX, hF⟩ := aft 0 1 0 hF hX hT hG
                refine go ?_
                obtain ⟨x69, hx69, H⟩ := bnd H
                refine cl (spec_l1List_ok [x62, x67.1] _ hx69) ?_
                refine go ?_
                refine fx_alloc hF rfl fun b53 σ54 hF => ?_
                refine go ?_
                refine st hF 0 rfl fun σ55 hF => ?_
                refine go ?_
                obtain ⟨E, hEq⟩ : ∃ E, E = EE σ55 [e0] := ⟨_, rfl⟩
                have n56 : ¬ E b53 := by rw [hEq]; exact EE.not (hF.at 0 rfl) (by simp only [List.mem_cons, List.not_mem_nil, or_false, not_or]; exact neX hF 0 rfl hX 0 rfl)
                have n57 : ¬ E b1 := by rw [hEq]; exact EE.not (hF.at 1 rfl) (by simp only [List.mem_cons, List.not_mem_nil, or_false, not_or]; exact neX hF 1 rfl hX 0 rfl)
                refine draw_text E [.v, .v, .v, .v, .v, .v, .v, .v, .x, .v, .v, .z] (by kernel_rfl) ?_
                have z := And.intro (hide_at (hF.at 0 rfl) n56) (hide_at (hF.at 1 rfl) n57); refine gh ?_
                obtain ⟨x70, hx70, H⟩ := bnd H
                refine cv (spec_l1Name_ok (ByteArray.mk #[108, 101, 116]) _ hx70) ?_
                have z := And.intro (hide_at (hF.at 0 rfl) n56) (hide_at (hF.at 1 rfl) n57); refine gh ?_
                obtain ⟨x73, hx73, H⟩ := bnd H
                refine cv (spec_l1List_ok [x69] _ hx73) ?_
                have z := And.intro (hide_at (hF.at 0 rfl) n56) (hide_at (hF.at 1 rfl) n57); refine gh ?_
                obtain ⟨x78, hx78, H⟩ := bnd H
                obtain ⟨σ58, hF, hw59, hb60, hz61⟩ := frz hF 0
                refine aCall_wk (C0 x40 (IntKind.i64.wrap (a2 - 1)) x67.2 _ hx78 e0  _ (pre 0 1 0 hF hX)) (.cons (Wk.sub hb60 _) id (.cons hw59 (fun _ => rfl) (.cons (Wk.sub hb60 _) id .nil))) hb60 ?_
                rintro _ σ62 ⟨τ63, rfl, hT, hG⟩
                refine kp_intro ((Fx.kept hT hG (by intro p hp; simp only [List.mem_cons, List.not_mem_nil, or_false] at hp <;> first | (rcases hp with rfl <;> (rw [hEq]; first | (refine EE.of ?_; simp; done) | exact EE.new rfl))| cases hp)).to hz61) ?_
                obtain ⟨τ64, hX, hF⟩ := aft 0 1 0 hF hX hT hG
                have z := And.intro (hide_at (hF.at 0 rfl) n56) (hide_at (hF.at 1 rfl) n57); refine gh ?_
                obtain ⟨x80, hx80, H⟩ := bnd H
                refine cv (spec_l1List_ok [x70, x73, x78.1] _ hx80) ?_
                have z := And.intro (hide_at (hF.at 0 rfl) n56) (hide_at (hF.at 1 rfl) n57); refine gh ?_
                refine st hF 1 rfl fun σ65 hF => ?_
                have z := And.intro (hide_at (hF.at 0 rfl) n56) (hide_at (hF.at 1 rfl) n57); refine gh ?_
                refine go ?_
                have e := pur H; subst e
                exact rg [.agg [.int .i64 x80.kind, .str x80.name, .int .i64 x80.num, .sl false (rws cI x80.sc), .sl false (rws Fm.cells x80.kids)]] ⟨_, rfl, hX, Fx.self _⟩
              · refine go ?_
                refine cdp H (fun h H => ?_) (fun h H => ?_)
                · refine go ?_
                  obtain ⟨x83, hx83, H⟩ := bnd H
                  refine cl (spec_l1Name_ok (ByteArray.mk #[105, 102]) _ hx83) ?_
                  refine go ?_
                  obtain ⟨x88, hx88, H⟩ := bnd H
                  refine cx (C0 a1 (IntKind.i64.wrap (a2 - 1)) x42.2 _ hx88 e0  _ (pre 0 1 0 hF hX)) ?_
                  rintro _ σ66 ⟨τ67, rfl, hT, hG⟩
                  obtain ⟨τ68, hX, hF⟩ := aft 0 1 0 hF hX hT hG
                  refine go ?_
                  obtain ⟨x93, hx93, H⟩ := bnd H
                  refine cx (C0 a1 (IntKind.i64.wrap (a2 - 1)) x88.2 _ hx93 e0  _ (pre 0 1 0 hF hX)) ?_
                  rintro _ σ69 ⟨τ70, rfl, hT, hG⟩
                  obtain ⟨τ71, hX, hF⟩ := aft 0 1 0 hF hX hT hG
                  refine go ?_
                  obtain ⟨x96, hx96, H⟩ := bnd H
                  refine cx (C0 a1 0 x93.2 _ hx96 e0  _ (pre 0 1 0 hF hX)) ?_
                  rintro _ σ72 ⟨τ73, rfl, hT, hG⟩
                  obtain ⟨τ74, hX, hF⟩ := aft 0 1 0 hF hX hT hG
                  refine go ?_
                  obtain ⟨x98, hx98, H⟩ := bnd H
                  refine cl (spec_l1List_ok [x83, x88.1, x93.1, x96.1] _ hx98) ?_
                  refine go ?_
                  refine st hF 0 rfl fun σ75 hF => ?_
                  refine go ?_
                  have e := pur H; subst e
                  exact rg [.agg [.int .i64 x98.kind, .str x98.name, .int .i64 x98.num, .sl false (rws cI x98.sc), .sl false (rws Fm.cells x98.kids)]] ⟨_, rfl, hX, Fx.self _⟩
                · refine go ?_
                  refine cdp H (fun h H => ?_) (fun h H => ?_)
                  · refine go ?_
                    obtain ⟨x101, hx101, H⟩ := bnd H
                    refine cl (spec_l1Name_ok (ByteArray.mk #[113, 117, 111, 116, 101]) _ hx101) ?_
                    refine go ?_
                    obtain ⟨x103, hx103, H⟩ := bnd H
                    refine cx (spec_l1Some_ok 1 x42.2 _ hx103 e0  _ (pre 0 1 0 hF hX)) ?_
                    rintro _ σ76 ⟨τ77, rfl, hT, hG⟩
                    obtain ⟨τ78, hX, hF⟩ := aft 0 1 0 hF hX hT hG
                    refine go ?_
                    obtain ⟨x105, hx105, H⟩ := bnd H
                    refine cl (spec_l1List_ok [x101, x103.1] _ hx105) ?_
                    refine go ?_
                    refine st hF 0 rfl fun σ79 hF => ?_
                    refine go ?_
                    have e := pur H; subst e
                    exact rg [.agg [.int .i64 x105.kind, .str x105.name, .int .i64 x105.num, .sl false (rws cI x105.sc), .sl false (rws Fm.cells x105.kids)]] ⟨_, rfl, hX, Fx.self _⟩
                  · refine go ?_
                    obtain ⟨x110, hx110, H⟩ := bnd H
                    refine cx (C0 a1 (IntKind.i64.wrap (a2 - 1)) x42.2 _ hx110 e0  _ (pre 0 1 0 hF hX)) ?_
                    rintro _ σ80 ⟨τ81, rfl, hT, hG⟩
                    obtain ⟨τ82, hX, hF⟩ := aft 0 1 0 hF hX hT hG
                    refine go ?_
                    obtain ⟨x115, hx115, H⟩ := bnd H
                    refine cx (C0 a1 (IntKind.i64.wrap (a2 - 1)) x110.2 _ hx115 e0  _ (pre 0 1 0 hF hX)) ?_
                    rintro _ σ83 ⟨τ84, rfl, hT, hG⟩
                    obtain ⟨τ85, hX, hF⟩ := aft 0 1 0 hF hX hT hG
                    refine go ?_
                    obtain ⟨x117, hx117, H⟩ := bnd H
                    refine cl (spec_l1List_ok [x110.1, x115.1] _ hx117) ?_
                    refine go ?_
                    refine st hF 0 rfl fun σ86 hF => ?_
                    refine go ?_
                    have e := pur H; subst e
                    exact rg [.agg [.int .i64 x117.kind, .str x117.name, .int .i64 x117.num, .sl false (rws cI x117.sc), .sl false (rws Fm.cells x117.kids)]] ⟨_, rfl, hX, Fx.self _⟩
    · rw [if_pos (dt q)] at H
      refine go ?_
      obtain ⟨x18_1, hx18_1, H⟩ := bnd H
      refine cx (spec_l15Rd_pick_ok 3 c0 _ hx18_1 e0  _ (pre 0 1 0 hF hX)) ?_
      rintro _ σ87 ⟨τ88, rfl, hT, hG⟩
      obtain ⟨τ89, hX, hF⟩ := aft 0 1 0 hF hX hT hG
      refine go ?_
      refine cdp H (fun h H => ?_) (fun h H => ?_)
      · refine go ?_
        obtain ⟨x22_1, hx22_1, H⟩ := bnd H
        refine cx (spec_l15Rd_num_ok [0, 1, 2, 7] x18_1.2 _ hx22_1 e0  _ (pre 0 1 0 hF hX)) ?_
        rintro _ σ90 ⟨τ91, rfl, hT, hG⟩
        obtain ⟨τ92, hX, hF⟩ := aft 0 1 0 hF hX hT hG
        refine go ?_
        refine st hF 0 rfl fun σ93 hF => ?_
        refine go ?_
        have e := pur H; subst e
        exact rg [.agg [.int .i64 2, .str (ByteArray.mk #[]), .int .i64 x22_1.1, .nilsl, .nilsl]] ⟨_, rfl, hX, Fx.self _⟩
      · refine go ?_
        obtain ⟨x28_1, hx28_1, H⟩ := bnd H
        refine cx (spec_l15Rd_pick_ok (a1.length : Int) x18_1.2 _ hx28_1 e0  _ (pre 0 1 0 hF hX)) ?_
        rintro _ σ94 ⟨τ95, rfl, hT, hG⟩
        obtain ⟨τ96, hX, hF⟩ := aft 0 1 0 hF hX hT hG
        obtain ⟨x29_1, f1, H⟩ := bil (g := cS) (fun _ => rfl) H
        refine go1 ?_
        obtain ⟨x31_1, hx31_1, H⟩ := bnd H
        refine cl (spec_l1Name_ok x29_1 _ hx31_1) ?_
        refine go ?_
        refine st hF 0 rfl fun σ97 hF => ?_
        refine go ?_
        have e := pur H; subst e
        exact rg [.agg [.int .i64 x31_1.kind, .str x31_1.name, .int .i64 x31_1.num, .sl false (rws cI x31_1.sc), .sl false (rws Fm.cells x31_1.kids)]] ⟨_, rfl, hX, Fx.self _⟩
theorem spec_l7Draw_ok : ∀ (c0 : Rdr) r, spec_l7Draw c0 = some r → ∀ (e0 : Nat)  (σ : Sto), Pre σ [(e0, ⟨123, 2, [.sl false (rws cU c0.b), .int .i64 c0.p]⟩)] [] → Ctr Tryd.prog 97 [.ptr e0 0] σ (fun r' σ' => ∃ (τ' : Sto), r' = .agg (Fm.cells r.1) ∧ Tau (strip σ []) [(e0, ⟨123, 2, [.sl false (rws cU r.2.b), .int .i64 r.2.p]⟩)] τ' ∧ Fx τ' σ' [] []) := by
  intro c0 r H
  intro e0  σ hP
  unfold spec_l7Draw at H
  refine ctr_of mixed Tryd.func97 rfl (by kernel_rfl) (rs := [.cell 2 30]) rfl (by kernel_rfl) ?_
  obtain ⟨hF, hX⟩ := hP.start
  generalize strip σ [] = τ0 at hF hX ⊢
  have q := dum
  have tT := dum
  refine go ?_
  refine fx_alloc hF rfl fun b1 σ2 hF => ?_
  refine go ?_
  obtain ⟨x6, hx6, H⟩ := bnd H
  refine cl (spec_l7Texts_ok  _ hx6) ?_
  refine go ?_
  obtain ⟨x8, hx8, H⟩ := bnd H
  refine cx (spec_l15Rd_pick_ok 3 c0 _ hx8 e0  _ (pre 0 1 0 hF hX)) ?_
  rintro _ σ3 ⟨τ4, rfl, hT, hG⟩
  obtain ⟨τ5, hX, hF⟩ := aft 0 1 0 hF hX hT hG
  refine goL ?_
  refine cdp H (fun h H => ?_) (fun h H => ?_)
  · refine go ?_
    obtain ⟨x14, hx14, H⟩ := bnd H
    refine cx (spec_l15Rd_pick_ok (x6.length : Int) x8.2 _ hx14 e0  _ (pre 0 1 0 hF hX)) ?_
    rintro _ σ6 ⟨τ7, rfl, hT, hG⟩
    obtain ⟨τ8, hX, hF⟩ := aft 0 1 0 hF hX hT hG
    obtain ⟨x15, f1, H⟩ := bil (g := cS) (fun _ => rfl) H
    refine go1 ?_
    obtain ⟨x17, hx17, H⟩ := bnd H
    refine cl (spec_l1Parse_ok x15 _ hx17) ?_
    refine go ?_
    refine st hF 0 rfl fun σ9 hF => ?_
    refine go ?_
    have e := pur H; subst e
    exact rg [.agg [.int .i64 x17.kind, .str x17.name, .int .i64 x17.num, .sl false (rws cI x17.sc), .sl false (rws Fm.cells x17.kids)]] ⟨_, rfl, hX, Fx.self _⟩
  · refine go ?_
    obtain ⟨x22, hx22, H⟩ := bnd H
    refine cx (spec_l15Rd_num_ok [4, 3, 2] x8.2 _ hx22 e0  _ (pre 0 1 0 hF hX)) ?_
    rintro _ σ10 ⟨τ11, rfl, hT, hG⟩
    obtain ⟨τ12, hX, hF⟩ := aft 0 1 0 hF hX hT hG
    refine go ?_
    obtain ⟨x23, hx23, H⟩ := bnd H
    refine cx (spec_l7Some_ok [(ByteArray.mk #[43]), (ByteArray.mk #[108, 105, 115, 116]), (ByteArray.mk #[103])] x22.1 x22.2 _ hx23 e0  _ (pre 0 1 0 hF hX)) ?_
    rintro _ σ13 ⟨τ14, rfl, hT, hG⟩
    obtain ⟨τ15, hX, hF⟩ := aft 0 1 0 hF hX hT hG
    refine go ?_
    refine fx_alloc hF rfl fun b16 σ17 hF => ?_
    refine go ?_
    refine st hF 0 rfl fun σ18 hF => ?_
    refine go ?_
    obtain ⟨x25, hx25, H⟩ := bnd H
    refine cx (spec_l15Rd_pick_ok 2 x23.2 _ hx25 e0  _ (pre 0 1 0 hF hX)) ?_
    rintro _ σ19 ⟨τ20, rfl, hT, hG⟩
    obtain ⟨τ21, hX, hF⟩ := aft 0 1 0 hF hX hT hG
    refine goL ?_
    refine cdp H (fun h H => ?_) (fun h H => ?_)
    · refine goL ?_
      obtain ⟨x27, hx27, H⟩ := bnd H
      refine cl (spec_l1Parse_ok (ByteArray.mk #[40, 114, 117, 108, 101, 115, 32, 40, 41, 32, 40, 40, 95, 32, 97, 32, 98, 41, 32, 40, 108, 101, 116, 32, 40, 40, 116, 32, 97, 41, 41, 32, 40, 108, 105, 115, 116, 32, 98, 32, 116, 41, 41, 41, 32, 40, 40, 95, 32, 97, 41, 32, 40, 108, 101, 116, 32, 40, 40, 120, 32, 97, 41, 41, 32, 40, 108, 105, 115, 116, 32, 120, 32, 97, 41, 41, 41, 41]) _ hx27) ?_
      refine goL ?_
      refine fx_alloc hF rfl fun b22 σ23 hF => ?_
      refine goL ?_
      refine st hF 0 rfl fun σ24 hF => ?_
      refine goL ?_
      refine draw_text E0 [.v, .v, .v, .v, .v, .v, .v, .v, .v, .v, .z] (by kernel_rfl) ?_
      refine goL ?_
      obtain ⟨x28, hx28, H⟩ := bnd H
      refine cv (spec_l1Name_ok (ByteArray.mk #[108, 101, 116, 45, 115, 121, 110, 116, 97, 120]) _ hx28) ?_
      refine goL ?_
      obtain ⟨x29, hx29, H⟩ := bnd H
      refine cv (spec_l1Name_ok (ByteArray.mk #[103]) _ hx29) ?_
      refine goL ?_
      obtain ⟨x32, hx32, H⟩ := bnd H
      refine cv (spec_l1List_ok [x29, x27] _ hx32) ?_
      refine goL ?_
      obtain ⟨x34, hx34, H⟩ := bnd H
      refine cv (spec_l1List_ok [x32] _ hx34) ?_
      refine goL ?_
      obtain ⟨x37, hx37, H⟩ := bnd H
      refine cv (spec_l1List_ok [x28, x34, x23.1] _ hx37) ?_
      refine goL ?_
      refine st hF 1 rfl fun σ25 hF => ?_
      refine goL ?_
      refine st hF 2 rfl fun σ26 hF => ?_
      refine goL ?_
      have e := pur H; subst e
      exact rg [.agg [.int .i64 x37.kind, .str x37.name, .int .i64 x37.num, .sl false (rws cI x37.sc), .sl false (rws Fm.cells x37.kids)]] ⟨_, rfl, hX, Fx.self _⟩
    · refine goL ?_
      refine st hF 1 rfl fun σ27 hF => ?_
      refine goL ?_
      have e := pur H; subst e
      exact rg [.agg [.int .i64 x23.1.kind, .str x23.1.name, .int .i64 x23.1.num, .sl false (rws cI x23.1.sc), .sl false (rws Fm.cells x23.1.kids)]] ⟨_, rfl, hX, Fx.self _⟩
theorem spec_l9Draw_ok : ∀ (c0 : Rdr) r, spec_l9Draw c0 = some r → ∀ (e0 : Nat)  (σ : Sto), Pre σ [(e0, ⟨123, 2, [.sl false (rws cU c0.b), .int .i64 c0.p]⟩)] [] → Ctr Tryd.prog 85 [.ptr e0 0] σ (fun r' σ' => ∃ (τ' : Sto), r' = .agg (Fm.cells r.1) ∧ Tau (strip σ []) [(e0, ⟨123, 2, [.sl false (rws cU r.2.b), .int .i64 r.2.p]⟩)] τ' ∧ Fx τ' σ' [] []) := by
  intro c0 r H
  intro e0  σ hP
  unfold spec_l9Draw at H
  refine ctr_of mixed Tryd.func85 rfl (by kernel_rfl) (rs := [.cell 2 30]) rfl (by kernel_rfl) ?_
  obtain ⟨hF, hX⟩ := hP.start
  generalize strip σ [] = τ0 at hF hX ⊢
  have q := dum
  have tT := dum
  refine go ?_
  refine fx_alloc hF rfl fun b1 σ2 hF => ?_
  refine goL ?_
  obtain ⟨x6, hx6, H⟩ := bnd H
  refine cx (spec_l15Rd_pick_ok 2 c0 _ hx6 e0  _ (pre 0 1 0 hF hX)) ?_
  rintro _ σ3 ⟨τ4, rfl, hT, hG⟩
  obtain ⟨τ5, hX, hF⟩ := aft 0 1 0 hF hX hT hG
  refine goL ?_
  refine cdp H (fun h H => ?_) (fun h H => ?_)
  · refine goL ?_
    obtain ⟨x12, hx12, H⟩ := bnd H
    refine cx (spec_l15Rd_pick_ok 4 x6.2 _ hx12 e0  _ (pre 0 1 0 hF hX)) ?_
    rintro _ σ6 ⟨τ7, rfl, hT, hG⟩
    obtain ⟨τ8, hX, hF⟩ := aft 0 1 0 hF hX hT hG
    obtain ⟨x13, hx13, H⟩ := bnd H
    have f1 := fun (σ : Sto) => aidx_idx (g := cS) (σ := σ) (c := true) (k := .i64) (e := 9) (sz := 1) (by_ := 16) (fun _ => rfl) hx13
    simp only [rws_cons, rws_nil, cI, cU, cS, cL, cB] at f1
    try simp only [go_sem, ↓reduceIte, Nat.reduceEqDiff, Nat.reduceAdd, Nat.reduceMul, Nat.reduceLeDiff, Nat.reduceLT, Int.reduceEq, Int.toNat_natCast, q, tT, hF.f, hF.m, hF.x hX, f1, List.append_eq, List.cons_append, List.nil_append]
    obtain ⟨x15, hx15, H⟩ := bnd H
    refine cl (spec_l1Parse_ok x13 _ hx15) ?_
    refine goL ?_
    refine st hF 0 rfl fun σ9 hF => ?_
    refine goL ?_
    have e := pur H; subst e
    exact rg [.agg [.int .i64 x15.kind, .str x15.name, .int .i64 x15.num, .sl false (rws cI x15.sc), .sl false (rws Fm.cells x15.kids)]] ⟨_, rfl, hX, Fx.self _⟩
  · refine goL ?_
    obtain ⟨x17, hx17, H⟩ := bnd H
    refine cx (spec_l7Draw_ok x6.2 _ hx17 e0  _ (pre 0 1 0 hF hX)) ?_
    rintro _ σ10 ⟨τ11, rfl, hT, hG⟩
    obtain ⟨τ12, hX, hF⟩ := aft 0 1 0 hF hX hT hG
    refine goL ?_
    refine st hF 0 rfl fun σ13 hF => ?_
    refine goL ?_
    have e := pur H; subst e
    exact rg [.agg [.int .i64 x17.1.kind, .str x17.1.name, .int .i64 x17.1.num, .sl false (rws cI x17.1.sc), .sl false (rws Fm.cells x17.1.kids)]] ⟨_, rfl, hX, Fx.self _⟩
theorem spec_l1Copy_ok : ∀ (a0 : Fm) r, spec_l1Copy a0 = some r → PCtr Tryd.prog 98 [.agg (Fm.cells a0)] (.agg (Fm.cells r)) := by
  refine spec_l1Copy.partial_correctness  (motive_1 := fun a0 r => PCtr Tryd.prog 98 [.agg (Fm.cells a0)] (.agg (Fm.cells r))) (motive_2 := fun a0 x14 z0o_0 z0t_4 out => ∀ c, loopAt Tryd.f98 0 = some c → ∀ (Q : AX → AS → Prop) (τ : Sto) (b1 : Nat) (b3 : Nat) (b5 : Nat), (∀ (e0o_0 : List Fm), out = e0o_0 → ∀ (T : Nat → AV) (σ : Sto) (e0v0 : AV), T 2 = .ptr b3 0 ∧ T 3 = .ptr b5 0 → Fx τ σ [(b5, ⟨30, 5, [.int .i64 a0.kind, .str a0.name, .int .i64 a0.num, .sl false (rws cI x14), e0v0]⟩), (b3, ⟨30, 5, [.int .i64 0, .str (ByteArray.mk #[]), .int .i64 0, .nilsl, .nilsl]⟩), (b1, ⟨30, 5, [.int .i64 a0.kind, .str a0.name, .int .i64 a0.num, .sl false (rws cI a0.sc), .sl false (rws Fm.cells a0.kids)]⟩)] [⟨e0v0, 30, 5, rws Fm.cells e0o_0⟩] → Q (.ex 0) ⟨T, σ⟩) → True → ∀ (T : Nat → AV) (σ : Sto) (z0v0 : AV), T 1 = .ptr b1 0 ∧ T 2 = .ptr b3 0 ∧ T 3 = .ptr b5 0 ∧ T 4 = .int .i64 z0t_4 → Fx τ σ [(b5, ⟨30, 5, [.int .i64 a0.kind, .str a0.name, .int .i64 a0.num, .sl false (rws cI x14), z0v0]⟩), (b3, ⟨30, 5, [.int .i64 0, .str (ByteArray.mk #[]), .int .i64 0, .nilsl, .nilsl]⟩), (b1, ⟨30, 5, [.int .i64 a0.kind, .str a0.name, .int .i64 a0.num, .sl false (rws cI a0.sc), .sl false (rws Fm.cells a0.kids)]⟩)] [⟨z0v0, 30, 5, rws Fm.cells z0o_0⟩] → aLoop (acode Tryd.prog c) Q ⟨T, σ⟩) ?_ ?_
  · intro spec_l1Copy_l0 L0 a0 r H
    intro σ
    refine ctr_of mixed Tryd.func98 rfl (by kernel_rfl) (rs := [.cell 2 30]) rfl (by kernel_rfl) ?_
    have hF := Fx.refl σ
    have hX := Tau.none σ
    have q := dum
    have tT := dum
    refine go ?_
    refine fx_alloc hF rfl fun b1 σ2 hF => ?_
    refine go ?_
    refine fx_alloc hF rfl fun b3 σ4 hF => ?_
    refine go ?_
    refine draw_text E0 [.v, .v, .v, .v, .v, .v, .v, .v, .v, .v, .v, .x, .z] (by kernel_rfl) ?_
    refine go ?_
    obtain ⟨x14, hx14, H⟩ := bnd H
    refine vApp_g (g := cI) (xs := []) (ys := a0.sc) (fun _ => rfl) (by decide) (by decide) (.inr (by first | rfl | simp only [rws_cons, rws_nil, cI, cU, cS, cL])) (.inr ⟨_, by first | rfl | simp only [rws_cons, rws_nil, cI, cU, cS, cL]⟩) hx14 ?_
    refine go ?_
    refine fx_allocK hF rfl fun b5 σ6 hF => ?_
    refine go ?_
    refine st hF 0 rfl fun σ7 hF => ?_
    have hF := hF.nil 30 5
    refine go ?_
    obtain ⟨o11, ho11, H⟩ := bnd H
    refine L0 a0 x14 [] 0 _ ho11 _ rfl _ _ b1 b3 b5 ?_ ?_ _ _ .nilsl S hF
    · intro e12o_0 he T13 σ14 e12v0 tT hF
      have he := he.symm
      subst he
      refine go ?_
      refine st hF 1 rfl fun σ16 hF => ?_
      refine go ?_
      have e := pur H; subst e
      exact rt [.agg [.int .i64 a0.kind, .str a0.name, .int .i64 a0.num, .sl false (rws cI x14), e12v0]]
    · trivial
  · intro spec_l1Copy spec_l1Copy_l0 C0 L0 a0 x14 z0o_0 z0t_4 out H c hc Q τ b1 b3 b5 hE hR T σ z0v0 tT hF
    obtain rfl := Option.some.inj ((rfl : loopAt Tryd.f98 0 = some _).symm.trans hc)
    refine aLoop_round ?_
    have q := dum
    have hX := Tau.none τ
    refine go ?_
    refine cdp H (fun h H => ?_) (fun h H => ?_)
    · refine go ?_
      refine draw_text E0 [.v, .v, .v, .v, .v, .v, .v, .v, .v, .x, .v, .z] (by kernel_rfl) ?_
      obtain ⟨x28, f1, H⟩ := bil (g := Fm.cells) Fm.cells_len H
      refine go1 ?_
      obtain ⟨x30, hx30, H⟩ := bnd H
      refine cv (C0 x28 _ hx30) ?_
      refine go ?_
      refine apdK (g := Fm.cells) hF 0 H (rdo (c := true) (g := Fm.cells) Fm.cells_len) fun x32 H v8 σ9 hF => ?_
      refine go ?_
      refine st hF 0 (hF.cells 0 rfl) fun σ10 hF => ?_
      refine go ?_
      exact L0 a0 x14 x32 (IntKind.i64.wrap (z0t_4 + 1)) _ H _ rfl Q τ b1 b3 b5 hE hR _ _ v8 S hF
    · refine go ?_
      exact hE _ (pur H).symm _ _ z0v0 S hF
theorem spec_l1Copy_o0_30_4_l0_ok : ∀ (a0 : Fm) (x14 : List Int) (z0o_1 : List Fm) (z0t_4 : Int) out, spec_l1Copy_o0_30_4_l0 a0 x14 z0o_1 z0t_4 = some out → ∀ c, loopAt Tryd.f98 0 = some c → ∀ (Q : AX → AS → Prop) (τ0 : Sto) (b1 : Nat) (b3 : Nat) (v5 : AV) (b7 : Nat), (∀ (e0o_1 : List Fm), out = e0o_1 → ∀ (T : Nat → AV) (σ : Sto) (τ : Sto) (e0v1 : AV), T 2 = .ptr b3 0 ∧ T 3 = .ptr b7 0 → Tau τ0 [] τ → Fx τ σ [(b7, ⟨30, 5, [.int .i64 a0.kind, .str a0.name, .int .i64 a0.num, v5, e0v1]⟩), (b3, ⟨30, 5, [.int .i64 0, .str (ByteArray.mk #[]), .int .i64 0, .nilsl, .nilsl]⟩), (b1, ⟨30, 5, [.int .i64 a0.kind, .str a0.name, .int .i64 a0.num, .sl false (rws cI a0.sc), .sl false (rws Fm.cells a0.kids)]⟩)] [⟨e0v1, 30, 5, rws Fm.cells e0o_1⟩, ⟨v5, 3, 1, rws cI x14⟩] → Q (.ex 0) ⟨T, σ⟩) → True → ∀ (T : Nat → AV) (σ : Sto) (τ : Sto) (z0v1 : AV), T 1 = .ptr b1 0 ∧ T 2 = .ptr b3 0 ∧ T 3 = .ptr b7 0 ∧ T 4 = .int .i64 z0t_4 → Tau τ0 [] τ → Fx τ σ [(b7, ⟨30, 5, [.int .i64 a0.kind, .str a0.name, .int .i64 a0.num, v5, z0v1]⟩), (b3, ⟨30, 5, [.int .i64 0, .str (ByteArray.mk #[]), .int .i64 0, .nilsl, .nilsl]⟩), (b1, ⟨30, 5, [.int .i64 a0.kind, .str a0.name, .int .i64 a0.num, .sl false (rws cI a0.sc), .sl false (rws Fm.cells a0.kids)]⟩)] [⟨z0v1, 30, 5, rws Fm.cells z0o_1⟩, ⟨v5, 3, 1, rws cI x14⟩] → aLoop (acode Tryd.prog c) Q ⟨T, σ⟩ := by
  intro a0 x14 z0o_1 z0t_4
  revert z0o_1 z0t_4
  refine spec_l1Copy_o0_30_4_l0.partial_correctness a0 x14 _ ?_
  intro spec_l1Copy_o0_30_4_l0 IH z0o_1 z0t_4 out H c hc Q τ0 b1 b3 v5 b7 hE hR T σ τ z0v1 tT hX hF
  obtain rfl := Option.some.inj ((rfl : loopAt Tryd.f98 0 = some _).symm.trans hc)
  refine aLoop_round ?_
  have q := dum
  refine go ?_
  refine cdp H (fun h H => ?_) (fun h H => ?_)
  · refine go ?_
    refine draw_text E0 [.v, .v, .v, .v, .v, .v, .v, .v, .v, .x, .v, .z] (by kernel_rfl) ?_
    obtain ⟨x28, f1, H⟩ := bil (g := Fm.cells) Fm.cells_len H
    refine go1 ?_
    obtain ⟨x30, hx30, H⟩ := bnd H
    refine cv (spec_l1Copy_ok x28 _ hx30) ?_
    refine go ?_
    refine apdK (g := Fm.cells) hF 0 H (rdo (c := true) (g := Fm.cells) Fm.cells_len) fun x32 H v10 σ11 hF => ?_
    refine go ?_
    refine st hF 0 (hF.cells 0 rfl) fun σ12 hF => ?_
    refine go ?_
    exact IH  x32 (IntKind.i64.wrap (z0t_4 + 1)) _ H _ rfl Q τ0 b1 b3 v5 b7 hE hR _ _ _ v10 S hX hF
  · refine go ?_
    exact hE _ (pur H).symm _ _ _ z0v1 S hX hF
theorem spec_l1Copy_o0_30_4_ok : ∀ (a0 : Fm) r, spec_l1Copy_o0_30_4 a0 = some r → ∀   (σ : Sto), Pre σ [] [] → Ctr Tryd.prog 98 [.agg (Fm.cells a0)] σ (fun r' σ' => ∃ (τ' : Sto) (w0_3 : AV) (w0_4 : AV), r' = .agg [.int .i64 r.kind, .str r.name, .int .i64 r.num, w0_3, w0_4] ∧ Tau (strip σ []) [] τ' ∧ Fx τ' σ' [] [⟨w0_3, 3, 1, rws cI r.sc⟩, ⟨w0_4, 30, 5, rws Fm.cells r.kids⟩]) := by
  intro a0 r H
  intro   σ hP
  unfold spec_l1Copy_o0_30_4 at H
  refine ctr_of mixed Tryd.func98 rfl (by kernel_rfl) (rs := [.cell 2 30]) rfl (by kernel_rfl) ?_
  obtain ⟨hF, hX⟩ := hP.start
  generalize strip σ [] = τ0 at hF hX ⊢
  have q := dum
  have tT := dum
  refine go ?_
  refine fx_alloc hF rfl fun b1 σ2 hF => ?_
  refine go ?_
  refine fx_alloc hF rfl fun b3 σ4 hF => ?_
  refine go ?_
  refine draw_text E0 [.v, .v, .v, .v, .v, .v, .v, .v, .v, .x, .v, .x, .z] (by kernel_rfl) ?_
  refine go ?_
  have hF := hF.lit 3 1 (rws cI []) rfl
  refine apdK (g := cI) hF 0 H (rdo (c := false) (g := cI) (fun _ => rfl)) fun x14 H v5 σ6 hF => ?_
  refine go ?_
  refine fx_allocK hF rfl fun b7 σ8 hF => ?_
  refine go ?_
  refine st hF 0 rfl fun σ9 hF => ?_
  have hF := hF.nil 30 5
  refine go ?_
  obtain ⟨o13, ho13, H⟩ := bnd H
  refine spec_l1Copy_o0_30_4_l0_ok a0 x14 [] 0 _ ho13 _ rfl _ τ0 b1 b3 v5 b7 ?_ ?_ _ _ _ .nilsl S hX hF
  · intro e14o_1 he T15 σ16 τ17 e14v1 tT hX hF
    have he := he.symm
    subst he
    refine go ?_
    refine st hF 1 rfl fun σ18 hF => ?_
    refine go ?_
    have e := pur H; subst e
    exact rg [.agg [.int .i64 a0.kind, .str a0.name, .int .i64 a0.num, v5, e14v1]] ⟨_, _, _, rfl, hX, hF.pick [] [1, 0] (by decide) (by decide)⟩
  · trivial
theorem spec_l1Mutate_ok : ∀ (a1 : Fm) (c0 : Rdr) r, spec_l1Mutate a1 c0 = some r → ∀ (e0 : Nat)  (σ : Sto), Pre σ [(e0, ⟨123, 2, [.sl false (rws cU c0.b), .int .i64 c0.p]⟩)] [] → Ctr Tryd.prog 86 [.ptr e0 0, .agg (Fm.cells a1)] σ (fun r' σ' => ∃ (τ' : Sto), r' = .agg (Fm.cells r.1) ∧ Tau (strip σ []) [(e0, ⟨123, 2, [.sl false (rws cU r.2.b), .int .i64 r.2.p]⟩)] τ' ∧ Fx τ' σ' [] []) := by
  refine spec_l1Mutate.partial_correctness  (motive := fun a1 c0 r => ∀ (e0 : Nat)  (σ : Sto), Pre σ [(e0, ⟨123, 2, [.sl false (rws cU c0.b), .int .i64 c0.p]⟩)] [] → Ctr Tryd.prog 86 [.ptr e0 0, .agg (Fm.cells a1)] σ (fun r' σ' => ∃ (τ' : Sto), r' = .agg (Fm.cells r.1) ∧ Tau (strip σ []) [(e0, ⟨123, 2, [.sl false (rws cU r.2.b), .int .i64 r.2.p]⟩)] τ' ∧ Fx τ' σ' [] [])) ?_
  · intro spec_l1Mutate C0 a1 c0 r H
    intro e0  σ hP
    refine ctr_of mixed Tryd.func86 rfl (by kernel_rfl) (rs := [.cell 4 30]) rfl (by kernel_rfl) ?_
    obtain ⟨hF, hX⟩ := hP.start
    generalize strip σ [] = τ0 at hF hX ⊢
    have q := dum
    have tT := dum
    refine go ?_
    refine fx_alloc hF rfl fun b1 σ2 hF => ?_
    refine go ?_
    refine fx_alloc hF rfl fun b3 σ4 hF => ?_
    refine go ?_
    obtain ⟨x8, hx8, H⟩ := bnd H
    refine cx (spec_l1Copy_o0_30_4_ok a1 _ hx8   _ (pre 0 0 0 hF hX)) ?_
    rintro _ σ7 ⟨τ8, v5, v6, rfl, hT, hG⟩
    obtain ⟨τ9, hX, hF⟩ := aft 0 0 0 hF hX hT hG
    refine go ?_
    refine fx_alloc hF rfl fun b10 σ11 hF => ?_
    refine go ?_
    refine st hF 0 rfl fun σ12 hF => ?_
    refine go ?_
    refine gi q (fun q => ?_) (fun q => ?_)
    · rw [if_pos (dt q)] at H
      refine go ?_
      obtain ⟨x15_1, hx15_1, H⟩ := bnd H
      refine cx (spec_l15Rd_pick_ok 2 c0 _ hx15_1 e0  _ (pre 0 1 0 hF hX)) ?_
      rintro _ σ18 ⟨τ19, rfl, hT, hG⟩
      obtain ⟨τ20, hX, hF⟩ := aft 0 1 0 hF hX hT hG
      refine go ?_
      refine cdp H (fun h H => ?_) (fun h H => ?_)
      · refine go ?_
        obtain ⟨x22, hx22, H⟩ := bnd H
        refine cx (spec_l15Rd_pick_ok (x8.kids.length : Int) x15_1.2 _ hx22 e0  _ (pre 0 1 0 hF hX)) ?_
        rintro _ σ21 ⟨τ22, rfl, hT, hG⟩
        obtain ⟨τ23, hX, hF⟩ := aft 0 1 0 hF hX hT hG
        refine go ?_
        obtain ⟨E, hEq⟩ : ∃ E, E = EE σ21 [e0] := ⟨_, rfl⟩
        have n24 : ¬ E b10 := by rw [hEq]; exact EE.not (hF.at 0 rfl) (by simp only [List.mem_cons, List.not_mem_nil, or_false, not_or]; exact neX hF 0 rfl hX 0 rfl)
        have n25 : ¬ E b3 := by rw [hEq]; exact EE.not (hF.at 1 rfl) (by simp only [List.mem_cons, List.not_mem_nil, or_false, not_or]; exact neX hF 1 rfl hX 0 rfl)
        have n26 : ¬ E b1 := by rw [hEq]; exact EE.not (hF.at 2 rfl) (by simp only [List.mem_cons, List.not_mem_nil, or_false, not_or]; exact neX hF 2 rfl hX 0 rfl)
        refine draw_text E [.v, .v, .v, .v, .v, .v, .v, .v, .x, .x, .v, .z] (by kernel_rfl) ?_
        have z := And.intro (hide_at (hF.at 0 rfl) n24) (And.intro (hide_at (hF.at 1 rfl) n25) (hide_at (hF.at 2 rfl) n26)); refine gh ?_
        obtain ⟨x30, hx30, H⟩ := bnd H
        obtain ⟨b27, k28, hv⟩ := hF.ref 1 rfl hx30
        subst hv
        try simp only [go_sem, ↓reduceIte, Nat.reduceEqDiff, Nat.reduceAdd, Nat.reduceMul, Nat.reduceLeDiff, Nat.reduceLT, Int.reduceEq, Int.toNat_natCast, q, tT, hF.f, hF.m, hF.x hX, hide_at (hF.at 0 rfl) n24, hide_at (hF.at 1 rfl) n25, hide_at (hF.at 2 rfl) n26, aidx_own (l := x8.kids) rfl hx30, aload_own hF 1 (p := x22.1.toNat * 5) (sz := 5) (ag := true) (k := 5) (o := 0) (g := Fm.cells) (x := x30) (i := x22.1) (v := (.agg [.int .i64 x30.kind, .str x30.name, .int .i64 x30.num, .sl false (rws cI x30.sc), .sl false (rws Fm.cells x30.kids)])) (by first | rfl | simp) Fm.cells_len rfl hx30 (by decide) (by first | rfl | (simp only [cI, cU, cS, cL, cB, Fm.cells_eq]; rfl))]
        obtain ⟨x32, hx32, H⟩ := bnd H
        refine cx (C0 x30 x22.2 _ hx32 e0  _ (pre 0 1 0 hF hX)) ?_
        rintro _ σ29 ⟨τ30, rfl, hT, hG⟩
        refine kp_intro (Fx.kept hT hG (by intro p hp; simp only [List.mem_cons, List.not_mem_nil, or_false] at hp <;> first | (rcases hp with rfl <;> (rw [hEq]; first | (refine EE.of ?_; simp; done) | exact EE.new rfl))| cases hp)) ?_
        obtain ⟨τ31, hX, hF⟩ := aft 0 1 0 hF hX hT hG
        obtain ⟨x33, hx33, H⟩ := bnd H
        try simp only [go_sem, ↓reduceIte, Nat.reduceEqDiff, Nat.reduceAdd, Nat.reduceMul, Nat.reduceLeDiff, Nat.reduceLT, Int.reduceEq, Int.toNat_natCast, q, tT, hF.f, hF.m, hF.x hX, hide_at (hF.at 0 rfl) n24, hide_at (hF.at 1 rfl) n25, hide_at (hF.at 2 rfl) n26, aidx_own (l := x8.kids) ((own_at hF 1 rfl).1.trans (rws_len _)) hx33]
        refine fx_oset hF 1 (o := 0) (sz := 5) (k := 5) (v := (.agg [.int .i64 x32.1.kind, .str x32.1.name, .int .i64 x32.1.num, .sl false (rws cI x32.1.sc), .sl false (rws Fm.cells x32.1.kids)])) (cs := [.int .i64 x32.1.kind, .str x32.1.name, .int .i64 x32.1.num, .sl false (rws cI x32.1.sc), .sl false (rws Fm.cells x32.1.kids)]) (g := Fm.cells) (i := x22.1) x32.1 Fm.cells_len (by first | rfl | simp) rfl hx33 rfl rfl (by decide) (by first | rfl | simp [splice_eq, cI, cU, cS, cL, cB, Fm.cells_eq]) fun σ32 hF => ?_
        have hF : Fx τ31 σ32 [(b10, ⟨30, 5, [.int .i64 x8.kind, .str x8.name, .int .i64 x8.num, v5, .ref b27 x8.kids.length k28]⟩), (b3, ⟨30, 5, [.int .i64 0, .str (ByteArray.mk #[]), .int .i64 0, .nilsl, .nilsl]⟩), (b1, ⟨30, 5, [.int .i64 a1.kind, .str a1.name, .int .i64 a1.num, .sl false (rws cI a1.sc), .sl false (rws Fm.cells a1.kids)]⟩)] [⟨v5, 3, 1, rws cI x8.sc⟩, ⟨.ref b27 x8.kids.length k28, 30, 5, rws Fm.cells (x8.kids.set x22.1.toNat x32.1)⟩] := hF
        have z := And.intro (hide_at (hF.at 0 rfl) n24) (And.intro (hide_at (hF.at 1 rfl) n25) (hide_at (hF.at 2 rfl) n26)); refine gh ?_
        refine go ?_
        refine st hF 1 rfl fun σ33 hF => ?_
        refine go ?_
        have e := pur H; subst e
        exact rg [.agg [.int .i64 x8.kind, .str x8.name, .int .i64 x8.num, v5, .ref b27 x8.kids.length k28]] ⟨_, rfl, hX, Fx.self _⟩
      · refine go ?_
        obtain ⟨x36, hx36, H⟩ := bnd H
        refine cx (spec_l15Rd_pick_ok 14 x15_1.2 _ hx36 e0  _ (pre 0 1 0 hF hX)) ?_
        rintro _ σ34 ⟨τ35, rfl, hT, hG⟩
        obtain ⟨τ36, hX, hF⟩ := aft 0 1 0 hF hX hT hG
        refine go ?_
        refine cdp H (fun h H => ?_) (fun h H => ?_)
        · refine go ?_
          obtain ⟨x41, hx41, H⟩ := bnd H
          refine cx (spec_l15Rd_num_ok [0, 4, 1, 3] x36.2 _ hx41 e0  _ (pre 0 1 0 hF hX)) ?_
          rintro _ σ37 ⟨τ38, rfl, hT, hG⟩
          obtain ⟨τ39, hX, hF⟩ := aft 0 1 0 hF hX hT hG
          refine go ?_
          refine st hF 0 rfl fun σ40 hF => ?_
          refine go ?_
          refine st hF 1 rfl fun σ41 hF => ?_
          refine go ?_
          have e := pur H; subst e
          exact rg [.agg [.int .i64 x41.1, .str x8.name, .int .i64 x8.num, v5, v6]] ⟨_, rfl, hX, Fx.self _⟩
        · refine go ?_
          refine cdp H (fun h H => ?_) (fun h H => ?_)
          · refine go ?_
            obtain ⟨x47, hx47, H⟩ := bnd H
            refine cx (spec_l15Rd_of_ok [(ByteArray.mk #[]), (ByteArray.mk #[65]), (ByteArray.mk #[116, 111, 111, 108, 111, 110, 103, 97, 110, 97, 109, 101, 49]), (ByteArray.mk #[122]), (ByteArray.mk #[120, 32, 121])] x36.2 _ hx47 e0  _ (pre 0 1 0 hF hX)) ?_
            rintro _ σ42 ⟨τ43, rfl, hT, hG⟩
            obtain ⟨τ44, hX, hF⟩ := aft 0 1 0 hF hX hT hG
            refine go ?_
            refine st hF 0 rfl fun σ45 hF => ?_
            refine go ?_
            refine st hF 1 rfl fun σ46 hF => ?_
            refine go ?_
            have e := pur H; subst e
            exact rg [.agg [.int .i64 x8.kind, .str x47.1, .int .i64 x8.num, v5, v6]] ⟨_, rfl, hX, Fx.self _⟩
          · refine go ?_
            refine cdp H (fun h H => ?_) (fun h H => ?_)
            · refine go ?_
              obtain ⟨x53, hx53, H⟩ := bnd H
              refine cx (spec_l15Rd_num_ok [1000, -1, 5] x36.2 _ hx53 e0  _ (pre 0 1 0 hF hX)) ?_
              rintro _ σ47 ⟨τ48, rfl, hT, hG⟩
              obtain ⟨τ49, hX, hF⟩ := aft 0 1 0 hF hX hT hG
              refine go ?_
              refine st hF 0 rfl fun σ50 hF => ?_
              refine go ?_
              refine st hF 1 rfl fun σ51 hF => ?_
              refine go ?_
              have e := pur H; subst e
              exact rg [.agg [.int .i64 x8.kind, .str x8.name, .int .i64 x53.1, v5, v6]] ⟨_, rfl, hX, Fx.self _⟩
            · refine go ?_
              refine cdp H (fun h H => ?_) (fun h H => ?_)
              · refine go ?_
                obtain ⟨E, hEq⟩ : ∃ E, E = EE σ34 [e0] := ⟨_, rfl⟩
                have n52 : ¬ E b10 := by rw [hEq]; exact EE.not (hF.at 0 rfl) (by simp only [List.mem_cons, List.not_mem_nil, or_false, not_or]; exact neX hF 0 rfl hX 0 rfl)
                have n53 : ¬ E b3 := by rw [hEq]; exact EE.not (hF.at 1 rfl) (by simp only [List.mem_cons, List.not_mem_nil, or_false, not_or]; exact neX hF 1 rfl hX 0 rfl)
                have n54 : ¬ E b1 := by rw [hEq]; exact EE.not (hF.at 2 rfl) (by simp only [List.mem_cons, List.not_mem_nil, or_false, not_or]; exact neX hF 2 rfl hX 0 rfl)
                refine draw_text E [.v, .v, .v, .v, .x, .v, .x, .v, .z] (by kernel_rfl) ?_
                have z := And.intro (hide_at (hF.at 0 rfl) n52) (And.intro (hide_at (hF.at 1 rfl) n53) (hide_at (hF.at 2 rfl) n54)); refine gh ?_
                obtain ⟨x61, hx61, H⟩ := bnd H
                refine cx (spec_l15Rd_num_ok [0, 100, 1, 50] x36.2 _ hx61 e0  _ (pre 0 1 0 hF hX)) ?_
                rintro _ σ55 ⟨τ56, rfl, hT, hG⟩
                refine kp_intro (Fx.kept hT hG (by intro p hp; simp only [List.mem_cons, List.not_mem_nil, or_false] at hp <;> first | (rcases hp with rfl <;> (rw [hEq]; first | (refine EE.of ?_; simp; done) | exact EE.new rfl))| cases hp)) ?_
                obtain ⟨τ57, hX, hF⟩ := aft 0 1 0 hF hX hT hG
                have z := And.intro (hide_at (hF.at 0 rfl) n52) (And.intro (hide_at (hF.at 1 rfl) n53) (hide_at (hF.at 2 rfl) n54)); refine gh ?_
                refine apdK (g := cI) hF 0 H (rdo (c := true) (g := cI) (fun _ => rfl)) fun x63 H v58 σ59 hF => ?_
                have z := And.intro (hide_at (hF.at 0 rfl) n52) (And.intro (hide_at (hF.at 1 rfl) n53) (hide_at (hF.at 2 rfl) n54)); refine gh ?_
                refine st hF 0 (hF.cells 0 rfl) fun σ60 hF => ?_
                have z := And.intro (hide_at (hF.at 0 rfl) n52) (And.intro (hide_at (hF.at 1 rfl) n53) (hide_at (hF.at 2 rfl) n54)); refine gh ?_
                refine go ?_
                refine st hF 1 rfl fun σ61 hF => ?_
                refine go ?_
                have e := pur H; subst e
                exact rg [.agg [.int .i64 x8.kind, .str x8.name, .int .i64 x8.num, v58, v6]] ⟨_, rfl, hX, Fx.self _⟩
              · refine go ?_
                refine st hF 1 rfl fun σ62 hF => ?_
                refine go ?_
                have e := pur H; subst e
                exact rg [.agg [.int .i64 x8.kind, .str x8.name, .int .i64 x8.num, v5, v6]] ⟨_, rfl, hX, Fx.self _⟩
    · rw [if_neg (df q)] at H
      refine go ?_
      obtain ⟨x36_1, hx36_1, H⟩ := bnd H
      refine cx (spec_l15Rd_pick_ok 14 c0 _ hx36_1 e0  _ (pre 0 1 0 hF hX)) ?_
      rintro _ σ63 ⟨τ64, rfl, hT, hG⟩
      obtain ⟨τ65, hX, hF⟩ := aft 0 1 0 hF hX hT hG
      refine go ?_
      refine cdp H (fun h H => ?_) (fun h H => ?_)
      · refine go ?_
        obtain ⟨x41_1, hx41_1, H⟩ := bnd H
        refine cx (spec_l15Rd_num_ok [0, 4, 1, 3] x36_1.2 _ hx41_1 e0  _ (pre 0 1 0 hF hX)) ?_
        rintro _ σ66 ⟨τ67, rfl, hT, hG⟩
        obtain ⟨τ68, hX, hF⟩ := aft 0 1 0 hF hX hT hG
        refine go ?_
        refine st hF 0 rfl fun σ69 hF => ?_
        refine go ?_
        refine st hF 1 rfl fun σ70 hF => ?_
        refine go ?_
        have e := pur H; subst e
        exact rg [.agg [.int .i64 x41_1.1, .str x8.name, .int .i64 x8.num, v5, v6]] ⟨_, rfl, hX, Fx.self _⟩
      · refine go ?_
        refine cdp H (fun h H => ?_) (fun h H => ?_)
        · refine go ?_
          obtain ⟨x47_1, hx47_1, H⟩ := bnd H
          refine cx (spec_l15Rd_of_ok [(ByteArray.mk #[]), (ByteArray.mk #[65]), (ByteArray.mk #[116, 111, 111, 108, 111, 110, 103, 97, 110, 97, 109, 101, 49]), (ByteArray.mk #[122]), (ByteArray.mk #[120, 32, 121])] x36_1.2 _ hx47_1 e0  _ (pre 0 1 0 hF hX)) ?_
          rintro _ σ71 ⟨τ72, rfl, hT, hG⟩
          obtain ⟨τ73, hX, hF⟩ := aft 0 1 0 hF hX hT hG
          refine go ?_
          refine st hF 0 rfl fun σ74 hF => ?_
          refine go ?_
          refine st hF 1 rfl fun σ75 hF => ?_
          refine go ?_
          have e := pur H; subst e
          exact rg [.agg [.int .i64 x8.kind, .str x47_1.1, .int .i64 x8.num, v5, v6]] ⟨_, rfl, hX, Fx.self _⟩
        · refine go ?_
          refine cdp H (fun h H => ?_) (fun h H => ?_)
          · refine go ?_
            obtain ⟨x53_1, hx53_1, H⟩ := bnd H
            refine cx (spec_l15Rd_num_ok [1000, -1, 5] x36_1.2 _ hx53_1 e0  _ (pre 0 1 0 hF hX)) ?_
            rintro _ σ76 ⟨τ77, rfl, hT, hG⟩
            obtain ⟨τ78, hX, hF⟩ := aft 0 1 0 hF hX hT hG
            refine go ?_
            refine st hF 0 rfl fun σ79 hF => ?_
            refine go ?_
            refine st hF 1 rfl fun σ80 hF => ?_
            refine go ?_
            have e := pur H; subst e
            exact rg [.agg [.int .i64 x8.kind, .str x8.name, .int .i64 x53_1.1, v5, v6]] ⟨_, rfl, hX, Fx.self _⟩
          · refine go ?_
            refine cdp H (fun h H => ?_) (fun h H => ?_)
            · refine go ?_
              obtain ⟨E, hEq⟩ : ∃ E, E = EE σ63 [e0] := ⟨_, rfl⟩
              have n81 : ¬ E b10 := by rw [hEq]; exact EE.not (hF.at 0 rfl) (by simp only [List.mem_cons, List.not_mem_nil, or_false, not_or]; exact neX hF 0 rfl hX 0 rfl)
              have n82 : ¬ E b3 := by rw [hEq]; exact EE.not (hF.at 1 rfl) (by simp only [List.mem_cons, List.not_mem_nil, or_false, not_or]; exact neX hF 1 rfl hX 0 rfl)
              have n83 : ¬ E b1 := by rw [hEq]; exact EE.not (hF.at 2 rfl) (by simp only [List.mem_cons, List.not_mem_nil, or_false, not_or]; exact neX hF 2 rfl hX 0 rfl)
              refine draw_text E [.v, .v, .v, .v, .x, .v, .x, .v, .z] (by kernel_rfl) ?_
              have z := And.intro (hide_at (hF.at 0 rfl) n81) (And.intro (hide_at (hF.at 1 rfl) n82) (hide_at (hF.at 2 rfl) n83)); refine gh ?_
              obtain ⟨x61_1, hx61_1, H⟩ := bnd H
              refine cx (spec_l15Rd_num_ok [0, 100, 1, 50] x36_1.2 _ hx61_1 e0  _ (pre 0 1 0 hF hX)) ?_
              rintro _ σ84 ⟨τ85, rfl, hT, hG⟩
              refine kp_intro (Fx.kept hT hG (by intro p hp; simp only [List.mem_cons, List.not_mem_nil, or_false] at hp <;> first | (rcases hp with rfl <;> (rw [hEq]; first | (refine EE.of ?_; simp; done) | exact EE.new rfl))| cases hp)) ?_
              obtain ⟨τ86, hX, hF⟩ := aft 0 1 0 hF hX hT hG
              have z := And.intro (hide_at (hF.at 0 rfl) n81) (And.intro (hide_at (hF.at 1 rfl) n82) (hide_at (hF.at 2 rfl) n83)); refine gh ?_
              refine apdK (g := cI) hF 0 H (rdo (c := true) (g := cI) (fun _ => rfl)) fun x63_1 H v87 σ88 hF => ?_
              have z := And.intro (hide_at (hF.at 0 rfl) n81) (And.intro (hide_at (hF.at 1 rfl) n82) (hide_at (hF.at 2 rfl) n83)); refine gh ?_
              refine st hF 0 (hF.cells 0 rfl) fun σ89 hF => ?_
              have z := And.intro (hide_at (hF.at 0 rfl) n81) (And.intro (hide_at (hF.at 1 rfl) n82) (hide_at (hF.at 2 rfl) n83)); refine gh ?_
              refine go ?_
              refine st hF 1 rfl fun σ90 hF => ?_
              refine go ?_
              have e := pur H; subst e
              exact rg [.agg [.int .i64 x8.kind, .str x8.name, .int .i64 x8.num, v87, v6]] ⟨_, rfl, hX, Fx.self _⟩
            · refine go ?_
              refine st hF 1 rfl fun σ91 hF => ?_
              refine go ?_
              have e := pur H; subst e
              exact rg [.agg [.int .i64 x8.kind, .str x8.name, .int .i64 x8.num, v5, v6]] ⟨_, rfl, hX, Fx.self _⟩
theorem spec_l9Case_ok : ∀ (a0 : List Int) r, spec_l9Case a0 = some r → PCtr Tryd.prog 61 [.sl false (rws cU a0)] (.tup [.agg (Fm.cells r.1), .int .i64 r.2]) := by
  intro a0 r H
  intro σ
  unfold spec_l9Case at H
  refine ctr_of mixed Tryd.func61 rfl (by kernel_rfl) (rs := [.cell 2 30, .tmp 3]) rfl (by kernel_rfl) ?_
  have hF := Fx.refl σ
  have hX := Tau.none σ
  have q := dum
  have tT := dum
  refine go ?_
  refine fx_alloc hF rfl fun b1 σ2 hF => ?_
  refine go ?_
  obtain ⟨x7, hx7, H⟩ := bnd H
  refine cx (spec_l15Open_ok a0 _ hx7   _ (pre 0 0 0 hF hX)) ?_
  rintro _ σ4 ⟨τ5, b3, rfl, hT, hG⟩
  have nw7 : σ2.var b3 = none := (hT.off b3 (by simp)).symm.trans (hG.var _ (List.mem_cons_self ..)).2.1
  have hF := aftP 0 0 hF hX hT hG
  refine go ?_
  obtain ⟨x9, hx9, H⟩ := bnd H
  refine cx (spec_l9Draw_ok x7 _ hx9 b3  _ (pre 1 0 0 hF hX)) ?_
  rintro _ σ8 ⟨τ9, rfl, hT, hG⟩
  have hF := aftP 1 0 hF hX hT hG
  refine go ?_
  refine fx_alloc hF rfl fun b11 σ12 hF => ?_
  refine go ?_
  refine st hF 0 rfl fun σ13 hF => ?_
  refine go ?_
  have hF := pck hF [1, 0, 2] []
  obtain ⟨x11, hx11, H⟩ := bnd H
  refine cx (spec_l15Rd_pick_ok 16 x9.2 _ hx11 b3  _ (pre 1 0 0 hF hX)) ?_
  rintro _ σ14 ⟨τ15, rfl, hT, hG⟩
  have hF := aftP 1 0 hF hX hT hG
  refine go ?_
  obtain ⟨⟨y17c_1_0, y17c_1_1, y17c_1_2, y17c_1_3, y17c_1_4, y17c_2_0, y17c_2_1⟩, j18, H⟩ := bnd H
  refine aCnd_join (fun s' => ∃ (T : Nat → AV) (σ1 : Sto), s' = ⟨T, σ1⟩ ∧ (T 2 = .ptr b1 0 ∧ T 3 = .int .i64 0 ∧ T 4 = .ptr b3 0 ∧ T 5 = .ptr b11 0) ∧ Fx σ σ1 [(b3, ⟨123, 2, [.sl false (rws cU y17c_2_0), .int .i64 y17c_2_1]⟩), (b11, ⟨30, 5, [.int .i64 y17c_1_0, .str y17c_1_1, .int .i64 y17c_1_2, .sl false (rws cI y17c_1_3), .sl false (rws Fm.cells y17c_1_4)]⟩), (b1, ⟨30, 5, [.int .i64 0, .str (ByteArray.mk #[]), .int .i64 0, .nilsl, .nilsl]⟩)] []) (cdp j18 (fun h j18 => ?_) (fun h j18 => ?_)) ?_
  · refine go ?_
    obtain ⟨x16, hx16, j18⟩ := bnd j18
    refine cx (spec_l1Mutate_ok x9.1 x11.2 _ hx16 b3  _ (pre 1 0 0 hF hX)) ?_
    rintro _ σ19 ⟨τ20, rfl, hT, hG⟩
    have hF := aftP 1 0 hF hX hT hG
    refine go ?_
    obtain ⟨x17, hx17, j18⟩ := bnd j18
    refine cx (spec_l1Mutate_ok x16.1 x16.2 _ hx17 b3  _ (pre 1 0 0 hF hX)) ?_
    rintro _ σ22 ⟨τ23, rfl, hT, hG⟩
    have hF := aftP 1 0 hF hX hT hG
    refine go ?_
    refine st hF 1 rfl fun σ25 hF => ?_
    refine go ?_
    have e := pur j18
    injection e with e0 e
    injection e with e1 e
    injection e with e2 e
    injection e with e3 e
    injection e with e4 e
    injection e with e5 e
    subst e0
    subst e1
    subst e2
    subst e3
    subst e4
    subst e5
    subst e
    exact ⟨_, _, rfl, S, hF⟩
  · refine go ?_
    have e := pur j18
    injection e with e0 e
    injection e with e1 e
    injection e with e2 e
    injection e with e3 e
    injection e with e4 e
    injection e with e5 e
    subst e0
    subst e1
    subst e2
    subst e3
    subst e4
    subst e5
    subst e
    exact ⟨_, _, rfl, S, hF⟩
  · rintro s' ⟨T26, σ27, rfl, tT, hF⟩
    refine go ?_
    obtain ⟨E, hEq⟩ : ∃ E, E = EE σ27 [b3, b1] := ⟨_, rfl⟩
    have n29 : ¬ E b11 := by rw [hEq]; exact EE.not (hF.at 1 rfl) (by simp only [List.mem_cons, List.not_mem_nil, or_false, not_or]; exact ⟨neL hF 1 0 rfl rfl (by decide), neL hF 1 2 rfl rfl (by decide)⟩)
    refine draw_text E [.v, .v, .v, .x, .x, .v] (by kernel_rfl) ?_
    have z := hide_at (hF.at 1 rfl) n29; refine gh ?_
    obtain ⟨x21, hx21, H⟩ := bnd H
    refine cx (spec_l15Rd_num_ok [20, 10, 60, 3, 0, 61] (Rdr.mk y17c_2_0 y17c_2_1) _ hx21 b3  _ (pre 1 0 0 hF hX)) ?_
    rintro _ σ30 ⟨τ31, rfl, hT, hG⟩
    refine kp_intro (Fx.kept hT hG (by intro p hp; simp only [List.mem_cons, List.not_mem_nil, or_false] at hp <;> first | (rcases hp with rfl <;> (rw [hEq]; first | (refine EE.of ?_; simp; done) | exact EE.new nw7))| cases hp)) ?_
    have hF := aftP 1 0 hF hX hT hG
    have z := hide_at (hF.at 1 rfl) n29; refine gh ?_
    refine stK hF 2 (by rw [hEq]; exact EE.of (by simp)) rfl fun σ33 hF => ?_
    have z := hide_at (hF.at 1 rfl) n29; refine gh ?_
    refine go ?_
    have e := pur H; subst e
    exact rt [.agg [.int .i64 y17c_1_0, .str y17c_1_1, .int .i64 y17c_1_2, .sl false (rws cI y17c_1_3), .sl false (rws Fm.cells y17c_1_4)], .int .i64 x21.1]
theorem spec_DrawFreshName_ok : ∀ (a0 : List Int) r, spec_DrawFreshName a0 = some r → PCtr Tryd.prog 25 [.sl false (rws cU a0)] (.agg (Fm.cells r)) := by
  intro a0 r H
  intro σ
  unfold spec_DrawFreshName at H
  refine ctr_of mixed Tryd.func25 rfl (by kernel_rfl) (rs := [.cell 2 30]) rfl (by kernel_rfl) ?_
  have hF := Fx.refl σ
  have hX := Tau.none σ
  have q := dum
  have tT := dum
  refine go ?_
  refine fx_alloc hF rfl fun b1 σ2 hF => ?_
  refine go ?_
  obtain ⟨x7, hx7, H⟩ := bnd H
  refine cx (spec_l15Open_ok a0 _ hx7   _ (pre 0 0 0 hF hX)) ?_
  rintro _ σ4 ⟨τ5, b3, rfl, hT, hG⟩
  have nw7 : σ2.var b3 = none := (hT.off b3 (by simp)).symm.trans (hG.var _ (List.mem_cons_self ..)).2.1
  have hF := aftP 0 0 hF hX hT hG
  refine go ?_
  obtain ⟨x10, hx10, H⟩ := bnd H
  refine cl (spec_l9Case_ok a0 _ hx10) ?_
  refine go ?_
  refine fx_alloc hF rfl fun b8 σ9 hF => ?_
  refine go ?_
  refine st hF 0 rfl fun σ10 hF => ?_
  refine go ?_
  have hF := pck hF [1, 0, 2] []
  obtain ⟨x14, hx14, H⟩ := bnd H
  refine cx (spec_l15Rd_pick_ok 3 x7 _ hx14 b3  _ (pre 1 0 0 hF hX)) ?_
  rintro _ σ11 ⟨τ12, rfl, hT, hG⟩
  have hF := aftP 1 0 hF hX hT hG
  refine go ?_
  refine cdp H (fun h H => ?_) (fun h H => ?_)
  · refine go ?_
    obtain ⟨E, hEq⟩ : ∃ E, E = EE σ11 [b3] := ⟨_, rfl⟩
    have n14 : ¬ E b8 := by rw [hEq]; exact EE.not (hF.at 1 rfl) (by simp only [List.mem_cons, List.not_mem_nil, or_false, not_or]; exact neL hF 1 0 rfl rfl (by decide))
    have n15 : ¬ E b1 := by rw [hEq]; exact EE.not (hF.at 2 rfl) (by simp only [List.mem_cons, List.not_mem_nil, or_false, not_or]; exact neL hF 2 0 rfl rfl (by decide))
    refine draw_text E [.v, .v, .v, .v, .x, .v, .v, .v, .z] (by kernel_rfl) ?_
    have z := And.intro (hide_at (hF.at 1 rfl) n14) (hide_at (hF.at 2 rfl) n15); refine gh ?_
    obtain ⟨x17, hx17, H⟩ := bnd H
    refine cv (spec_l1Name_ok (ByteArray.mk #[102, 114, 101, 115, 104, 48]) _ hx17) ?_
    have z := And.intro (hide_at (hF.at 1 rfl) n14) (hide_at (hF.at 2 rfl) n15); refine gh ?_
    obtain ⟨x20, hx20, H⟩ := bnd H
    refine cx (spec_l15Rd_of_ok [(ByteArray.mk #[102, 114, 101, 115, 104, 49]), (ByteArray.mk #[102, 114, 101, 115, 104, 50])] x14.2 _ hx20 b3  _ (pre 1 0 0 hF hX)) ?_
    rintro _ σ16 ⟨τ17, rfl, hT, hG⟩
    refine kp_intro (Fx.kept hT hG (by intro p hp; simp only [List.mem_cons, List.not_mem_nil, or_false] at hp <;> first | (rcases hp with rfl <;> (rw [hEq]; first | (refine EE.of ?_; simp; done) | exact EE.new nw7))| cases hp)) ?_
    have hF := aftP 1 0 hF hX hT hG
    have z := And.intro (hide_at (hF.at 1 rfl) n14) (hide_at (hF.at 2 rfl) n15); refine gh ?_
    obtain ⟨x21, hx21, H⟩ := bnd H
    refine cv (spec_l1Name_ok x20.1 _ hx21) ?_
    have z := And.intro (hide_at (hF.at 1 rfl) n14) (hide_at (hF.at 2 rfl) n15); refine gh ?_
    obtain ⟨x23, hx23, H⟩ := bnd H
    refine cv (spec_l1List_ok [x10.1, x17, x21] _ hx23) ?_
    have z := And.intro (hide_at (hF.at 1 rfl) n14) (hide_at (hF.at 2 rfl) n15); refine gh ?_
    refine st hF 2 rfl fun σ19 hF => ?_
    have z := And.intro (hide_at (hF.at 1 rfl) n14) (hide_at (hF.at 2 rfl) n15); refine gh ?_
    refine go ?_
    have e := pur H; subst e
    exact rt [.agg [.int .i64 x23.kind, .str x23.name, .int .i64 x23.num, .sl false (rws cI x23.sc), .sl false (rws Fm.cells x23.kids)]]
  · refine go ?_
    refine st hF 2 rfl fun σ20 hF => ?_
    refine go ?_
    have e := pur H; subst e
    exact rt [.agg [.int .i64 x10.1.kind, .str x10.1.name, .int .i64 x10.1.num, .sl false (rws cI x10.1.sc), .sl false (rws Fm.cells x10.1.kids)]]
theorem slices_Index_string_string_l0_ok : ∀ (a0 : List ByteArray) (a1 : ByteArray) (z0t_8 : Int) out, slices_Index_string_string_l0 a0 a1 z0t_8 = some out → ∀ c, loopAt Tryd.f73 0 = some c → ∀ (Q : AX → AS → Prop) (τ : Sto), (∀ (_u : Unit), out = Sum.inr () → ∀ (T : Nat → AV) (σ : Sto), T 4 = .int .i64 0 → Fx τ σ [] [] → Q (.ex 0) ⟨T, σ⟩) → (∀ r, out = Sum.inl r → ∀ s', aRet Tryd.prog [.tmp 4] (fun r' σ' => r' = .int .i64 r ∧ σ' = τ) s' → Q .ret s') → ∀ (T : Nat → AV) (σ : Sto), T 0 = .sl false (rws cS a0) ∧ T 1 = .str a1 ∧ T 4 = .int .i64 0 ∧ T 7 = .int .i64 (a0.length : Int) ∧ T 8 = .int .i64 z0t_8 → Fx τ σ [] [] → aLoop (acode Tryd.prog c) Q ⟨T, σ⟩ := by
  intro a0 a1 z0t_8
  revert z0t_8
  refine slices_Index_string_string_l0.partial_correctness a0 a1 _ ?_
  intro slices_Index_string_string_l0 IH z0t_8 out H c hc Q τ  hE hR T σ tT hF
  obtain rfl := Option.some.inj ((rfl : loopAt Tryd.f73 0 = some _).symm.trans hc)
  refine aLoop_round ?_
  have q := dum
  have hX := Tau.none τ
  refine go ?_
  refine cdp H (fun h H => ?_) (fun h H => ?_)
  · obtain ⟨x14, f1, H⟩ := bil (g := cS) (fun _ => rfl) H
    refine go1 ?_
    refine go ?_
    refine cdp H (fun h H => ?_) (fun h H => ?_)
    · refine go ?_
      exact hR _ (pur H).symm _ (rt [.int .i64 z0t_8])
    · refine go ?_
      exact IH  (IntKind.i64.wrap (z0t_8 + 1)) _ H _ rfl Q τ  hE hR _ _  S hF
  · refine go ?_
    exact hE () (pur H).symm _ _  S hF
theorem slices_Index_string_string_ok : ∀ (a0 : List ByteArray) (a1 : ByteArray) r, slices_Index_string_string a0 a1 = some r → PCtr Tryd.prog 73 [.sl false (rws cS a0), .str a1] (.int .i64 r) := by
  intro a0 a1 r H
  intro σ
  unfold slices_Index_string_string at H
  refine ctr_of mixed Tryd.func73 rfl (by kernel_rfl) (rs := [.tmp 4]) rfl (by kernel_rfl) ?_
  have hF := Fx.refl σ
  have hX := Tau.none σ
  have q := dum
  have tT := dum
  refine go ?_
  obtain ⟨o1, ho1, H⟩ := bnd H
  refine slices_Index_string_string_l0_ok a0 a1 0 _ ho1 _ rfl _ _  ?_ ?_ _ _  S hF
  · intro _ he T3 σ4 tT hF
    have he := he.symm
    subst he
    dsimp only at H
    refine go ?_
    have e := pur H; subst e
    exact rt [.int .i64 (-1)]
  · intro r hr s' hs
    subst hr
    have e := pur H; subst e
    first | exact hs | (try simp only [Fm.cells_eq] at hs ⊢; exact hs)
theorem slices_Contains_string_string_ok : ∀ (a0 : List ByteArray) (a1 : ByteArray) r, slices_Contains_string_string a0 a1 = some r → PCtr Tryd.prog 38 [.sl false (rws cS a0), .str a1] (.bool r) := by
  intro a0 a1 r H
  intro σ
  unfold slices_Contains_string_string at H
  refine ctr_of mixed Tryd.func38 rfl (by kernel_rfl) (rs := [.tmp 4]) rfl (by kernel_rfl) ?_
  have hF := Fx.refl σ
  have hX := Tau.none σ
  have q := dum
  have tT := dum
  refine go ?_
  obtain ⟨x7, hx7, H⟩ := bnd H
  refine cl (slices_Index_string_string_ok a0 a1 _ hx7) ?_
  refine go ?_
  have e := pur H; subst e
  exact rt [.bool (decide (x7 ≥ 0))]
theorem impl_NamesOf_c1_ok : ∀ (a0 : Fm) (c0 : List ByteArray) r, impl_NamesOf_c1 a0 c0 = some r → ∀ (e0 : Nat) (o0_0 : AV) (σ : Sto), Pre σ [(e0, ⟨66, 1, [o0_0]⟩)] [⟨o0_0, 9, 1, rws cS c0⟩] → Ctr Tryd.prog 71 [.agg (Fm.cells a0), .ptr e0 0] σ (fun r' σ' => ∃ (τ' : Sto) (u0_0 : AV), r' = .tup [] ∧ Tau (strip σ [⟨o0_0, 9, 1, rws cS c0⟩]) [(e0, ⟨66, 1, [u0_0]⟩)] τ' ∧ Fx τ' σ' [] [⟨u0_0, 9, 1, rws cS r⟩]) := by
  intro a0 c0 r H
  intro e0 o0_0 σ hP
  unfold impl_NamesOf_c1 at H
  refine ctr_of mixed Tryd.func71 rfl (by kernel_rfl) (rs := []) rfl (by kernel_rfl) ?_
  obtain ⟨hF, hX⟩ := hP.start
  generalize strip σ [⟨o0_0, 9, 1, rws cS c0⟩] = τ0 at hF hX ⊢
  have q := dum
  have tT := dum
  refine go ?_
  refine fx_alloc hF rfl fun b1 σ2 hF => ?_
  refine go ?_
  obtain ⟨x12, g3, H⟩ := bnd H
  refine aGd_cutN 5 7 12 (.bool x12) (gi q (fun q => ?_) (fun q => ?_)) (fun J => ?_)
  · rw [if_pos (dt q)] at g3
    refine go ?_
    obtain ⟨x10, hx10, g3⟩ := bnd g3
    refine aCall_flat (slices_Contains_string_string_ok c0 a0.name _ hx10) .bool (.cons ((hF.wk 0 rfl).trans (Wk.sub (Sub.zero _) _)) (fun _ => rfl) (.cons (Wk.sub (Sub.zero _) _) id .nil)) ?_
    refine go ?_
    exact cutd 7 g3
  · rw [if_neg (df q)] at g3
    refine go ?_
    exact cutd 7 g3
  refine go ?_
  refine cdb H (fun h H => ?_) (fun h H => ?_)
  · refine go ?_
    refine apd (g := cS) hF 0 H (rdo (c := true) (g := cS) (fun _ => rfl)) fun x17 H v5 σ6 hF => ?_
    refine go ?_
    refine stT hF hX 0 (hF.cells 0 rfl) fun τ8 σ7 hF hX => ?_
    refine go ?_
    have e := pur H; subst e
    exact rg [] ⟨_, _, rfl, hX, hF.pick [] [0] (by decide) (by decide)⟩
  · refine go ?_
    have e := pur H; subst e
    exact rg [] ⟨_, _, rfl, hX, hF.pick [] [0] (by decide) (by decide)⟩
theorem impl_eachForm__impl_NamesOf_c1_ok : ∀ (a0 : Fm) (c0 : List ByteArray) r, impl_eachForm__impl_NamesOf_c1 a0 c0 = some r → ∀ (e0 : Nat) (o0_0 : AV) (σ : Sto), Pre σ [(e0, ⟨66, 1, [o0_0]⟩)] [⟨o0_0, 9, 1, rws cS c0⟩] → Ctr Tryd.prog 66 [.agg (Fm.cells a0), .fn 71 [.ptr e0 0]] σ (fun r' σ' => ∃ (τ' : Sto) (u0_0 : AV), r' = .tup [] ∧ Tau (strip σ [⟨o0_0, 9, 1, rws cS c0⟩]) [(e0, ⟨66, 1, [u0_0]⟩)] τ' ∧ Fx τ' σ' [] [⟨u0_0, 9, 1, rws cS r⟩]) := by
  refine impl_eachForm__impl_NamesOf_c1.partial_correctness  (motive_1 := fun a0 c0 r => ∀ (e0 : Nat) (o0_0 : AV) (σ : Sto), Pre σ [(e0, ⟨66, 1, [o0_0]⟩)] [⟨o0_0, 9, 1, rws cS c0⟩] → Ctr Tryd.prog 66 [.agg (Fm.cells a0), .fn 71 [.ptr e0 0]] σ (fun r' σ' => ∃ (τ' : Sto) (u0_0 : AV), r' = .tup [] ∧ Tau (strip σ [⟨o0_0, 9, 1, rws cS c0⟩]) [(e0, ⟨66, 1, [u0_0]⟩)] τ' ∧ Fx τ' σ' [] [⟨u0_0, 9, 1, rws cS r⟩])) (motive_2 := fun a0 z0o_0 z0t_12 out => ∀ c, loopAt Tryd.f66 0 = some c → ∀ (Q : AX → AS → Prop) (τ0 : Sto) (e0 : Nat) (b1 : Nat), (∀ (e0o_0 : List ByteArray), out = e0o_0 → ∀ (T : Nat → AV) (σ : Sto) (τ : Sto) (e0v0 : AV), 0 + 0 = 0 → Tau τ0 [(e0, ⟨66, 1, [e0v0]⟩)] τ → Fx τ σ [(b1, ⟨30, 5, [.int .i64 a0.kind, .str a0.name, .int .i64 a0.num, .sl false (rws cI a0.sc), .sl false (rws Fm.cells a0.kids)]⟩)] [⟨e0v0, 9, 1, rws cS e0o_0⟩] → Q (.ex 0) ⟨T, σ⟩) → True → ∀ (T : Nat → AV) (σ : Sto) (τ : Sto) (z0v0 : AV), T 1 = .fn 71 [.ptr e0 0] ∧ T 10 = .sl false (rws Fm.cells a0.kids) ∧ T 11 = .int .i64 (a0.kids.length : Int) ∧ T 12 = .int .i64 z0t_12 → Tau τ0 [(e0, ⟨66, 1, [z0v0]⟩)] τ → Fx τ σ [(b1, ⟨30, 5, [.int .i64 a0.kind, .str a0.name, .int .i64 a0.num, .sl false (rws cI a0.sc), .sl false (rws Fm.cells a0.kids)]⟩)] [⟨z0v0, 9, 1, rws cS z0o_0⟩] → aLoop (acode Tryd.prog c) Q ⟨T, σ⟩) ?_ ?_
  · intro impl_eachForm__impl_NamesOf_c1_l0 L0 a0 c0 r H
    intro e0 o0_0 σ hP
    refine ctr_of mixed Tryd.func66 rfl (by kernel_rfl) (rs := []) rfl (by kernel_rfl) ?_
    obtain ⟨hF, hX⟩ := hP.start
    generalize strip σ [⟨o0_0, 9, 1, rws cS c0⟩] = τ0 at hF hX ⊢
    have q := dum
    have tT := dum
    refine go ?_
    refine fx_alloc hF rfl fun b1 σ2 hF => ?_
    refine go ?_
    obtain ⟨x8, hx8, H⟩ := bnd H
    refine cx (impl_NamesOf_c1_ok a0 c0 _ hx8 e0 o0_0 _ (pre 0 1 1 hF hX)) ?_
    rintro _ σ4 ⟨τ5, v3, rfl, hT, hG⟩
    obtain ⟨τ6, hX, hF⟩ := aft 0 1 1 hF hX hT hG
    refine go ?_
    obtain ⟨o14, ho14, H⟩ := bnd H
    refine L0 a0 x8 0 _ ho14 _ rfl _ τ0 e0 b1 ?_ ?_ _ _ _ v3 S hX hF
    · intro e15o_0 he T16 σ17 τ18 e15v0 tT hX hF
      have he := he.symm
      subst he
      refine go ?_
      have e := pur H; subst e
      exact rg [] ⟨_, _, rfl, hX, hF.pick [] [0] (by decide) (by decide)⟩
    · trivial
  · intro impl_eachForm__impl_NamesOf_c1 impl_eachForm__impl_NamesOf_c1_l0 C0 L0 a0 z0o_0 z0t_12 out H c hc Q τ0 e0 b1 hE hR T σ τ z0v0 tT hX hF
    obtain rfl := Option.some.inj ((rfl : loopAt Tryd.f66 0 = some _).symm.trans hc)
    refine aLoop_round ?_
    have q := dum
    refine go ?_
    refine cdp H (fun h H => ?_) (fun h H => ?_)
    · obtain ⟨x14, f1, H⟩ := bil (g := Fm.cells) Fm.cells_len H
      refine go1 ?_
      refine fx_alloc hF rfl fun b7 σ8 hF => ?_
      refine go ?_
      refine st hF 0 rfl fun σ9 hF => ?_
      refine go ?_
      obtain ⟨x18, hx18, H⟩ := bnd H
      refine cx (C0 x14 z0o_0 _ hx18 e0 z0v0 _ (pre 0 1 1 hF hX)) ?_
      rintro _ σ11 ⟨τ12, v10, rfl, hT, hG⟩
      obtain ⟨τ13, hX, hF⟩ := aft 0 1 1 hF hX hT hG
      refine go ?_
      exact L0 a0 x18 (IntKind.i64.wrap (z0t_12 + 1)) _ H _ rfl Q τ0 e0 b1 hE hR _ _ _ v10 S hX (hF.drop 1 0)
    · refine go ?_
      exact hE _ (pur H).symm _ _ _ z0v0 S hX hF
theorem impl_NamesOf_ok : ∀ (a0 : Fm) r, impl_NamesOf a0 = some r → PCtr Tryd.prog 29 [.agg (Fm.cells a0)] (.sl false (rws cS r)) := by
  intro a0 r H
  intro σ
  unfold impl_NamesOf at H
  refine ctr_of mixed Tryd.func29 rfl (by kernel_rfl) (rs := [.tmp 2]) rfl (by kernel_rfl) ?_
  have hF := Fx.refl σ
  have hX := Tau.none σ
  have q := dum
  have tT := dum
  refine go ?_
  refine fx_alloc hF rfl fun b1 σ2 hF => ?_
  refine go ?_
  refine fx_alloc hF rfl fun b3 σ4 hF => ?_
  refine go ?_
  refine st hF 0 rfl fun σ5 hF => ?_
  have hF := hF.lit 9 1 (rws cS []) rfl
  refine go ?_
  obtain ⟨x7, hx7, H⟩ := bnd H
  refine cx (impl_eachForm__impl_NamesOf_c1_ok a0 [] _ hx7 b3 (.sl true (rws cS [])) _ (pre 1 0 1 hF hX)) ?_
  rintro _ σ7 ⟨τ8, v6, rfl, hT, hG⟩
  have hF := aftP 1 1 hF hX hT hG
  refine go ?_
  have e := pur H; subst e
  exact rt [v6]
theorem strconv_Itoa_ok : ∀ (a0 : Int) r, strconv_Itoa a0 = some r → PCtr Tryd.prog 37 [.int .i64 a0] (.str r) := fun a0 r H =>
  itoa_pctr Tryd.func37 (by kernel_rfl) (by kernel_rfl) (by kernel_rfl) (fun n h0 h1 w ht => Tryd.strconv_Itoa n h0 h1 w ht) H
theorem impl_FreshName_l0_ok : ∀ (a0 : Fm) (x7 : List ByteArray) (z0t_4 : Int) out, impl_FreshName_l0 a0 x7 z0t_4 = some out → ∀ c, loopAt Tryd.f11 0 = some c → ∀ (Q : AX → AS → Prop) (τ : Sto) (b1 : Nat), (∀ (_u : Unit), out = Sum.inr () → ∀ (T : Nat → AV) (σ : Sto), T 2 = .str (ByteArray.mk #[]) → Fx τ σ [(b1, ⟨30, 5, [.int .i64 a0.kind, .str a0.name, .int .i64 a0.num, .sl false (rws cI a0.sc), .sl false (rws Fm.cells a0.kids)]⟩)] [] → Q (.ex 0) ⟨T, σ⟩) → (∀ r, out = Sum.inl r → ∀ s', aRet Tryd.prog [.tmp 2] (fun r' σ' => r' = .str r ∧ σ' = τ) s' → Q .ret s') → ∀ (T : Nat → AV) (σ : Sto), T 2 = .str (ByteArray.mk #[]) ∧ T 3 = .sl false (rws cS x7) ∧ T 4 = .int .i64 z0t_4 → Fx τ σ [(b1, ⟨30, 5, [.int .i64 a0.kind, .str a0.name, .int .i64 a0.num, .sl false (rws cI a0.sc), .sl false (rws Fm.cells a0.kids)]⟩)] [] → aLoop (acode Tryd.prog c) Q ⟨T, σ⟩ := by
  intro a0 x7 z0t_4
  revert z0t_4
  refine impl_FreshName_l0.partial_correctness a0 x7 _ ?_
  intro impl_FreshName_l0 IH z0t_4 out H c hc Q τ b1 hE hR T σ tT hF
  obtain rfl := Option.some.inj ((rfl : loopAt Tryd.f11 0 = some _).symm.trans hc)
  refine aLoop_round ?_
  have q := dum
  have hX := Tau.none τ
  refine go ?_
  refine cdp H (fun h H => ?_) (fun h H => ?_)
  · refine go ?_
    obtain ⟨x13, hx13, H⟩ := bnd H
    refine cl (strconv_Itoa_ok z0t_4 _ hx13) ?_
    obtain ⟨x14, f1, H⟩ := bsc H
    refine go1 ?_
    refine go ?_
    obtain ⟨x17, hx17, H⟩ := bnd H
    refine cl (slices_Contains_string_string_ok x7 x14 _ hx17) ?_
    refine go ?_
    refine cdb H (fun h H => ?_) (fun h H => ?_)
    · refine go ?_
      exact hR _ (pur H).symm _ (rt [.str x14])
    · refine go ?_
      exact IH  (IntKind.i64.wrap (z0t_4 + 1)) _ H _ rfl Q τ b1 hE hR _ _  S hF
  · refine go ?_
    exact hE () (pur H).symm _ _  S hF
theorem impl_FreshName_ok : ∀ (a0 : Fm) r, impl_FreshName a0 = some r → PCtr Tryd.prog 11 [.agg (Fm.cells a0)] (.str r) := by
  intro a0 r H
  intro σ
  unfold impl_FreshName at H
  refine ctr_of mixed Tryd.func11 rfl (by kernel_rfl) (rs := [.tmp 2]) rfl (by kernel_rfl) ?_
  have hF := Fx.refl σ
  have hX := Tau.none σ
  have q := dum
  have tT := dum
  refine go ?_
  refine fx_alloc hF rfl fun b1 σ2 hF => ?_
  refine go ?_
  obtain ⟨x7, hx7, H⟩ := bnd H
  refine cl (impl_NamesOf_ok a0 _ hx7) ?_
  refine go ?_
  obtain ⟨o3, ho3, H⟩ := bnd H
  refine impl_FreshName_l0_ok a0 x7 0 _ ho3 _ rfl _ _ b1 ?_ ?_ _ _  S hF
  · intro _ he T5 σ6 tT hF
    have he := he.symm
    subst he
    dsimp only at H
    refine go ?_
    have e := pur H; subst e
    exact rt [.str (ByteArray.mk #[])]
  · intro r hr s' hs
    subst hr
    have e := pur H; subst e
    first | exact hs | (try simp only [Fm.cells_eq] at hs ⊢; exact hs)
theorem spec_l1In_l0_ok : ∀ (a0 : List ByteArray) (a1 : ByteArray) (z0t_5 : Int) out, spec_l1In_l0 a0 a1 z0t_5 = some out → ∀ c, loopAt Tryd.f33 0 = some c → ∀ (Q : AX → AS → Prop) (τ : Sto), (∀ (_u : Unit), out = Sum.inr () → ∀ (T : Nat → AV) (σ : Sto), T 4 = .bool false → Fx τ σ [] [] → Q (.ex 0) ⟨T, σ⟩) → (∀ r, out = Sum.inl r → ∀ s', aRet Tryd.prog [.tmp 4] (fun r' σ' => r' = .bool r ∧ σ' = τ) s' → Q .ret s') → ∀ (T : Nat → AV) (σ : Sto), T 0 = .sl false (rws cS a0) ∧ T 1 = .str a1 ∧ T 4 = .bool false ∧ T 5 = .int .i64 z0t_5 → Fx τ σ [] [] → aLoop (acode Tryd.prog c) Q ⟨T, σ⟩ := by
  intro a0 a1 z0t_5
  revert z0t_5
  refine spec_l1In_l0.partial_correctness a0 a1 _ ?_
  intro spec_l1In_l0 IH z0t_5 out H c hc Q τ  hE hR T σ tT hF
  obtain rfl := Option.some.inj ((rfl : loopAt Tryd.f33 0 = some _).symm.trans hc)
  refine aLoop_round ?_
  have q := dum
  have hX := Tau.none τ
  refine go ?_
  refine cdp H (fun h H => ?_) (fun h H => ?_)
  · obtain ⟨x14, f1, H⟩ := bil (g := cS) (fun _ => rfl) H
    refine go1 ?_
    refine go ?_
    refine cdp H (fun h H => ?_) (fun h H => ?_)
    · refine go ?_
      exact hR _ (pur H).symm _ (rt [.bool true])
    · refine go ?_
      exact IH  (IntKind.i64.wrap (z0t_5 + 1)) _ H _ rfl Q τ  hE hR _ _  S hF
  · refine go ?_
    exact hE () (pur H).symm _ _  S hF
theorem spec_l1In_ok : ∀ (a0 : List ByteArray) (a1 : ByteArray) r, spec_l1In a0 a1 = some r → PCtr Tryd.prog 33 [.sl false (rws cS a0), .str a1] (.bool r) := by
  intro a0 a1 r H
  intro σ
  unfold spec_l1In at H
  refine ctr_of mixed Tryd.func33 rfl (by kernel_rfl) (rs := [.tmp 4]) rfl (by kernel_rfl) ?_
  have hF := Fx.refl σ
  have hX := Tau.none σ
  have q := dum
  have tT := dum
  refine go ?_
  obtain ⟨o1, ho1, H⟩ := bnd H
  refine spec_l1In_l0_ok a0 a1 0 _ ho1 _ rfl _ _  ?_ ?_ _ _  S hF
  · intro _ he T3 σ4 tT hF
    have he := he.symm
    subst he
    dsimp only at H
    refine go ?_
    have e := pur H; subst e
    exact rt [.bool false]
  · intro r hr s' hs
    subst hr
    have e := pur H; subst e
    first | exact hs | (try simp only [Fm.cells_eq] at hs ⊢; exact hs)
theorem spec_l1Names_o0_ok : ∀ (a0 : List ByteArray) (a1 : Fm) r, spec_l1Names_o0 a0 a1 = some r → ∀  (p0 : AV) (σ : Sto), Pre σ [] [⟨p0, 9, 1, rws cS a0⟩] → Ctr Tryd.prog 32 [p0, .agg (Fm.cells a1)] σ (fun r' σ' => ∃ (τ' : Sto) (w0 : AV), r' = w0 ∧ Tau (strip σ [⟨p0, 9, 1, rws cS a0⟩]) [] τ' ∧ Fx τ' σ' [] [⟨w0, 9, 1, rws cS r⟩]) := by
  refine spec_l1Names_o0.partial_correctness  (motive_1 := fun a0 a1 r => ∀  (p0 : AV) (σ : Sto), Pre σ [] [⟨p0, 9, 1, rws cS a0⟩] → Ctr Tryd.prog 32 [p0, .agg (Fm.cells a1)] σ (fun r' σ' => ∃ (τ' : Sto) (w0 : AV), r' = w0 ∧ Tau (strip σ [⟨p0, 9, 1, rws cS a0⟩]) [] τ' ∧ Fx τ' σ' [] [⟨w0, 9, 1, rws cS r⟩])) (motive_2 := fun a1 z0o_0 z0t_5 out => ∀ c, loopAt Tryd.f32 0 = some c → ∀ (Q : AX → AS → Prop) (τ0 : Sto) (b1 : Nat), (∀ (e0o_0 : List ByteArray), out = e0o_0 → ∀ (T : Nat → AV) (σ : Sto) (τ : Sto) (e0v0 : AV), T 0 = e0v0 ∧ T 4 = .nilsl → Tau τ0 [] τ → Fx τ σ [(b1, ⟨30, 5, [.int .i64 a1.kind, .str a1.name, .int .i64 a1.num, .sl false (rws cI a1.sc), .sl false (rws Fm.cells a1.kids)]⟩)] [⟨e0v0, 9, 1, rws cS e0o_0⟩] → Q (.ex 0) ⟨T, σ⟩) → True → ∀ (T : Nat → AV) (σ : Sto) (τ : Sto) (z0v0 : AV), T 0 = z0v0 ∧ T 3 = .ptr b1 0 ∧ T 4 = .nilsl ∧ T 5 = .int .i64 z0t_5 → Tau τ0 [] τ → Fx τ σ [(b1, ⟨30, 5, [.int .i64 a1.kind, .str a1.name, .int .i64 a1.num, .sl false (rws cI a1.sc), .sl false (rws Fm.cells a1.kids)]⟩)] [⟨z0v0, 9, 1, rws cS z0o_0⟩] → aLoop (acode Tryd.prog c) Q ⟨T, σ⟩) ?_ ?_
  · intro spec_l1Names_o0_l0 L0 a0 a1 r H
    intro  p0 σ hP
    refine ctr_of mixed Tryd.func32 rfl (by kernel_rfl) (rs := [.tmp 4]) rfl (by kernel_rfl) ?_
    obtain ⟨hF, hX⟩ := hP.start
    generalize strip σ [⟨p0, 9, 1, rws cS a0⟩] = τ0 at hF hX ⊢
    have q := dum
    have tT := dum
    refine go ?_
    refine fx_alloc hF rfl fun b1 σ2 hF => ?_
    refine go ?_
    obtain ⟨x15, g3, H⟩ := bnd H
    refine aGd_cutN 5 10 15 (.bool x15) (gi q (fun q => ?_) (fun q => ?_)) (fun J => ?_)
    · rw [if_pos (dt q)] at g3
      refine go ?_
      obtain ⟨x13, hx13, g3⟩ := bnd g3
      refine aCall_flat (spec_l1In_ok a0 a1.name _ hx13) .bool (.cons ((hF.wk 0 rfl).trans (Wk.sub (Sub.zero _) _)) (fun _ => rfl) (.cons (Wk.sub (Sub.zero _) _) id .nil)) ?_
      refine go ?_
      exact cutd 10 g3
    · rw [if_neg (df q)] at g3
      refine go ?_
      exact cutd 10 g3
    refine go ?_
    obtain ⟨y5o_0, j6, H⟩ := bnd H
    refine aCnd_join (fun s' => ∃ (T : Nat → AV) (σ1 : Sto) (τ1 : Sto) (y5v0 : AV), s' = ⟨T, σ1⟩ ∧ (T 0 = y5v0 ∧ T 3 = .ptr b1 0 ∧ T 4 = .nilsl) ∧ Tau τ0 [] τ1 ∧ Fx τ1 σ1 [(b1, ⟨30, 5, [.int .i64 a1.kind, .str a1.name, .int .i64 a1.num, .sl false (rws cI a1.sc), .sl false (rws Fm.cells a1.kids)]⟩)] [⟨y5v0, 9, 1, rws cS y5o_0⟩]) (cdb j6 (fun h j6 => ?_) (fun h j6 => ?_)) ?_
    · refine go ?_
      refine apd (g := cS) hF 0 j6 (rdo (c := true) (g := cS) (fun _ => rfl)) fun x20 j6 v7 σ8 hF => ?_
      refine go ?_
      have e := pur j6
      subst e
      exact ⟨_, _, _, v7, rfl, S, hX, hF⟩
    · refine go ?_
      have e := pur j6
      subst e
      exact ⟨_, _, _, p0, rfl, S, hX, hF⟩
    · rintro s' ⟨T9, σ10, τ11, y5v0, rfl, tT, hX, hF⟩
      refine go ?_
      obtain ⟨o16, ho16, H⟩ := bnd H
      refine L0 a1 y5o_0 0 _ ho16 _ rfl _ τ0 b1 ?_ ?_ _ _ _ y5v0 S hX hF
      · intro e17o_0 he T18 σ19 τ20 e17v0 tT hX hF
        have he := he.symm
        subst he
        refine go ?_
        have e := pur H; subst e
        exact rg [e17v0] ⟨_, _, rfl, hX, hF.pick [] [0] (by decide) (by decide)⟩
      · trivial
  · intro spec_l1Names_o0 spec_l1Names_o0_l0 C0 L0 a1 z0o_0 z0t_5 out H c hc Q τ0 b1 hE hR T σ τ z0v0 tT hX hF
    obtain rfl := Option.some.inj ((rfl : loopAt Tryd.f32 0 = some _).symm.trans hc)
    refine aLoop_round ?_
    have q := dum
    refine go ?_
    refine cdp H (fun h H => ?_) (fun h H => ?_)
    · obtain ⟨x32, f1, H⟩ := bil (g := Fm.cells) Fm.cells_len H
      refine go1 ?_
      obtain ⟨x34, hx34, H⟩ := bnd H
      refine cx (C0 z0o_0 x32 _ hx34  z0v0 _ (pre 0 0 1 hF hX)) ?_
      rintro v12 σ13 ⟨τ14, _, rfl, hT, hG⟩
      obtain ⟨τ15, hX, hF⟩ := aft 0 0 1 hF hX hT hG
      refine go ?_
      exact L0 a1 x34 (IntKind.i64.wrap (z0t_5 + 1)) _ H _ rfl Q τ0 b1 hE hR _ _ _ v12 S hX hF
    · refine go ?_
      exact hE _ (pur H).symm _ _ _ z0v0 S hX hF
theorem spec_l1Names_l0_ok : ∀ (a1 : Fm) (z0o_0 : List ByteArray) (z0t_5 : Int) out, spec_l1Names_l0 a1 z0o_0 z0t_5 = some out → ∀ c, loopAt Tryd.f32 0 = some c → ∀ (Q : AX → AS → Prop) (τ0 : Sto) (b1 : Nat), (∀ (e0o_0 : List ByteArray), out = e0o_0 → ∀ (T : Nat → AV) (σ : Sto) (τ : Sto) (e0v0 : AV), T 0 = e0v0 ∧ T 4 = .nilsl → Tau τ0 [] τ → Fx τ σ [(b1, ⟨30, 5, [.int .i64 a1.kind, .str a1.name, .int .i64 a1.num, .sl false (rws cI a1.sc), .sl false (rws Fm.cells a1.kids)]⟩)] [⟨e0v0, 9, 1, rws cS e0o_0⟩] → Q (.ex 0) ⟨T, σ⟩) → True → ∀ (T : Nat → AV) (σ : Sto) (τ : Sto) (z0v0 : AV), T 0 = z0v0 ∧ T 3 = .ptr b1 0 ∧ T 4 = .nilsl ∧ T 5 = .int .i64 z0t_5 → Tau τ0 [] τ → Fx τ σ [(b1, ⟨30, 5, [.int .i64 a1.kind, .str a1.name, .int .i64 a1.num, .sl false (rws cI a1.sc), .sl false (rws Fm.cells a1.kids)]⟩)] [⟨z0v0, 9, 1, rws cS z0o_0⟩] → aLoop (acode Tryd.prog c) Q ⟨T, σ⟩ := by
  intro a1 z0o_0 z0t_5
  revert z0o_0 z0t_5
  refine spec_l1Names_l0.partial_correctness a1 _ ?_
  intro spec_l1Names_l0 IH z0o_0 z0t_5 out H c hc Q τ0 b1 hE hR T σ τ z0v0 tT hX hF
  obtain rfl := Option.some.inj ((rfl : loopAt Tryd.f32 0 = some _).symm.trans hc)
  refine aLoop_round ?_
  have q := dum
  refine go ?_
  refine cdp H (fun h H => ?_) (fun h H => ?_)
  · obtain ⟨x32, f1, H⟩ := bil (g := Fm.cells) Fm.cells_len H
    refine go1 ?_
    obtain ⟨x34, hx34, H⟩ := bnd H
    refine cx (spec_l1Names_o0_ok z0o_0 x32 _ hx34  z0v0 _ (pre 0 0 1 hF hX)) ?_
    rintro v12 σ13 ⟨τ14, _, rfl, hT, hG⟩
    obtain ⟨τ15, hX, hF⟩ := aft 0 0 1 hF hX hT hG
    refine go ?_
    exact IH  x34 (IntKind.i64.wrap (z0t_5 + 1)) _ H _ rfl Q τ0 b1 hE hR _ _ _ v12 S hX hF
  · refine go ?_
    exact hE _ (pur H).symm _ _ _ z0v0 S hX hF
theorem spec_l1Names_ok : ∀ (a0 : List ByteArray) (a1 : Fm) r, spec_l1Names a0 a1 = some r → ∀  (p0 : AV) (σ : Sto), Pre σ [] [⟨p0, 9, 1, rws cS a0⟩] → Ctr Tryd.prog 32 [p0, .agg (Fm.cells a1)] σ (fun r' σ' => ∃ (τ' : Sto), r' = .sl false (rws cS r) ∧ Tau (strip σ [⟨p0, 9, 1, rws cS a0⟩]) [] τ' ∧ Fx τ' σ' [] []) := by
  intro a0 a1 r H
  intro  p0 σ hP
  unfold spec_l1Names at H
  refine ctr_of mixed Tryd.func32 rfl (by kernel_rfl) (rs := [.tmp 4]) rfl (by kernel_rfl) ?_
  obtain ⟨hF, hX⟩ := hP.start
  generalize strip σ [⟨p0, 9, 1, rws cS a0⟩] = τ0 at hF hX ⊢
  have q := dum
  have tT := dum
  refine go ?_
  refine fx_alloc hF rfl fun b1 σ2 hF => ?_
  refine go ?_
  obtain ⟨x15, g3, H⟩ := bnd H
  refine aGd_cutN 5 10 15 (.bool x15) (gi q (fun q => ?_) (fun q => ?_)) (fun J => ?_)
  · rw [if_pos (dt q)] at g3
    refine go ?_
    obtain ⟨x13, hx13, g3⟩ := bnd g3
    refine aCall_flat (spec_l1In_ok a0 a1.name _ hx13) .bool (.cons ((hF.wk 0 rfl).trans (Wk.sub (Sub.zero _) _)) (fun _ => rfl) (.cons (Wk.sub (Sub.zero _) _) id .nil)) ?_
    refine go ?_
    exact cutd 10 g3
  · rw [if_neg (df q)] at g3
    refine go ?_
    exact cutd 10 g3
  refine go ?_
  obtain ⟨y5o_0, j6, H⟩ := bnd H
  refine aCnd_join (fun s' => ∃ (T : Nat → AV) (σ1 : Sto) (τ1 : Sto) (y5v0 : AV), s' = ⟨T, σ1⟩ ∧ (T 0 = y5v0 ∧ T 3 = .ptr b1 0 ∧ T 4 = .nilsl) ∧ Tau τ0 [] τ1 ∧ Fx τ1 σ1 [(b1, ⟨30, 5, [.int .i64 a1.kind, .str a1.name, .int .i64 a1.num, .sl false (rws cI a1.sc), .sl false (rws Fm.cells a1.kids)]⟩)] [⟨y5v0, 9, 1, rws cS y5o_0⟩]) (cdb j6 (fun h j6 => ?_) (fun h j6 => ?_)) ?_
  · refine go ?_
    refine apd (g := cS) hF 0 j6 (rdo (c := true) (g := cS) (fun _ => rfl)) fun x20 j6 v7 σ8 hF => ?_
    refine go ?_
    have e := pur j6
    subst e
    exact ⟨_, _, _, v7, rfl, S, hX, hF⟩
  · refine go ?_
    have e := pur j6
    subst e
    exact ⟨_, _, _, p0, rfl, S, hX, hF⟩
  · rintro s' ⟨T9, σ10, τ11, y5v0, rfl, tT, hX, hF⟩
    refine go ?_
    obtain ⟨o16, ho16, H⟩ := bnd H
    refine spec_l1Names_l0_ok a1 y5o_0 0 _ ho16 _ rfl _ τ0 b1 ?_ ?_ _ _ _ y5v0 S hX hF
    · intro e17o_0 he T18 σ19 τ20 e17v0 tT hX hF
      have he := he.symm
      subst he
      refine go ?_
      have e := pur H; subst e
      exact rg [e17v0] ⟨_, rfl, hX, Fx.self _⟩
    · trivial
theorem spec_l15Dec_l0_ok : ∀ (z0t_0 : Int) (z0t_3 : ByteArray) out, spec_l15Dec_l0 z0t_0 z0t_3 = some out → ∀ c, loopAt Tryd.f34 0 = some c → ∀ (Q : AX → AS → Prop) (τ : Sto), (∀ (e0t_0 : Int) (e0t_3 : ByteArray), out = (e0t_0, e0t_3) → ∀ (T : Nat → AV) (σ : Sto), T 0 = .int .i64 e0t_0 ∧ T 2 = .str (ByteArray.mk #[]) ∧ T 3 = .str e0t_3 → Fx τ σ [] [] → Q (.ex 0) ⟨T, σ⟩) → True → ∀ (T : Nat → AV) (σ : Sto), T 0 = .int .i64 z0t_0 ∧ T 2 = .str (ByteArray.mk #[]) ∧ T 3 = .str z0t_3 → Fx τ σ [] [] → aLoop (acode Tryd.prog c) Q ⟨T, σ⟩ := by
  refine spec_l15Dec_l0.partial_correctness  _ ?_
  intro spec_l15Dec_l0 IH z0t_0 z0t_3 out H c hc Q τ  hE hR T σ tT hF
  obtain rfl := Option.some.inj ((rfl : loopAt Tryd.f34 0 = some _).symm.trans hc)
  refine aLoop_round ?_
  have q := dum
  have hX := Tau.none τ
  refine go ?_
  refine cdp H (fun h H => ?_) (fun h H => ?_)
  · obtain ⟨x21, f1, H⟩ := bsc H
    refine go1 ?_
    refine go ?_
    exact IH  (IntKind.i64.wrap (z0t_0.tdiv 10)) x21 _ H _ rfl Q τ  hE hR _ _  S hF
  · refine go ?_
    exact hE _ _ (pur H).symm _ _  S hF
theorem spec_l15Dec_ok : ∀ (a0 : Int) r, spec_l15Dec a0 = some r → PCtr Tryd.prog 34 [.int .i64 a0] (.str r) := by
  refine spec_l15Dec.partial_correctness  (motive := fun a0 r => PCtr Tryd.prog 34 [.int .i64 a0] (.str r)) ?_
  · intro spec_l15Dec C0 a0 r H
    intro σ
    refine ctr_of mixed Tryd.func34 rfl (by kernel_rfl) (rs := [.tmp 2]) rfl (by kernel_rfl) ?_
    have hF := Fx.refl σ
    have hX := Tau.none σ
    have q := dum
    have tT := dum
    refine go ?_
    refine cdp H (fun h H => ?_) (fun h H => ?_)
    · refine go ?_
      have e := pur H; subst e
      exact rt [.str (ByteArray.mk #[45, 57, 50, 50, 51, 51, 55, 50, 48, 51, 54, 56, 53, 52, 55, 55, 53, 56, 48, 56])]
    · refine go ?_
      refine cdp H (fun h H => ?_) (fun h H => ?_)
      · refine go ?_
        obtain ⟨x10, hx10, H⟩ := bnd H
        refine cl (C0 (IntKind.i64.wrap (0 - a0)) _ hx10) ?_
        obtain ⟨x11, f1, H⟩ := bsc H
        refine go1 ?_
        refine go ?_
        have e := pur H; subst e
        exact rt [.str x11]
      · refine go ?_
        obtain ⟨o1, ho1, H⟩ := bnd H
        refine spec_l15Dec_l0_ok  a0 (ByteArray.mk #[]) _ ho1 _ rfl _ _  ?_ ?_ _ _  S hF
        · intro e2t_0 e2t_3 he T3 σ4 tT hF
          have he := he.symm
          subst he
          dsimp only at H
          obtain ⟨x30, f1, H⟩ := bsc H
          refine go1 ?_
          refine go ?_
          have e := pur H; subst e
          exact rt [.str x30]
        · trivial
theorem spec_FreshName_l0_ok : ∀ (a0 : Fm) (x7 : List ByteArray) (z0t_4 : Int) out, spec_FreshName_l0 a0 x7 z0t_4 = some out → ∀ c, loopAt Tryd.f9 0 = some c → ∀ (Q : AX → AS → Prop) (τ : Sto) (b1 : Nat), (∀ (_u : Unit), out = Sum.inr () → ∀ (T : Nat → AV) (σ : Sto), T 2 = .str (ByteArray.mk #[]) → Fx τ σ [(b1, ⟨30, 5, [.int .i64 a0.kind, .str a0.name, .int .i64 a0.num, .sl false (rws cI a0.sc), .sl false (rws Fm.cells a0.kids)]⟩)] [] → Q (.ex 0) ⟨T, σ⟩) → (∀ r, out = Sum.inl r → ∀ s', aRet Tryd.prog [.tmp 2] (fun r' σ' => r' = .str r ∧ σ' = τ) s' → Q .ret s') → ∀ (T : Nat → AV) (σ : Sto), T 2 = .str (ByteArray.mk #[]) ∧ T 3 = .sl false (rws cS x7) ∧ T 4 = .int .i64 z0t_4 → Fx τ σ [(b1, ⟨30, 5, [.int .i64 a0.kind, .str a0.name, .int .i64 a0.num, .sl false (rws cI a0.sc), .sl false (rws Fm.cells a0.kids)]⟩)] [] → aLoop (acode Tryd.prog c) Q ⟨T, σ⟩ := by
  intro a0 x7 z0t_4
  revert z0t_4
  refine spec_FreshName_l0.partial_correctness a0 x7 _ ?_
  intro spec_FreshName_l0 IH z0t_4 out H c hc Q τ b1 hE hR T σ tT hF
  obtain rfl := Option.some.inj ((rfl : loopAt Tryd.f9 0 = some _).symm.trans hc)
  refine aLoop_round ?_
  have q := dum
  have hX := Tau.none τ
  refine go ?_
  refine cdp H (fun h H => ?_) (fun h H => ?_)
  · refine go ?_
    obtain ⟨x14, hx14, H⟩ := bnd H
    refine cl (spec_l15Dec_ok z0t_4 _ hx14) ?_
    obtain ⟨x15, f1, H⟩ := bsc H
    refine go1 ?_
    obtain ⟨x16, hx16, H⟩ := bnd H
    refine cl (spec_l1In_ok x7 x15 _ hx16) ?_
    refine go ?_
    refine cdb H (fun h H => ?_) (fun h H => ?_)
    · refine go ?_
      obtain ⟨x19, hx19, H⟩ := bnd H
      refine cl (spec_l15Dec_ok z0t_4 _ hx19) ?_
      obtain ⟨x20, f1, H⟩ := bsc H
      refine go1 ?_
      refine go ?_
      exact hR _ (pur H).symm _ (rt [.str x20])
    · refine go ?_
      exact IH  (IntKind.i64.wrap (z0t_4 + 1)) _ H _ rfl Q τ b1 hE hR _ _  S hF
  · refine go ?_
    exact hE () (pur H).symm _ _  S hF
theorem spec_FreshName_ok : ∀ (a0 : Fm) r, spec_FreshName a0 = some r → PCtr Tryd.prog 9 [.agg (Fm.cells a0)] (.str r) := by
  intro a0 r H
  intro σ
  unfold spec_FreshName at H
  refine ctr_of mixed Tryd.func9 rfl (by kernel_rfl) (rs := [.tmp 2]) rfl (by kernel_rfl) ?_
  have hF := Fx.refl σ
  have hX := Tau.none σ
  have q := dum
  have tT := dum
  refine go ?_
  refine fx_alloc hF rfl fun b1 σ2 hF => ?_
  have hF := hF.lit 9 1 (rws cS []) rfl
  refine go ?_
  obtain ⟨x7, hx7, H⟩ := bnd H
  refine cx (spec_l1Names_ok [] a0 _ hx7  (.sl true (rws cS [])) _ (pre 0 0 1 hF hX)) ?_
  rintro _ σ3 ⟨τ4, rfl, hT, hG⟩
  have hF := aftP 0 1 hF hX hT hG
  refine go ?_
  obtain ⟨o6, ho6, H⟩ := bnd H
  refine spec_FreshName_l0_ok a0 x7 0 _ ho6 _ rfl _ _ b1 ?_ ?_ _ _  S hF
  · intro _ he T8 σ9 tT hF
    have he := he.symm
    subst he
    dsimp only at H
    refine go ?_
    have e := pur H; subst e
    exact rt [.str (ByteArray.mk #[])]
  · intro r hr s' hs
    subst hr
    have e := pur H; subst e
    first | exact hs | (try simp only [Fm.cells_eq] at hs ⊢; exact hs)
theorem impl_named_ok : ∀ (a0 : Fm) (a1 : ByteArray) r, impl_named a0 a1 = some r → PCtr Tryd.prog 68 [.agg (Fm.cells a0), .str a1] (.bool r) := by
  intro a0 a1 r H
  intro σ
  unfold impl_named at H
  refine ctr_of mixed Tryd.func68 rfl (by kernel_rfl) (rs := [.tmp 4]) rfl (by kernel_rfl) ?_
  have hF := Fx.refl σ
  have hX := Tau.none σ
  have q := dum
  have tT := dum
  refine go ?_
  refine fx_alloc hF rfl fun b1 σ2 hF => ?_
  refine go ?_
  obtain ⟨x13, g3, H⟩ := bnd H
  refine aGd_cutN 4 9 13 (.bool x13) (gi q (fun q => ?_) (fun q => ?_)) (fun J => ?_)
  · refine go ?_
    exact cutd 9 g3
  · refine go ?_
    exact cutd 9 g3
  refine go ?_
  have e := pur H; subst e
  exact rt [.bool x13]
theorem impl_CountName_c1_ok : ∀ (a0 : Fm) (c0 : ByteArray) (c1 : Int) r, impl_CountName_c1 a0 c0 c1 = some r → ∀ (e0 : Nat) (e1 : Nat)  (σ : Sto), Pre σ [(e0, ⟨9, 1, [.str c0]⟩), (e1, ⟨3, 1, [.int .i64 c1]⟩)] [] → Ctr Tryd.prog 67 [.agg (Fm.cells a0), .ptr e0 0, .ptr e1 0] σ (fun r' σ' => ∃ (τ' : Sto), r' = .tup [] ∧ Tau (strip σ []) [(e0, ⟨9, 1, [.str c0]⟩), (e1, ⟨3, 1, [.int .i64 r]⟩)] τ' ∧ Fx τ' σ' [] []) := by
  intro a0 c0 c1 r H
  intro e0 e1  σ hP
  unfold impl_CountName_c1 at H
  refine ctr_of mixed Tryd.func67 rfl (by kernel_rfl) (rs := []) rfl (by kernel_rfl) ?_
  obtain ⟨hF, hX⟩ := hP.start
  generalize strip σ [] = τ0 at hF hX ⊢
  have q := dum
  have tT := dum
  refine go ?_
  refine fx_alloc hF rfl fun b1 σ2 hF => ?_
  refine go ?_
  obtain ⟨x6, hx6, H⟩ := bnd H
  refine cl (impl_named_ok a0 c0 _ hx6) ?_
  refine go ?_
  refine cdb H (fun h H => ?_) (fun h H => ?_)
  · refine go ?_
    refine stT hF hX 1 rfl fun τ4 σ3 hF hX => ?_
    refine go ?_
    have e := pur H; subst e
    exact rg [] ⟨_, rfl, hX, Fx.self _⟩
  · refine go ?_
    have e := pur H; subst e
    exact rg [] ⟨_, rfl, hX, Fx.self _⟩
theorem impl_eachForm__impl_CountName_c1_ok : ∀ (a0 : Fm) (c0 : ByteArray) (c1 : Int) r, impl_eachForm__impl_CountName_c1 a0 c0 c1 = some r → ∀ (e0 : Nat) (e1 : Nat)  (σ : Sto), Pre σ [(e0, ⟨9, 1, [.str c0]⟩), (e1, ⟨3, 1, [.int .i64 c1]⟩)] [] → Ctr Tryd.prog 66 [.agg (Fm.cells a0), .fn 67 [.ptr e0 0, .ptr e1 0]] σ (fun r' σ' => ∃ (τ' : Sto), r' = .tup [] ∧ Tau (strip σ []) [(e0, ⟨9, 1, [.str c0]⟩), (e1, ⟨3, 1, [.int .i64 r]⟩)] τ' ∧ Fx τ' σ' [] []) := by
  intro a0 c0 c1
  revert a0 c1
  refine impl_eachForm__impl_CountName_c1.partial_correctness c0 (motive_1 := fun a0 c1 r => ∀ (e0 : Nat) (e1 : Nat)  (σ : Sto), Pre σ [(e0, ⟨9, 1, [.str c0]⟩), (e1, ⟨3, 1, [.int .i64 c1]⟩)] [] → Ctr Tryd.prog 66 [.agg (Fm.cells a0), .fn 67 [.ptr e0 0, .ptr e1 0]] σ (fun r' σ' => ∃ (τ' : Sto), r' = .tup [] ∧ Tau (strip σ []) [(e0, ⟨9, 1, [.str c0]⟩), (e1, ⟨3, 1, [.int .i64 r]⟩)] τ' ∧ Fx τ' σ' [] [])) (motive_2 := fun a0 z0t_12 z0x_1_0 out => ∀ c, loopAt Tryd.f66 0 = some c → ∀ (Q : AX → AS → Prop) (τ0 : Sto) (e0 : Nat) (e1 : Nat) (b1 : Nat), (∀ (e0x_1_0 : Int), out = e0x_1_0 → ∀ (T : Nat → AV) (σ : Sto) (τ : Sto), 0 + 0 = 0 → Tau τ0 [(e0, ⟨9, 1, [.str c0]⟩), (e1, ⟨3, 1, [.int .i64 e0x_1_0]⟩)] τ → Fx τ σ [(b1, ⟨30, 5, [.int .i64 a0.kind, .str a0.name, .int .i64 a0.num, .sl false (rws cI a0.sc), .sl false (rws Fm.cells a0.kids)]⟩)] [] → Q (.ex 0) ⟨T, σ⟩) → True → ∀ (T : Nat → AV) (σ : Sto) (τ : Sto), T 1 = .fn 67 [.ptr e0 0, .ptr e1 0] ∧ T 10 = .sl false (rws Fm.cells a0.kids) ∧ T 11 = .int .i64 (a0.kids.length : Int) ∧ T 12 = .int .i64 z0t_12 → Tau τ0 [(e0, ⟨9, 1, [.str c0]⟩), (e1, ⟨3, 1, [.int .i64 z0x_1_0]⟩)] τ → Fx τ σ [(b1, ⟨30, 5, [.int .i64 a0.kind, .str a0.name, .int .i64 a0.num, .sl false (rws cI a0.sc), .sl false (rws Fm.cells a0.kids)]⟩)] [] → aLoop (acode Tryd.prog c) Q ⟨T, σ⟩) ?_ ?_
  · intro impl_eachForm__impl_CountName_c1_l0 L0 a0 c1 r H
    intro e0 e1  σ hP
    refine ctr_of mixed Tryd.func66 rfl (by kernel_rfl) (rs := []) rfl (by kernel_rfl) ?_
    obtain ⟨hF, hX⟩ := hP.start
    generalize strip σ [] = τ0 at hF hX ⊢
    have q := dum
    have tT := dum
    refine go ?_
    refine fx_alloc hF rfl fun b1 σ2 hF => ?_
    refine go ?_
    obtain ⟨x8, hx8, H⟩ := bnd H
    refine cx (impl_CountName_c1_ok a0 c0 c1 _ hx8 e0 e1  _ (pre 0 2 0 hF hX)) ?_
    rintro _ σ3 ⟨τ4, rfl, hT, hG⟩
    obtain ⟨τ5, hX, hF⟩ := aft 0 2 0 hF hX hT hG
    refine go ?_
    obtain ⟨o12, ho12, H⟩ := bnd H
    refine L0 a0 0 x8 _ ho12 _ rfl _ τ0 e0 e1 b1 ?_ ?_ _ _ _  S hX hF
    · intro e13x_1_0 he T14 σ15 τ16 tT hX hF
      have he := he.symm
      subst he
      refine go ?_
      have e := pur H; subst e
      exact rg [] ⟨_, rfl, hX, Fx.self _⟩
    · trivial
  · intro impl_eachForm__impl_CountName_c1 impl_eachForm__impl_CountName_c1_l0 C0 L0 a0 z0t_12 z0x_1_0 out H c hc Q τ0 e0 e1 b1 hE hR T σ τ tT hX hF
    obtain rfl := Option.some.inj ((rfl : loopAt Tryd.f66 0 = some _).symm.trans hc)
    refine aLoop_round ?_
    have q := dum
    refine go ?_
    refine cdp H (fun h H => ?_) (fun h H => ?_)
    · obtain ⟨x14, f1, H⟩ := bil (g := Fm.cells) Fm.cells_len H
      refine go1 ?_
      refine fx_alloc hF rfl fun b6 σ7 hF => ?_
      refine go ?_
      refine st hF 0 rfl fun σ8 hF => ?_
      refine go ?_
      obtain ⟨x18, hx18, H⟩ := bnd H
      refine cx (C0 x14 z0x_1_0 _ hx18 e0 e1  _ (pre 0 2 0 hF hX)) ?_
      rintro _ σ9 ⟨τ10, rfl, hT, hG⟩
      obtain ⟨τ11, hX, hF⟩ := aft 0 2 0 hF hX hT hG
      refine go ?_
      exact L0 a0 (IntKind.i64.wrap (z0t_12 + 1)) x18 _ H _ rfl Q τ0 e0 e1 b1 hE hR _ _ _  S hX (hF.drop 1 0)
    · refine go ?_
      exact hE _ (pur H).symm _ _ _  S hX hF
theorem impl_CountName_ok : ∀ (a0 : Fm) (a1 : ByteArray) r, impl_CountName a0 a1 = some r → PCtr Tryd.prog 26 [.agg (Fm.cells a0), .str a1] (.int .i64 r) := by
  intro a0 a1 r H
  intro σ
  unfold impl_CountName at H
  refine ctr_of mixed Tryd.func26 rfl (by kernel_rfl) (rs := [.tmp 4]) rfl (by kernel_rfl) ?_
  have hF := Fx.refl σ
  have hX := Tau.none σ
  have q := dum
  have tT := dum
  refine go ?_
  refine fx_alloc hF rfl fun b1 σ2 hF => ?_
  refine go ?_
  refine fx_alloc hF rfl fun b3 σ4 hF => ?_
  refine go ?_
  refine fx_alloc hF rfl fun b5 σ6 hF => ?_
  refine go ?_
  refine st hF 0 rfl fun σ7 hF => ?_
  refine go ?_
  have hF := pck hF [1, 0, 2] []
  obtain ⟨x8, hx8, H⟩ := bnd H
  refine cx (impl_eachForm__impl_CountName_c1_ok a0 a1 0 _ hx8 b3 b5  _ (pre 2 0 0 hF hX)) ?_
  rintro _ σ8 ⟨τ9, rfl, hT, hG⟩
  have hF := aftP 2 0 hF hX hT hG
  refine go ?_
  have e := pur H; subst e
  exact rt [.int .i64 x8]
set_option maxHeartbeats 1000000 in
set_option maxRecDepth 100000 in
theorem ib_lite (s : ByteArray) (c : Int) (w : World) :
    Calls Tryd.prog 88 #[.string s, .int .u8 c] w fun e w' => e = .returned (.int .i64 (Lib.indexByte s.data.toList c.toNat.toUInt8)) ∧ w' = w := by
  go_enter Tryd.func88, Tryd.ntmps88
  go_wp2
  rw [run_callFunc_extern Tryd.func99 (by kernel_rfl) (by kernel_rfl) (by kernel_rfl) (e := Extern.BytealgIndexByte.indexByte) (by kernel_rfl), Lib.run_indexByteString]
  simp only [Result.andThen]
  rw [Oper.upon_value]
  go_wp2
  go_ret
  exact ⟨rfl, rfl⟩
set_option maxHeartbeats 1000000 in
theorem ib_str (s : ByteArray) (c : Int) (w : World) :
    Calls Tryd.prog 69 #[.string s, .int .u8 c] w fun e w' => e = .returned (.int .i64 (Lib.indexByte s.data.toList c.toNat.toUInt8)) ∧ w' = w := by
  go_enter Tryd.func69, Tryd.ntmps69
  go_wp2_with (go_at_call 88; refine (ib_lite _ _ _).mono ?_; rintro e w' ⟨rfl, rfl⟩)
  go_ret
  exact ⟨rfl, rfl⟩
theorem ib_ctr {P : Program} {f : FuncId} {fn : Func} (hf : P.funcs[f]? = some fn) (hb : fn.body.isNone = false) (hn : (fn.name == "runtime.NumGoroutine") = false) {s : ByteArray} {c r : Int}
    (h : ∀ w, Calls P f #[.string s, .int .u8 c] w fun e w' => e = .returned (.int .i64 r) ∧ w' = w) : PCtr P f [.str s, .int .u8 c] (.int .i64 r) := by
  intro σ
  refine ⟨⟨fn, hf, hb, hn⟩, fun w cargs hsim htb hl hr => ?_⟩
  have h0 := hr 0 _ rfl
  have h1 := hr 1 _ rfl
  match cargs, hl with
  | [x, y], _ =>
    simp only [List.getD_cons_zero, List.getD_cons_succ] at h0 h1
    cases h0
    cases h1
    refine (h w).mono ?_
    rintro e w' ⟨rfl, rfl⟩
    exact ⟨_, _, σ, rfl, Step.refl _ _, hsim, .int, rfl, rfl⟩
theorem strings_IndexByte_ok : ∀ (a0 : ByteArray) (a1 : Int) r, strings_IndexByte a0 a1 = some r → PCtr Tryd.prog 69 [.str a0, .int .u8 a1] (.int .i64 r) := by
  intro a0 a1 r H
  injection H with H
  subst H
  exact ib_ctr Tryd.func69 (by kernel_rfl) (by kernel_rfl) (ib_str a0 a1)
theorem impl_within_ok : ∀ (a0 : Int) (a1 : Int) (a2 : Int) r, impl_within a0 a1 a2 = some r → PCtr Tryd.prog 70 [.int .i64 a0, .int .i64 a1, .int .i64 a2] (.bool r) := by
  intro a0 a1 a2 r H
  intro σ
  unfold impl_within at H
  refine ctr_of mixed Tryd.func70 rfl (by kernel_rfl) (rs := [.tmp 6]) rfl (by kernel_rfl) ?_
  have hF := Fx.refl σ
  have hX := Tau.none σ
  have q := dum
  have tT := dum
  refine go ?_
  obtain ⟨x14, g1, H⟩ := bnd H
  refine aGd_cutN 3 11 14 (.bool x14) (gi q (fun q => ?_) (fun q => ?_)) (fun J => ?_)
  · refine go ?_
    exact cutd 11 g1
  · refine go ?_
    exact cutd 11 g1
  refine go ?_
  have e := pur H; subst e
  exact rt [.bool x14]
theorem impl_NameValid_l0_ok : ∀ (a0 : ByteArray) (z0t_3 : Int) out, impl_NameValid_l0 a0 z0t_3 = some out → ∀ c, loopAt Tryd.f27 0 = some c → ∀ (Q : AX → AS → Prop) (τ : Sto), (∀ (_u : Unit), out = Sum.inr () → ∀ (T : Nat → AV) (σ : Sto), T 0 = .str a0 ∧ T 2 = .bool false → Fx τ σ [] [] → Q (.ex 0) ⟨T, σ⟩) → (∀ r, out = Sum.inl r → ∀ s', aRet Tryd.prog [.tmp 2] (fun r' σ' => r' = .bool r ∧ σ' = τ) s' → Q .ret s') → ∀ (T : Nat → AV) (σ : Sto), T 0 = .str a0 ∧ T 2 = .bool false ∧ T 3 = .int .i64 z0t_3 → Fx τ σ [] [] → aLoop (acode Tryd.prog c) Q ⟨T, σ⟩ := by
  intro a0 z0t_3
  revert z0t_3
  refine impl_NameValid_l0.partial_correctness a0 _ ?_
  intro impl_NameValid_l0 IH z0t_3 out H c hc Q τ  hE hR T σ tT hF
  obtain rfl := Option.some.inj ((rfl : loopAt Tryd.f27 0 = some _).symm.trans hc)
  refine aLoop_round ?_
  have q := dum
  have hX := Tau.none τ
  refine go ?_
  refine cdp H (fun h H => ?_) (fun h H => ?_)
  · obtain ⟨x19, f1, H⟩ := bsx H
    refine go1 ?_
    refine go ?_
    obtain ⟨x26, g3, H⟩ := bnd H
    refine aGd_cutN 2 24 26 (.bool x26) (gi q (fun q => ?_) (fun q => ?_)) (fun J => ?_)
    · refine go ?_
      exact cutd 24 g3
    · refine go ?_
      exact cutd 24 g3
    refine go ?_
    obtain ⟨x31, g5, H⟩ := bnd H
    refine aGd_cutN 3 28 31 (.bool x31) (giN q (fun q => ?_) (fun q => ?_)) (fun J => ?_)
    · rw [if_neg (dbf q)] at g5
      refine go ?_
      obtain ⟨x29, hx29, g5⟩ := bnd g5
      refine cl (strings_IndexByte_ok (ByteArray.mk #[42, 63, 61, 43, 60]) x19 _ hx29) ?_
      refine go ?_
      exact cutd 28 g5
    · rw [if_pos (dbt q)] at g5
      refine go ?_
      exact cutd 28 g5
    refine go ?_
    refine cdb H (fun h H => ?_) (fun h H => ?_)
    · refine go ?_
      exact IH  (IntKind.i64.wrap (z0t_3 + 1)) _ H _ rfl Q τ  hE hR _ _  S hF
    · refine go ?_
      obtain ⟨x46, g7, H⟩ := bnd H
      refine aGd_cutN 10 36 46 (.bool x46) (gi q (fun q => ?_) (fun q => ?_)) (fun J => ?_)
      · rw [if_pos (dt q)] at g7
        refine go ?_
        obtain ⟨x41, g9, g7⟩ := bnd g7
        refine aGd_cutN 2 39 41 (.bool x41) (gi q (fun q => ?_) (fun q => ?_)) (fun J => ?_)
        · refine go ?_
          exact cutd 39 g9
        · refine go ?_
          exact cutd 39 g9
        refine go ?_
        obtain ⟨x45, g11, g7⟩ := bnd g7
        refine aGd_cutN 2 43 45 (.bool x45) (giN q (fun q => ?_) (fun q => ?_)) (fun J => ?_)
        · refine go ?_
          exact cutd 43 g11
        · refine go ?_
          exact cutd 43 g11
        refine go ?_
        exact cutd 36 g7
      · rw [if_neg (df q)] at g7
        refine go ?_
        exact cutd 36 g7
      refine go ?_
      refine cdb H (fun h H => ?_) (fun h H => ?_)
      · refine go ?_
        exact IH  (IntKind.i64.wrap (z0t_3 + 1)) _ H _ rfl Q τ  hE hR _ _  S hF
      · refine go ?_
        exact hR _ (pur H).symm _ (rt [.bool false])
  · refine go ?_
    exact hE () (pur H).symm _ _  S hF
theorem impl_NameValid_ok : ∀ (a0 : ByteArray) r, impl_NameValid a0 = some r → PCtr Tryd.prog 27 [.str a0] (.bool r) := by
  intro a0 r H
  intro σ
  unfold impl_NameValid at H
  refine ctr_of mixed Tryd.func27 rfl (by kernel_rfl) (rs := [.tmp 2]) rfl (by kernel_rfl) ?_
  have hF := Fx.refl σ
  have hX := Tau.none σ
  have q := dum
  have tT := dum
  refine go ?_
  obtain ⟨x10, g1, H⟩ := bnd H
  refine aGd_cutN 2 8 10 (.bool x10) (giN q (fun q => ?_) (fun q => ?_)) (fun J => ?_)
  · refine go ?_
    exact cutd 8 g1
  · refine go ?_
    exact cutd 8 g1
  refine go ?_
  refine cdb H (fun h H => ?_) (fun h H => ?_)
  · refine go ?_
    have e := pur H; subst e
    exact rt [.bool true]
  · refine go ?_
    obtain ⟨o13, ho13, H⟩ := bnd H
    refine impl_NameValid_l0_ok a0 0 _ ho13 _ rfl _ _  ?_ ?_ _ _  S hF
    · intro _ he T15 σ16 tT hF
      have he := he.symm
      subst he
      dsimp only at H
      refine go ?_
      obtain ⟨x49, hx49, H⟩ := bnd H
      refine cl (impl_within_ok (a0.size : Int) 1 12 _ hx49) ?_
      refine go ?_
      have e := pur H; subst e
      exact rt [.bool x49]
    · intro r hr s' hs
      subst hr
      have e := pur H; subst e
      first | exact hs | (try simp only [Fm.cells_eq] at hs ⊢; exact hs)
theorem laws_mxName_l0_ok : ∀ (a0 : List ByteArray) (a1 : ByteArray) (z0t_5 : Int) out, laws_mxName_l0 a0 a1 z0t_5 = some out → ∀ c, loopAt Tryd.f28 0 = some c → ∀ (Q : AX → AS → Prop) (τ : Sto), (∀ (_u : Unit), out = Sum.inr () → ∀ (T : Nat → AV) (σ : Sto), T 4 = .bool false → Fx τ σ [] [] → Q (.ex 0) ⟨T, σ⟩) → (∀ r, out = Sum.inl r → ∀ s', aRet Tryd.prog [.tmp 4] (fun r' σ' => r' = .bool r ∧ σ' = τ) s' → Q .ret s') → ∀ (T : Nat → AV) (σ : Sto), T 0 = .sl false (rws cS a0) ∧ T 1 = .str a1 ∧ T 4 = .bool false ∧ T 5 = .int .i64 z0t_5 → Fx τ σ [] [] → aLoop (acode Tryd.prog c) Q ⟨T, σ⟩ := by
  intro a0 a1 z0t_5
  revert z0t_5
  refine laws_mxName_l0.partial_correctness a0 a1 _ ?_
  intro laws_mxName_l0 IH z0t_5 out H c hc Q τ  hE hR T σ tT hF
  obtain rfl := Option.some.inj ((rfl : loopAt Tryd.f28 0 = some _).symm.trans hc)
  refine aLoop_round ?_
  have q := dum
  have hX := Tau.none τ
  refine go ?_
  refine cdp H (fun h H => ?_) (fun h H => ?_)
  · obtain ⟨x14, f1, H⟩ := bil (g := cS) (fun _ => rfl) H
    refine go1 ?_
    refine go ?_
    refine cdp H (fun h H => ?_) (fun h H => ?_)
    · refine go ?_
      exact hR _ (pur H).symm _ (rt [.bool true])
    · refine go ?_
      exact IH  (IntKind.i64.wrap (z0t_5 + 1)) _ H _ rfl Q τ  hE hR _ _  S hF
  · refine go ?_
    exact hE () (pur H).symm _ _  S hF
theorem laws_mxName_ok : ∀ (a0 : List ByteArray) (a1 : ByteArray) r, laws_mxName a0 a1 = some r → PCtr Tryd.prog 28 [.sl false (rws cS a0), .str a1] (.bool r) := by
  intro a0 a1 r H
  intro σ
  unfold laws_mxName at H
  refine ctr_of mixed Tryd.func28 rfl (by kernel_rfl) (rs := [.tmp 4]) rfl (by kernel_rfl) ?_
  have hF := Fx.refl σ
  have hX := Tau.none σ
  have q := dum
  have tT := dum
  refine go ?_
  obtain ⟨o1, ho1, H⟩ := bnd H
  refine laws_mxName_l0_ok a0 a1 0 _ ho1 _ rfl _ _  ?_ ?_ _ _  S hF
  · intro _ he T3 σ4 tT hF
    have he := he.symm
    subst he
    dsimp only at H
    refine go ?_
    have e := pur H; subst e
    exact rt [.bool false]
  · intro r hr s' hs
    subst hr
    have e := pur H; subst e
    first | exact hs | (try simp only [Fm.cells_eq] at hs ⊢; exact hs)
theorem laws_FnFreshName_ok : ∀ (a0 : List Int) r, laws_FnFreshName a0 = some r → PCtr Tryd.prog 7 [.sl false (rws cU a0)] (.bool r) := by
  intro a0 r H
  intro σ
  unfold laws_FnFreshName at H
  refine ctr_of mixed Tryd.func7 rfl (by kernel_rfl) (rs := [.tmp 2]) rfl (by kernel_rfl) ?_
  have hF := Fx.refl σ
  have hX := Tau.none σ
  have q := dum
  have tT := dum
  refine go ?_
  refine cdp H (fun h H => ?_) (fun h H => ?_)
  · refine go ?_
    have e := pur H; subst e
    exact rt [.bool true]
  · refine go ?_
    obtain ⟨x9, hx9, H⟩ := bnd H
    refine cl (spec_DrawFreshName_ok a0 _ hx9) ?_
    refine go ?_
    refine fx_alloc hF rfl fun b1 σ2 hF => ?_
    refine go ?_
    refine st hF 0 rfl fun σ3 hF => ?_
    refine go ?_
    obtain ⟨x11, hx11, H⟩ := bnd H
    refine cl (impl_FreshName_ok x9 _ hx11) ?_
    refine go ?_
    obtain ⟨x14, hx14, H⟩ := bnd H
    refine cl (spec_FreshName_ok x9 _ hx14) ?_
    refine go ?_
    obtain ⟨x19, g4, H⟩ := bnd H
    refine aGd_cutN 2 17 19 (.bool x19) (giN q (fun q => ?_) (fun q => ?_)) (fun J => ?_)
    · refine go ?_
      exact cutd 17 g4
    · refine go ?_
      exact cutd 17 g4
    refine go ?_
    refine cdb H (fun h H => ?_) (fun h H => ?_)
    · refine go ?_
      obtain ⟨x22, hx22, H⟩ := bnd H
      refine cl (spec_FreshName_ok x9 _ hx22) ?_
      refine go ?_
      have e := pur H; subst e
      exact rt [.bool (decide (x11 = x22))]
    · refine go ?_
      obtain ⟨x26, hx26, H⟩ := bnd H
      refine cl (impl_CountName_ok x9 x11 _ hx26) ?_
      refine go ?_
      obtain ⟨x31, g6, H⟩ := bnd H
      refine aGd_cutN 2 29 31 (.bool x31) (gi q (fun q => ?_) (fun q => ?_)) (fun J => ?_)
      · rw [if_pos (dt q)] at g6
        refine go ?_
        obtain ⟨x30, hx30, g6⟩ := bnd g6
        refine cl (impl_NameValid_ok x11 _ hx30) ?_
        refine go ?_
        exact cutd 29 g6
      · rw [if_neg (df q)] at g6
        refine go ?_
        exact cutd 29 g6
      refine go ?_
      obtain ⟨x38, g8, H⟩ := bnd H
      refine aGd_cutN 5 33 38 (.bool x38) (gi q (fun q => ?_) (fun q => ?_)) (fun J => ?_)
      · rw [if_pos (dbt q)] at g8
        refine go ?_
        obtain ⟨x34, hx34, g8⟩ := bnd g8
        refine cl (impl_NamesOf_ok x9 _ hx34) ?_
        refine go ?_
        obtain ⟨x36, hx36, g8⟩ := bnd g8
        refine cl (laws_mxName_ok x34 x11 _ hx36) ?_
        refine go ?_
        exact cutd 33 g8
      · rw [if_neg (dbf q)] at g8
        refine go ?_
        exact cutd 33 g8
      refine go ?_
      have e := pur H; subst e
      exact rt [.bool x38]
end Go.Proofs.SA
