import Derived.Test.YtjanllllgiehfaaLv
import Derived.Test.YtjanllllgiehfaaSaTy
import Derived.Test.YtjanllllgiehfaaChecked
import Derived.Lib.Strings
import Derived.Lib.Slices
import Derived.Lib.Walk
import Derived.Lib.Bytealg
import Derived.Test.YtjanllllgiehfaarnD
import Derived.Test.YtjanllllgiehfaaLz
set_option maxRecDepth 100000
set_option maxHeartbeats 2000000
set_option linter.unusedSimpArgs false
set_option linter.unusedVariables false
open Go Go.Proofs Go.Proofs.Shadow
namespace Go.Proofs.SA
def CN8 (a0 : Fm) (a1 a2 : ByteArray) (r : Fm × Bool) : Prop := ∀ (σ : Sto), Pre σ [] [] → Ctr Try.prog 8 [.agg (Fm.cells a0), .str a1, .str a2] σ (fun r' σ' => ∃ (τ' : Sto) (row : List AV) (L : List OwnR), r' = .tup [.agg row, .bool r.2] ∧ LvF 3 29 r.1 row L ∧ Tau (strip σ []) [] τ' ∧ Fx τ' σ' [] L)
theorem impl_RenameName_live : ∀ (a0 : Fm) (a1 : ByteArray) (a2 : ByteArray) r, impl_RenameName a0 a1 a2 = some r → CN8 a0 a1 a2 r := by
  intro a0 a1 a2 r H
  intro σ hP
  unfold impl_RenameName at H
  refine hdg mixed Try.func8 (rs := [.cell 6 29, .tmp 7]) fun q tT => ?_
  obtain ⟨hF, hX⟩ := hP.start
  generalize strip σ [] = τ0 at hF hX ⊢
  refine go ?_
  refine fx_alloc hF rfl fun b1 σ2 hF => ?_
  refine go ?_
  refine fx_alloc hF rfl fun b3 σ4 hF => ?_
  refine go ?_
  obtain ⟨x9, hx9, H⟩ := bnd H
  refine cl (impl_FormValid_ok a0 _ hx9) ?_
  refine go ?_
  obtain ⟨x15, g5, H⟩ := bnd H
  refine aGd_cutN 3 12 15 (.bool x15) (giN q (fun q => ?_) (fun q => ?_)) (fun J => ?_)
  · rw [if_neg (dbf q)] at g5
    refine go ?_
    obtain ⟨x13, hx13, g5⟩ := bnd g5
    refine cl (impl_NameValid_ok a1 _ hx13) ?_
    refine go ?_
    exact cutd 12 g5
  · rw [if_pos (dbt q)] at g5
    refine go ?_
    exact cutd 12 g5
  refine go ?_
  obtain ⟨x20, g7, H⟩ := bnd H
  refine aGd_cutN 3 17 20 (.bool x20) (giN q (fun q => ?_) (fun q => ?_)) (fun J => ?_)
  · rw [if_neg (dbf q)] at g7
    refine go ?_
    obtain ⟨x18, hx18, g7⟩ := bnd g7
    refine cl (impl_NameValid_ok a2 _ hx18) ?_
    refine go ?_
    exact cutd 17 g7
  · rw [if_pos (dbt q)] at g7
    refine go ?_
    exact cutd 17 g7
  refine go ?_
  refine cdb H (fun h H => ?_) (fun h H => ?_)
  · refine go ?_
    refine st hF 0 rfl fun σ9 hF => ?_
    refine go ?_
    have e := pur H; subst e
    exact rg [.agg zrow, .bool false] ⟨_, _, _, rfl, LvF.zero 3 29, hX, ((hF.drop 2 0).nil 29 5).nil 3 1⟩
  · refine go ?_
    obtain ⟨x25, hx25, H⟩ := bnd H
    refine cx (impl_renamed_live a1 a2 a0 _ hx25 _ (pre 0 0 0 hF hX)) ?_
    rintro _ σ5 ⟨τ5, row, L, rfl, hL, hT, hG⟩
    have hF := aftP 0 0 hF hX hT hG
    cases hL with
    | mk hk =>
      refine go ?_
      refine st hF 0 rfl fun σ10 hF => ?_
      refine go ?_
      have e := pur H; subst e
      exact rg [.agg _, .bool true] ⟨_, _, _, rfl, .mk hk, hX, by simpa using hF.drop 2 0⟩
end Go.Proofs.SA
