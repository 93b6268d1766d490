/- A text of mine. -/
import Derived.Test.YtilkeeoinbndoaaLg
import Derived.Test.YtilkeeoinbndoaaSaTy
import Derived.Test.YtilkeeoinbndoaaChecked
import Derived.Lib.Strings
import Derived.Lib.Slices
import Derived.Lib.Walk
import Derived.Lib.Bytealg
import Derived.Test.YtilkeeoinbndoaadvD
import Derived.Test.YtilkeeoinbndoaaVy
import Derived.Test.YtilkeeoinbndoaaMk
set_option maxRecDepth 100000
set_option maxHeartbeats 2000000
set_option linter.unusedSimpArgs false
set_option linter.unusedVariables false
open Go Go.Proofs Go.Proofs.Shadow
namespace Go.Proofs.SA
theorem wrapN {i : Nat} (h : i < 4611686018427387904) : IntKind.i64.wrap ((i : Int) + 1) = ((i + 1 : Nat) : Int) := by
  exact wrap_succ h
theorem markI_loop : ∀ (rest pre : List Int) (k : Int), pre.length + rest.length ≤ 1000000000 → ∀ c, loopAt Try.f26 0 = some c → ∀ (Q : AX → AS → Prop) (τ : Sto) (v : AV), (∀ (T : Nat → AV) (σ : Sto), T 1 = .int .i64 (markI rest k).2 → Fx τ σ [] [⟨v, 3, 1, rws cI (pre ++ (markI rest k).1)⟩] → Q (.ex 0) ⟨T, σ⟩) → ∀ (T : Nat → AV) (σ : Sto), T 0 = v ∧ T 1 = .int .i64 k ∧ T 5 = .int .i64 (pre.length : Int) → Fx τ σ [] [⟨v, 3, 1, rws cI (pre ++ rest)⟩] → aLp Try.prog c Q ⟨T, σ⟩ := by
  intro rest
  induction rest with
  | nil =>
    intro pre k hl c hc Q τ v hE T σ tT hF
    obtain rfl := Option.some.inj ((rfl : loopAt Try.f26 0 = some _).symm.trans hc)
    refine aLoop_round ?_
    have q := dum
    have hX := Tau.none τ
    refine go ?_
    refine aCnd_p _ rfl (fun h => ?_) (fun h => ?_)
    · exfalso; simp at h
    · refine go ?_
      exact wq (hE _ _ S hF)
  | cons x rest ih =>
    intro pre k hl c hc Q τ v hE T σ tT hF
    simp only [List.length_cons] at hl
    have hc0 := hc
    obtain rfl := Option.some.inj ((rfl : loopAt Try.f26 0 = some _).symm.trans hc)
    refine aLoop_round ?_
    have q := dum
    have hX := Tau.none τ
    have hx : idx (pre ++ x :: rest) (pre.length : Int) = some x := by
      unfold idx
      simp
    refine go ?_
    refine aCnd_p _ rfl (fun h => ?_) (fun h => ?_)
    · obtain ⟨b, cap, hv⟩ := hF.ref 0 rfl hx
      subst hv
      try simp only [go_sem, ↓reduceIte, Nat.reduceEqDiff, Nat.reduceAdd, Nat.reduceMul, Nat.reduceLeDiff, Nat.reduceLT, Int.reduceEq, Int.toNat_natCast, q, tT, hF.f, hF.m, hF.x hX, aidx_own (l := pre ++ x :: rest) rfl hx]
      refine fx_osetR1 (i := pre.length) (v := .int .i64 k) hF 0 (cs := [.int .i64 k]) rfl (by simp [rws]) rfl rfl fun σ3 hF => ?_
      have hset : (rws cI (pre ++ x :: rest)).set pre.length [AV.int .i64 k] = rws cI ((pre ++ [k]) ++ rest) := by simp [rws, cI]
      have hF : Fx τ σ3 [] [⟨.ref b (pre ++ x :: rest).length cap, 3, 1, rws cI ((pre ++ [k]) ++ rest)⟩] := by rw [← hset]; exact hF
      refine go ?_
      have hw : IntKind.i64.wrap ((pre.length : Int) + 1) = ((pre ++ [k]).length : Int) := by
        rw [List.length_append]
        exact Go.Proofs.SA.wrapN (by omega)
      refine ih (pre ++ [k]) (IntKind.i64.wrap (k + 1)) (by simp; omega) _ hc0 Q τ _ (fun T σ hT hF => hE T σ hT (by rw [List.append_assoc] at hF; exact hF)) _ _ ?_ hF
      refine ⟨?_, ?_, ?_⟩ <;> simp [upd, tT, hw]
    · exfalso; simp at h; omega
theorem laws_markIntS_live (l : List Int) (k : Int) (hl : l.length ≤ 1000000000) : ∀ (v : AV) (σ : Sto), Pre σ [] [⟨v, 3, 1, rws cI l⟩] → Ctr Try.prog 26 [v, .int .i64 k] σ (fun r' σ' => ∃ τ' : Sto, r' = .int .i64 (markI l k).2 ∧ Tau (strip σ [⟨v, 3, 1, rws cI l⟩]) [] τ' ∧ Fx τ' σ' [] [⟨v, 3, 1, rws cI (markI l k).1⟩]) := by
  intro v σ hP
  refine hdg mixed Try.func26 (rs := [.tmp 4]) fun q tT => ?_
  obtain ⟨hF, hX⟩ := hP.start
  generalize strip σ [⟨v, 3, 1, rws cI l⟩] = τ0 at hF hX ⊢
  refine go ?_
  refine markI_loop l [] k (by simpa using hl) _ rfl _ _ v ?_ _ _ ?_ hF
  · intro T σ2 tT hF
    refine go ?_
    exact rg [.int .i64 (markI l k).2] ⟨_, rfl, hX, hF⟩
  · refine ⟨?_, ?_, ?_⟩ <;> simp [upd, T0]
end Go.Proofs.SA

