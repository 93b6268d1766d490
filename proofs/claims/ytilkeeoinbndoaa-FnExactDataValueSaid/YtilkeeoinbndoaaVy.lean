/- A text of mine. -/
import Derived.Test.YtilkeeoinbndoaaLg
import Derived.Test.YtilkeeoinbndoaaSaTy
import Derived.Test.YtilkeeoinbndoaaChecked
import Derived.Lib.Strings
import Derived.Lib.Slices
import Derived.Lib.Walk
import Derived.Lib.Bytealg
import Derived.Test.YtilkeeoinbndoaadvD
import Derived.Test.YtilkeeoinbndoaadvW0
set_option maxRecDepth 100000
set_option maxHeartbeats 2000000
set_option linter.unusedSimpArgs false
set_option linter.unusedVariables false
open Go Go.Proofs Go.Proofs.Shadow
namespace Go.Proofs.SA
/-- toIntS, its result being ours. -/
theorem laws_toIntS_live : ∀ (a0 : List Int) r, laws_toIntS a0 = some r → ∀ (σ : Sto), Pre σ [] [] → Ctr Try.prog 17 [.sl false (rws cI a0)] σ (fun r' σ' => ∃ (τ' : Sto) (w0 : AV), r' = w0 ∧ Tau (strip σ []) [] τ' ∧ Fx τ' σ' [] [⟨w0, 3, 1, rws cI r⟩]) := by
  intro a0 r H
  intro σ hP
  unfold laws_toIntS at H
  refine hdg mixed Try.func17 (rs := [.tmp 2]) fun q tT => ?_
  obtain ⟨hF, hX⟩ := hP.start
  generalize strip σ [] = τ0 at hF hX ⊢
  refine go ?_
  obtain ⟨x7, hx7, H⟩ := bnd H
  refine fx_make (g := cI) 0 hF rfl (fun _ => rfl) (by (try simp only [cI, cU, cS, cL, cB]); exact (.cons (.refl _) id .nil)) hx7 fun b1 σ2 hF => ?_
  simp only [Int.toNat_natCast] at hF
  refine go ?_
  obtain ⟨o4, ho4, H⟩ := bnd H
  refine laws_toIntS_l0_ok a0 x7 0 _ ho4 _ rfl _ _ b1 ?_ ?_ _ _  S hF
  · intro e5o_0 he T6 σ7 tT hF
    have he := he.symm
    subst he
    refine go ?_
    have e := pur H; subst e
    exact rg [.ref b1 a0.length a0.length] ⟨_, _, rfl, hX, hF⟩
  · trivial
def LvFR (r : Fm) (σ : Sto) (r' : AV) (σ' : Sto) : Prop := ∃ (τ' : Sto) (row : List AV) (L : List OwnR), r' = .agg row ∧ LvF 3 30 r row L ∧ Tau (strip σ []) [] τ' ∧ Fx τ' σ' [] L
def CS27 (a0 : List Fm) (r : List Fm) : Prop := ∀ (σ : Sto), Pre σ [] [] → Ctr Try.prog 18 [.sl false (rws Fm.cells a0)] σ (fun r' σ' => ∃ (τ' : Sto) (w0 : AV) (rows : List (List AV)) (L : List OwnR), r' = w0 ∧ LvL 3 30 r rows L ∧ Tau (strip σ []) [] τ' ∧ Fx τ' σ' [] (⟨w0, 30, 5, rows⟩ :: L))
def CF7 (a0 : Fm) (r : Fm) : Prop := ∀ (σ : Sto), Pre σ [] [] → Ctr Try.prog 6 [.agg (Fm.cells a0)] σ (LvFR r σ)
def CL27 (a0 : List Fm) (z : List Fm) (i : Int) (out : List Fm) : Prop := ∀ c, loopAt Try.f18 0 = some c → ∀ (Q : AX → AS → Prop) (τ : Sto) (b1 : Nat), (∀ (T : Nat → AV) (σ : Sto) (rows : List (List AV)) (L : List OwnR), T 3 = .ref b1 a0.length a0.length → LvL 3 30 out rows L → Fx τ σ [] (⟨.ref b1 a0.length a0.length, 30, 5, rows⟩ :: L) → Q (.ex 0) ⟨T, σ⟩) → ∀ (T : Nat → AV) (σ : Sto) (rows : List (List AV)) (L : List OwnR), T 0 = .sl false (rws Fm.cells a0) ∧ T 3 = .ref b1 a0.length a0.length ∧ T 4 = .int .i64 i → LvL 3 30 z rows L → Fx τ σ [] (⟨.ref b1 a0.length a0.length, 30, 5, rows⟩ :: L) → aLp Try.prog c Q ⟨T, σ⟩
theorem laws_toForm_live : (∀ (a0 : Fm) r, laws_toForm a0 = some r → CF7 a0 r) ∧ (∀ (a0 : List Fm) r, laws_toFormS a0 = some r → CS27 a0 r) := by
  have h := laws_toForm.mutual_partial_correctness (motive_1 := CF7) (motive_2 := CS27) (motive_3 := CL27) ?_ ?_ ?_
  · exact ⟨h.1, h.2.1⟩
  · intro laws_toFormS C1 a0 r H
    intro σ hP
    refine hdg mixed Try.func6 (rs := [.cell 2 30]) fun q tT => ?_
    unfold LvFR
    obtain ⟨hF, hX⟩ := hP.start
    generalize strip σ [] = τ0 at hF hX ⊢
    refine go ?_
    refine fx_alloc hF rfl fun b1 σ2 hF => ?_
    refine go ?_
    refine fx_alloc hF rfl fun b3 σ4 hF => ?_
    refine go ?_
    refine fx_alloc hF rfl fun b5 σ6 hF => ?_
    refine go ?_
    refine st hF 0 rfl fun σ7 hF => ?_
    refine go ?_
    refine st hF 0 rfl fun σ8 hF => ?_
    refine go ?_
    refine st hF 0 rfl fun σ9 hF => ?_
    refine go ?_
    obtain ⟨x15, hx15, H⟩ := bnd H
    refine cx (laws_toIntS_live a0.sc _ hx15 _ (pre 0 0 0 hF hX)) ?_
    rintro vs σ10 ⟨τ10, _, rfl, hT, hG⟩
    have hF := aftP 0 0 hF hX hT hG
    refine go ?_
    refine st hF 0 (hF.cells 0 rfl) fun σ11 hF => ?_
    refine go ?_
    obtain ⟨x19, hx19, H⟩ := bnd H
    refine cx (C1 a0.kids _ hx19 _ (pre 0 0 0 hF hX)) ?_
    rintro vk σ12 ⟨τ12, _, rows, L, rfl, hL, hT, hG⟩
    have hF := aftP 0 0 hF hX hT hG
    refine go ?_
    refine st hF 0 (hF.cells 0 rfl) fun σ13 hF => ?_
    refine go ?_
    refine st hF 1 rfl fun σ14 hF => ?_
    refine go ?_
    have e := pur H; subst e
    have hF0 := (hF.drop 3 0).perm (List.perm_append_comm (l₁ := (⟨vk, 30, 5, rows⟩ : OwnR) :: L) (l₂ := [(⟨vs, 3, 1, rws cI x15⟩ : OwnR)]))
    exact rg [.agg [.int .i64 a0.kind, .str a0.name, .int .i64 a0.num, vs, vk]] ⟨_, _, _, rfl, .mk hL, hX, hF0⟩
  · intro laws_toFormS_l0 L0 a0 r H
    intro σ hP
    refine hdg mixed Try.func18 (rs := [.tmp 2]) fun q tT => ?_
    obtain ⟨hF, hX⟩ := hP.start
    generalize strip σ [] = τ0 at hF hX ⊢
    refine go ?_
    obtain ⟨x7, hx7, H⟩ := bnd H
    have hrep : x7 = List.replicate a0.length zfm ∧ lmake 80 () (a0.length : Int) = some (List.replicate a0.length ()) := by
      unfold lmake at hx7 ⊢
      split at hx7
      · rename_i hc
        injection hx7 with hx7
        rw [if_pos hc]
        exact ⟨hx7.symm, by rw [Int.toNat_natCast]⟩
      · cases hx7
    obtain ⟨rfl, hmk⟩ := hrep
    refine fx_make (g := fun _ : Unit => zrow) () hF rfl (fun _ => rfl) (WkVL.refl _) hmk fun b1 σ2 hF => ?_
    simp only [Int.toNat_natCast] at hF
    refine go ?_
    obtain ⟨o4, ho4, H⟩ := bnd H
    obtain ⟨L, hL, hz⟩ := LvL.zeros 3 30 a0.length
    have hrw : rws (fun _ : Unit => zrow) (List.replicate a0.length ()) = List.replicate a0.length zrow := by simp [rws]
    rw [hrw] at hF
    have hF := (hz hF).perm List.perm_append_comm
    refine L0 a0 _ 0 _ ho4 _ rfl _ _ b1 ?_ _ _ _ _ S hL hF
    intro T6 σ7 rows L tT hL hF
    refine go ?_
    have e := pur H; subst e
    exact rg [.ref b1 a0.length a0.length] ⟨_, _, _, _, rfl, hL, hX, hF⟩
  · intro laws_toForm laws_toFormS_l0 C0 L0 a0 z0o_0 z0t_4 out H c hc Q τ b1 hE T σ rows L tT hL hF
    obtain rfl := Option.some.inj ((rfl : loopAt Try.f18 0 = some _).symm.trans hc)
    refine aLoop_round ?_
    have q := dum
    have hX := Tau.none τ
    refine go ?_
    refine cdp H (fun h H => ?_) (fun h H => ?_)
    · obtain ⟨x18, f1, H⟩ := bil (g := Fm.cells) Fm.cells_len H
      refine go1 ?_
      obtain ⟨x20, hx20, H⟩ := bnd H
      refine cx (C0 x18 _ hx20 _ (pre 0 0 0 hF hX)) ?_
      rintro _ σ3 ⟨τ3, row, M, rfl, hM, hT, hG⟩
      have hF := aftP 0 0 hF hX hT hG
      have hF := hF.perm List.perm_append_comm
      obtain ⟨x21, hx21, H⟩ := bnd H
      have hlen := hL.len.1
      obtain ⟨hi0, hi1, _⟩ := idx_lt hx21
      have hai := fun σ => aidx_own (σ := σ) (e := 30) (sz := 5) (by_ := 80) (b := b1) (c := a0.length) (k := .i64) (l := z0o_0) ((own_at hF 0 rfl).1.trans hlen) hx21
      try simp only [go_sem, ↓reduceIte, Nat.reduceEqDiff, Nat.reduceAdd, Nat.reduceMul, Nat.reduceLeDiff, Nat.reduceLT, Int.reduceEq, Int.toNat_natCast, q, tT, hF.f, hF.m, hF.x hX, hai]
      obtain ⟨q1, A, B, C, h1, h2, h3, h4⟩ := hL.at z0t_4.toNat _ (List.getElem?_eq_getElem (l := z0o_0) (i := z0t_4.toNat) (by omega))
      subst h2
      refine fx_osetR hF 0 rfl (by omega) rfl hM.len rfl fun σ4 hF => ?_
      have hF := Fx.place (o := ⟨.ref b1 a0.length a0.length, 30, 5, rows.set z0t_4.toNat row⟩) hF
      refine go ?_
      exact L0 a0 (z0o_0.set z0t_4.toNat x20) (IntKind.i64.wrap (z0t_4 + 1)) _ H _ rfl Q τ b1 hE _ _ _ _ S (h4 _ _ _ hM) hF
    · refine go ?_
      obtain rfl := pur H
      exact wq (hE _ _ _ _ S hL hF)
end Go.Proofs.SA

