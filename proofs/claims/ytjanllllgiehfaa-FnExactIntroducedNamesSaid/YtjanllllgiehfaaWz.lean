/- copyForm's walk: its result is a live tree. -/
import Derived.Test.YtjanllllgiehfaaLv
import Derived.Test.YtjanllllgiehfaaxiW0
import Derived.Test.YtjanllllgiehfaaWc
set_option maxRecDepth 100000
set_option maxHeartbeats 2000000
set_option linter.unusedSimpArgs false
set_option linter.unusedVariables false
open Go Go.Proofs Go.Proofs.Shadow
namespace Go.Proofs.SA
def CR41 (a0 r : Fm) : Prop := ∀ (σ : Sto), Pre σ [] [] → Ctr Try.prog 41 [.agg (Fm.cells a0)] σ (LvR r σ)
def CRL41 (a0 : Fm) (x18 : List Int) (z : List Fm) (i : Int) (out : List Fm) : Prop := ∀ c, loopAt Try.f41 0 = some c → ∀ (Q : AX → AS → Prop) (τ : Sto) (b1 b3 b5 : Nat) (vs : AV), (∀ (T : Nat → AV) (σ : Sto) (vk : AV) (rows : List (List AV)) (L : List OwnR), T 2 = .ptr b3 0 ∧ T 3 = .ptr b5 0 → LvL 3 29 out rows L → Fx τ σ [(b5, ⟨29, 5, [.int .i64 a0.kind, .str a0.name, .int .i64 a0.num, vs, vk]⟩), (b3, ⟨29, 5, [.int .i64 0, .str (ByteArray.mk #[]), .int .i64 0, .nilsl, .nilsl]⟩), (b1, ⟨29, 5, [.int .i64 a0.kind, .str a0.name, .int .i64 a0.num, .sl false (rws cI a0.sc), .sl false (rws Fm.cells a0.kids)]⟩)] (⟨vk, 29, 5, rows⟩ :: ⟨vs, 3, 1, rws cI x18⟩ :: L) → Q (.ex 0) ⟨T, σ⟩) → ∀ (T : Nat → AV) (σ : Sto) (vk : AV) (rows : List (List AV)) (L : List OwnR), T 2 = .ptr b3 0 ∧ T 3 = .ptr b5 0 ∧ T 17 = .sl false (rws Fm.cells a0.kids) ∧ T 18 = .int .i64 (a0.kids.length : Int) ∧ T 19 = .int .i64 i → LvL 3 29 z rows L → Fx τ σ [(b5, ⟨29, 5, [.int .i64 a0.kind, .str a0.name, .int .i64 a0.num, vs, vk]⟩), (b3, ⟨29, 5, [.int .i64 0, .str (ByteArray.mk #[]), .int .i64 0, .nilsl, .nilsl]⟩), (b1, ⟨29, 5, [.int .i64 a0.kind, .str a0.name, .int .i64 a0.num, .sl false (rws cI a0.sc), .sl false (rws Fm.cells a0.kids)]⟩)] (⟨vk, 29, 5, rows⟩ :: ⟨vs, 3, 1, rws cI x18⟩ :: L) → aLp Try.prog c Q ⟨T, σ⟩
theorem impl_copyForm_live : ∀ (a0 : Fm) r, impl_copyForm a0 = some r → CR41 a0 r := by
  refine impl_copyForm.partial_correctness (motive_1 := CR41) (motive_2 := CRL41) ?_ ?_
  · intro impl_copyForm_l0 L0 a0 r H
    intro σ hP
    refine hdg mixed Try.func41 (rs := [.cell 2 29]) fun q tT => ?_
    unfold LvR
    obtain ⟨hF, hX⟩ := hP.start
    generalize strip σ [] = τ0 at hF hX ⊢
    refine go ?_
    refine fx_alloc hF rfl fun b1 σ2 hF => ?_
    refine go ?_
    refine fx_alloc hF rfl fun b3 σ4 hF => ?_
    refine go ?_
    obtain ⟨x18, hx18, H⟩ := bnd H
    refine draw_ca1 E0 [.v, .v, .v, .v, .v, .v, .v, .v] [0, 1, 2, 3, 4, 5, 6, 7] 8 10 [.v] [9] [.z] [11] (by kernel_rfl) ?_
    refine go ?_
    refine ⟨?_, ?_⟩
    · refine go ?_
      refine cx (slices_Clone_live a0.sc _ hx18 _ (pre 0 0 0 hF hX)) ?_
      rintro vs σc ⟨τc, _, rfl, hT, hG⟩
      refine kp_intro2 (Fx.kept hT hG (by intro p hp; cases hp)) fun _ => ?_
      have hF := aftP 0 0 hF hX hT hG
      refine go ?_
      refine fx_allocK hF rfl fun b5 σ6 hF => ?_
      refine go ?_
      refine st hF 0 rfl fun σ7 hF => ?_
      have hF := hF.nil 29 5
      refine go ?_
      obtain ⟨o20, ho20, H⟩ := bnd H
      refine L0 a0 x18 [] 0 _ ho20 _ rfl _ _ b1 b3 b5 vs ?_ _ _ .nilsl [] [] S .nil hF
      intro T22 σ23 vk rows L tT hL hF
      refine go ?_
      refine st hF 1 rfl fun σ25 hF => ?_
      refine go ?_
      have e := pur H; subst e
      exact rg [.agg [.int .i64 a0.kind, .str a0.name, .int .i64 a0.num, vs, vk]] ⟨_, _, _, rfl, .mk hL, hX, (hF.drop 3 0).perm (List.Perm.swap _ _ _)⟩
    · refine go ?_
      refine fx_allocK hF rfl fun b5 σ6 hF => ?_
      refine go ?_
      refine cx (slices_Clone_live a0.sc _ hx18 _ (pre 0 0 0 hF hX)) ?_
      rintro vs σc ⟨τc, _, rfl, hT, hG⟩
      refine kp_intro2 (Fx.kept hT hG (by intro p hp; cases hp)) fun _ => ?_
      have hF := aftP 0 0 hF hX hT hG
      refine go ?_
      refine st hF 0 rfl fun σ7 hF => ?_
      have hF := hF.nil 29 5
      refine go ?_
      obtain ⟨o20, ho20, H⟩ := bnd H
      refine L0 a0 x18 [] 0 _ ho20 _ rfl _ _ b1 b3 b5 vs ?_ _ _ .nilsl [] [] S .nil hF
      intro T22 σ23 vk rows L tT hL hF
      refine go ?_
      refine st hF 1 rfl fun σ25 hF => ?_
      refine go ?_
      have e := pur H; subst e
      exact rg [.agg [.int .i64 a0.kind, .str a0.name, .int .i64 a0.num, vs, vk]] ⟨_, _, _, rfl, .mk hL, hX, (hF.drop 3 0).perm (List.Perm.swap _ _ _)⟩
  · intro impl_copyForm impl_copyForm_l0 C0 L0 a0 x18 z0o_0 z0t_19 out H c hc Q τ b1 b3 b5 vs hE T σ vk rows L tT hL hF
    obtain rfl := Option.some.inj ((rfl : loopAt Try.f41 0 = some _).symm.trans hc)
    refine aLoop_round ?_
    have q := dum
    have hX := Tau.none τ
    refine go ?_
    refine cdp H (fun h H => ?_) (fun h H => ?_)
    · obtain ⟨x30, f1, H⟩ := bil (g := Fm.cells) Fm.cells_len H
      refine go1 ?_
      refine fx_alloc hF rfl fun b14 σ15 hF => ?_
      refine go ?_
      refine st hF 0 rfl fun σ16 hF => ?_
      refine go ?_
      refine draw_text E0 [.v, .v, .v, .x, .v, .x, .v, .z] (by kernel_rfl) ?_
      refine go ?_
      obtain ⟨x37, hx37, H⟩ := bnd H
      refine cx (C0 x30 _ hx37 _ (pre 0 0 0 hF hX)) ?_
      rintro _ σ3 ⟨τ3, row, M, rfl, hM, hT, hG⟩
      refine kp_intro2 (Fx.kept hT hG (by intro p hp; cases hp)) fun _ => ?_
      have hF := aftP 0 0 hF hX hT hG
      have hF := hF.perm List.perm_append_comm
      have hrl := hM.len
      try simp only [go_sem, ↓reduceIte, Nat.reduceEqDiff, Nat.reduceAdd, Nat.reduceMul, Nat.reduceLeDiff, Nat.reduceLT, Int.reduceEq, Int.toNat_natCast, q, tT, hF.f, hF.m, hF.x hX, hrl, Option.map_some]
      obtain ⟨x39, hx39, H⟩ := bnd H
      obtain ⟨rfl, hb⟩ := lcat_eq hx39
      have hlen := hL.len.1
      refine fx_appRK (sz := 5) (by_ := 80) hF 0 (ys := [row]) rfl (by decide) (by decide) (RdL.sl _ _ _ _ (fun r hr => by rw [List.mem_singleton.1 hr]; exact hM.len)) (by simpa [hlen] using hb) fun v17 σ18 hF => ?_
      refine go ?_
      refine st hF 1 (hF.cells 0 rfl) fun σ19 hF => ?_
      refine go ?_
      exact L0 a0 x18 (z0o_0 ++ [x37]) (IntKind.i64.wrap (z0t_19 + 1)) _ H _ rfl Q τ b1 b3 b5 vs hE _ _ v17 (rows ++ [row]) (L ++ M) S (hL.snoc hM) (hF.drop 1 0)
    · refine go ?_
      obtain rfl := pur H
      exact wq (hE _ _ vk _ _ S hL hF)
end Go.Proofs.SA

