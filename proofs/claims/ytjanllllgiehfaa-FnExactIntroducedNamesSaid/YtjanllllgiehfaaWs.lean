/- Steps: toStep's walk (its result is two live trees), and marks of a step. -/
import Derived.Test.YtjanllllgiehfaaLd
import Derived.Test.YtjanllllgiehfaaxiW0
import Derived.Test.YtjanllllgiehfaaWi
set_option maxRecDepth 100000
set_option maxHeartbeats 2000000
set_option linter.unusedSimpArgs false
set_option linter.unusedVariables false
open Go Go.Proofs Go.Proofs.Shadow
namespace Go.Proofs.SA
theorem laws_toStep_live : ∀ (a0 : Stp) r, laws_toStep a0 = some r → ∀ (σ : Sto), Pre σ [] [] → Ctr Try.prog 14 [.agg (Stp.cells a0)] σ (fun r' σ' => ∃ (τ' : Sto) (ru rr : List AV) (Lu Lr : List OwnR), r' = .agg ([.int .i64 r.id, .int .i64 r.rule, .int .i64 r.scope] ++ (ru ++ rr)) ∧ LvF 3 29 r.use ru Lu ∧ LvF 3 29 r.res rr Lr ∧ Tau (strip σ []) [] τ' ∧ Fx τ' σ' [] (Lu ++ Lr)) := by
  intro a0 r H
  intro σ hP
  unfold laws_toStep at H
  refine hdg mixed Try.func14 (rs := [.cell 2 41]) fun q tT => ?_
  obtain ⟨hF, hX⟩ := hP.start
  generalize strip σ [] = τ0 at hF hX ⊢
  refine go ?_
  refine fx_alloc hF rfl fun b1 σ2 hF => ?_
  refine go ?_
  refine fx_alloc hF rfl fun b3 σ4 hF => ?_
  refine go ?_
  refine fx_alloc hF rfl fun b5 σ6 hF => ?_
  refine go ?_
  refine st hF 0 rfl fun σ7 hF => ?_
  refine go ?_
  refine st hF 0 rfl fun σ8 hF => ?_
  refine go ?_
  refine st hF 0 rfl fun σ9 hF => ?_
  refine go ?_
  obtain ⟨x15, hx15, H⟩ := bnd H
  refine cx (laws_toForm_live.1 a0.use _ hx15 _ (pre 0 0 0 hF hX)) ?_
  rintro _ σ10 ⟨τ10, ru, Lu, rfl, hLu, hT, hG⟩
  have hF := aftP 0 0 hF hX hT hG
  have hLu0 := hLu
  obtain ⟨vsu, vku, hru⟩ : ∃ vs vk, ru = [.int .i64 x15.kind, .str x15.name, .int .i64 x15.num, vs, vk] := by
    cases hLu with
    | mk h => exact ⟨_, _, rfl⟩
  subst hru
  refine go ?_
  refine st hF 0 rfl fun σ11 hF => ?_
  refine go ?_
  obtain ⟨x19, hx19, H⟩ := bnd H
  refine cx (laws_toForm_live.1 a0.res _ hx19 _ (pre 0 0 0 hF hX)) ?_
  rintro _ σ12 ⟨τ12, rr, Lr, rfl, hLr, hT, hG⟩
  have hF := aftP 0 0 hF hX hT hG
  have hLr0 := hLr
  obtain ⟨vsr, vkr, hrr⟩ : ∃ vs vk, rr = [.int .i64 x19.kind, .str x19.name, .int .i64 x19.num, vs, vk] := by
    cases hLr with
    | mk h => exact ⟨_, _, rfl⟩
  subst hrr
  refine go ?_
  refine st hF 0 rfl fun σ13 hF => ?_
  refine go ?_
  refine st hF 1 rfl fun σ14 hF => ?_
  refine go ?_
  have e := pur H; subst e
  exact rg [.agg [.int .i64 a0.id, .int .i64 a0.rule, .int .i64 a0.scope, .int .i64 x15.kind, .str x15.name, .int .i64 x15.num, vsu, vku, .int .i64 x19.kind, .str x19.name, .int .i64 x19.num, vsr, vkr]] ⟨_, _, _, _, _, rfl, hLu0, hLr0, hX, (hF.drop 3 0).perm (by simpa using List.perm_append_comm)⟩
theorem laws_markStep_live (a : Stp) (k : Int) (r s : Fm × Int) (hz1 : a.use.sz ≤ 100000000) (hn1 : a.use.nodes ≤ 100000000) (hz2 : a.res.sz ≤ 100000000) (hn2 : a.res.nodes ≤ 100000000) (H1 : markF a.use k = some r) (H2 : markF a.res r.2 = some s) : ∀ (ru rr : List AV) (Lu Lr : List OwnR) (σ : Sto), LvF 3 29 a.use ru Lu → LvF 3 29 a.res rr Lr → Pre σ [] (Lu ++ Lr) → Ctr Try.prog 18 [.agg ([.int .i64 a.id, .int .i64 a.rule, .int .i64 a.scope] ++ (ru ++ rr)), .int .i64 k] σ (fun r' σ' => ∃ (τ' : Sto) (L' : List OwnR), r' = .int .i64 s.2 ∧ Tau (strip σ (Lu ++ Lr)) [] τ' ∧ Fx τ' σ' [] L') := by
  intro ru rr Lu Lr σ hLu hLr hP
  obtain ⟨vsu, vku, hru⟩ : ∃ vs vk, ru = [.int .i64 a.use.kind, .str a.use.name, .int .i64 a.use.num, vs, vk] := by
    have h := hLu
    generalize a.use = u at h
    cases h with
    | mk h => exact ⟨_, _, rfl⟩
  obtain ⟨vsr, vkr, hrr⟩ : ∃ vs vk, rr = [.int .i64 a.res.kind, .str a.res.name, .int .i64 a.res.num, vs, vk] := by
    have h := hLr
    generalize a.res = u at h
    cases h with
    | mk h => exact ⟨_, _, rfl⟩
  subst hru
  subst hrr
  refine hdg mixed Try.func18 (rs := [.tmp 4]) fun q tT => ?_
  obtain ⟨hF, hX⟩ := hP.start
  generalize strip σ (Lu ++ Lr) = τ0 at hF hX ⊢
  refine go ?_
  refine fx_alloc hF rfl fun b1 σ2 hF => ?_
  refine go ?_
  refine cx (laws_markForm_live a.use k r hz1 hn1 H1 _ Lu _ hLu (Fx.pre (esL := []) (bsr := [(b1, _)]) (esX := []) (xsr := []) hF hX)) ?_
  rintro _ σ3 ⟨τ3, Lu', rfl, hT, hLu', hG⟩
  obtain ⟨τ4, hX4, hF⟩ := Fx.after (esL := []) (bsr := [(b1, _)]) (esX := []) (xsr := []) (esL' := []) (esX' := []) (bn := []) hF hX hT hG rfl rfl
  rw [hX4.eq] at hF
  simp only [List.nil_append] at hF
  have hF := hF.perm List.perm_append_comm
  refine go ?_
  refine cx (laws_markForm_live a.res r.2 s hz2 hn2 H2 _ Lr _ hLr (Fx.pre (esL := []) (bsr := [(b1, _)]) (esX := []) (xsr := []) hF hX)) ?_
  rintro _ σ5 ⟨τ5, Lr', rfl, hT, hLr', hG⟩
  obtain ⟨τ6, hX6, hF⟩ := Fx.after (esL := []) (bsr := [(b1, _)]) (esX := []) (xsr := []) (esL' := []) (esX' := []) (bn := []) hF hX hT hG rfl rfl
  rw [hX6.eq] at hF
  simp only [List.nil_append] at hF
  refine go ?_
  exact rg [.int .i64 s.2] ⟨_, _, rfl, hX, hF.drop 1 0⟩
end Go.Proofs.SA

