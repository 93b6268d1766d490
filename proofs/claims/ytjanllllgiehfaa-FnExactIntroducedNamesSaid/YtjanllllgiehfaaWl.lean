/- FnExactIntroducedNames' walk. -/
import Derived.Test.YtjanllllgiehfaaMe
import Derived.Test.YtjanllllgiehfaaxiW0
import Derived.Test.YtjanllllgiehfaaWs
set_option maxRecDepth 100000
set_option maxHeartbeats 2000000
set_option linter.unusedSimpArgs false
set_option linter.unusedVariables false
open Go Go.Proofs Go.Proofs.Shadow
namespace Go.Proofs.SA
theorem wkstp {σ : Sto} (a : Stp) : Wk σ (.agg [.int .i64 a.id, .int .i64 a.rule, .int .i64 a.scope, .int .i64 a.use.kind, .str a.use.name, .int .i64 a.use.num, .sl false (rws cI a.use.sc), .sl false (rws Fm.cells a.use.kids), .int .i64 a.res.kind, .str a.res.name, .int .i64 a.res.num, .sl false (rws cI a.res.sc), .sl false (rws Fm.cells a.res.kids)]) sto00 (.agg (Stp.cells a)) := by
  rw [Stp.cells_eq]
  exact Wk.sub (Sub.zero _) _
theorem row5s {rows : List (List AV)} (h : ∀ r ∈ rows, r.length = 5) : ∃ rk : List Row5, rws Subtype.val rk = rows := by
  refine ⟨rows.attach.map fun x => ⟨x.1, h x.1 x.2⟩, ?_⟩
  simp [rws]
theorem laws_FnExactIntroducedNames_ok (a : Stp) (r : Bool) (H0 : r = true ∧ RIok a) : PCtr Try.prog 4 [.agg (Stp.cells a)] (.bool r) := by
  obtain ⟨rfl, ⟨left, hleft, H⟩⟩ := H0
  intro σ
  refine hdg mixed Try.func4 (rs := [.tmp 2]) fun q tT => ?_
  have hF := Fx.refl σ
  have hX := Tau.none σ
  refine go ?_
  refine fx_alloc hF rfl fun b1 σ2 hF => ?_
  refine go ?_
  refine cl (laws_szStep_ok a 1048576 _ hleft) ?_
  refine go ?_
  refine aCnd_p _ rfl (fun h => ?_) (fun h => ?_)
  · refine go ?_
    exact rt [.bool true]
  obtain ⟨w, r, s, t, ht, hw, hi, ew, ea, hr, hs, s0, hm, hh, t0, uz, un, rz, rn, wn, wz⟩ := H h
  refine go ?_
  refine cl (laws_toStep_ok a _ ht) ?_
  refine go ?_
  refine cl (spec_IntroducedNames_ok a _ hw) ?_
  refine go ?_
  refine cx (laws_toStep_live a _ ht _ (pre 0 0 0 hF hX)) ?_
  rintro _ σ5 ⟨τ5, ru, rr, Lu, Lr, rfl, hLu, hLr, hT, hG⟩
  have hF := aftP 0 0 hF hX hT hG
  have hmu : ∀ m ∈ Lu, m ∈ Lu ++ Lr := fun m hm => List.mem_append_left _ hm
  have hmr : ∀ m ∈ Lr, m ∈ Lu ++ Lr := fun m hm => List.mem_append_right _ hm
  obtain ⟨vsu, vku, hru⟩ : ∃ vs vk, ru = [.int .i64 a.use.kind, .str a.use.name, .int .i64 a.use.num, vs, vk] := by
    have h := hLu
    generalize a.use = u at h
    cases h with
    | mk h => exact ⟨_, _, rfl⟩
  obtain ⟨vsr, vkr, hrr⟩ : ∃ vs vk, rr = [.int .i64 a.res.kind, .str a.res.name, .int .i64 a.res.num, vs, vk] := by
    have h := hLr
    generalize a.res = u at h
    cases h with
    | mk h => exact ⟨_, _, rfl⟩
  subst hru
  subst hrr
  simp only [List.cons_append, List.nil_append]
  refine go ?_
  refine fx_alloc hF rfl fun b2 σ6 hF => ?_
  refine go ?_
  refine st hF 0 rfl fun σ7 hF => ?_
  refine go ?_
  refine borrowG (G := fun r' L => ∃ (rows : List (List AV)) (L0 : List OwnR), L = ⟨r', 29, 5, rows⟩ :: L0 ∧ LvL 3 29 w rows L0) (fun r' L hG hf => by
    obtain ⟨rows, L0, rfl, hL⟩ := hG
    obtain ⟨f1, f2⟩ := hL.free fun m hm => hf m (List.mem_cons_of_mem _ hm)
    refine ⟨hf _ (List.mem_cons_self ..), fun m hm => ?_⟩
    rcases List.mem_cons.1 hm with rfl | hm
    · exact f1
    · exact f2 m hm) hF (by
    have h := impl_IntroducedNames_live a _ hi sto00 ⟨by simp, by simp, by simp, .nil, by simp⟩
    refine h.mono ?_
    rintro r' σ' ⟨τ', u, rows, L, rfl, hL, hT, hG⟩
    exact ⟨τ', _, ⟨rows, L, rfl, hL⟩, hT, hG⟩) (fun r' L hG m hm => by
    obtain ⟨rows, L0, rfl, hL⟩ := hG
    rcases List.mem_cons.1 hm with rfl | hm
    · show (5 : Nat) ≠ 17
      decide
    · exact hL.noc m hm) (.cons (stp_wk hF hLu hLr hmu hmr) (fun h => h) .nil) fun g Lg σ8 hLg hF => ?_
  obtain ⟨rows, L0, rfl, hLg⟩ := hLg
  refine go ?_
  refine aCall_flat (laws_eqFormS_ok w w _ ew) .bool (.cons (hLg.wk hF (List.mem_cons_self ..) (fun m hm => by simp [hm])) (fun _ => rfl) (.cons (Wk.sub (Sub.zero _) _) id .nil)) ?_
  refine go ?_
  have mu2 : ∀ m ∈ Lu, m ∈ (⟨g, 29, 5, rows⟩ :: L0) ++ (Lu ++ Lr) := fun m hm => by simp [hm]
  have mr2 : ∀ m ∈ Lr, m ∈ (⟨g, 29, 5, rows⟩ :: L0) ++ (Lu ++ Lr) := fun m hm => by simp [hm]
  refine draw_text E0 [.v, .v, .v, .x, .z] (by kernel_rfl) ?_
  refine go ?_
  refine cv (laws_toStep_ok a _ ht) ?_
  refine go ?_
  refine aCall_flat (laws_eqStep_ok a a _ ea) .bool (.cons (stp_wk hF hLu hLr mu2 mr2) (fun h => h) (.cons (wkstp a) id .nil)) (kp_intro (Keep.refl _) ?_)
  refine go ?_
  have hF := hF.perm List.perm_append_comm
  refine cx (laws_markStep_live a 1 r s uz un rz rn hr hs _ _ Lu Lr _ hLu hLr (Fx.pre (esL := []) (bsr := [(b2, _), (b1, _)]) (esX := []) (xsr := []) hF hX)) ?_
  rintro _ σ11 ⟨τ11, Lx', rfl, hT, hG⟩
  obtain ⟨τ2, hX2, hF⟩ := Fx.after (esL := []) (bsr := [(b2, _), (b1, _)]) (esX := []) (xsr := []) (esL' := []) (esX' := []) (bn := []) hF hX hT hG rfl rfl
  rw [hX2.eq] at hF
  simp only [List.nil_append] at hF
  refine go ?_
  have hd0 : decide (s.2 < 0) = false := decide_eq_false (by omega)
  simp only [hd0]
  refine go ?_
  refine aCall_flat (laws_eqFormS_ok w w _ ew) .bool (.cons (hLg.wk (e := 29) hF (by simp) (fun m hm => by simp [hm])) (fun _ => rfl) (.cons (Wk.sub (Sub.zero _) _) id .nil)) ?_
  refine go ?_
  have hF := hF.perm List.perm_append_comm
  obtain ⟨rk, hrk⟩ := row5s hLg.len.2
  subst hrk
  refine cx (laws_markFormS_live 1000000000 (by omega) w 1 t (by omega) (by omega) hm g rk L0 _ hLg (Fx.pre (esL := []) (bsr := [(b2, _), (b1, _)]) (esX := []) (xsr := []) hF hX)) ?_
  rintro _ σ12 ⟨τ12, rk', L0', rfl, hT, hLg', hG⟩
  obtain ⟨τ3, hX3, hF⟩ := Fx.after (esL := []) (bsr := [(b2, _), (b1, _)]) (esX := []) (xsr := []) (esL' := []) (esX' := []) (bn := []) hF hX hT hG rfl rfl
  rw [hX3.eq] at hF
  simp only [List.nil_append] at hF
  refine go ?_
  refine aCall_flat (laws_heldFormS_ok t.1 1 _ hh) .int (.cons (hLg'.wk (e := 29) hF (by simp) (fun m hm => by simp [hm])) (fun _ => rfl) (.cons (Wk.sub (Sub.zero _) _) id .nil)) ?_
  refine go ?_
  refine aCnd_p _ rfl (fun h => absurd h (by omega)) fun _ => ?_
  refine go ?_
  refine cl (laws_toStep_ok a _ ht) ?_
  refine go ?_
  refine cl (impl_IntroducedNames_ok a _ hi) ?_
  refine go ?_
  refine cl (laws_eqFormS_ok w w _ ew) ?_
  refine go ?_
  refine aCall_flat (laws_heldFormS_ok t.1 1 _ hh) .int (.cons (hLg'.wk (e := 29) hF (by simp) (fun m hm => by simp [hm])) (fun _ => rfl) (.cons (Wk.sub (Sub.zero _) _) id .nil)) ?_
  refine go ?_
  refine aCnd_p _ rfl (fun h => absurd h (by omega)) fun _ => ?_
  refine go ?_
  exact rt [.bool true]
end Go.Proofs.SA

