/- A text of mine. -/
import Derived.Test.YtilkeeoinbndoaaVw
import Derived.Test.YtilkeeoinbndoaaMh
set_option maxRecDepth 100000
set_option maxHeartbeats 2000000
set_option linter.unusedSimpArgs false
set_option linter.unusedVariables false
open Go Go.Proofs Go.Proofs.Shadow
namespace Go.Proofs.SA
theorem wkcell {σ : Sto} (f : Fm) : Wk σ (.agg [.int .i64 f.kind, .str f.name, .int .i64 f.num, .sl false (rws cI f.sc), .sl false (rws Fm.cells f.kids)]) sto00 (.agg (Fm.cells f)) := by
  rw [Fm.cells_eq]
  exact Wk.sub (Sub.zero _) _
theorem wkcellV {σ : Sto} (x : Val) : Wk σ (.agg [.int .i64 x.kind, .int .i64 x.num, .str x.name, .sl false (rws Val.cells x.items), .int .i64 x.fn.kind, .int .i64 x.fn.id, .str x.fn.name, .int .i64 x.fn.num, .sl false (rws cI x.fn.ids), .int .i64 x.fn.data.kind, .str x.fn.data.name, .int .i64 x.fn.data.num, .sl false (rws cI x.fn.data.sc), .sl false (rws Fm.cells x.fn.data.kids), .sl false (rws Cor.cells x.fn.kids), .sl false (rws Slt.cells x.env)]) sto00 (.agg (Val.cells x)) := by
  rw [Val.cells_eq]
  exact Wk.sub (Sub.zero _) _
theorem laws_FnExactDataValue_ok (f : Fm) (r : Bool) (H0 : r = true ∧ DVok f) : PCtr Try.prog 3 [.agg (Fm.cells f)] (.bool r) := by
  obtain ⟨rfl, ⟨H⟩⟩ := H0
  intro σ
  refine hdg mixed Try.func3 (rs := [.tmp 2]) fun q tT => ?_
  have hF := Fx.refl σ
  have hX := Tau.none σ
  refine go ?_
  refine fx_alloc hF rfl fun b1 σ2 hF => ?_
  obtain ⟨left, hleft, H⟩ := H
  refine go ?_
  refine cl (laws_szForm_ok f 1048576 _ hleft) ?_
  refine go ?_
  refine aCnd_p _ rfl (fun h => ?_) (fun h => ?_)
  · refine go ?_
    exact rt [.bool true]
  obtain ⟨w, r, s, ht, hw, hi, ew, ef, hr, r0, hs, hh, s0, hthin, fz, fn, wz⟩ := H h
  refine go ?_
  refine cl (laws_toForm_ok f _ ht) ?_
  refine go ?_
  refine cl (spec_DataValue_ok f _ hw) ?_
  refine go ?_
  refine fx_alloc hF rfl fun b2 σ3 hF => ?_
  refine go ?_
  refine st hF 0 rfl fun σ4 hF => ?_
  refine go ?_
  refine cx (laws_toForm_live.1 f _ ht _ (pre 0 0 0 hF hX)) ?_
  rintro _ σ5 ⟨τ5, rx, Lx, rfl, hLx, hT, hG⟩
  have hF := aftP 0 0 hF hX hT hG
  refine go ?_
  refine fx_alloc hF rfl fun b3 σ6 hF => ?_
  have hLx0 := hLx
  obtain ⟨vsx, vkx, rowsx, Lkx, hrx, hmx⟩ : ∃ vs vk rows Lk, rx = [.int .i64 f.kind, .str f.name, .int .i64 f.num, vs, vk] ∧ Lx = ⟨vs, 3, 1, rws cI f.sc⟩ :: ⟨vk, 30, 5, rows⟩ :: Lk := by
    cases hLx with
    | mk hkx => exact ⟨_, _, _, _, rfl, rfl⟩
  subst hrx
  refine go ?_
  refine st hF 0 rfl fun σ7 hF => ?_
  refine go ?_
  refine borrowH (G := fun r L => ∃ row : List AV, r = .tup [.agg row, .bool w.2] ∧ LvV w.1 row L) (fun r L ⟨row, hr, hl⟩ hm => by
    obtain ⟨p1, p2⟩ := LvR.free (fun c h => h.1) hl
    refine ⟨?_, p2⟩
    subst hr
    refine .tup ?_
    intro c hc
    simp only [List.mem_cons, List.not_mem_nil, or_false] at hc
    rcases hc with rfl | rfl
    · exact .agg p1
    · exact .bool _) hF ((impl_DataValue_live f w hi hthin sto00 ⟨by simp, by simp, by simp, .nil, by simp⟩).mono fun r σ ⟨τ', row, L, e, hl, hT, hF⟩ => ⟨τ', L, ⟨row, e, hl⟩, hT, hF⟩) (fun r L ⟨row, hr, hl⟩ m hm => .inr (lvR_fr hl m hm).free) (.cons (hLx0.wk hF (fun m hm => by simpa using hm)) (fun h => h) .nil) fun rg Lg σ8 ⟨rowg, hrg, hLg⟩ hF => ?_
  subst hrg
  have hLg0 := hLg
  obtain ⟨c0, c1, c2, c3, c4, c5, c6, c7, c8, c9, c10, c11, c12, c13, c14, c15, hrow⟩ := row16 (LvR.len hLg).2
  subst hrow
  refine go ?_
  refine fx_alloc hF rfl fun b4 σ9 hF => ?_
  refine go ?_
  refine st hF 0 rfl fun σ10 hF => ?_
  refine go ?_
  refine aCall_flat (laws_eqValue_ok w.1 w.1 _ ew) .bool (.cons (hLg0.wk hF (fun m hm => by simp [hm])) id (.cons (wkcellV _) id .nil)) ?_
  refine go ?_
  refine aCnd_p False (by simp) (fun h => h.elim) fun _ => ?_
  refine go ?_
  refine draw_text E0 [.v, .v, .v, .x, .z] (by kernel_rfl) ?_
  refine go ?_
  refine cv (laws_toForm_ok f _ ht) ?_
  refine go ?_
  refine aCall_flat (laws_eqForm_ok f f _ ef) .bool (.cons (hLx0.wk hF (fun m hm => by simp [hm])) id (.cons (wkcell _) id .nil)) (kp_intro (Keep.refl _) ?_)
  refine go ?_
  have hF := hF.perm List.perm_append_comm
  refine cx (laws_markForm_live f 1 r (by omega) (by omega) hr _ Lx _ hLx0 (Fx.pre (esL := []) (bsr := [(b4, _), (b3, _), (b2, _), (b1, _)]) (esX := []) (xsr := []) hF hX)) ?_
  rintro _ σ11 ⟨τ11, Lx', rfl, hT, hLx', hG⟩
  obtain ⟨τ2, hX2, hF⟩ := Fx.after (esL := []) (bsr := [(b4, _), (b3, _), (b2, _), (b1, _)]) (esX := []) (xsr := []) (esL' := []) (esX' := []) (bn := []) hF hX hT hG rfl rfl
  rw [hX2.eq] at hF
  simp only [List.nil_append] at hF
  refine go ?_
  have hd0 : decide (r.2 < 0) = false := decide_eq_false (by omega)
  simp only [hd0]
  refine go ?_
  refine aCall_flat (laws_eqValue_ok w.1 w.1 _ ew) .bool (.cons (hLg0.wk hF (fun m hm => by simp [hm])) id (.cons (wkcellV _) id .nil)) ?_
  refine go ?_
  refine aCnd_p False (by simp) (fun h => h.elim) fun _ => ?_
  refine go ?_
  have hF := hF.perm List.perm_append_comm
  refine cx (laws_markValue_live w.1 1 s hthin (by omega) hs _ Lg _ hLg0 (Fx.pre (esL := []) (bsr := [(b4, _), (b3, _), (b2, _), (b1, _)]) (esX := []) (xsr := []) hF hX)) ?_
  rintro _ σ12 ⟨τ12, Lg', rfl, hT, hLg', hG⟩
  obtain ⟨τ3, hX3, hF⟩ := Fx.after (esL := []) (bsr := [(b4, _), (b3, _), (b2, _), (b1, _)]) (esX := []) (xsr := []) (esL' := []) (esX' := []) (bn := []) hF hX hT hG rfl rfl
  rw [hX3.eq] at hF
  simp only [List.nil_append] at hF
  refine go ?_
  refine aCall_flat (laws_heldValue_ok (remark w.1 s.1) 1 _ hh) .int (.cons (hLg'.wk hF (fun m hm => by simp [hm])) id (.cons (Wk.sub (Sub.zero _) _) id .nil)) ?_
  refine go ?_
  refine aCnd_p _ rfl (fun h => absurd h (by omega)) fun _ => ?_
  refine go ?_
  refine cl (laws_toForm_ok f _ ht) ?_
  refine go ?_
  refine cl (impl_DataValue_ok f _ hi) ?_
  refine go ?_
  refine fx_alloc hF rfl fun b5 σ13 hF => ?_
  refine go ?_
  refine st hF 0 rfl fun σ14 hF => ?_
  refine go ?_
  refine cl (laws_eqValue_ok w.1 w.1 _ ew) ?_
  refine go ?_
  refine aCnd_p False (by simp) (fun h => h.elim) fun _ => ?_
  refine go ?_
  refine aCall_flat (laws_heldValue_ok (remark w.1 s.1) 1 _ hh) .int (.cons (hLg'.wk hF (fun m hm => by simp [hm])) id (.cons (Wk.sub (Sub.zero _) _) id .nil)) ?_
  refine go ?_
  refine aCnd_p _ rfl (fun h => absurd h (by omega)) fun _ => ?_
  refine go ?_
  exact rt [.bool true]
end Go.Proofs.SA

