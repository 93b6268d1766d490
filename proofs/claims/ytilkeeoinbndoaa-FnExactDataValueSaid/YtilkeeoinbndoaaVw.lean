/- A text of mine. -/
import Derived.Test.YtilkeeoinbndoaaVx
set_option maxRecDepth 100000
set_option maxHeartbeats 2000000
set_option linter.unusedSimpArgs false
set_option linter.unusedVariables false
open Go Go.Proofs Go.Proofs.Shadow
namespace Go.Proofs.SA
mutual
theorem lvR_fr {ty : Tg → TypeId} {K : AV → Prop} : ∀ {ss : List (Option Tg)} {p l : List AV} {L : List OwnR}, LvR ty K ss p l L → ∀ m ∈ L, Fr m.v
  | _, _, _, _, .nil, m, hm => by cases hm
  | _, _, _, _, .flat _ u, m, hm => lvR_fr u m hm
  | _, _, _, _, .sl hv h u, m, hm => by
    rcases List.mem_cons.1 hm with rfl | hm
    · exact hv
    · rcases List.mem_append.1 hm with hm | hm
      · exact lvRs_fr h m hm
      · exact lvR_fr u m hm
theorem lvRs_fr {ty : Tg → TypeId} {K : AV → Prop} : ∀ {t : Tg} {ps ls : List (List AV)} {L : List OwnR}, LvRs ty K t ps ls L → ∀ m ∈ L, Fr m.v
  | _, _, _, _, .nil, m, hm => by cases hm
  | _, _, _, _, .cons h u, m, hm => by
    rcases List.mem_append.1 hm with hm | hm
    · exact lvR_fr h m hm
    · exact lvRs_fr u m hm
end
theorem LvV.wk {τ σ : Sto} {bs : List (Nat × Ent)} {ms : List OwnR} (hF : Fx τ σ bs ms) {v : Val} {row : List AV} {L : List OwnR} (h : LvV v row L) (hs : ∀ m ∈ L, m ∈ ms) : Wk σ (.agg row) sto00 (.agg v.cells) :=
  LvR.wk (Sub.zero _) (fun c h => h.2) h (OwnD.of0 hF hs)
theorem row16 {row : List AV} (h : row.length = 16) : ∃ c0 c1 c2 c3 c4 c5 c6 c7 c8 c9 c10 c11 c12 c13 c14 c15, row = [c0, c1, c2, c3, c4, c5, c6, c7, c8, c9, c10, c11, c12, c13, c14, c15] := by
  match row, h with
  | [c0, c1, c2, c3, c4, c5, c6, c7, c8, c9, c10, c11, c12, c13, c14, c15], _ => exact ⟨c0, c1, c2, c3, c4, c5, c6, c7, c8, c9, c10, c11, c12, c13, c14, c15, rfl⟩
theorem markForm_nil (dk dn k : Int) (ds : ByteArray) : PCtr Try.prog 10 [.agg [.int .i64 dk, .str ds, .int .i64 dn, .sl false [], .sl false []], .int .i64 k] (.int .i64 k) := by
  intro σ
  refine hdg mixed Try.func10 (rs := [.tmp 4]) fun q tT => ?_
  have hF := Fx.refl σ
  have hX := Tau.none σ
  refine go ?_
  refine fx_alloc hF rfl fun b1 σ2 hF => ?_
  refine go ?_
  refine cl (markIntS_nil k) ?_
  refine go ?_
  refine cl (markFormS_nil k) ?_
  refine go ?_
  exact rt [.int .i64 k]
theorem markCore_nil (ck ci cn dk dn k : Int) (cs ds : ByteArray) : PCtr Try.prog 29 [.agg [.int .i64 ck, .int .i64 ci, .str cs, .int .i64 cn, .sl false [], .int .i64 dk, .str ds, .int .i64 dn, .sl false [], .sl false [], .sl false []], .int .i64 k] (.int .i64 k) := by
  intro σ
  refine hdg mixed Try.func29 (rs := [.tmp 4]) fun q tT => ?_
  have hF := Fx.refl σ
  have hX := Tau.none σ
  refine go ?_
  refine fx_alloc hF rfl fun b1 σ2 hF => ?_
  refine go ?_
  refine cl (markIntS_nil k) ?_
  refine go ?_
  refine cl (markForm_nil dk dn k ds) ?_
  refine go ?_
  refine cl (markCoreS_nil k) ?_
  refine go ?_
  exact rt [.int .i64 k]
theorem laws_markValue_live (f : Val) (k : Int) (r : List Val × Int) (ht : Thin f) (hz : f.sz ≤ 100000000) (H : markV f k = some r) : ∀ (row : List AV) (L : List OwnR) (σ : Sto), LvV f row L → Pre σ [] L → Ctr Try.prog 11 [.agg row, .int .i64 k] σ (fun r' σ' => ∃ (τ' : Sto) (L' : List OwnR), r' = .int .i64 r.2 ∧ Tau (strip σ L) [] τ' ∧ LvV (remark f r.1) row L' ∧ Fx τ' σ' [] L') := by
  intro row L σ hL hP
  have hzf := Val.sz_eq f
  obtain @⟨fk, fn, fs, its, ck, ci, cs, cn, dk, ds, dn, hits⟩ := ht
  simp only [Val.name, Val.items, Val.fn, Val.env] at hzf
  obtain ⟨vi, v8, v12, v13, v14, v15, lr, Li, g1, g2, g3, g4, g5, g6, hi, rfl, rfl⟩ := valRow_inv hL
  rw [markV] at H
  refine hdg mixed Try.func11 (rs := [.tmp 4]) fun q tT => ?_
  obtain ⟨hF, hX⟩ := hP.start
  generalize strip σ (⟨vi, 36, 16, lr⟩ :: (Li ++ [⟨v8, 3, 1, []⟩, ⟨v12, 3, 1, []⟩, ⟨v13, 30, 5, []⟩, ⟨v14, 33, 11, []⟩, ⟨v15, 67, 17, []⟩])) = τ0 at hF hX ⊢
  refine go ?_
  refine fx_alloc hF rfl fun b1 σ2 hF => ?_
  refine go ?_
  have hF := hF.perm (show (_ : List OwnR).Perm ([] ++ ((⟨vi, 36, 16, lr⟩ :: Li) ++ nil5 v8 v12 v13 v14 v15)) from List.Perm.refl _)
  refine cx (laws_markValueS_live _ its k r hits (Nat.lt_succ_self _) (by omega) H vi lr Li _ g1 hi (preM hF hX)) ?_
  rintro _ σ3 ⟨τ7, lr2, Li2, rfl, hT, hi2, hG⟩
  obtain ⟨τ8, hX, hF⟩ := aftM hF hX hT hG
  have hF : Fx τ8 σ3 [(b1, _)] (⟨vi, 36, 16, lr2⟩ :: (Li2 ++ nil5 v8 v12 v13 v14 v15)) := hF.perm (List.Perm.refl _)
  refine go ?_
  have hcore : LvR vTy kF Tg.core.shp [.int .i64 ck, .int .i64 ci, .str cs, .int .i64 cn, .sl false [], .int .i64 dk, .str ds, .int .i64 dn, .sl false [], .sl false [], .sl false []] [.int .i64 ck, .int .i64 ci, .str cs, .int .i64 cn, v8, .int .i64 dk, .str ds, .int .i64 dn, v12, v13, v14] [⟨v8, 3, 1, []⟩, ⟨v12, 3, 1, []⟩, ⟨v13, 30, 5, []⟩, ⟨v14, 33, 11, []⟩] :=
    .flat (kF.int _) (.flat (kF.int _) (.flat (kF.str _) (.flat (kF.int _) (.sl (t := .int) (L0 := []) g2 .nil (.flat (kF.int _) (.flat (kF.str _) (.flat (kF.int _) (.sl (t := .int) (L0 := []) g3 .nil (.sl (t := .form) (L0 := []) g4 .nil (.sl (t := .core) (L0 := []) g5 .nil .nil))))))))))
  refine aCall_flat (markCore_nil ck ci cn dk dn _ cs ds) .int (.cons (LvR.wk (Sub.zero _) (fun c h => h.2) hcore (OwnD.of0 hF (fun m hm => List.mem_cons_of_mem _ (List.mem_append_right _ (by simp only [nil5, List.mem_cons, List.not_mem_nil, or_false] at hm ⊢; rcases hm with h | h | h | h <;> simp [h]))))) id (.cons (Wk.sub (Sub.zero _) _) id .nil)) ?_
  refine go ?_
  refine aCall_flat (markSlotS_nil _) .int (.cons (nil_wk (t := .slot) (e := 67) hF (List.mem_cons_of_mem _ (List.mem_append_right _ (by simp [nil5, Tg.sz])))) (fun _ => rfl) (.cons (Wk.sub (Sub.zero _) _) id .nil)) ?_
  refine go ?_
  exact rg [.int .i64 r.2] ⟨_, _, rfl, hX, valRow g1 g2 g3 g4 g5 g6 hi2, hF.drop 1 0⟩
end Go.Proofs.SA

