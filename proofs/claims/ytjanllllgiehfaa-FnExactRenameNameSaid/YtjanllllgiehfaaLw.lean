import Derived.Test.YtjanllllgiehfaaLv
import Derived.Test.YtjanllllgiehfaaSaTy
import Derived.Test.YtjanllllgiehfaaChecked
import Derived.Lib.Strings
import Derived.Lib.Slices
import Derived.Lib.Walk
import Derived.Lib.Bytealg
import Derived.Test.YtjanllllgiehfaarnD
import Derived.Test.YtjanllllgiehfaaLo
import Derived.Test.YtjanllllgiehfaaLb
import Derived.Test.YtjanllllgiehfaaMc
set_option maxRecDepth 100000
set_option maxHeartbeats 2000000
set_option linter.unusedSimpArgs false
set_option linter.unusedVariables false
open Go Go.Proofs Go.Proofs.Shadow
namespace Go.Proofs.SA
mutual
theorem lvF_noc {f : Fm} {r : List AV} {L : List OwnR} : LvF 3 29 f r L → ∀ m ∈ L, m.sz ≠ 17
  | .mk h, m, hm => by
    rcases List.mem_cons.1 hm with rfl | hm
    · show (1 : Nat) ≠ 17
      decide
    rcases List.mem_cons.1 hm with rfl | hm
    · show (5 : Nat) ≠ 17
      decide
    exact lvL_noc h m hm
theorem lvL_noc {fs : List Fm} {rs : List (List AV)} {L : List OwnR} : LvL 3 29 fs rs L → ∀ m ∈ L, m.sz ≠ 17
  | .nil, m, hm => by cases hm
  | .cons h t, m, hm => by
    rcases List.mem_append.1 hm with hm | hm
    · exact lvF_noc h m hm
    · exact lvL_noc t m hm
end
theorem wkcell {σ : Sto} (f : Fm) : Wk σ (.agg [.int .i64 f.kind, .str f.name, .int .i64 f.num, .sl false (rws cI f.sc), .sl false (rws Fm.cells f.kids)]) sto00 (.agg (Fm.cells f)) := by
  rw [Fm.cells_eq]
  exact Wk.sub (Sub.zero _) _
theorem laws_FnExactRenameName_ok (f : Fm) (o n : ByteArray) (r : Bool) (H0 : r = true ∧ RNok f o n) : PCtr Try.prog 3 [.agg (Fm.cells f), .str o, .str n] (.bool r) := by
  obtain ⟨rfl, ⟨H⟩⟩ := H0
  intro σ
  refine hdg mixed Try.func3 (rs := [.tmp 6]) fun q tT => ?_
  have hF := Fx.refl σ
  have hX := Tau.none σ
  refine go ?_
  refine fx_alloc hF rfl fun b1 σ2 hF => ?_
  refine go ?_
  refine aCnd_p _ rfl (fun h => ?_) (fun h1 => ?_)
  · refine go ?_
    exact rt [.bool true]
  refine go ?_
  refine aCnd_p _ rfl (fun h => ?_) (fun h2 => ?_)
  · refine go ?_
    exact rt [.bool true]
  obtain ⟨left, hleft, H⟩ := H (by omega) (by omega)
  refine go ?_
  refine cl (laws_szForm_ok f 1048576 _ hleft) ?_
  refine go ?_
  refine aCnd_p _ rfl (fun h => ?_) (fun h => ?_)
  · refine go ?_
    exact rt [.bool true]
  obtain ⟨w, r, s, ht, hw, hi, ew, ef, hr, r0, hs, hh, s0, fz, fn, wz, wn⟩ := H h
  refine go ?_
  refine cl (laws_toForm_ok f _ ht) ?_
  refine go ?_
  refine cl (spec_RenameName_ok f o n _ hw) ?_
  refine go ?_
  refine fx_alloc hF rfl fun b2 σ3 hF => ?_
  refine go ?_
  refine st hF 0 rfl fun σ4 hF => ?_
  refine go ?_
  refine cx (laws_toForm_live.1 f _ ht _ (pre 0 0 0 hF hX)) ?_
  rintro _ σ5 ⟨τ5, rx, Lx, rfl, hLx, hT, hG⟩
  have hF := aftP 0 0 hF hX hT hG
  refine go ?_
  refine fx_alloc hF rfl fun b3 σ6 hF => ?_
  have hLx0 := hLx
  obtain ⟨vsx, vkx, rowsx, Lkx, hrx, hmx⟩ : ∃ vs vk rows Lk, rx = [.int .i64 f.kind, .str f.name, .int .i64 f.num, vs, vk] ∧ Lx = ⟨vs, 3, 1, rws cI f.sc⟩ :: ⟨vk, 29, 5, rows⟩ :: Lk := by
    cases hLx with
    | mk hkx => exact ⟨_, _, _, _, rfl, rfl⟩
  subst hrx
  refine go ?_
  refine st hF 0 rfl fun σ7 hF => ?_
  refine go ?_
  refine borrow (tI := 3) (tF := 29) (R := fun row => .tup [.agg row, .bool w.2]) (fun row h => .tup (by
    intro c hc
    simp only [List.mem_cons, List.not_mem_nil, or_false] at hc
    rcases hc with rfl | rfl
    · exact .agg h
    · exact .bool _)) hF (impl_RenameName_live _ o n _ hi sto00 ⟨by simp, by simp, by simp, .nil, by simp⟩) (fun _ _ h => lvF_noc h) (.cons (hLx0.wk hF (fun m hm => by simpa using hm)) (fun h => h) (.cons (Wk.sub (Sub.zero _) _) id (.cons (Wk.sub (Sub.zero _) _) id .nil))) fun rg Lg σ8 hLg hF => ?_
  have hLg0 := hLg
  obtain ⟨vsg, vkg, rowsg, Lkg, hrg, hmg⟩ : ∃ vs vk rows Lk, rg = [.int .i64 w.1.kind, .str w.1.name, .int .i64 w.1.num, vs, vk] ∧ Lg = ⟨vs, 3, 1, rws cI w.1.sc⟩ :: ⟨vk, 29, 5, rows⟩ :: Lk := by
    generalize w.1 = w1 at hLg
    cases hLg with
    | mk hkx => exact ⟨_, _, _, _, rfl, rfl⟩
  subst hrg
  refine go ?_
  refine fx_alloc hF rfl fun b4 σ9 hF => ?_
  refine go ?_
  refine st hF 0 rfl fun σ10 hF => ?_
  refine go ?_
  refine aCall_flat (laws_eqForm_ok w.1 w.1 _ ew) .bool (.cons (hLg0.wk hF (fun m hm => by simp [hm])) id (.cons (wkcell _) id .nil)) ?_
  refine go ?_
  refine aCnd_p False (by simp) (fun h => h.elim) fun _ => ?_
  refine go ?_
  refine draw_text E0 [.v, .v, .v, .x, .z] (by kernel_rfl) ?_
  refine go ?_
  refine cv (laws_toForm_ok f _ ht) ?_
  refine go ?_
  refine aCall_flat (laws_eqForm_ok f f _ ef) .bool (.cons (hLx0.wk hF (fun m hm => by simp [hm])) id (.cons (wkcell _) id .nil)) (kp_intro (Keep.refl _) ?_)
  refine go ?_
  have hF := hF.perm List.perm_append_comm
  refine cx (laws_markForm_live f 1 r fz fn hr _ Lx _ hLx0 (Fx.pre (esL := []) (bsr := [(b4, _), (b3, _), (b2, _), (b1, _)]) (esX := []) (xsr := []) hF hX)) ?_
  rintro _ σ11 ⟨τ11, Lx', rfl, hT, hLx', hG⟩
  obtain ⟨τ2, hX2, hF⟩ := Fx.after (esL := []) (bsr := [(b4, _), (b3, _), (b2, _), (b1, _)]) (esX := []) (xsr := []) (esL' := []) (esX' := []) (bn := []) hF hX hT hG rfl rfl
  rw [hX2.eq] at hF
  simp only [List.nil_append] at hF
  refine go ?_
  have hd0 : decide (r.2 < 0) = false := decide_eq_false (by omega)
  simp only [hd0]
  refine go ?_
  refine aCall_flat (laws_eqForm_ok w.1 w.1 _ ew) .bool (.cons (hLg0.wk hF (fun m hm => by simp [hm])) id (.cons (wkcell _) id .nil)) ?_
  refine go ?_
  refine aCnd_p False (by simp) (fun h => h.elim) fun _ => ?_
  refine go ?_
  have hF := hF.perm List.perm_append_comm
  refine cx (laws_markForm_live w.1 1 s wz wn hs _ Lg _ hLg0 (Fx.pre (esL := []) (bsr := [(b4, _), (b3, _), (b2, _), (b1, _)]) (esX := []) (xsr := []) hF hX)) ?_
  rintro _ σ12 ⟨τ12, Lg', rfl, hT, hLg', hG⟩
  obtain ⟨τ3, hX3, hF⟩ := Fx.after (esL := []) (bsr := [(b4, _), (b3, _), (b2, _), (b1, _)]) (esX := []) (xsr := []) (esL' := []) (esX' := []) (bn := []) hF hX hT hG rfl rfl
  rw [hX3.eq] at hF
  simp only [List.nil_append] at hF
  refine go ?_
  refine aCall_flat (laws_heldForm_ok s.1 1 _ hh) .int (.cons (hLg'.wk hF (fun m hm => by simp [hm])) id (.cons (Wk.sub (Sub.zero _) _) id .nil)) ?_
  refine go ?_
  refine aCnd_p _ rfl (fun h => absurd h (by omega)) fun _ => ?_
  refine go ?_
  refine cl (laws_toForm_ok f _ ht) ?_
  refine go ?_
  refine cl (impl_RenameName_ok f o n _ hi) ?_
  refine go ?_
  refine fx_alloc hF rfl fun b5 σ13 hF => ?_
  refine go ?_
  refine st hF 0 rfl fun σ14 hF => ?_
  refine go ?_
  refine cl (laws_eqForm_ok w.1 w.1 _ ew) ?_
  refine go ?_
  refine aCnd_p False (by simp) (fun h => h.elim) fun _ => ?_
  refine go ?_
  refine aCall_flat (laws_heldForm_ok s.1 1 _ hh) .int (.cons (hLg'.wk hF (fun m hm => by simp [hm])) id (.cons (Wk.sub (Sub.zero _) _) id .nil)) ?_
  refine go ?_
  refine aCnd_p _ rfl (fun h => absurd h (by omega)) fun _ => ?_
  refine go ?_
  exact rt [.bool true]
end Go.Proofs.SA
