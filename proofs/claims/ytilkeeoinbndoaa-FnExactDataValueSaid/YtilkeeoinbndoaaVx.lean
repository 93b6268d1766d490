/- A text of mine. -/
import Derived.Test.YtilkeeoinbndoaaVv
import Derived.Test.YtilkeeoinbndoaaMh
set_option maxRecDepth 100000
set_option maxHeartbeats 2000000
set_option linter.unusedSimpArgs false
set_option linter.unusedVariables false
open Go Go.Proofs Go.Proofs.Shadow
namespace Go.Proofs.SA
abbrev nil5 (v8 v12 v13 v14 v15 : AV) : List OwnR := [⟨v8, 3, 1, []⟩, ⟨v12, 3, 1, []⟩, ⟨v13, 30, 5, []⟩, ⟨v14, 33, 11, []⟩, ⟨v15, 67, 17, []⟩]
theorem nil_wk {t : Tg} {v : AV} {e : TypeId} {τ σ : Sto} {bs : List (Nat × Ent)} {ms : List OwnR} (hF : Fx τ σ bs ms) (hm : (⟨v, e, t.sz, []⟩ : OwnR) ∈ ms) : Wk σ v sto00 (.sl false []) :=
  (LvRs.nil (ty := vTy) (K := kF) (t := t)).wk (e := e) (Sub.zero _) (fun c h => h.2) (OwnD.of0 hF (fun m hm' => by rw [List.mem_singleton.1 hm']; exact hm))
theorem fx_row {τ σ : Sto} {ms : List OwnR} {b n c i o p : Nat} {rows : List (List AV)} {row : List AV} (row' : List AV) {v : AV} {cs : List AV} {ag : Bool} {T : Nat → AV} {K : AS → Prop} (hF : Fx τ σ [] (⟨.ref b n c, 36, 16, rows.set i row⟩ :: ms)) (hi : i < rows.length) (hp : p = i * 16 + o) (hc : avCells v = some cs) (hl : cs.length = 1) (hle : o + 1 ≤ 16) (hy : splice row o cs = row') (hr' : row'.length = 16)
    (hK : ∀ σ', Fx τ σ' [] (⟨.ref b n c, 36, 16, rows.set i row'⟩ :: ms) → K ⟨T, σ'⟩) : aStore (astore (some (ag, 1)) σ (.optr b p) v) ⟨T, σ⟩ none K := by
  refine fx_osetF hF 0 (o := o) (i := i) row' hp rfl (by simp [hi]) hc hl hle hy hr' fun σ' hF => hK σ' ?_
  have hF : Fx τ σ' [] (⟨.ref b n c, 36, 16, (rows.set i row).set i row'⟩ :: ms) := hF
  rwa [List.set_set] at hF
theorem ld_row {τ σ : Sto} {ms : List OwnR} {b n c i o p : Nat} {rows : List (List AV)} {row : List AV} {v : AV} (hF : Fx τ σ [] (⟨.ref b n c, 36, 16, rows.set i row⟩ :: ms)) (hi : i < rows.length) (hp : p = i * 16 + o) (hle : o + 1 ≤ 16) (hv : (seg row o 1).bind (asVal false) = some v) : aload σ (some (false, 1)) (.optr b p) = some v :=
  aload_raw (ag := false) (k := 1) (o := o) (i := i) hF 0 hp rfl (by simp [hi]) hle hv
theorem markIntS_nl : ∀ c, loopAt Try.f26 0 = some c → ∀ (Q : AX → AS → Prop) (τ : Sto) (k : Int), (∀ (T : Nat → AV) (σ : Sto), T 1 = .int .i64 k → Fx τ σ [] [] → Q (.ex 0) ⟨T, σ⟩) → ∀ (T : Nat → AV) (σ : Sto), T 0 = .sl false [] ∧ T 1 = .int .i64 k ∧ T 5 = .int .i64 0 → Fx τ σ [] [] → aLp Try.prog c Q ⟨T, σ⟩ := by
  intro c hc Q τ k hE T σ tT hF
  obtain rfl := Option.some.inj ((rfl : loopAt Try.f26 0 = some _).symm.trans hc)
  refine aLoop_round ?_
  have q := dum
  have hX := Tau.none τ
  refine go ?_
  refine aCnd_p _ rfl (fun h => ?_) (fun h => ?_)
  · exfalso; simp at h
  · refine go ?_
    exact wq (hE _ _ S hF)
theorem markIntS_nil (k : Int) : PCtr Try.prog 26 [.sl false [], .int .i64 k] (.int .i64 k) := by
  intro σ
  refine hdg mixed Try.func26 (rs := [.tmp 4]) fun q tT => ?_
  have hF := Fx.refl σ
  have hX := Tau.none σ
  refine go ?_
  refine markIntS_nl _ rfl _ _ k ?_ _ _ ?_ hF
  · intro T σ2 tT hF
    refine go ?_
    exact rt [.int .i64 k]
  · refine ⟨?_, ?_, ?_⟩ <;> simp [upd, T0]
theorem markFormS_nl : ∀ c, loopAt Try.f27 0 = some c → ∀ (Q : AX → AS → Prop) (τ : Sto) (k : Int), (∀ (T : Nat → AV) (σ : Sto), T 1 = .int .i64 k → Fx τ σ [] [] → Q (.ex 0) ⟨T, σ⟩) → ∀ (T : Nat → AV) (σ : Sto), T 0 = .sl false [] ∧ T 1 = .int .i64 k ∧ T 5 = .int .i64 0 → Fx τ σ [] [] → aLp Try.prog c Q ⟨T, σ⟩ := by
  intro c hc Q τ k hE T σ tT hF
  obtain rfl := Option.some.inj ((rfl : loopAt Try.f27 0 = some _).symm.trans hc)
  refine aLoop_round ?_
  have q := dum
  have hX := Tau.none τ
  refine go ?_
  refine aCnd_p _ rfl (fun h => ?_) (fun h => ?_)
  · exfalso; simp at h
  · refine go ?_
    exact wq (hE _ _ S hF)
theorem markFormS_nil (k : Int) : PCtr Try.prog 27 [.sl false [], .int .i64 k] (.int .i64 k) := by
  intro σ
  refine hdg mixed Try.func27 (rs := [.tmp 4]) fun q tT => ?_
  have hF := Fx.refl σ
  have hX := Tau.none σ
  refine go ?_
  refine markFormS_nl _ rfl _ _ k ?_ _ _ ?_ hF
  · intro T σ2 tT hF
    refine go ?_
    exact rt [.int .i64 k]
  · refine ⟨?_, ?_, ?_⟩ <;> simp [upd, T0]
theorem markCoreS_nl : ∀ c, loopAt Try.f40 0 = some c → ∀ (Q : AX → AS → Prop) (τ : Sto) (k : Int), (∀ (T : Nat → AV) (σ : Sto), T 1 = .int .i64 k → Fx τ σ [] [] → Q (.ex 0) ⟨T, σ⟩) → ∀ (T : Nat → AV) (σ : Sto), T 0 = .sl false [] ∧ T 1 = .int .i64 k ∧ T 5 = .int .i64 0 → Fx τ σ [] [] → aLp Try.prog c Q ⟨T, σ⟩ := by
  intro c hc Q τ k hE T σ tT hF
  obtain rfl := Option.some.inj ((rfl : loopAt Try.f40 0 = some _).symm.trans hc)
  refine aLoop_round ?_
  have q := dum
  have hX := Tau.none τ
  refine go ?_
  refine aCnd_p _ rfl (fun h => ?_) (fun h => ?_)
  · exfalso; simp at h
  · refine go ?_
    exact wq (hE _ _ S hF)
theorem markCoreS_nil (k : Int) : PCtr Try.prog 40 [.sl false [], .int .i64 k] (.int .i64 k) := by
  intro σ
  refine hdg mixed Try.func40 (rs := [.tmp 4]) fun q tT => ?_
  have hF := Fx.refl σ
  have hX := Tau.none σ
  refine go ?_
  refine markCoreS_nl _ rfl _ _ k ?_ _ _ ?_ hF
  · intro T σ2 tT hF
    refine go ?_
    exact rt [.int .i64 k]
  · refine ⟨?_, ?_, ?_⟩ <;> simp [upd, T0]
theorem markSlotS_nl : ∀ c, loopAt Try.f30 0 = some c → ∀ (Q : AX → AS → Prop) (τ : Sto) (k : Int), (∀ (T : Nat → AV) (σ : Sto), T 1 = .int .i64 k → Fx τ σ [] [] → Q (.ex 0) ⟨T, σ⟩) → ∀ (T : Nat → AV) (σ : Sto), T 0 = .sl false [] ∧ T 1 = .int .i64 k ∧ T 5 = .int .i64 0 → Fx τ σ [] [] → aLp Try.prog c Q ⟨T, σ⟩ := by
  intro c hc Q τ k hE T σ tT hF
  obtain rfl := Option.some.inj ((rfl : loopAt Try.f30 0 = some _).symm.trans hc)
  refine aLoop_round ?_
  have q := dum
  have hX := Tau.none τ
  refine go ?_
  refine aCnd_p _ rfl (fun h => ?_) (fun h => ?_)
  · exfalso; simp at h
  · refine go ?_
    exact wq (hE _ _ S hF)
theorem markSlotS_nil (k : Int) : PCtr Try.prog 30 [.sl false [], .int .i64 k] (.int .i64 k) := by
  intro σ
  refine hdg mixed Try.func30 (rs := [.tmp 4]) fun q tT => ?_
  have hF := Fx.refl σ
  have hX := Tau.none σ
  refine go ?_
  refine markSlotS_nl _ rfl _ _ k ?_ _ _ ?_ hF
  · intro T σ2 tT hF
    refine go ?_
    exact rt [.int .i64 k]
  · refine ⟨?_, ?_, ?_⟩ <;> simp [upd, T0]
def CMV (fs : List Val) (k : Int) (r : List Val × Int) : Prop := ∀ (v : AV) (rows : List (List AV)) (L : List OwnR) (σ : Sto), Fr v → LvRs vTy kF .val (rws Val.cells fs) rows L → Pre σ [] (⟨v, 36, 16, rows⟩ :: L) → Ctr Try.prog 28 [v, .int .i64 k] σ (fun r' σ' => ∃ (τ' : Sto) (rows' : List (List AV)) (L' : List OwnR), r' = .int .i64 r.2 ∧ Tau (strip σ (⟨v, 36, 16, rows⟩ :: L)) [] τ' ∧ LvRs vTy kF .val (rws Val.cells r.1) rows' L' ∧ Fx τ' σ' [] (⟨v, 36, 16, rows'⟩ :: L'))
theorem markVL_loop (N : Nat) (hc28 : ∀ (fs : List Val) (k : Int) r, (∀ x ∈ fs, Thin x) → fs.length + sumL Val.sz fs < N → fs.length + sumL Val.sz fs ≤ 1000000000 → markVL fs k = some r → CMV fs k r) : ∀ (rf : List Val) (k : Int) (r : List Val × Int), (∀ x ∈ rf, Thin x) → rf.length + sumL Val.sz rf ≤ N → rf.length + sumL Val.sz rf ≤ 1000000000 → markVL rf k = some r → ∀ (pf : List Val) (rows : List (List AV)) (L : List OwnR), pf.length + rf.length ≤ 1000000000 → LvRs vTy kF .val (rws Val.cells (pf ++ rf)) rows L → ∀ c, loopAt Try.f28 0 = some c → ∀ (Q : AX → AS → Prop) (τ : Sto) (v : AV), (∀ (T : Nat → AV) (σ : Sto) (rows' : List (List AV)) (L' : List OwnR), T 1 = .int .i64 r.2 → LvRs vTy kF .val (rws Val.cells (pf ++ r.1)) rows' L' → Fx τ σ [] (⟨v, 36, 16, rows'⟩ :: L') → Q (.ex 0) ⟨T, σ⟩) → ∀ (T : Nat → AV) (σ : Sto), T 0 = v ∧ T 1 = .int .i64 k ∧ T 5 = .int .i64 (pf.length : Int) → Fx τ σ [] (⟨v, 36, 16, rows⟩ :: L) → aLp Try.prog c Q ⟨T, σ⟩ := by
  intro rf
  induction rf with
  | nil =>
    intro k r _ _ _ H pf rows L hl hL c hc Q τ v hE T σ tT hF
    rw [markVL] at H
    injection H with H
    subst H
    have hrl := hL.len.1
    rw [rws_len, List.append_nil] at hrl
    obtain rfl := Option.some.inj ((rfl : loopAt Try.f28 0 = some _).symm.trans hc)
    refine aLoop_round ?_
    have q := dum
    have hX := Tau.none τ
    refine go ?_
    refine aCnd_p _ rfl (fun h => ?_) (fun h => ?_)
    · exfalso; omega
    · refine go ?_
      exact wq (hE _ _ _ _ S hL hF)
  | cons f rf ih =>
    intro k r hth hn hsc H pf rows L hl hL c hc Q τ v hE T σ tT hF
    have hc0 := hc
    rw [markVL] at H
    obtain ⟨t, ht, H⟩ := bnd H
    obtain ⟨a, ha, H⟩ := bnd H
    obtain ⟨t2, ht2, H⟩ := bnd H
    obtain ⟨t3, ht3, H⟩ := bnd H
    obtain ⟨b, hb, H⟩ := bnd H
    obtain rfl := pur H
    have hrl := hL.len.1
    rw [rws_len, List.length_append] at hrl
    simp only [List.length_cons] at hrl hl hn hsc
    have hsz1 : sumL Val.sz (f :: rf) = f.sz + sumL Val.sz rf := rfl
    rw [hsz1] at hn hsc
    obtain rfl := Option.some.inj ((rfl : loopAt Try.f28 0 = some _).symm.trans hc)
    refine aLoop_round ?_
    have q := dum
    have hX := Tau.none τ
    refine go ?_
    refine aCnd_p _ rfl (fun h => ?_) (fun h => ?_)
    · have hil : pf.length < rows.length := by omega
      obtain ⟨l, A, B, C, q1, q2, q3, q4⟩ := hL.at pf.length f.cells (by simp [rws])
      have hthf := hth f (List.mem_cons_self ..)
      have hzf := Val.sz_eq f
      obtain @⟨fk, fn, fs, its, ck, ci, cs, cn, dk, ds, dn, hits⟩ := hthf
      obtain ⟨vi, v8, v12, v13, v14, v15, lr, Li, g1, g2, g3, g4, g5, g6, hi, rfl, rfl⟩ := valRow_inv q3
      subst q2
      simp only [Val.name, Val.items, Val.fn, Val.env] at hzf
      obtain ⟨b1, cap, hv⟩ := hF.refR 0 rfl hil
      subst hv
      have hset : rows.set pf.length [.int .i64 fk, .int .i64 fn, .str fs, vi, .int .i64 ck, .int .i64 ci, .str cs, .int .i64 cn, v8, .int .i64 dk, .str ds, .int .i64 dn, v12, v13, v14, v15] = rows := by
        rw [List.getElem?_eq_getElem hil] at q1
        injection q1 with q1
        rw [← q1]; simp
      have hF : Fx τ σ [] (⟨.ref b1 rows.length cap, 36, 16, rows.set pf.length [.int .i64 fk, .int .i64 fn, .str fs, vi, .int .i64 ck, .int .i64 ci, .str cs, .int .i64 cn, v8, .int .i64 dk, .str ds, .int .i64 dn, v12, v13, v14, v15]⟩ :: (A ++ ((⟨vi, 36, 16, lr⟩ :: (Li ++ nil5 v8 v12 v13 v14 v15)) ++ C))) := by rw [hset]; exact hF
      have hai := fun σ => aidx_raw (σ := σ) (e := 36) (sz := 16) (by_ := 248) (b := b1) (n := rows.length) (c := cap) (k := .i64) (i := pf.length) hil
      try simp only [go_sem, ↓reduceIte, Nat.reduceEqDiff, Nat.reduceAdd, Nat.reduceMul, Nat.reduceLeDiff, Nat.reduceLT, Int.reduceEq, Int.toNat_natCast, q, tT, hF.f, hF.m, hF.x hX, hai]
      refine fx_row (o := 0) [.int .i64 k, .int .i64 fn, .str fs, vi, .int .i64 ck, .int .i64 ci, .str cs, .int .i64 cn, v8, .int .i64 dk, .str ds, .int .i64 dn, v12, v13, v14, v15] hF hil (by first | rfl | omega) rfl rfl (by decide) (by simp [splice_eq]) rfl fun σ3 hF => ?_
      try simp only [go_sem, ↓reduceIte, Nat.reduceEqDiff, Nat.reduceAdd, Nat.reduceMul, Nat.reduceLeDiff, Nat.reduceLT, Int.reduceEq, Int.toNat_natCast, q, tT, hF.f, hF.m, hF.x hX, hai]
      refine fx_row (o := 1) [.int .i64 k, .int .i64 (IntKind.i64.wrap (k + 1)), .str fs, vi, .int .i64 ck, .int .i64 ci, .str cs, .int .i64 cn, v8, .int .i64 dk, .str ds, .int .i64 dn, v12, v13, v14, v15] hF hil (by first | rfl | omega) rfl rfl (by decide) (by simp [splice_eq]) rfl fun σ4 hF => ?_
      try simp only [go_sem, ↓reduceIte, Nat.reduceEqDiff, Nat.reduceAdd, Nat.reduceMul, Nat.reduceLeDiff, Nat.reduceLT, Int.reduceEq, Int.toNat_natCast, q, tT, hF.f, hF.m, hF.x hX, hai]
      refine cl (laws_markText_ok _ _ ht) ?_
      try simp only [go_sem, ↓reduceIte, Nat.reduceEqDiff, Nat.reduceAdd, Nat.reduceMul, Nat.reduceLeDiff, Nat.reduceLT, Int.reduceEq, Int.toNat_natCast, q, tT, hF.f, hF.m, hF.x hX, hai]
      refine fx_row (o := 2) [.int .i64 k, .int .i64 (IntKind.i64.wrap (k + 1)), .str t, vi, .int .i64 ck, .int .i64 ci, .str cs, .int .i64 cn, v8, .int .i64 dk, .str ds, .int .i64 dn, v12, v13, v14, v15] hF hil (by first | rfl | omega) rfl rfl (by decide) (by simp [splice_eq]) rfl fun σ5 hF => ?_
      have hl3 := ld_row (o := 3) (v := vi) (p := pf.length * 16 + 3) hF hil rfl (by decide) (by cases g1 <;> rfl)
      try simp only [go_sem, ↓reduceIte, Nat.reduceEqDiff, Nat.reduceAdd, Nat.reduceMul, Nat.reduceLeDiff, Nat.reduceLT, Int.reduceEq, Int.toNat_natCast, q, tT, hF.f, hF.m, hF.x hX, hai, hl3]
      have hF : Fx τ σ5 [] (((⟨.ref b1 rows.length cap, 36, 16, rows.set pf.length [.int .i64 k, .int .i64 (IntKind.i64.wrap (k + 1)), .str t, vi, .int .i64 ck, .int .i64 ci, .str cs, .int .i64 cn, v8, .int .i64 dk, .str ds, .int .i64 dn, v12, v13, v14, v15]⟩ : OwnR) :: A) ++ (((⟨vi, 36, 16, lr⟩ : OwnR) :: Li) ++ (nil5 v8 v12 v13 v14 v15 ++ C))) := by simpa using hF
      rw [markV] at ha
      refine cx (hc28 its _ a hits (by omega) (by omega) ha vi lr Li _ g1 hi (preM hF hX)) ?_
      rintro _ σ6 ⟨τ7, lr2, Li2, rfl, hT, hi2, hG⟩
      obtain ⟨τ8, hX2, hF⟩ := aftM hF hX hT hG
      rw [hX2.eq] at hF
      have hF : Fx τ σ6 [] ((⟨.ref b1 rows.length cap, 36, 16, rows.set pf.length [.int .i64 k, .int .i64 (IntKind.i64.wrap (k + 1)), .str t, vi, .int .i64 ck, .int .i64 ci, .str cs, .int .i64 cn, v8, .int .i64 dk, .str ds, .int .i64 dn, v12, v13, v14, v15]⟩ : OwnR) :: (A ++ ((⟨vi, 36, 16, lr2⟩ :: (Li2 ++ nil5 v8 v12 v13 v14 v15)) ++ C))) := by simpa using hF
      try simp only [go_sem, ↓reduceIte, Nat.reduceEqDiff, Nat.reduceAdd, Nat.reduceMul, Nat.reduceLeDiff, Nat.reduceLT, Int.reduceEq, Int.toNat_natCast, q, tT, hF.f, hF.m, hF.x hX, hai]
      refine fx_row (o := 4) [.int .i64 k, .int .i64 (IntKind.i64.wrap (k + 1)), .str t, vi, .int .i64 a.2, .int .i64 ci, .str cs, .int .i64 cn, v8, .int .i64 dk, .str ds, .int .i64 dn, v12, v13, v14, v15] hF hil (by first | rfl | omega) rfl rfl (by decide) (by simp [splice_eq]) rfl fun σ7 hF => ?_
      try simp only [go_sem, ↓reduceIte, Nat.reduceEqDiff, Nat.reduceAdd, Nat.reduceMul, Nat.reduceLeDiff, Nat.reduceLT, Int.reduceEq, Int.toNat_natCast, q, tT, hF.f, hF.m, hF.x hX, hai]
      refine fx_row (o := 5) [.int .i64 k, .int .i64 (IntKind.i64.wrap (k + 1)), .str t, vi, .int .i64 a.2, .int .i64 (IntKind.i64.wrap (a.2 + 1)), .str cs, .int .i64 cn, v8, .int .i64 dk, .str ds, .int .i64 dn, v12, v13, v14, v15] hF hil (by first | rfl | omega) rfl rfl (by decide) (by simp [splice_eq]) rfl fun σ8 hF => ?_
      try simp only [go_sem, ↓reduceIte, Nat.reduceEqDiff, Nat.reduceAdd, Nat.reduceMul, Nat.reduceLeDiff, Nat.reduceLT, Int.reduceEq, Int.toNat_natCast, q, tT, hF.f, hF.m, hF.x hX, hai]
      refine cl (laws_markText_ok _ _ ht2) ?_
      try simp only [go_sem, ↓reduceIte, Nat.reduceEqDiff, Nat.reduceAdd, Nat.reduceMul, Nat.reduceLeDiff, Nat.reduceLT, Int.reduceEq, Int.toNat_natCast, q, tT, hF.f, hF.m, hF.x hX, hai]
      refine fx_row (o := 6) [.int .i64 k, .int .i64 (IntKind.i64.wrap (k + 1)), .str t, vi, .int .i64 a.2, .int .i64 (IntKind.i64.wrap (a.2 + 1)), .str t2, .int .i64 cn, v8, .int .i64 dk, .str ds, .int .i64 dn, v12, v13, v14, v15] hF hil (by first | rfl | omega) rfl rfl (by decide) (by simp [splice_eq]) rfl fun σ9 hF => ?_
      try simp only [go_sem, ↓reduceIte, Nat.reduceEqDiff, Nat.reduceAdd, Nat.reduceMul, Nat.reduceLeDiff, Nat.reduceLT, Int.reduceEq, Int.toNat_natCast, q, tT, hF.f, hF.m, hF.x hX, hai]
      refine fx_row (o := 7) [.int .i64 k, .int .i64 (IntKind.i64.wrap (k + 1)), .str t, vi, .int .i64 a.2, .int .i64 (IntKind.i64.wrap (a.2 + 1)), .str t2, .int .i64 (IntKind.i64.wrap ((IntKind.i64.wrap ((IntKind.i64.wrap (a.2 + 1)) + 1)) + 1)), v8, .int .i64 dk, .str ds, .int .i64 dn, v12, v13, v14, v15] hF hil (by first | rfl | omega) rfl rfl (by decide) (by simp [splice_eq]) rfl fun σ10 hF => ?_
      have hl8 := ld_row (o := 8) (v := v8) (p := pf.length * 16 + 8) hF hil rfl (by decide) (by cases g2 <;> rfl)
      try simp only [go_sem, ↓reduceIte, Nat.reduceEqDiff, Nat.reduceAdd, Nat.reduceMul, Nat.reduceLeDiff, Nat.reduceLT, Int.reduceEq, Int.toNat_natCast, q, tT, hF.f, hF.m, hF.x hX, hai, hl8]
      refine aCall_flat (markIntS_nil _) .int (.cons (nil_wk (t := .int) (e := 3) hF (List.mem_cons_of_mem _ (List.mem_append_right _ (List.mem_append_left _ (List.mem_cons_of_mem _ (List.mem_append_right _ (by simp [nil5, Tg.sz]))))))) (fun _ => rfl) (.cons (Wk.sub (Sub.zero _) _) id .nil)) ?_
      try simp only [go_sem, ↓reduceIte, Nat.reduceEqDiff, Nat.reduceAdd, Nat.reduceMul, Nat.reduceLeDiff, Nat.reduceLT, Int.reduceEq, Int.toNat_natCast, q, tT, hF.f, hF.m, hF.x hX, hai]
      refine fx_row (o := 9) [.int .i64 k, .int .i64 (IntKind.i64.wrap (k + 1)), .str t, vi, .int .i64 a.2, .int .i64 (IntKind.i64.wrap (a.2 + 1)), .str t2, .int .i64 (IntKind.i64.wrap ((IntKind.i64.wrap ((IntKind.i64.wrap (a.2 + 1)) + 1)) + 1)), v8, .int .i64 (IntKind.i64.wrap ((IntKind.i64.wrap ((IntKind.i64.wrap ((IntKind.i64.wrap (a.2 + 1)) + 1)) + 1)) + 1)), .str ds, .int .i64 dn, v12, v13, v14, v15] hF hil (by first | rfl | omega) rfl rfl (by decide) (by simp [splice_eq]) rfl fun σ11 hF => ?_
      try simp only [go_sem, ↓reduceIte, Nat.reduceEqDiff, Nat.reduceAdd, Nat.reduceMul, Nat.reduceLeDiff, Nat.reduceLT, Int.reduceEq, Int.toNat_natCast, q, tT, hF.f, hF.m, hF.x hX, hai]
      refine cl (laws_markText_ok _ _ ht3) ?_
      try simp only [go_sem, ↓reduceIte, Nat.reduceEqDiff, Nat.reduceAdd, Nat.reduceMul, Nat.reduceLeDiff, Nat.reduceLT, Int.reduceEq, Int.toNat_natCast, q, tT, hF.f, hF.m, hF.x hX, hai]
      refine fx_row (o := 10) [.int .i64 k, .int .i64 (IntKind.i64.wrap (k + 1)), .str t, vi, .int .i64 a.2, .int .i64 (IntKind.i64.wrap (a.2 + 1)), .str t2, .int .i64 (IntKind.i64.wrap ((IntKind.i64.wrap ((IntKind.i64.wrap (a.2 + 1)) + 1)) + 1)), v8, .int .i64 (IntKind.i64.wrap ((IntKind.i64.wrap ((IntKind.i64.wrap ((IntKind.i64.wrap (a.2 + 1)) + 1)) + 1)) + 1)), .str t3, .int .i64 dn, v12, v13, v14, v15] hF hil (by first | rfl | omega) rfl rfl (by decide) (by simp [splice_eq]) rfl fun σ12 hF => ?_
      try simp only [go_sem, ↓reduceIte, Nat.reduceEqDiff, Nat.reduceAdd, Nat.reduceMul, Nat.reduceLeDiff, Nat.reduceLT, Int.reduceEq, Int.toNat_natCast, q, tT, hF.f, hF.m, hF.x hX, hai]
      refine fx_row (o := 11) [.int .i64 k, .int .i64 (IntKind.i64.wrap (k + 1)), .str t, vi, .int .i64 a.2, .int .i64 (IntKind.i64.wrap (a.2 + 1)), .str t2, .int .i64 (IntKind.i64.wrap ((IntKind.i64.wrap ((IntKind.i64.wrap (a.2 + 1)) + 1)) + 1)), v8, .int .i64 (IntKind.i64.wrap ((IntKind.i64.wrap ((IntKind.i64.wrap ((IntKind.i64.wrap (a.2 + 1)) + 1)) + 1)) + 1)), .str t3, .int .i64 (IntKind.i64.wrap ((IntKind.i64.wrap ((IntKind.i64.wrap ((IntKind.i64.wrap ((IntKind.i64.wrap ((IntKind.i64.wrap (a.2 + 1)) + 1)) + 1)) + 1)) + 1)) + 1)), v12, v13, v14, v15] hF hil (by first | rfl | omega) rfl rfl (by decide) (by simp [splice_eq]) rfl fun σ13 hF => ?_
      have hl12 := ld_row (o := 12) (v := v12) (p := pf.length * 16 + 12) hF hil rfl (by decide) (by cases g3 <;> rfl)
      try simp only [go_sem, ↓reduceIte, Nat.reduceEqDiff, Nat.reduceAdd, Nat.reduceMul, Nat.reduceLeDiff, Nat.reduceLT, Int.reduceEq, Int.toNat_natCast, q, tT, hF.f, hF.m, hF.x hX, hai, hl12]
      refine aCall_flat (markIntS_nil _) .int (.cons (nil_wk (t := .int) (e := 3) hF (List.mem_cons_of_mem _ (List.mem_append_right _ (List.mem_append_left _ (List.mem_cons_of_mem _ (List.mem_append_right _ (by simp [nil5, Tg.sz]))))))) (fun _ => rfl) (.cons (Wk.sub (Sub.zero _) _) id .nil)) ?_
      have hl13 := ld_row (o := 13) (v := v13) (p := pf.length * 16 + 13) hF hil rfl (by decide) (by cases g4 <;> rfl)
      try simp only [go_sem, ↓reduceIte, Nat.reduceEqDiff, Nat.reduceAdd, Nat.reduceMul, Nat.reduceLeDiff, Nat.reduceLT, Int.reduceEq, Int.toNat_natCast, q, tT, hF.f, hF.m, hF.x hX, hai, hl13]
      refine aCall_flat (markFormS_nil _) .int (.cons (nil_wk (t := .form) (e := 30) hF (List.mem_cons_of_mem _ (List.mem_append_right _ (List.mem_append_left _ (List.mem_cons_of_mem _ (List.mem_append_right _ (by simp [nil5, Tg.sz]))))))) (fun _ => rfl) (.cons (Wk.sub (Sub.zero _) _) id .nil)) ?_
      have hl14 := ld_row (o := 14) (v := v14) (p := pf.length * 16 + 14) hF hil rfl (by decide) (by cases g5 <;> rfl)
      try simp only [go_sem, ↓reduceIte, Nat.reduceEqDiff, Nat.reduceAdd, Nat.reduceMul, Nat.reduceLeDiff, Nat.reduceLT, Int.reduceEq, Int.toNat_natCast, q, tT, hF.f, hF.m, hF.x hX, hai, hl14]
      refine aCall_flat (markCoreS_nil _) .int (.cons (nil_wk (t := .core) (e := 33) hF (List.mem_cons_of_mem _ (List.mem_append_right _ (List.mem_append_left _ (List.mem_cons_of_mem _ (List.mem_append_right _ (by simp [nil5, Tg.sz]))))))) (fun _ => rfl) (.cons (Wk.sub (Sub.zero _) _) id .nil)) ?_
      have hl15 := ld_row (o := 15) (v := v15) (p := pf.length * 16 + 15) hF hil rfl (by decide) (by cases g6 <;> rfl)
      try simp only [go_sem, ↓reduceIte, Nat.reduceEqDiff, Nat.reduceAdd, Nat.reduceMul, Nat.reduceLeDiff, Nat.reduceLT, Int.reduceEq, Int.toNat_natCast, q, tT, hF.f, hF.m, hF.x hX, hai, hl15]
      refine aCall_flat (markSlotS_nil _) .int (.cons (nil_wk (t := .slot) (e := 67) hF (List.mem_cons_of_mem _ (List.mem_append_right _ (List.mem_append_left _ (List.mem_cons_of_mem _ (List.mem_append_right _ (by simp [nil5, Tg.sz]))))))) (fun _ => rfl) (.cons (Wk.sub (Sub.zero _) _) id .nil)) ?_
      refine go ?_
      have hL2 := q4 (Val.cells (.mk k (IntKind.i64.wrap (k + 1)) t a.1 (.mk a.2 (IntKind.i64.wrap (a.2 + 1)) t2 (IntKind.i64.wrap ((IntKind.i64.wrap ((IntKind.i64.wrap (a.2 + 1)) + 1)) + 1)) [] (.mk (IntKind.i64.wrap ((IntKind.i64.wrap ((IntKind.i64.wrap ((IntKind.i64.wrap (a.2 + 1)) + 1)) + 1)) + 1)) t3 (IntKind.i64.wrap ((IntKind.i64.wrap ((IntKind.i64.wrap ((IntKind.i64.wrap ((IntKind.i64.wrap ((IntKind.i64.wrap (a.2 + 1)) + 1)) + 1)) + 1)) + 1)) + 1)) [] []) []) [] : Val)) _ _ (valRow g1 g2 g3 g4 g5 g6 hi2)
      have hrs : (rws Val.cells (pf ++ (.mk fk fn fs its (.mk ck ci cs cn [] (.mk dk ds dn [] []) []) [] : Val) :: rf)).set pf.length (Val.cells (.mk k (IntKind.i64.wrap (k + 1)) t a.1 (.mk a.2 (IntKind.i64.wrap (a.2 + 1)) t2 (IntKind.i64.wrap ((IntKind.i64.wrap ((IntKind.i64.wrap (a.2 + 1)) + 1)) + 1)) [] (.mk (IntKind.i64.wrap ((IntKind.i64.wrap ((IntKind.i64.wrap ((IntKind.i64.wrap (a.2 + 1)) + 1)) + 1)) + 1)) t3 (IntKind.i64.wrap ((IntKind.i64.wrap ((IntKind.i64.wrap ((IntKind.i64.wrap ((IntKind.i64.wrap ((IntKind.i64.wrap (a.2 + 1)) + 1)) + 1)) + 1)) + 1)) + 1)) [] []) []) [] : Val)) = rws Val.cells ((pf ++ [(.mk k (IntKind.i64.wrap (k + 1)) t a.1 (.mk a.2 (IntKind.i64.wrap (a.2 + 1)) t2 (IntKind.i64.wrap ((IntKind.i64.wrap ((IntKind.i64.wrap (a.2 + 1)) + 1)) + 1)) [] (.mk (IntKind.i64.wrap ((IntKind.i64.wrap ((IntKind.i64.wrap ((IntKind.i64.wrap (a.2 + 1)) + 1)) + 1)) + 1)) t3 (IntKind.i64.wrap ((IntKind.i64.wrap ((IntKind.i64.wrap ((IntKind.i64.wrap ((IntKind.i64.wrap ((IntKind.i64.wrap (a.2 + 1)) + 1)) + 1)) + 1)) + 1)) + 1)) [] []) []) [] : Val)]) ++ rf) := by simp [rws]
      rw [hrs] at hL2
      have hw : IntKind.i64.wrap ((pf.length : Int) + 1) = ((pf ++ [(.mk k (IntKind.i64.wrap (k + 1)) t a.1 (.mk a.2 (IntKind.i64.wrap (a.2 + 1)) t2 (IntKind.i64.wrap ((IntKind.i64.wrap ((IntKind.i64.wrap (a.2 + 1)) + 1)) + 1)) [] (.mk (IntKind.i64.wrap ((IntKind.i64.wrap ((IntKind.i64.wrap ((IntKind.i64.wrap (a.2 + 1)) + 1)) + 1)) + 1)) t3 (IntKind.i64.wrap ((IntKind.i64.wrap ((IntKind.i64.wrap ((IntKind.i64.wrap ((IntKind.i64.wrap ((IntKind.i64.wrap (a.2 + 1)) + 1)) + 1)) + 1)) + 1)) + 1)) [] []) []) [] : Val)]).length : Int) := by
        rw [List.length_append]
        exact wrapN (by omega)
      refine ih _ b (fun x hx => hth x (List.mem_cons_of_mem _ hx)) (by omega) (by omega) hb (pf ++ [(.mk k (IntKind.i64.wrap (k + 1)) t a.1 (.mk a.2 (IntKind.i64.wrap (a.2 + 1)) t2 (IntKind.i64.wrap ((IntKind.i64.wrap ((IntKind.i64.wrap (a.2 + 1)) + 1)) + 1)) [] (.mk (IntKind.i64.wrap ((IntKind.i64.wrap ((IntKind.i64.wrap ((IntKind.i64.wrap (a.2 + 1)) + 1)) + 1)) + 1)) t3 (IntKind.i64.wrap ((IntKind.i64.wrap ((IntKind.i64.wrap ((IntKind.i64.wrap ((IntKind.i64.wrap ((IntKind.i64.wrap (a.2 + 1)) + 1)) + 1)) + 1)) + 1)) + 1)) [] []) []) [] : Val)]) _ _ (by simp; omega) hL2 _ hc0 Q τ _ (fun T σ rows' L' hT hL hF => hE T σ rows' L' hT (by rw [List.append_assoc] at hL; exact hL) hF) _ _ ?_ hF
      refine ⟨?_, ?_, ?_⟩ <;> simp [upd, tT, hw]
    · exfalso; omega
theorem laws_markValueS_live : ∀ (N : Nat) (fs : List Val) (k : Int) r, (∀ x ∈ fs, Thin x) → fs.length + sumL Val.sz fs < N → fs.length + sumL Val.sz fs ≤ 1000000000 → markVL fs k = some r → CMV fs k r := by
  intro N
  induction N with
  | zero => intro fs k r _ h; omega
  | succ N ih =>
    intro fs k r hth hn hz H v rows L σ hv hL hP
    refine hdg mixed Try.func28 (rs := [.tmp 4]) fun q tT => ?_
    obtain ⟨hF, hX⟩ := hP.start
    generalize strip σ (⟨v, 36, 16, rows⟩ :: L) = τ0 at hF hX ⊢
    refine go ?_
    refine markVL_loop N ih fs k r hth (by omega) hz H [] rows L (by simp; omega) hL _ rfl _ _ v ?_ _ _ ?_ hF
    · intro T σ2 rows' L' tT hL hF
      refine go ?_
      exact rg [.int .i64 r.2] ⟨_, rows', L', rfl, hX, hL, hF⟩
    · refine ⟨?_, ?_, ?_⟩ <;> simp [upd, T0]
end Go.Proofs.SA

