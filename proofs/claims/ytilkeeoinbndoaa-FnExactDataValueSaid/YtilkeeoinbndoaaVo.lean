/- A text of mine. -/
import Derived.Test.YtilkeeoinbndoaaLg
import Derived.Test.YtilkeeoinbndoaaSaTy
import Derived.Test.YtilkeeoinbndoaaChecked
import Derived.Lib.Strings
import Derived.Lib.Slices
import Derived.Lib.Walk
import Derived.Lib.Bytealg
import Derived.Test.YtilkeeoinbndoaadvD
import Derived.Test.YtilkeeoinbndoaaVm
set_option maxRecDepth 100000
set_option maxHeartbeats 2000000
set_option linter.unusedSimpArgs false
set_option linter.unusedVariables false
open Go Go.Proofs Go.Proofs.Shadow
namespace Go.Proofs.SA
abbrev Row5 := {r : List AV // r.length = 5}
theorem fx_mid {τ σ : Sto} {bs : List (Nat × Ent)} {ms : List OwnR} {b n cap : Nat} {pl rl : List Row5} {r0 : Row5} (hF : Fx τ σ bs (⟨.ref b n cap, 30, 5, rws Subtype.val (pl ++ r0 :: rl)⟩ :: ms)) {ag : Bool} {o p : Nat} {v : AV} {cs : List AV} {T : Nat → AV} {K : AS → Prop} (y : Row5) (hp : p = pl.length * 5 + o) (hc : avCells v = some cs) (hl : cs.length = 1) (hle : o + 1 ≤ 5) (hy : splice r0.val o cs = y.val)
    (hK : ∀ σ', Fx τ σ' bs (⟨.ref b n cap, 30, 5, rws Subtype.val (pl ++ y :: rl)⟩ :: ms) → K ⟨T, σ'⟩) : aStore (astore (some (ag, 1)) σ (.optr b p) v) ⟨T, σ⟩ none K := by
  have hx : idx (pl ++ r0 :: rl) (pl.length : Int) = some r0 := by
    unfold idx
    simp
  refine fx_oset (g := Subtype.val) (i := (pl.length : Int)) hF 0 (o := o) y (fun x => x.2) (by simpa using hp) rfl hx hc hl hle hy fun σ' hF => hK σ' ?_
  have : (pl ++ r0 :: rl).set (pl.length : Int).toNat y = pl ++ y :: rl := by simp
  rw [this] at hF
  exact hF
/-- What markFormS does to a live list. -/
def CM19 (fs : List Fm) (k : Int) (r : List Fm × Int) : Prop := ∀ (v : AV) (rows : List Row5) (L : List OwnR) (σ : Sto), LvL 3 30 fs (rws Subtype.val rows) L → Pre σ [] (⟨v, 30, 5, rws Subtype.val rows⟩ :: L) → Ctr Try.prog 27 [v, .int .i64 k] σ (fun r' σ' => ∃ (τ' : Sto) (rows' : List Row5) (L' : List OwnR), r' = .int .i64 r.2 ∧ Tau (strip σ (⟨v, 30, 5, rws Subtype.val rows⟩ :: L)) [] τ' ∧ LvL 3 30 r.1 (rws Subtype.val rows') L' ∧ Fx τ' σ' [] (⟨v, 30, 5, rws Subtype.val rows'⟩ :: L'))
theorem markL_loop (N : Nat) (hN : N ≤ 1000000000) (hc19 : ∀ (fs : List Fm) (k : Int) r, sumL Fm.nodes fs < N → sumL Fm.sz fs ≤ 1000000000 → markL fs k = some r → CM19 fs k r) : ∀ (rf : List Fm) (k : Int) (r : List Fm × Int), sumL Fm.nodes rf ≤ N → sumL Fm.sz rf ≤ 1000000000 → markL rf k = some r → ∀ (pf : List Fm) (pl rl : List Row5) (Lp Lr : List OwnR), pl.length + rl.length ≤ 1000000000 → LvL 3 30 pf (rws Subtype.val pl) Lp → LvL 3 30 rf (rws Subtype.val rl) Lr → ∀ c, loopAt Try.f27 0 = some c → ∀ (Q : AX → AS → Prop) (τ : Sto) (v : AV), (∀ (T : Nat → AV) (σ : Sto) (rows' : List Row5) (L' : List OwnR), T 1 = .int .i64 r.2 → LvL 3 30 (pf ++ r.1) (rws Subtype.val rows') L' → Fx τ σ [] (⟨v, 30, 5, rws Subtype.val rows'⟩ :: L') → Q (.ex 0) ⟨T, σ⟩) → ∀ (T : Nat → AV) (σ : Sto), T 0 = v ∧ T 1 = .int .i64 k ∧ T 5 = .int .i64 (pl.length : Int) → Fx τ σ [] (⟨v, 30, 5, rws Subtype.val (pl ++ rl)⟩ :: (Lp ++ Lr)) → aLp Try.prog c Q ⟨T, σ⟩ := by
  intro rf
  induction rf with
  | nil =>
    intro k r _ _ H pf pl rl Lp Lr hl hp hr c hc Q τ v hE T σ tT hF
    rw [markL] at H
    injection H with H
    subst H
    have hrl : rl = [] := by
      have := hr.len.1
      simp [rws] at this
      exact this
    subst hrl
    cases hr
    obtain rfl := Option.some.inj ((rfl : loopAt Try.f27 0 = some _).symm.trans hc)
    refine aLoop_round ?_
    have q := dum
    have hX := Tau.none τ
    refine go ?_
    refine aCnd_p _ rfl (fun h => ?_) (fun h => ?_)
    · exfalso; simp at h
    · refine go ?_
      exact wq (hE _ _ _ _ S (by rw [List.append_nil]; exact hp) (by rw [List.append_nil, List.append_nil] at hF; exact hF))
  | cons f rf ih =>
    intro k r hn hsc H pf pl rl Lp Lr hl hp hr c hc Q τ v hE T σ tT hF
    have hc0 := hc
    rw [markL] at H
    obtain ⟨t, ht, H⟩ := bnd H
    obtain ⟨a, ha, H⟩ := bnd H
    obtain ⟨b, hb, H⟩ := bnd H
    obtain rfl := pur H
    obtain ⟨r0, rl', rfl⟩ : ∃ r0 rl', rl = r0 :: rl' := by
      cases rl with
      | nil => have := hr.len.1; simp [rws] at this
      | cons x y => exact ⟨x, y, rfl⟩
    rw [show rws Subtype.val (r0 :: rl') = r0.val :: rws Subtype.val rl' from rfl] at hr
    cases hr with
    | cons hM hr' =>
    rename_i M Lr'
    simp only [List.length_cons] at hl
    obtain rfl := Option.some.inj ((rfl : loopAt Try.f27 0 = some _).symm.trans hc)
    refine aLoop_round ?_
    have q := dum
    have hX := Tau.none τ
    have hx : idx (pl ++ r0 :: rl') (pl.length : Int) = some r0 := by
      unfold idx
      simp
    refine go ?_
    refine aCnd_p _ rfl (fun h => ?_) (fun h => ?_)
    · obtain ⟨b1, cap, hv⟩ := hF.ref 0 rfl hx
      subst hv
      obtain ⟨r0v, r0p⟩ := r0
      change LvF 3 30 f r0v M at hM
      cases hM with
      | @mk kk n s sc ks vs vk rowsk Lk hk =>
      try simp only [go_sem, ↓reduceIte, Nat.reduceEqDiff, Nat.reduceAdd, Nat.reduceMul, Nat.reduceLeDiff, Nat.reduceLT, Int.reduceEq, Int.toNat_natCast, q, tT, hF.f, hF.m, hF.x hX, aidx_own (l := pl ++ _ :: rl') rfl hx]
      refine fx_mid hF ⟨[.int .i64 k, .str s, .int .i64 n, vs, vk], rfl⟩ (o := 0) (by simp) rfl rfl (by decide) (by simp [splice_eq]) fun σ3 hF => ?_
      have hx1 : idx (pl ++ (⟨[.int .i64 k, .str s, .int .i64 n, vs, vk], rfl⟩ : Row5) :: rl') (pl.length : Int) = some (⟨[.int .i64 k, .str s, .int .i64 n, vs, vk], rfl⟩ : Row5) := by
        unfold idx
        simp
      have hai := fun σ => aidx_own (σ := σ) (e := 30) (sz := 5) (by_ := 80) (b := b1) (c := cap) (k := .i64) (l := pl ++ (⟨[.int .i64 k, .str s, .int .i64 n, vs, vk], rfl⟩ : Row5) :: rl') (n := (pl ++ (⟨[.int .i64 kk, .str s, .int .i64 n, vs, vk], r0p⟩ : Row5) :: rl').length) (by simp) hx1
      have hlen : (pl ++ (⟨[.int .i64 kk, .str s, .int .i64 n, vs, vk], r0p⟩ : Row5) :: rl').length = pl.length + (rl'.length + 1) := by simp
      refine go ?_
      refine cl (laws_markText_ok _ _ ht) ?_
      try simp only [go_sem, ↓reduceIte, Nat.reduceEqDiff, Nat.reduceAdd, Nat.reduceMul, Nat.reduceLeDiff, Nat.reduceLT, Int.reduceEq, Int.toNat_natCast, q, tT, hF.f, hF.m, hF.x hX, hai]
      refine fx_mid hF (⟨[.int .i64 k, .str t, .int .i64 n, vs, vk], rfl⟩ : Row5) (o := 1) (by simp) rfl rfl (by decide) (by simp [splice_eq]) fun σ4 hF => ?_
      have hx2 : idx (pl ++ (⟨[.int .i64 k, .str t, .int .i64 n, vs, vk], rfl⟩ : Row5) :: rl') (pl.length : Int) = some (⟨[.int .i64 k, .str t, .int .i64 n, vs, vk], rfl⟩ : Row5) := by
        unfold idx
        simp
      have hai := fun σ => aidx_own (σ := σ) (e := 30) (sz := 5) (by_ := 80) (b := b1) (c := cap) (k := .i64) (l := pl ++ (⟨[.int .i64 k, .str t, .int .i64 n, vs, vk], rfl⟩ : Row5) :: rl') (n := (pl ++ (⟨[.int .i64 kk, .str s, .int .i64 n, vs, vk], r0p⟩ : Row5) :: rl').length) (by simp) hx2
      try simp only [go_sem, ↓reduceIte, Nat.reduceEqDiff, Nat.reduceAdd, Nat.reduceMul, Nat.reduceLeDiff, Nat.reduceLT, Int.reduceEq, Int.toNat_natCast, q, tT, hF.f, hF.m, hF.x hX, hai]
      refine fx_mid hF (⟨[.int .i64 k, .str t, .int .i64 (IntKind.i64.wrap (IntKind.i64.wrap (k + 1) + 1)), vs, vk], rfl⟩ : Row5) (o := 2) (by simp) rfl rfl (by decide) (by simp [splice_eq]) fun σ5 hF => ?_
      have hx3 : idx (pl ++ (⟨[.int .i64 k, .str t, .int .i64 (IntKind.i64.wrap (IntKind.i64.wrap (k + 1) + 1)), vs, vk], rfl⟩ : Row5) :: rl') (pl.length : Int) = some (⟨[.int .i64 k, .str t, .int .i64 (IntKind.i64.wrap (IntKind.i64.wrap (k + 1) + 1)), vs, vk], rfl⟩ : Row5) := by
        unfold idx
        simp
      have hai := fun σ => aidx_own (σ := σ) (e := 30) (sz := 5) (by_ := 80) (b := b1) (c := cap) (k := .i64) (l := pl ++ (⟨[.int .i64 k, .str t, .int .i64 (IntKind.i64.wrap (IntKind.i64.wrap (k + 1) + 1)), vs, vk], rfl⟩ : Row5) :: rl') (n := (pl ++ (⟨[.int .i64 kk, .str s, .int .i64 n, vs, vk], r0p⟩ : Row5) :: rl').length) (by simp) hx3
      have hl3 := aload_own (p := pl.length * 5 + 3) (ag := false) (k := 1) (o := 3) (v := vs) (g := Subtype.val) hF 0 (by simp) (fun x => x.2) rfl hx3 (by decide) rfl
      try simp only [go_sem, ↓reduceIte, Nat.reduceEqDiff, Nat.reduceAdd, Nat.reduceMul, Nat.reduceLeDiff, Nat.reduceLT, Int.reduceEq, Int.toNat_natCast, q, tT, hF.f, hF.m, hF.x hX, hai, hl3]
      have p1 : ∀ (o m1 m2 : OwnR) (Lp Lk Lr : List OwnR), (o :: (Lp ++ ((m1 :: m2 :: Lk) ++ Lr))).Perm (m1 :: o :: ((m2 :: Lk) ++ (Lp ++ Lr))) := fun o m1 m2 Lp Lk Lr => by
        refine (List.Perm.cons o (List.perm_append_comm_assoc Lp (m1 :: m2 :: Lk) Lr)).trans ?_
        exact List.Perm.swap _ _ _
      have p2 : ∀ (o m1 : OwnR) (B X : List OwnR), (m1 :: o :: (B ++ X)).Perm (B ++ (m1 :: o :: X)) := fun o m1 B X => by
        refine (List.Perm.cons m1 List.perm_middle.symm).trans ?_
        exact List.perm_middle.symm
      have hF := hF.perm (p1 _ _ _ _ _ _)
      have hzf := Fm.sz_eq (Fm.mk kk s n sc ks)
      simp only [Fm.sc, Fm.kids, Fm.name] at hzf
      rw [sumL] at hsc
      refine cx (laws_markIntS_live sc _ (by omega) vs _ (pre 0 0 1 hF hX)) ?_
      rintro _ σ6 ⟨τ6, rfl, hT, hG⟩
      have hF := aftP 0 1 hF hX hT hG
      have hl4 := aload_own (p := pl.length * 5 + 4) (ag := false) (k := 1) (o := 4) (v := vk) (g := Subtype.val) hF 1 (by simp) (fun x => x.2) rfl hx3 (by decide) rfl
      try simp only [go_sem, ↓reduceIte, Nat.reduceEqDiff, Nat.reduceAdd, Nat.reduceMul, Nat.reduceLeDiff, Nat.reduceLT, Int.reduceEq, Int.toNat_natCast, q, tT, hF.f, hF.m, hF.x hX, hai, hl4]
      have hF := hF.perm (p2 _ _ ((⟨vk, 30, 5, rowsk⟩ : OwnR) :: Lk) (Lp ++ Lr'))
      obtain ⟨rk, hrk⟩ : ∃ rk : List Row5, rws Subtype.val rk = rowsk := by
        have h5 := hk.len.2
        refine ⟨rowsk.attach.map fun x => ⟨x.1, h5 x.1 x.2⟩, ?_⟩
        simp [rws]
      subst hrk
      rw [markF] at ha
      obtain ⟨rr, hrr, ha⟩ := bnd ha
      obtain rfl := pur ha
      have hne := Fm.nodes_eq (Fm.mk kk s n sc ks)
      rw [sumL] at hn
      refine cx (hc19 ks _ rr (by simp only [Fm.kids] at hne; omega) (by omega) hrr vk rk Lk _ hk (Fx.pre (esL := []) (bsr := []) (esX := []) (xsr := []) hF hX)) ?_
      rintro _ σ7 ⟨τ7, rk', Lk', rfl, hT, hk', hG⟩
      obtain ⟨τ2, hX2, hF⟩ := Fx.after (esL := []) (bsr := []) (esX := []) (xsr := []) (esL' := []) (esX' := []) (bn := []) hF hX hT hG rfl rfl
      rw [hX2.eq] at hF
      have hF := hF.perm ((p1 _ (⟨vs, 3, 1, rws cI (markI sc (IntKind.i64.wrap (IntKind.i64.wrap (IntKind.i64.wrap (k + 1) + 1) + 1))).1⟩ : OwnR) (⟨vk, 30, 5, rws Subtype.val rk'⟩ : OwnR) Lp Lk' Lr').trans (p2 _ _ ((⟨vk, 30, 5, rws Subtype.val rk'⟩ : OwnR) :: Lk') (Lp ++ Lr'))).symm
      refine go ?_
      have hw : IntKind.i64.wrap ((pl.length : Int) + 1) = ((pl ++ [(⟨[.int .i64 k, .str t, .int .i64 (IntKind.i64.wrap (IntKind.i64.wrap (k + 1) + 1)), vs, vk], rfl⟩ : Row5)]).length : Int) := by
        rw [List.length_append]
        exact wrapN (by omega)
      have hpl : pl ++ (⟨[.int .i64 k, .str t, .int .i64 (IntKind.i64.wrap (IntKind.i64.wrap (k + 1) + 1)), vs, vk], rfl⟩ : Row5) :: rl' = (pl ++ [(⟨[.int .i64 k, .str t, .int .i64 (IntKind.i64.wrap (IntKind.i64.wrap (k + 1) + 1)), vs, vk], rfl⟩ : Row5)]) ++ rl' := by simp
      have hp' : LvL 3 30 (pf ++ [Fm.mk k t (IntKind.i64.wrap (IntKind.i64.wrap (k + 1) + 1)) (markI sc (IntKind.i64.wrap (IntKind.i64.wrap (IntKind.i64.wrap (k + 1) + 1) + 1))).1 rr.1]) (rws Subtype.val (pl ++ [(⟨[.int .i64 k, .str t, .int .i64 (IntKind.i64.wrap (IntKind.i64.wrap (k + 1) + 1)), vs, vk], rfl⟩ : Row5)])) (Lp ++ ((⟨vs, 3, 1, rws cI (markI sc (IntKind.i64.wrap (IntKind.i64.wrap (IntKind.i64.wrap (k + 1) + 1) + 1))).1⟩ : OwnR) :: (⟨vk, 30, 5, rws Subtype.val rk'⟩ : OwnR) :: Lk')) := by
        rw [show rws Subtype.val (pl ++ [(⟨[.int .i64 k, .str t, .int .i64 (IntKind.i64.wrap (IntKind.i64.wrap (k + 1) + 1)), vs, vk], rfl⟩ : Row5)]) = rws Subtype.val pl ++ [[.int .i64 k, .str t, .int .i64 (IntKind.i64.wrap (IntKind.i64.wrap (k + 1) + 1)), vs, vk]] by simp [rws]]
        exact hp.snoc (.mk hk')
      refine ih rr.2 b (by omega) (by omega) hb _ (pl ++ [(⟨[.int .i64 k, .str t, .int .i64 (IntKind.i64.wrap (IntKind.i64.wrap (k + 1) + 1)), vs, vk], rfl⟩ : Row5)]) rl' _ Lr' (by simp; omega) hp' hr' _ hc0 Q τ _ (fun T σ rows' L' hT hL hF => hE T σ rows' L' hT (by rw [List.append_assoc] at hL; exact hL) hF) _ _ ?_ ?_
      · refine ⟨?_, ?_, ?_⟩ <;> simp [upd, tT, hw]
      · rw [← hpl, List.append_assoc]; exact hF
    · exfalso; simp at h; omega
theorem len_nodes : ∀ fs : List Fm, fs.length ≤ sumL Fm.nodes fs
  | [] => Nat.zero_le _
  | f :: fs => by have := len_nodes fs; have := Fm.nodes_eq f; rw [sumL, List.length_cons]; omega
theorem laws_markFormS_live : ∀ (N : Nat), N ≤ 1000000000 → ∀ (fs : List Fm) (k : Int) r, sumL Fm.nodes fs < N → sumL Fm.sz fs ≤ 1000000000 → markL fs k = some r → CM19 fs k r := by
  intro N
  induction N with
  | zero => intro _ fs k r h; omega
  | succ N ih =>
    intro hN fs k r hn hz H v rows L σ hL hP
    have hlen := len_nodes fs
    have hrl := hL.len.1
    simp only [rws, List.length_map] at hrl
    refine hdg mixed Try.func27 (rs := [.tmp 4]) fun q tT => ?_
    obtain ⟨hF, hX⟩ := hP.start
    generalize strip σ (⟨v, 30, 5, rws Subtype.val rows⟩ :: L) = τ0 at hF hX ⊢
    refine go ?_
    refine markL_loop N (by omega) (ih (by omega)) fs k r (by omega) hz H [] [] rows [] L (by simp; omega) .nil hL _ rfl _ _ v ?_ _ _ ?_ hF
    · intro T σ2 rows' L' tT hL hF
      refine go ?_
      exact rg [.int .i64 r.2] ⟨_, rows', L', rfl, hX, hL, hF⟩
    · refine ⟨?_, ?_, ?_⟩ <;> simp [upd, T0]
theorem laws_markForm_live (f : Fm) (k : Int) (r : Fm × Int) (hz : f.sz ≤ 100000000) (hnd : f.nodes ≤ 100000000) (H : markF f k = some r) : ∀ (row : List AV) (L : List OwnR) (σ : Sto), LvF 3 30 f row L → Pre σ [] L → Ctr Try.prog 10 [.agg row, .int .i64 k] σ (fun r' σ' => ∃ (τ' : Sto) (L' : List OwnR), r' = .int .i64 r.2 ∧ Tau (strip σ L) [] τ' ∧ LvF 3 30 r.1 row L' ∧ Fx τ' σ' [] L') := by
  intro row L σ hL hP
  cases hL with
  | @mk kk n s sc ks vs vk rowsk Lk hk =>
  have hzf := Fm.sz_eq (Fm.mk kk s n sc ks)
  have hne := Fm.nodes_eq (Fm.mk kk s n sc ks)
  simp only [Fm.sc, Fm.kids, Fm.name] at hzf hne
  rw [markF] at H
  obtain ⟨rr, hrr, H⟩ := bnd H
  obtain rfl := pur H
  obtain ⟨rk, hrk⟩ : ∃ rk : List Row5, rws Subtype.val rk = rowsk := by
    have h5 := hk.len.2
    refine ⟨rowsk.attach.map fun x => ⟨x.1, h5 x.1 x.2⟩, ?_⟩
    simp [rws]
  subst hrk
  refine hdg mixed Try.func10 (rs := [.tmp 4]) fun q tT => ?_
  obtain ⟨hF, hX⟩ := hP.start
  generalize strip σ (⟨vs, 3, 1, rws cI sc⟩ :: ⟨vk, 30, 5, rws Subtype.val rk⟩ :: Lk) = τ0 at hF hX ⊢
  refine go ?_
  refine fx_alloc hF rfl fun b1 σ2 hF => ?_
  refine go ?_
  refine cx (laws_markIntS_live sc _ (by omega) vs _ (pre 0 0 1 hF hX)) ?_
  rintro _ σ3 ⟨τ3, rfl, hT, hG⟩
  have hF := aftP 0 1 hF hX hT hG
  refine go ?_
  have hF := hF.perm (List.perm_append_comm (l₁ := [(⟨vs, 3, 1, rws cI (markI sc k).1⟩ : OwnR)]) (l₂ := (⟨vk, 30, 5, rws Subtype.val rk⟩ : OwnR) :: Lk))
  refine cx (laws_markFormS_live 1000000000 (by omega) ks _ rr (by omega) (by omega) hrr vk rk Lk _ hk (Fx.pre (esL := []) (bsr := [(b1, _)]) (esX := []) (xsr := []) hF hX)) ?_
  rintro _ σ4 ⟨τ4, rk', Lk', rfl, hT, hk', hG⟩
  obtain ⟨τ2, hX2, hF⟩ := Fx.after (esL := []) (bsr := [(b1, _)]) (esX := []) (xsr := []) (esL' := []) (esX' := []) (bn := []) hF hX hT hG rfl rfl
  rw [hX2.eq] at hF
  have hF := (hF.drop 1 0).perm (List.perm_append_comm (l₁ := (⟨vk, 30, 5, rws Subtype.val rk'⟩ : OwnR) :: Lk') (l₂ := [(⟨vs, 3, 1, rws cI (markI sc k).1⟩ : OwnR)]))
  refine go ?_
  exact rg [.int .i64 rr.2] ⟨_, _, rfl, hX, .mk hk', hF⟩
end Go.Proofs.SA

