/- Regions whose order is open: the theorem. -/
import Derived.Test.YtilkeeoinbndoaaShK
set_option linter.unusedVariables false
set_option linter.unusedSimpArgs false
namespace Go.Proofs.Shadow
open Go Go.RowKit
section
variable {P : Program} {E : Nat → Prop} {n : Nat} {σ0 : Sto} {w0 : World}
theorem mem_unhide {σ : Sto} {p : AV} {cs : List AV} (h : mem (hide E σ) p = some cs) : mem σ p = some cs := by
  unfold mem hide at *
  cases p <;> simp only at h ⊢ <;> try exact h
  · rename_i b o
    by_cases hb : E b
    · simp [hb] at h
    · simpa [hb] using h
  · simp at h
theorem vop_unhide {σ : Sto} {ρ : Operand → AV} {op : Op} {v : AV} (h : vop P (hide E σ) ρ op = some v) : vop P σ ρ op = some v := by
  cases op <;> simp only [vop] at h ⊢ <;> try exact h
  case load t p =>
    unfold aload at h ⊢
    split at h
    · rename_i ag k hk
      cases hm : mem (hide E σ) (ρ p) with
      | none => simp [hm] at h
      | some cs => rw [mem_unhide hm]; rw [hm] at h; exact h
    · cases h
  case makeFunc fn first caps => cases fn <;> exact h
  case call c =>
    obtain ⟨callee, args, argTypes⟩ := c
    cases callee <;> try exact h
    rename_i b
    cases b <;> exact h
/-- The state told anew. -/
theorem Post.weaken {K K' : AS → Prop} {a : Act} {w : World} (h : Post P n σ0 w0 K a w) (hk : ∀ s, K s → Sim s.σ w → ∃ s', K' s' ∧ Sub s'.σ s.σ ∧ ∀ a, RelT n s.σ w s.T a → RelT n s'.σ w s'.T a) : Post P n σ0 w0 K' a w := by
  obtain ⟨s, hs, hR⟩ := h
  obtain ⟨s', hs', hsub, hT⟩ := hk s hs hR.sim
  exact ⟨s', hs', hR.sim.drop hsub.var hsub.own, hT a hR.tmps, hR.step.trans (Step.drop (fun b hb => hsub.dead hb)), hR.tb.drop (fun b hb => hsub.dead hb)⟩
theorem vapp_ok {o : Oper} {args : Array Operand} {tys : Array TypeId} {s : AS} {a : Act} {w : World} {K : AS → Prop} {Q : Exit → Act → World → Prop} (heq : o.op = .call { callee := .builtin .append, args, argTypes := tys }) (hok : opOk P n o = true) (hR : Rel P n σ0 w0 s a w)
    {x y : Operand} {t t2 : TypeId} (hargs : args.toList = [x, y]) (htys : tys.toList = [t, t2]) (ht : t = t2) (h : vApp (se P t) (aev s.T x) (aev s.T y) s o.dst K) : o.wp P a w (Post P n σ0 w0 K) Q := by
  obtain ⟨v, ⟨e, sz, by_, xs, ys, hk, hsz, hby, hx, hxr, hy, hyr, hb, rfl⟩, hK⟩ := h
  have hown : OwnL s.σ e sz (aev s.T x) xs := ⟨hxr, hx.elim (fun h => .inl h) (fun h => .inr (.inl h))⟩
  have hrd : RdL s.σ sz (aev s.T y) ys := ⟨hyr, hy.elim (fun h => .inl h) (fun ⟨c, h⟩ => .inr (.inl ⟨c, h⟩))⟩
  have hnb : (aev s.T x).blk = none := by rcases hx with ⟨h, _⟩ | h <;> rw [h] <;> rfl
  have hop : aop P o s (fun s' => ∃ v' σ', AppPost s.σ e sz (aev s.T x) σ' v' (xs ++ ys) ∧ s' = AS.put ⟨s.T, σ'⟩ o.dst v') := by
    unfold aop
    rw [heq]
    simp only [hargs, htys]
    refine ⟨ht, ?_⟩
    unfold aAppend
    rw [hk]
    exact ⟨xs, ys, hsz, hby, hown, hrd, hb, fun v' σ' hp => ⟨v', σ', Wk1.refl _ _, v', σ', hp, rfl⟩⟩
  refine Oper.wp_mono (fun a' w' hp => hp.weaken ?_) (aop_ok hok hR hop)
  rintro s' ⟨v', σ', hp, rfl⟩ hsim
  rw [put_σ] at hsim
  obtain ⟨σ2, f1, f2, f3, f4⟩ := hp.own.freeze
  have hsub : Sub s.σ σ2 := ⟨fun b e hbe => by rw [f2, hp.var]; exact hbe, fun b e hbe => by
    have hne : s.σ.own b ≠ none := by rw [hbe]; simp
    have hnv : some b ≠ v'.blk := by
      rcases hp.blk with h1 | h1
      · rw [h1, hnb]; simp
      · exact fun he => hne (h1 b he.symm).2
    rw [f3 b hnv, hp.same b (by rw [hnb]; simp) hne]
    exact hbe⟩
  have hsub2 : Sub s.σ σ' := hsub.trans f1
  refine ⟨s.put o.dst (.sl false (xs ++ ys)), hK, by rw [put_σ, put_σ]; exact hsub2, fun a hT => ?_⟩
  rw [put_σ] at hT ⊢
  refine ⟨hT.1, hT.2.1, fun i => ?_⟩
  have hi := hT.2.2 i
  have hst : Step σ' w' s.σ w' := Step.drop (fun b hb => hsub2.dead hb)
  cases hd : o.dst with
  | none =>
    simp only [hd, AS.put] at hi ⊢
    exact hi.step hst
  | some d =>
    simp only [hd, AS.put, upd] at hi ⊢
    by_cases hid : i = d
    · rw [if_pos hid] at hi ⊢
      have := (f4 w' _ hsim hi).2.1
      exact this.step (Step.drop (fun b hb => hsub.dead hb))
    · rw [if_neg hid] at hi ⊢
      exact hi.step hst
theorem tstep_wp {c : Cl} {o : Oper} {s : AS} {a : Act} {w : World} {K : AS → Prop} {Q : Exit → Act → World → Prop} (hok : opOk P n o = true) (hR : Rel P n σ0 w0 s a w) (h : match c with | .v => vrun P E o s K | .x => aop P o s (kp E s.σ K) | .z => aop P o s K) : o.wp P a w (Post P n σ0 w0 K) Q := by
  cases c with
  | z => exact aop_ok hok hR h
  | x => exact aop_ok hok hR (aop_mono h (fun s' hs => hs.2))
  | v =>
    simp only at h
    unfold vrun at h
    split at h
    · rename_i f args tys heq
      obtain ⟨g, bs, v, hf, hw, hp, hK⟩ := h
      refine call_ok heq hok hR ?_
      rw [hf]
      have := aCall_pure (T := s.T) (σ := s.σ) (dst := o.dst) hp hw hK
      exact this
    · rename_i args tys heq
      split at h
      · rename_i x y t t2 hargs htys
        exact vapp_ok heq hok hR hargs htys h.1 h.2
      · exact h.elim
    · refine aVal_ok hok hR ?_
      unfold aVal at h ⊢
      split at h
      · rename_i v hv; rw [vop_unhide hv]; exact h
      · exact h.elim
theorem tstep_ok {ops : Array Oper} {Q : Exit → Act → World → Prop} {c : Cl} {o : Oper} {s : AS} {a : Act} {w : World} {K : AS → Prop} {K' : Act → World → Prop} (hok : opOk P n o = true) (hR : Rel P n σ0 w0 s a w) (h : tstep P E (ops.toList.map (·.dst)) c o s K) (hK : ∀ a w, Post P n σ0 w0 K a w → K' a w) :
    if Region.wanted o (yielded ops a.tmps) then o.wp P a w K' Q ∨ (o.asks P a w ∧ LetsOut Q) else K' (a.put o.dst undef) w := by
  obtain ⟨t, hg, h1, h2⟩ := h
  rw [gw_ok hR.tmps hg]
  cases t with
  | true => simp only [if_true]; exact .inl (Oper.wp_mono hK (tstep_wp hok hR (h1 rfl)))
  | false => simp only [Bool.false_eq_true, if_false]; exact hK _ _ (post_of (s' := ⟨s.T, s.σ⟩) hR (opOk_spec hok).2.1 rfl hR.sim (Step.refl _ _) undef_rv (h2 rfl))
theorem tstep_mono {D : List (Option Tmp)} {c : Cl} {o : Oper} {s : AS} {K K' : AS → Prop} (h : tstep P E D c o s K) (hk : ∀ s', K s' → K' s') : tstep P E D c o s K' := by
  obtain ⟨t, hg, h1, h2⟩ := h
  refine ⟨t, hg, fun ht => ?_, fun ht => hk _ (h2 ht)⟩
  have h1 := h1 ht
  cases c with
  | v => simp only [vrun_iff] at h1 ⊢; obtain ⟨v, hv, hK⟩ := h1; exact ⟨v, hv, hk _ hK⟩
  | x => exact aop_mono h1 (fun s' hs => ⟨hs.1, hk _ hs.2⟩)
  | z => exact aop_mono h1 hk
/-! ### The canonical order -/
def atOp (ops : Array Oper) (i : Nat) : Oper := ops.getD i default
def dirs (o : Oper) : List Nat := (o.after.toList.filter (Region.binds .any)).map (·.on)
/-- A table of what goes before: each entry a direct edge's, or what goes before that. -/
def befs (ops : Array Oper) : List (List Nat) := ops.toList.foldl (fun acc o => acc ++ [(dirs o ++ (dirs o).flatMap fun m => acc.getD m []).eraseDups]) []
def befOk (ops : Array Oper) (B : List (List Nat)) : Bool := (List.range ops.size).all fun i => (dirs (atOp ops i)).all (fun m => decide (m < i)) && (B.getD i []).all fun l => (dirs (atOp ops i)).contains l || (dirs (atOp ops i)).any fun m => (B.getD m []).contains l
def okP : Cl → Cl → Bool
  | .v, .v => true
  | .v, .x => true
  | _, _ => false
def isApp (o : Oper) : Bool := o.guard.isNone && (match o.op with | .call { callee := .builtin .append, .. } => true | _ => false)
def isAll (P : Program) (o : Oper) : Bool := o.guard.isNone && (match o.op with | .alloc t => (tz P t).isSome | _ => false)
def isSto (o : Oper) : Bool := o.guard.isNone && (match o.op with | .store .. => true | _ => false)
def isLd (o : Oper) : Bool := o.guard.isNone && (match o.op with | .load _ (.tmp _) => true | _ => false)
def okXA (P : Program) (c d : Cl) (l i : Oper) : Bool := (match c, d with | .x, .x => true | _, _ => false) && (isApp l || isAll P l || isSto l || isLd l) && isAll P i
def pairOk (P : Program) (ops : Array Oper) (B : List (List Nat)) (p q : Cl × Nat) : Bool :=   -- p ahead of q in our order
  !(dirs (atOp ops p.2)).contains q.2 && p.2 != q.2 && ((B.getD q.2 []).contains p.2 || ((okP p.1 q.1 || okXA P p.1 q.1 (atOp ops p.2) (atOp ops q.2)) && apt (ops.toList.map (·.dst)) (atOp ops p.2) (atOp ops q.2)))
def pairsOk (P : Program) (ops : Array Oper) (B : List (List Nat)) : List (Cl × Nat) → Bool
  | [] => true
  | p :: ps => ps.all (pairOk P ops B p) && pairsOk P ops B ps
def drawOk (P : Program) (ops : Array Oper) (L : List (Cl × Nat)) : Bool :=
  befOk ops (befs ops) && pairsOk P ops (befs ops) L && (List.range ops.size).all (fun i => L.any fun p => p.2 == i) && L.all (fun p => decide (p.2 < ops.size)) && (L.length == ops.size)
structure Inv (P : Program) (ops : Array Oper) (B : List (List Nat)) (R : List (Cl × Nat)) (listed : Array Bool) : Prop where
  size : listed.size = ops.size
  mem : ∀ i, i < ops.size → (listed.getD i true = false ↔ ∃ c, (c, i) ∈ R)
  lt : ∀ p ∈ R, p.2 < ops.size
  closed : ∀ i, i < ops.size → listed.getD i true = true → ∀ m ∈ dirs (atOp ops i), listed.getD m false = true
  pairs : pairsOk P ops B R = true
theorem getD_listed {listed : Array Bool} {i : Nat} (h : i < listed.size) (a b : Bool) : listed.getD i a = listed.getD i b := by simp [h]
theorem bef_listed {ops : Array Oper} {B : List (List Nat)} (hB : befOk ops B = true) {listed : Array Bool} (hsz : listed.size = ops.size) (hcl : ∀ i, i < ops.size → listed.getD i true = true → ∀ m ∈ dirs (atOp ops i), listed.getD m false = true) :
    ∀ i, i < ops.size → listed.getD i true = true → ∀ l ∈ B.getD i [], listed.getD l false = true := by
  intro i
  induction i using Nat.strongRecOn with
  | _ i ih =>
    intro hi hl l hlB
    unfold befOk at hB
    rw [List.all_eq_true] at hB
    have := hB i (List.mem_range.2 hi)
    rw [Bool.and_eq_true, List.all_eq_true, List.all_eq_true] at this
    obtain ⟨h1, h2⟩ := this
    have h3 := h2 l hlB
    rw [Bool.or_eq_true] at h3
    rcases h3 with h3 | h3
    · exact hcl i hi hl l (by simpa using h3)
    · rw [List.any_eq_true] at h3
      obtain ⟨m, hm, hml⟩ := h3
      have hmi : m < i := by simpa using h1 m hm
      exact ih m hmi (by omega) (by rw [getD_listed (by omega) true false]; exact hcl i hi hl m hm) l (by simpa using hml)
theorem ready_spec {ops : Array Oper} {listed : Array Bool} {i : Nat} (h : i ∈ Region.ready .any ops listed) : i < ops.size ∧ listed.getD i true = false ∧ ∀ m ∈ dirs (atOp ops i), listed.getD m false = true := by
  unfold Region.ready at h
  obtain ⟨h1, h2⟩ := List.mem_filter.1 h
  have hi : i < ops.size := by simpa using h1
  rw [Bool.and_eq_true] at h2
  refine ⟨hi, by simpa using h2.1, fun m hm => ?_⟩
  have h3 := h2.2
  have hg : ops[i]? = some ops[i] := by simp [hi]
  rw [hg] at h3
  simp only [Option.map_some, Option.getD_some] at h3
  have ha : atOp ops i = ops[i] := by simp [atOp, hi]
  rw [ha] at hm
  unfold dirs at hm
  obtain ⟨e, he, rfl⟩ := List.mem_map.1 hm
  obtain ⟨he1, he2⟩ := List.mem_filter.1 he
  rw [Array.all_eq_true_iff_forall_mem] at h3
  have := h3 e (by simpa using he1)
  rw [he2] at this
  simpa using this
theorem ready_mk {ops : Array Oper} {listed : Array Bool} {i : Nat} (hi : i < ops.size) (hl : listed.getD i true = false) (h : ∀ m ∈ dirs (atOp ops i), listed.getD m false = true) : i ∈ Region.ready .any ops listed := by
  unfold Region.ready
  refine List.mem_filter.2 ⟨by simpa using hi, ?_⟩
  have hg : ops[i]? = some ops[i] := by simp [hi]
  have ha : atOp ops i = ops[i] := by simp [atOp, hi]
  rw [hl, hg]
  simp only [Bool.not_false, Option.map_some, Option.getD_some, Bool.true_and]
  rw [Array.all_eq_true_iff_forall_mem]
  intro e he
  by_cases hb : Region.binds .any e = true
  · have := h e.on (by rw [ha]; exact List.mem_map.2 ⟨e, List.mem_filter.2 ⟨by simpa using he, hb⟩, rfl⟩)
    rw [this]
    simp
  · simp [hb]
def runI (P : Program) (E : Nat → Prop) (ops : Array Oper) (R : List (Cl × Nat)) (K : AS → Prop) : AS → Prop := trun P E (ops.toList.map (·.dst)) (R.map fun p => (p.1, atOp ops p.2)) K
theorem trun_mono {D : List (Option Tmp)} : ∀ (L : List (Cl × Oper)) {K K' : AS → Prop} {s : AS}, trun P E D L K s → (∀ s', K s' → K' s') → trun P E D L K' s
  | [], _, _, _, h, hk => hk _ h
  | (c, o) :: L, _, _, _, h, hk => tstep_mono h (fun s' hs => trun_mono L hs hk)
theorem dead_set' (σ : Sto) (b b' : Nat) (e : Ent) : (σ.setVar b e).dead b' ↔ b' ≠ b ∧ σ.dead b' := by
  simp only [Sto.dead, Sto.setVar]
  constructor
  · rintro ⟨h1, h2⟩
    split at h1
    · cases h1
    · rename_i h; exact ⟨h, h1, h2⟩
  · rintro ⟨h, h1, h2⟩
    exact ⟨by rw [if_neg h]; exact h1, h2⟩
theorem swap_xa {D : List (Option Tmp)} {l i : Oper} {s : AS} {K : AS → Prop} (ha : apt D l i = true) (hl : isApp l = true) (hi : isAll P i = true) (h : tstep P E D .x l s (fun s1 => tstep P E D .x i s1 K)) : tstep P E D .x i s (fun s2 => tstep P E D .x l s2 K) := by
  obtain ⟨ha1, ha2⟩ := apt_spec ha
  obtain ⟨ldst, lop, lty, lpos, laf, lg⟩ := l
  obtain ⟨idst, iop, ity, ipos, iaf, ig⟩ := i
  simp only [isApp, isAll, Bool.and_eq_true, Option.isNone_iff_eq_none] at hl hi
  obtain ⟨rfl, hl⟩ := hl
  obtain ⟨rfl, hi⟩ := hi
  have hiop : ∃ t, iop = .alloc t ∧ (tz P t).isSome = true := by
    revert hi
    split
    · exact fun h => ⟨_, rfl, h⟩
    · intro h; cases h
  have hlop : ∃ args tys, lop = .call { callee := .builtin .append, args := args, argTypes := tys } := by
    revert hl
    split
    · exact fun _ => ⟨_, _, rfl⟩
    · intro h; cases h
  obtain ⟨t, rfl, htz⟩ := hiop
  obtain ⟨cs, hcs⟩ := Option.isSome_iff_exists.1 htz
  obtain ⟨args, tys, rfl⟩ := hlop
  simp only [tstep, gw, aGuard, Option.some.injEq, exists_eq_left', forall_const, true_implies, Bool.true_eq_false, false_implies, and_true] at h ⊢
  have hcall : ∀ (K : AS → Prop) (s : AS), aop P ⟨ldst, .call { callee := .builtin .append, args := args, argTypes := tys }, lty, lpos, laf, none⟩ s K ↔ ∃ x y t', args.toList = [x, y] ∧ tys.toList = [t', t'] ∧ aAppend (se P t') (aev s.T x) (aev s.T y) s ldst K := by
    intro K s
    simp only [aop]
    split
    · rename_i x y t1 t2 h1 h2
      constructor
      · rintro ⟨rfl, h⟩; exact ⟨x, y, t1, h1, h2, h⟩
      · rintro ⟨x', y', t', h3, h4, h5⟩
        rw [h1] at h3
        rw [h2] at h4
        simp only [List.cons.injEq, and_true] at h3 h4
        obtain ⟨rfl, rfl⟩ := h3
        obtain ⟨rfl, rfl⟩ := h4
        exact ⟨rfl, h5⟩
    · rename_i hno
      constructor
      · exact fun h => h.elim
      · rintro ⟨x', y', t', h3, h4, _⟩
        exact (hno x' y' t' t' h3 h4).elim
  rw [hcall] at h
  obtain ⟨x, y, t', h1, h2, h3⟩ := h
  have hev : ∀ (σ' : Sto) (u : AV) (z : Operand), z ∈ [x, y] → aev (AS.put ⟨s.T, σ'⟩ idst u).T z = aev s.T z := fun σ' u z hz => aev_put (s := ⟨s.T, σ'⟩) (fun d hd => (ha2 d hd).1 z (by
    show z ∈ (Op.operands _).toList
    have : z ∈ args.toList := by rw [h1]; exact hz
    simpa [Op.operands, Call.operands] using this))
  unfold aAppend at h3
  cases hse : se P t' with
  | none => rw [hse] at h3; exact h3.elim
  | some k =>
  obtain ⟨e, sz, by_⟩ := k
  rw [hse] at h3
  obtain ⟨xs, ys, g1, g2, g3, g4, g5, g6⟩ := h3
  show aAlloc (tz P t) t s idst _
  rw [hcs]
  intro b hb
  refine ⟨fun b' e' _ he' => ?_, ?_⟩
  · rw [put_σ]
    simp only [Sto.setVar]
    rw [if_neg (fun hh => by subst hh; rw [hb.1] at he'; cases he')]
    exact he'
  show aop P _ _ _
  rw [hcall]
  refine ⟨x, y, t', h1, h2, ?_⟩
  rw [hev _ _ x (by simp), hev _ _ y (by simp), hse]
  refine ⟨xs, ys, g1, g2, ?_, ?_, g5, fun v' σ2 hp => ?_⟩
  · rw [put_σ]; exact g3
  · rw [put_σ]; exact g4
  rw [put_σ] at hp
  have hv2 : σ2.var = (σ2.var) := rfl
  have hpv := hp.var
  have hdead : ∀ b', (s.σ.setVar b ⟨t, cs.length, cs⟩).dead b' → s.σ.dead b' := fun b' hd => ((dead_set' _ _ _ _).1 hd).2
  have hp' : AppPost s.σ e sz (aev s.T x) ⟨s.σ.var, σ2.own⟩ v' (xs ++ ys) := ⟨rfl, hp.own, hp.same, hp.fresh, hp.blk.imp id (fun h b' hb' => hdead b' (h b' hb')), hp.cap⟩
  have hbo : σ2.own b = none := hp.fresh b hb.2 (fun hh => by
    rcases hp.blk with h4 | h4
    · rw [h4] at hh
      rcases g3.2 with ⟨h5, _⟩ | h5 | ⟨b', cap, h5, h6⟩
      · rw [h5] at hh; cases hh
      · rw [h5] at hh; cases hh
      · rw [h5] at hh
        simp only [AV.blk, Option.some.injEq] at hh
        subst hh
        rw [hb.2] at h6
        cases h6
    · exact ((dead_set' _ _ _ _).1 (h4 b hh.symm)).1 rfl)
  obtain ⟨v3, σ3, hw, _, hK⟩ := g6 v' _ hp'
  have hK2 : aAlloc (tz P t) t (AS.put ⟨s.T, σ3⟩ ldst v3) idst _ := hK
  rw [hcs] at hK2
  have hbd : (⟨s.σ.var, σ2.own⟩ : Sto).dead b := ⟨hb.1, hbo⟩
  have hK3 := hK2 b (by rw [put_σ]; exact hw.dead b hbd)
  have hσ : (⟨s.σ.var, σ2.own⟩ : Sto).setVar b ⟨t, cs.length, cs⟩ = σ2 := by
    cases σ2
    simp only [Sto.setVar] at hpv ⊢
    rw [hpv]
  have hv3 : (σ3.setVar b ⟨t, cs.length, cs⟩).var = σ2.var := by
    rw [← hσ]; simp only [Sto.setVar]; rw [hw.var]
  refine ⟨v3, σ3.setVar b ⟨t, cs.length, cs⟩, ⟨?_, hv3, fun b' hd => ?_, fun ρ hd => ?_⟩, fun b' e' _ he' => ?_, ?_⟩
  · have := hw.ext (fun i => if i = b then some ⟨t, cs.length, cs⟩ else none) (fun b' hb' => by
      by_cases h9 : b' = b
      · subst h9; exact hbd
      · simp [h9] at hb')
    have e1 : ∀ σ : Sto, σ.ext (fun i => if i = b then some ⟨t, cs.length, cs⟩ else none) = σ.setVar b ⟨t, cs.length, cs⟩ := fun σ => by
      simp only [Sto.ext, Sto.setVar]; congr 1; funext i; split <;> simp
    rw [e1, e1, hσ] at this; exact this
  · rw [← hσ] at hd
    have := (dead_set' _ _ _ _).1 hd
    exact (dead_set' _ _ _ _).2 ⟨this.1, hw.dead _ this.2⟩
  · have := hw.ext (fun i => (ρ i).or (if i = b then some ⟨t, cs.length, cs⟩ else none)) (fun b' hb' => by
      by_cases h9 : b' = b
      · subst h9; exact hbd
      · have h10 : ρ b' ≠ none := by simpa [h9] using hb'
        have := hd b' h10
        rw [← hσ] at this
        exact ((dead_set' _ _ _ _).1 this).2)
    rw [← Sto.ext_set, ← Sto.ext_set, hσ] at this; exact this
  · rw [put_σ] at he' ⊢
    rw [hv3, hpv]; exact he'
  · have h7 := hK3.2
    rw [put_σ] at h7
    have h8 : AS.put ⟨(AS.put ⟨s.T, σ3⟩ ldst v3).T, σ3.setVar b ⟨t, cs.length, cs⟩⟩ idst (.ptr b 0) = AS.put ⟨(AS.put ⟨s.T, s.σ.setVar b ⟨t, cs.length, cs⟩⟩ idst (.ptr b 0)).T, σ3.setVar b ⟨t, cs.length, cs⟩⟩ ldst v3 := by
      have := put_comm (s := ⟨s.T, σ3.setVar b ⟨t, cs.length, cs⟩⟩) (x := ldst) (y := idst) (v := v3) (u := .ptr b 0) (fun d hd => (ha1 d hd).2.2)
      cases ldst <;> cases idst <;> exact this
    rw [← h8]; exact h7
/-- Two variables made in either order. -/
theorem swap_aa {D : List (Option Tmp)} {l i : Oper} {s : AS} {K : AS → Prop} (ha : apt D l i = true) (hl : isAll P l = true) (hi : isAll P i = true) (h : tstep P E D .x l s (fun s1 => tstep P E D .x i s1 K)) : tstep P E D .x i s (fun s2 => tstep P E D .x l s2 K) := by
  obtain ⟨ha1, ha2⟩ := apt_spec ha
  obtain ⟨ldst, lop, lty, lpos, laf, lg⟩ := l
  obtain ⟨idst, iop, ity, ipos, iaf, ig⟩ := i
  simp only [isAll, Bool.and_eq_true, Option.isNone_iff_eq_none] at hl hi
  obtain ⟨rfl, hl⟩ := hl
  obtain ⟨rfl, hi⟩ := hi
  have hiop : ∃ t, iop = .alloc t ∧ (tz P t).isSome = true := by
    revert hi
    split
    · exact fun h => ⟨_, rfl, h⟩
    · intro h; cases h
  have hlop : ∃ t, lop = .alloc t ∧ (tz P t).isSome = true := by
    revert hl
    split
    · exact fun h => ⟨_, rfl, h⟩
    · intro h; cases h
  obtain ⟨t, rfl, htz⟩ := hiop
  obtain ⟨cs, hcs⟩ := Option.isSome_iff_exists.1 htz
  obtain ⟨t', rfl, htz'⟩ := hlop
  obtain ⟨cs', hcs'⟩ := Option.isSome_iff_exists.1 htz'
  simp only [tstep, gw, aGuard, Option.some.injEq, exists_eq_left', forall_const, true_implies, Bool.true_eq_false, false_implies, and_true] at h ⊢
  have h1 : aAlloc (tz P t') t' s ldst _ := h
  rw [hcs'] at h1
  show aAlloc (tz P t) t s idst _
  rw [hcs]
  intro b hb
  have hkeep : ∀ (σ : Sto) (b : Nat) (e : Ent), σ.var b = none → Keep E σ (σ.setVar b e) := fun σ b e hb b' e' _ he => by
    simp only [Sto.setVar]
    rw [if_neg (fun hh => by subst hh; rw [hb] at he; cases he)]
    exact he
  refine ⟨by rw [put_σ]; exact hkeep _ _ _ hb.1, ?_⟩
  show aAlloc (tz P t') t' _ ldst _
  rw [hcs']
  intro b' hb'
  rw [put_σ] at hb'
  obtain ⟨hne, hd'⟩ := (dead_set' _ _ _ _).1 hb'
  refine ⟨by rw [put_σ, put_σ]; exact hkeep _ _ _ hb'.1, ?_⟩
  obtain ⟨_, h2⟩ := h1 b' hd'
  have h3 : aAlloc (tz P t) t (AS.put ⟨s.T, s.σ.setVar b' ⟨t', cs'.length, cs'⟩⟩ ldst (.ptr b' 0)) idst _ := h2
  rw [hcs] at h3
  obtain ⟨_, h4⟩ := h3 b (by rw [put_σ]; exact (dead_set' _ _ _ _).2 ⟨fun hh => hne hh.symm, hb⟩)
  have hcomm : (s.σ.setVar b' ⟨t', cs'.length, cs'⟩).setVar b ⟨t, cs.length, cs⟩ = (s.σ.setVar b ⟨t, cs.length, cs⟩).setVar b' ⟨t', cs'.length, cs'⟩ := by
    simp only [Sto.setVar]
    congr 1
    funext x
    by_cases hx : x = b
    · subst hx; simp [Ne.symm hne]
    · simp [hx]
  rw [put_σ] at h4 ⊢
  rw [hcomm] at h4
  have := put_comm (s := ⟨s.T, (s.σ.setVar b ⟨t, cs.length, cs⟩).setVar b' ⟨t', cs'.length, cs'⟩⟩) (x := ldst) (y := idst) (v := .ptr b' 0) (u := .ptr b 0) (fun d hd => (ha1 d hd).2.2)
  have h8 : AS.put ⟨(AS.put ⟨s.T, s.σ.setVar b' ⟨t', cs'.length, cs'⟩⟩ ldst (.ptr b' 0)).T, (s.σ.setVar b ⟨t, cs.length, cs⟩).setVar b' ⟨t', cs'.length, cs'⟩⟩ idst (.ptr b 0) = AS.put ⟨(AS.put ⟨s.T, s.σ.setVar b ⟨t, cs.length, cs⟩⟩ idst (.ptr b 0)).T, (s.σ.setVar b ⟨t, cs.length, cs⟩).setVar b' ⟨t', cs'.length, cs'⟩⟩ ldst (.ptr b' 0) := by
    cases ldst <;> cases idst <;> exact this
  rw [← h8]; exact h4
/-- A store to what was there, and a variable made. -/
theorem swap_sa {D : List (Option Tmp)} {l i : Oper} {s : AS} {K : AS → Prop} (ha : apt D l i = true) (hl : isSto l = true) (hi : isAll P i = true) (h : tstep P E D .x l s (fun s1 => tstep P E D .x i s1 K)) : tstep P E D .x i s (fun s2 => tstep P E D .x l s2 K) := by
  obtain ⟨ha1, ha2⟩ := apt_spec ha
  obtain ⟨ldst, lop, lty, lpos, laf, lg⟩ := l
  obtain ⟨idst, iop, ity, ipos, iaf, ig⟩ := i
  simp only [isSto, isAll, Bool.and_eq_true, Option.isNone_iff_eq_none] at hl hi
  obtain ⟨rfl, hl⟩ := hl
  obtain ⟨rfl, hi⟩ := hi
  have hiop : ∃ t, iop = .alloc t ∧ (tz P t).isSome = true := by
    revert hi
    split
    · exact fun h => ⟨_, rfl, h⟩
    · intro h; cases h
  have hlop : ∃ t p x, lop = .store t p x := by
    revert hl
    split
    · exact fun _ => ⟨_, _, _, rfl⟩
    · intro h; cases h
  obtain ⟨t, rfl, htz⟩ := hiop
  obtain ⟨cs, hcs⟩ := Option.isSome_iff_exists.1 htz
  obtain ⟨t', p, x, rfl⟩ := hlop
  simp only [tstep, gw, aGuard, Option.some.injEq, exists_eq_left', forall_const, true_implies, Bool.true_eq_false, false_implies, and_true] at h ⊢
  have h1 : aStore (astore (tk P t') s.σ (aev s.T p) (aev s.T x)) s ldst _ := h
  show aAlloc (tz P t) t s idst _
  rw [hcs]
  intro b hb
  refine ⟨fun b' e' _ he' => ?_, ?_⟩
  · rw [put_σ]
    simp only [Sto.setVar]
    rw [if_neg (fun hh => by subst hh; rw [hb.1] at he'; cases he')]
    exact he'
  show aStore (astore (tk P t') (AS.put _ idst _).σ (aev (AS.put _ idst _).T p) (aev (AS.put _ idst _).T x)) _ ldst _
  have hop : ∀ z, z ∈ (Op.operands (Op.store t' p x)).toList → aev (AS.put ⟨s.T, s.σ.setVar b ⟨t, cs.length, cs⟩⟩ idst (.ptr b 0)).T z = aev s.T z := fun z hz => aev_put (s := ⟨s.T, s.σ.setVar b ⟨t, cs.length, cs⟩⟩) (fun d hd => (ha2 d hd).1 z hz)
  rw [hop p (by simp [Op.operands]), hop x (by simp [Op.operands]), put_σ]
  cases hst : astore (tk P t') s.σ (aev s.T p) (aev s.T x) with
  | none => rw [hst] at h1; exact h1.elim
  | some σ1 =>
  rw [hst] at h1
  have key : σ1.dead b ∧ astore (tk P t') (s.σ.setVar b ⟨t, cs.length, cs⟩) (aev s.T p) (aev s.T x) = some (σ1.setVar b ⟨t, cs.length, cs⟩) := by
    revert hst
    unfold astore
    cases hk : tk P t' with
    | none => intro h; cases h
    | some k =>
    cases hv : avCells (aev s.T x) with
    | none => intro h; cases h
    | some vs =>
    simp only
    split
    · rename_i hlen
      cases hp : aev s.T p <;> simp only [reduceCtorEq, false_implies]
      · rename_i b0 o
        cases hvr : s.σ.var b0 with
        | none => simp
        | some e0 =>
          have hne : b0 ≠ b := fun hh => by subst hh; rw [hb.1] at hvr; cases hvr
          simp only [Option.bind_some, Sto.setVar, if_neg hne, hvr]
          split
          · intro hh
            injection hh with hh
            subst hh
            refine ⟨⟨by simp only; rw [if_neg (Ne.symm hne)]; exact hb.1, hb.2⟩, ?_⟩
            congr 2
            funext z
            by_cases hz : z = b
            · subst hz; simp [Ne.symm hne]
            · simp [hz]
          · intro hh; cases hh
      · rename_i b0 o
        cases hvr : s.σ.own b0 with
        | none => simp
        | some e0 =>
          have hne : b0 ≠ b := fun hh => by subst hh; rw [hb.2] at hvr; cases hvr
          simp only [Option.bind_some, Sto.setVar, Sto.setOwn, hvr]
          split
          · intro hh
            injection hh with hh
            subst hh
            exact ⟨⟨hb.1, by simp only; rw [if_neg (Ne.symm hne)]; exact hb.2⟩, rfl⟩
          · intro hh; cases hh
    · intro h; cases h
  rw [key.2]
  obtain ⟨hk1, h2⟩ := h1
  rw [put_σ] at hk1
  have h3 : aAlloc (tz P t) t (AS.put ⟨s.T, σ1⟩ ldst skipped) idst _ := h2
  rw [hcs] at h3
  obtain ⟨_, h4⟩ := h3 b (by rw [put_σ]; exact key.1)
  refine ⟨fun b' e' hE he' => ?_, ?_⟩
  · rw [put_σ]
    simp only [Sto.setVar] at he' ⊢
    split at he'
    · rename_i hbb; rw [if_pos hbb]; exact he'
    · rename_i hbb; rw [if_neg hbb]; exact hk1 b' e' hE he'
  · rw [put_σ] at h4
    have := put_comm (s := ⟨s.T, σ1.setVar b ⟨t, cs.length, cs⟩⟩) (x := ldst) (y := idst) (v := skipped) (u := .ptr b 0) (fun d hd => (ha1 d hd).2.2)
    have h8 : AS.put ⟨(AS.put ⟨s.T, σ1⟩ ldst skipped).T, σ1.setVar b ⟨t, cs.length, cs⟩⟩ idst (.ptr b 0) = AS.put ⟨(AS.put ⟨s.T, s.σ.setVar b ⟨t, cs.length, cs⟩⟩ idst (.ptr b 0)).T, σ1.setVar b ⟨t, cs.length, cs⟩⟩ ldst skipped := by
      cases ldst <;> cases idst <;> exact this
    rw [← h8]; exact h4
theorem mem_new {σ : Sto} {p : AV} {cs : List AV} {b : Nat} {e : Ent} (hb : σ.dead b) (h : mem σ p = some cs) : mem (σ.setVar b e) p = some cs := by
  unfold mem at h ⊢
  cases p <;> simp only [Sto.setVar] at h ⊢ <;> try exact h
  rename_i b0 o
  by_cases hb0 : b0 = b
  · subst hb0; rw [hb.1] at h; simp at h
  · rw [if_neg hb0]; exact h
/-- A load of what was there, and a variable made. -/
theorem swap_la {D : List (Option Tmp)} {l i : Oper} {s : AS} {K : AS → Prop} (ha : apt D l i = true) (hl : isLd l = true) (hi : isAll P i = true) (h : tstep P E D .x l s (fun s1 => tstep P E D .x i s1 K)) : tstep P E D .x i s (fun s2 => tstep P E D .x l s2 K) := by
  obtain ⟨ha1, ha2⟩ := apt_spec ha
  obtain ⟨ldst, lop, lty, lpos, laf, lg⟩ := l
  obtain ⟨idst, iop, ity, ipos, iaf, ig⟩ := i
  simp only [isLd, isAll, Bool.and_eq_true, Option.isNone_iff_eq_none] at hl hi
  obtain ⟨rfl, hl⟩ := hl
  obtain ⟨rfl, hi⟩ := hi
  have hiop : ∃ t, iop = .alloc t ∧ (tz P t).isSome = true := by
    revert hi
    split
    · exact fun h => ⟨_, rfl, h⟩
    · intro h; cases h
  have hlop : ∃ t p, lop = .load t (.tmp p) := by
    revert hl
    split
    · exact fun _ => ⟨_, _, rfl⟩
    · intro h; cases h
  obtain ⟨t, rfl, htz⟩ := hiop
  obtain ⟨cs, hcs⟩ := Option.isSome_iff_exists.1 htz
  obtain ⟨t', p, rfl⟩ := hlop
  simp only [tstep, gw, aGuard, Option.some.injEq, exists_eq_left', forall_const, true_implies, Bool.true_eq_false, false_implies, and_true] at h ⊢
  have h1 : aVal (aload s.σ (tk P t') (aev s.T (.tmp p))) s ldst _ := h
  show aAlloc (tz P t) t s idst _
  rw [hcs]
  intro b hb
  have hkeep : ∀ (σ : Sto) (e : Ent), σ.var b = none → Keep E σ (σ.setVar b e) := fun σ e hb b' e' _ he => by
    simp only [Sto.setVar]
    rw [if_neg (fun hh => by subst hh; rw [hb] at he; cases he)]
    exact he
  refine ⟨by rw [put_σ]; exact hkeep _ _ hb.1, ?_⟩
  show aVal (aload (AS.put _ idst _).σ (tk P t') (aev (AS.put _ idst _).T (.tmp p))) _ ldst _
  have hop : aev (AS.put ⟨s.T, s.σ.setVar b ⟨t, cs.length, cs⟩⟩ idst (.ptr b 0)).T (.tmp p) = aev s.T (.tmp p) := aev_put (s := ⟨s.T, s.σ.setVar b ⟨t, cs.length, cs⟩⟩) (fun d hd => (ha2 d hd).1 (.tmp p) (by simp [Op.operands]))
  rw [hop, put_σ]
  cases hld : aload s.σ (tk P t') (aev s.T (.tmp p)) with
  | none => rw [hld] at h1; exact h1.elim
  | some v =>
  rw [hld] at h1
  have key : aload (s.σ.setVar b ⟨t, cs.length, cs⟩) (tk P t') (aev s.T (.tmp p)) = some v := by
    revert hld
    unfold aload
    split
    · cases hm : mem s.σ (aev s.T (.tmp p)) with
      | none => intro h; simp at h
      | some cs' => rw [mem_new hb hm]; exact id
    · intro h; cases h
  rw [key]
  obtain ⟨_, h2⟩ := h1
  have h3 : aAlloc (tz P t) t (AS.put s ldst v) idst _ := h2
  rw [hcs] at h3
  obtain ⟨_, h4⟩ := h3 b (by rw [put_σ]; exact hb)
  refine ⟨fun b' e' _ he' => by simp only [put_σ] at he' ⊢; exact he', ?_⟩
  rw [put_σ] at h4
  have := put_comm (s := ⟨s.T, s.σ.setVar b ⟨t, cs.length, cs⟩⟩) (x := ldst) (y := idst) (v := v) (u := .ptr b 0) (fun d hd => (ha1 d hd).2.2)
  have h8 : AS.put ⟨(AS.put s ldst v).T, s.σ.setVar b ⟨t, cs.length, cs⟩⟩ idst (.ptr b 0) = AS.put (AS.put ⟨s.T, s.σ.setVar b ⟨t, cs.length, cs⟩⟩ idst (.ptr b 0)) ldst v := by
    cases ldst <;> cases idst <;> exact this
  rw [← h8]; exact h4
/-- What is ready goes first. -/
theorem run_first {ops : Array Oper} {K : AS → Prop} {c : Cl} {i : Nat} : ∀ (R1 R2 : List (Cl × Nat)) (s : AS), (∀ p ∈ R1, (okP p.1 c || okXA P p.1 c (atOp ops p.2) (atOp ops i)) = true ∧ apt (ops.toList.map (·.dst)) (atOp ops p.2) (atOp ops i) = true) → runI P E ops (R1 ++ (c, i) :: R2) K s →
    tstep P E (ops.toList.map (·.dst)) c (atOp ops i) s (runI P E ops (R1 ++ R2) K)
  | [], R2, s, _, h => h
  | (c', l) :: R1, R2, s, hok, h => by
    obtain ⟨h1, h2⟩ := hok (c', l) (by simp)
    have h3 : tstep P E (ops.toList.map (·.dst)) c' (atOp ops l) s (fun s1 => tstep P E (ops.toList.map (·.dst)) c (atOp ops i) s1 (runI P E ops (R1 ++ R2) K)) := tstep_mono h (fun s1 hs1 => run_first R1 R2 s1 (fun p hp => hok p (by simp [hp])) hs1)
    cases c' <;> cases c <;> simp only [okP, okXA, Bool.false_or, Bool.true_or, Bool.false_and, Bool.true_and] at h1 <;> try (cases h1; done)
    · exact swap_vv h2 h3
    · exact swap_vx h2 h3
    · rw [Bool.and_eq_true, Bool.or_eq_true, Bool.or_eq_true, Bool.or_eq_true] at h1
      rcases h1.1 with ((h4 | h4) | h4) | h4
      · exact swap_xa h2 h4 h1.2 h3
      · exact swap_aa h2 h4 h1.2 h3
      · exact swap_sa h2 h4 h1.2 h3
      · exact swap_la h2 h4 h1.2 h3
theorem pairs_split {ops : Array Oper} {B : List (List Nat)} {q : Cl × Nat} : ∀ (R1 R2 : List (Cl × Nat)), pairsOk P ops B (R1 ++ q :: R2) = true → pairsOk P ops B (R1 ++ R2) = true ∧ (∀ p ∈ R1, pairOk P ops B p q = true) ∧ ∀ p ∈ R2, pairOk P ops B q p = true
  | [], R2, h => by
    simp only [List.nil_append, pairsOk, Bool.and_eq_true, List.all_eq_true] at h
    exact ⟨h.2, by simp, h.1⟩
  | p :: R1, R2, h => by
    simp only [List.cons_append, pairsOk, Bool.and_eq_true, List.all_eq_true] at h
    obtain ⟨h1, h2⟩ := h
    obtain ⟨k1, k2, k3⟩ := pairs_split R1 R2 h2
    refine ⟨?_, fun p' hp' => ?_, k3⟩
    · simp only [List.cons_append, pairsOk, Bool.and_eq_true, List.all_eq_true]
      exact ⟨fun x hx => h1 x (by
        rcases List.mem_append.1 hx with hx | hx
        · exact List.mem_append_left _ hx
        · exact List.mem_append_right _ (List.mem_cons_of_mem _ hx)), k1⟩
    · rcases List.mem_cons.1 hp' with rfl | hp'
      · exact h1 q (by simp)
      · exact k2 p' hp'
theorem pairOk_spec {ops : Array Oper} {B : List (List Nat)} {p q : Cl × Nat} (h : pairOk P ops B p q = true) : q.2 ∉ dirs (atOp ops p.2) ∧ p.2 ≠ q.2 ∧ (p.2 ∈ B.getD q.2 [] ∨ ((okP p.1 q.1 || okXA P p.1 q.1 (atOp ops p.2) (atOp ops q.2)) = true ∧ apt (ops.toList.map (·.dst)) (atOp ops p.2) (atOp ops q.2) = true)) := by
  unfold pairOk at h
  rw [Bool.and_eq_true, Bool.and_eq_true, Bool.or_eq_true, Bool.and_eq_true] at h
  refine ⟨by simpa using h.1.1, by simpa using h.1.2, h.2.imp (fun h => by simpa using h) id⟩
theorem draw_run {ops : Array Oper} {B : List (List Nat)} {Q : Exit → Act → World → Prop} {K : AS → Prop} (hB : befOk ops B = true) (hok : ∀ o ∈ ops.toList, opOk P n o = true) (hQ : ∀ a w, Post P n σ0 w0 K a w → Q .normal a w) :
    ∀ (fuel : Nat) (R : List (Cl × Nat)) (listed : Array Bool) (s : AS) (a : Act) (w : World), R.length = fuel → Inv P ops B R listed → Rel P n σ0 w0 s a w → runI P E ops R K s → wpAny P .any ops Q fuel listed a w
  | 0, R, listed, s, a, w, hl, hI, hR, h => by
    have hR0 : R = [] := List.eq_nil_of_length_eq_zero hl
    subst hR0
    refine ⟨?_, hQ a w ⟨s, h, hR⟩⟩
    apply List.eq_nil_iff_forall_not_mem.2
    intro i hi
    obtain ⟨h1, h2, _⟩ := ready_spec hi
    obtain ⟨c, hc⟩ := (hI.mem i h1).1 h2
    cases hc
  | fuel + 1, R, listed, s, a, w, hl, hI, hR, h => by
    refine ⟨fun hr => ?_, fun i hi => ?_⟩
    · -- the first of ours is ready
      exfalso
      cases R with
      | nil => simp at hl
      | cons p R =>
        have hpl := hI.lt p (by simp)
        have hnl : listed.getD p.2 true = false := (hI.mem p.2 hpl).2 ⟨p.1, by simp⟩
        have hmem : p.2 ∈ Region.ready .any ops listed := ready_mk hpl hnl (fun m hm => by
          apply Classical.byContradiction
          intro hml
          have hmi : m < ops.size := by
            unfold befOk at hB
            rw [List.all_eq_true] at hB
            have := hB p.2 (List.mem_range.2 hpl)
            rw [Bool.and_eq_true, List.all_eq_true] at this
            have := this.1 m hm
            simp at this
            omega
          have hml' : listed.getD m true = false := by
            rw [getD_listed (by rw [hI.size]; exact hmi) true false]
            simpa using hml
          obtain ⟨c, hc⟩ := (hI.mem m hmi).1 hml'
          rcases List.mem_cons.1 hc with hc | hc
          · have : m = p.2 := by rw [← hc]
            subst this
            have hB2 := hB
            unfold befOk at hB2
            rw [List.all_eq_true] at hB2
            have := hB2 p.2 (List.mem_range.2 hpl)
            rw [Bool.and_eq_true, List.all_eq_true] at this
            have := this.1 p.2 hm
            simp at this
          · have := (pairs_split [] R hI.pairs).2.2 _ hc
            exact (pairOk_spec this).1 hm)
        rw [hr] at hmem
        cases hmem
    · obtain ⟨hil, hiu, hid⟩ := ready_spec hi
      obtain ⟨c, hc⟩ := (hI.mem i hil).1 hiu
      obtain ⟨R1, R2, rfl⟩ := List.append_of_mem hc
      obtain ⟨p1, p2, p3⟩ := pairs_split R1 R2 hI.pairs
      have hfirst := run_first (P := P) (E := E) R1 R2 s (fun p hp => by
        obtain ⟨q1, q2, q3⟩ := pairOk_spec (p2 p hp)
        rcases q3 with q3 | q3
        · exfalso
          have hpl := hI.lt p (by simp [hp])
          have hpu : listed.getD p.2 true = false := (hI.mem p.2 hpl).2 ⟨p.1, by simp [hp]⟩
          have : listed.getD p.2 false = true := by
            unfold befOk at hB
            rw [List.all_eq_true] at hB
            have hBi := hB i (List.mem_range.2 hil)
            rw [Bool.and_eq_true, List.all_eq_true, List.all_eq_true] at hBi
            have h3 := hBi.2 p.2 q3
            rw [Bool.or_eq_true] at h3
            rcases h3 with h3 | h3
            · exact hid p.2 (by simpa using h3)
            · rw [List.any_eq_true] at h3
              obtain ⟨m, hm, hml⟩ := h3
              have hmi : m < i := by simpa using hBi.1 m hm
              have hmlist := hid m hm
              exact bef_listed (by unfold befOk; rw [List.all_eq_true]; exact hB) hI.size hI.closed m (by omega) (by rw [getD_listed (by rw [hI.size]; omega) true false]; exact hmlist) p.2 (by simpa using hml)
          rw [getD_listed (by rw [hI.size]; exact hpl) false true, hpu] at this
          cases this
        · exact q3) h
      unfold wpOp
      have hg : ops[i]? = some (atOp ops i) := by simp [atOp, hil]
      simp only [hg]
      refine tstep_ok (E := E) (c := c) (hok _ (by rw [List.mem_iff_getElem?]; exact ⟨i, by simpa using hg⟩)) hR hfirst (fun a' w' hp => ?_)
      obtain ⟨s', hs', hR'⟩ := hp
      refine draw_run hB hok hQ fuel (R1 ++ R2) _ s' a' w' (by simp at hl ⊢; omega) ?_ hR' hs'
      have hset : ∀ j b, (listed.setIfInBounds i true).getD j b = if j = i then true else listed.getD j b := by
        intro j b
        by_cases hj : j = i
        · subst hj
          rw [if_pos rfl]
          simp [hI.size, hil]
        · rw [if_neg hj]
          simp [Array.getElem?_setIfInBounds_ne (Ne.symm hj)]
      have hnot : ∀ c', (c', i) ∉ R1 ++ R2 := by
        intro c' hc'
        rcases List.mem_append.1 hc' with hc' | hc'
        · exact (pairOk_spec (p2 _ hc')).2.1 rfl
        · exact (pairOk_spec (p3 _ hc')).2.1 rfl
      refine ⟨by simp [hI.size], fun j hj => ?_, fun p hp => hI.lt p (by
        rcases List.mem_append.1 hp with hp | hp
        · exact List.mem_append_left _ hp
        · exact List.mem_append_right _ (List.mem_cons_of_mem _ hp)), fun j hj hjl m hm => ?_, p1⟩
      · rw [hset]
        by_cases hji : j = i
        · subst hji
          rw [if_pos rfl]
          constructor
          · intro h; cases h
          · rintro ⟨c', hc'⟩; exact absurd hc' (hnot c')
        · rw [if_neg hji, hI.mem j hj]
          constructor
          · rintro ⟨c', hc'⟩
            refine ⟨c', ?_⟩
            rcases List.mem_append.1 hc' with hc' | hc'
            · exact List.mem_append_left _ hc'
            · rcases List.mem_cons.1 hc' with hc' | hc'
              · injection hc' with _ h2; exact absurd h2 hji
              · exact List.mem_append_right _ hc'
          · rintro ⟨c', hc'⟩
            refine ⟨c', ?_⟩
            rcases List.mem_append.1 hc' with hc' | hc'
            · exact List.mem_append_left _ hc'
            · exact List.mem_append_right _ (List.mem_cons_of_mem _ hc')
      · rw [hset] at hjl ⊢
        by_cases hmi : m = i
        · rw [if_pos hmi]
        · rw [if_neg hmi]
          by_cases hji : j = i
          · subst hji; exact hid m hm
          · rw [if_neg hji] at hjl; exact hI.closed j hj hjl m hm
/-- A region whose order is open, walked in an order of ours. -/
theorem draw_of {ops : Array Oper} {K : AS → Prop} {s : AS} (E : Nat → Prop) (L : List (Cl × Nat)) (hchk : drawOk P ops L = true) (h : runI P E ops L K s) : aDraw P ops K s := by
  intro n σ0 w0 a w Q hok hR hQ
  unfold drawOk at hchk
  simp only [Bool.and_eq_true] at hchk
  obtain ⟨⟨⟨⟨h1, h2⟩, h3⟩, h4⟩, h5⟩ := hchk
  have h5' : L.length = ops.size := by simpa using h5
  refine draw_run (E := E) h1 hok hQ ops.size L _ s a w h5' ⟨by simp, fun i hi => ?_, fun p hp => by have := (List.all_eq_true.1 h4) p hp; simpa using this, fun i hi hl => ?_, h2⟩ hR h
  · have hf : (Array.replicate ops.size false).getD i true = false := by simp [hi]
    rw [hf]
    have := (List.all_eq_true.1 h3) i (List.mem_range.2 hi)
    rw [List.any_eq_true] at this
    obtain ⟨p, hp, hpi⟩ := this
    have : p.2 = i := by simpa using hpi
    subst this
    exact ⟨fun _ => ⟨p.1, hp⟩, fun _ => rfl⟩
  · have hf : (Array.replicate ops.size false).getD i true = false := by simp [hi]
    rw [hf] at hl
    cases hl
end
end Go.Proofs.Shadow

