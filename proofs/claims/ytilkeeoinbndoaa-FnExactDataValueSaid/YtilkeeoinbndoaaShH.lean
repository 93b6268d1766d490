/- Code: what the abstract walk says, the machine does; contracts out of walks. -/
import Derived.Test.YtilkeeoinbndoaaShG
set_option linter.unusedVariables false
set_option linter.unusedSimpArgs false
namespace Go.Proofs.Shadow
open Go Go.RowKit
def apOk (P : Program) (t : TypeId) : Bool :=
  match se P t with
  | some (e, sz, _) => (match tz P e with | some z => z.length == sz | none => false)
  | none => false
def opOk (P : Program) (n : Nat) (o : Oper) : Bool :=
  o.op.operands.toList.all operandOk && (match o.dst with | some d => decide (d < n) | none => true) &&
  (match o.op with
   | .call { callee := .builtin .append, argTypes, .. } => (match argTypes.toList with | t :: _ => apOk P t | [] => false)
   | _ => true)
def codeOk (P : Program) (n : Nat) : Code → Bool
  | .region _ ops _ => ops.toList.all (opOk P n)
  | .seq a b => codeOk P n a && codeOk P n b
  | .cond c a b => operandOk c && codeOk P n a && codeOk P n b
  | .block _ c | .loop c => codeOk P n c
  | _ => true
theorem opOk_spec {P : Program} {n : Nat} {o : Oper} (h : opOk P n o = true) : (∀ x ∈ o.op.operands.toList, operandOk x = true) ∧ (∀ d, o.dst = some d → d < n) ∧
    ∀ args tys, o.op = .call { callee := .builtin .append, args, argTypes := tys } → ∀ t, tys.toList[0]? = some t → apOk P t = true := by
  unfold opOk at h
  rw [Bool.and_eq_true, Bool.and_eq_true] at h
  obtain ⟨⟨h1, h2⟩, h3⟩ := h
  refine ⟨List.all_eq_true.1 h1, fun d hd => by rw [hd] at h2; simpa using h2, fun args tys ho t ht => ?_⟩
  rw [ho] at h3
  simp only at h3
  cases hl : tys.toList with
  | nil => rw [hl] at ht; simp at ht
  | cons t' r => rw [hl] at ht h3; simp at ht; subst ht; exact h3
section
variable {P : Program} {n : Nat} {σ0 : Sto} {w0 : World}
theorem aVal_ok {o : Oper} {s : AS} {a : Act} {w : World} {K : AS → Prop} {Q : Exit → Act → World → Prop} (hok : opOk P n o = true) (hR : Rel P n σ0 w0 s a w) (h : aVal (vop P s.σ (aev s.T) o.op) s o.dst K) : o.wp P a w (Post P n σ0 w0 K) Q := by
  obtain ⟨h1, h2, _⟩ := opOk_spec hok
  unfold aVal at h
  cases hv : vop P s.σ (aev s.T) o.op with
  | none => simp [hv] at h
  | some v =>
    simp only [hv] at h
    obtain ⟨cv, w', hrun, hb, hrv⟩ := vop_ok (ρc := a.eval) hR.sim hR.tb (fun x hx => aev_ok hR.tmps (h1 x hx)) hv
    exact wp_of_run hrun (post_of (s' := ⟨s.T, s.σ⟩) hR h2 rfl (hR.sim.below hb) (Step.of_below hb) hrv h)
theorem Sim.cut {σ : Sto} {w : World} (h : Sim σ w) {b m : Nat} {e : Ent} (hb : σ.own b = some e) : Sim (σ.setOwn b ⟨e.ty, e.size, e.cells.take m⟩) w ∧ Step σ w (σ.setOwn b ⟨e.ty, e.size, e.cells.take m⟩) w := by
  have hdd : ∀ b', σ.dead b' → (σ.setOwn b ⟨e.ty, e.size, e.cells.take m⟩).dead b' := fun b' hd => ⟨hd.1, by
    simp only [Sto.setOwn]
    rw [if_neg (fun he => by subst he; rw [hd.2] at hb; cases hb)]
    exact hd.2⟩
  have hst : Step σ w (σ.setOwn b ⟨e.ty, e.size, e.cells.take m⟩) w := ⟨rfl, rfl, rfl, Nat.le_refl _, fun b' _ hd => ⟨rfl, hdd b' hd⟩⟩
  have hblk : ∀ b' e', BlkOk σ w b' e' → BlkOk (σ.setOwn b ⟨e.ty, e.size, e.cells.take m⟩) w b' e' := by
    rintro b' e' ⟨cs, h1, h2, h3, h4⟩
    exact ⟨cs, h1, h2, h3, fun i c hc => ⟨(h4 i c hc).1, (h4 i c hc).2.step hst⟩⟩
  refine ⟨⟨fun b' e' he' => ?_, fun b' e' he' => ?_⟩, hst⟩
  · obtain ⟨h1, h2, h3⟩ := h.var b' e' he'
    refine ⟨hblk _ _ h1, h2, ?_⟩
    simp only [Sto.setOwn]
    rw [if_neg (fun he => by subst he; rw [h3] at hb; cases hb)]
    exact h3
  · simp only [Sto.setOwn] at he'
    split at he'
    · rename_i hbb
      subst hbb
      injection he' with he'
      subst he'
      obtain ⟨cs, h1, h2, h3, h4⟩ := h.own b' e hb
      refine hblk _ _ ⟨cs, h1, h2, by simp only [List.length_take]; omega, fun i c hc => h4 i c ?_⟩
      rw [List.getElem?_take] at hc
      split at hc
      · exact hc
      · cases hc
    · exact hblk _ _ (h.own b' e' he')
theorem aSl_ok {o : Oper} {s : AS} {a : Act} {w : World} {K : AS → Prop} {Q : Exit → Act → World → Prop} (hok : opOk P n o = true) (hR : Rel P n σ0 w0 s a w) (h : aSl (vop P s.σ (aev s.T) o.op) s o.dst K) : o.wp P a w (Post P n σ0 w0 K) Q := by
  obtain ⟨h1, h2, _⟩ := opOk_spec hok
  unfold aSl at h
  cases hv : vop P s.σ (aev s.T) o.op with
  | none => simp [hv] at h
  | some v =>
    rw [hv] at h
    obtain ⟨cv, w', hrun, hb, hrv⟩ := vop_ok (ρc := a.eval) hR.sim hR.tb (fun x hx => aev_ok hR.tmps (h1 x hx)) hv
    split at h
    · rename_i b hh cap heq
      injection heq with heq
      subst heq
      obtain ⟨m, e, he, hK⟩ := h
      have hc := (hR.sim.below hb).cut (m := m) he
      have hst : Step s.σ w (s.σ.setOwn b ⟨e.ty, e.size, e.cells.take m⟩) w' := (Step.of_below hb).trans hc.2
      exact wp_of_run hrun (post_of (s' := ⟨s.T, s.σ.setOwn b ⟨e.ty, e.size, e.cells.take m⟩⟩) hR h2 rfl hc.1 hst (hrv.step hc.2) hK)
    · rename_i v' _ heq
      injection heq with heq
      subst heq
      exact wp_of_run hrun (post_of (s' := ⟨s.T, s.σ⟩) hR h2 rfl (hR.sim.below hb) (Step.of_below hb) hrv h)
    · rename_i heq; cases heq
theorem call_ok {o : Oper} {fo : Operand} {args : Array Operand} {tys : Array TypeId} {s : AS} {a : Act} {w : World} {K : AS → Prop} {Q : Exit → Act → World → Prop} (ho : o.op = .call { callee := .value fo, args, argTypes := tys }) (hok : opOk P n o = true) (hR : Rel P n σ0 w0 s a w)
    (h : aCall P (aev s.T fo) (args.toList.map (aev s.T)) s o.dst K) : o.wp P a w (Post P n σ0 w0 K) Q := by
  obtain ⟨h1, h2, _⟩ := opOk_spec hok
  rw [ho] at h1
  simp only [Op.operands, Call.operands] at h1
  have hfo := aev_ok hR.tmps (h1 fo (by simp))
  cases hfv : aev s.T fo <;> rw [hfv] at h hfo <;> try (exact h.elim)
  rename_i f caps
  generalize hcf : a.eval fo = cf at hfo
  cases hfo with
  | @fn _ _ vs hl hr =>
    obtain ⟨⟨fn, hf, hbody, hname⟩, hc⟩ := h
    have hcall := hc w (args.toList.map a.eval ++ vs.toList) hR.sim hR.tb (by simp [hl]) (fun i av hav => by
      rw [List.getElem?_append] at hav
      rw [List.getD_eq_getElem?_getD, List.getElem?_append]
      simp only [List.length_map] at hav ⊢
      split at hav
      · rename_i hlt
        rw [if_pos hlt]
        rw [List.getElem?_map] at hav ⊢
        obtain ⟨x, hx, rfl⟩ := Option.map_eq_some_iff.1 hav
        rw [hx]
        exact aev_ok hR.tmps (h1 x (by simp; exact .inr (Array.mem_toList_iff.1 (List.mem_of_getElem? hx))))
      · rename_i hge
        rw [if_neg hge]
        have := hr _ av hav
        simpa using this)
    have hexec : (execOp a.eval o).run P w = .ok (.enter f (args.toList.map a.eval ++ vs.toList).toArray) w := by
      have hb2 : fn.body.isNone = false := hbody
      simp only [execOp, ho, resolve, hcf, Deferred.ofValue, invoke, callFunc, Sem.run_bind, Sem.run_pure, Result.andThen_ok, program, Sem.run, hf, hname, hb2, Bool.false_eq_true, if_false]
      congr 2
      apply Array.ext'
      simp
    unfold Oper.wp
    rw [hexec]
    simp only [Oper.upon]
    refine Calls.mono hcall (fun e w' he => ?_)
    obtain ⟨v, r, σ', rfl, hst, hsim, hrv, hK⟩ := he
    exact post_of (s' := ⟨s.T, σ'⟩) hR h2 rfl hsim hst hrv hK
theorem aop_ok {o : Oper} {s : AS} {a : Act} {w : World} {K : AS → Prop} {Q : Exit → Act → World → Prop} (hok : opOk P n o = true) (hR : Rel P n σ0 w0 s a w) (h : aop P o s K) : o.wp P a w (Post P n σ0 w0 K) Q := by
  obtain ⟨h1, h2, h3⟩ := opOk_spec hok
  unfold aop at h
  split at h
  · rename_i t heq
    cases hz : tz P t with
    | none => rw [hz] at h; exact h.elim
    | some cs =>
      rw [hz] at h
      obtain ⟨i, z, hi, hzc, hzr⟩ := tz_spec (σ := s.σ) (w := w) hz
      refine wp_of_run (w' := w.alloc (.cells z.cells t)) ?_ (alloc_ok (Q := Q) hR h2 h hzr.1 hzr.2.1 hzr.2.2)
      simp only [execOp, heq, Instr.alloc, zeroValue, typeInfo, Sem.run_bind, program, Sem.run, Result.andThen_ok, hi, hzc, Sem.run_pure, newVar, newRow, newObj]
      rfl
  · rename_i t x heq
    have hx := aev_ok hR.tmps (h1 x (by rw [heq]; simp [Op.operands]))
    cases hc : avCells (aev s.T x) with
    | none => rw [hc] at h; exact h.elim
    | some cs =>
      rw [hc] at h
      have hrc := avCells_RvC hx hc
      refine wp_of_run (w' := w.alloc (.cells (a.eval x).cells t)) ?_ (alloc_ok (Q := Q) hR h2 h hrc.1 hrc.2.1 hrc.2.2)
      simp only [execOp, heq, Instr.box, Sem.run_bind, newVar, newRow, newObj, Sem.run, Result.andThen_ok, Sem.run_pure]
      rfl
  · rename_i t p x heq
    have hp := aev_ok hR.tmps (h1 p (by rw [heq]; simp [Op.operands]))
    have hx := aev_ok hR.tmps (h1 x (by rw [heq]; simp [Op.operands]))
    obtain ⟨w', hrun, hpost⟩ := store_ok (Q := Q) hR h2 hp hx h
    unfold Oper.wp
    simp only [execOp, heq, Sem.run_bind, hrun, Result.andThen_ok, Sem.run_pure, Oper.upon]
    exact hpost
  · rename_i t l c heq
    have hl := aev_ok hR.tmps (h1 l (by rw [heq]; simp [Op.operands]))
    have hc := aev_ok hR.tmps (h1 c (by rw [heq]; simp [Op.operands]))
    obtain ⟨cv, w', hrun, hpost⟩ := make_ok hR h2 hl hc h
    refine wp_of_run (cv := cv) (w' := w') ?_ hpost
    simp only [execOp, heq, Sem.run_bind, hrun, Result.andThen_ok, Sem.run_pure]
  · rename_i f args tys heq
    exact call_ok heq hok hR h
  · rename_i args tys heq
    split at h
    · rename_i x y t t2 ha ht
      obtain ⟨rfl, h⟩ := h
      have hae : args = #[x, y] := by rw [← Array.toArray_toList (xs := args), ha]
      have hte : tys = #[t, t] := by rw [← Array.toArray_toList (xs := tys), ht]
      have hx := aev_ok hR.tmps (h1 x (by rw [heq, hae]; simp [Op.operands, Call.operands]))
      have hy := aev_ok hR.tmps (h1 y (by rw [heq, hae]; simp [Op.operands, Call.operands]))
      have hap := h3 args tys heq t (by rw [ht]; rfl)
      have hz : ∃ z, ((se P t).bind fun k => tz P k.1) = some z ∧ ∀ k, se P t = some k → z.length = k.2.1 := by
        unfold apOk at hap
        cases hk : se P t with
        | none => simp [hk] at hap
        | some k =>
          obtain ⟨e, sz, by_⟩ := k
          simp only [hk] at hap
          cases hz : tz P e with
          | none => simp [hz] at hap
          | some z =>
            simp only [hz] at hap
            exact ⟨z, by simpa using hz, fun k hk' => by injection hk' with hk'; subst hk'; simpa using hap⟩
      obtain ⟨cv, w', hrun, hpost⟩ := append_ok (ty := o.type) hR h2 hx hy hz h
      refine wp_of_run (cv := cv) (w' := w') ?_ hpost
      subst hae; subst hte
      simp only [execOp, heq, resolve, invoke, builtin, Sem.run_bind, Sem.run_pure, Result.andThen_ok, List.map_toArray, List.map_cons, List.map_nil, hrun]
    · exact h.elim
  · rename_i t x lo hi mx heq
    exact aSl_ok hok hR (by rw [heq]; exact h)
  · rename_i t g heq
    unfold aVal at h
    cases hv : tload P s.σ t g with
    | none => simp [hv] at h
    | some v =>
      simp only [hv] at h
      obtain ⟨cv, hrun, hrv⟩ := tload_ok hR.sim hR.tb hv
      have hrun' : (execOp a.eval o).run P w = .ok (.value cv) w := by
        simp only [execOp, heq, Sem.run_bind]
        have : a.eval (.global g) = .pointer (some ⟨g, 0, none⟩) := rfl
        rw [this, hrun]; rfl
      exact wp_of_run hrun' (post_of (s' := ⟨s.T, s.σ⟩) hR h2 rfl (hR.sim.below (Below.refl _ _)) (Step.of_below (Below.refl _ _)) hrv h)
  · exact aVal_ok hok hR h
/-! ### Regions -/
def gd (D : List (Option Tmp)) (j : Nat) : Option Tmp := (D[j]?).bind id
def gw (D : List (Option Tmp)) (T : Nat → AV) : Option (Nat × Bool) → Option Bool
  | none => some true
  | some (j, want) =>
    match gd D j with
    | some d => (match T d with | .bool b => some (b == want) | .tup [] => some false | _ => none)
    | none => some false
def aGuard (g : Option Bool) (A B : Prop) : Prop := ∃ t, g = some t ∧ (t = true → A) ∧ (t = false → B)
def aop1 (P : Program) (D : List (Option Tmp)) (o : Oper) (s : AS) (K : AS → Prop) : Prop := aGuard (gw D s.T o.guard) (aop P o s K) (K (s.put o.dst skipped))
def aops (P : Program) (D : List (Option Tmp)) : List Oper → (AS → Prop) → AS → Prop
  | [], K, s => K s
  | o :: os, K, s => aop1 P D o s (aops P D os K)
theorem gw_ok {ops : Array Oper} {o : Oper} {T : Nat → AV} {σ : Sto} {w : World} {a : Act} {t : Bool} (hT : RelT n σ w T a) (h : gw (ops.toList.map (·.dst)) T o.guard = some t) : Region.wanted o (yielded ops a.tmps) = t := by
  unfold Region.wanted
  cases hg : o.guard with
  | none => simp only [gw, hg, Option.some.injEq] at h; exact h
  | some jw =>
    obtain ⟨j, want⟩ := jw
    simp only [gw, hg] at h
    have hy : ∀ r, yielded ops a.tmps j = r → (yielded ops a.tmps j == some want) = (r == some want) := fun r hr => by rw [hr]
    have hgd : gd (ops.toList.map (·.dst)) j = (ops[j]?).bind (·.dst) := by
      unfold gd
      rw [List.getElem?_map, Array.getElem?_toList]
      cases ops[j]? <;> rfl
    rw [hgd] at h
    show (yielded ops a.tmps j == some want) = t
    cases hd : (ops[j]?).bind (·.dst) with
    | none =>
      simp only [hd, Option.some.injEq] at h
      subst h
      rw [hy none (by unfold yielded; rw [hd]; rfl)]
      rfl
    | some d =>
      simp only [hd] at h
      have hrv := hT.2.2 d
      have hdd : a.tmps.getD d undef = (a.tmps[d]?).getD undef := by rw [Array.getD_eq_getD_getElem?]
      rw [hdd] at hrv
      have hyd : yielded ops a.tmps j = (match a.tmps[d]? with | some (.bool b) => some b | _ => none) := by
        unfold yielded; rw [hd]; rfl
      cases hTd : T d <;> rw [hTd] at h hrv <;> try (cases h; done)
      case bool b =>
        simp only [Option.some.injEq] at h
        cases ht : a.tmps[d]? with
        | none => rw [ht] at hrv; simp only [Option.getD_none, undef] at hrv; cases hrv
        | some v =>
          rw [ht] at hrv hyd
          simp only [Option.getD_some] at hrv
          cases hrv
          rw [hyd]
          simpa using h
      case tup vs =>
        cases vs with
        | cons _ _ => cases h
        | nil =>
          simp only [Option.some.injEq] at h
          subst h
          cases ht : a.tmps[d]? with
          | none => rw [ht] at hyd; rw [hyd]; rfl
          | some v =>
            rw [ht] at hrv hyd
            simp only [Option.getD_some] at hrv
            cases hrv
            rw [hyd]
            rfl
theorem aop1_ok {ops : Array Oper} {Q : Exit → Act → World → Prop} {o : Oper} {s : AS} {a : Act} {w : World} {K : AS → Prop} {K' : Act → World → Prop} (hok : opOk P n o = true) (hR : Rel P n σ0 w0 s a w) (h : aop1 P (ops.toList.map (·.dst)) o s K) (hK : ∀ a w, Post P n σ0 w0 K a w → K' a w) :
    if Region.wanted o (yielded ops a.tmps) then o.wp P a w K' Q ∨ (o.asks P a w ∧ LetsOut Q) else K' (a.put o.dst undef) w := by
  obtain ⟨t, hg, h1, h2⟩ := h
  rw [gw_ok hR.tmps hg]
  cases t with
  | true => simp only [if_true]; exact .inl (Oper.wp_mono hK (aop_ok hok hR (h1 rfl)))
  | false => simp only [Bool.false_eq_true, if_false]; exact hK _ _ (post_of (s' := ⟨s.T, s.σ⟩) hR (opOk_spec hok).2.1 rfl hR.sim (Step.refl _ _) undef_rv (h2 rfl))
theorem aops_ok {ops : Array Oper} {Q : Exit → Act → World → Prop} {K : AS → Prop} (hQ : ∀ a w, Post P n σ0 w0 K a w → Q .normal a w) : ∀ (l : List Oper) (s : AS) (a : Act) (w : World), (∀ o ∈ l, opOk P n o = true) → Rel P n σ0 w0 s a w → aops P (ops.toList.map (·.dst)) l K s → wpList P ops Q l a w
  | [], s, a, w, _, hR, h => hQ a w ⟨s, h, hR⟩
  | o :: os, s, a, w, hok, hR, h => by
    unfold wpList
    exact aop1_ok (hok o (by simp)) hR h (fun a' w' hp => by
      obtain ⟨s', hs', hR'⟩ := hp
      exact aops_ok hQ os s' a' w' (fun o ho => hok o (by simp [ho])) hR' hs')
/-! ### Regions whose order is open: whatever is ready may come next -/
/-! ### Code -/
inductive AX where
  | nrm | ex (id : Nat) | ret
def AX.exit : AX → Exit
  | .nrm => .normal
  | .ex id => .exit id
  | .ret => .ret
def thn (k : AS → Prop) (Q : AX → AS → Prop) : AX → AS → Prop
  | .nrm, s => k s
  | x, s => Q x s
def inBlk (id : Nat) (Q : AX → AS → Prop) : AX → AS → Prop
  | .ex id', s => if id' = id then Q .nrm s else Q (.ex id') s
  | x, s => Q x s
def aCond (c : AV) (A B : Prop) : Prop := (∃ t, c = .bool t ∧ (t = true → A) ∧ (t = false → B)) ∨ (c = .ub ∧ A ∧ B)
/-- A region whose order is open: said of the machine itself. -/
def aDraw (P : Program) (ops : Array Oper) (K : AS → Prop) (s : AS) : Prop :=
  ∀ (n : Nat) (σ0 : Sto) (w0 : World) (a : Act) (w : World) (Q : Exit → Act → World → Prop), (∀ o ∈ ops.toList, opOk P n o = true) → Rel P n σ0 w0 s a w → (∀ a w, Post P n σ0 w0 K a w → Q .normal a w) →
    wpAny P .any ops Q ops.size (Array.replicate ops.size false) a w
/-- What the machine is in s, it is in s'. -/
def Wkn (P : Program) (s s' : AS) : Prop := ∀ (n : Nat) (σ0 : Sto) (w0 : World) (a : Act) (w : World), Rel P n σ0 w0 s a w → Rel P n σ0 w0 s' a w
def wkQ (P : Program) (Q : AX → AS → Prop) (x : AX) (s : AS) : Prop := ∃ s', Wkn P s s' ∧ Q x s'
theorem wq {P : Program} {Q : AX → AS → Prop} {x : AX} {s : AS} (h : Q x s) : wkQ P Q x s := ⟨s, fun _ _ _ _ _ h => h, h⟩
/-- The least relation that holds where a round leads into it, or out. -/
def aLoop (P : Program) (body : (AX → AS → Prop) → AS → Prop) (Q : AX → AS → Prop) (s : AS) : Prop :=
  ∀ X : AS → Prop, (∀ s, body (thn X (wkQ P Q)) s → X s) → X s
def acode (P : Program) : Code → (AX → AS → Prop) → AS → Prop
  | .skip, Q, s => Q .nrm s
  | .region _ ops false, Q, s => aops P (ops.toList.map (·.dst)) ops.toList (Q .nrm) s
  | .region _ ops true, Q, s => aDraw P ops (Q .nrm) s
  | .seq x y, Q, s => acode P x (thn (acode P y Q) Q) s
  | .cond c x y, Q, s => aCond (aev s.T c) (acode P x Q s) (acode P y Q s)
  | .block id c, Q, s => acode P c (inBlk id Q) s
  | .loop c, Q, s => aLoop P (acode P c) Q s
  | .exit id, Q, s => Q (.ex id) s
  | .ret, Q, s => Q .ret s
  | _, _, _ => False
def QC (P : Program) (n : Nat) (σ0 : Sto) (w0 : World) (Q : AX → AS → Prop) (e : Exit) (a : Act) (w : World) : Prop := ∃ x : AX, e = x.exit ∧ Post P n σ0 w0 (Q x) a w
theorem acode_ok (hm : P.follows .mixedOrders = true) : ∀ (c : Code) (Q : AX → AS → Prop) (s : AS) (a : Act) (w : World), codeOk P n c = true → Rel P n σ0 w0 s a w → acode P c Q s → c.wp P (QC P n σ0 w0 Q) a w := by
  intro c
  induction c with
  | skip => exact fun Q s a w _ hR h => wp_skip ⟨.nrm, rfl, s, h, hR⟩
  | region id ops draw =>
    intro Q s a w hok hR h
    have hok' : ∀ o ∈ ops.toList, opOk P n o = true := List.all_eq_true.1 hok
    cases draw with
    | false => exact wp_region_list (aops_ok (fun a w hp => ⟨.nrm, rfl, hp⟩) ops.toList s a w hok' hR h)
    | true =>
      have hR' : Rel P n σ0 w0 s a w.drew := ⟨hR.sim.drew, hR.tmps.step (Step.drew _ _), hR.step.trans (Step.drew _ _), hR.tb.step (Step.drew _ _)⟩
      exact wp_region_any hm (h n σ0 w0 a w.drew _ hok' hR' (fun a w hp => ⟨.nrm, rfl, hp⟩))
  | seq x y ihx ihy =>
    intro Q s a w hok hR h
    rw [codeOk, Bool.and_eq_true] at hok
    refine wp_seq (wp_mono (ihx _ s a w hok.1 hR h) ?_)
    rintro e a' w' ⟨x', rfl, s', hs', hR'⟩
    cases x' with
    | nrm => exact ihy Q s' a' w' hok.2 hR' hs'
    | ex id => exact ⟨.ex id, rfl, s', hs', hR'⟩
    | ret => exact ⟨.ret, rfl, s', hs', hR'⟩
  | cond c x y ihx ihy =>
    intro Q s a w hok hR h
    rw [codeOk, Bool.and_eq_true, Bool.and_eq_true] at hok
    have hrv := aev_ok hR.tmps hok.1.1
    rcases h with ⟨t, hc, h1, h2⟩ | ⟨hc, h1, h2⟩
    · rw [hc] at hrv
      generalize hcv : a.eval c = cv at hrv
      cases hrv
      exact wp_cond_split hcv (fun ht => ihx Q s a w hok.1.2 hR (h1 ht)) (fun ht => ihy Q s a w hok.2 hR (h2 ht))
    · rw [hc] at hrv
      generalize hcv : a.eval c = cv at hrv
      cases hrv
      exact wp_cond_split hcv (fun ht => ihx Q s a w hok.1.2 hR h1) (fun ht => ihy Q s a w hok.2 hR h2)
  | block id c ih =>
    intro Q s a w hok hR h
    refine wp_block (wp_mono (ih _ s a w hok hR h) ?_)
    rintro e a' w' ⟨x', rfl, s', hs', hR'⟩
    cases x' with
    | nrm => exact ⟨.nrm, rfl, s', hs', hR'⟩
    | ex id' =>
      simp only [AX.exit, Exit.inBlock]
      simp only [inBlk] at hs'
      split
      · rename_i he; rw [if_pos he] at hs'; exact ⟨.nrm, rfl, s', hs', hR'⟩
      · rename_i he; rw [if_neg he] at hs'; exact ⟨.ex id', rfl, s', hs', hR'⟩
    | ret => exact ⟨.ret, rfl, s', hs', hR'⟩
  | loop c ih =>
    intro Q s a w hok hR h
    have key : ∀ a w, Rel P n σ0 w0 s a w → ∀ (b : Frame) (k : List Item) (cs : List Frame), ∃ e a' w', QC P n σ0 w0 Q e a' w' ∧ Arrives P (lone (b.at a (.code c :: .inLoop c :: k)) cs w) b k cs e a' w' := by
      refine h (fun s => ∀ a w, Rel P n σ0 w0 s a w → ∀ (b : Frame) (k : List Item) (cs : List Frame), ∃ e a' w', QC P n σ0 w0 Q e a' w' ∧ Arrives P (lone (b.at a (.code c :: .inLoop c :: k)) cs w) b k cs e a' w') ?_
      intro s hs a w hR b k cs
      obtain ⟨e, a₁, w₁, ⟨x, rfl, s', hx, hR'⟩, harr⟩ := ih _ s a w hok hR hs b (.inLoop c :: k) cs
      cases x with
      | nrm =>
        obtain ⟨e₂, a₂, w₂, hq₂, harr₂⟩ := hx a₁ w₁ hR' b k cs
        exact ⟨e₂, a₂, w₂, hq₂, .of_steps (Steps.trans harr (.one step_inLoop)) harr₂⟩
      | ex id =>
        obtain ⟨s2, hk, hx⟩ := hx
        exact ⟨_, a₁, w₁, ⟨.ex id, rfl, s2, hx, hk _ _ _ _ _ hR'⟩, .pass (x := .inLoop c) rfl (fun _ _ => .inl (by simp [AX.exit])) harr⟩
      | ret =>
        obtain ⟨s2, hk, hx⟩ := hx
        exact ⟨_, a₁, w₁, ⟨.ret, rfl, s2, hx, hk _ _ _ _ _ hR'⟩, .pass (x := .inLoop c) rfl (fun _ _ => .inl (by simp [AX.exit])) harr⟩
    intro b k cs
    obtain ⟨e, a', w', hq, harr⟩ := key a w hR b k cs
    exact ⟨e, a', w', hq, .of_steps (.one step_loop) harr⟩
  | exit id => exact fun Q s a w _ hR h => wp_exit ⟨.ex id, rfl, s, h, hR⟩
  | ret => exact fun Q s a w _ hR h => wp_ret ⟨.ret, rfl, s, h, hR⟩
  | rangeFunc => exact fun Q s a w _ hR h => h.elim
  | scope => exact fun Q s a w _ hR h => h.elim
  | label => exact fun Q s a w _ hR h => h.elim
  | goto => exact fun Q s a w _ hR h => h.elim
  | refuse => exact fun Q s a w _ hR h => h.elim
end
end Go.Proofs.Shadow

