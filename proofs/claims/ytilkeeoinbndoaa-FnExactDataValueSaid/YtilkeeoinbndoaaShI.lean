/- Contracts out of walks; what is handed back; slices under construction. -/
import Derived.Test.YtilkeeoinbndoaaShH
set_option linter.unusedVariables false
set_option linter.unusedSimpArgs false
namespace Go.Proofs.Shadow
open Go Go.RowKit
def ares1 (P : Program) (s : AS) : ResultVar → Option AV
  | .tmp t => some (s.T t)
  | .cell p ty => aload s.σ (tk P ty) (s.T p)
def aresL (P : Program) (s : AS) : List ResultVar → Option (List AV)
  | [] => some []
  | r :: rs => (ares1 P s r).bind fun v => (aresL P s rs).map (v :: ·)
def packed : List AV → AV
  | [v] => v
  | vs => .tup vs
def aRet (P : Program) (rs : List ResultVar) (Q : AV → Sto → Prop) (s : AS) : Prop := ∃ vs, aresL P s rs = some vs ∧ ∃ r' σ', Wk s.σ (packed vs) σ' r' ∧ Q r' σ'
/-- How a body may end. -/
def aEnd (P : Program) (rs : List ResultVar) (Q : AV → Sto → Prop) : AX → AS → Prop
  | .ex _, _ => False
  | _, s => aRet P rs Q s
def T0 (args : List AV) : Nat → AV := fun i => args.getD i skipped
def resF (tmps : Array Value) : ResultVar → Sem Value
  | .tmp t => pure (tmps.getD t undef)
  | .cell p t => do loadVar t (← asAddr (tmps.getD p undef))
section
variable {P : Program} {n : Nat} {σ0 : Sto} {w0 : World}
theorem res_ok {s : AS} {a : Act} {w : World} (hR : Rel P n σ0 w0 s a w) : ∀ (rs : List ResultVar) (vs : List AV), aresL P s rs = some vs →
    ∃ cvs : List Value, (rs.mapM (resF a.tmps)).run P w = .ok cvs w ∧ cvs.length = vs.length ∧ ∀ i v, vs[i]? = some v → Rv s.σ w v (cvs.getD i undef)
  | [], vs, h => by simp only [aresL, Option.some.injEq] at h; subst h; exact ⟨[], by simp, rfl, by simp⟩
  | r :: rs, vs, h => by
    simp only [aresL] at h
    cases hv : ares1 P s r with
    | none => simp [hv] at h
    | some v =>
      simp only [hv, Option.bind_some] at h
      obtain ⟨vs', hvs', rfl⟩ := Option.map_eq_some_iff.1 h
      obtain ⟨cvs, h1, h2, h3⟩ := res_ok hR rs vs' hvs'
      have one : ∃ cv, (resF a.tmps r).run P w = .ok cv w ∧ Rv s.σ w v cv := by
        cases r with
        | tmp t =>
          simp only [ares1, Option.some.injEq] at hv
          subst hv
          exact ⟨_, rfl, hR.tmps.2.2 t⟩
        | cell p ty =>
          simp only [ares1] at hv
          have hp := hR.tmps.2.2 p
          obtain ⟨cv, hrun, hrv⟩ := load_ok hR.sim hp hv
          refine ⟨cv, ?_, hrv⟩
          unfold aload at hv
          cases hk : tk P ty with
          | none => simp [hk] at hv
          | some k =>
            simp only [hk] at hv
            cases hm : mem s.σ (s.T p) with
            | none => simp [hm] at hv
            | some cs =>
              obtain ⟨b, o, hcp, _⟩ := mem_ok hR.sim hp hm
              rw [hcp] at hrun
              show (do loadVar ty (← asAddr (a.tmps.getD p undef)) : Sem Value).run P w = .ok cv w
              rw [hcp]
              simpa [Instr.loadAt, Instr.sureAddr, asAddr] using hrun
      obtain ⟨cv, g1, g2⟩ := one
      refine ⟨cv :: cvs, ?_, by simp [h2], fun i v' hi => ?_⟩
      · rw [List.mapM_cons, Sem.run_bind, g1, Result.andThen_ok, Sem.run_bind, h1]
        rfl
      · cases i with
        | zero => simp at hi; subst hi; exact g2
        | succ i => simp at hi; simpa using h3 i v' hi
theorem results_ok {fn : Func} {s : AS} {a : Act} {w : World} (hR : Rel P n σ0 w0 s a w) {vs : List AV} (h : aresL P s fn.results.toList = some vs) :
    ∃ cv, (results fn a.tmps).run P w = .ok cv w ∧ Rv s.σ w (packed vs) cv := by
  obtain ⟨cvs, h1, h2, h3⟩ := res_ok hR fn.results.toList vs h
  have hrun : (results fn a.tmps).run P w = .ok (if hh : cvs.toArray.size = 1 then cvs.toArray[0] else .tuple cvs.toArray) w := by
    have he : results fn a.tmps = (do let vs ← fn.results.mapM (resF a.tmps); pure (if h : vs.size = 1 then vs[0] else .tuple vs)) := rfl
    rw [he]
    have : fn.results = fn.results.toList.toArray := by simp
    rw [this, List.mapM_toArray]
    simp only [Sem.run_bind, Sem.run_map, Sem.run_pure]
    rw [h1]
    rfl
  refine ⟨_, hrun, ?_⟩
  cases vs with
  | nil =>
    have : cvs = [] := by cases cvs with | nil => rfl | cons _ _ => simp at h2
    subst this
    exact .tup rfl (by simp)
  | cons v vs =>
    cases vs with
    | nil =>
      cases cvs with
      | nil => simp at h2
      | cons c cvs =>
        cases cvs with
        | cons _ _ => simp at h2
        | nil => exact h3 0 v rfl
    | cons v2 vs =>
      have hne : ¬ cvs.toArray.size = 1 := by simp [h2]
      rw [dif_neg hne]
      refine .tup (by simp [h2]) (fun i c hic => ?_)
      have := h3 i c hic
      simpa using this
theorem ctr_of {f : FuncId} {fn : Func} {c : Code} {args : List AV} {σ : Sto} {Q : AV → Sto → Prop} (hm : P.follows .mixedOrders = true) (hf : P.funcs[f]? = some fn) (hb : fn.body = some c) (hname : (fn.name == "runtime.NumGoroutine") = false) {rs : List ResultVar} (hrs : fn.results.toList = rs)
    (hok : (codeOk P fn.ntmps c && decide (args.length ≤ fn.ntmps)) = true) (h : acode P c (aEnd P rs Q) ⟨T0 args, σ⟩) : Ctr P f args σ Q := by
  subst hrs
  rw [Bool.and_eq_true, decide_eq_true_iff] at hok
  refine ⟨⟨fn, hf, by rw [hb]; rfl, hname⟩, fun w cargs hs htb hl hr => ?_⟩
  refine calls_of_wp hf hb ?_
  have hR : Rel P fn.ntmps σ w ⟨T0 args, σ⟩ { tmps := cargs.toArray ++ Array.replicate (fn.ntmps - cargs.toArray.size) undef, defers := [] } w := by
    refine ⟨hs, ⟨by simp; omega, rfl, fun i => ?_⟩, Step.refl _ _, htb⟩
    simp only [T0]
    by_cases hi : i < args.length
    · have ha := List.getElem?_eq_getElem hi
      have := hr i _ ha
      have e1 : args.getD i skipped = args[i] := by simp [hi]
      have e2 : (cargs.toArray ++ Array.replicate (fn.ntmps - cargs.toArray.size) undef).getD i undef = cargs.getD i undef := by
        have : i < cargs.length := by omega
        rw [Array.getD_eq_getD_getElem?, Array.getElem?_append_left (by simpa using this)]
        simp
      rw [e1, e2]
      exact this
    · have e1 : args.getD i skipped = skipped := by simp [Nat.le_of_not_lt hi]
      have e2 : (cargs.toArray ++ Array.replicate (fn.ntmps - cargs.toArray.size) undef).getD i undef = undef := by
        rw [Array.getD_eq_getD_getElem?, Array.getElem?_append_right (by simp; omega), Array.getElem?_replicate]
        split <;> rfl
      rw [e1, e2]
      exact undef_rv
  refine wp_mono (acode_ok hm c _ _ _ w hok.1 hR h) ?_
  rintro e a' w' ⟨x, rfl, s', hs', hR'⟩
  have fin : aRet P fn.results.toList Q s' → a'.defers = [] ∧ ∃ v, (results fn a'.tmps).run P w' = .ok v w' ∧ ∃ v' r σ', Ending.returned v = .returned v' ∧ Step σ w σ' w' ∧ Sim σ' w' ∧ Rv σ' w' r v' ∧ Q r σ' := by
    rintro ⟨vs, hvs, r', σ', hwk, hQ⟩
    obtain ⟨cv, hrun, hrv⟩ := results_ok hR' hvs
    obtain ⟨g1, g2, g3⟩ := hwk w' cv hR'.sim hrv
    exact ⟨hR'.tmps.2.1, cv, hrun, cv, r', σ', rfl, hR'.step.trans (Step.drop g3), g1, g2, hQ⟩
  cases x with
  | nrm => exact fin hs'
  | ret => exact fin hs'
  | ex id => exact hs'.elim
theorem Ctr.mono {f : FuncId} {args : List AV} {σ : Sto} {Q Q' : AV → Sto → Prop} (h : Ctr P f args σ Q) (hq : ∀ r σ', Q r σ' → Q' r σ') : Ctr P f args σ Q' :=
  ⟨h.1, fun w cargs hs htb hl hr => Calls.mono (h.2 w cargs hs htb hl hr) (fun e w' he => by
    obtain ⟨v, r, σ', h1, h2, h3, h4, h5⟩ := he
    exact ⟨v, r, σ', h1, h2, h3, h4, hq r σ' h5⟩)⟩
end
/-! ### Values told anew -/
/-- Values alone. -/
def WkV (r r' : AV) : Prop := ∀ σ w v, Rv σ w r v → Rv σ w r' v
theorem WkV.refl (r : AV) : WkV r r := fun _ _ _ h => h
theorem WkV.nilsl : WkV .nilsl (.sl false []) := fun _ _ _ h => by cases h; exact .slE (fun h => by cases h)
theorem WkV.slT (xs : List (List AV)) : WkV (.sl true xs) (.sl false xs) := fun _ _ _ h => by
  cases h with
  | slE hc => exact .slE (fun h => by cases h)
  | slC hx hn hle hcp hsz hc hd hb hi hf hr => exact .slC hx hn hle hcp hsz (fun h => by cases h) hd hb hi hf hr
inductive WkVL : List AV → List AV → Prop
  | nil : WkVL [] []
  | cons {a b : AV} {as bs : List AV} (h : WkV a b) (hc : a.isCell = true → b.isCell = true) (t : WkVL as bs) : WkVL (a :: as) (b :: bs)
theorem WkVL.refl : ∀ as, WkVL as as
  | [] => .nil
  | a :: as => .cons (.refl a) id (WkVL.refl as)
theorem WkVL.length {as bs : List AV} (h : WkVL as bs) : as.length = bs.length := by induction h with | nil => rfl | cons _ _ _ ih => simp [ih]
theorem WkVL.get {as bs : List AV} (h : WkVL as bs) : ∀ (i : Nat) (b : AV), bs[i]? = some b → ∃ a, as[i]? = some a ∧ WkV a b ∧ (a.isCell = true → b.isCell = true) := by
  induction h with
  | nil => intro i b hb; simp at hb
  | cons h hc _ ih =>
    intro i b hb
    cases i with
    | zero => simp at hb; subst hb; exact ⟨_, rfl, h, hc⟩
    | succ i => simp at hb; simpa using ih i b hb
/-- Arguments may be told anew. -/
theorem Ctr.args {P : Program} {f : FuncId} {as bs : List AV} {σ : Sto} {Q : AV → Sto → Prop} (h : WkVL as bs) (hc : Ctr P f bs σ Q) : Ctr P f as σ Q :=
  ⟨hc.1, fun w cargs hs htb hl hr => hc.2 w cargs hs htb (hl.trans h.length) (fun i b hb => by
    obtain ⟨a, ha, hw, _⟩ := h.get i b hb
    exact hw σ w _ (hr i a ha))⟩
/-! ### What is live before is live behind -/
structure Sub (σ σ' : Sto) : Prop where
  var : ∀ b e, σ.var b = some e → σ'.var b = some e
  own : ∀ b e, σ.own b = some e → σ'.own b = some e
theorem Sub.refl (σ : Sto) : Sub σ σ := ⟨fun _ _ h => h, fun _ _ h => h⟩
theorem Sub.trans {a b c : Sto} (h : Sub a b) (k : Sub b c) : Sub a c := ⟨fun x e hx => k.var x e (h.var x e hx), fun x e hx => k.own x e (h.own x e hx)⟩
theorem Sub.dead {σ σ' : Sto} (h : Sub σ σ') {b : Nat} (hd : σ'.dead b) : σ.dead b := ⟨none_of h.var hd.1, none_of h.own hd.2⟩
theorem Sub.setVar {σ σ' : Sto} (h : Sub σ σ') {b : Nat} (hb : σ.var b = none) (e : Ent) : Sub σ (σ'.setVar b e) :=
  ⟨fun x e' hx => by
    simp only [Sto.setVar]
    rw [if_neg (fun he => by subst he; rw [hb] at hx; cases hx)]
    exact h.var x e' hx, h.own⟩
theorem Sub.setOwn {σ σ' : Sto} (h : Sub σ σ') {b : Nat} (hb : σ.own b = none) (e : Ent) : Sub σ (σ'.setOwn b e) :=
  ⟨h.var, fun x e' hx => by
    simp only [Sto.setOwn]
    rw [if_neg (fun he => by subst he; rw [hb] at hx; cases hx)]
    exact h.own x e' hx⟩
theorem Wk.refl (σ : Sto) (r : AV) : Wk σ r σ r := fun _ _ hs hr => ⟨hs, hr, fun _ h => h⟩
theorem Wk.trans {σ1 σ2 σ3 : Sto} {a b c : AV} (h : Wk σ1 a σ2 b) (k : Wk σ2 b σ3 c) : Wk σ1 a σ3 c := fun w v hs hr => by
  obtain ⟨h1, h2, h3⟩ := h w v hs hr
  obtain ⟨k1, k2, k3⟩ := k w v h1 h2
  exact ⟨k1, k2, fun b hb => k3 b (h3 b hb)⟩
theorem Wk.sub {σ σ' : Sto} (h : Sub σ' σ) (r : AV) : Wk σ r σ' r := fun w v hs hr =>
  ⟨hs.drop h.var h.own, hr.step (Step.drop (fun b hb => h.dead hb)), fun b hb => h.dead hb⟩
theorem Wk.val {σ : Sto} {r r' : AV} (h : WkV r r') : Wk σ r σ r' := fun w v hs hr => ⟨hs, h σ w v hr, fun _ h => h⟩
/-- Each part told anew. -/
inductive WkL (σ σ' : Sto) : List AV → List AV → Prop
  | nil : WkL σ σ' [] []
  | cons {a b : AV} {as bs : List AV} (h : Wk σ a σ' b) (hc : a.isCell = true → b.isCell = true) (t : WkL σ σ' as bs) : WkL σ σ' (a :: as) (b :: bs)
theorem WkL.length {σ σ' : Sto} {as bs : List AV} (h : WkL σ σ' as bs) : as.length = bs.length := by induction h with | nil => rfl | cons _ _ _ ih => simp [ih]
theorem WkL.get {σ σ' : Sto} {as bs : List AV} (h : WkL σ σ' as bs) : ∀ (i : Nat) (b : AV), bs[i]? = some b → ∃ a, as[i]? = some a ∧ Wk σ a σ' b ∧ (a.isCell = true → b.isCell = true) := by
  induction h with
  | nil => intro i b hb; simp at hb
  | cons h hc _ ih =>
    intro i b hb
    cases i with
    | zero => simp at hb; subst hb; exact ⟨_, rfl, h, hc⟩
    | succ i => simp at hb; simpa using ih i b hb
theorem Wk.agg {σ σ' : Sto} {as bs : List AV} (hs : Sub σ' σ) (h : WkL σ σ' as bs) : Wk σ (.agg as) σ' (.agg bs) := fun w v hsim hv => by
  refine ⟨hsim.drop hs.var hs.own, ?_, fun b hb => hs.dead hb⟩
  cases hv with
  | agg hl hi hr =>
    refine .agg (by rw [← h.length]; exact hl) (fun c hc => ?_) (fun i b hb => ?_)
    · obtain ⟨i, hib⟩ := List.mem_iff_getElem?.1 hc
      obtain ⟨a, ha, _, hcc⟩ := h.get i c hib
      exact hcc (hi a (List.mem_of_getElem? ha))
    · obtain ⟨a, ha, hw, _⟩ := h.get i b hb
      exact (hw w _ hsim (hr i a ha)).2.1
theorem Wk.tup {σ σ' : Sto} {as bs : List AV} (hs : Sub σ' σ) (h : WkL σ σ' as bs) : Wk σ (.tup as) σ' (.tup bs) := fun w v hsim hv => by
  refine ⟨hsim.drop hs.var hs.own, ?_, fun b hb => hs.dead hb⟩
  cases hv with
  | tup hl hr =>
    refine .tup (by rw [← h.length]; exact hl) (fun i b hb => ?_)
    obtain ⟨a, ha, hw, _⟩ := h.get i b hb
    exact (hw w _ hsim (hr i a ha)).2.1
theorem Sub.delOwn (σ : Sto) (b : Nat) : Sub (σ.delOwn b) σ := ⟨fun _ _ h => h, fun x e h => by simp only [Sto.delOwn] at h; split at h; cases h; exact h⟩
/-- A slice of ours becomes plain data. -/
theorem OwnL.freeze {σ : Sto} {e : TypeId} {sz : Nat} {v : AV} {xs : List (List AV)} (h : OwnL σ e sz v xs) : ∃ σ', Sub σ' σ ∧ σ'.var = σ.var ∧ (∀ b, some b ≠ v.blk → σ'.own b = σ.own b) ∧ Wk σ v σ' (.sl false xs) := by
  rcases h.2 with ⟨rfl, rfl⟩ | rfl | ⟨b, cap, rfl, he⟩
  · exact ⟨σ, Sub.refl _, rfl, fun _ _ => rfl, Wk.val .nilsl⟩
  · exact ⟨σ, Sub.refl _, rfl, fun _ _ => rfl, Wk.val (.slT xs)⟩
  · refine ⟨σ.delOwn b, Sub.delOwn σ b, rfl, fun b' hb' => ?_, fun w v hs hv => ⟨hs.delOwn b, Rv.freeze hs he rfl rfl h.1 hv, fun b hb => (Sub.delOwn σ _).dead hb⟩⟩
    simp only [AV.blk, ne_eq, Option.some.injEq] at hb'
    simp [Sto.delOwn, hb']
/-! ### Slices under construction, made since σ0 -/
def Mine (σ0 σ : Sto) (e : TypeId) (sz : Nat) (v : AV) (xs : List (List AV)) : Prop := OwnL σ e sz v xs ∧ ∀ b, v.blk = some b → σ0.own b = none
theorem Mine.nil (σ0 σ : Sto) (e : TypeId) (sz : Nat) : Mine σ0 σ e sz .nilsl [] := ⟨⟨by simp, .inl ⟨rfl, rfl⟩⟩, fun b h => by cases h⟩
theorem Mine.cell {σ0 σ : Sto} {e : TypeId} {sz : Nat} {v : AV} {xs : List (List AV)} (h : Mine σ0 σ e sz v xs) : v.isCell = true := by
  rcases h.1.2 with ⟨rfl, _⟩ | rfl | ⟨b, cap, rfl, _⟩ <;> rfl
theorem Mine.len {σ0 σ : Sto} {e : TypeId} {sz : Nat} {v : AV} {xs : List (List AV)} (h : Mine σ0 σ e sz v xs) : alen v = some (xs.length : Int) := by
  rcases h.1.2 with ⟨rfl, rfl⟩ | rfl | ⟨b, cap, rfl, _⟩ <;> rfl
/-- The variables turn, new ones come: a slice of ours stays. -/
theorem Mine.same {σ0 σ σ' : Sto} {e : TypeId} {sz : Nat} {v : AV} {xs : List (List AV)} (h : Mine σ0 σ e sz v xs) (ho : σ'.own = σ.own) : Mine σ0 σ' e sz v xs :=
  ⟨⟨h.1.1, h.1.2.imp id (Or.imp id (fun ⟨b, cap, h1, h2⟩ => ⟨b, cap, h1, by rw [ho]; exact h2⟩))⟩, h.2⟩
theorem Mine.sub {σ0 σ σ' : Sto} {e : TypeId} {sz : Nat} {v : AV} {xs : List (List AV)} (h : Mine σ0 σ e sz v xs) (hs : Sub σ σ') : Mine σ0 σ' e sz v xs :=
  ⟨⟨h.1.1, h.1.2.imp id (Or.imp id (fun ⟨b, cap, h1, h2⟩ => ⟨b, cap, h1, hs.own _ _ h2⟩))⟩, h.2⟩
/-- It is handed on as plain data; what was live at σ0 stays live. -/
theorem Mine.freeze {σ0 σ : Sto} {e : TypeId} {sz : Nat} {v : AV} {xs : List (List AV)} (h : Mine σ0 σ e sz v xs) (hs : Sub σ0 σ) : ∃ σ', Sub σ0 σ' ∧ Sub σ' σ ∧ σ'.var = σ.var ∧ (∀ b, some b ≠ v.blk → σ'.own b = σ.own b) ∧ Wk σ v σ' (.sl false xs) := by
  obtain ⟨σ', h1, h2, h3, h4⟩ := h.1.freeze
  refine ⟨σ', ⟨fun b e hb => by rw [h2]; exact hs.var b e hb, fun b e hb => ?_⟩, h1, h2, h3, h4⟩
  rw [h3 b (fun he => by rw [h.2 b he.symm] at hb; cases hb)]
  exact hs.own b e hb
theorem Mine.app {σ0 σ σ' : Sto} {e : TypeId} {sz : Nat} {v v' : AV} {xs zs : List (List AV)} (h : Mine σ0 σ e sz v xs) (hs : Sub σ0 σ) (ha : AppPost σ e sz v σ' v' zs) : Mine σ0 σ' e sz v' zs ∧ Sub σ0 σ' := by
  refine ⟨⟨ha.own, fun b hb => ?_⟩, ⟨fun b e hb => by rw [ha.var]; exact hs.var b e hb, fun b e hb => ?_⟩⟩
  · rcases ha.blk with h1 | h1
    · exact h.2 b (h1 ▸ hb)
    · exact (hs.dead (h1 b hb)).2
  · rw [ha.same b (fun he => by rw [h.2 b he.symm] at hb; cases hb) (by rw [hs.own b e hb]; simp)]
    exact hs.own b e hb
/-- Another slice of ours, when one has been appended to. -/
theorem Mine.other {σ0 σ σ' : Sto} {e e2 : TypeId} {sz sz2 : Nat} {v v' v2 : AV} {zs xs2 : List (List AV)} (h : Mine σ0 σ e2 sz2 v2 xs2) (ha : AppPost σ e sz v σ' v' zs) (hne : v2.blk = none ∨ v2.blk ≠ v.blk) : Mine σ0 σ' e2 sz2 v2 xs2 ∧ (v2.blk = none ∨ v2.blk ≠ v'.blk) := by
  have hal : ∀ b, v2.blk = some b → σ.own b ≠ none := by
    intro b hb
    rcases h.1.2 with ⟨rfl, _⟩ | rfl | ⟨b', cap, rfl, he⟩
    · cases hb
    · cases hb
    · simp only [AV.blk, Option.some.injEq] at hb; subst hb; rw [he]; simp
  refine ⟨⟨⟨h.1.1, ?_⟩, h.2⟩, ?_⟩
  · rcases h.1.2 with h1 | h1 | ⟨b, cap, h1, h2⟩
    · exact .inl h1
    · exact .inr (.inl h1)
    · refine .inr (.inr ⟨b, cap, h1, ?_⟩)
      subst h1
      rw [ha.same b (fun he => by
        rcases hne with hn | hn
        · cases hn
        · exact hn he) (by rw [h2]; simp)]
      exact h2
  · cases hb : v2.blk with
    | none => exact .inl rfl
    | some b =>
      right
      intro he
      rcases ha.blk with h1 | h1
      · rcases hne with hn | hn
        · rw [hb] at hn; cases hn
        · exact hn (by rw [hb, he, h1])
      · exact hal b hb (h1 b he.symm).2
end Go.Proofs.Shadow

