/- Regions whose order is open: one walk in an order of ours serves every order. -/
import Derived.Test.YtilkeeoinbndoaaShJ
set_option linter.unusedVariables false
set_option linter.unusedSimpArgs false
namespace Go.Proofs.Shadow
open Go Go.RowKit
/-- What a read may look at while others run: the variables but those of E. -/
noncomputable def hide (E : Nat → Prop) (σ : Sto) : Sto := ⟨fun b => @ite _ (E b) (Classical.propDecidable _) none (σ.var b), fun _ => none⟩
def Keep (E : Nat → Prop) (σ σ' : Sto) : Prop := ∀ b e, ¬ E b → σ.var b = some e → σ'.var b = some e
def kp (E : Nat → Prop) (σ : Sto) (K : AS → Prop) (s : AS) : Prop := Keep E σ s.σ ∧ K s
def vCall (P : Program) (fv : AV) (args : List AV) (s : AS) (dst : Option Tmp) (K : AS → Prop) : Prop := ∃ f bs v, fv = .fn f [] ∧ WkVL args bs ∧ PCtr P f bs v ∧ K (s.put dst v)
/-- append to a literal or nil: what comes is plain data. -/
def AppV (k : Option (TypeId × Nat × Nat)) (x y v : AV) : Prop :=
  ∃ e sz by_ xs ys, k = some (e, sz, by_) ∧ 0 < sz ∧ 0 < by_ ∧ ((x = .nilsl ∧ xs = []) ∨ x = .sl true xs) ∧ (∀ r ∈ xs, r.length = sz) ∧ ((y = .nilsl ∧ ys = []) ∨ ∃ c, y = .sl c ys) ∧ (∀ r ∈ ys, r.length = sz) ∧ (xs.length + ys.length) * by_ ≤ 140737488355328 ∧ v = .sl false (xs ++ ys)
def vApp (k : Option (TypeId × Nat × Nat)) (x y : AV) (s : AS) (dst : Option Tmp) (K : AS → Prop) : Prop := ∃ v, AppV k x y v ∧ K (s.put dst v)
def vrun (P : Program) (E : Nat → Prop) (o : Oper) (s : AS) (K : AS → Prop) : Prop :=
  match o.op with
  | .call { callee := .value f, args, .. } => vCall P (aev s.T f) (args.toList.map (aev s.T)) s o.dst K
  | .call { callee := .builtin .append, args, argTypes } =>
    (match args.toList, argTypes.toList with
     | [x, y], [t, t2] => t = t2 ∧ vApp (se P t) (aev s.T x) (aev s.T y) s o.dst K
     | _, _ => False)
  | op => aVal (vop P (hide E s.σ) (aev s.T) op) s o.dst K
/-- v: it reads alone; x: it turns what others don't look at; z: it stands alone. -/
inductive Cl where
  | v | x | z
  deriving DecidableEq
def tstep (P : Program) (E : Nat → Prop) (D : List (Option Tmp)) (c : Cl) (o : Oper) (s : AS) (K : AS → Prop) : Prop :=
  aGuard (gw D s.T o.guard) (match c with | .v => vrun P E o s K | .x => aop P o s (kp E s.σ K) | .z => aop P o s K) (K (s.put o.dst skipped))
def trun (P : Program) (E : Nat → Prop) (D : List (Option Tmp)) : List (Cl × Oper) → (AS → Prop) → AS → Prop
  | [], K, s => K s
  | (c, o) :: os, K, s => tstep P E D c o s (trun P E D os K)
section
variable {P : Program} {E : Nat → Prop} {D : List (Option Tmp)}
/-- What a reading operation yields. -/
def vstep (P : Program) (E : Nat → Prop) (s : AS) (o : Oper) (v : AV) : Prop :=
  match o.op with
  | .call { callee := .value f, args, .. } => ∃ g bs, aev s.T f = .fn g [] ∧ WkVL (args.toList.map (aev s.T)) bs ∧ PCtr P g bs v
  | .call { callee := .builtin .append, args, argTypes } =>
    (match args.toList, argTypes.toList with
     | [x, y], [t, t2] => t = t2 ∧ AppV (se P t) (aev s.T x) (aev s.T y) v
     | _, _ => False)
  | op => vop P (hide E s.σ) (aev s.T) op = some v
theorem vrun_iff (o : Oper) (s : AS) (K : AS → Prop) : vrun P E o s K ↔ ∃ v, vstep P E s o v ∧ K (s.put o.dst v) := by
  unfold vrun vstep
  split
  · constructor
    · rintro ⟨f, bs, v, h1, h2, h3, h4⟩; exact ⟨v, ⟨f, bs, h1, h2, h3⟩, h4⟩
    · rintro ⟨v, ⟨f, bs, h1, h2, h3⟩, h4⟩; exact ⟨f, bs, v, h1, h2, h3, h4⟩
  · split
    · constructor
      · rintro ⟨h1, v, h2, h3⟩; exact ⟨v, ⟨h1, h2⟩, h3⟩
      · rintro ⟨v, ⟨h1, h2⟩, h3⟩; exact ⟨h1, v, h2, h3⟩
    · constructor
      · exact fun h => h.elim
      · rintro ⟨_, h, _⟩; exact h
  · unfold aVal
    constructor
    · intro h
      split at h
      · rename_i v hv; exact ⟨v, hv, h⟩
      · exact h.elim
    · rintro ⟨v, hv, h⟩
      rw [hv]
      exact h
/-! ### what an operation looks at -/
theorem aev_upd {T : Nat → AV} {d : Nat} {v : AV} {x : Operand} (h : x ≠ .tmp d) : aev (upd T d v) x = aev T x := by
  cases x with
  | tmp t => simp only [aev, upd]; rw [if_neg (fun e => h (by rw [e]))]
  | _ => rfl
theorem aev_put {s : AS} {dst : Option Tmp} {v : AV} {x : Operand} (h : ∀ d, dst = some d → x ≠ .tmp d) : aev (s.put dst v).T x = aev s.T x := by
  cases dst with
  | none => rfl
  | some d => exact aev_upd (h d rfl)
theorem put_comm {s : AS} {x y : Option Tmp} {v u : AV} (h : ∀ d, x = some d → y ≠ some d) : (s.put x v).put y u = (s.put y u).put x v := by
  cases x with
  | none => rfl
  | some d =>
    cases y with
    | none => rfl
    | some d' =>
      have hne : d ≠ d' := fun e => h d rfl (by rw [e])
      simp only [AS.put]
      congr 1
      funext i
      simp only [upd]
      by_cases h1 : i = d <;> by_cases h2 : i = d' <;> simp_all
theorem mem_hide {σ σ' : Sto} (h : Keep E σ σ') {p : AV} {cs : List AV} (hm : mem (hide E σ) p = some cs) : mem (hide E σ') p = some cs := by
  unfold mem hide at *
  cases p <;> simp only at hm ⊢ <;> try exact hm
  rename_i b o
  by_cases hb : E b
  · simp [hb] at hm
  · simp only [hb, if_false] at hm ⊢
    cases he : σ.var b with
    | none => simp [he] at hm
    | some e => rw [h b e hb he]; rw [he] at hm; exact hm
theorem vop_congr {σ : Sto} {ρ ρ' : Operand → AV} {op : Op} (hρ : ∀ x ∈ op.operands.toList, ρ' x = ρ x) : vop P σ ρ' op = vop P σ ρ op := by
  cases op <;> simp only [vop] <;> simp only [Op.operands] at hρ
  case move x => rw [hρ x (by simp)]
  case assign x => rw [hρ x (by simp)]
  case pick c a b => rw [hρ c (by simp), hρ a (by simp), hρ b (by simp)]
  case load t p => rw [hρ p (by simp)]
  case nilCheck x => rw [hρ x (by simp)]
  case fieldAddr t x f => rw [hρ x (by simp)]
  case indexAddr t x i => rw [hρ x (by simp), hρ i (by simp)]
  case index t x i => rw [hρ x (by simp), hρ i (by simp)]
  case binOp op t x y t2 => rw [hρ x (by simp), hρ y (by simp)]
  case unOp op t x => rw [hρ x (by simp)]
  case extract x i => rw [hρ x (by simp)]
  case build t parts =>
    have : (parts.toList.map fun p => (p.1, ρ' p.2)) = parts.toList.map fun p => (p.1, ρ p.2) := List.map_congr_left (fun p hp => by rw [hρ p.2 (by simp; exact ⟨p.1, by simpa using hp⟩)])
    rw [this]
  case buildSlice t len parts =>
    have : (parts.toList.map fun p => (p.1, ρ' p.2)) = parts.toList.map fun p => (p.1, ρ p.2) := List.map_congr_left (fun p hp => by rw [hρ p.2 (by simp; exact ⟨p.1, by simpa using hp⟩)])
    rw [this]
  case slice t x lo hi mx =>
    have hl : lo.map ρ' = lo.map ρ := by cases lo with | none => rfl | some y => simp only [Option.map_some]; rw [hρ y (by simp)]
    have hh : hi.map ρ' = hi.map ρ := by cases hi with | none => rfl | some y => simp only [Option.map_some]; rw [hρ y (by simp)]
    have hm : mx.map ρ' = mx.map ρ := by cases mx with | none => rfl | some y => simp only [Option.map_some]; rw [hρ y (by simp)]
    rw [hρ x (by simp), hl, hh, hm]
  case convert s d x => rw [hρ x (by simp)]
  case makeFunc fn first caps =>
    have : caps.toList.map ρ' = caps.toList.map ρ := List.map_congr_left (fun x hx => hρ x (by simp; exact .inr (by simpa using hx)))
    cases fn <;> try rfl
    simp only [this]
  case call c =>
    obtain ⟨callee, args, argTypes⟩ := c
    cases callee <;> try rfl
    rename_i b
    have ha : ∀ x ∈ args.toList, ρ' x = ρ x := fun x hx => hρ x (by simp [Call.operands]; simpa using hx)
    cases b <;> try rfl
    case len =>
      obtain ⟨args⟩ := args
      obtain ⟨argTypes⟩ := argTypes
      match args, argTypes with
      | [x], [t] => show (if isS P t || (se P t).isSome then alenT (isS P t) (ρ' x) else none) = _; rw [ha x (by simp)]
      | [], _ => rfl
      | _ :: _ :: _, _ => rfl
      | [_], [] => rfl
      | [_], _ :: _ :: _ => rfl
    case max =>
      obtain ⟨args⟩ := args
      match args with
      | [x, y] => show amax (ρ' x) (ρ' y) = _; rw [ha x (by simp), ha y (by simp)]
      | [] => rfl
      | [_] => rfl
      | _ :: _ :: _ :: _ => rfl
theorem vop_keep {σ σ' : Sto} (h : Keep E σ σ') {ρ ρ' : Operand → AV} {op : Op} {v : AV} (hρ : ∀ x ∈ op.operands.toList, ρ' x = ρ x) (hv : vop P (hide E σ) ρ op = some v) : vop P (hide E σ') ρ' op = some v := by
  rw [vop_congr hρ]
  cases op <;> simp only [vop] at hv ⊢ <;> try exact hv
  case makeFunc fn first caps => cases fn <;> exact hv
  case load t p =>
    unfold aload at hv ⊢
    split at hv
    · rename_i ag k hk
      cases hm : mem (hide E σ) (ρ p) with
      | none => simp [hm] at hv
      | some cs => rw [mem_hide h hm]; rw [hm] at hv; exact hv
    · cases hv
  case call c =>
    obtain ⟨callee, args, argTypes⟩ := c
    cases callee <;> try exact hv
    rename_i b
    cases b <;> exact hv
theorem vstep_keep {s s' : AS} (h : Keep E s.σ s'.σ) {o : Oper} {v : AV} (hρ : ∀ x ∈ o.op.operands.toList, aev s'.T x = aev s.T x) (hv : vstep P E s o v) : vstep P E s' o v := by
  unfold vstep at hv ⊢
  split at hv
  · rename_i f args tys heq
    rw [heq] at hρ
    simp only [Op.operands, Call.operands] at hρ
    have ha : args.toList.map (aev s'.T) = args.toList.map (aev s.T) := List.map_congr_left (fun x hx => hρ x (by simp; exact .inr (by simpa using hx)))
    rw [hρ f (by simp), ha]
    exact hv
  · rename_i args tys heq
    rw [heq] at hρ
    simp only [Op.operands, Call.operands] at hρ
    split at hv
    · rename_i x y t t2 hargs htys
      have hm : ∀ z ∈ args.toList, aev s'.T z = aev s.T z := fun z hz => hρ z (by simpa using hz)
      rw [hm x (by rw [hargs]; simp), hm y (by rw [hargs]; simp)]
      exact hv
    · exact hv.elim
  · exact vop_keep h hρ hv
theorem gw_put {s : AS} {dst : Option Tmp} {v : AV} {g : Option (Nat × Bool)} (h : ∀ d, dst = some d → ∀ j w, g = some (j, w) → gd D j ≠ some d) : gw D (s.put dst v).T g = gw D s.T g := by
  cases g with
  | none => rfl
  | some jw =>
    obtain ⟨j, w⟩ := jw
    simp only [gw]
    cases hg : gd D j with
    | none => rfl
    | some t =>
      cases dst with
      | none => rfl
      | some d =>
        have hne : t ≠ d := fun e => h d rfl j w rfl (by rw [hg, e])
        simp only [AS.put, upd, hne, if_false]
/-- x and y touch nothing of each other's temporaries. -/
def apt (D : List (Option Tmp)) (x y : Oper) : Bool :=
  (match x.dst with
   | some d => !(y.op.operands.toList.any fun z => match z with | .tmp t => t == d | _ => false) && (match y.guard with | some (j, _) => gd D j != some d | none => true) && y.dst != some d
   | none => true) &&
  (match y.dst with
   | some d => !(x.op.operands.toList.any fun z => match z with | .tmp t => t == d | _ => false) && (match x.guard with | some (j, _) => gd D j != some d | none => true)
   | none => true)
theorem apt_spec {x y : Oper} (h : apt D x y = true) :
    (∀ d, x.dst = some d → (∀ z ∈ y.op.operands.toList, z ≠ .tmp d) ∧ (∀ j w, y.guard = some (j, w) → gd D j ≠ some d) ∧ y.dst ≠ some d) ∧
    (∀ d, y.dst = some d → (∀ z ∈ x.op.operands.toList, z ≠ .tmp d) ∧ (∀ j w, x.guard = some (j, w) → gd D j ≠ some d)) := by
  unfold apt at h
  rw [Bool.and_eq_true] at h
  have ops : ∀ (l : List Operand) (d : Tmp), (!(l.any fun z => match z with | .tmp t => t == d | _ => false)) = true → ∀ z ∈ l, z ≠ .tmp d := by
    intro l d hl z hz he
    subst he
    rw [Bool.not_eq_true', List.any_eq_false] at hl
    exact hl _ hz (by simp)
  constructor
  · intro d hd
    have h1 := h.1
    rw [hd] at h1
    simp only [Bool.and_eq_true] at h1
    refine ⟨ops _ d h1.1.1, fun j w hg => ?_, by simpa using h1.2⟩
    have := h1.1.2
    rw [hg] at this
    simpa using this
  · intro d hd
    have h1 := h.2
    rw [hd] at h1
    simp only [Bool.and_eq_true] at h1
    refine ⟨ops _ d h1.1, fun j w hg => ?_⟩
    have := h1.2
    rw [hg] at this
    simpa using this
/-- An operation's outcome: its own temporary and memory alone. -/
theorem aop_out {o : Oper} {s : AS} {K : AS → Prop} (h : aop P o s K) : aop P o s (fun s' => (∃ σ' r, s' = AS.put ⟨s.T, σ'⟩ o.dst r) ∧ K s') := by
  have hval : ∀ (ov : Option AV), aVal ov s o.dst K → aVal ov s o.dst (fun s' => (∃ σ' r, s' = AS.put ⟨s.T, σ'⟩ o.dst r) ∧ K s') := by
    intro ov h
    unfold aVal at h ⊢
    split at h
    · rename_i v; exact ⟨⟨s.σ, v, rfl⟩, h⟩
    · exact h.elim
  have hall : ∀ (oc : Option (List AV)) (t : TypeId), aAlloc oc t s o.dst K → aAlloc oc t s o.dst (fun s' => (∃ σ' r, s' = AS.put ⟨s.T, σ'⟩ o.dst r) ∧ K s') := by
    intro oc t h
    unfold aAlloc at h ⊢
    split at h
    · exact fun b hb => ⟨⟨_, _, rfl⟩, h b hb⟩
    · exact h.elim
  unfold aop at h ⊢
  split at h
  · exact hall _ _ h
  · exact hall _ _ h
  · unfold aStore at h ⊢
    split at h
    · exact ⟨⟨_, _, rfl⟩, h⟩
    · exact h.elim
  · unfold aMake at h ⊢
    split at h
    · obtain ⟨h1, h2, h3, h4, h5, z', h7, h6⟩ := h
      exact ⟨h1, h2, h3, h4, h5, z', h7, fun b hb => ⟨⟨_, _, rfl⟩, h6 b hb⟩⟩
    · exact h.elim
  · unfold aCall at h ⊢
    split at h
    · exact h.mono (fun r σ' hk => ⟨⟨σ', r, rfl⟩, hk⟩)
    · exact h.elim
  · split at h
    · refine ⟨h.1, ?_⟩
      have h2 := h.2
      unfold aAppend at h2 ⊢
      split at h2
      · obtain ⟨xs, ys, a1, a2, a3, a4, a5, a6⟩ := h2
        exact ⟨xs, ys, a1, a2, a3, a4, a5, fun v' σ' hp => by obtain ⟨v2, σ2, hw, hk⟩ := a6 v' σ' hp; exact ⟨v2, σ2, hw, ⟨σ2, v2, rfl⟩, hk⟩⟩
      · exact h2.elim
    · exact h.elim
  · unfold aSl at h ⊢
    split at h
    · obtain ⟨m, e, he, hk⟩ := h
      exact ⟨m, e, he, ⟨_, _, rfl⟩, hk⟩
    · exact ⟨⟨s.σ, _, rfl⟩, h⟩
    · exact h.elim
  · exact hval _ h
  · exact hval _ h
theorem aop_mono {o : Oper} {s : AS} {K K' : AS → Prop} (h : aop P o s K) (hk : ∀ s', K s' → K' s') : aop P o s K' := by
  unfold aop at h ⊢
  split at h
  · unfold aAlloc at h ⊢
    split at h
    · exact fun b hb => hk _ (h b hb)
    · exact h.elim
  · unfold aAlloc at h ⊢
    split at h
    · exact fun b hb => hk _ (h b hb)
    · exact h.elim
  · unfold aStore at h ⊢
    split at h
    · exact hk _ h
    · exact h.elim
  · unfold aMake at h ⊢
    split at h
    · obtain ⟨h1, h2, h3, h4, h5, z', h7, h6⟩ := h
      exact ⟨h1, h2, h3, h4, h5, z', h7, fun b hb => hk _ (h6 b hb)⟩
    · exact h.elim
  · unfold aCall at h ⊢
    split at h
    · exact h.mono (fun r σ' hr => hk _ hr)
    · exact h.elim
  · split at h
    · refine ⟨h.1, ?_⟩
      have h2 := h.2
      unfold aAppend at h2 ⊢
      split at h2
      · obtain ⟨xs, ys, a1, a2, a3, a4, a5, a6⟩ := h2
        exact ⟨xs, ys, a1, a2, a3, a4, a5, fun v' σ' hp => by obtain ⟨v2, σ2, hw, h6⟩ := a6 v' σ' hp; exact ⟨v2, σ2, hw, hk _ h6⟩⟩
      · exact h2.elim
    · exact h.elim
  · unfold aSl at h ⊢
    split at h
    · obtain ⟨m, e, he, h⟩ := h
      exact ⟨m, e, he, hk _ h⟩
    · exact hk _ h
    · exact h.elim
  · unfold aVal at h ⊢
    split at h
    · exact hk _ h
    · exact h.elim
  · unfold aVal at h ⊢
    split at h
    · exact hk _ h
    · exact h.elim
/-- An operation does not see another's temporary. -/
theorem aop_put {o : Oper} {s : AS} {dst : Option Tmp} {v : AV} {K : AS → Prop} (h1 : ∀ d, dst = some d → ∀ z ∈ o.op.operands.toList, z ≠ .tmp d) (h2 : ∀ d, dst = some d → o.dst ≠ some d) (h : aop P o (s.put dst v) K) : aop P o s (fun s' => K (s'.put dst v)) := by
  have hev : ∀ z ∈ o.op.operands.toList, aev (s.put dst v).T z = aev s.T z := fun z hz => aev_put (fun d hd => h1 d hd z hz)
  have hput : ∀ (σ' : Sto) (r : AV), AS.put ⟨(s.put dst v).T, σ'⟩ o.dst r = (AS.put ⟨s.T, σ'⟩ o.dst r).put dst v := by
    intro σ' r
    have : (⟨(s.put dst v).T, σ'⟩ : AS) = AS.put ⟨s.T, σ'⟩ dst v := by cases dst <;> rfl
    rw [this]
    exact put_comm h2
  have hput' : ∀ r : AV, (s.put dst v).put o.dst r = (s.put o.dst r).put dst v := fun r => put_comm h2
  have hσ := put_σ s dst v
  unfold aop at h ⊢
  split at h
  · unfold aAlloc at h ⊢
    split at h
    · intro b hb; rw [hσ] at h; have := h b hb; rw [hput] at this; exact this
    · exact h.elim
  · rename_i t x heq
    rw [heq] at hev
    rw [hev x (by simp [Op.operands])] at h
    unfold aAlloc at h ⊢
    split at h
    · rename_i cs hcs; intro b hb; rw [hσ] at h; have := h b hb; rw [hput] at this; exact this
    · exact h.elim
  · rename_i t p x heq
    rw [heq] at hev
    rw [hev x (by simp [Op.operands]), hev p (by simp [Op.operands]), hσ] at h
    unfold aStore at h ⊢
    split at h
    · rename_i σ' hs; rw [hput] at h; exact h
    · exact h.elim
  · rename_i t l c heq
    rw [heq] at hev
    rw [hev l (by simp [Op.operands]), hev c (by simp [Op.operands])] at h
    unfold aMake at h ⊢
    split at h
    · rename_i e sz by_ z k1 n k2 m q1 q2 q3 q4
      obtain ⟨a1, a2, a3, a4, a5, z', a7, a6⟩ := h
      refine ⟨a1, a2, a3, a4, a5, z', a7, fun b hb => ?_⟩
      rw [hσ] at a6
      have := a6 b hb
      rw [hput] at this
      exact this
    · exact h.elim
  · rename_i f args tys heq
    rw [heq] at hev
    simp only [Op.operands, Call.operands] at hev
    have ha : args.toList.map (aev (s.put dst v).T) = args.toList.map (aev s.T) := List.map_congr_left (fun x hx => hev x (by simp; exact .inr (by simpa using hx)))
    rw [hev f (by simp), ha] at h
    unfold aCall at h ⊢
    split at h
    · rename_i g caps hf
      rw [hσ] at h
      exact h.mono (fun r σ' hk => by rw [hput] at hk; exact hk)
    · exact h.elim
  · rename_i args tys heq
    rw [heq] at hev
    simp only [Op.operands, Call.operands] at hev
    have hm : ∀ z ∈ args.toList, aev (s.put dst v).T z = aev s.T z := fun z hz => hev z (by simpa using hz)
    split at h
    · rename_i x y t t2 hargs htys
      rw [hm x (by rw [hargs]; simp), hm y (by rw [hargs]; simp)] at h
      refine ⟨h.1, ?_⟩
      have h2 := h.2
      unfold aAppend at h2 ⊢
      split at h2
      · obtain ⟨xs, ys, a1, a2, a3, a4, a5, a6⟩ := h2
        rw [hσ] at a3 a4 a6
        exact ⟨xs, ys, a1, a2, a3, a4, a5, fun v' σ' hp => by obtain ⟨v2, σ2, hw, this⟩ := a6 v' σ' hp; rw [hput] at this; exact ⟨v2, σ2, hw, this⟩⟩
      · exact h2.elim
    · exact h.elim
  · rename_i t x lo hi mx heq
    have he : vop P (s.put dst v).σ (aev (s.put dst v).T) o.op = vop P s.σ (aev s.T) o.op := by rw [hσ]; exact vop_congr hev
    rw [heq] at he
    rw [he] at h
    unfold aSl at h ⊢
    split at h
    · obtain ⟨m, e, he', h⟩ := h
      rw [hσ] at he' h
      rw [hput] at h
      exact ⟨m, e, he', h⟩
    · rw [hput'] at h; exact h
    · exact h.elim
  · rw [hσ] at h
    unfold aVal at h ⊢
    split at h
    · rename_i r hr; rw [hput'] at h; exact h
    · exact h.elim
  · have he : vop P (s.put dst v).σ (aev (s.put dst v).T) o.op = vop P s.σ (aev s.T) o.op := by rw [hσ]; exact vop_congr hev
    rw [he] at h
    unfold aVal at h ⊢
    split at h
    · rename_i r hr; rw [hput'] at h; exact h
    · exact h.elim
/-! ### moving an operation ahead -/
theorem Keep.refl (σ : Sto) : Keep E σ σ := fun _ _ _ h => h
theorem vstep_put {s : AS} {dst : Option Tmp} {v r : AV} {o : Oper} (h : ∀ d, dst = some d → ∀ z ∈ o.op.operands.toList, z ≠ .tmp d) : vstep P E s o r ↔ vstep P E (s.put dst v) o r := by
  have hs := put_σ s dst v
  constructor
  · exact fun hv => vstep_keep (by rw [hs]; exact Keep.refl _) (fun z hz => aev_put (fun d hd => h d hd z hz)) hv
  · exact fun hv => vstep_keep (by rw [hs]; exact Keep.refl _) (fun z hz => (aev_put (fun d hd => h d hd z hz)).symm) hv
/-- The later of two goes first. The earlier one reads alone. -/
theorem swap_vv {l i : Oper} {s : AS} {K : AS → Prop} (ha : apt D l i = true) (h : tstep P E D .v l s (fun s1 => tstep P E D .v i s1 K)) : tstep P E D .v i s (fun s2 => tstep P E D .v l s2 K) := by
  obtain ⟨ha1, ha2⟩ := apt_spec ha
  have hpc : ∀ v u : AV, (s.put l.dst v).put i.dst u = (s.put i.dst u).put l.dst v := fun v u => put_comm (fun d hd => (ha1 d hd).2.2)
  have gl : ∀ u : AV, gw D (s.put i.dst u).T l.guard = gw D s.T l.guard := fun u => gw_put (fun d hd => (ha2 d hd).2)
  have gi : ∀ v : AV, gw D (s.put l.dst v).T i.guard = gw D s.T i.guard := fun v => gw_put (fun d hd => (ha1 d hd).2.1)
  obtain ⟨t, hg, h1, h2⟩ := h
  simp only [vrun_iff] at h1
  cases t with
  | true =>
    obtain ⟨v, hv, t', hg', k1, k2⟩ := h1 rfl
    rw [gi] at hg'
    refine ⟨t', hg', fun ht' => ?_, fun ht' => ?_⟩
    · have k1 := k1 ht'
      simp only [vrun_iff] at k1 ⊢
      obtain ⟨u, hu, hK⟩ := k1
      refine ⟨u, (vstep_put (fun d hd => (ha1 d hd).1)).2 hu, true, by rw [gl]; exact hg, fun _ => ?_, fun h => by cases h⟩
      simp only [vrun_iff]
      exact ⟨v, (vstep_put (fun d hd => (ha2 d hd).1)).1 hv, by rw [← hpc]; exact hK⟩
    · refine ⟨true, by rw [gl]; exact hg, fun _ => ?_, fun h => by cases h⟩
      simp only [vrun_iff]
      exact ⟨v, (vstep_put (fun d hd => (ha2 d hd).1)).1 hv, by rw [← hpc]; exact k2 ht'⟩
  | false =>
    obtain ⟨t', hg', k1, k2⟩ := h2 rfl
    rw [gi] at hg'
    refine ⟨t', hg', fun ht' => ?_, fun ht' => ?_⟩
    · have k1 := k1 ht'
      simp only [vrun_iff] at k1 ⊢
      obtain ⟨u, hu, hK⟩ := k1
      exact ⟨u, (vstep_put (fun d hd => (ha1 d hd).1)).2 hu, false, by rw [gl]; exact hg, (fun h => by cases h), fun _ => by rw [← hpc]; exact hK⟩
    · exact ⟨false, by rw [gl]; exact hg, (fun h => by cases h), fun _ => by rw [← hpc]; exact k2 ht'⟩
theorem swap_vx {l i : Oper} {s : AS} {K : AS → Prop} (ha : apt D l i = true) (h : tstep P E D .v l s (fun s1 => tstep P E D .x i s1 K)) : tstep P E D .x i s (fun s2 => tstep P E D .v l s2 K) := by
  obtain ⟨ha1, ha2⟩ := apt_spec ha
  have hpc : ∀ (s : AS) (v u : AV), (s.put l.dst v).put i.dst u = (s.put i.dst u).put l.dst v := fun s v u => put_comm (fun d hd => (ha1 d hd).2.2)
  have gl : ∀ (σ' : Sto) (u : AV), gw D (AS.put ⟨s.T, σ'⟩ i.dst u).T l.guard = gw D s.T l.guard := fun σ' u => gw_put (s := ⟨s.T, σ'⟩) (fun d hd => (ha2 d hd).2)
  have gi : ∀ v : AV, gw D (s.put l.dst v).T i.guard = gw D s.T i.guard := fun v => gw_put (fun d hd => (ha1 d hd).2.1)
  have hz2 : ∀ (σ' : Sto) (u : AV), ∀ z ∈ l.op.operands.toList, aev (AS.put ⟨s.T, σ'⟩ i.dst u).T z = aev s.T z := fun σ' u z hz => aev_put (s := ⟨s.T, σ'⟩) (fun d hd => (ha2 d hd).1 z hz)
  have hd2 : ∀ d, l.dst = some d → i.dst ≠ some d := fun d hd => (ha1 d hd).2.2
  obtain ⟨t, hg, h1, h2⟩ := h
  cases t with
  | true =>
    have h1 := h1 rfl
    simp only [vrun_iff] at h1
    obtain ⟨v, hv, t', hg', k1, k2⟩ := h1
    rw [gi] at hg'
    refine ⟨t', hg', fun ht' => ?_, fun ht' => ?_⟩
    · have k := aop_out (aop_put (fun d hd z hz => (ha1 d hd).1 z hz) hd2 (k1 ht'))
      refine aop_mono k ?_
      rintro s' ⟨⟨σ', r, rfl⟩, hk, hK⟩
      rw [put_σ, put_σ] at hk
      refine ⟨by rw [put_σ] at hk ⊢; exact hk, true, by rw [gl]; exact hg, fun _ => ?_, fun h => by cases h⟩
      simp only [vrun_iff]
      exact ⟨v, vstep_keep (by rw [put_σ] at hk ⊢; exact hk) (hz2 σ' r) hv, hK⟩
    · refine ⟨true, by have := gl s.σ skipped; rw [this]; exact hg, fun _ => ?_, fun h => by cases h⟩
      simp only [vrun_iff]
      exact ⟨v, (vstep_put (fun d hd => (ha2 d hd).1)).1 hv, by rw [← hpc]; exact k2 ht'⟩
  | false =>
    obtain ⟨t', hg', k1, k2⟩ := h2 rfl
    rw [gi] at hg'
    refine ⟨t', hg', fun ht' => ?_, fun ht' => ?_⟩
    · have k := aop_out (aop_put (fun d hd z hz => (ha1 d hd).1 z hz) hd2 (k1 ht'))
      refine aop_mono k ?_
      rintro s' ⟨⟨σ', r, rfl⟩, hk, hK⟩
      rw [put_σ, put_σ] at hk
      exact ⟨by rw [put_σ] at hk ⊢; exact hk, false, by rw [gl]; exact hg, (fun h => by cases h), fun _ => hK⟩
    · exact ⟨false, by have := gl s.σ skipped; rw [this]; exact hg, (fun h => by cases h), fun _ => by rw [← hpc]; exact k2 ht'⟩
end
end Go.Proofs.Shadow

