/- The abstract machine's state; operations that turn memory; calls. -/
import Derived.Test.YtilkeeoinbndoaaShE
import Derived.ArgAppend
import Derived.Laws.MakeOwn
import Derived.Laws.AppendOwnNone
import Derived.Lib.LaidTab
import Derived.Lib.ItoaNum
set_option linter.unusedVariables false
set_option linter.unusedSimpArgs false
namespace Go.Proofs.Shadow
open Go Go.RowKit
structure AS where
  T : Nat → AV
  σ : Sto
def upd (T : Nat → AV) (d : Nat) (v : AV) : Nat → AV := fun i => if i = d then v else T i
def AS.put (s : AS) (dst : Option Tmp) (v : AV) : AS := match dst with | some d => ⟨upd s.T d v, s.σ⟩ | none => s
/-- What is skipped leaves nothing. -/
def skipped : AV := .tup []
def RelT (n : Nat) (σ : Sto) (w : World) (T : Nat → AV) (a : Act) : Prop := a.tmps.size = n ∧ a.defers = [] ∧ ∀ i, Rv σ w (T i) (a.tmps.getD i undef)
/-- The machine's activation and world, and the abstract state; σ0, w0: those in which the function was entered. -/
structure Rel (P : Program) (n : Nat) (σ0 : Sto) (w0 : World) (s : AS) (a : Act) (w : World) : Prop where
  sim : Sim s.σ w
  tmps : RelT n s.σ w s.T a
  step : Step σ0 w0 s.σ w
  tb : Tb P s.σ w
def Post (P : Program) (n : Nat) (σ0 : Sto) (w0 : World) (K : AS → Prop) (a : Act) (w : World) : Prop := ∃ s, K s ∧ Rel P n σ0 w0 s a w
theorem undef_rv {σ : Sto} {w : World} : Rv σ w skipped undef := .tup rfl (fun i c h => by simp at h)
theorem RelT.step {n : Nat} {σ σ' : Sto} {w w' : World} {T : Nat → AV} {a : Act} (h : RelT n σ w T a) (hs : Step σ w σ' w') : RelT n σ' w' T a := ⟨h.1, h.2.1, fun i => (h.2.2 i).step hs⟩
theorem put_tmps (a : Act) (d : Nat) (v : Value) : (a.put (some d) v).tmps = a.tmps.setIfInBounds d v := rfl
theorem RelT.put {n : Nat} {σ : Sto} {w : World} {s : AS} {a : Act} {v : AV} {cv : Value} (h : RelT n σ w s.T a) (hv : Rv σ w v cv) (dst : Option Tmp) (hd : ∀ d, dst = some d → d < n) : RelT n σ w (s.put dst v).T (a.put dst cv) := by
  cases dst with
  | none => exact h
  | some d =>
    have hdn := hd d rfl
    refine ⟨by rw [put_tmps]; simp [h.1], h.2.1, fun i => ?_⟩
    have hsz := h.1
    simp only [AS.put, upd, put_tmps]
    by_cases hi : i = d
    · subst hi
      rw [if_pos rfl]
      have : (a.tmps.setIfInBounds i cv).getD i undef = cv := by simp [hsz, hdn]
      rw [this]
      exact hv
    · rw [if_neg hi]
      have : (a.tmps.setIfInBounds d cv).getD i undef = a.tmps.getD i undef := by
        simp [Array.getElem?_setIfInBounds_ne (Ne.symm hi)]
      rw [this]
      exact h.2.2 i
theorem aev_ok {n : Nat} {σ : Sto} {w : World} {T : Nat → AV} {a : Act} (h : RelT n σ w T a) {x : Operand} (hx : operandOk x = true) : Rv σ w (aev T x) (a.eval x) := by
  cases x with
  | tmp t => exact h.2.2 t
  | const v => exact ofVal_ok σ w hx
  | global g => exact .ptr
  | func f => exact .fn rfl (fun i c hc => by simp at hc)
theorem put_σ (s : AS) (dst : Option Tmp) (v : AV) : (s.put dst v).σ = s.σ := by cases dst <;> rfl
/-! ### Slices under construction, slices that are read -/
def AV.blk : AV → Option Nat
  | .ref b _ _ => some b
  | _ => none
/-- v: a slice of ours (rows xs of sz cells, elements of type e): it may be appended to. -/
def OwnL (σ : Sto) (e : TypeId) (sz : Nat) (v : AV) (xs : List (List AV)) : Prop :=
  (∀ x ∈ xs, x.length = sz) ∧ ((v = .nilsl ∧ xs = []) ∨ v = .sl true xs ∨ ∃ b cap, v = .ref b xs.length cap ∧ σ.own b = some ⟨e, cap * sz, xs.flatten⟩)
/-- v can be read as rows xs. -/
def RdL (σ : Sto) (sz : Nat) (v : AV) (xs : List (List AV)) : Prop :=
  (∀ x ∈ xs, x.length = sz) ∧ ((v = .nilsl ∧ xs = []) ∨ (∃ c, v = .sl c xs) ∨ ∃ b cap e, v = .ref b xs.length cap ∧ σ.own b = some e ∧ e.cells = xs.flatten)
/-- What append leaves. -/
structure AppPost (σ : Sto) (e : TypeId) (sz : Nat) (v : AV) (σ' : Sto) (v' : AV) (zs : List (List AV)) : Prop where
  var : σ'.var = σ.var
  own : OwnL σ' e sz v' zs
  same : ∀ b, some b ≠ v.blk → σ.own b ≠ none → σ'.own b = σ.own b
  fresh : ∀ b, σ.own b = none → some b ≠ v'.blk → σ'.own b = none
  blk : v'.blk = v.blk ∨ ∀ b, v'.blk = some b → σ.dead b
  cap : v = v' ∨ v'.blk ≠ none
/-- What is handed on: the value told anew, over fewer live blocks. -/
def Wk (σ : Sto) (r : AV) (σ' : Sto) (r' : AV) : Prop := ∀ w v, Sim σ w → Rv σ w r v → Sim σ' w ∧ Rv σ' w r' v ∧ ∀ b, σ.dead b → σ'.dead b
/-- More variables. -/
def Sto.ext (σ : Sto) (ρ : Nat → Option Ent) : Sto := { σ with var := fun i => (ρ i).or (σ.var i) }
theorem Sto.ext_set (σ : Sto) (b : Nat) (e : Ent) (ρ : Nat → Option Ent) : (σ.setVar b e).ext ρ = σ.ext (fun i => (ρ i).or (if i = b then some e else none)) := by
  simp only [Sto.ext, Sto.setVar]
  congr 1
  funext i
  cases ρ i <;> simp
  split <;> simp
/-- .. the variables as they were, also with more of them. -/
structure Wk1 (σ : Sto) (r : AV) (σ' : Sto) (r' : AV) : Prop where
  wk : Wk σ r σ' r'
  var : σ'.var = σ.var
  dead : ∀ b, σ.dead b → σ'.dead b
  ext : ∀ ρ, (∀ b, ρ b ≠ none → σ.dead b) → Wk (σ.ext ρ) r (σ'.ext ρ) r'
theorem Wk1.refl (σ : Sto) (r : AV) : Wk1 σ r σ r := ⟨fun _ _ hs hr => ⟨hs, hr, fun _ h => h⟩, rfl, fun _ h => h, fun _ _ _ _ hs hr => ⟨hs, hr, fun _ h => h⟩⟩
def aVal (ov : Option AV) (s : AS) (dst : Option Tmp) (K : AS → Prop) : Prop := match ov with | some v => K (s.put dst v) | none => False
def aAlloc (oc : Option (List AV)) (ty : TypeId) (s : AS) (dst : Option Tmp) (K : AS → Prop) : Prop :=
  match oc with | some cs => ∀ b, s.σ.dead b → K (AS.put ⟨s.T, s.σ.setVar b ⟨ty, cs.length, cs⟩⟩ dst (.ptr b 0)) | none => False
def astore (k : Option (Bool × Nat)) (σ : Sto) (p v : AV) : Option Sto :=
  match k, avCells v with
  | some (_, k), some cs =>
    if cs.length = k then
      match p with
      | .ptr b o => (σ.var b).bind fun e => if o + k ≤ e.cells.length then some (σ.setVar b ⟨e.ty, e.size, splice e.cells o cs⟩) else none
      | .optr b o => (σ.own b).bind fun e => if o + k ≤ e.cells.length then some (σ.setOwn b ⟨e.ty, e.size, splice e.cells o cs⟩) else none
      | _ => none
    else none
  | _, _ => none
def aStore (os : Option Sto) (s : AS) (dst : Option Tmp) (K : AS → Prop) : Prop := match os with | some σ' => K (AS.put ⟨s.T, σ'⟩ dst skipped) | none => False
/-- Cells told anew. -/
def WkC (z z' : List AV) : Prop := z'.length = z.length ∧ ∀ (i : Nat) (c' : AV), z'[i]? = some c' → ∃ c, z[i]? = some c ∧ (∀ σ w v, Rv σ w c v → Rv σ w c' v) ∧ (c.isCell = true → c'.isCell = true)
def aMake (k : Option (TypeId × Nat × Nat)) (z : Option (List AV)) (l c : AV) (s : AS) (dst : Option Tmp) (K : AS → Prop) : Prop :=
  match k, z, l, c with
  | some (e, sz, by_), some z, .int _ n, .int _ m => n = m ∧ 0 ≤ n ∧ n * by_ ≤ 140737488355328 ∧ n ≤ 140737488355328 ∧ z.length = sz ∧ ∃ z', WkC z z' ∧ ∀ b, s.σ.dead b → K (AS.put ⟨s.T, s.σ.setOwn b ⟨e, n.toNat * sz, (List.replicate n.toNat z').flatten⟩⟩ dst (.ref b n.toNat n.toNat))
  | _, _, _, _ => False
def aAppend (k : Option (TypeId × Nat × Nat)) (x y : AV) (s : AS) (dst : Option Tmp) (K : AS → Prop) : Prop :=
  match k with
  | some (e, sz, by_) => ∃ xs ys, 0 < sz ∧ 0 < by_ ∧ OwnL s.σ e sz x xs ∧ RdL s.σ sz y ys ∧ (xs.length + ys.length) * by_ ≤ 140737488355328 ∧ ∀ v' σ', AppPost s.σ e sz x σ' v' (xs ++ ys) → ∃ v'' σ'', Wk1 σ' v' σ'' v'' ∧ K (AS.put ⟨s.T, σ''⟩ dst v'')
  | none => False
/-- A contract: called with such arguments over such live blocks, the function returns so. -/
def Ctr (P : Program) (f : FuncId) (args : List AV) (σ : Sto) (Q : AV → Sto → Prop) : Prop :=
  (∃ fn, P.funcs[f]? = some fn ∧ fn.body.isNone = false ∧ (fn.name == "runtime.NumGoroutine") = false) ∧
  ∀ (w : World) (cargs : List Value), Sim σ w → Tb P σ w → cargs.length = args.length → (∀ i a, args[i]? = some a → Rv σ w a (cargs.getD i undef)) →
    Calls P f cargs.toArray w fun e w' => ∃ v r σ', e = .returned v ∧ Step σ w σ' w' ∧ Sim σ' w' ∧ Rv σ' w' r v ∧ Q r σ'
def aCall (P : Program) (fv : AV) (args : List AV) (s : AS) (dst : Option Tmp) (K : AS → Prop) : Prop :=
  match fv with
  | .fn f caps => Ctr P f (args ++ caps) s.σ fun r σ' => K (AS.put ⟨s.T, σ'⟩ dst r)
  | _ => False
/-- A slice that is cut: of one of ours the first cells stay ours. -/
def aSl (ov : Option AV) (s : AS) (dst : Option Tmp) (K : AS → Prop) : Prop :=
  match ov with
  | some (.ref b h cap) => ∃ m e, s.σ.own b = some e ∧ K (AS.put ⟨s.T, s.σ.setOwn b ⟨e.ty, e.size, e.cells.take m⟩⟩ dst (.ref b h cap))
  | some v => K (s.put dst v)
  | none => False
def aop (P : Program) (o : Oper) (s : AS) (K : AS → Prop) : Prop :=
  match o.op with
  | .alloc t => aAlloc (tz P t) t s o.dst K
  | .box t x => aAlloc (avCells (aev s.T x)) t s o.dst K
  | .store t p x => aStore (astore (tk P t) s.σ (aev s.T p) (aev s.T x)) s o.dst K
  | .makeSlice t l c => aMake (se P t) ((se P t).bind fun k => tz P k.1) (aev s.T l) (aev s.T c) s o.dst K
  | .call { callee := .value f, args, .. } => aCall P (aev s.T f) (args.toList.map (aev s.T)) s o.dst K
  | .call { callee := .builtin .append, args, argTypes } =>
    (match args.toList, argTypes.toList with
     | [x, y], [t, t2] => t = t2 ∧ aAppend (se P t) (aev s.T x) (aev s.T y) s o.dst K
     | _, _ => False)
  | .slice t x lo hi mx => aSl (vop P s.σ (aev s.T) (.slice t x lo hi mx)) s o.dst K
  | .load t (.global g) => aVal (tload P s.σ t g) s o.dst K
  | op => aVal (vop P s.σ (aev s.T) op) s o.dst K
section
variable {P : Program} {n : Nat} {σ0 : Sto} {w0 : World}
theorem Sim.dead_ge {σ : Sto} {w : World} (h : Sim σ w) {g : Nat} (hg : w.heap.size ≤ g) : σ.dead g := by
  apply Classical.byContradiction
  intro hd
  have := h.live_lt hd
  omega
/-- A slice's row is laid anew: what append says of it in the machine's words. -/
theorem Sim.ownsNew {σ : Sto} {w w' : World} (h : Sim σ w) {row : Option Nat} (hg : w.grownBy w' row) (hrow : ∀ b, row = some b → σ.own b ≠ none) {e : TypeId} {sz g k cap : Nat} {cells : List Value} {as : List AV}
    (ho : w'.ownsRow 0 e sz (.slice (some ⟨g, 0, none⟩) k cap) k cells) (hgb : row = some g ∨ w.heap.size ≤ g) (hl : as.length = cells.length) (hi : ∀ c ∈ as, c.isCell = true) (hr : ∀ i c, as[i]? = some c → Rv σ w c (cells.getD i undef)) :
    ∃ σ' : Sto, σ'.var = σ.var ∧ σ'.own g = some ⟨e, cap * sz, as⟩ ∧ (∀ b, b ≠ g → some b ≠ row → σ'.own b = σ.own b) ∧ (∀ b, b ≠ g → row = some b → σ'.own b = none) ∧ Sim σ' w' ∧ Step σ w σ' w' := by
  obtain ⟨hol, ho⟩ := ho
  rcases ho with ⟨h1, _⟩ | ⟨g', cap', cur, hv, _, hh, hkc, hcm, hcs, htake⟩
  · cases h1
  injection hv with hv1 hv2 hv3
  injection hv1 with hv1
  injection hv1 with hv1
  subst hv1; subst hv3
  have hst : Step σ w ⟨σ.var, fun i => if i = g then some ⟨e, cap * sz, as⟩ else if some i = row then none else σ.own i⟩ w' := by
    refine ⟨hg.os, hg.tape, hg.output, hg.size, fun b hb hd => ?_⟩
    have hne : some b ≠ row := fun he => hrow b he.symm hd.2
    refine ⟨hg.block b hb hne, hd.1, ?_⟩
    have hbg : b ≠ g := by
      rcases hgb with hgb | hgb
      · exact fun he => hne (by rw [he, hgb])
      · omega
    simp only [if_neg hbg, if_neg hne]
    exact hd.2
  have hvar : ∀ b ent, σ.var b = some ent → w'.heap[b]? = w.heap[b]? := by
    intro b ent hb
    obtain ⟨q1, _, q3⟩ := h.var b ent hb
    exact hg.block b q1.lt (fun he => hrow b he.symm q3)
  refine ⟨⟨σ.var, fun i => if i = g then some ⟨e, cap * sz, as⟩ else if some i = row then none else σ.own i⟩, rfl, by simp, fun b hb hne => by simp [hb, hne], fun b hb he => by simp [hb, he], ⟨?_, ?_⟩, hst⟩
  · intro b ent hb
    obtain ⟨q1, q2, q3⟩ := h.var b ent hb
    refine ⟨q1.step hst (hvar b ent hb), q2, ?_⟩
    have hbg : b ≠ g := by
      rcases hgb with hgb | hgb
      · intro he; subst he; exact hrow b hgb q3
      · have := q1.lt; omega
    simp only [if_neg hbg]
    split
    · rfl
    · exact q3
  · intro b ent hb
    simp only at hb
    split at hb
    · rename_i hbg
      subst hbg
      injection hb with hb
      subst hb
      have hcl : as.length ≤ cur.size := by
        rw [hl, ← htake]; simp; omega
      refine ⟨cur, hh, hcs, by rw [← hcs]; exact hcl, fun i c hic => ⟨hi c (List.mem_of_getElem? hic), ?_⟩⟩
      have := hr i c hic
      have he : cells.getD i undef = cur.getD i undef := by
        have hil : i < cells.length := by have h8 : i < as.length := (List.getElem?_eq_some_iff.1 hic).1; omega
        rw [← htake] at hil ⊢
        rw [List.getD_eq_getElem?_getD, List.getElem?_eq_getElem hil, List.getElem_take]
        simp at hil
        have h9 : i < cur.size := by omega
        simp [h9]
      rw [he] at this
      exact this.step hst
    · split at hb
      · cases hb
      · rename_i hbg hne
        exact (h.own b ent hb).step hst (hg.block b (h.own b ent hb).lt hne)
/-- The cells of what is read, as the machine has them. -/
theorem RdL.cells {σ : Sto} {w : World} (h : Sim σ w) {sz : Nat} {v : AV} {xs : List (List AV)} (hr : RdL σ sz v xs) (hsz : 0 < sz) {cv : Value} (hv : Rv σ w v cv) :
    xs.length ≤ 4611686018427387904 ∧ (∀ c ∈ xs.flatten, c.isCell = true) ∧ ∃ A cap, cv = .slice A xs.length cap ∧ (xs = [] ∨ ∃ a, A = some a ∧ ∃ news : List Value, news.length = xs.length * sz ∧ (∀ j u, news[j]? = some u → w.cell? (a.add j) = some u) ∧ (∀ u ∈ news, u.oneCell' = true) ∧ ∀ i c, xs.flatten[i]? = some c → Rv σ w c (news.getD i undef)) := by
  obtain ⟨hrow, hr⟩ := hr
  have hfl := flatten_length xs hrow
  have fin : ∀ (b o : Nat) (f : Nat → Value), (∀ c ∈ xs.flatten, c.isCell = true) → (∀ i c, xs.flatten[i]? = some c → w.cell? ⟨b, o + i, none⟩ = some (f i) ∧ Rv σ w c (f i)) →
      ∃ news : List Value, news.length = xs.length * sz ∧ (∀ j u, news[j]? = some u → w.cell? ((⟨b, o, none⟩ : Addr).add j) = some u) ∧ (∀ u ∈ news, u.oneCell' = true) ∧ ∀ i c, xs.flatten[i]? = some c → Rv σ w c (news.getD i undef) := by
    intro b o f hi hf
    refine ⟨(List.range (xs.length * sz)).map f, by simp, fun j u hj => ?_, fun u hu => ?_, fun i c hic => ?_⟩
    · rw [List.getElem?_map] at hj
      obtain ⟨j', hj', rfl⟩ := Option.map_eq_some_iff.1 hj
      have hjl := (List.getElem?_eq_some_iff.1 hj').1
      simp at hjl
      have : j' = j := by rw [List.getElem?_range (by simpa using hjl)] at hj'; injection hj' with hj'; exact hj'.symm
      subst this
      rw [add_at0]
      exact (hf j' _ (List.getElem?_eq_getElem (by rw [hfl]; exact hjl))).1
    · obtain ⟨j, hj, rfl⟩ := List.mem_map.1 hu
      rw [List.mem_range] at hj
      have hc := List.getElem?_eq_getElem (l := xs.flatten) (i := j) (by rw [hfl]; exact hj)
      exact (hf j _ hc).2.one (hi _ (List.mem_of_getElem? hc))
    · have hil : i < xs.length * sz := by rw [← hfl]; exact (List.getElem?_eq_some_iff.1 hic).1
      have : ((List.range (xs.length * sz)).map f).getD i undef = f i := by simp [hil]
      rw [this]
      exact (hf i c hic).2
  rcases hr with ⟨rfl, rfl⟩ | ⟨c, rfl⟩ | ⟨b, cap, e, rfl, he, hcells⟩
  · cases hv
    exact ⟨by simp, by simp, _, _, rfl, .inl rfl⟩
  · cases hv with
    | slE hc => exact ⟨by simp, by simp, _, _, rfl, .inl rfl⟩
    | slC hx hn hle hcp hszx hc hd hb hi hf hr =>
      subst hn
      exact ⟨hle, hi, _, _, rfl, .inr ⟨_, rfl, fin _ _ _ hi (fun i c hic => ⟨hf i c hic, hr i c hic⟩)⟩⟩
  · cases hv with
    | ref hle hcp hcm =>
      obtain ⟨cs, h1, h2, h3, h4⟩ := h.own b e he
      rw [hcells] at h3 h4
      refine ⟨hle, fun c hc => ?_, _, _, rfl, .inr ⟨_, rfl, fin b 0 (fun i => cs.getD i undef) (fun c hc => ?_) (fun i c hic => ⟨?_, (h4 i c hic).2⟩)⟩⟩
      · obtain ⟨i, hi⟩ := List.mem_iff_getElem?.1 hc
        exact (h4 i c hi).1
      · obtain ⟨i, hi⟩ := List.mem_iff_getElem?.1 hc
        exact (h4 i c hi).1
      · rw [Nat.zero_add, cell_of_row w b i cs e.ty (0, 0) h1]
        have : i < cs.size := by have := (List.getElem?_eq_some_iff.1 hic).1; omega
        simp [this]
end
end Go.Proofs.Shadow

