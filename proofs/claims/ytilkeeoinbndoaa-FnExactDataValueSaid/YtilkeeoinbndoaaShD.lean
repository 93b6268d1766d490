/- The operations that turn no live block, second part; all of them in one theorem. -/
import Derived.Test.YtilkeeoinbndoaaShA
set_option linter.unusedVariables false
set_option linter.unusedSimpArgs false
namespace Go.Proofs.Shadow
open Go Go.RowKit
section
variable {P : Program} {σ : Sto} {w : World}
theorem eqGuard_ok {op : BinOp} {t : TypeId} {x y : Operand} {a b : Value} (h : (∀ cs, a ≠ .agg cs) ∧ a ≠ .nilIface) : (eqGuard op t x y a b).run P w = .ok () w := by
  obtain ⟨h1, h2⟩ := h
  unfold eqGuard
  cases a <;> first | exact absurd rfl (h1 _) | exact absurd rfl h2 | (cases op <;> rfl)
theorem run_equal_bool {t : TypeId} (hu : P.underlying t = some .bool) (a b : Bool) : (Op.equal t (.bool a) (.bool b)).run P w = .ok (a == b) w := by
  rw [Op.equal, Op.maxDepth, show (10000 : Nat) = 9999 + 1 from rfl, Op.equalIn, Sem.run_bind, run_underlying hu, Result.andThen_ok]
  rfl
theorem run_equal_nil {t e : TypeId} (hu : P.underlying t = some (.slice e)) (A : Option Addr) (n cap : Nat) : (Op.equal t (.slice A n cap) (.slice none 0 0)).run P w = .ok A.isNone w := by
  rw [Op.equal, Op.maxDepth, show (10000 : Nat) = 9999 + 1 from rfl, Op.equalIn, Sem.run_bind, run_underlying hu, Result.andThen_ok]
  cases A <;> rfl
theorem bin_ok {op : BinOp} {t : TypeId} {ox oy : Operand} {x y : AV} {cx cy : Value} {v : AV} (hx : Rv σ w x cx) (hy : Rv σ w y cy) (h : abin (isB P t) (se P t).isSome op x y = some v) :
    ∃ cv, (do eqGuard op t ox oy cx cy; binOp op t cx cy : Sem Value).run P w = .ok cv w ∧ Rv σ w v cv := by
  unfold abin at h
  cases hx <;> cases hy <;> (try simp only at h) <;> try (cases h; done)
  case int.int k a k' b =>
    split at h
    · rename_i hk
      subst hk
      rw [Sem.run_bind, eqGuard_ok ⟨by simp, by simp⟩, Result.andThen_ok]
      cases op <;> simp only [abinI] at h <;> try (cases h; done)
      case quo =>
        split at h
        · cases h
        · rename_i hb
          injection h with h; subst h
          exact ⟨_, by simp [binOp, Op.intDiv, hb], .int⟩
      case rem =>
        split at h
        · cases h
        · rename_i hb
          injection h with h; subst h
          exact ⟨_, by simp [binOp, Op.intDiv, hb], .int⟩
      case xor => injection h with h; subst h; exact ⟨_, by rw [binOp_xor, intBits_xor]; rfl, .int⟩
      case and => injection h with h; subst h; exact ⟨_, by rw [binOp_and, intBits_and]; rfl, .int⟩
      case or => injection h with h; subst h; exact ⟨_, by rw [binOp_or, intBits_or]; rfl, .int⟩
      all_goals (injection h with h; subst h; refine ⟨_, by simp [binOp, Op.intArith, Op.intCmp]; rfl, ?_⟩; first | exact .int | exact .bool | (refine (?_ : Rv σ w _ _); simp only [bne, beq_eq_decide]; exact .bool))
    · cases h
  case nilsl.nilsl =>
    split at h
    · rename_i hk
      obtain ⟨k, hk⟩ := Option.isSome_iff_exists.1 hk
      obtain ⟨e, sz, by_⟩ := k
      have hu := (se_spec hk).1
      rw [Sem.run_bind, eqGuard_ok ⟨by simp, by simp⟩, Result.andThen_ok]
      cases op <;> simp only [anilq] at h <;> try (cases h; done)
      all_goals (injection h with h; subst h; have he := run_equal_nil (P := P) (w := w) hu none 0 0; simp only [binOp]; rw [Sem.run_bind, he, Result.andThen_ok]; exact ⟨_, rfl, .bool⟩)
    · cases h
  case slE.nilsl c A cap hc =>
    split at h
    · rename_i hk
      obtain ⟨k, hk⟩ := Option.isSome_iff_exists.1 hk
      obtain ⟨e, sz, by_⟩ := k
      have hu := (se_spec hk).1
      rw [Sem.run_bind, eqGuard_ok ⟨by simp, by simp⟩, Result.andThen_ok]
      cases op <;> simp only [anilu] at h <;> try (cases h; done)
      all_goals (injection h with h; subst h; have he := run_equal_nil (P := P) (w := w) hu A 0 cap; simp only [binOp]; rw [Sem.run_bind, he, Result.andThen_ok]; exact ⟨_, rfl, .ub⟩)
    · cases h
  case slC.nilsl c xs b o n cap sz f hne hn hle hcp hszx hc hd hbl hcl hf hr =>
    cases xs with
    | nil => exact absurd rfl hne
    | cons x xs =>
      simp only at h
      split at h
      · rename_i hk
        obtain ⟨k, hk⟩ := Option.isSome_iff_exists.1 hk
        obtain ⟨e, sz, by_⟩ := k
        have hu := (se_spec hk).1
        rw [Sem.run_bind, eqGuard_ok ⟨by simp, by simp⟩, Result.andThen_ok]
        cases op <;> simp only [anilq] at h <;> try (cases h; done)
        all_goals (injection h with h; subst h; have he := run_equal_nil (P := P) (w := w) hu (some ⟨b, o, none⟩) n cap; simp only [binOp]; rw [Sem.run_bind, he, Result.andThen_ok]; exact ⟨_, rfl, .bool⟩)
      · cases h
  case str.str a ha b hb =>
    rw [Sem.run_bind, eqGuard_ok ⟨by simp, by simp⟩, Result.andThen_ok]
    cases op <;> simp only [abinS] at h <;> try (cases h; done)
    case add =>
      split at h
      · rename_i hle
        injection h with h; subst h
        refine ⟨.string (a ++ b), ?_, .str (by rw [ByteArray.size_append]; exact hle)⟩
        have : ¬ ((a.size + b.size : Nat) : Int) > IntKind.i64.max := by
          have : IntKind.i64.max = 9223372036854775807 := by decide
          omega
        simp only [binOp, Op.stringOp, this, if_false, Sem.run_pure]
      · cases h
    case eql => injection h with h; subst h; exact ⟨_, by simp only [binOp, Op.stringOp, toList_eq_iff, Sem.run_pure], .bool⟩
    case neq => injection h with h; subst h; exact ⟨_, by simp only [binOp, Op.stringOp, toList_eq_iff, Sem.run_pure], .bool⟩
  case bool.bool a b =>
    cases hb : isB P t with
    | false => simp [hb] at h
    | true =>
      have hu : P.underlying t = some .bool := by
        unfold isB at hb
        split at hb <;> first | assumption | cases hb
      simp only [hb, if_true] at h
      rw [Sem.run_bind, eqGuard_ok ⟨by simp, by simp⟩, Result.andThen_ok]
      cases op <;> simp only at h <;> try (cases h; done)
      all_goals (injection h with h; subst h; have he := run_equal_bool (P := P) (w := w) hu a b; simp only [binOp]; rw [Sem.run_bind, he, Result.andThen_ok]; exact ⟨_, rfl, .bool⟩)
theorem un_ok {op : UnOp} {x : AV} {cx : Value} {v : AV} (hx : Rv σ w x cx) (h : aun op x = some v) : ∃ cv, (Op.unary op cx).run P w = .ok cv w ∧ Rv σ w v cv := by
  unfold aun at h
  cases op <;> cases hx <;> simp only at h <;> try (cases h; done)
  case neg.int k n => injection h with h; subst h; exact ⟨_, by simp [Op.unary, Op.intArith], .int⟩
  case not.bool b => injection h with h; subst h; exact ⟨_, by simp [Op.unary], .bool⟩
theorem ext_ok {x : AV} {i : Nat} {cx : Value} {v : AV} (hx : Rv σ w x cx) (h : aext x i = some v) : ∃ cv, (Instr.extract cx i).run P w = .ok cv w ∧ Rv σ w v cv := by
  unfold aext at h
  cases hx <;> simp only at h <;> try (cases h; done)
  rename_i cs vs hl hr
  have hlt : i < vs.size := by have := (List.getElem?_eq_some_iff.1 h).1; omega
  have hg : vs[i]? = some (vs.getD i undef) := by simp [hlt]
  exact ⟨_, by simp only [Instr.extract, hg, Sem.run_pure], hr i v h⟩
theorem avCells_ok {x : AV} {cx : Value} {cs : List AV} (hx : Rv σ w x cx) (h : avCells x = some cs) :
    cx.cells.size = cs.length ∧ (∀ c ∈ cs, c.isCell = true) ∧ (∀ i c, cs[i]? = some c → Rv σ w c (cx.cells.getD i undef)) ∧ ∀ v ∈ cx.cells.toList, v.oneCell' = true := by
  have one : ∀ {x : AV} {cx : Value}, Rv σ w x cx → x.isCell = true → cs = [x] → cx.cells = #[cx] → cx.cells.size = cs.length ∧ (∀ c ∈ cs, c.isCell = true) ∧ (∀ i c, cs[i]? = some c → Rv σ w c (cx.cells.getD i undef)) ∧ ∀ v ∈ cx.cells.toList, v.oneCell' = true := by
    intro x cx hx hc hcs hcc
    subst hcs
    rw [hcc]
    refine ⟨rfl, by simpa using hc, fun i c hic => ?_, by simpa using hx.one hc⟩
    cases i with
    | zero => simp at hic; subst hic; exact hx
    | succ i => simp at hic
  have hone := fun (hc : x.isCell = true) => hx.one hc
  cases hx <;> simp only [avCells] at h
  case tup => rw [if_neg (by simp [AV.isCell])] at h; cases h
  case junk => rw [if_neg (by simp [AV.isCell])] at h; cases h
  case opq =>
    by_cases hc : (AV.opq cx).isCell = true
    · rw [if_pos hc] at h
      injection h with h
      refine one .opq hc h.symm ?_
      have hc : cx.oneCell' = true := hc
      cases cx <;> first | rfl | simp [Value.oneCell'] at hc
    · rw [if_neg hc] at h
      cases h
  case agg cs' vs hl hi hr =>
    injection h with h
    subst h
    refine ⟨hl.symm, hi, hr, fun v hv => ?_⟩
    obtain ⟨i, hiv⟩ := List.mem_iff_getElem?.1 hv
    have hil : i < vs.size := by have := (List.getElem?_eq_some_iff.1 hiv).1; simpa [Value.cells] using this
    have hc : cs'[i]? = some (cs'[i]'(by omega)) := List.getElem?_eq_getElem (by omega)
    have := (hr i _ hc).one (hi _ (List.mem_of_getElem? hc))
    have he : vs.getD i undef = v := by
      simp [Value.cells] at hiv
      simp [hiv]
    rwa [he] at this
  case str hs => exact one (.str hs) rfl (Option.some.inj h).symm rfl
  case slE hc => exact one (.slE hc) rfl (Option.some.inj h).symm rfl
  case slC hx hn hle hcp hsz hc hd hb hi hf hr => exact one (.slC hx hn hle hcp hsz hc hd hb hi hf hr) rfl (Option.some.inj h).symm rfl
  case ref hh hcp hcm => exact one (.ref hh hcp hcm) rfl (Option.some.inj h).symm rfl
  case ept hd hb hi hf hr => exact one (.ept hd hb hi hf hr) rfl (Option.some.inj h).symm rfl
  case fn hl hr => exact one (.fn hl hr) rfl (Option.some.inj h).symm rfl
  all_goals first | exact one .int rfl (Option.some.inj h).symm rfl | exact one .bool rfl (Option.some.inj h).symm rfl | exact one .nilsl rfl (Option.some.inj h).symm rfl | exact one .ptr rfl (Option.some.inj h).symm rfl | exact one .optr rfl (Option.some.inj h).symm rfl | exact one .nilp rfl (Option.some.inj h).symm rfl | exact one .nilfn rfl (Option.some.inj h).symm rfl | exact one .ub rfl (Option.some.inj h).symm rfl
/-! ### cells laid into a row of cells -/
def RvC (σ : Sto) (w : World) (as : List AV) (cs : Array Value) : Prop := as.length = cs.size ∧ (∀ c ∈ as, c.isCell = true) ∧ ∀ i c, as[i]? = some c → Rv σ w c (cs.getD i undef)
theorem splice_length {cells cs : List AV} {o : Nat} (h : o + cs.length ≤ cells.length) : (splice cells o cs).length = cells.length := by
  simp [splice]; omega
theorem splice_get {cells cs : List AV} {o : Nat} (h : o + cs.length ≤ cells.length) (i : Nat) : (splice cells o cs)[i]? = if o ≤ i ∧ i < o + cs.length then cs[i - o]? else cells[i]? := by
  unfold splice
  by_cases h1 : i < o
  · rw [if_neg (by omega), List.append_assoc, List.getElem?_append_left (by simp; omega), List.getElem?_take, if_pos h1]
  · by_cases h2 : i < o + cs.length
    · rw [if_pos ⟨by omega, h2⟩, List.append_assoc, List.getElem?_append_right (by simp; omega), List.getElem?_append_left (by simp; omega)]
      simp
      congr 1
      omega
    · rw [if_neg (by omega), List.getElem?_append_right (by simp; omega), List.getElem?_drop]
      simp
      congr 1
      omega
theorem splice_mem {cells cs : List AV} {o : Nat} (h : o + cs.length ≤ cells.length) {c : AV} (hc : c ∈ splice cells o cs) : c ∈ cells ∨ c ∈ cs := by
  simp only [splice, List.mem_append] at hc
  rcases hc with (hc | hc) | hc
  · exact .inl (List.mem_of_mem_take hc)
  · exact .inr hc
  · exact .inl (List.mem_of_mem_drop hc)
theorem lay_get (cells : Array Value) (off : Nat) : ∀ (l : List Value) (k : Nat) (cs : Array Value) (i : Nat), off + k + l.length ≤ cs.size →
    ((l.zipIdx k).foldl (fun cs (c, j) => cs.setIfInBounds (off + j) c) cs)[i]? = if off + k ≤ i ∧ i < off + k + l.length then l[i - (off + k)]? else cs[i]?
  | [], k, cs, i, _ => by simp; omega
  | v :: l, k, cs, i, h => by
    simp only [List.zipIdx_cons, List.foldl_cons, List.length_cons] at h ⊢
    rw [lay_get cells off l (k + 1) _ i (by simp; omega)]
    by_cases h1 : off + (k + 1) ≤ i ∧ i < off + (k + 1) + l.length
    · rw [if_pos h1, if_pos (by omega), show i - (off + k) = (i - (off + (k + 1))) + 1 by omega, List.getElem?_cons_succ]
    · rw [if_neg h1]
      by_cases h2 : i = off + k
      · subst h2
        rw [if_pos (by omega), Nat.sub_self, List.getElem?_cons_zero, Array.getElem?_setIfInBounds_self_of_lt (by omega)]
      · rw [if_neg (by omega), Array.getElem?_setIfInBounds_ne (by omega)]
theorem lay_size (off : Nat) : ∀ (l : List (Value × Nat)) (cs : Array Value), (l.foldl (fun cs (x : Value × Nat) => cs.setIfInBounds (off + x.2) x.1) cs).size = cs.size
  | [], cs => rfl
  | v :: l, cs => by rw [List.foldl_cons, lay_size off l]; simp
theorem RvC.splice {as cs : List AV} {cv vs : Array Value} {o : Nat} (h : RvC σ w as cv) (hl : vs.size = cs.length) (hi : ∀ c ∈ cs, c.isCell = true) (hr : ∀ i c, cs[i]? = some c → Rv σ w c (vs.getD i undef)) (hle : o + cs.length ≤ as.length) :
    RvC σ w (splice as o cs) (vs.zipIdx.foldl (fun acc (c, j) => acc.setIfInBounds (o + j) c) cv) := by
  obtain ⟨h1, h2, h3⟩ := h
  have hfold : vs.zipIdx.foldl (fun acc (c, j) => acc.setIfInBounds (o + j) c) cv = (vs.toList.zipIdx 0).foldl (fun acc (c, j) => acc.setIfInBounds (o + j) c) cv := by
    rw [← Array.foldl_toList]
    simp
  rw [hfold]
  have hsz : ((vs.toList.zipIdx 0).foldl (fun (acc : Array Value) (x : Value × Nat) => acc.setIfInBounds (o + x.2) x.1) cv).size = cv.size := lay_size o _ cv
  refine ⟨by rw [splice_length hle, h1]; exact hsz.symm, fun c hc => (splice_mem hle hc).elim (h2 c) (hi c), fun i c hic => ?_⟩
  have hil : i < cv.size := by have := (List.getElem?_eq_some_iff.1 hic).1; rw [splice_length hle] at this; omega
  have hg := lay_get cv o vs.toList 0 cv i (by simp; omega)
  rw [splice_get hle] at hic
  have hgd : ((vs.toList.zipIdx 0).foldl (fun (acc : Array Value) (x : Value × Nat) => acc.setIfInBounds (o + x.2) x.1) cv).getD i undef = (if o + 0 ≤ i ∧ i < o + 0 + vs.toList.length then vs.toList[i - (o + 0)]? else cv[i]?).getD undef := by
    rw [← hg, Array.getD_eq_getD_getElem?]
  rw [hgd]
  simp only [Nat.add_zero, Array.length_toList, hl]
  split at hic
  · rename_i hh
    rw [if_pos hh]
    have := hr _ c hic
    simpa using this
  · rename_i hh
    rw [if_neg hh]
    have := h3 i c hic
    simpa using this
theorem cellsAV_ok {cs : List Value} {as : List AV} (h : cellsAV cs = some as) : RvC σ w as cs.toArray := by
  unfold cellsAV at h
  split at h
  · rename_i hall
    injection h with h
    subst h
    rw [List.all_eq_true] at hall
    refine ⟨by simp, fun c hc => ?_, fun i c hic => ?_⟩
    · obtain ⟨v, hv, rfl⟩ := List.mem_map.1 hc
      have := hall v hv
      rw [Bool.and_eq_true] at this
      exact ofVal_cell this.2
    · rw [List.getElem?_map] at hic
      obtain ⟨v, hv, rfl⟩ := Option.map_eq_some_iff.1 hic
      have := hall v (List.mem_of_getElem? hv)
      rw [Bool.and_eq_true] at this
      have he : cs.toArray.getD i undef = v := by simp [hv]
      rw [he]
      exact ofVal_ok σ w this.1
  · cases h
theorem tz_spec {t : TypeId} {as : List AV} (h : tz P t = some as) : ∃ i z, P.info? t = some i ∧ i.zero = some z ∧ RvC σ w as z.cells := by
  unfold tz at h
  cases hi : P.info? t with
  | none => simp [hi] at h
  | some i =>
    simp only [hi] at h
    cases hz : i.zero with
    | none => simp [hz] at h
    | some z =>
      simp only [hz] at h
      refine ⟨i, z, rfl, hz, ?_⟩
      have := cellsAV_ok (σ := σ) (w := w) h
      simpa using this
theorem fill_ok (places : List (Nat × Nat)) : ∀ (ps : List (Nat × AV)) (cps : List (Nat × Value)) (as : List AV) (cv : Array Value) (r : List AV), RvC σ w as cv →
    ps.map (·.1) = cps.map (·.1) → (∀ (i : Nat) (p : Nat × AV) (q : Nat × Value), ps[i]? = some p → cps[i]? = some q → Rv σ w p.2 q.2) → afill places as ps = some r → ∃ cr, Instr.fill (places.toArray[·]?) cv cps = some cr ∧ RvC σ w r cr
  | [], [], as, cv, r, h, _, _, hr => by simp only [afill, Option.some.injEq] at hr; subst hr; exact ⟨cv, rfl, h⟩
  | [], q :: cps, as, cv, r, h, hm, _, hr => by simp at hm
  | p :: ps, [], as, cv, r, h, hm, _, hr => by simp at hm
  | (i, v) :: ps, (j, u) :: cps, as, cv, r, h, hm, hv, hr => by
    simp only [List.map_cons, List.cons.injEq] at hm
    obtain ⟨rfl, hm⟩ := hm
    simp only [afill] at hr
    cases hp : places[i]? with
    | none => simp [hp] at hr
    | some pl =>
      obtain ⟨off, size⟩ := pl
      cases hc : avCells v with
      | none => simp [hp, hc] at hr
      | some cs =>
        simp only [hp, hc] at hr
        split at hr
        · rename_i hh
          obtain ⟨h1, h2⟩ := hh
          obtain ⟨g1, g2, g3, _⟩ := avCells_ok (hv 0 _ _ rfl rfl) hc
          obtain ⟨cr, e1, e2⟩ := fill_ok places ps cps _ _ r (h.splice g1 g2 g3 (by omega)) hm (fun k p q hp hq => hv (k + 1) p q hp hq) hr
          refine ⟨cr, ?_, e2⟩
          have hpl : places.toArray[i]? = some (off, size) := by simpa using hp
          simp only [Instr.fill, hpl]
          rw [if_neg (by
            have := h.1
            simp only at g1
            simp; omega)]
          exact e1
        · cases hr
theorem parts_rel {ρ : Operand → AV} {ρc : Operand → Value} {parts : Array (Nat × Operand)} (hρ : ∀ p ∈ parts.toList, Rv σ w (ρ p.2) (ρc p.2)) :
    (parts.toList.map fun p => (p.1, ρ p.2)).map (·.1) = ((parts.map fun (i, x) => (i, ρc x)).toList).map (·.1) ∧
    ∀ (i : Nat) (p : Nat × AV) (q : Nat × Value), (parts.toList.map fun p => (p.1, ρ p.2))[i]? = some p → ((parts.map fun (i, x) => (i, ρc x)).toList)[i]? = some q → Rv σ w p.2 q.2 := by
  constructor
  · simp [Function.comp_def]
  · intro i p q hp hq
    simp only [List.getElem?_map, Array.toList_map] at hp hq
    obtain ⟨x, hx, rfl⟩ := Option.map_eq_some_iff.1 hp
    rw [hx] at hq
    simp only [Option.map_some, Option.some.injEq] at hq
    subst hq
    exact hρ x (List.mem_of_getElem? hx)
theorem build_ok {t : TypeId} {ρ : Operand → AV} {ρc : Operand → Value} {parts : Array (Nat × Operand)} {v : AV} (hρ : ∀ p ∈ parts.toList, Rv σ w (ρ p.2) (ρc p.2))
    (h : abuild (tz P t) (fps P t) (parts.toList.map fun p => (p.1, ρ p.2)) = some v) :
    ∃ cv, (Instr.build t (parts.map fun (i, x) => (i, ρc x))).run P w = .ok cv w ∧ Rv σ w v cv := by
  unfold abuild at h
  cases hz : tz P t with
  | none => simp [hz] at h
  | some z =>
    cases hp : fps P t with
    | none => simp [hz, hp] at h
    | some ps =>
      simp only [hz, hp] at h
      obtain ⟨r, hr, rfl⟩ := Option.map_eq_some_iff.1 h
      obtain ⟨i, zc, hi, hzc, hzr⟩ := tz_spec (σ := σ) (w := w) hz
      obtain ⟨h1, h2⟩ := parts_rel hρ
      obtain ⟨cr, e1, e2⟩ := fill_ok ps _ _ z zc.cells r hzr h1 h2 hr
      refine ⟨.agg cr, run_build w t _ cr ?_, .agg e2.1 e2.2.1 e2.2.2⟩
      unfold fps at hp
      cases hu : P.underlying t with
      | none => simp [hu] at hp
      | some d =>
        cases d <;> simp only [hu] at hp <;> try (cases hp; done)
        simp only [Program.built, hi, hu, hzc, hp]
        exact e1
theorem rows_ok {sz : Nat} : ∀ (ps : List (Nat × AV)) (k : Nat) (rows : List (List AV)), rowsOf sz k ps = some rows →
    rows.length = ps.length ∧ (∀ x ∈ rows, x.length = sz) ∧ ∀ j p, ps[j]? = some p → p.1 = k + j ∧ ∃ cs, avCells p.2 = some cs ∧ rows[j]? = some cs
  | [], k, rows, h => by simp only [rowsOf, Option.some.injEq] at h; subst h; simp
  | (i, v) :: ps, k, rows, h => by
    simp only [rowsOf] at h
    cases hc : avCells v with
    | none => simp [hc] at h
    | some cs =>
      simp only [hc] at h
      split at h
      · rename_i hh
        obtain ⟨rest, hrest, rfl⟩ := Option.map_eq_some_iff.1 h
        obtain ⟨h1, h2, h3⟩ := rows_ok ps (k + 1) rest hrest
        refine ⟨by simp [h1], ?_, fun j p hj => ?_⟩
        · intro x hx
          rcases List.mem_cons.1 hx with rfl | hx
          · exact hh.2
          · exact h2 x hx
        · cases j with
          | zero => simp at hj; subst hj; exact ⟨hh.1, cs, hc, rfl⟩
          | succ j =>
            simp at hj
            obtain ⟨g1, cs', g2, g3⟩ := h3 j p hj
            exact ⟨by omega, cs', g2, by simpa using g3⟩
      · cases h
theorem flatten_length {α : Type} {sz : Nat} : ∀ (xs : List (List α)), (∀ x ∈ xs, x.length = sz) → xs.flatten.length = xs.length * sz
  | [], _ => by simp
  | x :: xs, h => by
    rw [List.flatten_cons, List.length_append, flatten_length xs (fun y hy => h y (by simp [hy])), h x (by simp), List.length_cons, Nat.succ_mul]
    omega
/-- The rows are laid one behind the other. -/
theorem fillRows_ok {sz : Nat} : ∀ (ps : List (Nat × AV)) (cps : List (Nat × Value)) (k : Nat) (rows : List (List AV)) (done : List AV) (cv : Array Value), rowsOf sz k ps = some rows →
    ps.map (·.1) = cps.map (·.1) → (∀ (i : Nat) (p : Nat × AV) (q : Nat × Value), ps[i]? = some p → cps[i]? = some q → Rv σ w p.2 q.2) →
    done.length = k * sz → cv.size = (k + ps.length) * sz → (∀ c ∈ done, c.isCell = true) → (∀ i c, done[i]? = some c → Rv σ w c (cv.getD i undef)) →
    ∃ cr, Instr.fill (fun i => some (i * sz, sz)) cv cps = some cr ∧ cr.size = cv.size ∧ (∀ c ∈ done ++ rows.flatten, c.isCell = true) ∧ ∀ i c, (done ++ rows.flatten)[i]? = some c → Rv σ w c (cr.getD i undef)
  | [], [], k, rows, done, cv, h, _, _, hd, hs, hc, hr => by
    simp only [rowsOf, Option.some.injEq] at h; subst h
    exact ⟨cv, rfl, rfl, by simpa using hc, by simpa using hr⟩
  | [], q :: cps, k, rows, done, cv, h, hm, _, _, _, _, _ => by simp at hm
  | p :: ps, [], k, rows, done, cv, h, hm, _, _, _, _, _ => by simp at hm
  | (i, v) :: ps, (j, u) :: cps, k, rows, done, cv, h, hm, hv, hd, hs, hc, hr => by
    simp only [List.map_cons, List.cons.injEq] at hm
    obtain ⟨rfl, hm⟩ := hm
    simp only [rowsOf] at h
    cases hcs : avCells v with
    | none => simp [hcs] at h
    | some cs =>
      simp only [hcs] at h
      split at h
      · rename_i hh
        obtain ⟨rfl, hsz⟩ := hh
        obtain ⟨rest, hrest, rfl⟩ := Option.map_eq_some_iff.1 h
        obtain ⟨g1, g2, g3, _⟩ := avCells_ok (hv 0 _ _ rfl rfl) hcs
        simp only at g1
        have hsz2 : cv.size = (i + 1 + ps.length) * sz := by rw [hs]; congr 1; simp; omega
        have hroom : i * sz + u.cells.toList.length ≤ cv.size := by
          rw [hsz2, Array.length_toList, g1, hsz, Nat.add_mul, Nat.add_mul]; omega
        have hfold : u.cells.zipIdx.foldl (fun acc (c, j) => acc.setIfInBounds (i * sz + j) c) cv = (u.cells.toList.zipIdx 0).foldl (fun acc (c, j) => acc.setIfInBounds (i * sz + j) c) cv := by
          rw [← Array.foldl_toList]; simp
        have hns : ((u.cells.toList.zipIdx 0).foldl (fun (acc : Array Value) (x : Value × Nat) => acc.setIfInBounds (i * sz + x.2) x.1) cv).size = cv.size := lay_size _ _ cv
        have hget : ∀ j, ((u.cells.toList.zipIdx 0).foldl (fun (acc : Array Value) (x : Value × Nat) => acc.setIfInBounds (i * sz + x.2) x.1) cv).getD j undef = (if i * sz ≤ j ∧ j < i * sz + cs.length then u.cells.toList[j - i * sz]? else cv[j]?).getD undef := by
          intro j
          have hg := lay_get cv (i * sz) u.cells.toList 0 cv j (by simpa using hroom)
          simp only [Nat.add_zero, Array.length_toList, g1] at hg
          rw [← hg, Array.getD_eq_getD_getElem?]
        obtain ⟨cr, e1, e2, e3, e4⟩ := fillRows_ok ps cps (i + 1) rest (done ++ cs) _ hrest hm (fun k p q hp hq => hv (k + 1) p q hp hq) (by rw [List.length_append, hd, hsz, Nat.succ_mul]) (by rw [hns, hsz2])
          (fun c hcm => (List.mem_append.1 hcm).elim (hc c) (g2 c)) (fun j c hj => by
            rw [hget]
            rw [List.getElem?_append] at hj
            split at hj
            · rename_i hlt
              rw [if_neg (by omega)]
              have := hr j c hj
              simpa using this
            · rename_i hge
              have hjl := (List.getElem?_eq_some_iff.1 hj).1
              rw [if_pos ⟨by omega, by omega⟩]
              have := g3 _ c hj
              rw [hd] at this
              simpa using this)
        refine ⟨cr, ?_, e2.trans hns, by simpa [List.append_assoc] using e3, by simpa [List.append_assoc] using e4⟩
        simp only [Instr.fill]
        rw [if_neg (by
          have h3 : (i + 1) * sz ≤ (i + 1 + ps.length) * sz := Nat.mul_le_mul_right _ (by omega)
          rw [Nat.succ_mul] at h3
          simp; omega), hfold]
        exact e1
      · cases h
theorem bslice_ok {t : TypeId} {len : Nat} {ρ : Operand → AV} {ρc : Operand → Value} {parts : Array (Nat × Operand)} {v : AV} (hs : Sim σ w) (hρ : ∀ p ∈ parts.toList, Rv σ w (ρ p.2) (ρc p.2))
    (h : abslice (se P t) ((se P t).bind fun k => tz P k.1).isSome len (parts.toList.map fun p => (p.1, ρ p.2)) = some v) :
    ∃ cv w', (Instr.buildSlice t len (parts.map fun (i, x) => (i, ρc x))).run P w = .ok cv w' ∧ Below w.heap.size w w' ∧ Rv σ w' v cv := by
  unfold abslice at h
  cases hk : se P t with
  | none => simp [hk] at h
  | some k =>
    obtain ⟨e, sz, by_⟩ := k
    obtain ⟨hu, it, hit, hsz, _⟩ := se_spec hk
    simp only [hk, Option.bind_some] at h
    split at h
    · rename_i hh
      obtain ⟨hz, hln, hle, hlen⟩ := hh
      obtain ⟨z, hz⟩ := Option.isSome_iff_exists.1 hz
      obtain ⟨i, zc, hi, hzc, hzr⟩ := tz_spec (σ := σ) (w := w) hz
      rw [hit] at hi
      injection hi with hi
      subst hi
      obtain ⟨rows, hrows, rfl⟩ := Option.map_eq_some_iff.1 h
      obtain ⟨h1, h2⟩ := parts_rel hρ
      obtain ⟨r1, r2, r3⟩ := rows_ok _ 0 rows hrows
      have hzrun : (if len * sz = 0 then pure #[] else do pure (← zeroValue e).cells : Sem (Array Value)).run P w = .ok (if len * sz = 0 then #[] else zc.cells) w := by
        split <;> simp [zeroValue, typeInfo, hit, hzc]
      generalize hzz : (if len * sz = 0 then #[] else zc.cells : Array Value) = zz at hzrun
      obtain ⟨cr, e1, e2, e3, e4⟩ := fillRows_ok (σ := σ) (w := w) _ _ 0 rows [] ((Array.range (len * sz)).map (zz[· % zz.size]!)) hrows h1 h2 (by simp) (by rw [Array.size_map, Array.size_range, Nat.zero_add, hlen]) (by simp) (by simp)
      simp only [List.nil_append] at e3 e4
      have hrl : rows.length = len := by rw [r1, hlen]
      refine ⟨.slice (some ⟨w.heap.size, 0, none⟩) len len, w.alloc (.cells cr e), ?_, (Below.refl _ _).alloc (Nat.le_refl _) _, ?_⟩
      · have hnle : ¬ len * sz > 2 ^ 24 := by omega
        by_cases hz0 : len * sz = 0
        · rw [if_pos hz0] at hzz
          subst hzz
          simp only [Instr.buildSlice, Sem.run_bind, run_underlying hu, Result.andThen_ok, sizeOf, typeInfo, program, Sem.run, hit, Sem.run_pure, hsz, hnle, if_false, hz0, if_true] at e1 ⊢
          rw [if_neg (by omega)]
          simp only [Sem.run_bind, Sem.run_pure, Result.andThen_ok, e1, newRow, newObj, Sem.run_bind, Sem.run, Sem.run_pure, Result.andThen_ok]
          rfl
        · rw [if_neg hz0] at hzz
          subst hzz
          simp only [Instr.buildSlice, Sem.run_bind, run_underlying hu, Result.andThen_ok, sizeOf, typeInfo, program, Sem.run, hit, Sem.run_pure, hsz, hnle, if_false, hz0, zeroValue, hzc]
          simp only [e1, newRow, newObj, Sem.run_bind, Sem.run, Sem.run_pure, Result.andThen_ok]
          rfl
      · have hs2 : Step σ w σ (w.alloc (.cells cr e)) := Step.of_below ((Below.refl _ _).alloc (Nat.le_refl _) _)
        cases hr : rows with
        | nil =>
          rw [hr] at hrl
          simp only [List.length_nil] at hrl
          subst hrl
          exact .slE (fun _ => rfl)
        | cons x xs =>
          rw [← hr]
          have hcrs : cr.size = len * sz := by rw [e2]; simp
          refine .slC (sz := sz) (f := fun i => cr.getD i undef) (by simp [hr]) hrl.symm (by omega) (Nat.le_refl _) r2 (fun _ => rfl) hs.fresh (by simp) e3 (fun i c hic => ?_) (fun i c hic => (e4 i c hic).step hs2)
          rw [Nat.zero_add, cell_of_row _ _ i cr e (0, 0) (heap_alloc_new w _)]
          have : i < cr.size := by
            have := (List.getElem?_eq_some_iff.1 hic).1
            rw [flatten_length rows r2, hrl] at this
            omega
          simp [this]
    · cases h
end
end Go.Proofs.Shadow

