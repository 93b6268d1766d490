/- Short words for printed walks: facts in bundles, steps whose side conditions Lean settles itself. -/
import Derived.Test.YtilkeeoinbndoaaGy
set_option linter.unusedVariables false
set_option linter.unusedSimpArgs false
namespace Go.Proofs.Shadow
open Go Go.RowKit
/-- What the variables hold, told one by one. -/
@[reducible] def AtAll (σ : Sto) : List (Nat × Ent) → Prop
  | [] => 0 + 0 = 0
  | p :: l => σ.var p.1 = some p.2 ∧ AtAll σ l
@[reducible] def OwnAll : List OwnR → Prop
  | [] => 0 + 0 = 0
  | m :: l => avCells m.v = some [m.v] ∧ alenT false m.v = some (.int .i64 (m.rows.length : Int)) ∧ OwnAll l
section
variable {P : Program} {E : Nat → Prop} {τ0 τ σ : Sto} {es bs : List (Nat × Ent)} {ms : List OwnR}
theorem atAll : ∀ {l : List (Nat × Ent)}, (∀ p ∈ l, σ.var p.1 = some p.2) → AtAll σ l
  | [], _ => rfl
  | p :: l, h => ⟨h p (List.mem_cons_self ..), atAll fun q hq => h q (List.mem_cons_of_mem _ hq)⟩
theorem ownAll : ∀ {l : List OwnR}, (∀ m ∈ l, Mine τ σ m.e m.sz m.v m.rows) → OwnAll l
  | [], _ => rfl
  | m :: l, h => by
    refine ⟨avCells_cell (Mine.cell (h m (List.mem_cons_self ..))), ?_, ownAll fun q hq => h q (List.mem_cons_of_mem _ hq)⟩
    have hm := h m (List.mem_cons_self ..)
    refine alenT_of hm.len (Mine.cell hm) ?_
    intro s hs
    rcases hm.1.2 with ⟨h1, _⟩ | h1 | ⟨b, cap, h1, _⟩ <;> (rw [h1] at hs; cases hs)
theorem Fx.f (h : Fx τ σ bs ms) : AtAll σ bs := atAll fun p hp => (h.var p hp).1
theorem Fx.m (h : Fx τ σ bs ms) : OwnAll ms := ownAll h.own
theorem Fx.x (h : Fx τ σ bs ms) (hX : Tau τ0 es τ) : AtAll σ es := atAll fun p hp => h.sub.var _ _ (hX.at' p hp)
theorem dum : 0 + 0 = 0 := rfl
/-! The walk's simp step, under the names q (guards), tT (temporaries), hF, hX; f1, f2 ..: operations that went well. -/
theorem go {p q' : Prop} (h : q') (e : p = q' := by
  (try simp only [go_sem, ↓reduceIte, Nat.reduceEqDiff, Nat.reduceAdd, Nat.reduceMul, Nat.reduceLeDiff, Nat.reduceLT, Int.reduceEq, Int.toNat_natCast, q, tT, hF.f, hF.m, hF.x hX]) <;> exact rfl) : p := e ▸ h
theorem go1 {p q' : Prop} (h : q') (e : p = q' := by
  (try simp only [go_sem, ↓reduceIte, Nat.reduceEqDiff, Nat.reduceAdd, Nat.reduceMul, Nat.reduceLeDiff, Nat.reduceLT, Int.reduceEq, Int.toNat_natCast, q, tT, hF.f, hF.m, hF.x hX, f1]) <;> exact rfl) : p := e ▸ h
theorem go2 {p q' : Prop} (h : q') (e : p = q' := by
  (try simp only [go_sem, ↓reduceIte, Nat.reduceEqDiff, Nat.reduceAdd, Nat.reduceMul, Nat.reduceLeDiff, Nat.reduceLT, Int.reduceEq, Int.toNat_natCast, q, tT, hF.f, hF.m, hF.x hX, f1, f2]) <;> exact rfl) : p := e ▸ h
/-- A function's walk begins. -/
theorem hdg {P : Program} {f : FuncId} {fn : Func} {c : Code} {args : List AV} {σ : Sto} {Q : AV → Sto → Prop} (hm : P.follows .mixedOrders = true) (hf : P.funcs[f]? = some fn) {rs : List ResultVar} (h : 0 + 0 = 0 → 0 + 0 = 0 → acode P c (aEnd P rs Q) ⟨T0 args, σ⟩)
    (hb : fn.body = some c := by rfl) (hname : (fn.name == "runtime.NumGoroutine") = false := by kernel_rfl) (hrs : fn.results.toList = rs := by rfl) (hok : (codeOk P fn.ntmps c && decide (args.length ≤ fn.ntmps)) = true := by kernel_rfl) : Ctr P f args σ Q :=
  ctr_of hm hf hb hname hrs hok (h rfl rfl)
/-- A call's answer and its contract. -/
theorem bp {α β : Type} {o : Option α} {k : α → Option β} {r : β} {A : α → Prop} {G : Prop} (H : (o >>= k) = some r) (g : ∀ x, o = some x → A x) (K : ∀ x, A x → k x = some r → G) : G := by
  obtain ⟨x, hx, h⟩ := bnd H
  exact K x (g x hx) h
/-- .. with nothing changed yet. -/
theorem hdh {P : Program} {f : FuncId} {fn : Func} {c : Code} {args : List AV} {σ : Sto} {Q : AV → Sto → Prop} (hm : P.follows .mixedOrders = true) (hf : P.funcs[f]? = some fn) {rs : List ResultVar} (h : 0 + 0 = 0 → 0 + 0 = 0 → Fx σ σ [] [] → Tau σ [] σ → acode P c (aEnd P rs Q) ⟨T0 args, σ⟩)
    (hb : fn.body = some c := by rfl) (hname : (fn.name == "runtime.NumGoroutine") = false := by kernel_rfl) (hrs : fn.results.toList = rs := by rfl) (hok : (codeOk P fn.ntmps c && decide (args.length ≤ fn.ntmps)) = true := by kernel_rfl) : Ctr P f args σ Q :=
  ctr_of hm hf hb hname hrs hok (h rfl rfl (Fx.refl _) (Tau.none _))
/-- A loop's round begins. -/
theorem lpx {P : Program} {o : Option Code} {c c0 : Code} {Q : AX → AS → Prop} {s : AS} (τ : Sto) (hc : o = some c) (h : o = some c0) (k : 0 + 0 = 0 → Tau τ [] τ → acode P c0 (thn (aLp P c0 Q) (wkQ P Q)) s) : aLp P c Q s := by
  obtain rfl := lpe h hc
  exact aLoop_round (k rfl (Tau.none τ))
theorem lpy {P : Program} {o : Option Code} {c c0 : Code} {Q : AX → AS → Prop} {s : AS} (hc : o = some c) (h : o = some c0) (k : 0 + 0 = 0 → acode P c0 (thn (aLp P c0 Q) (wkQ P Q)) s) : aLp P c Q s := by
  obtain rfl := lpe h hc
  exact aLoop_round (k rfl)
abbrev TT := Nat → AV
abbrev QT := AX → AS → Prop
theorem nm1 {a b : Nat} (h : a ≠ b) : a ∉ [b] := fun hh => h (List.mem_singleton.1 hh)
theorem nm2 {a b c : Nat} (h : a ≠ b ∧ a ≠ c) : a ∉ [b, c] := by simp only [List.mem_cons, List.not_mem_nil, or_false, not_or]; exact h
theorem nm3 {a b c d : Nat} (h : a ≠ b ∧ a ≠ c ∧ a ≠ d) : a ∉ [b, c, d] := by simp only [List.mem_cons, List.not_mem_nil, or_false, not_or]; exact h
theorem nm4 {a b c d e : Nat} (h : a ≠ b ∧ a ≠ c ∧ a ≠ d ∧ a ≠ e) : a ∉ [b, c, d, e] := by simp only [List.mem_cons, List.not_mem_nil, or_false, not_or]; exact h
/-- The same, but for abbreviations. -/
theorem hsq {p q : Prop} (h : p) (e : p = q := by
  first | rfl | (simp only [sf, i6, zB, Fm.cells_eq, Xpn.cells_eq, Cor.cells_eq, Bnd.cells_eq, Hit.cells_eq, Rul.cells_eq, Mac.cells_eq, Stp.cells_eq, Val.cells_eq, Slt.cells_eq]) <;> rfl) : q := e ▸ h
/-- What the simp step settles. -/
theorem S {p : Prop} (h : p := by
  (repeat' refine And.intro ?_ ?_) <;> first | (simp only [go_sem, ↓reduceIte, Nat.reduceEqDiff, Nat.reduceAdd, Nat.reduceMul, Nat.reduceLeDiff, Nat.reduceLT, Int.reduceEq, Int.toNat_natCast, q, tT, hF.f, hF.m, hF.x hX]; done) | rfl | (simp only [go_sem, ↓reduceIte, Nat.reduceEqDiff, Nat.reduceAdd, Nat.reduceMul, Nat.reduceLeDiff, Nat.reduceLT, Int.reduceEq, Int.toNat_natCast, q, tT, hF.f, hF.m, hF.x hX]; rfl)) : p := h
/-! ### Operations that may fail -/
section
variable {α β : Type} {g : α → List AV} {sz : Nat} {r : β}
theorem bil (hs : ∀ x, (g x).length = sz) {l : List α} {i : Int} {k : α → Option β} (H : (idx l i >>= k) = some r) :
    ∃ x, (∀ (σ : Sto) (c : Bool) (kk : IntKind) (e : TypeId) (by_ : Nat), aidx σ (some (e, sz, by_)) (.sl c (rws g l)) (.int kk i) = some (.ept (g x))) ∧ k x = some r := by
  obtain ⟨x, h, H⟩ := bnd H
  exact ⟨x, fun _ _ _ _ _ => aidx_idx hs h, H⟩
theorem bsx {s : ByteArray} {i : Int} {k : Int → Option β} (H : (sidx s i >>= k) = some r) : ∃ x, (∀ kk : IntKind, aindex true (.str s) (.int kk i) = some (.int .u8 x)) ∧ k x = some r := by
  obtain ⟨x, h, H⟩ := bnd H
  exact ⟨x, fun _ => aindex_sidx h, H⟩
theorem bsc {x y : ByteArray} {k : ByteArray → Option β} (H : (scat x y >>= k) = some r) : ∃ z, abinS .add x y = some (.str z) ∧ k z = some r := by
  obtain ⟨z, h, H⟩ := bnd H
  exact ⟨z, abinS_scat h, H⟩
end
/-! ### Ways -/
section
variable {β : Type} {c : AV} {r : β} {x y : Code} {Q : AX → AS → Prop} {s : AS} {p : Prop} {inst : Decidable p} {a b : Option β}
theorem cdp (H : @ite _ p inst a b = some r) (h1 : p → a = some r → acode P x Q s) (h2 : ¬ p → b = some r → acode P y Q s) (hc : c = .bool (decide p) := by rfl) : aCnd P c x y Q s :=
  aCnd_p p hc (fun h => h1 h (by rw [if_pos h] at H; exact H)) (fun h => h2 h (by rw [if_neg h] at H; exact H))
theorem cdn (H : @ite _ p inst a b = some r) (h1 : ¬ p → b = some r → acode P x Q s) (h2 : p → a = some r → acode P y Q s) (hc : c = .bool (!decide p) := by rfl) : aCnd P c x y Q s :=
  aCnd_n p hc (fun h => h1 h (by rw [if_neg h] at H; exact H)) (fun h => h2 h (by rw [if_pos h] at H; exact H))
theorem cdb {t : Bool} (H : (if t = true then a else b) = some r) (h1 : t = true → a = some r → acode P x Q s) (h2 : ¬ t = true → b = some r → acode P y Q s) (hc : c = .bool t := by rfl) : aCnd P c x y Q s :=
  aCnd_b t hc (fun h => h1 h (by rw [if_pos h] at H; exact H)) (fun h => h2 h (by rw [if_neg h] at H; exact H))
end
theorem gi {Z : Prop} (q : Z) {t : Bool} {o : Oper} {s : AS} {K : AS → Prop} (h1 : t = true ∧ Z → aop P o s K) (h2 : t = false ∧ Z → K (s.put o.dst skipped)) : aGd P (some t) o s K := aGd_intro (fun h => h1 ⟨h, q⟩) (fun h => h2 ⟨h, q⟩)
theorem giN {Z : Prop} (q : Z) {t : Bool} {o : Oper} {s : AS} {K : AS → Prop} (h1 : t = false ∧ Z → aop P o s K) (h2 : t = true ∧ Z → K (s.put o.dst skipped)) : aGd P (some (!t)) o s K := aGd_introN (fun h => h1 ⟨h, q⟩) (fun h => h2 ⟨h, q⟩)
theorem ti {Z : Prop} (q : Z) {t : Bool} {c : Cl} {o : Oper} {s : AS} {K : AS → Prop} (h1 : t = true ∧ Z → tGd P E (some true) c o s K) (h2 : t = false ∧ Z → K (s.put o.dst skipped)) : tGd P E (some t) c o s K := tGd_intro (fun h => h1 ⟨h, q⟩) (fun h => h2 ⟨h, q⟩)
theorem tiN {Z : Prop} (q : Z) {t : Bool} {c : Cl} {o : Oper} {s : AS} {K : AS → Prop} (h1 : t = false ∧ Z → tGd P E (some true) c o s K) (h2 : t = true ∧ Z → K (s.put o.dst skipped)) : tGd P E (some (!t)) c o s K := tGd_introN (fun h => h1 ⟨h, q⟩) (fun h => h2 ⟨h, q⟩)
theorem dt {p : Prop} [Decidable p] {Z : Prop} (h : decide p = true ∧ Z) : p := of_decide_eq_true h.1
theorem df {p : Prop} [Decidable p] {Z : Prop} (h : decide p = false ∧ Z) : ¬ p := of_decide_eq_false h.1
theorem dbt {b : Bool} {Z : Prop} (h : b = true ∧ Z) : b = true := h.1
theorem dbf {b : Bool} {Z : Prop} (h : b = false ∧ Z) : ¬ b = true := b_f h.1
/-- A guarded group is through. -/
theorem cutd {T T' : Nat → AV} {d : Nat} (lo : Nat) {y x : Bool} (H : (pure y : Option Bool) = some x) (hd : T' d = .bool y := by
    first | rfl | (refine congrArg AV.bool ?_; simp only [q, decide_true, decide_false, Bool.true_and, Bool.and_true, Bool.false_and, Bool.and_false, Bool.or_true, Bool.true_or, Bool.false_or, Bool.or_false, Bool.not_true, Bool.not_false]; done) | (simp only [go_sem, ↓reduceIte, Nat.reduceEqDiff, Nat.reduceAdd, Nat.reduceMul, Nat.reduceLeDiff, Nat.reduceLT, Int.reduceEq, Int.toNat_natCast, q]; done) | (simp only [go_sem, ↓reduceIte, Nat.reduceEqDiff, Nat.reduceAdd, Nat.reduceMul, Nat.reduceLeDiff, Nat.reduceLT, Int.reduceEq, Int.toNat_natCast, q]; simp_all [upd_app]) | simp_all [upd_app])
    (h : ∀ i, i < lo → i ≠ d → T' i = T i := by (repeat (first | refine agree_upd (by decide) ?_ | refine agree_low (by decide) ?_)) <;> (repeat (first | refine agree_updR (by decide) ?_ | refine agree_lowR (by decide) ?_)) <;> exact fun _ _ _ => rfl) :
    ∃ J, (⟨T', σ⟩ : AS) = ⟨upd (low lo J T) d (.bool x), σ⟩ := by
  obtain rfl := pur H
  exact cut_done lo hd h
/-! ### Stores -/
section
variable {b o k n : Nat} {ty : TypeId} {ag : Bool} {cells cs cells' : List AV} {v : AV} {T : Nat → AV} {K : AS → Prop}
theorem st (hF : Fx τ σ bs ms) (i : Nat) {bs' : List (Nat × Ent)} (hc : avCells v = some cs) (h : ∀ σ', Fx τ σ' bs' ms → K ⟨T, σ'⟩) (hi : bs[i]? = some (b, ⟨ty, n, cells⟩) := by rfl) (hl : cs.length = k := by rfl)
    (hle : o + k ≤ cells.length := by (simp only [List.length_cons, List.length_nil]; decide)) (hs : splice cells o cs = cells' := by (simp only [splice_eq, List.take_succ_cons, List.take_zero, List.drop_succ_cons, List.drop_zero, List.length_cons, List.length_nil, Nat.reduceAdd, Nat.zero_add, List.cons_append, List.nil_append, List.append_nil, List.drop_nil]) <;> exact rfl)
    (hb : bs.set i (b, ⟨ty, n, cells'⟩) = bs' := by (simp only [List.set_cons_succ, List.set_cons_zero]) <;> exact rfl) : aStore (astore (some (ag, k)) σ (.ptr b o) v) ⟨T, σ⟩ none K := by
  subst hb
  exact fx_store hF i hi hc hl hle hs h
theorem stT (hF : Fx τ σ bs ms) (hX : Tau τ0 es τ) (i : Nat) {es' : List (Nat × Ent)} (hc : avCells v = some cs) (h : ∀ τ' σ', Fx τ' σ' bs ms → Tau τ0 es' τ' → K ⟨T, σ'⟩) (hi : es[i]? = some (b, ⟨ty, n, cells⟩) := by rfl) (hl : cs.length = k := by rfl)
    (hle : o + k ≤ cells.length := by (simp only [List.length_cons, List.length_nil]; decide)) (hs : splice cells o cs = cells' := by (simp only [splice_eq, List.take_succ_cons, List.take_zero, List.drop_succ_cons, List.drop_zero, List.length_cons, List.length_nil, Nat.reduceAdd, Nat.zero_add, List.cons_append, List.nil_append, List.append_nil, List.drop_nil]) <;> exact rfl)
    (hb : es.set i (b, ⟨ty, n, cells'⟩) = es' := by (simp only [List.set_cons_succ, List.set_cons_zero]) <;> exact rfl) : aStore (astore (some (ag, k)) σ (.ptr b o) v) ⟨T, σ⟩ none K := by
  subst hb
  exact fx_storeT hF hX i hi hc hl hle hs h
end
/-- Rows that are told. -/
theorem rdo {c : Bool} {sz : Nat} {α : Type} {g : α → List AV} {ys : List α} {y : AV} (hs : ∀ x, (g x).length = sz) (h : y = .sl c (rws g ys) := by first | rfl | (simp only [rws_cons, rws_nil, cI, cU, cS, cL, cB, Fm.cells_eq, Stp.cells_eq, Cor.cells_eq, Bnd.cells_eq, Hit.cells_eq, Rul.cells_eq, Mac.cells_eq, Xpn.cells_eq, Val.cells_eq, Slt.cells_eq]; done) | simp only [rws_cons, rws_nil, cI, cU, cS, cL, cB, Fm.cells_eq, Stp.cells_eq, Cor.cells_eq, Bnd.cells_eq, Hit.cells_eq, Rul.cells_eq, Mac.cells_eq, Xpn.cells_eq, Val.cells_eq, Slt.cells_eq, Fm.kind, Fm.name, Fm.num, Fm.sc, Fm.kids, Hit.name, Hit.depth, Hit.one, Hit.many, Cor.kind, Cor.id, Cor.name, Cor.num, Cor.ids, Cor.data, Cor.kids, Val.kind, Val.num, Val.name, Val.items, Val.fn, Val.env, Slt.id, Slt.val]) : RdL σ sz y (rws g ys) := RdL.of hs h
section
variable {α β : Type} {g : α → List AV} {xs ys : List α} {r : β} {v y : AV} {e : TypeId} {sz by_ : Nat} {T : Nat → AV} {d : Tmp} {K : AS → Prop} {kk : List α → Option β}
theorem apdK (hF : Fx τ σ bs ms) (j : Nat) (H : (lcat by_ xs ys >>= kk) = some r) (hy : RdL σ sz y (rws g ys)) {ms' : List α → AV → List OwnR} (h : ∀ z, kk z = some r → ∀ v' σ', Fx τ σ' bs (ms' z v') → K ⟨upd T d v', σ'⟩) (hj : ms[j]? = some ⟨v, e, sz, rws g xs⟩ := by rfl)
    (hsz : 0 < sz := by decide) (hby : 0 < by_ := by decide) (hm : ∀ z v', ms.set j ⟨v', e, sz, rws g z⟩ = ms' z v' := by intro _ _; (simp only [List.set_cons_succ, List.set_cons_zero]) <;> exact rfl) : aAppend (some (e, sz, by_)) v y ⟨T, σ⟩ (some d) (kp E σ K) := by
  obtain ⟨z, hz, H⟩ := bnd H
  exact fx_appK hF j hj hsz hby hy hz fun v' σ' hF => h z H v' σ' (hm z v' ▸ hF)
end
/-! ### Calls -/
theorem pre (nL nX nM : Nat) (hF : Fx τ σ bs ms) (hX : Tau τ0 es τ) : Pre σ (bs.take nL ++ es.take nX) (ms.take nM) :=
  Fx.pre (bsr := bs.drop nL) (xsr := es.drop nX) (msr := ms.drop nM) (by rw [List.take_append_drop, List.take_append_drop]; exact hF) (by rw [List.take_append_drop]; exact hX)
theorem aft (nL nX nM : Nat) {es' bn bs1 es1 : List (Nat × Ent)} {ms' ms1 : List OwnR} {τ' σ' : Sto} (hF : Fx τ σ bs ms) (hX : Tau τ0 es τ) (hT : Tau (strip σ (ms.take nM)) es' τ') (hG : Fx τ' σ' bn ms') (k1 : (es'.take nL).map (·.1) = (bs.take nL).map (·.1) := by rfl) (k2 : (es'.drop nL).map (·.1) = (es.take nX).map (·.1) := by rfl)
    (e1 : bn ++ (es'.take nL ++ bs.drop nL) = bs1 := by (try simp only [List.take_succ_cons, List.take_zero, List.drop_succ_cons, List.drop_zero, List.cons_append, List.nil_append, List.append_nil]) <;> exact rfl)
    (e2 : es'.drop nL ++ es.drop nX = es1 := by (try simp only [List.take_succ_cons, List.take_zero, List.drop_succ_cons, List.drop_zero, List.cons_append, List.nil_append, List.append_nil]) <;> exact rfl)
    (e3 : ms' ++ ms.drop nM = ms1 := by (try simp only [List.take_succ_cons, List.take_zero, List.drop_succ_cons, List.drop_zero, List.cons_append, List.nil_append, List.append_nil]) <;> exact rfl) : ∃ τ2, Tau τ0 es1 τ2 ∧ Fx τ2 σ' bs1 ms1 := by
  subst e1 e2 e3
  exact Fx.after (esL := bs.take nL) (bsr := bs.drop nL) (esX := es.take nX) (xsr := es.drop nX) (ms0 := ms.take nM) (msr := ms.drop nM) (esL' := es'.take nL) (esX' := es'.drop nL) (by rw [List.take_append_drop, List.take_append_drop]; exact hF) (by rw [List.take_append_drop]; exact hX) (by rw [List.take_append_drop]; exact hT) hG k1 k2
/-- .. of a function that is handed no variables of its caller's. -/
theorem aftP (nL nM : Nat) {es' bn bs1 : List (Nat × Ent)} {ms' ms1 : List OwnR} {τ' σ' : Sto} (hF : Fx τ σ bs ms) (hX : Tau τ [] τ) (hT : Tau (strip σ (ms.take nM)) es' τ') (hG : Fx τ' σ' bn ms') (k1 : (es'.take nL).map (·.1) = (bs.take nL).map (·.1) := by rfl) (k2 : (es'.drop nL).map (·.1) = [] := by rfl)
    (e1 : bn ++ (es'.take nL ++ bs.drop nL) = bs1 := by (try simp only [List.take_succ_cons, List.take_zero, List.drop_succ_cons, List.drop_zero, List.cons_append, List.nil_append, List.append_nil]) <;> exact rfl)
    (e3 : ms' ++ ms.drop nM = ms1 := by (try simp only [List.take_succ_cons, List.take_zero, List.drop_succ_cons, List.drop_zero, List.cons_append, List.nil_append, List.append_nil]) <;> exact rfl) : Fx τ σ' bs1 ms1 := by
  have e0 : es'.drop nL = [] := List.map_eq_nil_iff.1 k2
  obtain ⟨τ2, h1, h2⟩ := aft (es1 := []) nL 0 nM hF hX hT hG k1 k2 e1 (by rw [e0]; rfl) e3
  rw [h1.eq] at h2
  exact h2
theorem Cor.kids_mk (k i : Int) (s : ByteArray) (n : Int) (l : List Int) (d : Fm) (ks : List Cor) : (Cor.mk k i s n l d ks).kids = ks := rfl
section
variable {f : FuncId} {args as caps : List AV} {v : AV} {T : Nat → AV} {dst : Option Tmp} {K : AS → Prop}
theorem cl (h : PCtr P f as v) (hK : K (AS.put ⟨T, σ⟩ dst v)) (hw : WkVL args as := by
    first | exact WkVL.refl _ | ((try simp only [sf, i6, zB, Fm.cells_eq, Stp.cells_eq, Cor.cells_eq, Bnd.cells_eq, Hit.cells_eq, Rul.cells_eq, Mac.cells_eq, Xpn.cells_eq, Val.cells_eq, Slt.cells_eq, Rdr.cells_eq]) <;> repeat' first | exact WkVL.refl _ | refine WkVL.cons ?_ ?_ ?_ | exact WkV.refl _ | exact WkV.nilsl | exact WkV.slT _ | assumption | (simp only [sf, rws_cons, rws_nil, Cor.kids_mk, cI, cU, cS, cL, cB, Fm.cells_eq, Stp.cells_eq, Cor.cells_eq, Bnd.cells_eq, Hit.cells_eq, Rul.cells_eq]; exact WkV.slT _) | (simp only [sf, rws_cons, rws_nil, Cor.kids_mk, cI, cU, cS, cL, cB, Fm.cells_eq, Stp.cells_eq, Cor.cells_eq, Bnd.cells_eq, Hit.cells_eq, Rul.cells_eq]; refine WkV.rows ?_) | refine WkV.rows ?_ | exact WkR.nil | refine WkR.cons ?_ ?_ | refine WkV.agg ?_ | exact fun h => h | exact fun _ => rfl)) : aCall P (.fn f []) args ⟨T, σ⟩ dst K := aCall_pure h hw hK
theorem cv {s : AS} (h : PCtr P f as v) (hK : K (s.put dst v)) (hw : WkVL args as := by
    first | exact WkVL.refl _ | ((try simp only [sf, i6, zB, Fm.cells_eq, Stp.cells_eq, Cor.cells_eq, Bnd.cells_eq, Hit.cells_eq, Rul.cells_eq, Mac.cells_eq, Xpn.cells_eq, Val.cells_eq, Slt.cells_eq, Rdr.cells_eq]) <;> repeat' first | exact WkVL.refl _ | refine WkVL.cons ?_ ?_ ?_ | exact WkV.refl _ | exact WkV.nilsl | exact WkV.slT _ | assumption | (simp only [sf, rws_cons, rws_nil, Cor.kids_mk, cI, cU, cS, cL, cB, Fm.cells_eq, Stp.cells_eq, Cor.cells_eq, Bnd.cells_eq, Hit.cells_eq, Rul.cells_eq]; exact WkV.slT _) | (simp only [sf, rws_cons, rws_nil, Cor.kids_mk, cI, cU, cS, cL, cB, Fm.cells_eq, Stp.cells_eq, Cor.cells_eq, Bnd.cells_eq, Hit.cells_eq, Rul.cells_eq]; refine WkV.rows ?_) | refine WkV.rows ?_ | exact WkR.nil | refine WkR.cons ?_ ?_ | refine WkV.agg ?_ | exact fun h => h | exact fun _ => rfl)) : vCall P (.fn f []) args s dst K := vCall_pure h hw hK
theorem cx {Q : AV → Sto → Prop} (h : Ctr P f as σ Q) (hK : ∀ r σ', Q r σ' → K (AS.put ⟨T, σ'⟩ dst r)) (hw : WkVL (args ++ caps) as := by
    first | exact WkVL.refl _ | ((try simp only [sf, i6, zB, List.cons_append, List.nil_append, Fm.cells_eq, Stp.cells_eq, Cor.cells_eq, Bnd.cells_eq, Hit.cells_eq, Rul.cells_eq, Mac.cells_eq, Xpn.cells_eq, Val.cells_eq, Slt.cells_eq, Rdr.cells_eq]) <;> repeat' first | exact WkVL.refl _ | refine WkVL.cons ?_ ?_ ?_ | exact WkV.refl _ | exact WkV.nilsl | exact WkV.slT _ | assumption | (simp only [sf, rws_cons, rws_nil, Cor.kids_mk, cI, cU, cS, cL, cB, Fm.cells_eq, Stp.cells_eq, Cor.cells_eq, Bnd.cells_eq, Hit.cells_eq, Rul.cells_eq]; exact WkV.slT _) | (simp only [sf, rws_cons, rws_nil, Cor.kids_mk, cI, cU, cS, cL, cB, Fm.cells_eq, Stp.cells_eq, Cor.cells_eq, Bnd.cells_eq, Hit.cells_eq, Rul.cells_eq]; refine WkV.rows ?_) | refine WkV.rows ?_ | exact WkR.nil | refine WkR.cons ?_ ?_ | refine WkV.agg ?_ | exact fun h => h | exact fun _ => rfl)) : aCall P (.fn f caps) args ⟨T, σ⟩ dst K := aCall_ctr h hw hK
end
/-! ### Ends -/
section
variable {rs : List ResultVar} {T : Nat → AV} {v : AV}
theorem rt (vs : List AV) (h : aresL P ⟨T, σ⟩ rs = some vs := by
    first | (simp only [go_sem, ↓reduceIte, Nat.reduceEqDiff, Nat.reduceAdd, Nat.reduceMul, Nat.reduceLeDiff, Nat.reduceLT, Int.reduceEq, Int.toNat_natCast, q, tT, hF.f, hF.m, hF.x hX]; done) | rfl | (simp only [go_sem, ↓reduceIte, Nat.reduceEqDiff, Nat.reduceAdd, Nat.reduceMul, Nat.reduceLeDiff, Nat.reduceLT, Int.reduceEq, Int.toNat_natCast, q, tT, hF.f, hF.m, hF.x hX]; rfl))
    (hw : Wk σ (packed vs) τ v := by (try simp only [Fm.cells_eq, Stp.cells_eq, Cor.cells_eq, Bnd.cells_eq, Hit.cells_eq, Rul.cells_eq, Mac.cells_eq, Xpn.cells_eq, Val.cells_eq, Slt.cells_eq, Rdr.cells_eq]) <;> repeat' first | exact hF.wk0 _ | exact WkL.nil | refine Wk.tup hF.sub ?_ | refine WkL.cons ?_ ?_ ?_ | refine Wk.agg hF.sub ?_ | exact Wk.val2 .nilsl hF.sub | exact Wk.val2 (.slT _) hF.sub | exact hF.wk 0 rfl | exact hF.wk 1 rfl | exact hF.wk 2 rfl | exact hF.wk 3 rfl | exact hF.wk 4 rfl | exact hF.wk 5 rfl | exact fun h => h | exact fun _ => rfl | (simp only [sf, rws_cons, rws_nil, cI, cU, cS, cL, cB]; exact Wk.val2 (.slT _) hF.sub)) : aRet P rs (fun r σ' => r = v ∧ σ' = τ) ⟨T, σ⟩ := fx_ret h hw
theorem rg {Q : AV → Sto → Prop} {r : AV} {σ' : Sto} (vs : List AV) (hq : Q r σ') (h : aresL P ⟨T, σ⟩ rs = some vs := by
    first | (simp only [go_sem, ↓reduceIte, Nat.reduceEqDiff, Nat.reduceAdd, Nat.reduceMul, Nat.reduceLeDiff, Nat.reduceLT, Int.reduceEq, Int.toNat_natCast, q, tT, hF.f, hF.m, hF.x hX]; done) | rfl | (simp only [go_sem, ↓reduceIte, Nat.reduceEqDiff, Nat.reduceAdd, Nat.reduceMul, Nat.reduceLeDiff, Nat.reduceLT, Int.reduceEq, Int.toNat_natCast, q, tT, hF.f, hF.m, hF.x hX]; rfl))
    (hw : Wk σ (packed vs) σ' r := by (try simp only [Fm.cells_eq, Stp.cells_eq, Cor.cells_eq, Bnd.cells_eq, Hit.cells_eq, Rul.cells_eq, Mac.cells_eq, Xpn.cells_eq, Val.cells_eq, Slt.cells_eq, Rdr.cells_eq]) <;> repeat' first | exact Wk.refl _ _ | exact hF.wk0 _ | exact WkL.nil | refine Wk.tup (Sub.refl _) ?_ | refine Wk.tup hF.sub ?_ | refine WkL.cons ?_ ?_ ?_ | refine Wk.agg (Sub.refl _) ?_ | refine Wk.agg hF.sub ?_ | exact Wk.val .nilsl | exact Wk.val (.slT _) | exact Wk.val2 .nilsl hF.sub | exact Wk.val2 (.slT _) hF.sub | exact hF.wk 0 rfl | exact hF.wk 1 rfl | exact hF.wk 2 rfl | exact hF.wk 3 rfl | exact hF.wk 4 rfl | exact hF.wk 5 rfl | exact fun h => h | exact fun _ => rfl | (simp only [sf, rws_cons, rws_nil, cI, cU, cS, cL, cB]; first | exact Wk.val2 (.slT _) hF.sub | exact Wk.val (.slT _))) : aRet P rs Q ⟨T, σ⟩ := gRet h hw hq
end
end
end Go.Proofs.Shadow

