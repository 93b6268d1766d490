/- The walk through regions whose order is open; small laws for the walk. -/
import Derived.Test.YtilkeeoinbndoaaShL
section
set_option linter.unusedVariables false
set_option linter.unusedSimpArgs false
namespace Go.Proofs.Shadow
open Go Go.RowKit
section
variable {P : Program} {E : Nat → Prop}
theorem zip_ops {α : Type} (ops : Array Oper) : ∀ (cl : List α) (k : Nat), cl.length + k = ops.size → (cl.zipIdx k).map (fun p => (p.1, atOp ops p.2)) = cl.zip (ops.toList.drop k)
  | [], k, h => by simp
  | c :: cl, k, h => by
    have hk : k < ops.size := by simp at h; omega
    have hd : ops.toList.drop k = atOp ops k :: ops.toList.drop (k + 1) := by
      rw [List.drop_eq_getElem_cons (by simpa using hk)]
      congr 1
      simp [atOp, hk]
    rw [hd, List.zipIdx_cons, List.map_cons, List.zip_cons_cons, zip_ops ops cl (k + 1) (by simp at h; omega)]
/-- .. in the order of the text. -/
theorem draw_text {ops : Array Oper} {K : AS → Prop} {s : AS} (E : Nat → Prop) (cl : List Cl) (hchk : drawOk P ops cl.zipIdx = true) (h : trun P E (ops.toList.map (·.dst)) (cl.zip ops.toList) K s) : aDraw P ops K s := by
  refine draw_of E cl.zipIdx hchk ?_
  have hl : cl.length = ops.size := by
    unfold drawOk at hchk
    simp only [Bool.and_eq_true] at hchk
    simpa using hchk.2
  unfold runI
  rw [zip_ops ops cl 0 (by omega)]
  simpa using h
def tGd (P : Program) (E : Nat → Prop) (g : Option Bool) (c : Cl) (o : Oper) (s : AS) (K : AS → Prop) : Prop := aGuard g (match c with | .v => vrun P E o s K | .x => aop P o s (kp E s.σ K) | .z => aop P o s K) (K (s.put o.dst skipped))
theorem trun_nil (D : List (Option Tmp)) (K : AS → Prop) (s : AS) : trun P E D [] K s = K s := (rfl)
theorem trun_cons (D : List (Option Tmp)) (c : Cl) (o : Oper) (os : List (Cl × Oper)) (K : AS → Prop) (s : AS) : trun P E D ((c, o) :: os) K s = tstep P E D c o s (trun P E D os K) := (rfl)
theorem tstep_none (D : List (Option Tmp)) (c : Cl) (dst : Option Tmp) (op : Op) (ty : TypeId) (pos : String) (af : Array Edge) (s : AS) (K : AS → Prop) :
    tstep P E D c ⟨dst, op, ty, pos, af, none⟩ s K = tGd P E (some true) c ⟨dst, op, ty, pos, af, none⟩ s K := (rfl)
theorem tstep_some (D : List (Option Tmp)) (c : Cl) (dst : Option Tmp) (op : Op) (ty : TypeId) (pos : String) (af : Array Edge) (g : Nat × Bool) (s : AS) (K : AS → Prop) :
    tstep P E D c ⟨dst, op, ty, pos, af, some g⟩ s K = tGd P E (gw D s.T (some g)) c ⟨dst, op, ty, pos, af, none⟩ s K := (rfl)
theorem tGd_v (o : Oper) (s : AS) (K : AS → Prop) : tGd P E (some true) .v o s K = vrun P E o s K := by simp [tGd, aGuard]
theorem tGd_x (o : Oper) (s : AS) (K : AS → Prop) : tGd P E (some true) .x o s K = aop P o s (kp E s.σ K) := by simp [tGd, aGuard]
theorem tGd_z (o : Oper) (s : AS) (K : AS → Prop) : tGd P E (some true) .z o s K = aop P o s K := by simp [tGd, aGuard]
theorem tGd_false (c : Cl) (o : Oper) (s : AS) (K : AS → Prop) : tGd P E (some false) c o s K = K (s.put o.dst skipped) := by simp [tGd, aGuard]
theorem tGd_intro {t : Bool} {c : Cl} {o : Oper} {s : AS} {K : AS → Prop} (h1 : t = true → tGd P E (some true) c o s K) (h2 : t = false → K (s.put o.dst skipped)) : tGd P E (some t) c o s K := by
  cases t
  · rw [tGd_false]; exact h2 rfl
  · exact h1 rfl
theorem kp_intro {σ : Sto} {K : AS → Prop} {s : AS} (h1 : Keep E σ s.σ) (h2 : K s) : kp E σ K s := ⟨h1, h2⟩
theorem Keep.of_var {σ σ' : Sto} (h : σ'.var = σ.var) : Keep E σ σ' := fun b e _ he => by rw [h]; exact he
section
variable (dst : Option Tmp) (ty : TypeId) (pos : String) (af : Array Edge) (s : AS) (K : AS → Prop)
theorem vr_move (x : Operand) : vrun P E ⟨dst, .move x, ty, pos, af, none⟩ s K = K (s.put dst (aev s.T x)) := (rfl)
theorem vr_assign (x : Operand) : vrun P E ⟨dst, .assign x, ty, pos, af, none⟩ s K = K (s.put dst (aev s.T x)) := (rfl)
theorem vr_pick (c a b : Operand) : vrun P E ⟨dst, .pick c a b, ty, pos, af, none⟩ s K = aVal (match aev s.T c with | .bool t => some (bif t then aev s.T a else aev s.T b) | _ => none) s dst K := (rfl)
theorem vr_load (t : TypeId) (p : Operand) : vrun P E ⟨dst, .load t p, ty, pos, af, none⟩ s K = aVal (aload (hide E s.σ) (tk P t) (aev s.T p)) s dst K := (rfl)
theorem vr_nilCheck (x : Operand) : vrun P E ⟨dst, .nilCheck x, ty, pos, af, none⟩ s K = aVal (anil (aev s.T x)) s dst K := (rfl)
theorem vr_fieldAddr (t : TypeId) (x : Operand) (f : Nat) : vrun P E ⟨dst, .fieldAddr t x f, ty, pos, af, none⟩ s K = aVal (afield (fo P t f) (aev s.T x)) s dst K := (rfl)
theorem vr_indexAddr (t : TypeId) (x i : Operand) : vrun P E ⟨dst, .indexAddr t x i, ty, pos, af, none⟩ s K = aVal (aidx (hide E s.σ) (se P t) (aev s.T x) (aev s.T i)) s dst K := (rfl)
theorem vr_index (t : TypeId) (x i : Operand) : vrun P E ⟨dst, .index t x i, ty, pos, af, none⟩ s K = aVal (aindexV P t (isS P t) (aev s.T x) (aev s.T i)) s dst K := (rfl)
theorem vr_binOp (op : BinOp) (t : TypeId) (x y : Operand) (t2 : TypeId) : vrun P E ⟨dst, .binOp op t x y t2, ty, pos, af, none⟩ s K = aVal (abin (isB P t) (se P t).isSome op (aev s.T x) (aev s.T y)) s dst K := (rfl)
theorem vr_unOp (op : UnOp) (t : TypeId) (x : Operand) : vrun P E ⟨dst, .unOp op t x, ty, pos, af, none⟩ s K = aVal (aun op (aev s.T x)) s dst K := (rfl)
theorem vr_extract (x : Operand) (i : Nat) : vrun P E ⟨dst, .extract x i, ty, pos, af, none⟩ s K = aVal (aext (aev s.T x) i) s dst K := (rfl)
theorem vr_build (t : TypeId) (parts : Array (Nat × Operand)) : vrun P E ⟨dst, .build t parts, ty, pos, af, none⟩ s K = aVal (abuild (tz P t) (fps P t) (parts.toList.map fun p => (p.1, aev s.T p.2))) s dst K := (rfl)
theorem vr_buildSlice (t : TypeId) (len : Nat) (parts : Array (Nat × Operand)) : vrun P E ⟨dst, .buildSlice t len parts, ty, pos, af, none⟩ s K = aVal (abslice (se P t) ((se P t).bind fun k => tz P k.1).isSome len (parts.toList.map fun p => (p.1, aev s.T p.2))) s dst K := (rfl)
theorem vr_slice (t : TypeId) (x : Operand) (lo hi mx : Option Operand) : vrun P E ⟨dst, .slice t x lo hi mx, ty, pos, af, none⟩ s K = aVal (aslT P t (isS P t) (se P t) (aev s.T x) (lo.map (aev s.T)) (hi.map (aev s.T)) (mx.map (aev s.T))) s dst K := (rfl)
theorem vr_convert (t d : TypeId) (x : Operand) : vrun P E ⟨dst, .convert t d x, ty, pos, af, none⟩ s K = aVal (if hasU P t then aconv (ik P d) (isU8s P t) (isS P d) (aev s.T x) else none) s dst K := (rfl)
theorem vr_makeFunc (f : FuncId) (caps : Array Operand) : vrun P E ⟨dst, .makeFunc (.func f) #[] caps, ty, pos, af, none⟩ s K = K (s.put dst (.fn f (caps.toList.map (aev s.T)))) := (rfl)
theorem vr_call (f : Operand) (args : Array Operand) (tys : Array TypeId) : vrun P E ⟨dst, .call ⟨.value f, args, tys⟩, ty, pos, af, none⟩ s K = vCall P (aev s.T f) (args.toList.map (aev s.T)) s dst K := (rfl)
theorem vr_append (x y : Operand) (t : TypeId) : vrun P E ⟨dst, .call ⟨.builtin .append, #[x, y], #[t, t]⟩, ty, pos, af, none⟩ s K = vApp (se P t) (aev s.T x) (aev s.T y) s dst K := by
  simp [vrun]
theorem vr_len (x : Operand) (t : TypeId) : vrun P E ⟨dst, .call ⟨.builtin .len, #[x], #[t]⟩, ty, pos, af, none⟩ s K = aVal (if isS P t || (se P t).isSome then alenT (isS P t) (aev s.T x) else none) s dst K := (rfl)
theorem vr_max (x y : Operand) (tys : Array TypeId) : vrun P E ⟨dst, .call ⟨.builtin .max, #[x, y], tys⟩, ty, pos, af, none⟩ s K = aVal (amax (aev s.T x) (aev s.T y)) s dst K := (rfl)
end
def E0 : Nat → Prop := fun _ => False
theorem hide_var (σ : Sto) (b : Nat) : (hide E0 σ).var b = σ.var b := by simp [hide, E0]
theorem vCall_pure {f : FuncId} {args bs : List AV} {v : AV} {s : AS} {dst : Option Tmp} {K : AS → Prop} (h : PCtr P f bs v) (hw : WkVL args bs) (hK : K (s.put dst v)) : vCall P (.fn f []) args s dst K := ⟨f, bs, v, rfl, hw, h, hK⟩
/-! ### append to a slice of ours -/
theorem RdL.sl (σ : Sto) (c : Bool) (sz : Nat) (ys : List (List AV)) (h : ∀ r ∈ ys, r.length = sz) : RdL σ sz (.sl c ys) ys := ⟨h, .inr (.inl ⟨c, rfl⟩)⟩
end
attribute [go_sem] trun_nil trun_cons tstep_none tstep_some tGd_v tGd_x tGd_z tGd_false List.zip_cons_cons List.zip_nil_right List.zip_nil_left
  vr_move vr_assign vr_pick vr_load vr_nilCheck vr_fieldAddr vr_indexAddr vr_index vr_binOp vr_unOp vr_extract vr_build vr_buildSlice vr_slice vr_convert vr_makeFunc vr_call vr_append vr_len vr_max hide_var List.not_mem_nil
end Go.Proofs.Shadow
end

section
set_option linter.unusedVariables false
set_option linter.unusedSimpArgs false
namespace Go.Proofs.Shadow
open Go Go.RowKit
section
variable {P : Program} {E : Nat → Prop}
theorem aGuard_mono {g : Option Bool} {A B A' B' : Prop} (h : aGuard g A B) (ha : A → A') (hb : B → B') : aGuard g A' B' := by
  obtain ⟨t, h1, h2, h3⟩ := h
  exact ⟨t, h1, fun x => ha (h2 x), fun x => hb (h3 x)⟩
theorem aops_mono {D : List (Option Tmp)} : ∀ (L : List Oper) {K K' : AS → Prop} {s : AS}, aops P D L K s → (∀ s', K s' → K' s') → aops P D L K' s
  | [], _, _, _, h, hk => hk _ h
  | o :: os, K, K', s, h, hk => aGuard_mono h (fun h => aop_mono h (fun s' hs => aops_mono os hs hk)) (fun h => aops_mono os h hk)
theorem aDraw_mono {ops : Array Oper} {K K' : AS → Prop} {s : AS} (h : aDraw P ops K s) (hk : ∀ s', K s' → K' s') : aDraw P ops K' s :=
  fun n σ0 w0 a w Q hok hR hQ => h n σ0 w0 a w Q hok hR (fun a w hp => by
    obtain ⟨s1, h1, h2⟩ := hp
    exact hQ a w ⟨s1, hk _ h1, h2⟩)
theorem acode_mono : ∀ (c : Code) {Q Q' : AX → AS → Prop} {s : AS}, acode P c Q s → (∀ x s', Q x s' → Q' x s') → acode P c Q' s := by
  intro c
  induction c with
  | skip => exact fun h hq => hq _ _ h
  | region id ops draw =>
    intro Q Q' s h hq
    cases draw with
    | false => exact aops_mono _ h (hq _)
    | true => exact aDraw_mono h (hq _)
  | seq x y ihx ihy =>
    intro Q Q' s h hq
    refine ihx h (fun e s' h1 => ?_)
    cases e with
    | nrm => exact ihy h1 hq
    | ex id => exact hq _ _ h1
    | ret => exact hq _ _ h1
  | cond c x y ihx ihy =>
    intro Q Q' s h hq
    rcases h with ⟨t, h1, h2, h3⟩ | ⟨h1, h2, h3⟩
    · exact .inl ⟨t, h1, fun z => ihx (h2 z) hq, fun z => ihy (h3 z) hq⟩
    · exact .inr ⟨h1, ihx h2 hq, ihy h3 hq⟩
  | block id c ih =>
    intro Q Q' s h hq
    refine ih h (fun e s' h1 => ?_)
    cases e with
    | nrm => exact hq _ _ h1
    | ret => exact hq _ _ h1
    | ex id' =>
      simp only [inBlk] at h1 ⊢
      split
      · rename_i he
        rw [if_pos he] at h1
        exact hq _ _ h1
      · rename_i he
        rw [if_neg he] at h1
        exact hq _ _ h1
  | loop c ih =>
    intro Q Q' s h hq
    intro X hX
    refine h X (fun s hs => hX s (ih hs (fun e s' h2 => ?_)))
    cases e with
    | nrm => exact h2
    | ex id => obtain ⟨s2, hk, h2⟩ := h2; exact ⟨s2, hk, hq _ _ h2⟩
    | ret => obtain ⟨s2, hk, h2⟩ := h2; exact ⟨s2, hk, hq _ _ h2⟩
  | exit id => exact fun h hq => hq _ _ h
  | ret => exact fun h hq => hq _ _ h
  | _ => exact fun h _ => h.elim
/-- The temporaries below lo are T's; the others are open. -/
def low (lo : Nat) (J T : Nat → AV) : Nat → AV := fun i => if i < lo then T i else J i
theorem low_app (lo : Nat) (J T : Nat → AV) (i : Nat) : low lo J T i = if i < lo then T i else J i := (rfl)
theorem cut_done {T T' : Nat → AV} {σ : Sto} {d : Nat} {v : AV} (lo : Nat) (hd : T' d = v) (h : ∀ i, i < lo → i ≠ d → T' i = T i) : ∃ J, (⟨T', σ⟩ : AS) = ⟨upd (low lo J T) d v, σ⟩ := by
  refine ⟨T', ?_⟩
  congr 1
  funext i
  simp only [upd, low]
  split
  · rename_i hi; subst hi; exact hd
  · split
    · rename_i h1 h2; exact h i h2 h1
    · rfl
/-- A region with guards: behind it only d counts (v), and what lies below lo. -/
theorem aGd_cut (lo d : Nat) (v : AV) {g : Option Bool} {o : Oper} {D : List (Option Tmp)} {os : List Oper} {T : Nat → AV} {σ : Sto} {K : AS → Prop}
    (h : aGd P g o ⟨T, σ⟩ (aops P D os fun s' => ∃ J, s' = ⟨upd (low lo J T) d v, σ⟩)) (hK : ∀ J, K ⟨upd (low lo J T) d v, σ⟩) : aGd P g o ⟨T, σ⟩ (aops P D os K) := by
  have hm : ∀ s', aops P D os (fun s' => ∃ J, s' = ⟨upd (low lo J T) d v, σ⟩) s' → aops P D os K s' := fun s' hs => aops_mono os hs (fun s1 ⟨J, hJ⟩ => by subst hJ; exact hK J)
  exact aGuard_mono h (fun h => aop_mono h hm) (hm _)
theorem tGd_cut (lo d : Nat) (v : AV) {g : Option Bool} {c : Cl} {o : Oper} {D : List (Option Tmp)} {os : List (Cl × Oper)} {T : Nat → AV} {σ : Sto} {K : AS → Prop}
    (h : tGd P E g c o ⟨T, σ⟩ (trun P E D os fun s' => ∃ J, s' = ⟨upd (low lo J T) d v, σ⟩)) (hK : ∀ J, K ⟨upd (low lo J T) d v, σ⟩) : tGd P E g c o ⟨T, σ⟩ (trun P E D os K) := by
  have hm : ∀ s', trun P E D os (fun s' => ∃ J, s' = ⟨upd (low lo J T) d v, σ⟩) s' → trun P E D os K s' := fun s' hs => trun_mono os hs (fun s1 ⟨J, hJ⟩ => by subst hJ; exact hK J)
  cases g with
  | none => obtain ⟨t, h1, _⟩ := h; cases h1
  | some t =>
    obtain ⟨t', h1, h2, h3⟩ := h
    refine ⟨t', h1, fun ht => ?_, fun ht => hm _ (h3 ht)⟩
    have h2 := h2 ht
    cases c with
    | v => exact (tstep_mono (D := D) (c := .v) (o := ⟨o.dst, o.op, o.type, o.pos, o.after, none⟩) (K := trun P E D os fun s' => ∃ J, s' = ⟨upd (low lo J T) d v, σ⟩) ⟨true, rfl, fun _ => h2, fun h => by cases h⟩ hm).elim (fun t ht => by
        obtain ⟨h5, h6, h7⟩ := ht
        cases h5
        exact h6 rfl)
    | x => exact aop_mono h2 (fun s' hs => ⟨hs.1, hm _ hs.2⟩)
    | z => exact aop_mono h2 hm
/-- One round, then the loop again. -/
theorem aLoop_round {c : Code} {Q : AX → AS → Prop} {s : AS} (h : acode P c (thn (aLoop P (acode P c) Q) (wkQ P Q)) s) : aLoop P (acode P c) Q s := by
  intro X hX
  refine hX s (acode_mono c h (fun x s' hx => ?_))
  cases x with
  | nrm => exact hx X hX
  | ex id => exact hx
  | ret => exact hx
/-- A loop of the program's. -/
abbrev aLp (P : Program) (c : Code) (Q : AX → AS → Prop) (s : AS) : Prop := aLoop P (acode P c) Q s
end
attribute [go_sem] low_app
end Go.Proofs.Shadow
end

