/- The walk through regions whose order is open; small laws for the walk. -/
import Derived.Test.YtcoeidfiajaahaaGreatDoorShJ
set_option linter.unusedVariables false
set_option linter.unusedSimpArgs false
namespace Go.Proofs.Shadow
open Go Go.RowKit
section
variable {P : Program} {E : Nat -> Prop}
theorem Kce {α : Type} (ops : Array Oper) : ∀ (cl : List α) (k : Nat), cl.length + k = ops.size -> (cl.zipIdx k).map (fun p => (p.1, Qnu ops p.2)) = cl.zip (ops.toList.drop k)
 | [], k, h => by simp
 | c :: cl, k, h => by
  have hk : k < ops.size := by simp at h; omega
  have hd : ops.toList.drop k = Qnu ops k :: ops.toList.drop (k + 1) := by
   rw [List.drop_eq_getElem_cons (by simpa using hk)]
   congr 1
   simp [Qnu, hk]
  rw [hd, List.zipIdx_cons, List.map_cons, List.zip_cons_cons, Kce ops cl (k + 1) (by simp at h; omega)]
theorem Qaq {ops : Array Oper} {K : AS -> Prop} {s : AS} (E : Nat -> Prop) (cl : List Cl) (hchk : Q1l P ops cl.zipIdx = true) (h : Qw7 P E (ops.toList.map (·.dst)) (cl.zip ops.toList) K s) : Qzh P ops K s := by
 refine Kaj E cl.zipIdx hchk ?_
 have hl : cl.length = ops.size := by
  unfold Q1l at hchk
  simp only [Bool.and_eq_true] at hchk
  simpa using hchk.2
 unfold Kjb
 rw [Kce ops cl 0 (by omega)]
 simpa using h
def tGd (P : Program) (E : Nat -> Prop) (g : Option Bool) (c : Cl) (o : Oper) (s : AS) (K : AS -> Prop) : Prop := Qkb g (match c with | .v => Qr6 P E o s K | .x => aop P o s (kp E s.ss K) | .z => aop P o s K) (K (s.put o.dst Qd0))
theorem Kes (D : List (Option Tmp)) (K : AS -> Prop) (s : AS) : Qw7 P E D [] K s = K s := (rfl)
theorem Q2t (D : List (Option Tmp)) (c : Cl) (o : Oper) (os : List (Cl × Oper)) (K : AS -> Prop) (s : AS) : Qw7 P E D ((c, o) :: os) K s = Qh4 P E D c o s (Qw7 P E D os K) := (rfl)
theorem Q74 (D : List (Option Tmp)) (c : Cl) (dst : Option Tmp) (op : Op) (ty : TypeId) (pos : String) (af : Array Edge) (s : AS) (K : AS -> Prop) :
  Qh4 P E D c ⟨dst, op, ty, pos, af, none⟩ s K = tGd P E (some true) c ⟨dst, op, ty, pos, af, none⟩ s K := (rfl)
theorem Q75 (D : List (Option Tmp)) (c : Cl) (dst : Option Tmp) (op : Op) (ty : TypeId) (pos : String) (af : Array Edge) (g : Nat × Bool) (s : AS) (K : AS -> Prop) :
  Qh4 P E D c ⟨dst, op, ty, pos, af, some g⟩ s K = tGd P E (gw D s.T (some g)) c ⟨dst, op, ty, pos, af, none⟩ s K := (rfl)
theorem Kne (o : Oper) (s : AS) (K : AS -> Prop) : tGd P E (some true) .v o s K = Qr6 P E o s K := by simp [tGd, Qkb]
theorem Knf (o : Oper) (s : AS) (K : AS -> Prop) : tGd P E (some true) .x o s K = aop P o s (kp E s.ss K) := by simp [tGd, Qkb]
theorem Kng (o : Oper) (s : AS) (K : AS -> Prop) : tGd P E (some true) .z o s K = aop P o s K := by simp [tGd, Qkb]
theorem Q2q (c : Cl) (o : Oper) (s : AS) (K : AS -> Prop) : tGd P E (some false) c o s K = K (s.put o.dst Qd0) := by simp [tGd, Qkb]
theorem Q2r {t : Bool} {c : Cl} {o : Oper} {s : AS} {K : AS -> Prop} (h1 : t = true -> tGd P E (some true) c o s K) (h2 : t = false -> K (s.put o.dst Qd0)) : tGd P E (some t) c o s K := by
 cases t
 ·rw [Q2q]; exact h2 rfl
 ·exact h1 rfl
theorem Qo0 {ss : Sto} {K : AS -> Prop} {s : AS} (h1 : Qtp E ss s.ss) (h2 : K s) : kp E ss K s := ⟨h1, h2⟩
theorem Qtp.new {ss : Sto} {b : Nat} (hb : ss.var b = none) (e : Ent) : Qtp E ss (ss.Qa3 b e) := fun b' e' _ he => by
 simp only [Sto.Qa3]
 rw [if_neg (fun h => by subst h; rw [hb] at he; cases he)]
 exact he
theorem Qtp.Kbi {ss ss' : Sto} (h : ss'.var = ss.var) : Qtp E ss ss' := fun b e _ he => by rw [h]; exact he
section
variable (dst : Option Tmp) (ty : TypeId) (pos : String) (af : Array Edge) (s : AS) (K : AS -> Prop)
theorem Ki0 (x : Operand) : Qr6 P E ⟨dst, .move x, ty, pos, af, none⟩ s K = K (s.put dst (aev s.T x)) := (rfl)
theorem Kb5 (x : Operand) : Qr6 P E ⟨dst, .assign x, ty, pos, af, none⟩ s K = K (s.put dst (aev s.T x)) := (rfl)
theorem Ki1 (c a b : Operand) : Qr6 P E ⟨dst, .pick c a b, ty, pos, af, none⟩ s K = Ql4 (match aev s.T c with | .bool t => some (bif t then aev s.T a else aev s.T b) | _ => none) s dst K := (rfl)
theorem Kiz (t : TypeId) (p : Operand) : Qr6 P E ⟨dst, .load t p, ty, pos, af, none⟩ s K = Ql4 (Qnt (Q0x E s.ss) (tk P t) (aev s.T p)) s dst K := (rfl)
theorem Q4g (x : Operand) : Qr6 P E ⟨dst, .nilCheck x, ty, pos, af, none⟩ s K = Ql4 (Ki8 (aev s.T x)) s dst K := (rfl)
theorem Q2v (t : TypeId) (x : Operand) (f : Nat) : Qr6 P E ⟨dst, .fieldAddr t x f, ty, pos, af, none⟩ s K = Ql4 (Qtq (fo P t f) (aev s.T x)) s dst K := (rfl)
theorem Q2w (t : TypeId) (x i : Operand) : Qr6 P E ⟨dst, .indexAddr t x i, ty, pos, af, none⟩ s K = Ql4 (Q86 (Q0x E s.ss) (se P t) (aev s.T x) (aev s.T i)) s dst K := (rfl)
theorem Ke0 (t : TypeId) (x i : Operand) : Qr6 P E ⟨dst, .index t x i, ty, pos, af, none⟩ s K = Ql4 (Qqi (isS P t) (aev s.T x) (aev s.T i)) s dst K := (rfl)
theorem Key (op : BinOp) (t : TypeId) (x y : Operand) (t2 : TypeId) : Qr6 P E ⟨dst, .binOp op t x y t2, ty, pos, af, none⟩ s K = Ql4 (Q8k (isB P t) (se P t).isSome op (aev s.T x) (aev s.T y)) s dst K := (rfl)
theorem Ki2 (op : UnOp) (t : TypeId) (x : Operand) : Qr6 P E ⟨dst, .unOp op t x, ty, pos, af, none⟩ s K = Ql4 (aun op (aev s.T x)) s dst K := (rfl)
theorem Q8c (x : Operand) (i : Nat) : Qr6 P E ⟨dst, .extract x i, ty, pos, af, none⟩ s K = Ql4 (Ki6 (aev s.T x) i) s dst K := (rfl)
theorem Kez (t : TypeId) (parts : Array (Nat × Operand)) : Qr6 P E ⟨dst, .build t parts, ty, pos, af, none⟩ s K = Ql4 (Qy0 (tz P t) (fps P t) (parts.toList.map fun p => (p.1, aev s.T p.2))) s dst K := (rfl)
theorem Q0q (t : TypeId) (len : Nat) (parts : Array (Nat × Operand)) : Qr6 P E ⟨dst, .buildSlice t len parts, ty, pos, af, none⟩ s K = Ql4 (Qr9 (se P t) ((se P t).bind fun k => tz P k.1).isSome len (parts.toList.map fun p => (p.1, aev s.T p.2))) s dst K := (rfl)
theorem Ke1 (t : TypeId) (x : Operand) (lo hi mx : Option Operand) : Qr6 P E ⟨dst, .slice t x lo hi mx, ty, pos, af, none⟩ s K = Ql4 (Qlt (isS P t) (se P t) (aev s.T x) (lo.map (aev s.T)) (hi.map (aev s.T)) (mx.map (aev s.T))) s dst K := (rfl)
theorem Q8b (t d : TypeId) (x : Operand) : Qr6 P E ⟨dst, .convert t d x, ty, pos, af, none⟩ s K = Ql4 (if Khp P t then Q26 (ik P d) (Qz2 P t) (isS P d) (aev s.T x) else none) s dst K := (rfl)
theorem Q4f (f : FuncId) (caps : Array Operand) : Qr6 P E ⟨dst, .makeFunc (.func f) #[] caps, ty, pos, af, none⟩ s K = K (s.put dst (.fn f (caps.toList.map (aev s.T)))) := (rfl)
theorem Kiy (f : Operand) (args : Array Operand) (tys : Array TypeId) : Qr6 P E ⟨dst, .call ⟨.value f, args, tys⟩, ty, pos, af, none⟩ s K = Kew P (aev s.T f) (args.toList.map (aev s.T)) s dst K := (rfl)
theorem Kb4 (x y : Operand) (t : TypeId) : Qr6 P E ⟨dst, .call ⟨.builtin .append, #[x, y], #[t, t]⟩, ty, pos, af, none⟩ s K = Kly (se P t) (aev s.T x) (aev s.T y) s dst K := by
 simp [Qr6]
theorem Klz (x : Operand) (t : TypeId) : Qr6 P E ⟨dst, .call ⟨.builtin .len, #[x], #[t]⟩, ty, pos, af, none⟩ s K = Ql4 (if isS P t || (se P t).isSome then Qqj (isS P t) (aev s.T x) else none) s dst K := (rfl)
theorem Kl0 (x y : Operand) (tys : Array TypeId) : Qr6 P E ⟨dst, .call ⟨.builtin .max, #[x, y], tys⟩, ty, pos, af, none⟩ s K = Ql4 (Ki7 (aev s.T x) (aev s.T y)) s dst K := (rfl)
end
def E0 : Nat -> Prop := fun _ => False
theorem Kdm (ss : Sto) (b : Nat) : (Q0x E0 ss).var b = ss.var b := by simp [Q0x, E0]
theorem Qaf {ss : Sto} {b : Nat} {e : Ent} (h : ss.var b = some e) (hn : ¬ E b) : (Q0x E ss).var b = some e := by simp only [Q0x]; rw [if_neg hn]; exact h
theorem Q77 {f : FuncId} {args bs : List AV} {v : AV} {s : AS} {dst : Option Tmp} {K : AS -> Prop} (h : Qb0 P f bs v) (hw : Qm1 args bs) (hK : K (s.put dst v)) : Kew P (.fn f []) args s dst K := ⟨f, bs, v, rfl, hw, h, hK⟩
theorem Q76 {e : TypeId} {sz by_ : Nat} {x y : AV} {xs ys : List (List AV)} {s : AS} {dst : Option Tmp} {K : AS -> Prop} (hsz : 0 < sz) (hby : 0 < by_) (hx : (x = .Qab /\ xs = []) ∨ x = .sl true xs) (hxr : ∀ r ∈ xs, r.length = sz) (hy : (y = .Qab /\ ys = []) ∨ ∃ c, y = .sl c ys) (hyr : ∀ r ∈ ys, r.length = sz)
  (hb : (xs.length + ys.length) * by_ <= 140737488355328) (hK : K (s.put dst (.sl false (xs ++ ys)))) : Kly (some (e, sz, by_)) x y s dst K := ⟨_, ⟨e, sz, by_, xs, ys, rfl, hsz, hby, hx, hxr, hy, hyr, hb, rfl⟩, hK⟩
theorem RdL.sl (ss : Sto) (c : Bool) (sz : Nat) (ys : List (List AV)) (h : ∀ r ∈ ys, r.length = sz) : RdL ss sz (.sl c ys) ys := ⟨h, .inr (.inl ⟨c, rfl⟩)⟩
end
attribute [go_sem] Kes Q2t Q74 Q75 Kne Knf Kng Q2q List.zip_cons_cons List.zip_nil_right List.zip_nil_left
 Ki0 Kb5 Ki1 Kiz Q4g Q2v Q2w Ke0 Key Ki2 Q8c Kez Q0q Ke1 Q8b Q4f Kiy Kb4 Klz Kl0 Kdm List.not_mem_nil
end Go.Proofs.Shadow
namespace Go.Proofs.Shadow
open Go Go.RowKit
section
variable {P : Program} {E : Nat -> Prop}
theorem Qvp {g : Option Bool} {A B A' B' : Prop} (h : Qkb g A B) (ha : A -> A') (hb : B -> B') : Qkb g A' B' := by
 obtain ⟨t, h1, h2, h3⟩ := h
 exact ⟨t, h1, fun x => ha (h2 x), fun x => hb (h3 x)⟩
theorem Qqk {D : List (Option Tmp)} : ∀ (L : List Oper) {K K' : AS -> Prop} {s : AS}, Qxr P D L K s -> (∀ s', K s' -> K' s') -> Qxr P D L K' s
 | [], _, _, _, h, hk => hk _ h
 | o :: os, K, K', s, h, hk => Qvp h (fun h => Qkq h (fun s' hs => Qqk os hs hk)) (fun h => Qqk os h hk)
theorem Q6f {ops : Array Oper} {K K' : AS -> Prop} {s : AS} (h : Qzh P ops K s) (hk : ∀ s', K s' -> K' s') : Qzh P ops K' s :=
 fun n ss0 w0 a w Q hok hR hQ => h n ss0 w0 a w Q hok hR (fun a w hp => by
  obtain ⟨s1, h1, h2⟩ := hp
  exact hQ a w ⟨s1, hk _ h1, h2⟩)
theorem Qmi : ∀ (c : Code) {Q Q' : AX -> AS -> Prop} {s : AS}, Qbc P c Q s -> (∀ x s', Q x s' -> Q' x s') -> Qbc P c Q' s := by
 intro c
 induction c with
 | skip => exact fun h hq => hq _ _ h
 | region id ops draw =>
  intro Q Q' s h hq
  cases draw with
  | false => exact Qqk _ h (hq _)
  | true => exact Q6f h (hq _)
 | seq x y ihx ihy =>
  intro Q Q' s h hq
  refine ihx h (fun e s' h1 => ?_)
  cases e with
  | nrm => exact ihy h1 hq
  | ex id => exact hq _ _ h1
  | ret => exact hq _ _ h1
 | cond c x y ihx ihy =>
  intro Q Q' s h hq
  rcases h with ⟨t, h1, h2, h3⟩ | ⟨h1, h2, h3⟩
  ·exact .inl ⟨t, h1, fun z => ihx (h2 z) hq, fun z => ihy (h3 z) hq⟩
  ·exact .inr ⟨h1, ihx h2 hq, ihy h3 hq⟩
 | block id c ih =>
  intro Q Q' s h hq
  refine ih h (fun e s' h1 => ?_)
  cases e with
  | nrm => exact hq _ _ h1
  | ret => exact hq _ _ h1
  | ex id' =>
   simp only [Q1z] at h1 ⊢
   split
   ·rename_i he
    rw [if_pos he] at h1
    exact hq _ _ h1
   ·rename_i he
    rw [if_neg he] at h1
    exact hq _ _ h1
 | loop c ih =>
  intro Q Q' s h hq
  intro X hX
  refine h X (fun s hs => hX s (ih hs (fun e s' h2 => ?_)))
  cases e with
  | nrm => exact h2
  | ex id => exact hq _ _ h2
  | ret => exact hq _ _ h2
 | exit id => exact fun h hq => hq _ _ h
 | ret => exact fun h hq => hq _ _ h
 | _ => exact fun h _ => h.elim
def low (lo : Nat) (J T : Nat -> AV) : Nat -> AV := fun i => if i < lo then T i else J i
theorem Kh0 (lo : Nat) (J T : Nat -> AV) (i : Nat) : low lo J T i = if i < lo then T i else J i := (rfl)
theorem Kc9 {T T' : Nat -> AV} {ss : Sto} {d : Nat} {v : AV} (lo : Nat) (hd : T' d = v) (h : ∀ i, i < lo -> i ≠ d -> T' i = T i) : ∃ J, (⟨T', ss⟩ : AS) = ⟨upd (low lo J T) d v, ss⟩ := by
 refine ⟨T', ?_⟩
 congr 1
 funext i
 simp only [upd, low]
 split
 ·rename_i hi; subst hi; exact hd
 ·split
  ·rename_i h1 h2; exact h i h2 h1
  ·rfl
theorem Kge (lo d : Nat) (v : AV) {g : Option Bool} {o : Oper} {D : List (Option Tmp)} {os : List Oper} {T : Nat -> AV} {ss : Sto} {K : AS -> Prop}
  (h : aGd P g o ⟨T, ss⟩ (Qxr P D os fun s' => ∃ J, s' = ⟨upd (low lo J T) d v, ss⟩)) (hK : ∀ J, K ⟨upd (low lo J T) d v, ss⟩) : aGd P g o ⟨T, ss⟩ (Qxr P D os K) := by
 have hm : ∀ s', Qxr P D os (fun s' => ∃ J, s' = ⟨upd (low lo J T) d v, ss⟩) s' -> Qxr P D os K s' := fun s' hs => Qqk os hs (fun s1 ⟨J, hJ⟩ => by subst hJ; exact hK J)
 exact Qvp h (fun h => Qkq h hm) (hm _)
theorem Kis (lo d : Nat) (v : AV) {g : Option Bool} {c : Cl} {o : Oper} {D : List (Option Tmp)} {os : List (Cl × Oper)} {T : Nat -> AV} {ss : Sto} {K : AS -> Prop}
  (h : tGd P E g c o ⟨T, ss⟩ (Qw7 P E D os fun s' => ∃ J, s' = ⟨upd (low lo J T) d v, ss⟩)) (hK : ∀ J, K ⟨upd (low lo J T) d v, ss⟩) : tGd P E g c o ⟨T, ss⟩ (Qw7 P E D os K) := by
 have hm : ∀ s', Qw7 P E D os (fun s' => ∃ J, s' = ⟨upd (low lo J T) d v, ss⟩) s' -> Qw7 P E D os K s' := fun s' hs => Q2u os hs (fun s1 ⟨J, hJ⟩ => by subst hJ; exact hK J)
 cases g with
 | none => obtain ⟨t, h1, _⟩ := h; cases h1
 | some t =>
  obtain ⟨t', h1, h2, h3⟩ := h
  refine ⟨t', h1, fun ht => ?_, fun ht => hm _ (h3 ht)⟩
  have h2 := h2 ht
  cases c with
  | v => exact (Qtj (D := D) (c := .v) (o := ⟨o.dst, o.op, o.type, o.pos, o.after, none⟩) (K := Qw7 P E D os fun s' => ∃ J, s' = ⟨upd (low lo J T) d v, ss⟩) ⟨true, rfl, fun _ => h2, fun h => by cases h⟩ hm).elim (fun t ht => by
    obtain ⟨h5, h6, h7⟩ := ht
    cases h5
    exact h6 rfl)
  | x => exact Qkq h2 (fun s' hs => ⟨hs.1, hm _ hs.2⟩)
  | z => exact Qkq h2 hm
theorem Qca (M : AS -> Prop) {c : AV} {x y : Code} {Q : AX -> AS -> Prop} {s : AS} (h : Q6d P c x y (thn M Q) s) (hM : ∀ s', M s' -> Q .nrm s') : Q6d P c x y Q s := by
 have hm : ∀ e s', thn M Q e s' -> Q e s' := fun e s' he => by
  cases e with
  | nrm => exact hM _ he
  | ex id => exact he
  | ret => exact he
 rcases h with ⟨t, h1, h2, h3⟩ | ⟨h1, h2, h3⟩
 ·exact .inl ⟨t, h1, fun z => Qmi x (h2 z) hm, fun z => Qmi y (h3 z) hm⟩
 ·exact .inr ⟨h1, Qmi x h2 hm, Qmi y h3 hm⟩
theorem Qah {c : Code} {Q : AX -> AS -> Prop} {s : AS} (h : Qbc P c (thn (Qbr (Qbc P c) Q) Q) s) : Qbr (Qbc P c) Q s := by
 intro X hX
 refine hX s (Qmi c h (fun x s' hx => ?_))
 cases x with
 | nrm => exact hx X hX
 | ex id => exact hx
 | ret => exact hx
end
attribute [go_sem] Kh0
end Go.Proofs.Shadow
