/- Evaluation as a plain function; the reference's evaluation is it. -/
import Derived.Test.YtcoeidfiajaahaaGreatDoorRm
import Derived.Test.YtcoeidfiajaahaaGreatDoorFmA
set_option linter.unusedVariables false
set_option linter.unusedSimpArgs false
set_option maxRecDepth 100000
open Go Go.Proofs Go.Proofs.Shadow
namespace Go.Proofs.Shadow
def zC : Cor := Cor.mk 0 0 (ByteArray.mk #[]) 0 [] (Fm.mk 0 (ByteArray.mk #[]) 0 [] []) []
def zV : Val := Val.mk 0 0 (ByteArray.mk #[]) [] zC []
instance : Inhabited Cor := ⟨zC⟩
instance : Inhabited Val := ⟨zV⟩
def Kfx (n : Int) : Val := Val.mk 1 n (ByteArray.mk #[]) [] zC []
def Kbd (l : List Val) : Val := Val.mk 3 0 (ByteArray.mk #[]) l zC []
def Kbf (env : List Slt) (id : Int) : Val := match env.reverse.find? (fun s => decide (s.id = id)) with | some s => s.val | none => zV
mutual
def Qpt : Fm -> Val
 | .mk k s n _ ks => if k = 2 then Kfx n else if k = 1 then Val.mk 2 0 s [] zC [] else Kbd (Q4z ks)
def Q4z : List Fm -> List Val
 | [] => []
 | f :: fs => Qpt f :: Q4z fs
end
theorem Q1h : ∀ l, Q4z l = l.map Qpt
 | [] => rfl
 | f :: fs => by rw [Q4z, Q1h fs]; rfl
theorem Qu5 (f : Fm) : Qpt f = if f.kind = 2 then Kfx f.num else if f.kind = 1 then Val.mk 2 0 f.name [] zC [] else Kbd (f.kids.map Qpt) := by cases f; rw [Qpt, Q1h]; rfl
def Q90 : ByteArray := ByteArray.mk #[43]
def Kgx : ByteArray := ByteArray.mk #[60]
def Kmc : ByteArray := ByteArray.mk #[61]
def Q9z : ByteArray := ByteArray.mk #[108, 105, 115, 116]
def Q9y : ByteArray := ByteArray.mk #[104, 101, 97, 100]
def Q91 : ByteArray := ByteArray.mk #[116, 97, 105, 108]
def Kig : List ByteArray := [Q90, Kgx, Kmc, Q9z, Q9y, Q91]
def hasB (l : List ByteArray) (s : ByteArray) : Bool := l.any fun x => decide (x = s)
def Klv (args : List Val) : Int := args.foldl (fun s v => (s + v.num).tmod 1000) 0
def Kbk (name : ByteArray) (args : List Val) : Val × Int :=
 if name = Q9z then (Kbd args, 0)
 else if name = Q90 then (if args.all (fun v => decide (v.kind = 1)) = true then (Kfx (Klv args), 0) else (zV, 3))
 else if name = Q9y then (if args.length = 1 /\ (args.getD 0 zV).kind = 3 /\ (args.getD 0 zV).items.length ≠ 0 then ((args.getD 0 zV).items.getD 0 zV, 0) else (zV, 3))
 else if name = Q91 then (if args.length = 1 /\ (args.getD 0 zV).kind = 3 /\ (args.getD 0 zV).items.length ≠ 0 then (Kbd ((args.getD 0 zV).items.drop 1), 0) else (zV, 3))
 else if args.length = 2 /\ (args.getD 0 zV).kind = 1 /\ (args.getD 1 zV).kind = 1 then (if name = Kgx /\ (args.getD 0 zV).num < (args.getD 1 zV).num ∨ name = Kmc /\ (args.getD 0 zV).num = (args.getD 1 zV).num then (Kfx 1, 0) else (Kfx 0, 0)) else (zV, 3)
def Qv2 (E : Cor -> Nat -> Val × Int × Nat) : List Cor -> Nat -> (Int × Nat) ⊕ (List Val × Nat)
 | [], n => .inr ([], n)
 | c :: cs, n => if (E c n).2.1 = 0 then (match Qv2 E cs (E c n).2.2 with | .inl x => .inl x | .inr (vs, m) => .inr ((E c n).1 :: vs, m)) else .inl ((E c n).2.1, (E c n).2.2)
def Qvr : List Int -> List Val -> List Slt
 | i :: is, v :: vs => .mk i v :: Qvr is vs
 | _, _ => []
def Kfu (E : Cor -> List Slt -> Nat -> Val × Int × Nat) (f : Val) (args : List Val) (n : Nat) : Val × Int × Nat :=
 if f.kind = 5 then ((Kbk f.name args).1, (Kbk f.name args).2, n)
 else if f.kind = 4 then (if args.length = f.fn.ids.length then E (f.fn.kids.getD 0 default) (f.env ++ Qvr f.fn.ids args) n else (zV, 3, n))
 else (zV, 2, n)
def evG : Nat -> Cor -> List Slt -> Nat -> Val × Int × Nat
  | 0, _, _, _ => (zV, 4, 0)
  | g + 1, c, env, n =>
    if n = 0 then (zV, 4, 0)
    else if c.kind = 1 then (Kbf env c.id, 0, n - 1)
    else if c.kind = 3 then (Kfx c.num, 0, n - 1)
    else if c.kind = 4 then (Qpt c.data, 0, n - 1)
    else if c.kind = 5 then (Val.mk 4 0 (ByteArray.mk #[]) [] c env, 0, n - 1)
    else if c.kind = 2 then (if hasB Kig c.name = true then (Val.mk 5 0 c.name [] zC [], 0, n - 1) else (zV, 1, n - 1))
    else if c.kind = 7 then
      (if (evG g (c.kids.getD 0 default) env (n - 1)).2.1 = 0 then
        (if (evG g (c.kids.getD 0 default) env (n - 1)).1.kind = 1 /\ (evG g (c.kids.getD 0 default) env (n - 1)).1.num = 0 then evG g (c.kids.getD 2 default) env (evG g (c.kids.getD 0 default) env (n - 1)).2.2
         else evG g (c.kids.getD 1 default) env (evG g (c.kids.getD 0 default) env (n - 1)).2.2)
       else (zV, (evG g (c.kids.getD 0 default) env (n - 1)).2.1, (evG g (c.kids.getD 0 default) env (n - 1)).2.2))
    else match Qv2 (fun c n => evG g c env n) c.kids (n - 1) with
      | .inl (e, m) => (zV, e, m)
      | .inr ([], m) => (zV, 0, m)
      | .inr (f :: args, m) => Kfu (evG g) f args m
mutual
def Val.nodes : Val -> Nat
 | .mk _ _ _ l _ e => 1 + Val.Qjo l + Slt.Qjo e
def Val.Qjo : List Val -> Nat
 | [] => 0
 | v :: l => v.nodes + Val.Qjo l
def Slt.nodes : Slt -> Nat
 | .mk _ v => v.nodes
def Slt.Qjo : List Slt -> Nat
 | [] => 0
 | s :: l => s.nodes + Slt.Qjo l
end
theorem Val.Qih : ∀ l, Val.Qjo l = Qbg Val.nodes l
 | [] => rfl
 | v :: l => by rw [Val.Qjo, Qbg, Val.Qih l]
theorem Slt.Qa4 (s : Slt) : s.nodes = s.val.nodes := by cases s; rw [Slt.nodes]; rfl
theorem Slt.Qih : ∀ l, Slt.Qjo l = Qbg Slt.nodes l
 | [] => rfl
 | v :: l => by rw [Slt.Qjo, Qbg, Slt.Qih l]
theorem Val.Qa4 (v : Val) : v.nodes = 1 + Qbg Val.nodes v.items + Qbg Slt.nodes v.env := by cases v; rw [Val.nodes, Val.Qih, Slt.Qih]; rfl
end Go.Proofs.Shadow
namespace Go.Proofs.SA
inductive AR : Cor -> Prop
 | mk {k i : Int} {s : ByteArray} {n : Int} {l : List Int} {d : Fm} {ks : List Cor} (ha : arity k ks.length) (hs : s.size <= 12) (hn : 0 <= n /\ n <= 999) (hl : l.length <= 999) (hd : FV d ∨ d = zF) (hk : ks.length <= 600) (h : ∀ x ∈ ks, AR x) : AR (.mk k i s n l d ks)
theorem AR.out {c : Cor} (h : AR c) : arity c.kind c.kids.length /\ c.name.size <= 12 /\ (0 <= c.num /\ c.num <= 999) /\ c.ids.length <= 999 /\ (FV c.data ∨ c.data = zF) /\ c.kids.length <= 600 /\ ∀ x ∈ c.kids, AR x := by
 cases h; exact ⟨by assumption, by assumption, by assumption, by assumption, by assumption, by assumption, by assumption⟩
theorem Q5o : ∀ (n : Nat) (l : List Int), l.Nodup -> (∀ i ∈ l, 1 <= i /\ i <= (n : Int)) -> l.length <= n
 | 0, [], _, _ => Nat.le_refl _
 | 0, x :: l, _, h => by have := h x (List.mem_cons_self ..); omega
 | n + 1, l, hn, h => by
  have h1 := Q5o n (l.erase ((n + 1 : Nat) : Int)) (hn.erase _) (fun i hi => by
   have hm := (hn.mem_erase_iff).1 hi
   have := h i hm.2
   have := hm.1
   omega)
  rw [List.length_erase] at h1
  split at h1 <;> omega
theorem Qwb (l : List Int) (h : l.Nodup) (hr : ∀ i ∈ l, 1 <= i /\ i <= 999) : l.length <= 999 := Q5o 999 l h hr
theorem Qpp : ∀ l : List Cor, l.length <= Qbg Cor.nodes l
 | [] => Nat.le_refl _
 | c :: l => by have := Qpp l; have := Cor.Qa4 c; rw [Qbg, List.length_cons]; omega
theorem CIs.ar : ∀ (d : Nat) (sc : List Int) (c : Cor), CIs d sc c -> c.nodes <= 600 -> AR c
 | 0, _, _, h, _ => h.elim
 | d + 1, sc, c, h, hn => by
  obtain ⟨h1, h2, h3, h4, h5, h6⟩ := h
  have hne := Cor.Qa4 c
  have hkl := Qpp c.kids
  obtain ⟨_, f2, f3, f4, _⟩ := h2
  have := AR.mk (i := c.id) (d := c.data) (l := c.ids) (s := c.name) (n := c.num) h1 (by
   by_cases hk : c.kind = 2
   ·exact NV.size (f2.1 hk)
   ·rw [f2.2 hk]; decide) (by
   by_cases hk : c.kind = 3
   ·exact f3.1 hk
   ·rw [f3.2 hk]; decide) (Qwb _ h5 fun i hi => ⟨(h4 i hi).1, (h4 i hi).2.1⟩) (by
   by_cases hk : c.kind = 4
   ·exact .inl (f4.1 hk).1
   ·exact .inr (f4.2 hk)) (by omega) (fun x hx => CIs.ar d _ x (h6 x hx) (by have := Qf9 Cor.nodes c.kids x hx; omega))
  rwa [Cor.eta] at this
theorem CV.ar {c : Cor} (h : CV c) : AR c := CIs.ar _ _ _ h.1 h.2
inductive VI (m : Nat) : Val -> Prop
 | mk {k n : Int} {s : ByteArray} {l : List Val} {f : Cor} {e : List Slt} (hn : -1000 <= n /\ n <= 1000) (hs : s.size <= 12) (hl : l.length <= 1000) (hf : (k = 4 /\ AR f /\ f.kind = 5 /\ f.nodes <= 600) ∨ (k ≠ 4 /\ f = zC)) (he : e.length + 1000 * (m + 1) <= 10000000) (h1 : ∀ x ∈ l, VI m x) (h2 : ∀ x ∈ e, VI m x.val) : VI m (.mk k n s l f e)
theorem VI.out {m : Nat} {v : Val} (h : VI m v) : (-1000 <= v.num /\ v.num <= 1000) /\ v.name.size <= 12 /\ v.items.length <= 1000 /\ ((v.kind = 4 /\ AR v.fn /\ v.fn.kind = 5 /\ v.fn.nodes <= 600) ∨ (v.kind ≠ 4 /\ v.fn = zC)) /\ v.env.length + 1000 * (m + 1) <= 10000000 /\ (∀ x ∈ v.items, VI m x) /\ ∀ x ∈ v.env, VI m x.val := by
 cases h; exact ⟨by assumption, by assumption, by assumption, by assumption, by assumption, by assumption, by assumption⟩
theorem VI.mono {m n : Nat} (hmn : m <= n) : ∀ v : Val, VI n v -> VI m v := by
 intro v
 induction v using Val.ind with
 | h v ih1 ih2 =>
  intro h
  obtain ⟨a1, a2, a3, a4, a5, a6, a7⟩ := h.out
  have := VI.mk (m := m) a1 a2 a3 a4 (by omega) (fun x hx => ih1 x hx (a6 x hx)) (fun x hx => ih2 x hx (a7 x hx))
  rwa [Val.eta] at this
theorem VI.zero {m : Nat} (hm : m <= 3001) : VI m zV := .mk (by decide) (by decide) (by simp) (.inr ⟨by decide, rfl⟩) (by simp; omega) (by simp) (by simp)
theorem VI.num {m : Nat} (hm : m <= 3001) {n : Int} (hn : -1000 <= n /\ n <= 1000) : VI m (Kfx n) := .mk hn (by decide) (by simp) (.inr ⟨by decide, rfl⟩) (by simp; omega) (by simp) (by simp)
theorem VI.list {m : Nat} (hm : m <= 3001) {l : List Val} (hl : l.length <= 1000) (h : ∀ x ∈ l, VI m x) : VI m (Kbd l) := .mk (by decide) (by decide) hl (.inr ⟨by decide, rfl⟩) (by simp; omega) h (by simp)
theorem VI.data {m : Nat} (hm : m <= 3001) : ∀ (d : Nat) (f : Fm), FIs d f -> f.nodes <= 400 -> VI m (Qpt f)
 | 0, _, h, _ => h.elim
 | d + 1, f, h, hn => by
  have hne := Fm.Qa4 f
  have hl := Qdw f.kids
  rw [Qu5]
  rcases h with h | h | h
  ·rw [if_neg (by omega), if_pos h.1]
   exact .mk (by decide) (NV.size h.2.1) (by simp) (.inr ⟨by decide, rfl⟩) (by simp; omega) (by simp) (by simp)
  ·rw [if_pos h.1]; exact VI.num hm (by omega)
  ·rw [if_neg (by omega), if_neg (by omega)]
   refine VI.list hm (by rw [List.length_map]; omega) fun x hx => ?_
   obtain ⟨y, hy, rfl⟩ := List.mem_map.1 hx
   exact VI.data hm d y (h.2.2.2.2 y hy) (by have := Qf9 Fm.nodes f.kids y hy; omega)
theorem Q4y : ∀ f : Fm, f.sz <= 1000000 -> Qf6 f = some (Qpt f) := by
 intro f
 induction f using Fm.ind with
 | h f ih =>
  intro hf
  have hz := Fm.Qgf f
  rw [Qf6, Qu5]
  by_cases h2 : f.kind = 2
  ·rw [if_pos h2, if_pos h2]; rfl
  ·rw [if_neg h2, if_neg h2]
   by_cases h1 : f.kind = 1
   ·rw [if_pos h1, if_pos h1]; rfl
   ·rw [if_neg h1, if_neg h1, Quy _ _ (by omega), Qis (Qhj f) Qpt (fun _ _ => rfl) f.kids [] 0 (fun x hx z i r hz => by
     have := Fm.Qh3 hx
     rw [Qhj, Qak, Qae, ih x hx (by omega), Qae, Qbb (by simp; omega), Qae]) (by simp; omega)]
    rfl
theorem Kdg (env : List Slt) (id : Int) (h : env.length <= 1000000000) : Qll env id = some (Kbf env id) := by
 have key : ∀ (n : Nat), n <= env.length -> Qfq env id ((n : Int) - 1) = some (match (env.take n).reverse.find? (fun s => decide (s.id = id)) with | some s => .inl s.val | none => .inr ()) := by
  intro n
  induction n with
  | zero => intro _; rw [Qfq, if_neg (by omega)]; rfl
  | succ n ih =>
   intro hn
   have hl : n < env.length := by omega
   rw [Qfq, if_pos (by omega), show ((n + 1 : Nat) : Int) - 1 = (n : Int) by omega, Qap env n hl, Qae, List.take_succ_eq_append_getElem hl, List.reverse_append, List.reverse_singleton, List.singleton_append, List.find?_cons]
   by_cases hid : env[n].id = id
   ·rw [if_pos hid, Qae, decide_eq_true hid]; rfl
   ·rw [if_neg hid, decide_eq_false hid, Qa8 (by omega) (by omega), ih (by omega)]
 rw [Qll, Qa8 (by omega) (by omega), key env.length (Nat.le_refl _), List.take_length, Qae, Kbf]
 cases env.reverse.find? (fun s => decide (s.id = id)) <;> rfl
theorem Kd0 {m : Nat} (hm : m <= 3001) {env : List Slt} (h : ∀ x ∈ env, VI m x.val) (id : Int) : VI m (Kbf env id) := by
 unfold Kbf
 cases hf : env.reverse.find? (fun s => decide (s.id = id)) with
 | none => exact VI.zero hm
 | some s => exact h s (List.mem_reverse.1 (List.mem_of_find?_eq_some hf))
theorem Kk6 (l : List ByteArray) (s : ByteArray) (h : l.length <= 1000000) : Qoj l s = some (hasB l s) := by
 rw [Qoj, Qx3 _ _ (by omega), Qm2 (Qit l s) (fun x => decide (x = s)) true (fun _ => rfl) l 0 (fun x hx i r => by
  rw [Qit, Qak, Qae]; by_cases hx : x = s <;> simp [hx, Qak]), Qae]
 unfold hasB
 cases (l.any fun x => decide (x = s)) <;> rfl
theorem Qzb (a : Int) : -999 <= a.tmod 1000 /\ a.tmod 1000 <= 999 := by
 have h1 := Int.tmod_lt_of_pos a (show (0 : Int) < 1000 by decide)
 have h2 := Int.lt_tmod_of_pos a (show (0 : Int) < 1000 by decide)
 omega
theorem Q70 (args : List Val) : -999 <= Klv args /\ Klv args <= 999 := by
 unfold Klv
 have : ∀ (l : List Val) (s : Int), -999 <= s /\ s <= 999 -> -999 <= l.foldl (fun s v => (s + v.num).tmod 1000) s /\ l.foldl (fun s v => (s + v.num).tmod 1000) s <= 999 := by
  intro l
  induction l with
  | nil => intro s h; exact h
  | cons v l ih => intro s h; exact ih _ (Qzb _)
 exact this args 0 (by decide)
theorem Kik {m : Nat} (args : List Val) (h : args.length <= 1000) (hv : ∀ x ∈ args, VI m x) : Qmx args = some (if args.all (fun v => decide (v.kind = 1)) = true then (Kfx (Klv args), 0) else (zV, 3)) := by
 have key : ∀ (r : List Val) (i : Nat) (s : Int), (∀ x ∈ r, VI m x) -> -999 <= s /\ s <= 999 -> Qie args s i r = some (if r.all (fun v => decide (v.kind = 1)) = true then .inr (r.foldl (fun s v => (s + v.num).tmod 1000) s) else .inl (zV, 3)) := by
  intro r
  induction r with
  | nil => intro i s _ _; rfl
  | cons v r ih =>
   intro i s hr hs
   have hvv := (hr v (List.mem_cons_self ..)).out.1
   rw [Qie, Qak, Qae, List.all_cons]
   by_cases hk : v.kind = 1
   ·rw [if_pos hk, Qae, Qa8 (by omega) (by omega), ih (i + 1) _ (fun x hx => hr x (List.mem_cons_of_mem _ hx)) (Qzb _), decide_eq_true hk, Bool.true_and]; rfl
   ·rw [if_neg hk, decide_eq_false hk, Bool.false_and]; rfl
 rw [Qmx, Qw3 _ _ (by omega), key args 0 0 hv (by decide), Qae]
 by_cases h : args.all (fun v => decide (v.kind = 1)) = true
 ·rw [if_pos h, if_pos h]; rfl
 ·rw [if_neg h, if_neg h]; rfl
theorem Kd4 {m : Nat} (hm : m <= 3001) (name : ByteArray) (args : List Val) (h : args.length <= 1000) (hv : ∀ x ∈ args, VI m x) : Qlm name args = some (Kbk name args) /\ VI m (Kbk name args).1 := by
 rw [Qlm, Kbk]
 by_cases h1 : name = Q9z
 ·have h1' := h1; unfold Q9z at h1'
  rw [if_pos h1', if_pos h1, Qbb (by simp; omega), Qae]
  exact ⟨rfl, VI.list hm h hv⟩
 have h1' := h1; unfold Q9z at h1'
 rw [if_neg h1', if_neg h1]
 by_cases h2 : name = Q90
 ·have h2' := h2; unfold Q90 at h2'
  rw [if_pos h2', if_pos h2, Kik args h hv, Qae]
  refine ⟨rfl, ?_⟩
  split
  ·have := Q70 args; exact VI.num hm (by omega)
  ·exact VI.zero hm
 have h2' := h2; unfold Q90 at h2'
 rw [if_neg h2', if_neg h2]
 have e1 : ∀ (k : Int), ((if (args.length : Int) = 1 then (idx args 0 >>= fun x28 => some (!decide (x28.kind = k))) else some true : Option Bool)) = some (!decide (args.length = 1 /\ (args.getD 0 zV).kind = k)) := fun k => by
  by_cases hl : args.length = 1
  ·have h0 : 0 < args.length := by omega
   rw [if_pos (by omega), show idx args 0 = some args[0] from Qap args 0 h0, Qae, Qcb h0]
   by_cases hk : args[0].kind = k
   ·rw [decide_eq_true hk, decide_eq_true ⟨hl, hk⟩]
   ·rw [decide_eq_false hk, decide_eq_false (fun h => hk h.2)]
  ·rw [if_neg (by omega), decide_eq_false (fun h => hl h.1)]; rfl
 have e2 : ((if (args.length : Int) = 2 then (idx args 0 >>= fun x28 => some (!decide (x28.kind = 1))) else some true : Option Bool)) = some (!decide (args.length = 2 /\ (args.getD 0 zV).kind = 1)) := by
  by_cases hl : args.length = 2
  ·have h0 : 0 < args.length := by omega
   rw [if_pos (by omega), show idx args 0 = some args[0] from Qap args 0 h0, Qae, Qcb h0]
   by_cases hk : args[0].kind = 1
   ·rw [decide_eq_true hk, decide_eq_true ⟨hl, hk⟩]
   ·rw [decide_eq_false hk, decide_eq_false (fun h => hk h.2)]
  ·rw [if_neg (by omega), decide_eq_false (fun h => hl h.1)]; rfl
 by_cases h3 : name = Q9y
 ·have h3' := h3; unfold Q9y at h3'
  rw [if_pos h3]
  simp only [h3', if_true, decide_true, Qak, Qae, e1]
  by_cases hc : args.length = 1 /\ (args.getD 0 zV).kind = 3
  rotate_left
  ·rw [decide_eq_false hc, if_neg (show ¬ (args.length = 1 /\ (args.getD 0 zV).kind = 3 /\ (args.getD 0 zV).items.length ≠ 0) from fun h => hc ⟨h.1, h.2.1⟩)]
   simp only [Bool.not_false, if_true, Qae]
   exact ⟨rfl, VI.zero hm⟩
  have h0 : 0 < args.length := by omega
  have hvv := (hv _ (List.getElem_mem h0)).out
  rw [decide_eq_true hc]
  obtain ⟨hc1, hc2⟩ := hc
  simp only [Qcb h0] at hc2 ⊢
  simp only [Bool.not_true, Bool.false_eq_true, if_false, show idx args 0 = some args[0] from Qap args 0 h0, Qae]
  by_cases hi : args[0].items.length = 0
  ·rw [decide_eq_true (show (args[0].items.length : Int) = 0 by omega), if_neg (show ¬ (args.length = 1 /\ args[0].kind = 3 /\ args[0].items.length ≠ 0) from fun h => h.2.2 hi)]
   exact ⟨rfl, VI.zero hm⟩
  ·have hi0 : 0 < args[0].items.length := by omega
   rw [decide_eq_false (show ¬ (args[0].items.length : Int) = 0 by omega), if_pos (show (args.length = 1 /\ args[0].kind = 3 /\ args[0].items.length ≠ 0) from ⟨hc1, hc2, hi⟩), show idx args[0].items 0 = some args[0].items[0] from Qap _ 0 hi0, Qcb hi0]
   exact ⟨rfl, hvv.2.2.2.2.2.1 _ (List.getElem_mem hi0)⟩
 have h3' := h3; unfold Q9y at h3'
 by_cases h4 : name = Q91
 ·have h4' := h4; unfold Q91 at h4'
  rw [if_neg h3, if_pos h4]
  have e7 : ¬ (ByteArray.mk #[116, 97, 105, 108] = ByteArray.mk #[104, 101, 97, 100]) := by decide
  simp only [h4', e7, if_false, if_true, decide_true, Qak, Qae, e1]
  by_cases hc : args.length = 1 /\ (args.getD 0 zV).kind = 3
  rotate_left
  ·rw [decide_eq_false hc, if_neg (show ¬ (args.length = 1 /\ (args.getD 0 zV).kind = 3 /\ (args.getD 0 zV).items.length ≠ 0) from fun h => hc ⟨h.1, h.2.1⟩)]
   simp only [Bool.not_false, if_true, Qae]
   exact ⟨rfl, VI.zero hm⟩
  have h0 : 0 < args.length := by omega
  have hvv := (hv _ (List.getElem_mem h0)).out
  rw [decide_eq_true hc]
  obtain ⟨hc1, hc2⟩ := hc
  simp only [Qcb h0] at hc2 ⊢
  simp only [Bool.not_true, Bool.false_eq_true, if_false, show idx args 0 = some args[0] from Qap args 0 h0, Qae]
  by_cases hi : args[0].items.length = 0
  ·rw [decide_eq_true (show (args[0].items.length : Int) = 0 by omega), if_neg (show ¬ (args.length = 1 /\ args[0].kind = 3 /\ args[0].items.length ≠ 0) from fun h => h.2.2 hi)]
   exact ⟨rfl, VI.zero hm⟩
  ·have e6 : Qy4 args[0].items 1 (args[0].items.length : Int) = some (args[0].items.drop 1) := by
    unfold Qy4
    rw [if_pos ⟨by omega, by omega, by omega⟩]
    congr 1
    exact List.take_of_length_le (by rw [List.length_drop]; omega)
   rw [decide_eq_false (show ¬ (args[0].items.length : Int) = 0 by omega), if_pos (show (args.length = 1 /\ args[0].kind = 3 /\ args[0].items.length ≠ 0) from ⟨hc1, hc2, hi⟩), e6]
   exact ⟨rfl, VI.list hm (by rw [List.length_drop]; have := hvv.2.2.1; omega) fun y hy => hvv.2.2.2.2.2.1 y (List.mem_of_mem_drop hy)⟩
 have h4' := h4; unfold Q91 at h4'
 rw [if_neg h3, if_neg h4]
 simp only [h3', h4', if_false, decide_false, Bool.false_eq_true, Qak, Qae, e2]
 by_cases hc : args.length = 2 /\ (args.getD 0 zV).kind = 1
 rotate_left
 ·rw [decide_eq_false hc, if_neg (show ¬ (args.length = 2 /\ (args.getD 0 zV).kind = 1 /\ (args.getD 1 zV).kind = 1) from fun h => hc ⟨h.1, h.2.1⟩)]
  simp only [Bool.not_false, if_true, Qae]
  exact ⟨rfl, VI.zero hm⟩
 rw [decide_eq_true hc]
 have h0 : 0 < args.length := by omega
 have h11 : 1 < args.length := by omega
 obtain ⟨hc1, hc2⟩ := hc
 simp only [Qcb h0, Qcb h11] at hc2 ⊢
 simp only [Bool.not_true, Bool.false_eq_true, if_false, show idx args 0 = some args[0] from Qap args 0 h0, show idx args 1 = some args[1] from Qap args 1 h11, Qae]
 by_cases hk : args[1].kind = 1
 rotate_left
 ·rw [decide_eq_false hk, if_neg (show ¬ (args.length = 2 /\ args[0].kind = 1 /\ args[1].kind = 1) from fun h => hk h.2.2)]
  exact ⟨rfl, VI.zero hm⟩
 rw [decide_eq_true hk, if_pos (show (args.length = 2 /\ args[0].kind = 1 /\ args[1].kind = 1) from ⟨hc1, hc2, hk⟩)]
 simp only [Bool.not_true, Bool.false_eq_true, if_false]
 constructor
 ·unfold Kgx Kmc
  by_cases n1 : name = ByteArray.mk #[60]
  ·have n2 : ¬ name = ByteArray.mk #[61] := by rw [n1]; decide
   by_cases c1 : args[0].num < args[1].num
   ·rw [if_pos (show (name = ByteArray.mk #[60] /\ args[0].num < args[1].num ∨ name = ByteArray.mk #[61] /\ args[0].num = args[1].num) from .inl ⟨n1, c1⟩), if_pos n1, decide_eq_true c1]; rfl
   ·rw [if_neg (show ¬ (name = ByteArray.mk #[60] /\ args[0].num < args[1].num ∨ name = ByteArray.mk #[61] /\ args[0].num = args[1].num) from fun h => h.elim (fun h => c1 h.2) (fun h => n2 h.1)), if_pos n1, decide_eq_false c1]
    simp only [Qae, Bool.false_eq_true, if_false, n2]; rfl
  ·by_cases n3 : name = ByteArray.mk #[61]
   ·by_cases c1 : args[0].num = args[1].num
    ·rw [if_pos (show (name = ByteArray.mk #[60] /\ args[0].num < args[1].num ∨ name = ByteArray.mk #[61] /\ args[0].num = args[1].num) from .inr ⟨n3, c1⟩), if_neg n1]
     simp only [Qae, Bool.false_eq_true, if_false]
     rw [if_pos n3, decide_eq_true c1]; rfl
    ·rw [if_neg (show ¬ (name = ByteArray.mk #[60] /\ args[0].num < args[1].num ∨ name = ByteArray.mk #[61] /\ args[0].num = args[1].num) from fun h => h.elim (fun h => n1 h.1) (fun h => c1 h.2)), if_neg n1]
     simp only [Qae, Bool.false_eq_true, if_false]
     rw [if_pos n3, decide_eq_false c1]; rfl
   ·rw [if_neg (show ¬ (name = ByteArray.mk #[60] /\ args[0].num < args[1].num ∨ name = ByteArray.mk #[61] /\ args[0].num = args[1].num) from fun h => h.elim (fun h => n1 h.1) (fun h => n3 h.1)), if_neg n1]
    simp only [Qae, Bool.false_eq_true, if_false]
    rw [if_neg n3]; rfl
 ·split
  ·exact VI.num hm (by decide)
  ·exact VI.num hm (by decide)
end Go.Proofs.SA
open Go.IntKind (i64)
namespace Go.Proofs.SA
theorem Q1d : ∀ (is : List Int) (vs : List Val), is.length = vs.length -> (Qvr is vs).length = vs.length
 | [], [], _ => rfl
 | i :: is, v :: vs, h => by rw [Qvr, List.length_cons, Q1d is vs (by simpa using h)]; rfl
theorem Q1e : ∀ (is : List Int) (vs : List Val), ∀ s ∈ Qvr is vs, s.val ∈ vs
 | [], _, s, h => by cases h
 | i :: is, [], s, h => by cases h
 | i :: is, v :: vs, s, h => by
  rw [Qvr] at h
  rcases List.mem_cons.1 h with rfl | h
  ·exact List.mem_cons_self ..
  ·exact List.mem_cons_of_mem _ (Q1e is vs s h)
theorem Kc7 (f : Val) (args : List Val) (m : Int) (hl : args.length = f.fn.ids.length) (h1 : args.length <= 1000) (h2 : f.env.length <= 10000000) : Qdn f args m f.env 0 = some (f.env ++ Qvr f.fn.ids args) := by
 rw [Quv _ _ _ _ (by omega)]
 have key : ∀ (r : List Val) (i : Nat) (z : List Slt), args.drop i = r -> z.length + r.length <= 20000000 -> Qf5 f args m z i r = some (z ++ Qvr (f.fn.ids.drop i) r) := by
  intro r
  induction r with
  | nil =>
   intro i z hd _
   have : args.length <= i := by
    rcases Nat.lt_or_ge i args.length with h | h
    ·rw [List.drop_eq_getElem_cons h] at hd; cases hd
    ·exact h
   rw [Qf5, List.drop_of_length_le (by omega)]; simp [Qak, Qvr]
  | cons v r ih =>
   intro i z hd hz
   simp only [List.length_cons] at hz
   have hi : i < args.length := by
    rcases Nat.lt_or_ge i args.length with h | h
    ·exact h
    ·rw [List.drop_of_length_le h] at hd; cases hd
   have hd2 : args.drop (i + 1) = r := by rw [← List.drop_drop, hd]; rfl
   rw [Qf5, Qap _ i (by omega), Qae, Qak, Qae, Qbb (by simp; omega), Qae, ih (i + 1) _ hd2 (by simp; omega), List.drop_eq_getElem_cons (show i < f.fn.ids.length by omega), Qvr, List.append_assoc]; rfl
 exact key args 0 f.env (List.drop_zero ..) (by omega)
def Kje (n : Nat) (o : Option (Val × Int × Int)) (e : Val × Int × Nat) : Prop := o = some (e.1, e.2.1, (e.2.2 : Int)) /\ VI e.2.2 e.1 /\ e.2.2 <= n /\ (0 < n -> e.2.2 < n)
theorem evz {n k : Nat} {e : Int} (hk : k <= 3001) (h1 : k <= n) (h2 : 0 < n -> k < n) : Kje n (some (zV, e, (k : Int))) (zV, e, k) := ⟨rfl, VI.zero hk, h1, h2⟩
theorem evv {n k : Nat} {e : Int} {v : Val} (hv : VI k v) (h1 : k <= n) (h2 : 0 < n -> k < n) : Kje n (some (v, e, (k : Int))) (v, e, k) := ⟨rfl, hv, h1, h2⟩
theorem Q11 {c : Cor} (h : AR c) (hn : c.nodes <= 600) {x : Cor} (hx : x ∈ c.kids) : AR x /\ x.nodes <= 600 := by
 have := Cor.Qa4 c
 have := Qf9 Cor.nodes c.kids x hx
 exact ⟨h.out.2.2.2.2.2.2 x hx, by omega⟩
theorem Q67 : ∀ (g : Nat), g <= 3001 -> ∀ (n : Nat), n <= g -> ∀ (c : Cor), AR c -> c.nodes <= 600 -> ∀ env : List Slt, (∀ s ∈ env, VI n s.val) -> env.length + 1000 * n <= 10000000 -> Kje n (Qce c env (n : Int)) (evG g c env n) := by
 intro g
 induction g with
 | zero =>
  intro _ n hn c _ _ env _ _
  obtain rfl : n = 0 := by omega
  rw [Qce, if_pos (by rfl), evG]
  exact evz (by omega) (by omega) (fun h => by omega)
 | succ g ih =>
  intro hg n hn c hc hcn env henv hel
  have ihg := ih (by omega)
  rw [Qce, evG]
  by_cases h0 : n = 0
  ·subst h0
   rw [if_pos (by rfl), if_pos rfl]
   exact evz (k := 0) (by decide) (Nat.le_refl _) (fun h => by omega)
  rw [if_neg (show ¬ (n : Int) = 0 by omega), if_neg h0, show i64.wrap ((n : Int) - 1) = ((n - 1 : Nat) : Int) by rw [Qa8 (by omega) (by omega)]; omega]
  obtain ⟨c1, c2, c3, c4, c5, c6, c7⟩ := hc.out
  have henv' : ∀ s ∈ env, VI (n - 1) s.val := fun s hs => VI.mono (by omega) _ (henv s hs)
  have fin : ∀ {v : Val} {e : Int}, VI (n - 1) v -> Kje n (some (v, e, ((n - 1 : Nat) : Int))) (v, e, n - 1) := fun h => ⟨rfl, h, by show n - 1 <= n; omega, fun _ => by show n - 1 < n; omega⟩
  by_cases k1 : c.kind = 1
  ·rw [if_pos k1, if_pos k1, Kdg _ _ (by omega), Qae]
   exact fin (Kd0 (by omega) henv' _)
  by_cases k3 : c.kind = 3
  ·rw [if_neg k1, if_pos k3, if_neg k1, if_pos k3]
   exact fin (VI.num (by omega) (by omega))
  by_cases k4 : c.kind = 4
  ·rw [if_neg k1, if_neg k3, if_pos k4, if_neg k1, if_neg k3, if_pos k4]
   have hdz : c.data.sz <= 1000000 := by
    rcases c5 with h | h
    ·have := h.sz; omega
    ·rw [h]; decide
   rw [Q4y _ hdz, Qae]
   refine fin ?_
   rcases c5 with h | h
   ·exact VI.data (by omega) 40 _ h.1 h.2
   ·rw [h]
    rw [Qu5]
    exact VI.list (by omega) (by decide) (fun x hx => by cases hx)
  by_cases k5 : c.kind = 5
  ·rw [if_neg k1, if_neg k3, if_neg k4, if_pos k5, if_neg k1, if_neg k3, if_neg k4, if_pos k5]
   exact fin (.mk (by decide) (by decide) (by simp) (.inl ⟨rfl, hc, k5, hcn⟩) (by omega) (by simp) henv')
  by_cases k2 : c.kind = 2
  ·rw [if_neg k1, if_neg k3, if_neg k4, if_neg k5, if_pos k2, if_neg k1, if_neg k3, if_neg k4, if_neg k5, if_pos k2]
   rw [show Ql3 = some Kig from rfl, Qae, Kk6 _ _ (by decide), Qae]
   by_cases hb : hasB Kig c.name = true
   ·rw [if_pos hb, if_pos hb]
    exact fin (.mk (by decide) c2 (by simp) (.inr ⟨by decide, rfl⟩) (by simp; omega) (by simp) (by simp))
   ·rw [if_neg hb, if_neg hb]
    exact fin (VI.zero (by omega))
  by_cases k7 : c.kind = 7
  ·rw [if_neg k1, if_neg k3, if_neg k4, if_neg k5, if_neg k2, if_pos k7, if_neg k1, if_neg k3, if_neg k4, if_neg k5, if_neg k2, if_pos k7]
   have hl : c.kids.length = 3 := by rcases c1 with h | h | h | h <;> omega
   have l0 : 0 < c.kids.length := by omega
   have l1 : 1 < c.kids.length := by omega
   have l2 : 2 < c.kids.length := by omega
   rw [show idx c.kids 0 = some c.kids[0] from Qap _ 0 l0, Qae, Qcb l0, Qcb l1, Qcb l2]
   have q0 := Q11 hc hcn (List.getElem_mem l0)
   have q1 := Q11 hc hcn (List.getElem_mem l1)
   have q2 := Q11 hc hcn (List.getElem_mem l2)
   obtain ⟨r1, r2, r3, r4⟩ := ihg (n - 1) (by omega) c.kids[0] q0.1 q0.2 env henv' (by omega)
   rw [r1, Qae]
   generalize evG g c.kids[0] env (n - 1) = e at r1 r2 r3 r4
   simp only
   by_cases he : e.2.1 = 0
   rotate_left
   ·rw [if_neg he, if_neg he]
    exact evz (by omega) (by omega) (fun _ => by omega)
   rw [if_pos he, if_pos he]
   have sub : ∀ (k : Cor), AR k /\ k.nodes <= 600 -> Kje n (Qce k env (e.2.2 : Int) >>= fun x => pure (x.1, x.2.1, x.2.2)) (evG g k env e.2.2) := fun k hk => by
    obtain ⟨s1, s2, s3, s4⟩ := ihg e.2.2 (by omega) k hk.1 hk.2 env (fun s hs => VI.mono (by omega) _ (henv s hs)) (by omega)
    rw [s1, Qae]
    exact ⟨rfl, s2, by omega, fun _ => by omega⟩
   by_cases hz : e.1.kind = 1 /\ e.1.num = 0
   ·rw [decide_eq_true hz.1, decide_eq_true hz.2, if_pos hz]
    simp only [Bool.and_self, Qak, Qae, if_true, show idx c.kids 2 = some c.kids[2] from Qap _ 2 l2]
    exact sub _ q2
   ·have hb : (decide (e.1.kind = 1) && decide (e.1.num = 0)) = false := by
     by_cases ha : e.1.kind = 1
     ·rw [decide_eq_false (fun h => hz ⟨ha, h⟩), Bool.and_false]
     ·rw [decide_eq_false ha, Bool.false_and]
    rw [hb, if_neg hz]
    simp only [Qak, Qae, Bool.false_eq_true, if_false, show idx c.kids 1 = some c.kids[1] from Qap _ 1 l1]
    exact sub _ q1
  rw [if_neg k1, if_neg k3, if_neg k4, if_neg k5, if_neg k2, if_neg k7, if_neg k1, if_neg k3, if_neg k4, if_neg k5, if_neg k2, if_neg k7]
  have hl : 1 <= c.kids.length := by rcases c1 with h | h | h | h <;> omega
  rw [Quz _ _ _ _ (by omega)]
  have loop : ∀ (r : List Cor) (i : Nat) (z : List Val) (m : Nat), (∀ x ∈ r, x ∈ c.kids) -> m <= n - 1 -> z.length + r.length <= 1000 -> (∀ v ∈ z, VI m v) ->
    match Qv2 (fun c n => evG g c env n) r m with
    | .inl (e, k) => Qeo c env z (m : Int) i r = some (.inl (zV, e, (k : Int))) /\ k <= m
    | .inr (vs, k) => Qeo c env z (m : Int) i r = some (.inr (z ++ vs, (k : Int))) /\ k <= m /\ (∀ v ∈ z ++ vs, VI k v) /\ vs.length = r.length := by
   intro r
   induction r with
   | nil => intro i z m _ _ _ hz; rw [Qv2]; exact ⟨by rw [Qeo, Qak, List.append_nil], Nat.le_refl _, by simpa using hz, rfl⟩
   | cons k r ihr =>
    intro i z m hr hm hz hzv
    simp only [List.length_cons] at hz
    have hk := Q11 hc hcn (hr k (List.mem_cons_self ..))
    obtain ⟨r1, r2, r3, r4⟩ := ihg m (by omega) k hk.1 hk.2 env (fun s hs => VI.mono (by omega) _ (henv s hs)) (by omega)
    rw [Qv2, Qeo, Qak, Qae, r1, Qae]
    generalize evG g k env m = e at r1 r2 r3 r4
    simp only
    by_cases he : e.2.1 = 0
    rotate_left
    ·rw [if_neg he, if_neg he]; exact ⟨rfl, r3⟩
    rw [if_pos he, if_pos he, Qbb (by simp; omega), Qae]
    have hnext := ihr (i + 1) (z ++ [e.1]) e.2.2 (fun x hx => hr x (List.mem_cons_of_mem _ hx)) (by omega) (by simp; omega) (fun v hv => by
     rcases List.mem_append.1 hv with hv | hv
     ·exact VI.mono r3 _ (hzv v hv)
     ·rw [List.mem_singleton.1 hv]; exact r2)
    cases hE : Qv2 (fun c n => evG g c env n) r e.2.2 with
    | inl x =>
     rw [hE] at hnext
     exact ⟨hnext.1, by have := hnext.2; omega⟩
    | inr x =>
     obtain ⟨vs, kk⟩ := x
     rw [hE] at hnext
     obtain ⟨t1, t2, t3, t4⟩ := hnext
     refine ⟨?_, by omega, ?_, by simp [t4]⟩
     ·rw [t1, List.append_assoc]; rfl
     ·rw [List.append_assoc] at t3; exact t3
  have hloop := loop c.kids 0 [] (n - 1) (fun _ h => h) (Nat.le_refl _) (by simp; omega) (by simp)
  cases hE : Qv2 (fun c n => evG g c env n) c.kids (n - 1) with
  | inl x =>
   obtain ⟨e, k⟩ := x
   rw [hE] at hloop
   rw [hloop.1, Qae]
   have := hloop.2
   exact evz (by omega) (by omega) (fun _ => by omega)
  | inr x =>
   obtain ⟨vs, m⟩ := x
   rw [hE] at hloop
   obtain ⟨t1, t2, t3, t4⟩ := hloop
   rw [List.nil_append] at t1 t3
   rw [t1, Qae]
   cases vs with
   | nil => simp at t4; omega
   | cons f args =>
    have hf := t3 f (List.mem_cons_self ..)
    have ha : ∀ v ∈ args, VI m v := fun v hv => t3 v (List.mem_cons_of_mem _ hv)
    have hal : args.length <= 600 := by simp at t4; omega
    have hsub : Qy4 (f :: args) 1 ((f :: args).length : Int) = some args := by
     unfold Qy4
     rw [if_pos ⟨by omega, by simp; omega, by omega⟩]
     simp
    simp only [show idx (f :: args) 0 = some f from rfl, Qae, hsub]
    obtain ⟨f1, f2, f3, f4, f5, f6, f7⟩ := hf.out
    rw [Qnh, Kfu]
    by_cases h5 : f.kind = 5
    ·rw [if_pos h5, if_pos h5]
     obtain ⟨p1, p2⟩ := Kd4 (m := m) (by omega) f.name args (by omega) ha
     rw [p1, Qae]
     exact evv p2 (by omega) (fun _ => by omega)
    rw [if_neg h5, if_neg h5]
    by_cases h4 : f.kind = 4
    rotate_left
    ·rw [if_neg h4, if_neg h4]
     exact evz (by omega) (by omega) (fun _ => by omega)
    rw [if_pos h4, if_pos h4]
    by_cases hal2 : args.length = f.fn.ids.length
    rotate_left
    ·rw [if_neg (show ¬ (args.length : Int) = (f.fn.ids.length : Int) by omega), if_neg hal2]
     exact evz (by omega) (by omega) (fun _ => by omega)
    rw [if_pos (show (args.length : Int) = (f.fn.ids.length : Int) by omega), if_pos hal2]
    have hfn : AR f.fn /\ f.fn.kind = 5 /\ f.fn.nodes <= 600 := by
     rcases f4 with h | h
     ·exact h.2
     ·exact absurd h4 h.1
    have hk0 : 0 < f.fn.kids.length := by
     have := hfn.1.out.1
     rcases this with h | h | h | h <;> omega
    have hkid := Q11 hfn.1 hfn.2.2 (List.getElem_mem hk0)
    rw [Qbb (by simp; omega), Qae, List.nil_append, Kc7 f args _ hal2 (by omega) (by omega), Qae, show idx f.fn.kids 0 = some f.fn.kids[0] from Qap _ 0 hk0, Qae, Qcb hk0]
    have hbl := Q1d f.fn.ids args hal2.symm
    obtain ⟨s1, s2, s3, s4⟩ := ihg m (by omega) f.fn.kids[0] hkid.1 hkid.2 (f.env ++ Qvr f.fn.ids args) (fun s hs => by
     rcases List.mem_append.1 hs with hs | hs
     ·exact f7 s hs
     ·exact ha _ (Q1e _ _ s hs)) (by rw [List.length_append, hbl]; omega)
    rw [s1]
    exact ⟨rfl, s2, by omega, fun _ => by omega⟩
theorem Q7w {m : Nat} : ∀ (v : Val), VI m v -> ∀ (most : Nat), most <= 2000 -> Tot (Qhy v (most : Int)) fun r => ∃ k : Nat, r = (k : Int) /\ 1 <= k /\ k <= most + 1 /\ (k <= most -> k = v.nodes) /\ (v.nodes <= most -> k = v.nodes) := by
 intro v
 induction v using Val.ind with
 | h v ih1 ih2 =>
  intro hv most hmost
  obtain ⟨a1, a2, a3, a4, a5, a6, a7⟩ := hv.out
  have hne := Val.Qa4 v
  have pos : ∀ w : Val, 1 <= w.nodes := fun w => by rw [Val.Qa4]; omega
  have step : ∀ (n k : Nat) (w : Val), n <= most -> 1 <= k -> k <= most - n + 1 -> ((i64.wrap ((n : Int) + (k : Int))) = ((n + k : Nat) : Int)) := fun n k w h1 h2 h3 => by rw [Qa8 (by omega) (by omega)]; omega
  have lp0 : ∀ (d i n : Nat), i + d = v.items.length -> 1 <= n -> n <= most + 1 -> Tot (Qg2 v (most : Int) (n : Int) (i : Int)) fun r => ∃ k : Nat, r = (k : Int) /\ n <= k /\ k <= most + 1 /\ (k <= most -> k = n + Qbg Val.nodes (v.items.drop i)) /\ (n + Qbg Val.nodes (v.items.drop i) <= most -> k = n + Qbg Val.nodes (v.items.drop i)) := by
   intro d
   induction d with
   | zero =>
    intro i n hi h1 h2
    rw [Qg2, Qak, Qae, decide_eq_false (show ¬ (i : Int) < (v.items.length : Int) by omega)]
    simp only [Bool.false_and, Bool.false_eq_true, if_false]
    rw [show i = v.items.length by omega, List.drop_length]
    exact ⟨_, rfl, n, rfl, Nat.le_refl _, h2, fun _ => by simp [Qbg], fun _ => by simp [Qbg]⟩
   | succ d ihd =>
    intro i n hi h1 h2
    have hil : i < v.items.length := by omega
    have hm := List.getElem_mem hil
    rw [Qg2, Qak, Qae, decide_eq_true (show (i : Int) < (v.items.length : Int) by omega), Bool.true_and, List.drop_eq_getElem_cons hil, Qbg]
    have hp := pos v.items[i]
    by_cases hn : n <= most
    ·rw [decide_eq_true (show (n : Int) <= (most : Int) by omega)]
     simp only [if_true, Qap _ i hil, Qae]
     rw [show i64.wrap ((most : Int) - (n : Int)) = ((most - n : Nat) : Int) by rw [Qa8 (by omega) (by omega)]; omega]
     obtain ⟨r, hr, k, rfl, q1, q2, q3, q4⟩ := ih1 _ hm (a6 _ hm) (most - n) (by omega)
     rw [hr, Qae, step n k v.items[i] hn q1 q2, Qar (i := i) (by omega)]
     obtain ⟨r2, hr2, k2, rfl, u1, u2, u3, u4⟩ := ihd (i + 1) (n + k) (by omega) (by omega) (by omega)
     refine ⟨_, hr2, k2, rfl, by omega, u2, fun h => ?_, fun h => ?_⟩
     ·have := q3 (by omega); have := u3 h; omega
     ·have := q4 (by omega); have := u4 (by omega); omega
    ·rw [decide_eq_false (show ¬ (n : Int) <= (most : Int) by omega)]
     simp only [Bool.false_eq_true, if_false]
     exact ⟨_, rfl, n, rfl, Nat.le_refl _, h2, fun h => by omega, fun h => by omega⟩
  have lp1 : ∀ (d i n : Nat), i + d = v.env.length -> 1 <= n -> n <= most + 1 -> Tot (Qg3 v (most : Int) (n : Int) (i : Int)) fun r => ∃ k : Nat, r = (k : Int) /\ n <= k /\ k <= most + 1 /\ (k <= most -> k = n + Qbg Slt.nodes (v.env.drop i)) /\ (n + Qbg Slt.nodes (v.env.drop i) <= most -> k = n + Qbg Slt.nodes (v.env.drop i)) := by
   intro d
   induction d with
   | zero =>
    intro i n hi h1 h2
    rw [Qg3, Qak, Qae, decide_eq_false (show ¬ (i : Int) < (v.env.length : Int) by omega)]
    simp only [Bool.false_and, Bool.false_eq_true, if_false]
    rw [show i = v.env.length by omega, List.drop_length]
    exact ⟨_, rfl, n, rfl, Nat.le_refl _, h2, fun _ => by simp [Qbg], fun _ => by simp [Qbg]⟩
   | succ d ihd =>
    intro i n hi h1 h2
    have hil : i < v.env.length := by omega
    have hm := List.getElem_mem hil
    rw [Qg3, Qak, Qae, decide_eq_true (show (i : Int) < (v.env.length : Int) by omega), Bool.true_and, List.drop_eq_getElem_cons hil, Qbg]
    have hp := pos v.env[i].val
    have hsn := Slt.Qa4 v.env[i]
    by_cases hn : n <= most
    ·rw [decide_eq_true (show (n : Int) <= (most : Int) by omega)]
     simp only [if_true, Qap _ i hil, Qae]
     rw [show i64.wrap ((most : Int) - (n : Int)) = ((most - n : Nat) : Int) by rw [Qa8 (by omega) (by omega)]; omega]
     obtain ⟨r, hr, k, rfl, q1, q2, q3, q4⟩ := ih2 _ hm (a7 _ hm) (most - n) (by omega)
     rw [hr, Qae, step n k v.env[i].val hn q1 q2, Qar (i := i) (by omega)]
     obtain ⟨r2, hr2, k2, rfl, u1, u2, u3, u4⟩ := ihd (i + 1) (n + k) (by omega) (by omega) (by omega)
     refine ⟨_, hr2, k2, rfl, by omega, u2, fun h => ?_, fun h => ?_⟩
     ·have := q3 (by omega); have := u3 h; omega
     ·have := q4 (by omega); have := u4 (by omega); omega
    ·rw [decide_eq_false (show ¬ (n : Int) <= (most : Int) by omega)]
     simp only [Bool.false_eq_true, if_false]
     exact ⟨_, rfl, n, rfl, Nat.le_refl _, h2, fun h => by omega, fun h => by omega⟩
  rw [Qhy]
  obtain ⟨r, hr, k, rfl, q1, q2, q3, q4⟩ := lp0 v.items.length 0 1 (by omega) (Nat.le_refl _) (by omega)
  rw [show ((0 : Nat) : Int) = 0 from rfl, show ((1 : Nat) : Int) = 1 from rfl] at hr
  rw [hr, Qae]
  obtain ⟨r2, hr2, k2, rfl, u1, u2, u3, u4⟩ := lp1 v.env.length 0 k (by omega) q1 q2
  rw [show ((0 : Nat) : Int) = 0 from rfl] at hr2
  rw [hr2, Qae]
  rw [List.drop_zero] at q3 q4 u3 u4
  refine ⟨_, rfl, k2, rfl, by omega, u2, fun h => ?_, fun h => ?_⟩
  ·have := u3 h; have := q3 (by omega); omega
  ·have := q4 (by omega); have := u4 (by omega); omega
theorem AR.Kn2 {c : Cor} (h : AR c) : Q0y c := by
 induction h with
 | mk ha hs hn hl hd hk _ ih =>
  refine .mk (by omega) ?_ (by omega) ih
  rcases hd with h | h
  ·have := h.sz; omega
  ·rw [h]; decide
theorem Kpv : Q0y zC := .mk (by decide) (by decide) (by decide) (by simp)
theorem VI.fnB {m : Nat} {v : Val} (h : VI m v) : Q0y v.fn := by
 rcases h.out.2.2.2.1 with h | h
 ·exact h.2.1.Kn2
 ·rw [h.2]; exact Kpv
theorem Q4x {m : Nat} : ∀ v : Val, VI m v -> Qe1 v = some v := by
 intro v
 induction v using Val.ind with
 | h v ih1 ih2 =>
  intro hv
  obtain ⟨a1, a2, a3, a4, a5, a6, a7⟩ := hv.out
  rw [Qe1, Qzq _ hv.fnB, Qae, Quw _ _ _ (by omega), Qis (Qhh v v.fn) id (fun _ _ => rfl) v.items [] 0 (fun x hx z i r hz => by
   rw [Qhh, Qak, Qae, ih1 x hx (a6 x hx), Qae, Qbb (by simp; omega), Qae]; rfl) (by simp; omega), Qae, Qux _ _ _ _ (by omega), Qis (Qhi v v.fn _) id (fun _ _ => rfl) v.env [] 0 (fun x hx z i r hz => by
   rw [Qhi, Qak, Qae, ih2 x hx (a7 x hx), Qae, Qbb (by simp; omega), Qae, Slt.eta]; rfl) (by simp; omega)]
  simp only [Qae, Qak, List.nil_append, List.map_id, Val.eta]
open Classical in
noncomputable def Kdd (c : Cor) (fuel : Int) : Val × Int :=
  if CV c /\ 0 <= fuel /\ fuel <= 3000 then
    (if (evG fuel.toNat c [] fuel.toNat).2.1 = 0 then (if (evG fuel.toNat c [] fuel.toNat).1.nodes <= 2000 then ((evG fuel.toNat c [] fuel.toNat).1, 0) else (zV, 4))
     else (zV, (evG fuel.toNat c [] fuel.toNat).2.1))
  else (zV, 5)
theorem Q3s {c : Cor} (hc : Q0y c) (hn : c.nodes <= 1000000000) (fuel : Int) : Qjr c fuel = some (Kdd c fuel) /\ (∃ m, VI m (Kdd c fuel).1) /\ (Kdd c fuel).1.nodes <= 2000 := by
 have hz : (∃ m, VI m zV) /\ zV.nodes <= 2000 := ⟨⟨0, VI.zero (by omega)⟩, by rw [Val.Qa4]; decide⟩
 rw [Qjr]
 obtain ⟨b, e, hb⟩ := Qpf hc hn
 rw [e, Qae]
 unfold Kdd
 cases b
 ·rw [if_neg (fun h => by have := hb.2 h.1; cases this)]
  simp only [Bool.not_false, Bool.true_or, Qak, Qae, if_true]
  exact ⟨rfl, hz⟩
 have hcv := hb.1 rfl
 by_cases h0 : fuel < 0
 ·rw [if_neg (fun h => by omega), decide_eq_true h0]
  simp only [Bool.not_true, Bool.or_true, Bool.true_or, Qak, Qae, if_true]
  exact ⟨rfl, hz⟩
 by_cases h1 : fuel > 3000
 ·rw [if_neg (fun h => by omega), decide_eq_true h1]
  simp only [Bool.or_true, Qak, Qae, if_true]
  exact ⟨rfl, hz⟩
 rw [if_pos ⟨hcv, by omega, by omega⟩, decide_eq_false h0, decide_eq_false h1]
 simp only [Bool.not_true, Bool.or_false, Qak, Qae, Bool.false_eq_true, if_false]
 have hf : ((fuel.toNat : Nat) : Int) = fuel := by omega
 obtain ⟨r1, r2, r3, r4⟩ := Q67 fuel.toNat (by omega) fuel.toNat (Nat.le_refl _) c hcv.ar hcv.2 [] (by simp) (by simp; omega)
 rw [hf] at r1
 rw [r1, Qae]
 generalize evG fuel.toNat c [] fuel.toNat = e at r1 r2 r3 r4
 simp only
 by_cases he : e.2.1 = 0
 rotate_left
 ·rw [if_neg he, if_neg he]; exact ⟨rfl, hz⟩
 rw [if_pos he, if_pos he]
 obtain ⟨r, hr, k, rfl, q1, q2, q3, q4⟩ := Q7w e.1 r2 2000 (by omega)
 rw [show ((2000 : Nat) : Int) = 2000 from rfl] at hr
 rw [hr, Qae]
 by_cases hk : e.1.nodes <= 2000
 ·rw [if_pos hk, if_neg (by have := q4 hk; omega), Q4x _ r2, Qae, he]
  exact ⟨rfl, ⟨_, r2⟩, hk⟩
 ·rw [if_neg hk, if_pos (by
   have : ¬ k <= 2000 := fun h => hk (by have := q3 h; omega)
   omega)]
  exact ⟨rfl, hz⟩
end Go.Proofs.SA
namespace Go.Proofs.Shadow
def Qmn : Nat -> Val -> Val -> Bool
 | 0, _, _ => false
 | n + 1, a, b => decide (a.kind = b.kind) && decide (a.num = b.num) && decide (a.name = b.name) && decide (a.items.length = b.items.length) && ((a.items.zip b.items).all fun p => Qmn n p.1 p.2) && decide (VT 40 a = VT 40 b)
end Go.Proofs.Shadow
namespace Go.Proofs.SA
theorem FM.Klm {n : Nat} (hn : n <= 4611686018427387904) (f : Fm) : f.sz <= n -> f.Ok := by
 induction f using Fm.ind with
 | h f ih =>
  intro hs g hg
  have hz := Fm.Qgf f
  obtain ⟨k, s, m, sc, ks⟩ := f
  simp only [Fm.name, Fm.sc, Fm.kids] at hz
  rw [Fm.all] at hg
  rcases List.mem_cons.1 hg with rfl | hg
  ·simp only [Fm.name, Fm.sc, Fm.kids]; omega
  ·obtain ⟨x, hx, hg⟩ := Fm.Q29 ks g hg
   have hxs := Qf9 Fm.sz ks x hx
   exact ih x hx (by omega) g hg
theorem Kl2 : zF.Ok := FM.Klm (Nat.le_refl _) zF (by decide)
theorem FV.ok (d : Nat) (f : Fm) (_ : FIs d f) (h : f.sz <= 100000) : f.Ok := FM.Klm (n := 100000) (by omega) f h
theorem AR.ok {c : Cor} (h : AR c) : c.Ok := by
 induction h with
 | mk ha hs hn hl hd hk _ ih =>
  refine .mk (by omega) (by omega) ?_ (by omega) ih
  rcases hd with h | h
  ·exact FV.ok 40 _ h.1 (by have := h.sz; omega)
  ·rw [h]; exact Kl2
theorem Knt : zC.Ok := .mk (by decide) (by decide) Kl2 (by decide) (fun x hx => by cases hx)
theorem VI.ok {m : Nat} : ∀ v : Val, VI m v -> v.Ok := by
 intro v
 induction v using Val.ind with
 | h v ih1 ih2 =>
  intro hv
  obtain ⟨a1, a2, a3, a4, a5, a6, a7⟩ := hv.out
  obtain ⟨k, n, s, l, f, e⟩ := v
  simp only [Val.num, Val.name, Val.items, Val.fn, Val.env, Val.kind] at *
  refine .mk (by unfold Kjf; omega) (by omega) (by omega) ?_ (by omega) (fun x hx => ih1 x hx (a6 x hx)) (fun x hx => ?_)
  ·rcases a4 with h | h
   ·exact h.2.1.ok
   ·rw [h.2]; exact Knt
  ·obtain ⟨i, w⟩ := x
   exact .mk (ih2 _ hx (a7 _ hx))
theorem AR.sz : ∀ c : Cor, AR c -> c.sz + 1 <= 20000 * c.nodes := by
 intro c
 induction c using Cor.ind with
 | h c ih =>
  intro hc
  obtain ⟨c1, c2, c3, c4, c5, c6, c7⟩ := hc.out
  have hd : c.data.sz <= 14800 := by
   rcases c5 with h | h
   ·exact h.sz
   ·rw [h]; decide
  have hs : ∀ l : List Cor, (∀ x ∈ l, x.sz + 1 <= 20000 * x.nodes) -> Qbg Cor.sz l + l.length <= 20000 * Qbg Cor.nodes l := by
   intro l
   induction l with
   | nil => intro _; exact Nat.le_refl _
   | cons x l ihl =>
    intro h
    have h1 := h x (List.mem_cons_self ..)
    have h2 := ihl (fun y hy => h y (List.mem_cons_of_mem _ hy))
    simp only [Qbg, List.length_cons]; omega
  have := hs c.kids (fun x hx => ih x hx (c7 x hx))
  rw [Cor.Qgf, Cor.Qa4]
  omega
theorem VI.sz {m : Nat} : ∀ v : Val, VI m v -> v.sz + 1 <= 12001000 * v.nodes := by
 intro v
 induction v using Val.ind with
 | h v ih1 ih2 =>
  intro hv
  obtain ⟨a1, a2, a3, a4, a5, a6, a7⟩ := hv.out
  have hf : v.fn.sz <= 12000000 := by
   rcases a4 with h | h
   ·have := AR.sz _ h.2.1; have := h.2.2.2; omega
   ·rw [h.2]; decide
  have s1 : ∀ l : List Val, (∀ x ∈ l, x.sz + 1 <= 12001000 * x.nodes) -> Qbg Val.sz l + l.length <= 12001000 * Qbg Val.nodes l := by
   intro l
   induction l with
   | nil => intro _; exact Nat.le_refl _
   | cons x l ihl =>
    intro h
    have h1 := h x (List.mem_cons_self ..)
    have h2 := ihl (fun y hy => h y (List.mem_cons_of_mem _ hy))
    simp only [Qbg, List.length_cons]; omega
  have s2 : ∀ l : List Slt, (∀ x ∈ l, x.sz + 1 <= 12001000 * x.nodes) -> Qbg Slt.sz l + l.length <= 12001000 * Qbg Slt.nodes l := by
   intro l
   induction l with
   | nil => intro _; exact Nat.le_refl _
   | cons x l ihl =>
    intro h
    have h1 := h x (List.mem_cons_self ..)
    have h2 := ihl (fun y hy => h y (List.mem_cons_of_mem _ hy))
    simp only [Qbg, List.length_cons]; omega
  have q1 := s1 v.items (fun x hx => ih1 x hx (a6 x hx))
  have q2 := s2 v.env (fun x hx => by rw [Slt.Qgf, Slt.Qa4]; exact ih2 x hx (a7 x hx))
  rw [Val.Qgf, Val.Qa4]
  omega
def DV (v : Val) : Prop := (∃ m, VI m v) /\ v.nodes <= 2000
theorem DV.out {v : Val} (h : DV v) : v.Ok /\ v.sz <= 1099511627776 := by
 obtain ⟨⟨m, hm⟩, hn⟩ := h
 refine ⟨hm.ok, ?_⟩
 have := VI.sz v hm
 have : 12001000 * v.nodes <= 12001000 * 2000 := Nat.mul_le_mul_left _ hn
 omega
theorem Q0b : ∀ (n : Nat) (v : Val), v.nodes <= n -> v.Ok -> v.sz <= 1099511627776 -> ∀ w : Val, w.Ok -> w.sz <= 1099511627776 -> Qe9 v w = some (Qmn n v w) /\ Qcs v w = some (Qmn n v w) := by
 intro n
 induction n with
 | zero => intro v hn; rw [Val.Qa4] at hn; omega
 | succ n ih =>
  intro v hn hv hs w hw hws
  obtain ⟨g0, g1, g2, g3, g4, g5, g6⟩ := hv.out
  obtain ⟨q0, q1, q2, q3, q4, q5, q6⟩ := hw.out
  have hz := Val.Qgf v
  have hzw := Val.Qgf w
  have hne := Val.Qa4 v
  have loop : v.items.length = w.items.length -> ∀ (l : List Val) (i : Nat), v.items.drop i = l -> Qes v w i l = some (if ((l.zip (w.items.drop i)).all fun p => Qmn n p.1 p.2) = true then .inr () else .inl false) /\ Qas v.items w.items i l = some (if ((l.zip (w.items.drop i)).all fun p => Qmn n p.1 p.2) = true then .inr () else .inl false) := by
   intro hlen l
   induction l with
   | nil => intro i _; exact ⟨rfl, rfl⟩
   | cons x l ihl =>
    intro i hd
    have hi : i < v.items.length := by
     rcases Nat.lt_or_ge i v.items.length with h | h
     ·exact h
     ·rw [List.drop_of_length_le h] at hd; cases hd
    rw [List.drop_eq_getElem_cons hi] at hd
    injection hd with e1 e2
    have m1 : x ∈ v.items := e1 ▸ List.getElem_mem hi
    have hiw : i < w.items.length := by omega
    have m2 := List.getElem_mem hiw
    have s1 := Qf9 Val.sz _ _ m1
    have s2 := Qf9 Val.sz _ _ m2
    have s3 := Qf9 Val.nodes _ _ m1
    obtain ⟨hb1, hb2⟩ := ih x (by omega) (g5 x m1) (by omega) _ (q5 _ m2) (by omega)
    obtain ⟨ho1, ho2⟩ := ihl (i + 1) e2
    rw [Qes, Qas, Qap _ _ (by omega), List.drop_eq_getElem_cons hiw, List.zip_cons_cons, List.all_cons]
    simp only [Qak, Qae, hb1, hb2, ho1, ho2]
    cases Qmn n x w.items[i]
    ·exact ⟨rfl, rfl⟩
    ·refine ⟨?_, ?_⟩ <;> simp only [Bool.not_true, Bool.false_eq_true, if_false, if_true, Bool.true_and]
  rw [Qe9, Qcs, Qmn]
  by_cases h1 : v.kind = w.kind
  rotate_left
  ·simp [h1, Qak]
  by_cases h2 : v.num = w.num
  rotate_left
  ·simp [h1, h2, Qak]
  by_cases h3 : v.name = w.name
  rotate_left
  ·simp [h1, h2, h3, Qak]
  by_cases h4 : v.items.length = w.items.length
  rotate_left
  ·have h5 : ¬ (v.items.length : Int) = (w.items.length : Int) := by omega
   rw [Qa5]
   simp [h1, h2, h3, h4, h5, Qak]
  obtain ⟨ho1, ho2⟩ := loop h4 v.items 0 (List.drop_zero ..)
  rw [Qa5, Qd1 _ _ (by omega), Qp3 _ _ (by omega), ho1, ho2, Qnc v hv hs, Qnc w hw hws, Qkr v hv hs, Qkr w hw hws]
  have h5 : (v.items.length : Int) = (w.items.length : Int) := by omega
  have hbs : ∀ a b : List UInt8, decide (bs a = bs b) = decide (a = b) := fun a b => by
   by_cases h : a = b
   ·rw [h, decide_eq_true rfl, decide_eq_true rfl]
   ·rw [decide_eq_false h, decide_eq_false]
    intro h2; exact h (by have := congrArg (fun s : ByteArray => s.data.toList) h2; simpa [bs] using this)
  simp only [h1, h2, h3, h4, h5, Qak, Qae, decide_true, Bool.not_true, Bool.or_false, Bool.and_true, Bool.false_eq_true, if_true, if_false, List.drop_zero, Bool.true_and, hbs]
  cases ((v.items.zip w.items).all fun p => Qmn n p.1 p.2)
  ·exact ⟨rfl, rfl⟩
  ·exact ⟨rfl, rfl⟩
theorem Q7s : ∀ (n : Nat) (v : Val), v.nodes <= n -> Qmn n v v = true := by
 intro n
 induction n with
 | zero => intro v hn; rw [Val.Qa4] at hn; omega
 | succ n ih =>
  intro v hn
  have hne := Val.Qa4 v
  have : ((v.items.zip v.items).all fun p => Qmn n p.1 p.2) = true := by
   rw [List.all_eq_true]
   intro p hp
   have key : ∀ (l : List Val), ∀ p ∈ l.zip l, p.1 = p.2 /\ p.1 ∈ l := by
    intro l
    induction l with
    | nil => intro p hp; cases hp
    | cons x l ihl =>
     intro p hp
     rw [List.zip_cons_cons] at hp
     rcases List.mem_cons.1 hp with rfl | hp
     ·exact ⟨rfl, List.mem_cons_self ..⟩
     ·exact ⟨(ihl p hp).1, List.mem_cons_of_mem _ (ihl p hp).2⟩
   obtain ⟨h1, h2⟩ := key _ p hp
   rw [← h1]
   exact ih _ (by have := Qf9 Val.nodes _ _ h2; omega)
  rw [Qmn, this]
  simp
theorem Q7t : ∀ (n : Nat) (v w : Val), Qmn n v w = Qmn n w v := by
 intro n
 induction n with
 | zero => intro v w; rfl
 | succ n ih =>
  intro v w
  have hzip : ∀ (a b : List Val), ((a.zip b).all fun p => Qmn n p.1 p.2) = ((b.zip a).all fun p => Qmn n p.1 p.2) := by
   intro a
   induction a with
   | nil => intro b; cases b <;> rfl
   | cons x a iha =>
    intro b
    cases b with
    | nil => rfl
    | cons y b => rw [List.zip_cons_cons, List.zip_cons_cons, List.all_cons, List.all_cons, ih x y, iha b]
  have dc : ∀ {α : Type} [DecidableEq α] (a b : α), decide (a = b) = decide (b = a) := fun a b => by
   by_cases h : a = b
   ·subst h; rfl
   ·rw [decide_eq_false h, decide_eq_false (fun e => h e.symm)]
  rw [Qmn, Qmn, hzip, dc v.kind w.kind, dc v.num w.num, dc v.name w.name, dc v.items.length w.items.length, dc (VT 40 v) (VT 40 w)]
theorem Q7u {n : Nat} {v w : Val} (h : Qmn n v w = true) : VT 40 v = VT 40 w := by
 cases n with
 | zero => cases h
 | succ n =>
  rw [Qmn, Bool.and_eq_true] at h
  exact of_decide_eq_true h.2
theorem nvD (s : ByteArray) (h1 : 1 <= s.size) (h2 : s.size <= 12) (h : ∀ j : Fin s.size, ltr (byt s j.val) (decide ((j.val : Int) = 0)) = true) : NV s := .inr (.inr ⟨h1, h2, fun j hj => h ⟨j, hj⟩⟩)
theorem Q2g : ∀ (d : Nat) {c : Rdr} {k : Nat}, RdI c k -> d < 20 -> k + Pw d < 1099511627776 -> Tot (Qbu d c) fun r => (FIs (d + 1) r.1 /\ r.1.nodes <= 4 ^ d) /\ RdI r.2 (k + Pw d) := by
 have base : ∀ {c : Rdr} {k : Nat} (d : Nat), RdI c k -> k + 100 < 1099511627776 + 1 -> Tot (Qal 4 c >>= fun x => if x.1 = 0 then (Qat [0, 1, 2, 7, 42, 999] x.2 >>= fun y => pure (Fm.mk 2 (ByteArray.mk #[]) y.1 [] [], y.2)) else (Qbl Qy7 x.2 >>= fun y => Qb1 y.1 >>= fun z => pure (z, y.2))) fun r => (FIs (d + 1) r.1 /\ r.1.nodes <= 1) /\ RdI r.2 (k + 2) := by
  intro c k d h hk
  refine Tot.bind (Qcg h (by omega) (by omega)) fun x hx => ?_
  refine Tot.ite (fun _ => ?_) (fun _ => ?_)
  ·refine Tot.bind (Qjp hx.2.2 (by omega) (by simp)) fun y hy => Tot.pure ⟨⟨.inr (.inl ⟨rfl, rfl, ?_, ?_, rfl, rfl⟩), by rw [Fm.Qa4]; exact Nat.le_refl _⟩, hy.2⟩
   ·have := hy.1
    simp only [List.mem_cons, List.not_mem_nil, or_false] at this
    show 0 <= y.1; omega
   ·have := hy.1
    simp only [List.mem_cons, List.not_mem_nil, or_false] at this
    show y.1 <= 999; omega
  ·refine Tot.bind (Q18 hx.2.2 (by omega) (by simp [Qy7])) fun y hy => ?_
   rw [Kh4, Qae]
   refine Tot.pure ⟨⟨.inl ⟨rfl, ?_, rfl, ⟨Nat.zero_le _, fun j hj => by simp [Fm.sc] at hj⟩, rfl⟩, by rw [Fm.Qa4]; exact Nat.le_refl _⟩, hy.2⟩
   have := hy.1
   simp only [Qy7, List.mem_cons, List.not_mem_nil, or_false] at this
   show NV y.1
   rcases this with h | h | h | h | h | h | h | h <;> rw [h] <;> exact nvD _ (by decide) (by decide) (by decide)
 intro d
 induction d with
 | zero =>
  intro c k h hd hk
  rw [Qbu]
  rw [if_pos (by rfl)]
  exact (base 0 h (by have := Q24 0; omega)).mono fun r hr => ⟨⟨hr.1.1, by have := hr.1.2; simpa using this⟩, hr.2.mono (by have := Q24 0; omega)⟩
 | succ d ih =>
  intro c k h hd hk
  have hp := Q24 d
  have hs := Q8r d
  have h4 : 4 ^ (d + 1) = 4 * 4 ^ d := by rw [Nat.pow_succ]; omega
  have h41 : 1 <= 4 ^ d := Nat.pow_pos (by omega)
  have loop : ∀ (n : Nat) {z : List Fm} {b : List Int} {p : Int} {k : Nat}, n <= 3 -> z.length + n <= 3 -> RdI ⟨b, p⟩ k -> k + n * Pw d < 1099511627776 -> (∀ x ∈ z, FIs (d + 1) x) -> Tot (Qdi ((d + 1 : Nat) : Int) z n b p) fun r => (∀ x ∈ r.1, FIs (d + 1) x) /\ Qbg Fm.nodes r.1 <= Qbg Fm.nodes z + n * 4 ^ d /\ RdI ⟨r.2.1, r.2.2⟩ (k + n * Pw d) := by
   intro n
   induction n with
   | zero =>
    intro z b p k _ _ h _ hz
    rw [Qdi, if_neg (by omega)]
    exact Tot.pure ⟨hz, by simp, by simpa using h⟩
   | succ n ihn =>
    intro z b p k hn hz h hk hzf
    rw [Nat.succ_mul] at hk
    rw [Qdi, if_pos (by omega)]
    have w1 : i64.wrap (((d + 1 : Nat) : Int) - 1) = (d : Int) := by rw [Qa8 (by omega) (by omega)]; omega
    have w2 : i64.wrap (((n + 1 : Nat) : Int) - 1) = (n : Int) := by rw [Qa8 (by omega) (by omega)]; omega
    rw [w1, w2]
    refine Tot.bind (ih h (by omega) (by omega)) fun x hx => ?_
    refine Tot.bind (Qm8 (by simp only [List.length_cons, List.length_nil]; omega)) fun y hy => ?_
    subst hy
    refine (ihn (by omega) (by simp only [List.length_append, List.length_cons, List.length_nil]; omega) hx.2 (by omega) (fun y hy => by
     rcases List.mem_append.1 hy with hy | hy
     ·exact hzf y hy
     ·rw [List.mem_singleton.1 hy]; exact hx.1.1)).mono fun r hr => ?_
    obtain ⟨r1, r2, r3⟩ := hr
    simp only [Qni, Qbg] at r2
    rw [Nat.succ_mul, Nat.succ_mul]
    exact ⟨r1, by have := hx.1.2; omega, r3.mono (by omega)⟩
  rw [Qbu, if_neg (by omega)]
  refine Tot.bind (Qcg h (by omega) (by omega)) fun x hx => ?_
  refine Tot.ite (fun _ => ?_) (fun _ => ?_)
  ·exact (base (d + 1) hx.2.2 (by omega)).mono fun r hr => ⟨⟨hr.1.1, by have := hr.1.2; omega⟩, hr.2.mono (by omega)⟩
  ·refine Tot.bind (Qcg hx.2.2 (by omega) (by omega)) fun y hy => ?_
   obtain ⟨m, hm⟩ := Int.eq_ofNat_of_zero_le hy.1
   have hm3 : m <= 3 := by have := hy.2.1; omega
   have hmul : m * Pw d <= 3 * Pw d := Nat.mul_le_mul_right _ hm3
   have hmul4 : m * 4 ^ d <= 3 * 4 ^ d := Nat.mul_le_mul_right _ hm3
   rw [hm]
   refine Tot.bind (loop m hm3 (by simp; omega) hy.2.2 (by omega) (by simp)) fun r hr => ?_
   obtain ⟨r1, r2, r3⟩ := hr
   simp only [Qbg] at r2
   refine Tot.pure ⟨⟨.inr (.inr ⟨rfl, rfl, rfl, rfl, r1⟩), ?_⟩, r3.mono (by omega)⟩
   rw [Fm.Qa4]
   show 1 + Qbg Fm.nodes r.1 <= _
   omega
theorem Q3m : ∀ f : Fm, (Qpt f).nodes <= f.nodes := by
 intro f
 induction f using Fm.ind with
 | h f ih =>
  have hn := Fm.Qa4 f
  rw [Qu5]
  have s : ∀ l : List Fm, (∀ g ∈ l, (Qpt g).nodes <= g.nodes) -> Qbg Val.nodes (l.map Qpt) <= Qbg Fm.nodes l := by
   intro l
   induction l with
   | nil => intro _; exact Nat.le_refl _
   | cons g l ihl =>
    intro h
    have h1 := h g (List.mem_cons_self ..)
    have h2 := ihl (fun x hx => h x (List.mem_cons_of_mem _ hx))
    simp only [List.map_cons, Qbg]; omega
  split
  ·rw [Val.Qa4]; show 1 + 0 + 0 <= _; omega
  ·split
   ·rw [Val.Qa4]; show 1 + 0 + 0 <= _; omega
   ·rw [Val.Qa4]
    have := s f.kids ih
    show 1 + Qbg Val.nodes (f.kids.map Qpt) + 0 <= _
    omega
theorem Kfe {f : Fm} (h : FIs 3 f) (hn : f.nodes <= 16) : Qf6 f = some (Qpt f) /\ DV (Qpt f) := by
 have hs := FIs.sz 3 f h
 exact ⟨Q4y f (by omega), ⟨0, VI.data (by omega) 3 f h (by omega)⟩, by have := Q3m f; omega⟩
theorem Q4d {l : List Int} (h : ∀ x ∈ l, 0 <= x /\ x < 256) : Tot (Qjx l) DV := by
 rw [Qjx]
 refine Tot.bind (Qtz h) fun c hc => ?_
 have hcb : Q0y c.1 := by
  rcases hc.1 with h | h
  ·exact h.b (by omega)
  ·exact h.1.b
 obtain ⟨e1, e2, e3⟩ := Q3s hcb (by have := hc.2.1; omega) 500
 rw [e1, Qae]
 refine Tot.ite (fun _ => ⟨_, rfl, e2, e3⟩) (fun _ => ?_)
 refine Tot.bind (Qu9 h) fun r hr => ?_
 refine Tot.bind (Q2g 2 hr (by omega) (by decide)) fun f hf => ?_
 obtain ⟨d1, d2⟩ := Kfe hf.1.1 hf.1.2
 rw [d1, Qae]
 exact ⟨_, rfl, d2⟩
theorem Qsc {l : List Int} (h : ∀ x ∈ l, 0 <= x /\ x < 256) : Tot (Qgk l) fun r => DV r.1 /\ DV r.2 := by
 rw [Qgk]
 refine Tot.bind (Q4d h) fun v hv => ?_
 refine Tot.bind (Qu9 h) fun r hr => ?_
 refine Tot.bind (Qcg hr (by omega) (by omega)) fun q hq => ?_
 obtain ⟨_, _, hq⟩ := hq
 refine Tot.ite (fun _ => ?_) (fun _ => ?_)
 ·have ⟨⟨m, hm⟩, _⟩ := hv
  rw [Q4x v hm, Qae]
  exact ⟨_, rfl, hv, hv⟩
 ·refine Tot.bind (Q2g 2 hq (by omega) (by decide)) fun f hf => ?_
  obtain ⟨d1, d2⟩ := Kfe hf.1.1 hf.1.2
  rw [d1, Qae]
  exact ⟨_, rfl, hv, d2⟩
theorem Qyw {l : List Int} (h : ∀ x ∈ l, 0 <= x /\ x < 256) : Qi9 l = some true := by
 rw [Qi9]
 split
 ·rfl
 obtain ⟨⟨v, w⟩, hr, hv, hw⟩ := Qsc h
 change DV v at hv
 change DV w at hw
 obtain ⟨v1, v2⟩ := hv.out
 obtain ⟨w1, w2⟩ := hw.out
 obtain ⟨s1, s2⟩ := Q0b 2000 v hv.2 v1 v2 w w1 w2
 obtain ⟨s3, s4⟩ := Q0b 2000 w hw.2 w1 w2 v v1 v2
 obtain ⟨s5, s6⟩ := Q0b 2000 v hv.2 v1 v2 v v1 v2
 rw [Q7t] at s3 s4
 rw [Q7s 2000 v hv.2] at s5 s6
 rw [hr, Qae]
 simp only [s1, s2, s4, s6, Qkr v v1 v2, Qkr w w1 w2, Qnc v v1 v2, Qak, Qae]
 cases hb : Qmn 2000 v w
 ·rfl
 ·rw [Q7u hb]
  simp
end Go.Proofs.SA
