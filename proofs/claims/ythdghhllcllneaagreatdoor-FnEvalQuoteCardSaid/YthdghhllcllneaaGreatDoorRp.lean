/- Evaluation as a plain function; the reference's evaluation is it. -/
import Derived.Test.YthdghhllcllneaaGreatDoorRo
import Derived.Test.YthdghhllcllneaaGreatDoorFmA
set_option linter.unusedVariables false
set_option linter.unusedSimpArgs false
set_option maxRecDepth 100000
open Go Go.Proofs Go.Proofs.Shadow
namespace Go.Proofs.Shadow
def zC : Cor := Cor.mk 0 0 (ByteArray.mk #[]) 0 [] (Fm.mk 0 (ByteArray.mk #[]) 0 [] []) []
def zV : Val := Val.mk 0 0 (ByteArray.mk #[]) [] zC []
instance : Inhabited Cor := ⟨zC⟩
instance : Inhabited Val := ⟨zV⟩
def Q46 (n : Int) : Val := Val.mk 1 n (ByteArray.mk #[]) [] zC []
def Qxz (l : List Val) : Val := Val.mk 3 0 (ByteArray.mk #[]) l zC []
mutual
def Qf4 : Fm -> Val
 | .mk k s n _ ks => if k = 2 then Q46 n else if k = 1 then Val.mk 2 0 s [] zC [] else Qxz (Qrc ks)
def Qrc : List Fm -> List Val
 | [] => []
 | f :: fs => Qf4 f :: Qrc fs
end
theorem Qpc : ∀ l, Qrc l = l.map Qf4
 | [] => rfl
 | f :: fs => by rw [Qrc, Qpc fs]; rfl
theorem Qe9 (f : Fm) : Qf4 f = if f.kind = 2 then Q46 f.num else if f.kind = 1 then Val.mk 2 0 f.name [] zC [] else Qxz (f.kids.map Qf4) := by cases f; rw [Qf4, Qpc]; rfl
mutual
def Val.nodes : Val -> Nat
 | .mk _ _ _ l _ e => 1 + Val.Qga l + Slt.Qga e
def Val.Qga : List Val -> Nat
 | [] => 0
 | v :: l => v.nodes + Val.Qga l
def Slt.nodes : Slt -> Nat
 | .mk _ v => v.nodes
def Slt.Qga : List Slt -> Nat
 | [] => 0
 | s :: l => s.nodes + Slt.Qga l
end
theorem Val.Qe2 : ∀ l, Val.Qga l = Qc4 Val.nodes l
 | [] => rfl
 | v :: l => by rw [Val.Qga, Qc4, Val.Qe2 l]
theorem Slt.Qbl (s : Slt) : s.nodes = s.val.nodes := by cases s; rw [Slt.nodes]; rfl
theorem Slt.Qe2 : ∀ l, Slt.Qga l = Qc4 Slt.nodes l
 | [] => rfl
 | v :: l => by rw [Slt.Qga, Qc4, Slt.Qe2 l]
theorem Val.Qbl (v : Val) : v.nodes = 1 + Qc4 Val.nodes v.items + Qc4 Slt.nodes v.env := by cases v; rw [Val.nodes, Val.Qe2, Slt.Qe2]; rfl
end Go.Proofs.Shadow
namespace Go.Proofs.SA
inductive AR : Cor -> Prop
 | mk {k i : Int} {s : ByteArray} {n : Int} {l : List Int} {d : Fm} {ks : List Cor} (ha : arity k ks.length) (hs : s.size <= 12) (hn : 0 <= n /\ n <= 999) (hl : l.length <= 999) (hd : FV d ∨ d = zF) (hk : ks.length <= 600) (h : ∀ x ∈ ks, AR x) : AR (.mk k i s n l d ks)
theorem AR.out {c : Cor} (h : AR c) : arity c.kind c.kids.length /\ c.name.size <= 12 /\ (0 <= c.num /\ c.num <= 999) /\ c.ids.length <= 999 /\ (FV c.data ∨ c.data = zF) /\ c.kids.length <= 600 /\ ∀ x ∈ c.kids, AR x := by
 cases h; exact ⟨by assumption, by assumption, by assumption, by assumption, by assumption, by assumption, by assumption⟩
inductive VI (m : Nat) : Val -> Prop
 | mk {k n : Int} {s : ByteArray} {l : List Val} {f : Cor} {e : List Slt} (hn : -1000 <= n /\ n <= 1000) (hs : s.size <= 12) (hl : l.length <= 1000) (hf : (k = 4 /\ AR f /\ f.kind = 5 /\ f.nodes <= 600) ∨ (k ≠ 4 /\ f = zC)) (he : e.length + 1000 * (m + 1) <= 10000000) (h1 : ∀ x ∈ l, VI m x) (h2 : ∀ x ∈ e, VI m x.val) : VI m (.mk k n s l f e)
theorem VI.out {m : Nat} {v : Val} (h : VI m v) : (-1000 <= v.num /\ v.num <= 1000) /\ v.name.size <= 12 /\ v.items.length <= 1000 /\ ((v.kind = 4 /\ AR v.fn /\ v.fn.kind = 5 /\ v.fn.nodes <= 600) ∨ (v.kind ≠ 4 /\ v.fn = zC)) /\ v.env.length + 1000 * (m + 1) <= 10000000 /\ (∀ x ∈ v.items, VI m x) /\ ∀ x ∈ v.env, VI m x.val := by
 cases h; exact ⟨by assumption, by assumption, by assumption, by assumption, by assumption, by assumption, by assumption⟩
theorem VI.mono {m n : Nat} (hmn : m <= n) : ∀ v : Val, VI n v -> VI m v := by
 intro v
 induction v using Val.ind with
 | h v ih1 ih2 =>
  intro h
  obtain ⟨a1, a2, a3, a4, a5, a6, a7⟩ := h.out
  have := VI.mk (m := m) a1 a2 a3 a4 (by omega) (fun x hx => ih1 x hx (a6 x hx)) (fun x hx => ih2 x hx (a7 x hx))
  rwa [Val.eta] at this
theorem VI.zero {m : Nat} (hm : m <= 3001) : VI m zV := .mk (by decide) (by decide) (by simp) (.inr ⟨by decide, rfl⟩) (by simp; omega) (by simp) (by simp)
theorem VI.num {m : Nat} (hm : m <= 3001) {n : Int} (hn : -1000 <= n /\ n <= 1000) : VI m (Q46 n) := .mk hn (by decide) (by simp) (.inr ⟨by decide, rfl⟩) (by simp; omega) (by simp) (by simp)
theorem VI.list {m : Nat} (hm : m <= 3001) {l : List Val} (hl : l.length <= 1000) (h : ∀ x ∈ l, VI m x) : VI m (Qxz l) := .mk (by decide) (by decide) hl (.inr ⟨by decide, rfl⟩) (by simp; omega) h (by simp)
theorem VI.data {m : Nat} (hm : m <= 3001) : ∀ (d : Nat) (f : Fm), FIs d f -> f.nodes <= 400 -> VI m (Qf4 f)
 | 0, _, h, _ => h.elim
 | d + 1, f, h, hn => by
  have hne := Fm.Qbl f
  have hl := Qk5 f.kids
  rw [Qe9]
  rcases h with h | h | h
  ·rw [if_neg (by omega), if_pos h.1]
   exact .mk (by decide) (NV.size h.2.1) (by simp) (.inr ⟨by decide, rfl⟩) (by simp; omega) (by simp) (by simp)
  ·rw [if_pos h.1]; exact VI.num hm (by omega)
  ·rw [if_neg (by omega), if_neg (by omega)]
   refine VI.list hm (by rw [List.length_map]; omega) fun x hx => ?_
   obtain ⟨y, hy, rfl⟩ := List.mem_map.1 hx
   exact VI.data hm d y (h.2.2.2.2 y hy) (by have := Qg8 Fm.nodes f.kids y hy; omega)
theorem Qxh : ∀ f : Fm, f.sz <= 1000000 -> Qe8 f = some (Qf4 f) := by
 intro f
 induction f using Fm.ind with
 | h f ih =>
  intro hf
  have hz := Fm.Qff f
  rw [Qe8, Qe9]
  by_cases h2 : f.kind = 2
  ·rw [if_pos h2, if_pos h2]; rfl
  ·rw [if_neg h2, if_neg h2]
   by_cases h1 : f.kind = 1
   ·rw [if_pos h1, if_pos h1]; rfl
   ·rw [if_neg h1, if_neg h1, Qmh _ _ (by omega), Qhx (Qek f) Qf4 (fun _ _ => rfl) f.kids [] 0 (fun x hx z i r hz => by
     have := Fm.Qid hx
     rw [Qek, Qby, Qau, ih x hx (by omega), Qau, Qem (by simp; omega), Qau]) (by simp; omega)]
    rfl
end Go.Proofs.SA
namespace Go.Proofs.SA
theorem AR.Q5m {c : Cor} (h : AR c) : Qwl c := by
 induction h with
 | mk ha hs hn hl hd hk _ ih =>
  refine .mk (by omega) ?_ (by omega) ih
  rcases hd with h | h
  ·have := h.sz; omega
  ·rw [h]; decide
theorem Q7c : Qwl zC := .mk (by decide) (by decide) (by decide) (by simp)
theorem VI.fnB {m : Nat} {v : Val} (h : VI m v) : Qwl v.fn := by
 rcases h.out.2.2.2.1 with h | h
 ·exact h.2.1.Q5m
 ·rw [h.2]; exact Q7c
end Go.Proofs.SA
namespace Go.Proofs.Shadow
end Go.Proofs.Shadow
namespace Go.Proofs.SA
theorem FM.Q3q {n : Nat} (hn : n <= 4611686018427387904) (f : Fm) : f.sz <= n -> f.Ok := by
 induction f using Fm.ind with
 | h f ih =>
  intro hs g hg
  have hz := Fm.Qff f
  obtain ⟨k, s, m, sc, ks⟩ := f
  simp only [Fm.name, Fm.sc, Fm.kids] at hz
  rw [Fm.all] at hg
  rcases List.mem_cons.1 hg with rfl | hg
  ·simp only [Fm.name, Fm.sc, Fm.kids]; omega
  ·obtain ⟨x, hx, hg⟩ := Fm.Qqf ks g hg
   have hxs := Qg8 Fm.sz ks x hx
   exact ih x hx (by omega) g hg
theorem Q37 : zF.Ok := FM.Q3q (Nat.le_refl _) zF (by decide)
theorem FV.ok (d : Nat) (f : Fm) (_ : FIs d f) (h : f.sz <= 100000) : f.Ok := FM.Q3q (n := 100000) (by omega) f h
theorem AR.ok {c : Cor} (h : AR c) : c.Ok := by
 induction h with
 | mk ha hs hn hl hd hk _ ih =>
  refine .mk (by omega) (by omega) ?_ (by omega) ih
  rcases hd with h | h
  ·exact FV.ok 40 _ h.1 (by have := h.sz; omega)
  ·rw [h]; exact Q37
theorem Q5h : zC.Ok := .mk (by decide) (by decide) Q37 (by decide) (fun x hx => by cases hx)
theorem VI.ok {m : Nat} : ∀ v : Val, VI m v -> v.Ok := by
 intro v
 induction v using Val.ind with
 | h v ih1 ih2 =>
  intro hv
  obtain ⟨a1, a2, a3, a4, a5, a6, a7⟩ := hv.out
  obtain ⟨k, n, s, l, f, e⟩ := v
  simp only [Val.num, Val.name, Val.items, Val.fn, Val.env, Val.kind] at *
  refine .mk (by unfold Q12; omega) (by omega) (by omega) ?_ (by omega) (fun x hx => ih1 x hx (a6 x hx)) (fun x hx => ?_)
  ·rcases a4 with h | h
   ·exact h.2.1.ok
   ·rw [h.2]; exact Q5h
  ·obtain ⟨i, w⟩ := x
   exact .mk (ih2 _ hx (a7 _ hx))
theorem AR.sz : ∀ c : Cor, AR c -> c.sz + 1 <= 20000 * c.nodes := by
 intro c
 induction c using Cor.ind with
 | h c ih =>
  intro hc
  obtain ⟨c1, c2, c3, c4, c5, c6, c7⟩ := hc.out
  have hd : c.data.sz <= 14800 := by
   rcases c5 with h | h
   ·exact h.sz
   ·rw [h]; decide
  have hs : ∀ l : List Cor, (∀ x ∈ l, x.sz + 1 <= 20000 * x.nodes) -> Qc4 Cor.sz l + l.length <= 20000 * Qc4 Cor.nodes l := by
   intro l
   induction l with
   | nil => intro _; exact Nat.le_refl _
   | cons x l ihl =>
    intro h
    have h1 := h x (List.mem_cons_self ..)
    have h2 := ihl (fun y hy => h y (List.mem_cons_of_mem _ hy))
    simp only [Qc4, List.length_cons]; omega
  have := hs c.kids (fun x hx => ih x hx (c7 x hx))
  rw [Cor.Qff, Cor.Qbl]
  omega
theorem VI.sz {m : Nat} : ∀ v : Val, VI m v -> v.sz + 1 <= 12001000 * v.nodes := by
 intro v
 induction v using Val.ind with
 | h v ih1 ih2 =>
  intro hv
  obtain ⟨a1, a2, a3, a4, a5, a6, a7⟩ := hv.out
  have hf : v.fn.sz <= 12000000 := by
   rcases a4 with h | h
   ·have := AR.sz _ h.2.1; have := h.2.2.2; omega
   ·rw [h.2]; decide
  have s1 : ∀ l : List Val, (∀ x ∈ l, x.sz + 1 <= 12001000 * x.nodes) -> Qc4 Val.sz l + l.length <= 12001000 * Qc4 Val.nodes l := by
   intro l
   induction l with
   | nil => intro _; exact Nat.le_refl _
   | cons x l ihl =>
    intro h
    have h1 := h x (List.mem_cons_self ..)
    have h2 := ihl (fun y hy => h y (List.mem_cons_of_mem _ hy))
    simp only [Qc4, List.length_cons]; omega
  have s2 : ∀ l : List Slt, (∀ x ∈ l, x.sz + 1 <= 12001000 * x.nodes) -> Qc4 Slt.sz l + l.length <= 12001000 * Qc4 Slt.nodes l := by
   intro l
   induction l with
   | nil => intro _; exact Nat.le_refl _
   | cons x l ihl =>
    intro h
    have h1 := h x (List.mem_cons_self ..)
    have h2 := ihl (fun y hy => h y (List.mem_cons_of_mem _ hy))
    simp only [Qc4, List.length_cons]; omega
  have q1 := s1 v.items (fun x hx => ih1 x hx (a6 x hx))
  have q2 := s2 v.env (fun x hx => by rw [Slt.Qff, Slt.Qbl]; exact ih2 x hx (a7 x hx))
  rw [Val.Qff, Val.Qbl]
  omega
theorem Qmx : ∀ f : Fm, (Qf4 f).nodes <= f.nodes := by
 intro f
 induction f using Fm.ind with
 | h f ih =>
  have hn := Fm.Qbl f
  rw [Qe9]
  have s : ∀ l : List Fm, (∀ g ∈ l, (Qf4 g).nodes <= g.nodes) -> Qc4 Val.nodes (l.map Qf4) <= Qc4 Fm.nodes l := by
   intro l
   induction l with
   | nil => intro _; exact Nat.le_refl _
   | cons g l ihl =>
    intro h
    have h1 := h g (List.mem_cons_self ..)
    have h2 := ihl (fun x hx => h x (List.mem_cons_of_mem _ hx))
    simp only [List.map_cons, Qc4]; omega
  split
  ·rw [Val.Qbl]; show 1 + 0 + 0 <= _; omega
  ·split
   ·rw [Val.Qbl]; show 1 + 0 + 0 <= _; omega
   ·rw [Val.Qbl]
    have := s f.kids ih
    show 1 + Qc4 Val.nodes (f.kids.map Qf4) + 0 <= _
    omega
end Go.Proofs.SA
namespace Go.Proofs.SA
theorem Qqt : ∀ f : Fm, f.nodes <= f.sz + 1 := by
 intro f
 induction f using Fm.ind with
 | h f ih =>
  rw [Fm.Qbl, Fm.Qff]
  have key : ∀ l : List Fm, (∀ g ∈ l, g.nodes <= g.sz + 1) -> Qc4 Fm.nodes l <= Qc4 Fm.sz l + l.length := by
   intro l
   induction l with
   | nil => intro _; exact Nat.le_refl _
   | cons x l ihl =>
    intro h
    have h1 := h x (List.mem_cons_self ..)
    have h2 := ihl (fun y hy => h y (List.mem_cons_of_mem _ hy))
    simp only [Qc4, List.length_cons]; omega
  have := key f.kids ih
  omega
theorem Qu3 (f : Fm) (hf : f.sz < 1000000000) : Qes f = some f := by
 have hz := Fm.Qff f
 rw [Qes, Qem (by simp only [List.length_nil]; omega), Qau, List.nil_append, Qi5 _ _ _ (by omega), Qhx (Qcg f f.sc) id (fun _ _ => rfl) f.kids [] 0 (fun x hx z i r hz => by
  have := Fm.Qid hx
  rw [Qcg, Qby, Qau, Qtu x (by omega), Qau, Qem (by simp; omega), Qau]; rfl) (by simp; omega), Qau, Qby, List.nil_append, List.map_id]
 cases f; rfl
theorem Qu6 : ∀ (f : Fm) {c : Rdr} {k : Nat}, RdI c k -> f.sz < 1000000000 -> k + f.nodes < 1099511627776 -> Tot (Qe5 f c) fun r => r.1.sz <= f.sz + 3 * f.nodes /\ RdI r.2 (k + f.nodes) := by
 intro f
 induction f using Fm.ind with
 | h f ih =>
  intro c k h hf hk
  have hz := Fm.Qff f
  have hn := Fm.Qbl f
  rw [Qe5, Qu3 f (by omega), Qau]
  have loop : ∀ (s : List Int) (n i : Nat) (z : List Fm) {b : List Int} {p : Int} {k : Nat}, i + n = f.kids.length -> z.length = f.kids.length -> z.drop i = f.kids.drop i -> RdI ⟨b, p⟩ k -> k + Qc4 Fm.nodes (z.drop i) < 1099511627776 -> Tot (Qc3 f f s z (i : Int) b p) fun r => r.1.length = f.kids.length /\ Qc4 Fm.sz r.1 <= Qc4 Fm.sz z + 3 * Qc4 Fm.nodes (z.drop i) /\ RdI ⟨r.2.1, r.2.2⟩ (k + Qc4 Fm.nodes (z.drop i)) := by
   intro s n
   induction n with
   | zero =>
    intro i z b p k hi hl _ hR _
    rw [Qc3, if_neg (by omega)]
    exact Tot.pure ⟨hl, by simp, hR.mono (by omega)⟩
   | succ n ihn =>
    intro i z b p k hi hl hd hR hk
    have hiz : i < z.length := by omega
    have hik : i < f.kids.length := by omega
    have he : z[i] = f.kids[i] := by
     have := congrArg (fun l : List Fm => l[0]?) hd
     simpa [hiz, hik] using this
    have hm : z[i] ∈ f.kids := by rw [he]; exact List.getElem_mem _
    have hs := Fm.Qid hm
    have hds := Qrf hiz
    have hdl : (z.drop i).length = z.length - i := List.length_drop
    rw [Qc3, if_pos (by omega), Qb6 z i hiz, Qau]
    rw [hds] at hk ⊢
    refine Tot.bind (ih _ hm hR (by omega) (by omega)) fun r hr => ?_
    rw [Qau]
    have hw : IntKind.i64.wrap ((i : Int) + 1) = ((i + 1 : Nat) : Int) := by rw [Qce (by omega) (by omega)]; omega
    rw [hw]
    have e1 : (z.set ((i : Int).toNat) r.1).drop (i + 1) = z.drop (i + 1) := by
     rw [Int.toNat_natCast, List.drop_set_of_lt (by omega)]
    have e2 : (z.drop (i + 1)) = f.kids.drop (i + 1) := by
     have := congrArg (List.drop 1) hd
     simpa [List.drop_drop, Nat.add_comm] using this
    have h3 := Qoq Fm.sz z (i : Int).toNat r.1 (by simpa using hiz)
    refine (ihn (i + 1) _ (by omega) (by rw [List.length_set]; exact hl) (by rw [e1, e2]) hr.2 (by rw [e1]; omega)).mono fun q hq => ?_
    rw [e1] at hq
    obtain ⟨q1, q2, q3⟩ := hq
    have := hr.1
    simp only [Int.toNat_natCast] at h3 q2
    exact ⟨q1, by omega, q3.mono (by omega)⟩
  have tail : ∀ (s : List Int) {b : List Int} {p : Int}, s.length <= f.sc.length + 3 -> RdI ⟨b, p⟩ (k + 1) -> Tot (Qc3 f f s f.kids 0 b p >>= fun (q : List Fm × List Int × Int) => (pure (Fm.mk f.kind f.name f.num s q.1, Rdr.mk q.2.1 q.2.2) : Option (Fm × Rdr))) fun r => r.1.sz <= f.sz + 3 * f.nodes /\ RdI r.2 (k + f.nodes) := by
   intro s b p hs hR
   refine Tot.bind (loop s f.kids.length 0 f.kids (by omega) rfl rfl hR (by rw [List.drop_zero]; omega)) fun q hq => ?_
   rw [List.drop_zero] at hq
   obtain ⟨q1, q2, q3⟩ := hq
   refine Tot.pure ⟨?_, q3.mono (by omega)⟩
   simp only; rw [Qnw]; omega
  by_cases h1 : f.kind = 1
  ·rw [if_pos h1]
   refine Tot.bind (p := fun (y : List Int × List Int × Int) => y.1.length <= 3 /\ RdI ⟨y.2.1, y.2.2⟩ (k + 1)) ?_ fun y hy => tail y.1 (by omega) hy.2
   refine Tot.bind (Qg5 h (by omega) (by omega)) fun q hq => ?_
   refine Tot.bind (Qj3 hq.1 hq.2.1) fun s hs => ?_
   have h3 : ∀ s ∈ ([[], [1], [2], [1, 2], [1, 3], [1, 2, 3], [99]] : List (List Int)), s.length <= 3 := by decide
   have := h3 s hs
   refine Tot.bind (Qoi (by simp only [List.length_nil]; omega)) fun z hz' => ?_
   subst hz'
   exact Tot.pure ⟨by simpa using this, hq.2.2⟩
  ·rw [if_neg h1, Qby, Qau]
   exact tail f.sc (by omega) (h.mono (by omega))
theorem Qlg {l : List Int} (h : ∀ x ∈ l, 0 <= x /\ x < 256) : Tot (Qd6 l) fun f => f.sz <= 1000000 := by
 rw [Qd6]
 refine Tot.bind (Qx4 h) fun r hr => ?_
 refine Tot.bind (Qm4 hr (by omega) (by simp)) fun d hd => ?_
 obtain ⟨hd, hr⟩ := hd
 have hd3 : ∃ n : Nat, d.1 = (n : Int) /\ n <= 4 := by
  simp only [List.mem_cons, List.not_mem_nil, or_false] at hd
  rcases hd with hd | hd | hd <;> exact ⟨d.1.toNat, by omega, by omega⟩
 obtain ⟨n, hn, hn4⟩ := hd3
 have hp : Pw n <= 25600 := by
  unfold Pw
  have : 4 ^ n <= 4 ^ 4 := Nat.pow_le_pow_right (by omega) hn4
  omega
 rw [hn]
 refine Tot.bind (Qyc n hr (by omega) (by omega)) fun f hf => ?_
 have hnz := Qqt f.1
 refine Tot.bind (Qu6 f.1 hf.2 (by omega) (by omega)) fun g hg => ?_
 refine Tot.bind (Qn0 g.1 hg.2 (by omega) (by omega)) fun u hu => ?_
 refine Tot.bind (Qn0 u.1 hu.2 (by omega) (by omega)) fun v hv => ?_
 exact Tot.pure (by omega)
theorem Qm2 : ∀ f : Fm, f.sz <= 1000000 -> Qcu f = some (Qf4 f) := by
 intro f
 induction f using Fm.ind with
 | h f ih =>
  intro hf
  have hz := Fm.Qff f
  rw [Qcu, Qe9]
  by_cases h2 : f.kind = 2
  ·rw [if_pos h2, if_pos h2]; rfl
  ·rw [if_neg h2, if_neg h2]
   by_cases h1 : f.kind = 1
   ·rw [if_pos h1, if_pos h1]; rfl
   ·rw [if_neg h1, if_neg h1, Qj9 _ _ (by omega), Qhx (Qc9 f) Qf4 (fun _ _ => rfl) f.kids [] 0 (fun x hx z i r hz => by
     have := Fm.Qid hx
     rw [Qc9, Qby, Qau, ih x hx (by omega), Qau, Qem (by simp; omega), Qau]) (by simp; omega)]
    rfl
theorem Qm1 : ∀ f : Fm, f.sz <= 1000000 -> Qd3 f = some f := by
 intro f
 induction f using Fm.ind with
 | h f ih =>
  intro hf
  have hz := Fm.Qff f
  rw [Qd3, Qcf, Qem (by simp only [List.length_nil]; omega), Qau, List.nil_append, Qks _ _ _ (by omega), Qhx (Qdr f f.sc) id (fun _ _ => rfl) f.kids [] 0 (fun x hx z i r hz => by
   have := Fm.Qid hx
   rw [Qdr, Qby, Qau, ih x hx (by omega), Qau, Qem (by simp; omega), Qau]; rfl) (by simp; omega), Qau, Qby, List.nil_append, List.map_id]
  cases f; rfl
theorem Qm0 : ∀ c : Cor, Qwl c -> Qd2 c = some c := by
 intro c
 induction c using Cor.ind with
 | h c ih =>
  intro hc
  obtain ⟨c1, c2, c3, c4⟩ := hc.out
  rw [Qd2, Qcf, Qem (by simp; omega), Qau, List.nil_append, Qm1 _ (by omega), Qau, Qkr _ _ _ _ (by omega), Qhx (Qdq c c.ids c.data) id (fun _ _ => rfl) c.kids [] 0 (fun x hx z i r hz => by
   rw [Qdq, Qby, Qau, ih x hx (c4 x hx), Qau, Qem (by simp; omega), Qau]; rfl) (by simp; omega)]
  simp only [Qau, Qby, List.nil_append, List.map_id, Cor.eta]
theorem Qqp {m : Nat} : ∀ v : Val, VI m v -> Qbt v = some v := by
 intro v
 induction v using Val.ind with
 | h v ih1 ih2 =>
  intro hv
  obtain ⟨a1, a2, a3, a4, a5, a6, a7⟩ := hv.out
  rw [Qbt, Qm0 _ hv.fnB, Qau, Qj7 _ _ _ (by omega), Qhx (Qc7 v v.fn) id (fun _ _ => rfl) v.items [] 0 (fun x hx z i r hz => by
   rw [Qc7, Qby, Qau, ih1 x hx (a6 x hx), Qau, Qem (by simp; omega), Qau]; rfl) (by simp; omega), Qau, Qj8 _ _ _ _ (by omega), Qhx (Qc8 v v.fn _) id (fun _ _ => rfl) v.env [] 0 (fun x hx z i r hz => by
   rw [Qc8, Qby, Qau, ih2 x hx (a7 x hx), Qau, Qem (by simp; omega), Qau, Slt.eta]; rfl) (by simp; omega)]
  simp only [Qau, Qby, List.nil_append, List.map_id, Val.eta]
theorem Qrb {α : Type} (F : Int -> Nat -> List α -> Option ((Bool × Int) ⊕ Int)) (g : α -> Nat) (hn : ∀ m i, F m i [] = some (.inr m)) : ∀ (l : List α) (m : Nat) (i : Nat), m <= 2000 -> (∀ x ∈ l, ∀ (m : Nat) i r, m <= 2000 -> (g x <= m -> F (m : Int) i (x :: r) = F ((m - g x : Nat) : Int) (i + 1) r) /\ (m < g x -> ∃ k, F (m : Int) i (x :: r) = some (.inl (false, k)))) ->
  (Qc4 g l <= m -> F (m : Int) i l = some (.inr ((m - Qc4 g l : Nat) : Int))) /\ (m < Qc4 g l -> ∃ k, F (m : Int) i l = some (.inl (false, k))) := by
 intro l
 induction l with
 | nil => intro m i _ _; exact ⟨fun _ => by rw [hn]; rfl, fun h => absurd h (Nat.not_lt_zero _)⟩
 | cons x l ih =>
  intro m i hm hc
  obtain ⟨h1, h2⟩ := hc x (List.mem_cons_self ..) m i l hm
  have hs : Qc4 g (x :: l) = g x + Qc4 g l := rfl
  rw [hs]
  by_cases hx : g x <= m
  ·rw [h1 hx]
   obtain ⟨q1, q2⟩ := ih (m - g x) (i + 1) (by omega) (fun y hy => hc y (List.mem_cons_of_mem _ hy))
   exact ⟨fun h => by rw [q1 (by omega)]; congr 3; omega, fun h => q2 (by omega)⟩
  ·exact ⟨fun h => by omega, fun _ => h2 (by omega)⟩
theorem Qv2 {k : Nat} : ∀ v : Val, VI k v -> ∀ m : Nat, m <= 2000 -> (v.nodes <= m -> Qdf v (m : Int) = some (true, ((m - v.nodes : Nat) : Int))) /\ (m < v.nodes -> ∃ q, Qdf v (m : Int) = some (false, q)) := by
 intro v
 induction v using Val.ind with
 | h v ih1 ih2 =>
  intro hv m hm
  obtain ⟨a1, a2, a3, a4, a5, a6, a7⟩ := hv.out
  have hne := Val.Qbl v
  rw [Qdf, Qce (by omega) (by omega)]
  by_cases h0 : m = 0
  ·subst h0
   rw [if_pos (by omega)]
   exact ⟨fun h => by omega, fun _ => ⟨_, rfl⟩⟩
  rw [if_neg (by omega), show ((m : Int) - 1) = ((m - 1 : Nat) : Int) by omega, Qmc _ _ (by omega)]
  obtain ⟨q1, q2⟩ := Qrb (fun m i l => Qb9 v m i l) Val.nodes (fun _ _ => rfl) v.items (m - 1) 0 (by omega) (fun x hx m i r hm => by
   obtain ⟨u1, u2⟩ := ih1 x hx (a6 x hx) m hm
   refine ⟨fun h => ?_, fun h => ?_⟩
   ·show Qb9 _ _ _ _ = _
    rw [Qb9, Qby, Qau, u1 h, Qau]; rfl
   ·obtain ⟨q, hq⟩ := u2 h
    refine ⟨q, ?_⟩
    show Qb9 _ _ _ _ = _
    rw [Qb9, Qby, Qau, hq, Qau]; rfl)
  by_cases h1 : Qc4 Val.nodes v.items <= m - 1
  ·have q1 := q1 h1
   rw [q1, Qau]
   simp only
   rw [Qmd _ _ (by omega)]
   obtain ⟨w1, w2⟩ := Qrb (fun m i l => Qca v m i l) Slt.nodes (fun _ _ => rfl) v.env (m - 1 - Qc4 Val.nodes v.items) 0 (by omega) (fun x hx m i r hm => by
    obtain ⟨u1, u2⟩ := ih2 x hx (a7 x hx) m hm
    rw [← Slt.Qbl] at u1 u2
    refine ⟨fun h => ?_, fun h => ?_⟩
    ·show Qca _ _ _ _ = _
     rw [Qca, Qby, Qau, u1 h, Qau]; rfl
    ·obtain ⟨q, hq⟩ := u2 h
     refine ⟨q, ?_⟩
     show Qca _ _ _ _ = _
     rw [Qca, Qby, Qau, hq, Qau]; rfl)
   by_cases h2 : Qc4 Slt.nodes v.env <= m - 1 - Qc4 Val.nodes v.items
   ·have w1 := w1 h2
    rw [w1, Qau]
    exact ⟨fun _ => by show some (true, _) = some (true, _); congr 3; omega, fun h => by omega⟩
   ·obtain ⟨q, hq⟩ := w2 (by omega)
    rw [hq, Qau]
    exact ⟨fun h => by omega, fun _ => ⟨q, rfl⟩⟩
  ·obtain ⟨q, hq⟩ := q2 (by omega)
   rw [hq, Qau]
   exact ⟨fun h => by omega, fun _ => ⟨q, rfl⟩⟩
theorem Qvc : ∀ f : Fm, f.sz <= 1000000 -> Qax f.strip [] = some [] := by
 intro f
 induction f using Fm.ind with
 | h f ih =>
  intro hf
  have hz := Fm.Qff f
  rw [Qax, Qfu, Fm.Qje]
  rw [show (Fm.mk f.kind f.name f.num [] (f.kids.map Fm.strip)).sc = [] from rfl, Qem (by simp), Qau, Qby, Qau, List.append_nil, Qfp _ _ (by show (f.kids.map Fm.strip).length < _; rw [List.length_map]; omega)]
  have key : ∀ (l : List Fm) (g : Fm) (i : Nat), (∀ x ∈ l, x ∈ f.kids) -> Qaw g [] i (l.map Fm.strip) = some [] := by
   intro l
   induction l with
   | nil => intro g i _; rfl
   | cons x l ihl =>
    intro g i h
    have hx := h x (List.mem_cons_self ..)
    have := Fm.Qid hx
    rw [List.map_cons, Qaw, Qby, Qau, ih x hx (by omega), Qau]
    exact ihl g _ (fun y hy => h y (List.mem_cons_of_mem _ hy))
  show (Qaw _ [] 0 (f.kids.map Fm.strip) >>= _) = _
  rw [key f.kids _ 0 (fun _ h => h)]; rfl
theorem Qyd : Qdv [] = some () := by
 rw [Qdv, show IntKind.u64.wrap ((([] : List Int).length : Nat) : Int) = 0 by decide, Qg4, Qf9, if_pos rfl, Qby, Qau, Qby, Qau, Qcy, Qb5, if_pos (by decide), Qbp, Qa2, if_neg (by decide)]
 rfl
theorem Qqx {f : Fm} (hf : f.sz <= 1000000) : Qfb f.strip = some [] := by
 have hs := Fm.Qmo f
 obtain ⟨b, hb, _⟩ := Qoe (f := f.strip) (by omega)
 rw [Qfb, hb, Qau]
 cases b
 ·rfl
 ·simp only [Bool.not_true, Bool.false_eq_true, if_false]
  rw [Qvc f hf, Qau, Qyd, Qau, Qdy, if_pos (by decide)]
  rfl
theorem Qj4 (a b : List Int) (ha : a.length <= 1000000) : Qbs a b = some (decide (a = b)) := by
 rw [Qbs]
 by_cases hl : a.length = b.length
 rotate_left
 ·rw [if_neg (by omega), decide_eq_false (fun h => hl (by rw [h]))]; rfl
 rw [if_pos (by omega), Qh3 _ _ (by omega)]
 have key : ∀ (l : List Int) (i : Nat), a.drop i = l -> Qbm a b i l = some (if l = b.drop i then .inr () else .inl false) := by
  intro l
  induction l with
  | nil =>
   intro i h
   have : a.length <= i := by have := congrArg List.length h; simp at this; omega
   rw [if_pos (by rw [List.drop_of_length_le (by omega)])]; rfl
  | cons x l ih =>
   intro i h
   have hi : i < a.length := by
    rcases Nat.lt_or_ge i a.length with h2 | h2
    ·exact h2
    ·rw [List.drop_of_length_le h2] at h; cases h
   rw [List.drop_eq_getElem_cons hi] at h
   injection h with e1 e2
   have hib : i < b.length := by omega
   rw [Qbm, Qby, Qau, Qb6 _ _ hib, Qau, List.drop_eq_getElem_cons hib]
   by_cases hx : x = b[i]
   ·rw [if_pos hx, ih _ e2]
    simp only [hx, List.cons.injEq, true_and]
   ·rw [if_neg hx, if_neg (fun h => hx (by injection h))]; rfl
 rw [key a 0 (List.drop_zero ..), List.drop_zero, Qau]
 by_cases h : a = b
 ·rw [if_pos h, decide_eq_true h]; rfl
 ·rw [if_neg h, decide_eq_false h]; rfl
theorem Qqq : ∀ f : Fm, f.sz <= 1000000 -> ∀ g : Fm, Qdl f g = some (decide (f = g)) := by
 intro f
 induction f using Fm.ind with
 | h f ih =>
  intro hf g
  have hz := Fm.Qff f
  have kids : f.kids.length = g.kids.length -> Qai f.kids g.kids 0 f.kids = some (if f.kids = g.kids then .inr () else .inl false) := by
   intro hl
   have key : ∀ (l : List Fm) (i : Nat), f.kids.drop i = l -> Qai f.kids g.kids i l = some (if l = g.kids.drop i then .inr () else .inl false) := by
    intro l
    induction l with
    | nil =>
     intro i h
     have : f.kids.length <= i := by have := congrArg List.length h; simp at this; omega
     rw [if_pos (by rw [List.drop_of_length_le (by omega)])]; rfl
    | cons x l ihl =>
     intro i h
     have hi : i < f.kids.length := by
      rcases Nat.lt_or_ge i f.kids.length with h2 | h2
      ·exact h2
      ·rw [List.drop_of_length_le h2] at h; cases h
     rw [List.drop_eq_getElem_cons hi] at h
     injection h with e1 e2
     have hib : i < g.kids.length := by omega
     have hm : x ∈ f.kids := e1 ▸ List.getElem_mem hi
     have := Fm.Qid hm
     rw [Qai, Qby, Qau, Qb6 _ _ hib, Qau, ih x hm (by omega), Qau, List.drop_eq_getElem_cons hib]
     by_cases hx : x = g.kids[i]
     ·rw [decide_eq_true hx]
      simp only [Bool.not_true, Bool.false_eq_true, if_false]
      rw [ihl _ e2]
      simp only [hx, List.cons.injEq, true_and]
     ·rw [decide_eq_false hx]
      show some (Sum.inl false) = _
      rw [if_neg (fun h => hx (by injection h))]
   have := key f.kids 0 (List.drop_zero ..)
   rwa [List.drop_zero] at this
  rw [Qdl, Qby, Qau, Qby, Qau]
  by_cases h : f = g
  ·subst h
   simp only [decide_true, Bool.and_self, if_true, Qj4 _ _ (show f.sc.length <= 1000000 by omega), Qau, Qby]
   rw [Qas, if_pos rfl, Qbg _ _ (by omega), kids rfl, if_pos rfl]; rfl
  ·rw [decide_eq_false h]
   by_cases c1 : (decide (f.kind = g.kind) && decide (f.name = g.name) && decide (f.num = g.num)) = true
   rotate_left
   ·rw [if_neg c1]; rfl
   rw [if_pos c1, Qj4 _ _ (show f.sc.length <= 1000000 by omega), Qau, Qby, Qau]
   by_cases c2 : f.sc = g.sc
   rotate_left
   ·rw [decide_eq_false c2]; rfl
   rw [decide_eq_true c2, if_pos rfl, Qas]
   by_cases c3 : f.kids.length = g.kids.length
   rotate_left
   ·rw [if_neg (by omega)]; rfl
   rw [if_pos (by omega), Qbg _ _ (by omega), kids c3, if_neg]
   ·rfl
   ·intro c4
    simp only [Bool.and_eq_true, decide_eq_true_eq] at c1
    apply h
    cases f; cases g
    simp only [Fm.kind, Fm.name, Fm.num, Fm.sc, Fm.kids] at c1 c2 c4
    rw [c1.1.1, c1.1.2, c1.2, c2, c4]
end Go.Proofs.SA
namespace Go.Proofs.SA
theorem Qk4 : ∀ (d : Nat) (f : Fm), FIs d f -> FIs d f.strip /\ f.strip.nodes = f.nodes /\ Qf4 f.strip = Qf4 f /\ VT d (Qf4 f) = FT d f.strip
 | 0, _, h => h.elim
 | d + 1, f, h => by
  have kids : ∀ l : List Fm, (∀ g ∈ l, FIs d g) -> (∀ g ∈ l.map Fm.strip, FIs d g) /\ Qc4 Fm.nodes (l.map Fm.strip) = Qc4 Fm.nodes l /\ (l.map Fm.strip).map Qf4 = l.map Qf4 /\ (l.map Qf4).map (VT d) = (l.map Fm.strip).map (FT d) := by
   intro l
   induction l with
   | nil => intro _; exact ⟨by simp, rfl, rfl, rfl⟩
   | cons x l ih =>
    intro hl
    obtain ⟨a1, a2, a3, a4⟩ := Qk4 d x (hl x (List.mem_cons_self ..))
    obtain ⟨b1, b2, b3, b4⟩ := ih (fun y hy => hl y (List.mem_cons_of_mem _ hy))
    refine ⟨fun g hg => ?_, ?_, ?_, ?_⟩
    ·rw [List.map_cons] at hg
     rcases List.mem_cons.1 hg with rfl | hg
     ·exact a1
     ·exact b1 g hg
    ·simp only [List.map_cons, Qc4, a2, b2]
    ·simp only [List.map_cons, a3, b3]
    ·simp only [List.map_cons, a4, b4]
  have e := Fm.Qje f
  have nil : ∀ l : List Fm, l.length = 0 -> l = [] := fun l hl => List.eq_nil_of_length_eq_zero hl
  rcases h with ⟨h1, h2, h3, h4, h5⟩ | ⟨h1, h2, h3, h4, h5, h6⟩ | ⟨h1, h2, h3, h4, h5⟩
  ·rw [nil _ h5] at e
   refine ⟨.inl ?_, ?_, ?_, ?_⟩
   ·rw [e]; exact ⟨h1, h2, h3, ⟨Nat.zero_le _, fun j hj => by simp [Fm.sc] at hj⟩, rfl⟩
   ·rw [e, Fm.Qbl, Fm.Qbl, nil _ h5]; rfl
   ·rw [e, Qe9, Qe9]
    show (if f.kind = 2 then _ else if f.kind = 1 then _ else _) = _
    rw [if_neg (by omega), if_pos h1, if_neg (by omega), if_pos h1]
    rfl
   ·rw [e, Qe9, if_neg (by omega), if_pos h1, VT, FT]
    show f.name.data.toList = if f.kind = 2 then _ else if f.kind = 1 then f.name.data.toList else _
    rw [if_neg (by omega), if_pos h1]
  ·rw [nil _ h6] at e
   refine ⟨.inr (.inl ?_), ?_, ?_, ?_⟩
   ·rw [e]; exact ⟨h1, h2, h3, h4, rfl, rfl⟩
   ·rw [e, Fm.Qbl, Fm.Qbl, nil _ h6]; rfl
   ·rw [e, Qe9, Qe9]
    show (if f.kind = 2 then _ else _) = _
    rw [if_pos h1, if_pos h1]; rfl
   ·rw [e, Qe9, if_pos h1, VT, FT]
    show Lib.itoa f.num = if f.kind = 2 then Lib.itoa f.num else _
    rw [if_pos h1]
  ·obtain ⟨b1, b2, b3, b4⟩ := kids f.kids h5
   refine ⟨.inr (.inr ?_), ?_, ?_, ?_⟩
   ·rw [e]; exact ⟨h1, h2, h3, rfl, b1⟩
   ·rw [e, Fm.Qbl, Fm.Qbl]; show 1 + Qc4 Fm.nodes (f.kids.map Fm.strip) = _; rw [b2]
   ·rw [e, Qe9, Qe9]
    show (if f.kind = 2 then _ else if f.kind = 1 then _ else Qxz ((f.kids.map Fm.strip).map Qf4)) = _
    rw [if_neg (by omega), if_neg (by omega), if_neg (by omega), if_neg (by omega), b3]
   ·rw [e, Qe9, if_neg (by omega), if_neg (by omega), VT, FT]
    show [40] ++ Lib.join ((f.kids.map Qf4).map (VT d)) [32] ++ [41] = if f.kind = 2 then _ else if f.kind = 1 then _ else [40] ++ Lib.join ((f.kids.map Fm.strip).map (FT d)) [32] ++ [41]
    rw [if_neg (by omega), if_neg (by omega), b4]
theorem FV.bare {f : Fm} (h : FV f) : FV f.strip := by
 obtain ⟨h1, h2, _⟩ := Qk4 40 f h.1
 exact ⟨h1, by rw [h2]; exact h.2⟩
theorem Qn2 : ∀ (n : Nat) (v : Val), v.nodes <= n -> v.Ok -> v.sz <= 1099511627776 -> Qbo v v = some true := by
 intro n
 induction n with
 | zero => intro v hn; rw [Val.Qbl] at hn; omega
 | succ n ih =>
  intro v hn hv hs
  obtain ⟨g0, g1, g2, g3, g4, g5, g6⟩ := hv.out
  have hz := Val.Qff v
  have hne := Val.Qbl v
  have loop : Qae v.items v.items 0 v.items = some (.inr ()) := by
   refine Q0e (fun i l => Qae v.items v.items i l) v.items (fun _ => rfl) (fun i hi r => ?_)
   have m1 := List.getElem_mem hi
   have s1 := Qg8 Val.sz _ _ m1
   have s3 := Qg8 Val.nodes _ _ m1
   show Qae _ _ _ _ = _
   rw [Qae, Qby, Qau, Qb6 _ _ hi, Qau, ih _ (by omega) (g5 _ m1) (by omega), Qau]
   rfl
  rw [Qbo]
  simp only [decide_true, Bool.and_self, Qby, Qau, if_true]
  rw [Qav, if_pos rfl, Qcn _ _ (by omega), loop]
  simp only [Qby, Qau, if_true, Qko v hv hs, decide_true]
theorem Q06 {g : Fm} (hv : Qcs g = some true) (hs : Qfb g = some []) (hz : g.sz <= 1000000) : Qfn (Cor.mk 4 0 (ByteArray.mk #[]) 0 [] g []) = some true := by
 have hi : Qbs [] [] = some true := by rw [Qj4 _ _ (by simp)]; rfl
 have hk : Qar [] [] = some true := by
  rw [Qar, if_pos rfl, Qap, if_neg (by decide)]; rfl
 have hsame : Qbk (Cor.mk 4 0 (ByteArray.mk #[]) 0 [] g []) (Cor.mk 4 0 (ByteArray.mk #[]) 0 [] g []) = some true := by
  rw [Qbk]
  simp only [decide_true, Bool.and_self, Qby, Qau, if_true, Cor.ids, Cor.data, Cor.kids, hi, Qqq g hz g, hk]
 rw [Qfn, Qbe, show IntKind.i64.wrap (600 - 1) = 599 by decide]
 simp only [show decide ((599 : Int) < 0) = false by decide, show decide ((1 : Int) > 120) = false by decide, Bool.or_self, Qby, Qau, Bool.false_eq_true, if_false, Cor.kind, Cor.data, Cor.kids, Cor.id, Cor.name, Cor.num, Cor.ids, show ¬ ((4 : Int) = 1) by decide, show ¬ ((4 : Int) = 2) by decide, show ¬ ((4 : Int) = 3) by decide, if_true, hv, hs, Bool.not_true]
 simp only [List.length_nil, Int.natCast_zero, show decide ((0 : Int) > 0) = false by decide, Bool.false_eq_true, if_false, if_true, hsame, Qau, Bool.not_true]
 rw [Qei, if_neg (by simp [Cor.kids])]
 rfl
theorem Qvd {f : Fm} (h : FV f) (hz : f.sz <= 1000000) : Qf5 (Cor.mk 4 0 (ByteArray.mk #[]) 0 [] f.strip []) 1 = some (Qf4 f, 0) := by
 have hs := Fm.Qmo f
 obtain ⟨_, hn, hd, _⟩ := Qk4 40 f h.1
 obtain ⟨b, hb, hbv⟩ := Qoe (f := f.strip) (by omega)
 have hbt : b = true := hbv.2 h.bare
 subst hbt
 have hvi : VI 0 (Qf4 f) := VI.data (by omega) 40 f h.1 h.2
 have hnodes := Qmx f
 have h2 := h.2
 rw [Qf5, Q06 hb (Qqx hz) (by omega), Qau]
 simp only [Bool.not_true, Bool.false_eq_true, if_false]
 rw [show Qcb 1 0 3000 = some true from rfl]
 simp only [Qau, Qby, Bool.not_true, Bool.false_eq_true, if_false]
 rw [Qbc]
 simp only [Cor.kind, Cor.data, Mch.code, Mch.fuel, if_true, show ¬ ((1 : Int) = 0) by decide, if_false, show ¬ ((4 : Int) = 1) by decide, show ¬ ((4 : Int) = 2) by decide, show ¬ ((4 : Int) = 3) by decide]
 rw [Qm2 f.strip (by omega), hd, Qau, Qby, Qau]
 simp only [Mch.code, if_true]
 obtain ⟨q, _⟩ := Qv2 (Qf4 f) hvi 2000 (by omega)
 have q := q (by omega)
 rw [show ((2000 : Nat) : Int) = 2000 from rfl] at q
 rw [q, Qau]
 simp only [Bool.not_true, Bool.false_eq_true, if_false]
 rw [Qqp _ hvi]; rfl
theorem Qnp {l : List Int} (h : ∀ x ∈ l, 0 <= x /\ x < 256) : Qfx l = some true := by
 rw [Qfx]
 split
 ·rfl
 obtain ⟨f, hf, hz⟩ := Qlg h
 rw [Qey, hf, Qau, Qby, Qau]
 obtain ⟨b, hb, hbv⟩ := Qoe (f := f) (by omega)
 obtain ⟨b', hb', hbv'⟩ := Q0f (f := f) (by omega)
 have : b' = b := by
  cases b <;> cases b'
  ·rfl
  ·exact absurd (hbv.2 (hbv'.1 rfl)) (by simp)
  ·exact absurd (hbv'.2 (hbv.1 rfl)) (by simp)
  ·rfl
 subst this
 rw [Qgr, hb, Qau, Qgs, hb', Qau]
 cases b'
 ·simp only [Bool.not_false, if_true, Qby, Qau]
  have hz0 : Qbo zV zV = some true := Qn2 1 zV (by rw [Val.Qbl]; decide) (VI.ok _ (VI.zero (m := 0) (by omega))) (by decide)
  rw [zV, zC] at hz0
  rw [hz0]
  rfl
 ·have hv := hbv.1 rfl
  have hs := Fm.Qmo f
  have hvi : VI 0 (Qf4 f) := VI.data (by omega) 40 f hv.1 hv.2
  have hnodes := Qmx f
  have h2 := hv.2
  have hsz := VI.sz _ hvi
  have hmul : 12001000 * (Qf4 f).nodes <= 12001000 * 400 := Nat.mul_le_mul_left _ (by omega)
  have hsame := Qn2 400 (Qf4 f) (by omega) (VI.ok _ hvi) (by omega)
  simp only [Bool.not_true, Bool.false_eq_true, if_false, Qby, Qau]
  rw [Qm2 f hz, Qau, Qau, Qxh f hz, Qau, Qau]
  simp only [hsame, Qau, beq_self_eq_true, Bool.not_true, Bool.or_self, Bool.false_eq_true, if_false]
  rw [Qlz f (by omega), Qau, Qvd hv hz, Qau]
  simp only [if_true, hsame, Qau]
  obtain ⟨_, _, _, ht⟩ := Qk4 40 f hv.1
  simp only [Qko _ (VI.ok _ hvi) (show (Qf4 f).sz <= 1099511627776 by omega), Qau, Qlz f (show f.sz <= 1048576 by omega), Q3f (show f.sz <= 1048576 by omega), FF, if_pos hv.bare, ht, if_true]
end Go.Proofs.SA
