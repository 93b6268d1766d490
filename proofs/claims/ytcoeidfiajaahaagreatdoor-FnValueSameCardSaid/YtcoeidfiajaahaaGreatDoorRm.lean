/- The reference's expansion from the beginning; core programs checked. -/
import Derived.Test.YtcoeidfiajaahaaGreatDoorRj
set_option linter.unusedVariables false
set_option linter.unusedSimpArgs false
set_option maxRecDepth 100000
open Go Go.Proofs Go.Proofs.Shadow
namespace Go.Proofs.SA
def Qzg (f : Fm) : Prop := f.kind = 3 /\ ∀ k ∈ f.kids, k.kind = 3 /\ k.kids.length = 2
theorem Q31 {f : Fm} (hf : f.sz <= 100000) : Tot (Qkj f) fun r => (Qzg f /\ r = (f.kids.map fun k => k.kids.getD 0 default, f.kids.map fun k => k.kids.getD 1 default, true)) ∨ (¬ Qzg f /\ r.2.2 = false) := by
 have hz := Fm.Qgf f
 have loop : ∀ (r : List Fm) (i : Nat) (z w : List Fm), z.length + r.length <= 200000 -> w.length + r.length <= 200000 -> Tot (Qe0 f z w i r) fun o => ((∀ k ∈ r, k.kind = 3 /\ k.kids.length = 2) /\ o = .inr (z ++ r.map fun k => k.kids.getD 0 default, w ++ r.map fun k => k.kids.getD 1 default)) ∨ (¬ (∀ k ∈ r, k.kind = 3 /\ k.kids.length = 2) /\ ∃ q, o = .inl q /\ q.2.2 = false) := by
  intro r
  induction r with
  | nil => intro i z w _ _; rw [Qe0]; exact ⟨_, rfl, .inl ⟨by simp, by simp⟩⟩
  | cons k r ih =>
   intro i z w hz hw
   simp only [List.length_cons] at hz hw
   rw [Qe0]
   simp only [Qak, Qae]
   by_cases h3 : k.kind = 3
   rotate_left
   ·rw [if_neg h3]
    simp only [Qae, if_true]
    exact ⟨_, rfl, .inr ⟨fun h => h3 (h k (List.mem_cons_self ..)).1, _, rfl, rfl⟩⟩
   rw [if_pos h3]
   by_cases h2 : k.kids.length = 2
   rotate_left
   ·simp only [Qae, decide_eq_false (show ¬ (k.kids.length : Int) = 2 by omega), Bool.not_false, if_true]
    exact ⟨_, rfl, .inr ⟨fun h => h2 (h k (List.mem_cons_self ..)).2, _, rfl, rfl⟩⟩
   have j0 : 0 < k.kids.length := by omega
   have j1 : 1 < k.kids.length := by omega
   simp only [Qae, decide_eq_true (show (k.kids.length : Int) = 2 by omega), Bool.not_true, Bool.false_eq_true, if_false, show idx k.kids 0 = some k.kids[0] from Qap _ 0 j0, show idx k.kids 1 = some k.kids[1] from Qap _ 1 j1]
   rw [Qbb (by simp; omega), Qae, Qbb (by simp; omega), Qae]
   refine (ih (i + 1) _ _ (by simp; omega) (by simp; omega)).mono fun o ho => ?_
   rcases ho with ⟨r1, r2⟩ | ⟨r1, r2⟩
   ·refine .inl ⟨fun x hx => ?_, ?_⟩
    ·rcases List.mem_cons.1 hx with rfl | hx
     ·exact ⟨h3, h2⟩
     ·exact r1 x hx
    ·rw [r2, List.map_cons, List.map_cons, Qcb j0, Qcb j1, List.append_assoc, List.append_assoc]; rfl
   ·exact .inr ⟨fun h => r1 fun x hx => h x (List.mem_cons_of_mem _ hx), r2⟩
 rw [Qkj, Qte _ _ _ (by omega)]
 obtain ⟨o, ho, hop⟩ := loop f.kids 0 [] [] (by simp; omega) (by simp; omega)
 rw [ho, Qae]
 rcases hop with ⟨r1, r2⟩ | ⟨r1, q, r2, r3⟩
 ·subst r2
  simp only [List.nil_append]
  by_cases h3 : f.kind = 3
  ·exact ⟨_, rfl, .inl ⟨⟨h3, r1⟩, by rw [decide_eq_true h3]⟩⟩
  ·exact ⟨_, rfl, .inr ⟨fun h => h3 h.1, decide_eq_false h3⟩⟩
 ·subst r2
  exact ⟨_, rfl, .inr ⟨fun h => r1 h.2, r3⟩⟩
theorem Q2c {f : Fm} (hf : FV f) (hp : Qzg f) {j : Nat} (hj : j < 2) : ∀ x ∈ f.kids.map fun k => k.kids.getD j default, FV x := fun x hx => by
 obtain ⟨k, hk, rfl⟩ := List.mem_map.1 hx
 have h2 := (hp.2 k hk).2
 simp only [Qcb (show j < k.kids.length by omega)]
 exact (hf.kid hk).kid (List.getElem_mem _)
theorem Q32 {f : Fm} (hp : Qzg f) : Qbg Fm.nodes (f.kids.map fun k => k.kids.getD 1 default) + 1 <= f.nodes := by
 have : ∀ l : List Fm, (∀ k ∈ l, k.kids.length = 2) -> Qbg Fm.nodes (l.map fun k => k.kids.getD 1 default) <= Qbg Fm.nodes l := by
  intro l
  induction l with
  | nil => intro _; exact Nat.le_refl _
  | cons k l ih =>
   intro h
   have h1 := ih (fun x hx => h x (List.mem_cons_of_mem _ hx))
   have h2 := h k (List.mem_cons_self ..)
   have h3 : 1 < k.kids.length := by omega
   have h4 := Qi4 (List.getElem_mem h3)
   simp only [List.map_cons, Qbg, Qcb h3]
   omega
 have h := this f.kids (fun k hk => (hp.2 k hk).2)
 have := Fm.Qa4 f
 omega
theorem Q7y {x : Xpn} (hx : XI x) {f : Fm} (hf : FV f) {id b : Int} (hb : b <= 60) (hid : Q5m x.macs id ≥ 0) : Tot (Qlj x f id b) fun r => r.2.2 = 0 -> XI r.1 /\ r.1.steps = x.steps + 1 /\ x.steps < b /\ FV r.2.1 := by
 have ht0 := hx.t0
 have hs0 := hx.s0
 rw [Qlj]
 split
 ·exact ⟨_, rfl, fun h => by simp at h⟩
 rename_i hst
 rw [Kbq hx, Qae]
 by_cases h1 : x.scope + 1 <= 99
 rotate_left
 ·rw [decide_eq_false h1]; simp only [Bool.not_false, if_true]; exact ⟨_, rfl, fun h => by simp at h⟩
 rw [decide_eq_true h1]
 simp only [Bool.not_true, Bool.false_eq_true, if_false]
 have hml := Kh1 hid
 have hsm := hx.sm
 rw [Qa8 (by omega) (by omega), Kbg _ _ (by exact hsm), Qae, Qoz (l := x.macs) hid hml.1, Qae, Qk0 _ _ f (by have := hf.sz; omega), Qae]
 have hm : MS (x.macs.getD (Q5m x.macs id).toNat default) := by
  have : (Q5m x.macs id).toNat < x.macs.length := by omega
  rw [Qcb this]; exact hx.mm _ (List.getElem_mem this)
 have hcs := Qm3 hf (x.scope + 1) 1
 refine Tot.bind (Qja (by omega)) fun b1 hb1 => ?_
 cases b1
 ·simp only [Bool.not_false, if_true]; exact ⟨_, rfl, fun h => by simp at h⟩
 simp only [Bool.not_true, Bool.false_eq_true, if_false]
 refine Tot.bind (Qv5 hx.b.bs hm.1 hm.2.1 (by omega)).true fun r1 _ => ?_
 split
 ·exact ⟨_, rfl, fun h => by simp at h⟩
 refine Tot.bind (Q3c hx.b.bs hm.1 hm.2.1 (by have := hm.2.2; omega) (by omega)) fun r2 hr2 => ?_
 cases hap : Q9s x.binds (x.macs.getD (Q5m x.macs id).toNat default).lits (x.macs.getD (Q5m x.macs id).toNat default).rules (chg (x.scope + 1) 1 f) with
 | none =>
  rw [hap] at hr2
  simp only at hr2
  rw [hr2]
  simp only [Bool.not_false, if_true]; exact ⟨_, rfl, fun h => by simp at h⟩
 | some g =>
  rw [hap] at hr2
  obtain ⟨rfl, hg⟩ := hr2
  have hcg := Qm3 hg (x.scope + 1) 1
  simp only [Bool.not_true, Bool.false_eq_true, if_false]
  rw [Qk0 _ _ g (by have := hg.sz; omega), Qae]
  obtain ⟨b2, e2, hb2⟩ := Qja (f := chg (x.scope + 1) 1 g) (by omega)
  rw [e2, Qae]
  cases b2
  ·simp only [Bool.not_false, if_true]; exact ⟨_, rfl, fun h => by simp at h⟩
  ·simp only [Bool.not_true, Bool.false_eq_true, if_false]
   refine ⟨_, rfl, fun _ => ⟨⟨hx.b, hx.m, hx.i, by show 0 <= x.scope + 1; omega, h1, by show 0 <= x.steps + 1; omega, by show x.steps + 1 <= 60; omega, hx.mm⟩, rfl, by omega, hb2.1 rfl⟩⟩
theorem Q50 : ∀ (d : Nat) (f : Fm), LN d f -> LN d f.strip
 | 0, _, h => h.elim
 | d + 1, f, h => by
  rw [Fm.Qvb]
  refine ⟨h.1, by show 0 <= 24; omega, fun k hk => ?_⟩
  have hk' : k ∈ f.kids.map Fm.strip := hk
  obtain ⟨y, hy, rfl⟩ := List.mem_map.1 hk'
  exact Q50 d y (h.2.2 y hy)
theorem Q4a (f : Fm) : f.strip.nodes = f.nodes := by
 induction f using Fm.ind with
 | h f ih =>
  rw [Fm.Qa4, Fm.Qa4 f, Fm.Qvb]
  have : ∀ l : List Fm, (∀ g ∈ l, g.strip.nodes = g.nodes) -> Qbg Fm.nodes (l.map Fm.strip) = Qbg Fm.nodes l := by
   intro l
   induction l with
   | nil => intro _; rfl
   | cons g l ihl => intro h; rw [List.map_cons, Qbg, Qbg, h g (List.mem_cons_self ..), ihl (fun x hx => h x (List.mem_cons_of_mem _ hx))]
  show 1 + Qbg Fm.nodes (f.kids.map Fm.strip) = _
  rw [this _ ih]
theorem Kpb : ∀ (l : List Fm) (h : l.length = 3), l[0].nodes + l[1].nodes + l[2].nodes = Qbg Fm.nodes l
 | [a, b, c], _ => by simp [Qbg]; omega
theorem Q1u {b : Int} (hb : b <= 60) : ∀ (N : Nat) (x : Xpn) (f : Fm), XI x -> FV f -> (60 - x.steps).toNat * 1000 + f.nodes <= N -> Tot (Qbp x f b) (P7 x f.nodes) := by
 intro N
 induction N with
 | zero => intro x f _ _ h; have := Qkf f; omega
 | succ N ih =>
  intro x f hx hf hN
  have hnf := Fm.Qa4 f
  have hkl := hf.Qse
  rw [Qbp]
  by_cases k2 : f.kind = 2
  ·rw [if_pos k2]; exact ⟨_, rfl, fun _ => ⟨hx, Int.le_refl _, Q1g _ _ _ e0 _ _ (by simp) _ (by simp) (by simp), by have := Qkf f; simp [Cor.Qa4, Cor.kids, Qbg]; omega⟩⟩
  rw [if_neg k2]
  by_cases k1 : f.kind = 1
  ·rw [if_pos k1]
   refine Tot.bind (Q7f hx hf) fun r hr => ⟨_, rfl, fun h => ?_⟩
   obtain ⟨a1, a2, a3, a4⟩ := hr h
   exact ⟨a1, a2, a3, by have := Qkf f; show (r.2.1.nodes : Int) <= _ + 400 * (r.1.steps - x.steps); omega⟩
  rw [if_neg k1]
  by_cases hl0 : (f.kids.length : Int) = 0
  ·rw [if_pos hl0]; exact ⟨_, rfl, .bad (by decide)⟩
  rw [if_neg hl0]
  have l0 : 0 < f.kids.length := by omega
  rw [show idx f.kids 0 = some f.kids[0] from Qap f.kids 0 l0, Qae]
  have kid : ∀ (l : List Fm), (∀ g ∈ l, FV g /\ g.nodes < f.nodes) -> l.length <= 400 -> ∀ y, XI y -> x.steps <= y.steps -> Tot (Qhg y l b) (PA y l) := fun l hl hll y hy hxy =>
   Q9b (s0 := x.steps) (fun z g hz hs hg => ih z g hz (hl g hg).1 (by have := (hl g hg).2; omega)) hll hy hxy
  have hkids : ∀ g ∈ f.kids, FV g /\ g.nodes < f.nodes := fun g hg => ⟨hf.kid hg, by have := Qi4 hg; omega⟩
  have call : Tot ((Qhg x f.kids b >>= fun x80 => pure (x80.1, Cor.mk 6 0 (ByteArray.mk #[]) 0 [] (Fm.mk 0 (ByteArray.mk #[]) 0 [] []) x80.2.1, x80.2.2)) : Option (Xpn × Cor × Int)) (P7 x f.nodes) := by
   refine Tot.bind (kid f.kids hkids (by omega) x hx (Int.le_refl _)) fun r hr => ⟨_, rfl, fun h => ?_⟩
   obtain ⟨a1, a2, a3, a4, a5⟩ := hr h
   refine ⟨a1, a2, Q1g _ _ _ e0 _ _ (by simp) _ (by omega) a4, ?_⟩
   show ((Cor.mk _ _ _ _ _ _ r.2.1).nodes : Int) <= _ + 400 * (r.1.steps - x.steps)
   rw [Cor.Qa4]; simp only [Cor.kids]; omega
  by_cases k3 : f.kids[0].kind = 1
  rotate_left
  ·rw [if_neg k3]; exact call
  have hf0 := hf.kid (List.getElem_mem l0)
  rw [if_pos k3, Qae, Q5n x _ hx.b.bs hf0.smc hx.sm, Qae]
  by_cases m4 : (Qxy x f.kids[0]).1 = 4
  ·rw [if_pos m4]; exact ⟨_, rfl, .bad (by decide)⟩
  rw [if_neg m4]
  by_cases m1 : (Qxy x f.kids[0]).1 = 1
  rotate_left
  ·rw [if_neg m1]
   by_cases m2 : (Qxy x f.kids[0]).1 = 2
   rotate_left
   ·rw [if_neg m2]; exact call
   rw [if_pos m2, Qlz]
   obtain ⟨r, hr1, hr⟩ := Q7y hx hf hb (Kbh m2)
   rw [hr1, Qae]
   by_cases h0 : r.2.2 = 0
   rotate_left
   ·rw [if_neg h0]; exact ⟨_, rfl, .bad h0⟩
   obtain ⟨a1, a2, a3, a4⟩ := hr h0
   rw [if_pos h0]
   have ht0 := hx.t0
   refine Tot.bind (Tot.bind (ih r.1 r.2.1 a1 a4 (by have := a4.2; have := a1.t1; rw [a2] at *; omega)) fun q hq => ⟨_, rfl, hq⟩) fun q hq => ⟨_, rfl, fun h => ?_⟩
   obtain ⟨c1, c2, c3, c4⟩ := hq h
   have hn4 := a4.2
   refine ⟨c1, by show x.steps <= q.1.steps; omega, c3, ?_⟩
   show (q.2.1.nodes : Int) <= _ + 400 * (q.1.steps - x.steps)
   omega
  rw [if_pos m1]
  have hform : Tot (Qlg x f (Qxy x f.kids[0]).2 b) (P7 x f.nodes) := by
   generalize (Qxy x f.kids[0]).2 = id
   rw [Qlg]
   simp only [Qak, Qae]
   split
   ·rename_i hq
    rw [Bool.and_eq_true, decide_eq_true_iff, decide_eq_true_iff] at hq
    have l1 : 1 < f.kids.length := by omega
    have hv := hf.kid (List.getElem_mem l1)
    rw [show idx f.kids 1 = some f.kids[1] from Qap f.kids 1 l1, Qae, Qtv _ (by have := hv.sz; omega), Qae]
    refine ⟨_, rfl, fun _ => ⟨hx, Int.le_refl _, .mk e0 (by simp) (Q50 _ _ hv.ln) (by rw [Q4a]; exact hv.2) (by simp) (by simp), ?_⟩⟩
    have := Qkf f
    simp [Cor.Qa4, Cor.kids, Qbg]; omega
   split
   ·rename_i hq
    rw [Bool.and_eq_true, decide_eq_true_iff, decide_eq_true_iff] at hq
    have hsub : Qy4 f.kids 1 (f.kids.length : Int) = some (f.kids.drop 1) := by
     unfold Qy4
     rw [if_pos ⟨by omega, by omega, by omega⟩]
     congr 1
     rw [List.take_of_length_le]; rfl
     rw [List.length_drop]; omega
    rw [hsub, Qae]
    refine Tot.bind (kid (f.kids.drop 1) (fun g hg => hkids g (List.mem_of_mem_drop hg)) (by rw [List.length_drop]; omega) x hx (Int.le_refl _)) fun r hr => ⟨_, rfl, fun h => ?_⟩
    obtain ⟨a1, a2, a3, a4, a5⟩ := hr h
    refine ⟨a1, a2, Q1g _ _ _ e0 _ _ (by simp) _ (by rw [a3, List.length_drop]; omega) a4, ?_⟩
    show ((Cor.mk _ _ _ _ _ _ r.2.1).nodes : Int) <= _ + 400 * (r.1.steps - x.steps)
    rw [Cor.Qa4]; simp only [Cor.kids]
    have : Qbg Fm.nodes (f.kids.drop 1) <= Qbg Fm.nodes f.kids := by
     conv => rhs; rw [← List.take_append_drop 1 f.kids, Qj7]
     omega
    omega
   have body : ∀ (hb2 : 2 < f.kids.length) (names : List Fm), (∀ n ∈ names, FV n) -> names.length <= 400 -> ∀ y, XI y -> x.steps <= y.steps -> Tot (Qj6 y names f.kids[2] b) (P7 y (f.kids[2].nodes + 1)) := fun hb2 names hn hnl y hy hxy => by
    have hv := hf.kid (List.getElem_mem hb2)
    have hk := Qi4 (List.getElem_mem hb2)
    exact Ka0 (s0 := x.steps) hv (fun z g hz hs hg hgn => ih z g hz hg (by omega)) hn hnl hy hxy
   have lam : Tot ((if (decide (id = 1) && decide ((f.kids.length : Int) = 3)) = true then (idx f.kids 1 >>= fun x72 => some (decide (x72.kind = 3))) else some false : Option Bool)) fun c => c = true -> id = 1 /\ f.kids.length = 3 := by
    split
    ·rename_i hq
     rw [Bool.and_eq_true, decide_eq_true_iff, decide_eq_true_iff] at hq
     have l1 : 1 < f.kids.length := by omega
     rw [show idx f.kids 1 = some f.kids[1] from Qap f.kids 1 l1, Qae]
     exact ⟨_, rfl, fun _ => ⟨hq.1, by omega⟩⟩
    ·exact ⟨_, rfl, fun h => by cases h⟩
   refine Tot.bind lam fun c hc => ?_
   by_cases hct : c = true
   ·rw [if_pos hct]
    obtain ⟨_, h3⟩ := hc hct
    have l1 : 1 < f.kids.length := by omega
    have l2 : 2 < f.kids.length := by omega
    rw [show idx f.kids 1 = some f.kids[1] from Qap f.kids 1 l1, Qae, show idx f.kids 2 = some f.kids[2] from Qap f.kids 2 l2, Qae]
    have hv1 := hf.kid (List.getElem_mem l1)
    have hk2 := Qi4 (List.getElem_mem l2)
    refine Tot.bind (body l2 f.kids[1].kids (fun n hn => hv1.kid hn) (by have := hv1.Qse; omega) x hx (Int.le_refl _)) fun r hr => ⟨_, rfl, fun h => ?_⟩
    obtain ⟨a1, a2, a3, a4⟩ := hr h
    exact ⟨a1, a2, a3, by show (r.2.1.nodes : Int) <= _ + 400 * (r.1.steps - x.steps); omega⟩
   rw [if_neg hct]
   split
   ·exact ⟨_, rfl, .bad (by decide)⟩
   rename_i hq
   have h3 : f.kids.length = 3 := by
    rw [Bool.or_eq_true, not_or] at hq
    have := hq.2
    simp only [Bool.not_eq_true', decide_eq_false_iff_not, Classical.not_not] at this
    omega
   have l1 : 1 < f.kids.length := by omega
   have l2 : 2 < f.kids.length := by omega
   have hv1 := hf.kid (List.getElem_mem l1)
   have hv2 := hf.kid (List.getElem_mem l2)
   have hk1 := Qi4 (List.getElem_mem l1)
   have hk2 := Qi4 (List.getElem_mem l2)
   have hsum := Kpb f.kids h3
   have hp0 := Qkf f.kids[0]
   rw [show idx f.kids 1 = some f.kids[1] from Qap f.kids 1 l1, Qae]
   refine Tot.bind (Q31 (by have := hv1.sz; omega)) fun r hr => ?_
   rcases hr with ⟨hpo, rfl⟩ | ⟨_, hpf⟩
   rotate_left
   ·rw [hpf]; simp only [Bool.not_false, if_true]; exact ⟨_, rfl, .bad (by decide)⟩
   simp only [Bool.not_true, Bool.false_eq_true, if_false, show idx f.kids 2 = some f.kids[2] from Qap f.kids 2 l2, Qae]
   have hn := Q2c hv1 hpo (j := 0) (by omega)
   have hvs := Q2c hv1 hpo (j := 1) (by omega)
   have hpn := Q32 hpo
   have hkl1 := hv1.Qse
   split
   ·refine Tot.bind (Q14 (s0 := x.steps) hv2 (fun z g hz hs hg hgn => ih z g hz hg (by omega)) hn hvs (by simp) (by rw [List.length_map]; omega) hx (Int.le_refl _)) fun r hr => ⟨_, rfl, fun h => ?_⟩
    obtain ⟨a1, a2, a3, a4⟩ := hr h
    exact ⟨a1, a2, a3, by show (r.2.1.nodes : Int) <= _ + 400 * (r.1.steps - x.steps); omega⟩
   ·refine Tot.bind (kid _ (fun g hg => ⟨hvs g hg, by have := Qf9 Fm.nodes _ g hg; omega⟩) (by rw [List.length_map]; omega) x hx (Int.le_refl _)) fun r hr => ?_
    by_cases h0 : r.2.2 = 0
    rotate_left
    ·rw [if_neg h0]; exact ⟨_, rfl, .bad h0⟩
    rw [if_pos h0]
    obtain ⟨a1, a2, a3, a4, a5⟩ := hr h0
    refine Tot.bind (body l2 _ hn (by rw [List.length_map]; omega) r.1 a1 a2) fun q hq => ?_
    rw [List.length_map] at a3
    rw [Qbb (by simp; omega), Qae]
    refine ⟨_, rfl, fun h => ?_⟩
    obtain ⟨c1, c2, c3, c4⟩ := hq h
    refine ⟨c1, by show x.steps <= q.1.steps; omega, Q1g _ _ _ e0 _ _ (by simp) _ (by simp; omega) (fun c hc => ?_), ?_⟩
    ·rcases List.mem_cons.1 hc with rfl | hc
     ·exact c3
     ·exact a4 c hc
    ·show ((Cor.mk _ _ _ _ _ _ ([q.2.1] ++ r.2.1)).nodes : Int) <= _ + 400 * (q.1.steps - x.steps)
     rw [Cor.Qa4]
     simp only [Cor.kids, List.cons_append, List.nil_append, Qbg]
     omega
  exact Tot.bind hform fun r hr => ⟨_, rfl, hr⟩
end Go.Proofs.SA
namespace Go.Proofs.SA
inductive Q0y : Cor -> Prop
 | mk {k i : Int} {s : ByteArray} {n : Int} {l : List Int} {d : Fm} {ks : List Cor} (hl : l.length <= 1000000) (hd : d.sz <= 1000000) (hk : ks.length <= 1000000) (h : ∀ x ∈ ks, Q0y x) : Q0y (.mk k i s n l d ks)
theorem Q0y.out {c : Cor} (h : Q0y c) : c.ids.length <= 1000000 /\ c.data.sz <= 1000000 /\ c.kids.length <= 1000000 /\ ∀ x ∈ c.kids, Q0y x := by
 cases h; exact ⟨by assumption, by assumption, by assumption, by assumption⟩
theorem Q21.b {c : Cor} (h : Q21 c) : Q0y c := by
 induction h with
 | mk hs hl hd hn hk _ ih => exact .mk (by omega) (by have := LN.sz _ _ hd; omega) (by omega) ih
def arity (k : Int) (n : Nat) : Prop := ((k = 1 ∨ k = 2 ∨ k = 3 ∨ k = 4) /\ n = 0) ∨ (k = 5 /\ n = 1) ∨ (k = 6 /\ 1 <= n) ∨ (k = 7 /\ n = 3)
def zF : Fm := Fm.mk 0 (ByteArray.mk #[]) 0 [] []
def Qzy (c : Cor) : Prop := ((c.kind = 1 -> 1 <= c.id /\ c.id <= 999) /\ (c.kind ≠ 1 -> c.id = 0)) /\ ((c.kind = 2 -> NV c.name) /\ (c.kind ≠ 2 -> c.name = ByteArray.mk #[])) /\ ((c.kind = 3 -> 0 <= c.num /\ c.num <= 999) /\ (c.kind ≠ 3 -> c.num = 0)) /\ ((c.kind = 4 -> FV c.data /\ c.data.strip = c.data) /\ (c.kind ≠ 4 -> c.data = zF)) /\ (c.kind ≠ 5 -> c.ids = [])
def CIs : Nat -> List Int -> Cor -> Prop
 | 0, _, _ => False
 | d + 1, sc, c => arity c.kind c.kids.length /\ Qzy c /\ (c.kind = 1 -> c.id ∈ sc) /\ (∀ i ∈ c.ids, 1 <= i /\ i <= 999 /\ i ∉ sc) /\ c.ids.Nodup /\ ∀ k ∈ c.kids, CIs d (sc ++ c.ids) k
def CV (c : Cor) : Prop := CIs 120 [] c /\ c.nodes <= 600
theorem Q7b (k : Int) (n : Nat) : Tot (Qle k n) fun b => b = true ↔ arity k n := by
 rw [Qle]
 by_cases h1 : k = 1
 ·subst h1; simp [Qak, Qae, arity, Tot]
 by_cases h2 : k = 2
 ·subst h2; simp [Qak, Qae, arity, Tot]
 by_cases h3 : k = 3
 ·subst h3; simp [Qak, Qae, arity, Tot]
 by_cases h4 : k = 4
 ·subst h4; simp [Qak, Qae, arity, Tot]
 by_cases h5 : k = 5
 ·subst h5; simp [Qak, Qae, arity, Tot]; omega
 by_cases h6 : k = 6
 ·subst h6; simp [Qak, Qae, arity, Tot]; omega
 by_cases h7 : k = 7
 ·subst h7; simp [Qak, Qae, arity, Tot]; omega
 simp [Qak, Qae, arity, Tot, h1, h2, h3, h4, h5, h6, h7]
theorem Q1v {c : Cor} (hd : c.data.sz <= 1000000) : Tot (Qix c) fun b => b = true ↔ Qzy c := by
 have hs : Qbs c.data (Fm.mk 0 (ByteArray.mk #[]) 0 [] []) = some (decide (c.data = zF)) := Qo3 _ hd _
 obtain ⟨bn, en, hn⟩ := Q3x c.name
 obtain ⟨bf, ef, hf⟩ := Qja (f := c.data) (by omega)
 have est : Qdg c.data = some c.data.strip := Qtv c.data (by omega)
 have esm : Qbs c.data.strip c.data = some (decide (c.data.strip = c.data)) := Qo3 _ (by have := Fm.Keo c.data; omega) _
 have hi : decide ((c.ids.length : Int) = 0) = decide (c.ids = []) := by
  by_cases h : c.ids = []
  ·rw [h]; rfl
  ·rw [decide_eq_false h, decide_eq_false]
   intro h2; exact h (List.eq_nil_of_length_eq_zero (by omega))
 have key : ∀ (k1 k2 k3 k4 k5 : Bool) (iL iG iZ nZ mL mG mZ dS dZ iN : Bool), k1 = decide (c.kind = 1) -> k2 = decide (c.kind = 2) -> k3 = decide (c.kind = 3) -> k4 = decide (c.kind = 4) -> k5 = decide (c.kind = 5) ->
   iL = decide (c.id < 1) -> iG = decide (c.id > 999) -> iZ = decide (c.id = 0) -> nZ = decide (c.name = ByteArray.mk #[]) -> mL = decide (c.num < 0) -> mG = decide (c.num > 999) -> mZ = decide (c.num = 0) -> dS = decide (c.data.strip = c.data) -> dZ = decide (c.data = zF) -> iN = decide (c.ids = []) ->
   Qix c = some (!(if k1 then iL || iG else !iZ) && !(if k2 then !bn else !nZ) && !(if k3 then mL || mG else !mZ) && !(if k4 then !bf || !dS else !dZ) && (k5 || iN)) := by
  intro k1 k2 k3 k4 k5 iL iG iZ nZ mL mG mZ dS dZ iN e1 e2 e3 e4 e5 f1 f2 f3 f4 f5 f6 f7 f8 f9 f10
  have c1 : (c.kind = 1) = (k1 = true) := by rw [e1]; simp
  have c2 : (c.kind = 2) = (k2 = true) := by rw [e2]; simp
  have c3 : (c.kind = 3) = (k3 = true) := by rw [e3]; simp
  have c4 : (c.kind = 4) = (k4 = true) := by rw [e4]; simp
  rw [Qix]
  simp only [← e1, ← e2, ← e3, ← e4, ← e5, ← f1, ← f2, ← f3, ← f4, ← f5, ← f6, ← f7, c1, c2, c3, c4, en, ef, est, esm, hs, hi, ← f8, ← f9, ← f10, Qak, Qae]
  cases k1 <;> cases k2 <;> cases k3 <;> cases k4 <;> simp only [Qae, Qak, Bool.false_eq_true, if_false, if_true, Bool.not_true, Bool.not_false, Bool.true_and, Bool.false_and, esm, ← f8]
  all_goals (cases iL <;> cases iG <;> cases iZ <;> cases nZ <;> first | rfl | (cases bn <;> cases mL <;> cases mG <;> cases mZ <;> first | rfl | (cases bf <;> cases dS <;> cases dZ <;> first | rfl | (cases k5 <;> cases iN <;> rfl))))
 refine ⟨_, key _ _ _ _ _ _ _ _ _ _ _ _ _ _ _ rfl rfl rfl rfl rfl rfl rfl rfl rfl rfl rfl rfl rfl rfl rfl, ?_⟩
 unfold Qzy
 simp only [Bool.and_eq_true, Bool.not_eq_true', Bool.or_eq_true, decide_eq_true_eq]
 rw [← hn, ← hf]
 have q1 : (if decide (c.kind = 1) = true then (decide (c.id < 1) || decide (c.id > 999)) else !decide (c.id = 0)) = false ↔ ((c.kind = 1 -> 1 <= c.id /\ c.id <= 999) /\ (c.kind ≠ 1 -> c.id = 0)) := by
  by_cases h : c.kind = 1
  ·simp [h]
  ·simp [h]
 have q2 : (if decide (c.kind = 2) = true then !bn else !decide (c.name = ByteArray.mk #[])) = false ↔ ((c.kind = 2 -> bn = true) /\ (c.kind ≠ 2 -> c.name = ByteArray.mk #[])) := by
  by_cases h : c.kind = 2
  ·simp [h]
  ·simp [h]
 have q3 : (if decide (c.kind = 3) = true then (decide (c.num < 0) || decide (c.num > 999)) else !decide (c.num = 0)) = false ↔ ((c.kind = 3 -> 0 <= c.num /\ c.num <= 999) /\ (c.kind ≠ 3 -> c.num = 0)) := by
  by_cases h : c.kind = 3
  ·simp [h]
  ·simp [h]
 have q4 : (if decide (c.kind = 4) = true then (!bf || !decide (c.data.strip = c.data)) else !decide (c.data = zF)) = false ↔ ((c.kind = 4 -> bf = true /\ c.data.strip = c.data) /\ (c.kind ≠ 4 -> c.data = zF)) := by
  by_cases h : c.kind = 4
  ·simp [h]
  ·simp [h]
 have q5 : (c.kind = 5 ∨ c.ids = []) ↔ (c.kind ≠ 5 -> c.ids = []) := by
  by_cases h : c.kind = 5
  ·simp [h]
  ·simp [h]
 simp only [decide_eq_true_eq] at q1 q2 q3 q4
 rw [q1, q2, q3, q4, q5, and_assoc, and_assoc, and_assoc]
theorem Kn5 (c : Cor) (d : Int) : ∀ (r : List Int) (i : Nat) (sc : List Int), sc.length + r.length <= 1000000000 -> (∀ x ∈ r, True) -> Tot (Qhw c d sc i r) fun o => match o with
  | .inl q => q = false /\ ¬ ((∀ x ∈ r, 1 <= x /\ x <= 999 /\ x ∉ sc) /\ r.Nodup)
  | .inr q => q = sc ++ r /\ (∀ x ∈ r, 1 <= x /\ x <= 999 /\ x ∉ sc) /\ r.Nodup := by
 intro r
 induction r with
 | nil => intro i sc _ _; rw [Qhw]; exact ⟨_, rfl, by simp, by simp, by simp⟩
 | cons x r ih =>
  intro i sc hl _
  simp only [List.length_cons] at hl
  rw [Qhw]
  simp only [Qak, Qae]
  have bad : ¬ (1 <= x /\ x <= 999 /\ x ∉ sc) -> Tot (some (Sum.inl false) : Option (Bool ⊕ List Int)) fun o => match o with
   | .inl q => q = false /\ ¬ ((∀ y ∈ x :: r, 1 <= y /\ y <= 999 /\ y ∉ sc) /\ (x :: r).Nodup)
   | .inr q => q = sc ++ (x :: r) /\ (∀ y ∈ x :: r, 1 <= y /\ y <= 999 /\ y ∉ sc) /\ (x :: r).Nodup := fun h => ⟨_, rfl, rfl, fun h2 => h (h2.1 x (List.mem_cons_self ..))⟩
  by_cases h1 : x < 1
  ·simp only [h1, if_true, Qae]; exact bad (by omega)
  by_cases h2 : x > 999
  ·simp only [h1, h2, if_false, if_true, Qae, decide_true]; exact bad (by omega)
  simp only [h1, h2, if_false, Qae, decide_false, Bool.false_eq_true, Q1x sc x (show Sm sc.length by unfold Sm; omega)]
  by_cases h3 : x ∈ sc
  ·simp only [h3, decide_true, if_true]; exact bad (fun h => h.2.2 h3)
  simp only [h3, decide_false, Bool.false_eq_true, if_false]
  rw [Qbb (by simp; omega)]
  simp only [Qae, List.nil_append]
  rw [Qbb (by simp; omega)]
  simp only [Qae]
  refine (ih (i + 1) (sc ++ [x]) (by simp; omega) (fun _ _ => trivial)).mono fun o ho => ?_
  have conv : ((∀ y ∈ r, 1 <= y /\ y <= 999 /\ y ∉ sc ++ [x]) /\ r.Nodup) ↔ ((∀ y ∈ x :: r, 1 <= y /\ y <= 999 /\ y ∉ sc) /\ (x :: r).Nodup) := by
   rw [List.nodup_cons]
   constructor
   ·rintro ⟨a, b⟩
    refine ⟨fun y hy => ?_, fun hx => ?_, b⟩
    ·rcases List.mem_cons.1 hy with rfl | hy
     ·exact ⟨by omega, by omega, h3⟩
     ·have := a y hy; exact ⟨this.1, this.2.1, fun h => this.2.2 (List.mem_append_left _ h)⟩
    ·exact (a x hx).2.2 (by simp)
   ·rintro ⟨a, b, e⟩
    refine ⟨fun y hy => ?_, e⟩
    have := a y (List.mem_cons_of_mem _ hy)
    refine ⟨this.1, this.2.1, fun h => ?_⟩
    rcases List.mem_append.1 h with h | h
    ·exact this.2.2 h
    ·rw [List.mem_singleton.1 h] at hy; exact b hy
  cases o with
  | inl q => exact ⟨ho.1, fun h => ho.2 (conv.2 h)⟩
  | inr q =>
   obtain ⟨a, b⟩ := ho
   exact ⟨by rw [a, List.append_assoc]; rfl, conv.1 b⟩
theorem Kdu : ∀ (d : Nat), d <= 120 -> ∀ (c : Cor), Q0y c -> ∀ sc : List Int, sc.length + d * 1000000 <= 900000000 -> Tot (Qjv c sc d) fun b => b = true ↔ CIs d sc c := by
 intro d
 induction d with
 | zero => intro _ c _ sc _; rw [Qjv, if_pos (by rfl)]; simp only [Qak, Qae, if_true]; exact ⟨_, rfl, fun h => (by cases h), fun h => (show False from h).elim⟩
 | succ d ih =>
  intro hd c hc sc hsc
  obtain ⟨c1, c2, c3, c4⟩ := hc.out
  rw [Qjv, if_neg (by omega)]
  have bad : ¬ CIs (d + 1) sc c -> Tot (some false : Option Bool) fun b => b = true ↔ CIs (d + 1) sc c := fun h => ⟨_, rfl, fun h2 => (by cases h2), fun h2 => absurd h2 h⟩
  obtain ⟨b1, e1, h1⟩ := Q7b c.kind c.kids.length
  rw [e1]
  simp only [Qak, Qae]
  cases b1
  ·simp only [Bool.not_false, if_true, Qae]
   exact bad fun h => by have := h1.2 h.1; cases this
  obtain ⟨b2, e2, h2⟩ := Q1v c2
  simp only [Bool.not_true, Bool.false_eq_true, if_false, e2, Qae]
  cases b2
  ·simp only [Bool.not_false, if_true, Qae]
   exact bad fun h => by have := h2.2 h.2.1; cases this
  simp only [Bool.not_true, Bool.false_eq_true, if_false]
  have h3 : ((if c.kind = 1 then (Qfv sc c.id >>= fun x34 => some (!x34)) else some false : Option Bool)) = some (decide (c.kind = 1 /\ c.id ∉ sc)) := by
   by_cases hk : c.kind = 1
   ·rw [if_pos hk, Q1x sc c.id (by unfold Sm; omega), Qae]; by_cases hm : c.id ∈ sc <;> simp [hk, hm]
   ·rw [if_neg hk]; simp [hk]
  rw [h3]
  simp only [Qae]
  by_cases h4 : c.kind = 1 /\ c.id ∉ sc
  ·rw [decide_eq_true h4]
   simp only [if_true]
   exact bad fun h => h4.2 (h.2.2.1 h4.1)
  rw [decide_eq_false h4]
  simp only [Bool.false_eq_true, if_false]
  rw [Qyh _ _ _ (by omega)]
  obtain ⟨o, ho, hop⟩ := Kn5 c ((d + 1 : Nat) : Int) c.ids 0 sc (by omega) (fun _ _ => trivial)
  rw [ho]
  simp only [Qae]
  cases o with
  | inl q =>
   obtain ⟨rfl, hn⟩ := hop
   exact bad fun h => hn ⟨h.2.2.2.1, h.2.2.2.2.1⟩
  | inr q =>
   obtain ⟨rfl, hi1, hi2⟩ := hop
   simp only
   rw [Qyi _ _ _ (by omega)]
   have loop : ∀ (r : List Cor) (i : Nat), (∀ x ∈ r, x ∈ c.kids) -> Tot (Qhx c ((d + 1 : Nat) : Int) (sc ++ c.ids) i r) fun o => match o with | .inl b => b = false /\ ¬ ∀ k ∈ r, CIs d (sc ++ c.ids) k | .inr _ => ∀ k ∈ r, CIs d (sc ++ c.ids) k := by
    intro r
    induction r with
    | nil => intro i _; rw [Qhx]; exact ⟨_, rfl, by simp⟩
    | cons k r ihr =>
     intro i hr
     rw [Qhx]
     simp only [Qak, Qae]
     rw [Qa8 (by omega) (by omega), show ((d + 1 : Nat) : Int) - 1 = (d : Int) by omega]
     refine Tot.bind (ih (by omega) k (c4 k (hr k (List.mem_cons_self ..))) _ (by rw [List.length_append]; omega)) fun b hb => ?_
     cases b
     ·simp only [Bool.not_false, if_true]
      exact ⟨_, rfl, rfl, fun h => by have := hb.2 (h k (List.mem_cons_self ..)); cases this⟩
     ·simp only [Bool.not_true, Bool.false_eq_true, if_false]
      refine (ihr (i + 1) (fun x hx => hr x (List.mem_cons_of_mem _ hx))).mono fun o ho => ?_
      cases o with
      | inl q => exact ⟨ho.1, fun h => ho.2 fun x hx => h x (List.mem_cons_of_mem _ hx)⟩
      | inr q =>
       exact fun x hx => by
        rcases List.mem_cons.1 hx with rfl | hx
        ·exact hb.1 rfl
        ·exact ho x hx
   obtain ⟨o, ho2, hop2⟩ := loop c.kids 0 (fun _ h => h)
   rw [ho2]
   simp only [Qae]
   cases o with
   | inl q => obtain ⟨rfl, hn⟩ := hop2; exact bad fun h => hn h.2.2.2.2.2
   | inr q =>
    refine ⟨_, rfl, fun _ => ⟨h1.1 rfl, h2.1 rfl, fun hk => Classical.byContradiction fun hm => h4 ⟨hk, hm⟩, hi1, hi2, hop2⟩, fun _ => rfl⟩
theorem Kab : ∀ (c : Cor), Q0y c -> c.nodes <= 1000000000 -> Qho c = some (c.nodes : Int) := by
 intro c
 induction c using Cor.ind with
 | h c ih =>
  intro hc hn
  obtain ⟨c1, c2, c3, c4⟩ := hc.out
  have hne := Cor.Qa4 c
  have loop : ∀ (r : List Cor) (i : Nat) (m : Nat), (∀ x ∈ r, x ∈ c.kids) -> m + Qbg Cor.nodes r <= 1000000000 -> Qez c (m : Int) i r = some ((m + Qbg Cor.nodes r : Nat) : Int) := by
   intro r
   induction r with
   | nil => intro i m _ _; rw [Qez]; rfl
   | cons k r ihr =>
    intro i m hr hm
    rw [Qbg] at hm
    have hk := hr k (List.mem_cons_self ..)
    rw [Qez, Qak, Qae, ih k hk (c4 k hk) (by omega), Qae, Qa8 (by omega) (by omega), show (m : Int) + (k.nodes : Int) = ((m + k.nodes : Nat) : Int) by omega, ihr _ _ (fun x hx => hr x (List.mem_cons_of_mem _ hx)) (by omega), Qbg, Nat.add_assoc]
  rw [Qho, Qs8 _ _ (by omega), show (1 : Int) = ((1 : Nat) : Int) from rfl, loop c.kids 0 1 (fun _ h => h) (by omega), Qae, hne]; rfl
theorem Qpf {c : Cor} (hc : Q0y c) (hn : c.nodes <= 1000000000) : Tot (Qh6 c) fun b => b = true ↔ CV c := by
 rw [Qh6]
 refine Tot.bind (Kdu 120 (by omega) c hc [] (by simp)) fun b hb => ?_
 cases b
 ·simp only [Bool.false_eq_true, if_false, Qak, Qae]
  exact ⟨_, rfl, fun h => (by cases h), fun h => (by have := hb.2 h.1; cases this)⟩
 ·simp only [if_true, Kab c hc hn, Qak, Qae]
  refine ⟨_, rfl, ?_⟩
  simp only [decide_eq_true_iff]
  exact ⟨fun h => ⟨hb.1 rfl, by omega⟩, fun h => by have := h.2; omega⟩
theorem Kbz : Qc4 = some ⟨[⟨(ByteArray.mk #[108, 97, 109, 98, 100, 97]), [], 1⟩, ⟨(ByteArray.mk #[105, 102]), [], 2⟩, ⟨(ByteArray.mk #[113, 117, 111, 116, 101]), [], 3⟩, ⟨(ByteArray.mk #[108, 101, 116]), [], 4⟩, ⟨(ByteArray.mk #[108, 101, 116, 45, 115, 121, 110, 116, 97, 120]), [], 5⟩], [], 0, 10, 0⟩ := by
 rw [Qc4, Ql0, Qak, Qae]
 have st : ∀ (i : Nat) (z : List Bnd) (hi : i < 6), z.length <= 5 -> Qbd [(ByteArray.mk #[]), (ByteArray.mk #[108, 97, 109, 98, 100, 97]), (ByteArray.mk #[105, 102]), (ByteArray.mk #[113, 117, 111, 116, 101]), (ByteArray.mk #[108, 101, 116]), (ByteArray.mk #[108, 101, 116, 45, 115, 121, 110, 116, 97, 120])] z (i : Int) = Qbd [(ByteArray.mk #[]), (ByteArray.mk #[108, 97, 109, 98, 100, 97]), (ByteArray.mk #[105, 102]), (ByteArray.mk #[113, 117, 111, 116, 101]), (ByteArray.mk #[108, 101, 116]), (ByteArray.mk #[108, 101, 116, 45, 115, 121, 110, 116, 97, 120])] (z ++ [⟨[(ByteArray.mk #[]), (ByteArray.mk #[108, 97, 109, 98, 100, 97]), (ByteArray.mk #[105, 102]), (ByteArray.mk #[113, 117, 111, 116, 101]), (ByteArray.mk #[108, 101, 116]), (ByteArray.mk #[108, 101, 116, 45, 115, 121, 110, 116, 97, 120])][i]'hi, [], (i : Int)⟩]) ((i + 1 : Nat) : Int) := fun i z hi hz => by
  conv => lhs; rw [Qbd, if_pos (by simp; omega), Qap _ i (by simpa using hi), Qae, Qbb (by simp; omega), Qae, Qar (i := i) (by omega)]
 rw [show (1 : Int) = ((1 : Nat) : Int) from rfl, st 1 [] (by omega) (by simp), st 2 _ (by omega) (by simp), st 3 _ (by omega) (by simp), st 4 _ (by omega) (by simp), st 5 _ (by omega) (by simp), Qbd, if_neg (by simp)]
 rfl
theorem Kij {x : Xpn} (h : Qc4 = some x) : XI x := by
 rw [Kbz] at h
 injection h with h
 subst h
 have nv : ∀ s : ByteArray, (1 <= s.size /\ s.size <= 12 /\ ∀ j, j < s.size -> NP s j) -> NV s := fun s h => .inr (.inr h)
 have np : ∀ s : ByteArray, (∀ j : Fin s.size, ltr (byt s j.val) (decide ((j.val : Int) = 0)) = true) -> ∀ j, j < s.size -> NP s j := fun s h j hj => h ⟨j, hj⟩
 refine ⟨⟨by decide, fun b hb => ?_, ?_⟩, by decide, by decide, by decide, by decide, by decide, by decide, fun m hm => by cases hm⟩
 ·have sv : SV [] := ⟨by decide, fun j hj => by simp at hj⟩
  simp only [List.mem_cons, List.not_mem_nil, or_false] at hb
  rcases hb with rfl | rfl | rfl | rfl | rfl
  ·exact ⟨nv _ ⟨by decide, by decide, np _ (by decide)⟩, sv, by decide, by decide⟩
  ·exact ⟨nv _ ⟨by decide, by decide, np _ (by decide)⟩, sv, by decide, by decide⟩
  ·exact ⟨nv _ ⟨by decide, by decide, np _ (by decide)⟩, sv, by decide, by decide⟩
  ·exact ⟨nv _ ⟨by decide, by decide, np _ (by decide)⟩, sv, by decide, by decide⟩
  ·exact ⟨nv _ ⟨by decide, by decide, np _ (by decide)⟩, sv, by decide, by decide⟩
 ·have h5 : ([(ByteArray.mk #[108, 97, 109, 98, 100, 97]), (ByteArray.mk #[105, 102]), (ByteArray.mk #[113, 117, 111, 116, 101]), (ByteArray.mk #[108, 101, 116]), (ByteArray.mk #[108, 101, 116, 45, 115, 121, 110, 116, 97, 120])] : List ByteArray).Pairwise (· ≠ ·) := by decide
  refine (List.pairwise_map (f := Bnd.name).1 h5).imp ?_
  exact fun h e => h e.1
theorem Kbo {f : Fm} (hf : f.sz < 1000000000) (b : Int) : Tot (Qmw f b) fun r => (r.2.2 = 0 -> XI r.1 /\ Q21 r.2.1 /\ CV r.2.1) /\ (r.2.2 ≠ 0 -> r.1 = ⟨[], [], 0, 0, 0⟩ /\ r.2.1 = Cor.mk 0 0 (ByteArray.mk #[]) 0 [] (Fm.mk 0 (ByteArray.mk #[]) 0 [] []) []) := by
 rw [Qmw]
 refine Tot.bind (Qja hf) fun b1 hb1 => ?_
 simp only [Qak, Qae]
 split
 ·exact ⟨_, rfl, fun h => by simp at h, fun _ => ⟨rfl, rfl⟩⟩
 rename_i hc
 rw [Bool.or_eq_true, Bool.or_eq_true, not_or, not_or] at hc
 have hv : FV f := hb1.1 (by have := hc.1.1; simpa using this)
 have hb60 : b <= 60 := by have := hc.2; simp at this; omega
 obtain ⟨x0, hx0⟩ : ∃ x, Qc4 = some x := ⟨_, Kbz⟩
 have hXI := Kij hx0
 rw [hx0]
 simp only [Qae]
 have ht : x0.steps = 0 := by rw [Kbz] at hx0; injection hx0 with hx0; rw [← hx0]
 obtain ⟨r, hr1, hr⟩ := Q1u hb60 _ x0 f hXI hv (Nat.le_refl _)
 rw [hr1]
 simp only [Qae]
 by_cases h0 : r.2.2 = 0
 rotate_left
 ·rw [if_neg h0]; exact ⟨_, rfl, fun h => absurd h h0, fun _ => ⟨rfl, rfl⟩⟩
 rw [if_pos h0]
 obtain ⟨a1, a2, a3, a4⟩ := hr h0
 have hn : r.2.1.nodes <= 1000000000 := by have := a1.t1; have := hv.2; omega
 obtain ⟨b2, e2, hb2⟩ := Qpf a3.b hn
 rw [e2]
 simp only [Qae]
 cases b2
 ·simp only [Bool.not_false, if_true]; exact ⟨_, rfl, fun h => by simp at h, fun _ => ⟨rfl, rfl⟩⟩
 ·simp only [Bool.not_true, Bool.false_eq_true, if_false]; exact ⟨_, rfl, fun _ => ⟨a1, a3, hb2.1 rfl⟩, fun h => absurd rfl h⟩
theorem Qzq : ∀ c : Cor, Q0y c -> Qf4 c = some c := by
 intro c
 induction c using Cor.ind with
 | h c ih =>
  intro hc
  obtain ⟨c1, c2, c3, c4⟩ := hc.out
  rw [Qf4, Qbb (by simp; omega), Qae, List.nil_append, Qr7 _ (by omega), Qae, Qup _ _ _ _ (by omega), Qis (Qhf c c.ids c.data) id (fun _ _ => rfl) c.kids [] 0 (fun x hx z i r hz => by
   rw [Qhf, Qak, Qae, ih x hx (c4 x hx), Qae, Qbb (by simp; omega), Qae]; rfl) (by simp; omega)]
  simp only [Qae, Qak, List.nil_append, List.map_id, Cor.eta]
theorem Qv3 {f : Fm} (hf : f.sz < 1000000000) (b : Int) : Tot (Qij f b) fun r => (r.2 = 0 -> Q21 r.1 /\ CV r.1) /\ Q21 r.1 := by
 rw [Qij]
 refine Tot.bind (Kbo hf b) fun r hr => ?_
 have hs : Q21 r.2.1 := by
  by_cases h : r.2.2 = 0
  ·exact (hr.1 h).2.1
  ·rw [(hr.2 h).2]; exact Q1g _ _ _ e0 _ _ (by simp) _ (by simp) (by simp)
 rw [Qzq _ hs.b, Qae]
 exact ⟨_, rfl, fun h => ⟨hs, (hr.1 h).2.2⟩, hs⟩
end Go.Proofs.SA
open Go.IntKind (i64)
namespace Go.Proofs.SA
inductive Qxv (m : Nat) : Cor -> Prop
 | mk {k i : Int} {s : ByteArray} {n : Int} {l : List Int} {d : Fm} {ks : List Cor} (hl : l.length <= m) (hd : d.sz <= 1000) (hs : s.size <= 1000) (hk : ks.length <= 1000) (h : ∀ x ∈ ks, Qxv m x) : Qxv m (.mk k i s n l d ks)
theorem Qxv.out {m : Nat} {c : Cor} (h : Qxv m c) : c.ids.length <= m /\ c.data.sz <= 1000 /\ c.name.size <= 1000 /\ c.kids.length <= 1000 /\ ∀ x ∈ c.kids, Qxv m x := by
 cases h; exact ⟨by assumption, by assumption, by assumption, by assumption, by assumption⟩
theorem Qxv.mono {m n : Nat} (hmn : m <= n) {c : Cor} (h : Qxv m c) : Qxv n c := by
 induction h with
 | mk hl hd hs hk _ ih => exact .mk (by omega) hd hs hk ih
theorem Qxv.b {m : Nat} (hm : m <= 1000000) {c : Cor} (h : Qxv m c) : Q0y c := by
 induction h with
 | mk hl hd hs hk _ ih => exact .mk (by omega) (by omega) (by omega) ih
def Sw (d : Nat) : Nat := 1000 * 4 ^ d
theorem Kgb (d : Nat) : Sw (d + 1) = 4 * Sw d := by simp only [Sw, Nat.pow_succ]; omega
theorem Kga (d : Nat) : 1000 <= Sw d := by simp only [Sw]; have : 0 < 4 ^ d := Nat.pow_pos (by omega); omega
theorem zsz : (Fm.mk 0 (ByteArray.mk #[]) 0 [] []).sz <= 1000 := by decide
def Dr (d k : Nat) (r : Cor × Int × Rdr) : Prop := Qxv 2 r.1 /\ r.1.nodes <= Sw d /\ RdI r.2.2 (k + Sw d)
theorem Klg {k i : Int} {s : ByteArray} {n : Int} {d : Fm} (hs : s.size <= 1000) (hd : d.sz <= 1000) : Qxv 2 (.mk k i s n [] d []) /\ (Cor.mk k i s n [] d []).nodes = 1 := ⟨.mk (by simp) hd hs (by simp) (by simp), by rw [Cor.Qa4]; rfl⟩
theorem Kdy {d kk : Nat} {k i : Int} {s : ByteArray} {n : Int} {f : Fm} {a : Int} {c : Rdr} (hs : s.size <= 1000) (hf : f.sz <= 1000) (hc : RdI c (kk + 600)) : Dr d kk (.mk k i s n [] f [], a, c) := by
 have := Kga d
 exact ⟨(Klg hs hf).1, by rw [(Klg hs hf).2]; omega, hc.mono (by omega)⟩
theorem Kdb : (ByteArray.mk #[]).size <= 1000 := by decide
theorem Klf {c : Rdr} {k : Nat} (h : RdI c k) (hk : k < 100000000) (d kk : Nat) (hkk : k <= kk + 5) (a3 : Int) : Tot (Qal 4 c >>= fun x41 =>
     if x41.1 = 0 then (
      (Qbu 1 x41.2 >>= fun x45 =>
      pure (Cor.mk 4 0 (ByteArray.mk #[]) 0 [] x45.1 [], a3, x45.2)
      )
     ) else (
      if x41.1 = 1 then (
       (Qbl [(ByteArray.mk #[102]), (ByteArray.mk #[43]), (ByteArray.mk #[108, 105, 115, 116])] x41.2 >>= fun x52 =>
       pure (Cor.mk 2 0 x52.1 0 [] (Fm.mk 0 (ByteArray.mk #[]) 0 [] []) [], a3, x52.2)
       )
      ) else (
       (Qat [0, 1, 5, 42] x41.2 >>= fun x57 =>
       pure (Cor.mk 3 0 (ByteArray.mk #[]) x57.1 [] (Fm.mk 0 (ByteArray.mk #[]) 0 [] []) [], a3, x57.2)
       )
      )
     )) (Dr d kk) := by
 refine Tot.bind (Qcg h (by omega) (by omega)) fun r hr => ?_
 obtain ⟨_, _, hr⟩ := hr
 refine Tot.ite (fun _ => ?_) (fun _ => Tot.ite (fun _ => ?_) (fun _ => ?_))
 ·have p1 : Pw 1 = 400 := rfl
  refine Tot.bind (Q5x 1 hr (by omega) (by rw [p1]; omega)) fun q hq => ⟨_, rfl, ?_⟩
  rw [p1] at hq
  exact Kdy Kdb (by omega) (hq.2.mono (by omega))
 ·refine Tot.bind (Q18 hr (by omega) (by simp)) fun q hq => ⟨_, rfl, ?_⟩
  refine Kdy ?_ zsz (hq.2.mono (by omega))
  have := hq.1
  simp only [List.mem_cons, List.not_mem_nil, or_false] at this
  rcases this with h | h | h <;> rw [h] <;> decide
 ·refine Tot.bind (Qjp hr (by omega) (by simp)) fun q hq => ⟨_, rfl, ?_⟩
  exact Kdy Kdb zsz (hq.2.mono (by omega))
theorem Klh {c : Rdr} {k : Nat} (h : RdI c k) (hk : k < 99999900) (d kk : Nat) (hkk : k <= kk + 2) (a1 : List Int) (a3 : Int) : Tot (if (a1.length : Int) > 0 then (
   (Qal 3 c >>= fun Qyy =>
   if Qyy.1 > 0 then (
    (Qal (a1.length : Int) Qyy.2 >>= fun Q8g =>
    (idx a1 Q8g.1 >>= fun Qmz =>
    pure (Cor.mk 1 Qmz (ByteArray.mk #[]) 0 [] (Fm.mk 0 (ByteArray.mk #[]) 0 [] []) [], a3, Q8g.2)
    )
    )
   ) else (
    (Qal 4 Qyy.2 >>= fun x41 =>
     if x41.1 = 0 then (
      (Qbu 1 x41.2 >>= fun x45 =>
      pure (Cor.mk 4 0 (ByteArray.mk #[]) 0 [] x45.1 [], a3, x45.2)
      )
     ) else (
      if x41.1 = 1 then (
       (Qbl [(ByteArray.mk #[102]), (ByteArray.mk #[43]), (ByteArray.mk #[108, 105, 115, 116])] x41.2 >>= fun x52 =>
       pure (Cor.mk 2 0 x52.1 0 [] (Fm.mk 0 (ByteArray.mk #[]) 0 [] []) [], a3, x52.2)
       )
      ) else (
       (Qat [0, 1, 5, 42] x41.2 >>= fun x57 =>
       pure (Cor.mk 3 0 (ByteArray.mk #[]) x57.1 [] (Fm.mk 0 (ByteArray.mk #[]) 0 [] []) [], a3, x57.2)
       )
      )
     ))
   )
   )
  ) else (
   (Qal 4 c >>= fun x41 =>
     if x41.1 = 0 then (
      (Qbu 1 x41.2 >>= fun x45 =>
      pure (Cor.mk 4 0 (ByteArray.mk #[]) 0 [] x45.1 [], a3, x45.2)
      )
     ) else (
      if x41.1 = 1 then (
       (Qbl [(ByteArray.mk #[102]), (ByteArray.mk #[43]), (ByteArray.mk #[108, 105, 115, 116])] x41.2 >>= fun x52 =>
       pure (Cor.mk 2 0 x52.1 0 [] (Fm.mk 0 (ByteArray.mk #[]) 0 [] []) [], a3, x52.2)
       )
      ) else (
       (Qat [0, 1, 5, 42] x41.2 >>= fun x57 =>
       pure (Cor.mk 3 0 (ByteArray.mk #[]) x57.1 [] (Fm.mk 0 (ByteArray.mk #[]) 0 [] []) [], a3, x57.2)
       )
      )
     ))) : Option (Cor × Int × Rdr)) (Dr d kk) := by
 refine Tot.ite (fun hl => ?_) (fun _ => Klf h (by omega) d kk (by omega) a3)
 refine Tot.bind (Qcg h (by omega) (by omega)) fun r hr => ?_
 obtain ⟨_, _, hr⟩ := hr
 refine Tot.ite (fun _ => ?_) (fun _ => Klf hr (by omega) d kk (by omega) a3)
 refine Tot.bind (Qcg hr (by omega) (by omega)) fun q hq => ?_
 refine Tot.bind (Qjm hq.1 hq.2.1) fun y _ => ⟨_, rfl, ?_⟩
 exact Kdy Kdb zsz (hq.2.2.mono (by omega))
theorem Kdn (a2 : Int) (x62 : Int × Rdr) : ∀ (n : Nat) (z t : List Int) (a3 : Int) {b : List Int} {p : Int} {k : Nat}, RdI (Rdr.mk b p) k -> k + n < 1000000000 -> z.length + n <= 1000 -> t.length + n <= 1000 -> Tot (Qfl a2 x62 z t (n : Int) a3 b p) fun r => r.1.length = z.length + n /\ r.2.1.length = t.length + n /\ RdI (Rdr.mk r.2.2.2.1 r.2.2.2.2) (k + n) := by
 intro n
 induction n with
 | zero => intro z t a3 b p k h _ _ _; rw [Qfl, if_neg (by omega)]; exact ⟨_, rfl, rfl, rfl, h⟩
 | succ n ih =>
  intro z t a3 b p k h hk hz ht
  rw [Qfl, if_pos (by omega)]
  refine Tot.bind (Qjp h (by omega) (by simp)) fun r hr => ?_
  rw [Qbb (by simp; omega), Qae, Qbb (by simp; omega), Qae, Qbb (by simp; omega), Qae, show i64.wrap (((n + 1 : Nat) : Int) - 1) = (n : Int) by rw [Qa8 (by omega) (by omega)]; omega]
  have hr2 : RdI (Rdr.mk r.2.b r.2.p) (k + 1) := hr.2
  refine (ih _ _ _ hr2 (by omega) (by simp; omega) (by simp; omega)).mono fun q hq => ?_
  obtain ⟨q1, q2, q3⟩ := hq
  exact ⟨by rw [q1]; simp; omega, by rw [q2]; simp; omega, q3.mono (by omega)⟩
theorem Kbx : ∀ (d : Nat), d < 10 -> ∀ (sc : List Int) (a3 : Int) {c : Rdr} {k : Nat}, RdI c k -> sc.length + 2 * d <= 100 -> k + Sw d < 100000000 -> Tot (Qio sc (d : Int) a3 c) (Dr d k) := by
 intro d
 induction d with
 | zero =>
  intro _ sc a3 c k h hsc hk
  rw [Qio, if_pos (by rfl)]
  have := Kga 0
  exact Klh h (by omega) 0 k (by omega) sc a3
 | succ d ih =>
  intro hd sc a3 c k h hsc hk
  have hS := Kgb d
  have hG := Kga d
  rw [Qio, if_neg (by omega)]
  refine Tot.bind (Qcg h (by omega) (by omega)) fun r hr => ?_
  obtain ⟨_, _, hr⟩ := hr
  refine Tot.ite (fun _ => Klh hr (by omega) (d + 1) k (by omega) sc a3) (fun _ => ?_)
  refine Tot.bind (Qjp hr (by omega) (by simp)) fun q hq => ?_
  obtain ⟨hq1, hq2⟩ := hq
  have kids : ∀ (ids : List Int) (sc2 : List Int) (hsc2 : sc2.length + 2 * d <= 100) (n : Nat) (k0 : Nat), n <= 3 -> ∀ (m i : Nat) (z : List Cor) (a : Int) (b : List Int) (p : Int), i + m = n -> z.length = i -> (∀ x ∈ z, Qxv 2 x) -> Qbg Cor.nodes z <= i * Sw d -> RdI (Rdr.mk b p) (k0 + i * Sw d) -> k0 + 3 * Sw d < 100000000 ->
    Tot (Qgz ((d + 1 : Nat) : Int) q ids sc2 (n : Int) z (i : Int) a b p) fun r => r.1.length = n /\ (∀ x ∈ r.1, Qxv 2 x) /\ Qbg Cor.nodes r.1 <= n * Sw d /\ RdI (Rdr.mk r.2.2.1 r.2.2.2) (k0 + n * Sw d) := by
   intro ids sc2 hsc2 n k0 hn m
   induction m with
   | zero => intro i z a b p hi hz h1 h2 h3 _; rw [Qgz, if_neg (by omega)]; obtain rfl : i = n := (by omega); exact ⟨_, rfl, hz, h1, h2, h3⟩
   | succ m ihm =>
    intro i z a b p hi hz h1 h2 h3 hk0
    have hmul : i * Sw d <= 2 * Sw d := Nat.mul_le_mul_right _ (by omega)
    rw [Qgz, if_pos (by omega), Qa8 (by omega) (by omega), show ((d + 1 : Nat) : Int) - 1 = (d : Int) by omega]
    refine Tot.bind (ih (by omega) sc2 a h3 hsc2 (by omega)) fun r hr => ?_
    obtain ⟨r1, r2, r3⟩ := hr
    rw [Qbb (by simp; omega), Qae, Qar (i := i) (by omega)]
    have hs1 : (i + 1) * Sw d = i * Sw d + Sw d := by rw [Nat.add_mul]; omega
    have r3' : RdI (Rdr.mk r.2.2.b r.2.2.p) (k0 + (i + 1) * Sw d) := r3.mono (by omega)
    exact ihm (i + 1) (z ++ [r.1]) _ _ _ (by omega) (by simp; omega) (fun x hx => by
     rcases List.mem_append.1 hx with hx | hx
     ·exact h1 x hx
     ·rw [List.mem_singleton.1 hx]; exact r1) (by rw [Qj7, hs1]; simp only [Qbg]; omega) r3' hk0
  refine Tot.bind (p := fun y => ∃ n : Nat, y.1.length <= 2 /\ y.2.1.length + 2 * d <= 100 /\ y.2.2.1 = (n : Int) /\ n <= 3 /\ RdI (Rdr.mk y.2.2.2.2.1 y.2.2.2.2.2) (k + 6)) ?_ fun y hy => ?_
  ·refine Tot.ite (fun _ => ?_) (fun _ => Tot.ite (fun _ => ?_) (fun _ => ?_))
   ·refine Tot.bind (Qjp hq2 (by omega) (by simp)) fun w hw => ?_
    obtain ⟨hw1, hw2⟩ := hw
    have hw2' : RdI (Rdr.mk w.2.b w.2.p) (k + 1 + 1 + 1) := hw2
    have : ∃ n : Nat, w.1 = (n : Int) /\ n <= 2 := by
     simp only [List.mem_cons, List.not_mem_nil, or_false] at hw1
     rcases hw1 with h | h | h
     ·exact ⟨1, h, by omega⟩
     ·exact ⟨2, h, by omega⟩
     ·exact ⟨0, h, by omega⟩
    obtain ⟨n, hn, hn2⟩ := this
    rw [hn]
    refine Tot.bind (Kdn _ q n [] sc a3 hw2' (by omega) (by simp; omega) (by omega)) fun v hv => ⟨_, rfl, 1, ?_⟩
    obtain ⟨v1, v2, v3⟩ := hv
    exact ⟨by rw [v1]; simp; omega, by rw [v2]; omega, rfl, by omega, v3.mono (by omega)⟩
   ·refine Tot.bind (Qjp hq2 (by omega) (by simp)) fun w hw => ⟨_, rfl, ?_⟩
    obtain ⟨hw1, hw2⟩ := hw
    have hw2' : RdI (Rdr.mk w.2.b w.2.p) (k + 1 + 1 + 1) := hw2
    simp only [List.mem_cons, List.not_mem_nil, or_false] at hw1
    rcases hw1 with h | h | h
    ·exact ⟨2, by simp, by simp only; omega, h, by omega, hw2'.mono (by omega)⟩
    ·exact ⟨1, by simp, by simp only; omega, h, by omega, hw2'.mono (by omega)⟩
    ·exact ⟨3, by simp, by simp only; omega, h, by omega, hw2'.mono (by omega)⟩
   ·have hq2' : RdI (Rdr.mk q.2.b q.2.p) (k + 1 + 1) := hq2
    exact ⟨_, rfl, 3, by simp, by simp only; omega, rfl, by omega, hq2'.mono (by omega)⟩
  ·obtain ⟨y1, y2, y3, y4, y5, y6⟩ := y
   obtain ⟨n, g1, g2, g3, g4, g5⟩ := hy
   simp only at g1 g2 g3 g5 ⊢
   subst g3
   have hn3 : n * Sw d <= 3 * Sw d := Nat.mul_le_mul_right _ g4
   refine Tot.bind (kids y1 y2 g2 n (k + 6) g4 n 0 [] y4 y5 y6 (by omega) rfl (by simp) (by simp [Qbg]) (by simpa using g5) (by omega)) fun v hv => ⟨_, rfl, ?_⟩
   obtain ⟨v1, v2, v3, v4⟩ := hv
   refine ⟨.mk g1 zsz Kdb (by omega) v2, ?_, v4.mono (by omega)⟩
   rw [Cor.Qa4]
   show 1 + Qbg Cor.nodes v.1 <= Sw (d + 1)
   omega
theorem Q99 (c : Cor) (hc : Q0y c) : Qe2 c = some c := by
 obtain ⟨c1, c2, c3, c4⟩ := hc.out
 rw [Qe2, Qbb (by simp; omega), Qae, List.nil_append, Qr7 _ (by omega), Qae, Qmc _ _ _ _ (by omega), Qis (Qb8 c c.ids c.data) id (fun _ _ => rfl) c.kids [] 0 (fun x hx z i r hz => by
  rw [Qb8, Qak, Qae, Qzq x (c4 x hx), Qae, Qbb (by simp; omega), Qae]; rfl) (by simp; omega)]
 simp only [Qae, Qak, List.nil_append, List.map_id, Cor.eta]
theorem Qv7 {m : Nat} (hm : m <= 100) : ∀ (c : Cor), Qxv m c -> ∀ {r : Rdr} {k : Nat}, RdI r k -> k + 3 * c.nodes < 100000000 -> Tot (Qgs c r) fun q => Qxv (m + 1) q.1 /\ q.1.nodes = c.nodes /\ RdI q.2 (k + 3 * c.nodes) := by
 intro c
 induction c using Cor.ind with
 | h c ih =>
  intro hc r k hr hk
  obtain ⟨c1, c2, c3, c4, c5⟩ := hc.out
  have hnn := Cor.Qa4 c
  have c5' : ∀ x ∈ c.kids, Qxv (m + 1) x := fun x hx => (c5 x hx).mono (by omega)
  rw [Qgs, Q99 c (hc.b (by omega)), Qae]
  have here : ∀ {r : Rdr} {k0 : Nat}, RdI r k0 -> k0 <= k + 1 -> Tot (Qal 12 r >>= fun x36 =>
   if x36.1 = 0 then (
    (Qat [0, 8, 3, 6] x36.2 >>= fun x41 =>
    pure (Cor.mk x41.1 c.id c.name c.num c.ids c.data c.kids, x41.2)
    )
   ) else (
    if x36.1 = 1 then (
     (Qat [0, 1, 1000, 2] x36.2 >>= fun x47 =>
     pure (Cor.mk c.kind x47.1 c.name c.num c.ids c.data c.kids, x47.2)
     )
    ) else (
     if x36.1 = 2 then (
      (Qat [1, 900, 0] x36.2 >>= fun x55 =>
      (Qc6 8 c.ids [x55.1] >>= fun x57 =>
      pure (Cor.mk c.kind c.id c.name c.num x57 c.data c.kids, x55.2)
      )
      )
     ) else (
      if x36.1 = 3 then (
       (Qbl [(ByteArray.mk #[]), (ByteArray.mk #[103]), (ByteArray.mk #[65])] x36.2 >>= fun x63 =>
       pure (Cor.mk c.kind c.id x63.1 c.num c.ids c.data c.kids, x63.2)
       )
      ) else (
       pure (Cor.mk c.kind c.id c.name c.num c.ids c.data c.kids, x36.2)
      )
     )
    )
   )) fun q => Qxv (m + 1) q.1 /\ q.1.nodes = c.nodes /\ RdI q.2 (k + 3 * c.nodes) := by
   intro r k0 hr hk0
   have nn : ∀ (a b : Int) (s : ByteArray) (n : Int) (l : List Int) (d : Fm), (Cor.mk a b s n l d c.kids).nodes = c.nodes := fun a b s n l d => by rw [Cor.Qa4, Cor.Qa4 c]; rfl
   refine Tot.bind (Qcg hr (by omega) (by omega)) fun q hq => ?_
   obtain ⟨_, _, hq⟩ := hq
   refine Tot.ite (fun _ => ?_) (fun _ => Tot.ite (fun _ => ?_) (fun _ => Tot.ite (fun _ => ?_) (fun _ => Tot.ite (fun _ => ?_) (fun _ => ?_))))
   ·refine Tot.bind (Qjp hq (by omega) (by simp)) fun w hw => ⟨_, rfl, .mk (by omega) c2 c3 c4 c5', nn .., hw.2.mono (by omega)⟩
   ·refine Tot.bind (Qjp hq (by omega) (by simp)) fun w hw => ⟨_, rfl, .mk (by omega) c2 c3 c4 c5', nn .., hw.2.mono (by omega)⟩
   ·refine Tot.bind (Qjp hq (by omega) (by simp)) fun w hw => ?_
    rw [Qbb (by simp; omega), Qae]
    exact ⟨_, rfl, .mk (by simp; omega) c2 c3 c4 c5', nn .., hw.2.mono (by omega)⟩
   ·refine Tot.bind (Q18 hq (by omega) (by simp)) fun w hw => ⟨_, rfl, .mk (by omega) c2 ?_ c4 c5', nn .., hw.2.mono (by omega)⟩
    have := hw.1
    simp only [List.mem_cons, List.not_mem_nil, or_false] at this
    rcases this with h | h | h <;> rw [h] <;> decide
   ·exact ⟨_, rfl, .mk (by omega) c2 c3 c4 c5', nn .., hq.mono (by omega)⟩
  refine Tot.ite (fun hl => ?_) (fun _ => here hr (by omega))
  refine Tot.bind (Qcg hr (by omega) (by omega)) fun q hq => ?_
  obtain ⟨_, _, hq⟩ := hq
  refine Tot.ite (fun _ => ?_) (fun _ => here hq (by omega))
  refine Tot.bind (Qcg hq (by omega) (by omega)) fun w hw => ?_
  obtain ⟨w1, w2, w3⟩ := hw
  have hi : w.1.toNat < c.kids.length := by omega
  have hmm := List.getElem_mem hi
  have hs := Qf9 Cor.nodes c.kids _ hmm
  rw [Q3u c.kids w.1 w1 w2, Qae]
  refine Tot.bind (ih _ hmm (c5 _ hmm) w3 (by omega)) fun v hv => ?_
  obtain ⟨v1, v2, v3⟩ := hv
  rw [Qae]
  refine ⟨_, rfl, .mk (by omega) c2 c3 (by rw [List.length_set]; exact c4) (fun x hx => ?_), ?_, v3.mono (by omega)⟩
  ·rcases List.mem_or_eq_of_mem_set hx with hx | rfl
   ·exact c5' x hx
   ·exact v1
  ·rw [Cor.Qa4]
   show 1 + Qbg Cor.nodes (c.kids.set w.1.toNat v.1) = c.nodes
   have := Q52 Cor.nodes c.kids w.1.toNat v.1 hi
   omega
theorem Q1k {l : List Int} (h : ∀ x ∈ l, 0 <= x /\ x < 256) : Tot (Qj5 l) fun c => Qxv 4 c /\ c.nodes <= 256000 := by
 rw [Qj5]
 refine Tot.bind (Qu9 h) fun c hc => ?_
 refine Tot.bind (Qjp hc (by omega) (by simp)) fun q hq => ?_
 obtain ⟨q1, q2⟩ := hq
 have : ∃ d : Nat, q.1 = (d : Int) /\ d <= 4 := by
  simp only [List.mem_cons, List.not_mem_nil, or_false] at q1
  rcases q1 with h | h | h
  ·exact ⟨3, h, by omega⟩
  ·exact ⟨4, h, by omega⟩
  ·exact ⟨2, h, by omega⟩
 obtain ⟨d, hd, hd4⟩ := this
 rw [hd]
 have hSw : Sw d <= 256000 := by
  unfold Sw
  have : 4 ^ d <= 4 ^ 4 := Nat.pow_le_pow_right (by omega) hd4
  omega
 refine Tot.bind (Kbx d (by omega) [] 0 q2 (by simp; omega) (by omega)) fun r hr => ?_
 obtain ⟨r1, r2, r3⟩ := hr
 refine Tot.bind (Qcg r3 (by omega) (by omega)) fun w hw => ?_
 obtain ⟨_, _, hw⟩ := hw
 refine Tot.ite (fun _ => ?_) (fun _ => ⟨_, rfl, r1.mono (by omega), by omega⟩)
 refine Tot.bind (Qv7 (by omega) _ r1 hw (by omega)) fun v hv => ?_
 obtain ⟨v1, v2, v3⟩ := hv
 refine Tot.bind (Qv7 (by omega) _ v1 v3 (by omega)) fun u hu => ⟨_, rfl, hu.1, by omega⟩
theorem Q7a : Tot Ql2 fun l => 1 <= l.length /\ ∀ s ∈ l, s.size <= 1000 := ⟨_, rfl, by decide, by decide⟩
theorem Kai {c : Rdr} {k : Nat} (h : RdI c k) (hk : k < 100000000) : Tot (Qlk c) fun r => r.1.sz <= 1000000 /\ RdI r.2 (k + 1000002) := by
 rw [Qlk]
 refine Tot.bind Q7a fun fs hfs => ?_
 refine Tot.bind (Qcg h (by omega) (by omega)) fun q hq => ?_
 obtain ⟨_, _, hq⟩ := hq
 refine Tot.ite (fun _ => ?_) (fun _ => ?_)
 ·refine Tot.bind (Qcg hq (by omega) (by have := hfs.1; omega)) fun w hw => ?_
  obtain ⟨w1, w2, w3⟩ := hw
  refine Tot.bind (Qjm w1 w2) fun s hs => ?_
  refine Tot.bind (Qwa (hfs.2 s hs)) fun f hf => ⟨_, rfl, by simp only; omega, w3.mono (by omega)⟩
 ·refine Tot.bind (Kah hq (by omega)) fun w hw => ⟨_, rfl, hw.1, hw.2.mono (by omega)⟩
theorem Qtz {l : List Int} (h : ∀ x ∈ l, 0 <= x /\ x < 256) : Tot (Qg6 l) fun r => (Qxv 4 r.1 ∨ Q21 r.1 /\ CV r.1) /\ r.1.nodes <= 256000 /\ (r.2 = 200 ∨ r.2 ∈ [500, 100, 20, 5, 0, 3001]) := by
 rw [Qg6]
 refine Tot.bind (Qu9 h) fun c hc => ?_
 refine Tot.bind (Qcg hc (by omega) (by omega)) fun q hq => ?_
 obtain ⟨_, _, hq⟩ := hq
 refine Tot.ite (fun _ => ?_) (fun _ => ?_)
 ·refine Tot.bind (Q1k h) fun c hc => ⟨_, rfl, .inl hc.1, hc.2, .inl rfl⟩
 refine Tot.bind (Kai hq (by omega)) fun f hf => ?_
 refine Tot.bind (Qv3 (by omega) 20) fun e he => ?_
 refine Tot.bind (p := fun y => ∃ c : Cor, y = (c.kind, c.id, c.kids, c.name, c.num, c.ids, c.data.kind, c.data.name, c.data.num, c.data.sc, c.data.kids) /\ (Qxv 4 c ∨ Q21 c /\ CV c) /\ c.nodes <= 256000) ?_ fun y hy => ?_
 ·refine Tot.ite (fun h0 => ⟨_, rfl, e.1, rfl, .inr (he.1 h0), by have := (he.1 h0).2.2; omega⟩) (fun _ => ?_)
  refine Tot.bind (Q1k h) fun c hc => ⟨_, rfl, c, rfl, .inl hc.1, hc.2⟩
 ·obtain ⟨c, rfl, hc1, hc2⟩ := hy
  simp only
  refine Tot.bind (Qjp hf.2 (by omega) (by simp)) fun w hw => ⟨_, rfl, ?_⟩
  simp only [Fm.eta, Cor.eta]
  exact ⟨hc1, hc2, .inr hw.1⟩
end Go.Proofs.SA
