/- The reference's patterns, templates, rules: what is valid. -/
import Derived.Test.YtcoeidfiajaahaaGreatDoorRa
import Derived.Test.YtcoeidfiajaahaaGreatDoorPb
set_option linter.unusedVariables false
set_option linter.unusedSimpArgs false
set_option maxRecDepth 100000
open Go Go.Proofs Go.Proofs.Shadow
open Go.IntKind (i64)
namespace Go.Proofs.Shadow
theorem Kaz {α : Type} (F : Nat -> List α -> Option (Int ⊕ Unit)) (p : α -> Bool) (hn : ∀ i, F i [] = some (.inr ())) : ∀ (l : List α) (i : Nat), (∀ x ∈ l, ∀ i r, F i (x :: r) = if p x = true then some (.inl (i : Int)) else F (i + 1) r) ->
  (∃ j, ∃ hj : j < l.length, F i l = some (.inl ((i + j : Nat) : Int)) /\ l.find? p = some l[j]) ∨ (F i l = some (.inr ()) /\ l.find? p = none) := by
 intro l
 induction l with
 | nil => intro i _; exact .inr ⟨hn _, rfl⟩
 | cons x l ih =>
  intro i hc
  rw [hc x (List.mem_cons_self ..), List.find?_cons]
  cases hp : p x
  ·rw [if_neg (by simp)]
   rcases ih (i + 1) (fun y hy => hc y (List.mem_cons_of_mem _ hy)) with ⟨j, hj, h1, h2⟩ | ⟨h1, h2⟩
   ·exact .inl ⟨j + 1, by simp; omega, by rw [h1]; congr 3; omega, by simpa using h2⟩
   ·exact .inr ⟨h1, h2⟩
  ·exact .inl ⟨0, by simp, by simp, by simp⟩
end Go.Proofs.Shadow
namespace Go.Proofs.SA
theorem Q0p (f : Fm) (ls : List Fm) (h : FS ls) : Qjh f ls = some (Q22 ls f) := by
 rw [Qjh, Q22]
 unfold Qql Q1b
 by_cases h1 : f.kind = 1
 ·by_cases h2 : f.name = ByteArray.mk #[46, 46, 46]
  ·simp only [h1, decide_eq_true h2, Qak, Qae]; rfl
  ·by_cases h3 : f.name = ByteArray.mk #[95]
   ·simp only [h1, decide_eq_false h2, decide_eq_true h3, Qak, Qae]; rfl
   ·simp only [h1, decide_eq_false h2, decide_eq_false h3, Qak, Qae, Q5i ls f h]; rfl
 ·simp only [h1, decide_false, Qak, Qae]; rfl
theorem Q79 (ls : List Fm) (h : FS ls) : ∀ (p : Fm) (z : List Fm), z.length + p.nodes <= 1000000 -> Qeh z p ls = some (z ++ vrs ls p) := by
 intro p
 induction p using Fm.ind with
 | h p ih =>
  intro z hz
  have hn := Fm.Qa4 p
  have hl := Qdw p.kids
  have loop : ∀ (r : List Fm), (∀ g ∈ r, g ∈ p.kids) -> ∀ (z : List Fm) (i : Nat), z.length + Qbg Fm.nodes r <= 1000000 -> Qdt p ls z i r = some (z ++ Qzd ls r) := by
   intro r
   induction r with
   | nil => intro _ z i _; rw [Qdt, Qak]; simp [Qzd]
   | cons f r ihr =>
    intro hr z i hz
    rw [Qbg] at hz
    rw [Qdt, Qak, Qae, ih f (hr f (List.mem_cons_self ..)) z (by omega), Qae]
    have := Qmf ls f
    rw [ihr (fun g hg => hr g (List.mem_cons_of_mem _ hg)) _ _ (by rw [List.length_append]; omega), Qzd, List.append_assoc]
  rw [Qeh, Q0p p ls h, Qae, Qxb]
  cases Q22 ls p
  ·simp only [Bool.false_eq_true, if_false, Qak, Qae]
   rw [Qlb _ _ _ (by omega), loop _ (fun _ h => h) _ _ (by omega)]; simp [Qae]
  ·simp only [if_true, Qak, Qae]
   rw [Qbb (by simp; omega)]
   simp only [Qae]
   rw [Qlb _ _ _ (by omega), loop _ (fun _ h => h) _ _ (by simp; omega)]; simp [Qae]
theorem Q4e (ls : List Fm) (h : FS ls) (p : Fm) (hp : p.nodes <= 1000000) : Qje [] p ls = some (vrs ls p) := by
 have hn := Fm.Qa4 p
 have hl := Qdw p.kids
 have loop : ∀ (r : List Fm) (z : List Fm) (i : Nat), z.length + Qbg Fm.nodes r <= 1000000 -> Qf2 p ls z i r = some (z ++ Qzd ls r) := by
  intro r
  induction r with
  | nil => intro z i _; rw [Qf2, Qak]; simp [Qzd]
  | cons f r ihr =>
   intro z i hz
   rw [Qbg] at hz
   rw [Qf2, Qak, Qae, Q79 ls h f z (by omega), Qae]
   have := Qmf ls f
   rw [ihr _ _ (by rw [List.length_append]; omega), Qzd, List.append_assoc]
 rw [Qje, Q0p p ls h, Qae, Qxb]
 cases Q22 ls p
 ·simp only [Bool.false_eq_true, if_false, Qak, Qae]
  rw [Qno _ _ _ (by omega), loop _ _ _ (by simp; omega)]; simp [Qae]
 ·simp only [if_true, Qak, Qae]
  rw [Qbb (by simp)]
  simp only [Qae]
  rw [Qno _ _ _ (by omega), loop _ _ _ (by simp; omega)]; simp [Qae]
theorem Qz7 {ks : List Fm} {i : Nat} {f : Fm} {r : List Fm} (hd : ks.drop i = f :: r) (hl : ks.length <= 1099511627776) :
  ((if (i64.wrap ((i : Int) + 1)) < (ks.length : Int) then (idx ks (i64.wrap ((i : Int) + 1)) >>= fun x37 => (Qbf x37 >>= fun x39 => pure x39)) else pure false : Option Bool)) = some (Qd7 r) := by
 have hi : i < ks.length := by
  rcases Nat.lt_or_ge i ks.length with h | h
  ·exact h
  ·rw [List.drop_of_length_le h] at hd; cases hd
 rw [List.drop_eq_getElem_cons hi] at hd
 injection hd with e1 e2
 rw [Qar (i := i) (by omega)]
 by_cases h : i + 1 < ks.length
 ·rw [if_pos (by omega), Qap ks (i + 1) h]
  rw [List.drop_eq_getElem_cons h] at e2
  rw [← e2]
  rfl
 ·rw [if_neg (by omega)]
  rw [List.drop_of_length_le (by omega)] at e2
  rw [← e2]; rfl
theorem Q3p (ls : List Fm) (d : Int) (f : Fm) : (dps ls d f).length <= f.nodes := by rw [← Qxa]; exact Qmf ls f
theorem Q1j (ls : List Fm) (h : FS ls) : ∀ (p : Fm) (z : List Int) (d : Int), z.length + p.nodes <= 1000000 -> 0 <= d -> d + p.nodes <= 1000000 -> Qb3 z p ls d = some (z ++ dps ls d p) := by
 intro p
 induction p using Fm.ind with
 | h p ih =>
  intro z d hz h0 h1
  have hn := Fm.Qa4 p
  have hl := Qdw p.kids
  have loop : ∀ (r : List Fm), (∀ g ∈ r, g ∈ p.kids) -> ∀ (z : List Int) (i : Nat), p.kids.drop i = r -> z.length + Qbg Fm.nodes r <= 1000000 -> Qb7 p ls d z i r = some (z ++ Q3o ls d r) := by
   intro r
   induction r with
   | nil => intro _ z i _ _; rw [Qb7, Qak]; simp [Q3o]
   | cons f r ihr =>
    intro hr z i hd hz
    have hd2 : p.kids.drop (i + 1) = r := by rw [← List.drop_drop, hd]; rfl
    rw [Qbg] at hz
    have hm := hr f (List.mem_cons_self ..)
    have hk := Qi4 hm
    rw [Qb7, Qz7 hd (by omega), Qae, Q3o]
    have key : ∀ d' : Int, 0 <= d' -> d' <= d + 1 -> (Qb3 z f ls d' >>= fun x51 => Qb7 p ls d x51 (i + 1) r) = some (z ++ (dps ls d' f ++ Q3o ls d r)) := fun d' q0 q1 => by
     rw [ih f hm z d' (by omega) q0 (by omega), Qae]
     have := Q3p ls d' f
     rw [ihr (fun g hg => hr g (List.mem_cons_of_mem _ hg)) _ _ hd2 (by rw [List.length_append]; omega), List.append_assoc]
    cases Qd7 r
    ·simp only [Bool.false_eq_true, if_false, Qak, Qae]
     exact key d h0 (by omega)
    ·simp only [if_true, Qak, Qae, Qa8 (show -9223372036854775808 <= d + 1 by omega) (show d + 1 < 9223372036854775808 by omega)]
     exact key (d + 1) (by omega) (Int.le_refl _)
  rw [Qb3, Q0p p ls h, Qae, Q40]
  cases Q22 ls p
  ·simp only [Bool.false_eq_true, if_false, Qak, Qae]
   rw [Qkh _ _ _ _ (by omega), loop _ (fun _ h => h) _ _ (List.drop_zero ..) (by omega)]; simp [Qae]
  ·simp only [if_true, Qak, Qae]
   rw [Qbb (by simp; omega)]
   simp only [Qae]
   rw [Qkh _ _ _ _ (by omega), loop _ (fun _ h => h) _ _ (List.drop_zero ..) (by simp; omega)]; simp [Qae]
theorem Qvt (ls : List Fm) (h : FS ls) (p : Fm) (hp : p.nodes <= 100000) : Qhu [] p ls 0 = some (dps ls 0 p) := by
 have hn := Fm.Qa4 p
 have hl := Qdw p.kids
 have loop : ∀ (r : List Fm), (∀ g ∈ r, g ∈ p.kids) -> ∀ (z : List Int) (i : Nat), p.kids.drop i = r -> z.length + Qbg Fm.nodes r <= 1000000 -> Qdb p ls 0 z i r = some (z ++ Q3o ls 0 r) := by
  intro r
  induction r with
  | nil => intro _ z i _ _; rw [Qdb, Qak]; simp [Q3o]
  | cons f r ihr =>
   intro hr z i hd hz
   have hd2 : p.kids.drop (i + 1) = r := by rw [← List.drop_drop, hd]; rfl
   rw [Qbg] at hz
   have hm := hr f (List.mem_cons_self ..)
   have hk := Qi4 hm
   rw [Qdb, Qz7 hd (by omega), Qae, Q3o]
   have key : ∀ d' : Int, 0 <= d' -> d' <= 1 -> (Qb3 z f ls d' >>= fun x51 => Qdb p ls 0 x51 (i + 1) r) = some (z ++ (dps ls d' f ++ Q3o ls 0 r)) := fun d' q0 q1 => by
    rw [Q1j ls h f z d' (by omega) q0 (by omega), Qae]
    have := Q3p ls d' f
    rw [ihr (fun g hg => hr g (List.mem_cons_of_mem _ hg)) _ _ hd2 (by rw [List.length_append]; omega), List.append_assoc]
   cases Qd7 r
   ·simp only [Bool.false_eq_true, if_false, Qak, Qae]
    exact key 0 (by omega) (by omega)
   ·simp only [if_true, Qak, Qae, show i64.wrap (0 + 1) = 1 from rfl]
    exact key 1 (by omega) (by omega)
 rw [Qhu, Q0p p ls h, Qae, Q40]
 cases Q22 ls p
 ·simp only [Bool.false_eq_true, if_false, Qak, Qae]
  rw [Qlw _ _ _ _ (by omega), loop _ (fun _ h => h) _ _ (List.drop_zero ..) (by simp; omega)]; simp [Qae]
 ·simp only [if_true, Qak, Qae]
  rw [Qbb (by simp)]
  simp only [Qae]
  rw [Qlw _ _ _ _ (by omega), loop _ (fun _ h => h) _ _ (List.drop_zero ..) (by simp; omega)]; simp [Qae]
def Kf8 (ls : List Fm) (p : Fm) : Prop := FV p /\ Q8p ls /\ Kbt p = true /\ (vrs ls p).Nodup /\ (∀ d ∈ dps ls 0 p, d <= 3) /\ (vrs ls p).length <= 20
theorem Q6a (ls : List Fm) : ∀ (l : List Fm), (∀ f ∈ l, ∀ x ∈ vrs ls f, x.sz <= f.sz) -> ∀ x ∈ Qzd ls l, x.sz <= Qbg Fm.sz l
 | [], _, x, hx => by cases hx
 | f :: l, h, x, hx => by
  rw [Qzd] at hx
  rw [Qbg]
  rcases List.mem_append.1 hx with hx | hx
  ·have := h f (List.mem_cons_self ..) x hx; omega
  ·have := Q6a ls l (fun g hg => h g (List.mem_cons_of_mem _ hg)) x hx; omega
theorem Q4h (ls : List Fm) (p : Fm) : ∀ x ∈ vrs ls p, x.sz <= p.sz := by
 induction p using Fm.ind with
 | h p ih =>
  intro x hx
  rw [Qxb] at hx
  rcases List.mem_append.1 hx with hx | hx
  ·split at hx
   ·rw [List.mem_singleton.1 hx]; exact Nat.le_refl _
   ·cases hx
  ·have := Q6a ls p.kids ih x hx
   rw [Fm.Qgf p]; omega
theorem Kdt {p : Fm} (hp : p.sz <= 100000) {ls : List Fm} (h : FS ls) : Tot (Qom p ls) fun b => b = true ↔ Kf8 ls p := by
 rw [Qom]
 refine Tot.bind (Qja (by omega)) fun b1 hb1 => ?_
 cases b1
 ·simp only [Bool.not_false, if_true, Qak, Qae]
  exact ⟨_, rfl, fun h => (by cases h), fun h => (by have := hb1.2 h.1; cases this)⟩
 simp only [Bool.not_true, Bool.false_eq_true, if_false]
 have hfv := hb1.1 rfl
 have hnn := hfv.2
 obtain ⟨b2, e2, hb2⟩ := Qq0 h
 rw [e2]
 simp only [Qak, Qae]
 cases b2
 ·simp only [Bool.not_false, if_true, Qak, Qae]
  exact ⟨_, rfl, fun h => (by cases h), fun h => (by have := hb2.2 h.2.1; cases this)⟩
 simp only [Bool.not_true, Bool.false_eq_true, if_false, Kbv p (by omega), Qak, Qae]
 cases hs : Kbt p
 ·simp only [Bool.not_false, if_true]
  exact ⟨_, rfl, fun h => (by cases h), fun h => (by have h9 := h.2.2.1; rw [hs] at h9; cases h9)⟩
 simp only [Bool.not_true, Bool.false_eq_true, if_false, Q4e ls h p (by omega), Qae]
 have hvl := Qmf ls p
 rw [Qya _ _ _ (by omega)]
 have hvs : ∀ x ∈ vrs ls p, x.sz <= 1000000 := fun x hx => by have := Q4h ls p x hx; omega
 rcases Q9f (Qiv p ls (vrs ls p)) (vrs ls p) (fun i x => decide (x ∈ (vrs ls p).take i)) false (fun _ => rfl) (fun i hi r => by
  rw [Qiv, Q13 _ i (by omega)]
  simp only [Qak, Qae]
  rw [Q5i _ _ ⟨by unfold Sm; rw [List.length_take]; omega, fun f hf => hvs f (List.mem_of_mem_take hf)⟩, Qae]) with ⟨h7, i, hi, hp2⟩ | ⟨h7, hp2⟩
 ·rw [h7, Qae]
  exact ⟨_, rfl, fun h => (by cases h), fun h => absurd (of_decide_eq_true hp2) (Qo2.1 h.2.2.2.1 i hi)⟩
 have hnd : (vrs ls p).Nodup := Qo2.2 fun i hi => of_decide_eq_false (hp2 i hi)
 rw [h7, Qae]
 simp only
 have hdl := Q3p ls 0 p
 rw [Qvt ls h p (by omega), Qae, Qyb _ _ _ (by omega), Qm2 (Qiw p (vrs ls p) (dps ls 0 p)) (fun d => decide (d > 3)) false (fun _ => rfl) _ _ (fun x hx i r => by
  rw [Qiw, Qak, Qae]; by_cases hx3 : x > 3 <;> simp [hx3, Qak]), Qae]
 cases ha : (dps ls 0 p).any fun d => decide (d > 3)
 ·simp only [Bool.false_eq_true, if_false, Qak]
  have hd3 : ∀ d ∈ dps ls 0 p, d <= 3 := fun d hd => by
   have := List.any_eq_false.1 ha d hd
   simpa using this
  refine ⟨_, rfl, ?_⟩
  simp only [decide_eq_true_iff]
  constructor
  ·intro hl; exact ⟨hfv, hb2.1 rfl, hs, hnd, hd3, by omega⟩
  ·intro h; have := h.2.2.2.2.2; omega
 ·simp only [if_true]
  refine ⟨_, rfl, fun h => (by cases h), fun h => ?_⟩
  obtain ⟨d, hd, hd2⟩ := List.any_eq_true.1 ha
  have := h.2.2.2.2.1 d hd
  have := of_decide_eq_true hd2
  omega
def HS (H : List Hit) : Prop := Sm H.length /\ ∀ h ∈ H, h.name.sz <= 1000000 /\ 0 <= h.depth + 1 /\ h.depth <= 1000000
theorem Qy3 {H : List Hit} (h : HS H) (f : Fm) : (∃ j, ∃ hj : j < H.length, Qjd H f = some (j : Int) /\ Kk4 H f = some H[j]) ∨ (Qjd H f = some (-1) /\ Kk4 H f = none) := by
 have := Kaz (Qha H f) (fun x => decide (x.name = f)) (fun _ => rfl) H 0 (fun x hx i r => by
  rw [Qha, Qak, Qae, Qo3 _ (h.2 x hx).1, Qae]; by_cases hx2 : x.name = f <;> simp [hx2, Qak])
 rw [Qjd, Qub _ _ (by have := h.1; omega)]
 rcases this with ⟨j, hj, h1, h2⟩ | ⟨h1, h2⟩
 ·exact .inl ⟨j, hj, by rw [h1, Qae, Nat.zero_add]; rfl, h2⟩
 ·exact .inr ⟨by rw [h1]; rfl, h2⟩
theorem Q1i {H : List Hit} (h : HS H) (f : Fm) : Qjj H f = some (Q8l H f) := by
 rw [Qjj, Q8l]
 by_cases h1 : f.kind = 1
 ·rw [if_pos h1, if_pos h1]
  rcases Qy3 h f with ⟨j, hj, h2, h3⟩ | ⟨h2, h3⟩
  ·rw [h2, Qae, if_neg (by omega), Qap _ _ hj, h3]; rfl
  ·rw [h2, h3]; rfl
 ·rw [if_neg h1, if_neg h1]; rfl
theorem Q2e (H : List Hit) : ∀ l : List Fm, Kec H l = l.any (Qx0 H)
 | [] => rfl
 | f :: l => by rw [Kec, Q2e H l]; rfl
theorem Keb (H : List Hit) (f : Fm) : Qx0 H f = (decide (0 < Q8l H f) || f.kids.any (Qx0 H)) := by cases f; rw [Qx0, Q2e]; rfl
theorem Kea {H : List Hit} (h : HS H) : ∀ f : Fm, f.sz <= 1000000 -> Qhv H f = some (Qx0 H f) := by
 intro f
 induction f using Fm.ind with
 | h f ih =>
  intro hf
  have hz := Fm.Qgf f
  rw [Qhv, Q1i h f, Qae, Keb]
  by_cases hd : Q8l H f > 0
  ·rw [if_pos hd, decide_eq_true (show 0 < Q8l H f from hd)]; rfl
  ·rw [if_neg hd, decide_eq_false (show ¬ 0 < Q8l H f from hd), Bool.false_or, Qun _ _ (by omega), Qm2 (Qhd H f) (Qx0 H) true (fun _ => rfl) f.kids 0 (fun x hx i r => by
    have := Fm.Qh3 hx
    rw [Qhd, Qak, Qae, ih x hx (by omega), Qae]; rfl), Qae]
   cases f.kids.any (Qx0 H) <;> rfl
theorem Kdz {H : List Hit} (h : HS H) (hl : H.length <= 1000000) : Qj4 H = some (Qz4 H) := by
 rw [Qj4, Qul _ _ (by omega), Qis (Qhc H) (fun h => .mk h.name (if 0 < h.depth then h.depth - 1 else h.depth) h.one []) (fun _ _ => rfl) H [] 0 (fun x hx z i r hz => by
  have := h.2 x hx
  rw [Qhc, Qak, Qae]
  by_cases hd : x.depth > 0
  ·rw [if_pos hd, if_pos (show 0 < x.depth from hd), Qa8 (by omega) (by omega)]
   simp only [Qak, Qae]
   rw [Qbb (by simp; omega)]; rfl
  ·rw [if_neg hd, if_neg (show ¬ 0 < x.depth from hd)]
   simp only [Qak, Qae]
   rw [Qbb (by simp; omega)]; rfl) (by simp; omega)]
 simp [Qae, Qak, Qz4]
theorem HS.less {H : List Hit} (h : HS H) : HS (Qz4 H) := ⟨by unfold Qz4; rw [List.length_map]; exact h.1, fun x hx => by
 unfold Qz4 at hx
 obtain ⟨y, hy, rfl⟩ := List.mem_map.1 hx
 have := h.2 y hy
 refine ⟨this.1, ?_⟩
 show 0 <= (if 0 < y.depth then y.depth - 1 else y.depth) + 1 /\ (if 0 < y.depth then y.depth - 1 else y.depth) <= 1000000
 split <;> omega⟩
theorem Kiv (t : Fm) (H : List Hit) : Kf5 t H = (!(Qbj t || decide (0 < Q8l H t)) && Ker true t.kids H) := by cases t; rw [Kf5]; rfl
theorem Kk7 : ∀ t : Fm, t.sz <= 1000000 -> ∀ {H : List Hit}, HS H -> H.length <= 1000000 -> Qi8 t H = some (Kf5 t H) := by
 intro t
 induction t using Fm.ind with
 | h t ih =>
  intro ht H h hH
  have hz := Fm.Qgf t
  have loop : ∀ (r : List Fm) (i : Nat) (b : Bool), t.kids.drop i = r -> (b = true ↔ i = 0 ∨ ∃ h : i - 1 < t.kids.length, 0 < i /\ Qbj t.kids[i - 1] = true) ->
    Qgq t H i r = some (if Ker b r H = true then .inr () else .inl false) := by
   intro r
   induction r with
   | nil => intro i b _ _; rw [Ker]; rfl
   | cons f r ihr =>
    intro i b hd hb
    have hd0 := hd
    have hi : i < t.kids.length := by
     rcases Nat.lt_or_ge i t.kids.length with h | h
     ·exact h
     ·rw [List.drop_of_length_le h] at hd; cases hd
    rw [List.drop_eq_getElem_cons hi] at hd
    injection hd with e1 e2
    have hm : f ∈ t.kids := e1 ▸ List.getElem_mem hi
    have hk := Fm.Qh3 hm
    have hb2 : ∀ b', b' = Qbj f -> (b' = true ↔ i + 1 = 0 ∨ ∃ h : i + 1 - 1 < t.kids.length, 0 < i + 1 /\ Qbj t.kids[i + 1 - 1] = true) := by
     rintro b' rfl
     simp only [Nat.add_sub_cancel]
     constructor
     ·intro h; exact .inr ⟨hi, by omega, by rw [e1]; exact h⟩
     ·rintro (h | ⟨_, _, h⟩)
      ·omega
      ·rw [e1] at h; exact h
    rw [Qgq, Ker, Qak, Qae, Ql5, Qae]
    cases hf : Qbj f
    ·simp only [Bool.false_eq_true, if_false]
     rw [Qz7 hd0 (by omega), Qae]
     cases hn : Qd7 r
     ·simp only [Bool.false_eq_true, if_false, Qak, Qae, ih f hm (by omega) h hH]
      cases hs : Kf5 f H
      ·simp
      ·simp only [Bool.not_true, Bool.false_eq_true, if_false, Bool.true_and]
       exact ihr (i + 1) false e2 (hb2 false hf.symm)
     ·simp only [if_true, Qak, Qae, Kea h f (by omega)]
      cases hr : Qx0 H f
      ·simp [Qak, Qae]
      ·simp only [Bool.not_true, Bool.false_eq_true, if_false, Qak, Qae, Kdz h hH, ih f hm (by omega) h.less (show (Qz4 H).length <= 1000000 by unfold Qz4; rw [List.length_map]; exact hH)]
       cases hs : Kf5 f (Qz4 H)
       ·simp
       ·simp only [Bool.not_true, Bool.false_eq_true, if_false, Bool.true_and]
        exact ihr (i + 1) false e2 (hb2 false hf.symm)
    ·simp only [if_true]
     by_cases hi0 : i = 0
     ·subst hi0
      have : b = true := hb.2 (.inl rfl)
      subst this
      simp [Qak, Qae]
     ·rw [if_neg (by omega), show i64.wrap ((i : Int) - 1) = ((i - 1 : Nat) : Int) by rw [Qa8 (by omega) (by omega)]; omega, Qap _ _ (by omega)]
      simp only [Qae, Ql5, Qak]
      cases hpd : Qbj t.kids[i - 1]
      ·have : b = false := by
        cases b with
        | false => rfl
        | true =>
         rcases hb.1 rfl with h | ⟨_, _, h⟩
         ·exact absurd h hi0
         ·rw [h] at hpd; cases hpd
       subst this
       simp only [Bool.false_eq_true, if_false, Bool.not_false, Bool.true_and]
       exact ihr (i + 1) true e2 (hb2 true hf.symm)
      ·have : b = true := hb.2 (.inr ⟨by omega, by omega, hpd⟩)
       subst this
       simp
  rw [Qi8, Kiv, Ql5, Qae]
  cases hd : Qbj t
  ·simp only [Bool.false_eq_true, if_false, Q1i h t, Qae, Qak, Bool.false_or]
   by_cases h0 : Q8l H t > 0
   ·rw [decide_eq_true (show 0 < Q8l H t from h0)]; simp
   ·rw [decide_eq_false (show ¬ 0 < Q8l H t from h0)]
    simp only [gt_iff_lt, h0, decide_false, Bool.false_eq_true, if_false, Bool.not_false, Bool.true_and]
    rw [Qyd _ _ (by omega), loop t.kids 0 true (List.drop_zero ..) ⟨fun _ => .inl rfl, fun _ => rfl⟩, Qae]
    cases Ker true t.kids H <;> rfl
  ·simp [Qak, Qae]
end Go.Proofs.SA
namespace Go.Proofs.Shadow
theorem Q9x {α β : Type} (F : List β -> Nat -> List α -> Option (List β)) (a : List α) (g : Nat -> β) (hn : ∀ z i, F z i [] = some z) (hc : ∀ (z : List β) (i : Nat) (hi : i < a.length) r, z.length <= 1073741824 -> F z i (a[i] :: r) = F (z ++ [g i]) (i + 1) r) :
  ∀ (n i : Nat) (z : List β), i + n = a.length -> z.length + n <= 1073741824 -> F z i (a.drop i) = some (z ++ (List.range' i n).map g) := by
 intro n
 induction n with
 | zero => intro i z hi _; rw [show i = a.length by omega, List.drop_length, hn]; simp
 | succ n ih =>
  intro i z hi hz
  have hil : i < a.length := by omega
  rw [List.drop_eq_getElem_cons hil, hc z i hil _ (by omega), ih (i + 1) _ (by omega) (by simp; omega), List.range'_succ, List.map_cons, List.append_assoc]; rfl
theorem Qyv {α : Type} {p : α -> Bool} : ∀ {l : List α}, (l.filter p).length <= 1 -> ∀ {i j : Nat} (hi : i < l.length) (hj : j < l.length), p l[i] = true -> p l[j] = true -> i = j := by
 intro l
 induction l with
 | nil => intro _ i j hi; simp at hi
 | cons x l ih =>
  intro h i j hi hj hpi hpj
  have Qpy : (l.filter p).length = 0 -> ∀ k, ∀ hk : k < l.length, p l[k] = false := fun h0 k hk => by
   cases hp : p l[k]
   ·rfl
   ·have : l[k] ∈ l.filter p := List.mem_filter.2 ⟨List.getElem_mem hk, hp⟩
    have := List.length_pos_of_mem this; omega
  cases hx : p x
  ·rw [List.filter_cons_of_neg (by simp [hx])] at h
   cases i with
   | zero => simp [hx] at hpi
   | succ i =>
    cases j with
    | zero => simp [hx] at hpj
    | succ j =>
     simp only [List.getElem_cons_succ] at hpi hpj
     have := ih h (by simpa using hi) (by simpa using hj) hpi hpj
     omega
  ·rw [List.filter_cons_of_pos hx] at h
   have h0 := Qpy (by simp at h; simpa using h)
   cases i with
   | zero =>
    cases j with
    | zero => rfl
    | succ j =>
     have h1 := h0 j (by simpa using hj)
     simp only [List.getElem_cons_succ] at hpj
     rw [h1] at hpj; cases hpj
   | succ i =>
    have h1 := h0 i (by simpa using hi)
    simp only [List.getElem_cons_succ] at hpi
    rw [h1] at hpi; cases hpi
theorem Qzj {α β : Type} {g : α -> Option β} : ∀ {l : List α} {r : List β}, Qtr g l = some r -> r.length = l.length
 | [], r, h => by rw [Qtr] at h; injection h with h; subst h; rfl
 | x :: l, r, h => by
  rw [Qtr] at h
  cases hx : g x with
  | none => rw [hx] at h; cases h
  | some y =>
   rw [hx] at h
   simp only at h
   cases hl : Qtr g l with
   | none => rw [hl] at h; cases h
   | some r' => rw [hl] at h; injection h with h; subst h; simp [Qzj hl]
theorem Qzk {α β : Type} {g : α -> Option β} : ∀ {l : List α} {r : List β}, Qtr g l = some r -> ∀ y ∈ r, ∃ x ∈ l, g x = some y
 | [], r, h, y, hy => by rw [Qtr] at h; injection h with h; subst h; cases hy
 | x :: l, r, h, y, hy => by
  rw [Qtr] at h
  cases hx : g x with
  | none => rw [hx] at h; cases h
  | some y' =>
   rw [hx] at h
   simp only at h
   cases hl : Qtr g l with
   | none => rw [hl] at h; cases h
   | some r' =>
    rw [hl] at h; injection h with h; subst h
    rcases List.mem_cons.1 hy with rfl | hy
    ·exact ⟨x, List.mem_cons_self .., hx⟩
    ·obtain ⟨z, hz, h2⟩ := Qzk hl y hy; exact ⟨z, List.mem_cons_of_mem _ hz, h2⟩
def Qv8 (n : Nat) : List Fm -> Nat
 | [] => 0
 | p :: ps => if Qbj p = true then Qv8 n ps else if Qd7 ps = true then n + Qv8 n ps else 1 + Qv8 n ps
theorem Qsf (n : Nat) : ∀ l : List Fm, l.any Qbj = false -> Qv8 n l = l.length
 | [], _ => rfl
 | p :: ps, h => by
  rw [List.any_cons, Bool.or_eq_false_iff] at h
  have h2 : Qd7 ps = false := by
   cases ps with
   | nil => rfl
   | cons q qs => have := h.2; rw [List.any_cons, Bool.or_eq_false_iff] at this; exact this.1
  rw [Qv8, if_neg (by simp [h.1]), if_neg (by simp [h2]), Qsf n ps h.2, List.length_cons]; omega
theorem Q15 (n : Nat) : ∀ l : List Fm, (l.filter Qbj).length <= 1 -> Qd7 l = false -> l.any Qbj = true -> Qv8 n l + 2 = l.length + n
 | [], _, _, h => by cases h
 | p :: ps, h1, h2, h3 => by
  have hp : Qbj p = false := h2
  rw [List.filter_cons_of_neg (by simp [hp])] at h1
  rw [List.any_cons, hp, Bool.false_or] at h3
  rw [Qv8, if_neg (by simp [hp])]
  cases hd : Qd7 ps
  ·rw [if_neg (by simp)]
   have := Q15 n ps h1 hd h3
   rw [List.length_cons]; omega
  ·rw [if_pos rfl]
   cases ps with
   | nil => cases hd
   | cons q qs =>
    have hq : Qbj q = true := hd
    rw [List.filter_cons_of_pos hq, List.length_cons] at h1
    have hz : qs.filter Qbj = [] := List.eq_nil_of_length_eq_zero (by omega)
    have ha : qs.any Qbj = false := by
     rw [List.any_eq_false]
     intro x hx hxd
     have : x ∈ qs.filter Qbj := List.mem_filter.2 ⟨hx, hxd⟩
     rw [hz] at this; cases this
    rw [Qv8, if_pos hq, Qsf n qs ha, List.length_cons, List.length_cons]; omega
end Go.Proofs.Shadow
namespace Go.Proofs.SA
theorem Kaf (ls : List Fm) : ∀ (l : List Fm) (d : Int), (∀ f ∈ l, ∀ d, ∀ x ∈ dps ls d f, d <= x /\ x <= d + f.nodes) -> ∀ x ∈ Q3o ls d l, d <= x /\ x <= d + 1 + Qbg Fm.nodes l
 | [], d, _, x, hx => by cases hx
 | f :: l, d, h, x, hx => by
  rw [Q3o] at hx
  rw [Qbg]
  rcases List.mem_append.1 hx with hx | hx
  ·have := h f (List.mem_cons_self ..) _ x hx
   split at this <;> omega
  ·have := Kaf ls l d (fun g hg => h g (List.mem_cons_of_mem _ hg)) x hx; omega
theorem Kag (ls : List Fm) (p : Fm) : ∀ d, ∀ x ∈ dps ls d p, d <= x /\ x <= d + p.nodes := by
 induction p using Fm.ind with
 | h p ih =>
  intro d x hx
  rw [Q40] at hx
  have hn := Fm.Qa4 p
  rcases List.mem_append.1 hx with hx | hx
  ·split at hx
   ·rw [List.mem_singleton.1 hx]; omega
   ·cases hx
  ·have := Kaf ls p.kids d ih x hx; omega
theorem Kih (ls : List Fm) (h : FS ls) (p : Fm) (hp : p.nodes <= 100000) (rows : List (List Hit)) (hr : ∀ r ∈ rows, r.length = (vrs ls p).length) (hrl : rows.length <= 1000000) : Qkx p ls rows = some (Kf2 ls p rows) := by
 have hvl := Qmf ls p
 have hdl := Qxa ls p 0
 rw [Qkx, Q4e ls h p (by omega), Qae, Qvt ls h p hp, Qae, Qwn _ _ _ _ _ (by omega)]
 have := Q9x (Qib p rows (vrs ls p) (dps ls 0 p)) (vrs ls p) (fun i => .mk ((vrs ls p).getD i default) ((dps ls 0 p).getD i 0 + 1) Fm.zero (rows.map fun r => r.getD i default)) (fun _ _ => rfl) (fun z i hi r hz => by
  have hid : i < (dps ls 0 p).length := by omega
  have hge := Kag ls p 0 _ (List.getElem_mem hid)
  rw [Qib, Qak, Qae, Qap _ i hid, Qae, Qwo _ _ _ _ _ _ _ _ _ (by omega),
   Qis (Qic p rows (vrs ls p) (dps ls 0 p) z (i : Int) (vrs ls p)[i] (dps ls 0 p)[i]) (fun r => r.getD i default) (fun _ _ => rfl) rows [] 0 (fun x hx z2 k r2 hz2 => by
    have hxl := hr x hx
    rw [Qic, Qak, Qae, Qap x i (by omega), Qae, Qbb (by simp; omega), Qae, List.getD_eq_getElem?_getD, List.getElem?_eq_getElem (by omega)]; rfl) (by simp; omega), Qae,
   Qbb (by simp; omega), Qae, Qa8 (by omega) (by omega), List.getD_eq_getElem?_getD, List.getElem?_eq_getElem hi, List.getD_eq_getElem?_getD, List.getElem?_eq_getElem hid]; rfl) (vrs ls p).length 0 [] (by omega) (by simp; omega)
 rw [List.drop_zero] at this
 rw [this, Qae, Qak, Kf2, List.range_eq_range']; rfl
theorem Q0a (ls : List Fm) (p : Fm) (rows : List (List Hit)) : (Kf2 ls p rows).length = (vrs ls p).length := by simp [Kf2]
theorem Q5u (B : List Bnd) (ls : List Fm) : ∀ (d : Nat) (p : Fm), FIs d p -> Qbj p = false -> ∀ (f : Fm) (hs : List Hit), pm B ls p f = some hs -> hs.length = (vrs ls p).length := by
 intro d
 induction d with
 | zero => intro p h; exact h.elim
 | succ d ih =>
  intro p h hdt f hs e
  have hL : ∀ (ps : List Fm), (∀ q ∈ ps, FIs d q) -> ∀ (fs : List Fm) (n : Nat) (hs : List Hit), pmL B ls ps fs n = some hs -> hs.length = (Qzd ls ps).length := by
   intro ps
   induction ps with
   | nil => intro _ fs n hs e; rw [Q34] at e; injection e with e; subst e; rfl
   | cons q ps ihp =>
    intro hq fs n hs e
    have hq' := fun x hx => hq x (List.mem_cons_of_mem q hx)
    rw [Qz9] at e
    rw [Qzd, List.length_append]
    by_cases hd : Qbj q = true
    ·rw [if_pos hd] at e
     rw [ihp hq' fs n hs e, Qxb]
     have hk : q.kind = 1 /\ q.name = Qql := by unfold Qbj at hd; simpa using hd
     have : q.kids = [] := by
      have := hq q (List.mem_cons_self ..)
      cases d with
      | zero => exact this.elim
      | succ d =>
       rcases this with h | h | h
       ·exact List.eq_nil_of_length_eq_zero h.2.2.2.2
       ·omega
       ·omega
     rw [this, Qzd, if_neg (by simp [Q22, hk.2])]; simp
    ·rw [if_neg hd] at e
     have hd' : Qbj q = false := by simpa using hd
     by_cases hh : Qd7 ps = true
     ·rw [if_pos hh] at e
      split at e
      ·cases e
      ·rename_i rows hrows
       obtain ⟨hs2, h2, h3⟩ := Option.map_eq_some_iff.1 e
       subst h3
       rw [List.length_append, Q0a, ihp hq' _ _ _ h2]
     ·rw [if_neg hh] at e
      split at e
      ·cases e
      ·rename_i fs' f'
       split at e
       ·cases e
       ·rename_i hs1 h1
        obtain ⟨hs2, h2, h3⟩ := Option.map_eq_some_iff.1 e
        subst h3
        rw [List.length_append, ih q (hq q (List.mem_cons_self ..)) hd' _ _ h1, ihp hq' _ _ _ h2]
  rw [Kif] at e
  rw [Qxb]
  rcases h with h | h | h
  ·have hk : p.kids = [] := List.eq_nil_of_length_eq_zero h.2.2.2.2
   rw [if_pos h.1] at e
   rw [hk, Qzd, List.append_nil]
   by_cases h1 : p.name = Q1b
   ·rw [if_pos h1] at e
    injection e with e; subst e
    rw [if_neg (by simp [Q22, h1])]; rfl
   ·rw [if_neg h1] at e
    by_cases h2 : p ∈ ls
    ·rw [if_pos h2] at e
     split at e
     ·injection e with e; subst e
      rw [if_neg (by simp [Q22, h2])]; rfl
     ·cases e
    ·rw [if_neg h2] at e
     injection e with e; subst e
     have hn : p.name ≠ Qql := fun hn => by unfold Qbj at hdt; simp [h.1, hn] at hdt
     rw [if_pos (by simp [Q22, h.1, h1, h2, hn])]; rfl
  ·have hk : p.kids = [] := List.eq_nil_of_length_eq_zero h.2.2.2.2.2
   rw [if_neg (by omega), if_pos h.1] at e
   rw [hk, Qzd, if_neg (by simp [Q22, h.1])]
   split at e
   ·injection e with e; subst e; rfl
   ·cases e
  ·rw [if_neg (by omega), if_neg (by omega)] at e
   rw [if_neg (by simp [Q22, h.1]), List.nil_append]
   split at e
   ·split at e
    ·split at e
     ·cases e
     ·exact hL _ h.2.2.2.2 _ _ _ e
    ·split at e
     ·exact hL _ h.2.2.2.2 _ _ _ e
     ·cases e
   ·cases e
def MR (o : Option (List Hit)) (r : List Hit × Bool) : Prop := match o with | some hs => r = (hs, true) | none => r.2 = false
theorem Qy5 {B : List Bnd} (hB : BS B) {ls : List Fm} (hls : FS ls) : ∀ (d : Nat) (p : Fm), FIs d p -> p.sz <= 100000 -> p.nodes <= 400 -> Kbt p = true -> ∀ f : Fm, f.sz <= 100000 -> Tot (Qdc B p ls f) (MR (pm B ls p f)) := by
 intro d
 induction d with
 | zero => intro p h; exact h.elim
 | succ d ih =>
  intro p h hpz hpn hsh f hfz
  have hzp := Fm.Qgf p
  have hzf := Fm.Qgf f
  have hpd : Qbj p = false := by
   cases hd : Qbj p
   ·rfl
   ·rw [Q0f, if_pos hd] at hsh; cases hsh
  rw [Qdc, Kif]
  rcases h with h | h | h
  ·rw [if_pos h.1, if_pos h.1]
   by_cases h1 : p.name = Q1b
   ·have h1' := h1; unfold Q1b at h1'
    rw [if_pos h1', if_pos h1]; exact ⟨_, rfl, rfl⟩
   have h1' := h1; unfold Q1b at h1'
   rw [if_neg h1', if_neg h1, Q5i ls p hls, Qae]
   by_cases h2 : p ∈ ls
   ·rw [decide_eq_true h2, if_pos rfl, if_pos h2]
    by_cases h3 : f.kind = 1
    ·rw [if_pos h3, Kef B p f hB (by unfold Sm; omega) (by unfold Sm; omega)]
     simp only [Qae, Qak]
     cases hr : Qwe B p f
     ·exact ⟨_, rfl, by simp [MR]⟩
     ·exact ⟨_, rfl, by simp [MR, h3]⟩
    ·rw [if_neg h3]
     exact ⟨_, rfl, by simp [MR, h3]⟩
   ·rw [decide_eq_false h2, if_neg (by simp), if_neg h2, Qbb (by simp), Qae]
    exact ⟨_, rfl, rfl⟩
  ·have n1 : ¬ p.kind = 1 := by omega
   simp only [n1, h.1, if_false, if_true]
   rw [Qo3 p (by omega), Qae]
   by_cases h2 : p = f
   ·rw [decide_eq_true h2, if_pos h2]
    exact ⟨_, rfl, by
     have hk : p.kids = [] := List.eq_nil_of_length_eq_zero h.2.2.2.2.2
     simp [MR]⟩
   ·rw [decide_eq_false h2, if_neg h2]
    exact ⟨_, rfl, rfl⟩
  have n1 : ¬ p.kind = 1 := by omega
  have n2 : ¬ p.kind = 2 := by omega
  simp only [n1, n2, if_false]
  by_cases hf3 : f.kind = 3
  rotate_left
  ·rw [if_neg hf3, if_neg hf3]; exact ⟨_, rfl, rfl⟩
  rw [if_pos hf3, if_pos hf3]
  have hps := h.2.2.2.2
  rw [Q0f, hpd] at hsh
  simp only [Bool.false_eq_true, if_false] at hsh
  have hc1 := Qwf _ _ _ hsh
  have hh := Kbw hsh
  have hmem := Q0g _ _ _ hsh
  generalize hps' : p.kids = ps at *
  generalize hfs' : f.kids = fs at *
  have hfsz : ∀ x ∈ fs, x.sz <= 100000 := fun x hx => by have := Qf9 Fm.sz fs x hx; omega
  have hpsz : ∀ x ∈ ps, x.sz <= 100000 := fun x hx => by have := Qf9 Fm.sz ps x hx; omega
  have hnp := Fm.Qa4 p
  rw [hps'] at hnp
  have hpsn : ∀ x ∈ ps, x.nodes <= 400 := fun x hx => by have := Qf9 Fm.nodes ps x hx; omega
  have row : ∀ (n i : Nat) (r : Int), i + n + 1 = ps.length + 1 -> i <= ps.length -> (∀ j, j < i -> ∀ hj : j + 1 < ps.length, Qbj ps[j + 1] = true -> r = j) -> (r = -1 ∨ ∃ j : Nat, r = j /\ ∃ hj : j + 1 < ps.length, Qbj ps[j + 1] = true) ->
    Tot (Qee B ps ls fs r i) fun r => (∀ j : Nat, ∀ hj : j + 1 < ps.length, Qbj ps[j + 1] = true -> r = j) /\ (r = -1 ∨ ∃ j : Nat, r = j /\ ∃ hj : j + 1 < ps.length, Qbj ps[j + 1] = true) := by
   intro n
   induction n with
   | zero =>
    intro i r hi hil h1 h2
    rw [Qee, Qar (i := i) (by omega), if_neg (by omega)]
    exact ⟨_, rfl, fun j hj hd => h1 j (by omega) hj hd, h2⟩
   | succ n ihn =>
    intro i r hi hil h1 h2
    rw [Qee, Qar (i := i) (by omega)]
    by_cases hlt : i + 1 < ps.length
    ·rw [if_pos (by omega), Qap ps (i + 1) hlt, Qae, Ql5, Qae]
     cases hd : Qbj ps[i + 1]
     ·simp only [Bool.false_eq_true, if_false]
      refine ihn (i + 1) r (by omega) (by omega) (fun j hj hj2 hd2 => ?_) h2
      by_cases hji : j = i
      ·subst hji; rw [hd] at hd2; cases hd2
      ·exact h1 j (by omega) hj2 hd2
     ·simp only [if_true]
      refine ihn (i + 1) i (by omega) (by omega) (fun j hj hj2 hd2 => ?_) (.inr ⟨i, rfl, hlt, hd⟩)
      have := Qyv (p := Qbj) (by omega) hj2 hlt hd2 hd
      omega
    ·rw [if_neg (by omega)]
     exact ⟨_, rfl, fun j hj hd => h1 j (by omega) hj hd, h2⟩
  rw [Qnf]
  obtain ⟨w, hw, hw1, hw2⟩ := row ps.length 0 (-1) (by omega) (by omega) (fun j hj => by omega) (.inl rfl)
  rw [show ((0 : Nat) : Int) = 0 from rfl] at hw
  rw [hw, Qae]
  have hany : ps.any Qbj = true ↔ w ≠ -1 := by
   rw [List.any_eq_true]
   constructor
   ·rintro ⟨x, hx, hd⟩
    obtain ⟨j, hj, rfl⟩ := List.mem_iff_getElem.1 hx
    cases j with
    | zero =>
     cases ps with
     | nil => simp at hj
     | cons q qs => rw [show Qd7 (q :: qs) = Qbj q from rfl] at hh; simp only [List.getElem_cons_zero] at hd; rw [hd] at hh; cases hh
    | succ j => have := hw1 j hj hd; omega
   ·intro hne
    rcases hw2 with h | ⟨j, _, hj, hd⟩
    ·exact absurd h hne
    ·exact ⟨_, List.getElem_mem hj, hd⟩
  have hrow : ∀ i : Nat, ∀ hi : i < ps.length, Qbj ps[i] = false -> ((i : Int) = w ↔ Qd7 (ps.drop (i + 1)) = true) := fun i hi hnd => by
   by_cases hlt : i + 1 < ps.length
   ·rw [List.drop_eq_getElem_cons hlt]
    show _ ↔ Qbj ps[i + 1] = true
    constructor
    ·intro hiw
     rcases hw2 with h | ⟨j, h2, hj, hd⟩
     ·omega
     ·have : j = i := by omega
      subst this; exact hd
    ·intro hd; exact (hw1 i hlt hd).symm
   ·rw [List.drop_of_length_le (by omega)]
    constructor
    ·intro hiw
     rcases hw2 with h | ⟨j, h2, hj, hd⟩
     ·omega
     ·omega
    ·intro hd; cases hd
  have main : ∀ (n : Nat), (w ≠ -1 -> i64.wrap ((fs.length : Int) - (i64.wrap ((ps.length : Int) - 2))) = (n : Int)) -> n <= fs.length -> ∀ (r : List Fm) (i at_ : Nat) (z : List Hit), ps.drop i = r -> at_ + Qv8 n r = fs.length -> z.length + Qbg Fm.nodes r <= 1000000 ->
    Tot (Qdr B ps ls fs w z (at_ : Int) i r) fun o => match pmL B ls r (fs.drop at_) n with | some hs => o = .inr (z ++ hs) | none => ∃ z', o = .inl (z', false) := by
   intro n hn hnf r
   induction r with
   | nil => intro i at_ z _ _ _; rw [Qdr, Q34]; exact ⟨_, rfl, by simp⟩
   | cons q r ihr =>
    intro i at_ z hd hneed hz
    have hd0 := hd
    have hi : i < ps.length := by
     rcases Nat.lt_or_ge i ps.length with h | h
     ·exact h
     ·rw [List.drop_of_length_le h] at hd; cases hd
    rw [List.drop_eq_getElem_cons hi] at hd
    injection hd with e1 e2
    have hm : q ∈ ps := e1 ▸ List.getElem_mem hi
    rw [Qdr, Qak, Qae, Ql5, Qae, Qz9]
    rw [Qv8] at hneed
    rw [Qbg] at hz
    have hqn := Qkf q
    cases hq : Qbj q
    rotate_left
    ·rw [hq, if_pos rfl] at hneed
     simp only [if_true]
     exact ihr (i + 1) at_ z e2 hneed (by omega)
    rw [hq, if_neg (by simp)] at hneed
    simp only [Bool.false_eq_true, if_false]
    have hq' : Kbt q = true := (hmem q hm).resolve_left (by simp [hq])
    have hqz := hpsz q hm
    have hqnn := hpsn q hm
    have hrw := hrow i hi (by rw [e1]; exact hq)
    rw [e2] at hrw
    by_cases hhd : Qd7 r = true
    ·rw [if_pos hhd] at hneed ⊢
     rw [if_pos (hrw.2 hhd)]
     have hwn : w ≠ -1 := by have := hrw.2 hhd; omega
     rw [hn hwn]
     have l2 : ∀ (m : Nat) (acc : List (List Hit)) (k : Nat), k + m = at_ + n -> acc.length + m <= 100000 -> Tot (Qfg B ps ls fs w z (i : Int) acc (k : Int) (m : Int)) fun o => match Qtr (pm B ls q) ((fs.drop k).take m) with | some rows => o = .inr (acc ++ rows, ((at_ + n : Nat) : Int)) | none => ∃ z', o = .inl (z', false) := by
      intro m
      induction m with
      | zero =>
       intro acc k hk _
       rw [Qfg, if_neg (by omega), List.take_zero, Qtr]
       exact ⟨_, rfl, by simp; omega⟩
      | succ m ihm =>
       intro acc k hk hacc
       have hkl : k < fs.length := by omega
       rw [Qfg, if_pos (by omega), Qap ps i hi, Qae, Qap fs k hkl, Qae, e1, List.drop_eq_getElem_cons hkl, List.take_succ_cons, Qtr]
       have := ih q (hps q hm) hqz hqnn hq' fs[k] (hfsz _ (List.getElem_mem hkl))
       obtain ⟨rr, hrr, hmr⟩ := this
       rw [hrr, Qae]
       cases hpm : pm B ls q fs[k] with
       | none =>
        rw [hpm] at hmr
        have : rr.2 = false := hmr
        rw [this]
        simp only [Bool.not_false, if_true]
        exact ⟨_, rfl, _, rfl⟩
       | some hs =>
        rw [hpm] at hmr
        have : rr = (hs, true) := hmr
        subst this
        simp only [Bool.not_true, Bool.false_eq_true, if_false]
        rw [Qbb (by simp; omega), Qae, Qar (i := k) (by omega), show i64.wrap (((m + 1 : Nat) : Int) - 1) = (m : Int) by rw [Qa8 (by omega) (by omega)]; omega]
        obtain ⟨o, ho, hop⟩ := ihm (acc ++ [hs]) (k + 1) (by omega) (by simp; omega)
        refine ⟨o, ho, ?_⟩
        cases hall : Qtr (pm B ls q) ((fs.drop (k + 1)).take m) with
        | none => rw [hall] at hop; exact hop
        | some rows => rw [hall] at hop; simp only [Option.map_some]; rw [hop]; simp
     obtain ⟨o, ho, hop⟩ := l2 n [] at_ rfl (by have := hfz; have := Qdw fs; simp; omega)
     rw [ho, Qae]
     cases hall : Qtr (pm B ls q) ((fs.drop at_).take n) with
     | none =>
      rw [hall] at hop
      obtain ⟨z', rfl⟩ := hop
      exact ⟨_, rfl, _, rfl⟩
     | some rows =>
      rw [hall] at hop
      simp only at hop
      subst hop
      simp only [List.nil_append]
      have hrl := Qzj hall
      rw [Qae, Kih ls hls q (by omega) rows (fun r hr => by
       obtain ⟨x, hx, h2⟩ := Qzk hall r hr
       exact Q5u B ls d q (hps q hm) hq x r h2) (by rw [hrl, List.length_take]; omega), Qae]
      have hvl := Qmf ls q
      rw [Qbb (by rw [Q0a]; omega), Qae]
      obtain ⟨o, ho, hop⟩ := ihr (i + 1) (at_ + n) (z ++ Kf2 ls q rows) e2 (by omega) (by rw [List.length_append, Q0a]; omega)
      refine ⟨o, ho, ?_⟩
      rw [List.drop_drop]
      cases hpl : pmL B ls r (fs.drop (at_ + n)) n with
      | none => rw [hpl] at hop; exact hop
      | some hs => rw [hpl] at hop; simp only [Option.map_some]; rw [hop, List.append_assoc]
    ·rw [if_neg hhd] at hneed ⊢
     rw [if_neg (fun h => hhd (hrw.1 h))]
     have hal : at_ < fs.length := by omega
     rw [List.drop_eq_getElem_cons hal]
     simp only [Qak, Qae, Qap fs at_ hal]
     obtain ⟨rr, hrr, hmr⟩ := ih q (hps q hm) hqz hqnn hq' fs[at_] (hfsz _ (List.getElem_mem hal))
     rw [hrr, Qae]
     cases hpm : pm B ls q fs[at_] with
     | none =>
      rw [hpm] at hmr
      have : rr.2 = false := hmr
      rw [this]
      simp only [Bool.not_false, if_true]
      exact ⟨_, rfl, _, rfl⟩
     | some hs =>
      rw [hpm] at hmr
      have : rr = (hs, true) := hmr
      subst this
      simp only [Bool.not_true, Bool.false_eq_true, if_false]
      have hl := Q5u B ls d q (hps q hm) hq _ _ hpm
      have hvl := Qmf ls q
      rw [Qbb (by omega), Qae, Qar (i := at_) (by omega)]
      obtain ⟨o, ho, hop⟩ := ihr (i + 1) (at_ + 1) (z ++ hs) e2 (by omega) (by rw [List.length_append]; omega)
      refine ⟨o, ho, ?_⟩
      cases hpl : pmL B ls r (fs.drop (at_ + 1)) n with
      | none => rw [hpl] at hop; exact hop
      | some hs2 => rw [hpl] at hop; simp only [Option.map_some]; rw [hop, List.append_assoc]
  have hfl : fs.length <= 100000 := by omega
  have hpl : ps.length <= 400 := by have := Qdw ps; omega
  have fin : ∀ n : Nat, (w ≠ -1 -> i64.wrap ((fs.length : Int) - (i64.wrap ((ps.length : Int) - 2))) = (n : Int)) -> n <= fs.length -> Qv8 n ps = fs.length -> Tot ((Qcx B ps ls fs w [] 0 0 >>= fun o27 => match o27 with | .inl r => pure r | .inr Q45 => (pure (Q45, true)) : Option (List Hit × Bool)) >>= fun x55 => pure (x55.1, x55.2)) (MR (pmL B ls ps fs n)) := fun n h1 h2 h3 => by
   rw [Quf _ _ _ _ _ _ _ (by omega)]
   obtain ⟨o, ho, hop⟩ := main n h1 h2 ps 0 0 [] (List.drop_zero ..) (by omega) (by simp; omega)
   rw [show ((0 : Nat) : Int) = 0 from rfl] at ho
   rw [ho, Qae]
   rw [List.drop_zero] at hop
   cases hpm : pmL B ls ps fs n with
   | none => rw [hpm] at hop; obtain ⟨z', rfl⟩ := hop; exact ⟨_, rfl, rfl⟩
   | some hs => rw [hpm] at hop; simp only at hop; subst hop; exact ⟨_, rfl, by simp [MR]⟩
  have hw0 : w = -1 ∨ 0 <= w := by rcases hw2 with h | ⟨j, h, _⟩ <;> omega
  have hwr : i64.wrap ((ps.length : Int) - 2) = (ps.length : Int) - 2 := Qa8 (by omega) (by omega)
  by_cases hwn : w = -1
  ·have hno : ¬ ps.any Qbj = true := fun h => hany.1 h hwn
   rw [if_neg hno]
   subst hwn
   simp only [show decide ((-1 : Int) < 0) = true from rfl, show decide ((-1 : Int) ≥ 0) = false from rfl, Bool.true_and, Bool.false_and, Qak, Qae]
   by_cases hlen : ps.length = fs.length
   ·rw [if_pos hlen, decide_eq_true (show (ps.length : Int) = (fs.length : Int) by omega)]
    simp only [Bool.not_true, Bool.false_eq_true, if_false, Qae]
    exact fin 0 (fun h => absurd rfl h) (by omega) (by rw [Qsf 0 ps (by simpa using hno)]; exact hlen)
   ·rw [if_neg hlen, decide_eq_false (show ¬ (ps.length : Int) = (fs.length : Int) by omega)]
    simp only [Bool.not_false, if_true, Qae]
    exact ⟨_, rfl, rfl⟩
  ·have hyes : ps.any Qbj = true := hany.2 hwn
   have hw1' : 0 <= w := hw0.resolve_left hwn
   rw [if_pos hyes]
   simp only [decide_eq_false (show ¬ w < 0 by omega), decide_eq_true (show w ≥ 0 from hw1'), Bool.false_and, Bool.true_and, Qak, Qae, Bool.false_eq_true, if_false, hwr]
   by_cases hlen : fs.length + 2 < ps.length
   ·rw [if_pos hlen, decide_eq_true (show (fs.length : Int) < (ps.length : Int) - 2 by omega)]
    simp only [if_true, Qae]
    exact ⟨_, rfl, rfl⟩
   ·rw [if_neg hlen, decide_eq_false (show ¬ (fs.length : Int) < (ps.length : Int) - 2 by omega)]
    simp only [Bool.false_eq_true, if_false, Qae]
    have h2 : 2 <= ps.length := by
     rcases hw2 with h | ⟨j, _, hj, _⟩
     ·exact absurd h hwn
     ·omega
    refine fin (fs.length + 2 - ps.length) (fun _ => ?_) (by omega) ?_
    ·rw [hwr, Qa8 (by omega) (by omega)]; omega
    ·have := Q15 (fs.length + 2 - ps.length) ps (by omega) hh hyes; omega
end Go.Proofs.SA
namespace Go.Proofs.SA
theorem Qcb {α : Type} {l : List α} {i : Nat} {d : α} (h : i < l.length) : l.getD i d = l[i] := by rw [List.getD_eq_getElem?_getD, List.getElem?_eq_getElem h]; rfl
theorem Kbr (ls : List Fm) (h : FS ls) (p : Fm) (hp : p.nodes <= 100000) : Qki p ls = some (Qtu p ls) := by
 have hvl := Qmf ls p
 have hdl := Qxa ls p 0
 rw [Qki, Q4e ls h p (by omega), Qae, Qvt ls h p hp, Qae, Qs7 _ _ _ _ (by omega)]
 have := Q9x (Qey p (vrs ls p) (dps ls 0 p)) (vrs ls p) (fun i => .mk ((vrs ls p).getD i default) ((dps ls 0 p).getD i 0) (if (dps ls 0 p).getD i 0 = 0 then (vrs ls p).getD i default else Fm.zero) []) (fun _ _ => rfl) (fun z i hi r hz => by
  have hid : i < (dps ls 0 p).length := by omega
  rw [Qey, Qak, Qae, Qap _ i hid, Qae, Qcb hi, Qcb hid]
  by_cases h0 : (dps ls 0 p)[i] = 0
  ·rw [if_pos h0, if_pos h0, Qae, Qbb (by simp; omega), Qae]
  ·rw [if_neg h0, if_neg h0, Qbb (by simp; omega), Qae]; rfl) (vrs ls p).length 0 [] (by omega) (by simp; omega)
 rw [List.drop_zero] at this
 rw [this, Qae, Qak, Qtu, List.range_eq_range']; rfl
theorem Kbs (ls : List Fm) (p : Fm) (hp : p.nodes <= 400) (hz : p.sz <= 100000) : HS (Qtu p ls) /\ (Qtu p ls).length <= 400 := by
 have hvl := Qmf ls p
 have hdl := Qxa ls p 0
 refine ⟨⟨by unfold Sm; simp [Qtu]; omega, fun h hh => ?_⟩, by simp [Qtu]; omega⟩
 unfold Qtu at hh
 obtain ⟨i, hi, rfl⟩ := List.mem_map.1 hh
 have hi' : i < (vrs ls p).length := by simpa using hi
 have hid : i < (dps ls 0 p).length := by omega
 show ((vrs ls p).getD i default).sz <= 1000000 /\ 0 <= (dps ls 0 p).getD i 0 + 1 /\ (dps ls 0 p).getD i 0 <= 1000000
 rw [Qcb hi', Qcb hid]
 have h1 := Q4h ls p _ (List.getElem_mem hi')
 have h2 := Kag ls p 0 _ (List.getElem_mem hid)
 omega
def Kcg (ls : List Fm) (r : Rul) : Prop := Kf8 ls r.pat /\ r.pat.kind = 3 /\ 0 < r.pat.kids.length /\ FV r.tpl /\ Kf5 r.tpl (Qtu r.pat ls) = true
def Qvo (ls : List Fm) (rs : List Rul) : Prop := rs.length < 10 /\ (∀ r ∈ rs, Kcg ls r) /\ Q8p ls
def RS (rs : List Rul) : Prop := Sm rs.length /\ ∀ r ∈ rs, r.pat.sz <= 100000 /\ r.tpl.sz <= 100000
theorem Q7q {ls : List Fm} (h : FS ls) {r : Rul} (h1 : r.pat.sz <= 100000) (h2 : r.tpl.sz <= 100000) : Tot (Qlc r ls) fun b => b = true ↔ Kcg ls r := by
 rw [Qlc]
 refine Tot.bind (Kdt h1 h) fun b hb => ?_
 cases b
 ·simp only [Bool.false_and, Qak, Qae, Bool.false_eq_true, if_false]
  exact ⟨_, rfl, fun h => (by cases h), fun h => (by have := hb.2 h.1; cases this)⟩
 have hp := hb.1 rfl
 simp only [Bool.true_and, Qak, Qae]
 by_cases h3 : r.pat.kind = 3
 rotate_left
 ·simp only [h3, decide_false, Bool.false_and, Bool.false_eq_true, if_false, Qak, Qae]
  exact ⟨_, rfl, fun h => (by cases h), fun h => absurd h.2.1 h3⟩
 by_cases h4 : (r.pat.kids.length : Int) > 0
 rotate_left
 ·simp only [h3, h4, decide_false, decide_true, Bool.true_and, Bool.false_eq_true, if_false, Qak, Qae]
  exact ⟨_, rfl, fun h => (by cases h), fun h => absurd h.2.2.1 (by omega)⟩
 simp only [h3, h4, decide_true, Bool.true_and, if_true]
 obtain ⟨b2, e2, hb2⟩ := Qja (f := r.tpl) (by omega)
 rw [e2]
 simp only [Qak, Qae]
 cases b2
 ·simp only [Bool.false_eq_true, if_false, Qak, Qae]
  exact ⟨_, rfl, fun h => (by cases h), fun h => (by have := hb2.2 h.2.2.2.1; cases this)⟩
 have hn := hp.1.2
 obtain ⟨hh, hl⟩ := Kbs ls r.pat hn h1
 simp only [if_true, Kbr ls h r.pat (by omega), Kk7 r.tpl (by omega) hh (by omega), Qak, Qae]
 refine ⟨_, rfl, fun h => ⟨hp, h3, by omega, hb2.1 rfl, h⟩, fun h => h.2.2.2.2⟩
theorem Kbn {ls : List Fm} (h : FS ls) {rs : List Rul} (hr : RS rs) : ∀ (n i : Nat), i + n = 10 -> Tot (Qem rs ls i) fun o => match o with
  | .inl r => r = false /\ ∃ x ∈ rs, ¬ Kcg ls x
  | .inr _ => ∀ j, i <= j -> j < 10 -> ∀ h : j < rs.length, Kcg ls rs[j] := by
 intro n
 induction n with
 | zero => intro i hi; rw [Qem, Qak, Qae, if_neg (by simp; omega)]; exact ⟨_, rfl, fun j h1 h2 => by omega⟩
 | succ n ih =>
  intro i hi
  rw [Qem, Qak, Qae]
  by_cases hil : i < rs.length
  rotate_left
  ·rw [if_neg (by simp; omega)]; exact ⟨_, rfl, fun j h1 h2 h3 => by omega⟩
  have hm := List.getElem_mem hil
  rw [if_pos (by simp; omega), Qap rs i hil, Qae]
  refine Tot.bind (Q7q h (hr.2 _ hm).1 (hr.2 _ hm).2) fun b hb => ?_
  cases b
  ·simp only [Bool.not_false, if_true]
   exact ⟨_, rfl, rfl, _, hm, fun h => by have := hb.2 h; cases this⟩
  ·simp only [Bool.not_true, Bool.false_eq_true, if_false, Qar (i := i) (by omega)]
   refine (ih (i + 1) (by omega)).mono fun o ho => ?_
   cases o with
   | inl r => exact ho
   | inr u =>
    exact fun j h5 h6 h7 => by
     by_cases hj : j = i
     ·subst hj; exact hb.1 rfl
     ·exact ho j (by omega) h6 h7
theorem Qwd {ls : List Fm} (h : FS ls) {rs : List Rul} (hr : RS rs) : Tot (Qjk rs ls) fun b => b = true ↔ Qvo ls rs := by
 rw [Qjk]
 refine Tot.bind (Kbn h hr 10 0 (by omega)) fun o ho => ?_
 cases o with
 | inl r =>
  obtain ⟨h0, x, hx, hn⟩ := ho
  subst h0
  exact ⟨_, rfl, fun h => (by cases h), fun h => absurd (h.2.1 x hx) hn⟩
 | inr u =>
  simp only
  by_cases hl : rs.length < 10
  ·rw [if_pos (by omega)]
   obtain ⟨b, e, hb⟩ := Qq0 h
   rw [e]
   simp only [Qak, Qae]
   refine ⟨_, rfl, ?_⟩
   simp only [hb]
   refine ⟨fun h => ⟨hl, fun r hr => ?_, h⟩, fun h => h.2.2⟩
   obtain ⟨j, hj, rfl⟩ := List.mem_iff_getElem.1 hr
   exact ho j (Nat.zero_le _) (by omega) hj
  ·rw [if_neg (by omega)]
   exact ⟨false, rfl, fun h => (by cases h), fun h => absurd h.1 hl⟩
def Q4v : ByteArray := ByteArray.mk #[114, 117, 108, 101, 115]
def Qge (f : Fm) : List Fm × List Rul := ((f.kids.getD 1 default).kids, (f.kids.drop 2).map fun x => ⟨x.kids.getD 0 default, x.kids.getD 1 default⟩)
def Q6c (f : Fm) : Prop := FV f /\ f.kind = 3 /\ 2 <= f.kids.length /\ (f.kids.getD 0 default).name = Q4v /\ (f.kids.getD 1 default).kind = 3 /\ (∀ x ∈ f.kids.drop 2, x.kind = 3 /\ x.kids.length = 2) /\ Qvo (Qge f).1 (Qge f).2
theorem Q33 {f : Fm} (hf : f.sz <= 100000) : Tot (Qg7 f) fun r => (Q6c f /\ r = ((Qge f).1, (Qge f).2, true)) ∨ (¬ Q6c f /\ r.2.2 = false) := by
 have hz := Fm.Qgf f
 have bad : ¬ Q6c f -> Tot (some ([], [], false) : Option (List Fm × List Rul × Bool)) fun r => (Q6c f /\ r = ((Qge f).1, (Qge f).2, true)) ∨ (¬ Q6c f /\ r.2.2 = false) := fun h => ⟨_, rfl, .inr ⟨h, rfl⟩⟩
 rw [Qg7]
 refine Tot.bind (Qja (by omega)) fun b hb => ?_
 cases b
 ·simp only [Bool.not_false, Bool.true_or, Qak, Qae, if_true]
  exact bad fun h => by have := hb.2 h.1; cases this
 simp only [Bool.not_true, Bool.false_or, Qak, Qae]
 by_cases h3 : f.kind = 3
 rotate_left
 ·simp only [h3, decide_false, Bool.not_false, Bool.true_or, if_true, Qak, Qae]
  exact bad fun h => h3 h.2.1
 by_cases h4 : (f.kids.length : Int) < 2
 ·simp only [h3, h4, decide_true, Bool.not_true, Bool.false_or, if_true, Qak, Qae]
  exact bad fun h => by have := h.2.2.1; omega
 have l0 : 0 < f.kids.length := by omega
 have l1 : 1 < f.kids.length := by omega
 simp only [h3, h4, decide_true, decide_false, Bool.not_true, Bool.false_or, Bool.false_eq_true, if_false, show idx f.kids 0 = some f.kids[0] from Qap f.kids 0 l0, show idx f.kids 1 = some f.kids[1] from Qap f.kids 1 l1, Qak, Qae]
 have g0 : f.kids.getD 0 default = f.kids[0] := Qcb l0
 have g1 : f.kids.getD 1 default = f.kids[1] := Qcb l1
 by_cases h5 : f.kids[0].name = Q4v
 rotate_left
 ·have h5' := h5; unfold Q4v at h5'
  simp only [h5', decide_false, Bool.not_false, if_true, Qak, Qae]
  exact bad fun h => h5 (by rw [← g0]; exact h.2.2.2.1)
 have h5' := h5; unfold Q4v at h5'
 simp only [h5', decide_true, Bool.not_true, Bool.false_eq_true, if_false, Qak, Qae]
 by_cases h6 : f.kids[1].kind = 3
 rotate_left
 ·simp only [h6, decide_false, Bool.not_false, if_true]
  exact bad fun h => h6 (by rw [← g1]; exact h.2.2.2.2.1)
 simp only [h6, decide_true, Bool.not_true, Bool.false_eq_true, if_false]
 have k1 := Fm.Qh3 (List.getElem_mem l1)
 have hz1 := Fm.Qgf f.kids[1]
 have lp0 : ∀ (n i : Nat), i + n = f.kids[1].kids.length -> ∀ z : List Fm, z.length + n <= 200000 -> Qco f z i = some (z ++ f.kids[1].kids.drop i) := by
  intro n
  induction n with
  | zero =>
   intro i hi z _
   rw [Qco, show idx f.kids 1 = some f.kids[1] from Qap f.kids 1 l1, Qae, if_neg (by omega), show i = f.kids[1].kids.length by omega, List.drop_length]; simp [Qak]
  | succ n ih =>
   intro i hi z hzl
   have hil : i < f.kids[1].kids.length := by omega
   have := Fm.Qh3 (List.getElem_mem hil)
   rw [Qco, show idx f.kids 1 = some f.kids[1] from Qap f.kids 1 l1, Qae, if_pos (by omega), Qae, Qap _ i hil, Qae, Qr7 _ (by omega), Qae, Qbb (by simp; omega), Qae, Qar (i := i) (by omega), ih (i + 1) (by omega) _ (by simp; omega), List.append_assoc, List.drop_eq_getElem_cons hil]; rfl
 have e0 := lp0 f.kids[1].kids.length 0 (by omega) [] (by simp; omega)
 rw [show ((0 : Nat) : Int) = 0 from rfl] at e0
 rw [e0, Qae, List.nil_append, List.drop_zero]
 have lp1 : ∀ (n i : Nat), i + n = f.kids.length -> ∀ z : List Rul, z.length + n <= 200000 -> Tot (Qcp f f.kids[1].kids z i) fun o => ((∀ x ∈ f.kids.drop i, x.kind = 3 /\ x.kids.length = 2) /\ o = .inr (z ++ (f.kids.drop i).map fun x => ⟨x.kids.getD 0 default, x.kids.getD 1 default⟩)) ∨ (¬ (∀ x ∈ f.kids.drop i, x.kind = 3 /\ x.kids.length = 2) /\ ∃ r, o = .inl r /\ r.2.2 = false) := by
  intro n
  induction n with
  | zero =>
   intro i hi z _
   rw [Qcp, if_neg (by omega), show i = f.kids.length by omega, List.drop_length]
   exact ⟨_, rfl, .inl ⟨by simp, by simp⟩⟩
  | succ n ih =>
   intro i hi z hzl
   have hil : i < f.kids.length := by omega
   have k2 := Fm.Qh3 (List.getElem_mem hil)
   rw [Qcp, if_pos (by omega), Qap _ i hil, List.drop_eq_getElem_cons hil]
   simp only [Qae]
   by_cases q1 : f.kids[i].kind = 3
   rotate_left
   ·rw [if_neg q1]
    simp only [Qak, Qae, if_true]
    exact ⟨_, rfl, .inr ⟨fun h => q1 (h _ (List.mem_cons_self ..)).1, _, rfl, rfl⟩⟩
   rw [if_pos q1]
   by_cases q2 : f.kids[i].kids.length = 2
   rotate_left
   ·simp only [Qak, Qae, decide_eq_false (show ¬ (f.kids[i].kids.length : Int) = 2 by omega), Bool.not_false, if_true]
    exact ⟨_, rfl, .inr ⟨fun h => q2 (h _ (List.mem_cons_self ..)).2, _, rfl, rfl⟩⟩
   have j0 : 0 < f.kids[i].kids.length := by omega
   have j1 : 1 < f.kids[i].kids.length := by omega
   have m0 := Fm.Qh3 (List.getElem_mem j0)
   have m1 := Fm.Qh3 (List.getElem_mem j1)
   simp only [Qak, Qae, decide_eq_true (show (f.kids[i].kids.length : Int) = 2 by omega), Bool.not_true, Bool.false_eq_true, if_false, show idx f.kids[i].kids 0 = some f.kids[i].kids[0] from Qap _ 0 j0, show idx f.kids[i].kids 1 = some f.kids[i].kids[1] from Qap _ 1 j1]
   rw [Qr7 _ (by omega), Qr7 _ (by omega)]
   simp only [Qae]
   rw [Qbb (by simp; omega), Qae, Qar (i := i) (by omega)]
   refine (ih (i + 1) (by omega) _ (by simp; omega)).mono fun o ho => ?_
   rcases ho with ⟨r1, r2⟩ | ⟨r1, r2⟩
   ·refine .inl ⟨fun x hx => ?_, ?_⟩
    ·rcases List.mem_cons.1 hx with rfl | hx
     ·exact ⟨q1, q2⟩
     ·exact r1 x hx
    ·rw [r2, List.map_cons, Qcb j0, Qcb j1, List.append_assoc]; rfl
   ·exact .inr ⟨fun h => r1 fun x hx => h x (List.mem_cons_of_mem _ hx), r2⟩
 obtain ⟨o, ho, hop⟩ := lp1 (f.kids.length - 2) 2 (by omega) [] (by simp; omega)
 rw [show ((2 : Nat) : Int) = 2 from rfl] at ho
 rw [ho, Qae]
 rcases hop with ⟨r1, r2⟩ | ⟨r1, r, r2, r3⟩
 ·subst r2
  simp only [List.nil_append]
  have hls : FS f.kids[1].kids := ⟨by unfold Sm; omega, fun x hx => by have := Fm.Qh3 hx; omega⟩
  have hrs : RS ((f.kids.drop 2).map fun x => (⟨x.kids.getD 0 default, x.kids.getD 1 default⟩ : Rul)) := ⟨by rw [List.length_map, List.length_drop]; unfold Sm; omega, fun x hx => by
   obtain ⟨y, hy, rfl⟩ := List.mem_map.1 hx
   have q := (r1 y hy).2
   have k2 := Fm.Qh3 (List.mem_of_mem_drop hy)
   have j0 : 0 < y.kids.length := by omega
   have j1 : 1 < y.kids.length := by omega
   have m0 := Fm.Qh3 (List.getElem_mem j0)
   have m1 := Fm.Qh3 (List.getElem_mem j1)
   simp only [Qcb j0, Qcb j1]
   omega⟩
  have er : Qge f = (f.kids[1].kids, (f.kids.drop 2).map fun x => ⟨x.kids.getD 0 default, x.kids.getD 1 default⟩) := by unfold Qge; rw [g1]
  obtain ⟨b2, e2, hb2⟩ := Qwd hls hrs
  rw [e2, Qae]
  cases b2
  ·simp only [Bool.not_false, if_true]
   refine bad fun h => ?_
   have := h.2.2.2.2.2.2
   rw [er] at this
   have := hb2.2 this
   cases this
  ·simp only [Bool.not_true, Bool.false_eq_true, if_false]
   refine ⟨_, rfl, .inl ⟨⟨hb.1 rfl, h3, by omega, by rw [g0]; exact h5, by rw [g1]; exact h6, r1, by rw [er]; exact hb2.1 rfl⟩, by rw [er]⟩⟩
 ·subst r2
  exact ⟨_, rfl, .inr ⟨fun h => r1 h.2.2.2.2.2.1, r3⟩⟩
theorem Kf0 : ∀ f : Fm, f.sz <= 1000000 -> Qct f = some f := by
 intro f
 induction f using Fm.ind with
 | h f ih =>
  intro hf
  have hz := Fm.Qgf f
  rw [Qct, Qbb (by simp; omega), Qae, Qhs, Qms _ _ (by omega), Qis (Qci f.kids) id (fun _ _ => rfl) f.kids [] 0 (fun x hx z i r hzb => by
   have := Fm.Qh3 hx
   rw [Qci, Qak, Qae, ih x hx (by omega), Qae, Qbb (by simp; omega), Qae]; rfl) (by simp; omega)]
  simp only [Qae, Qak, List.nil_append, List.map_id, Fm.eta]
theorem Q30 (rs : List Rul) (hr : RS rs) (hl : rs.length <= 1000000) : Qf0 rs = some rs := by
 rw [Qf0, Qmt _ _ (by omega), Qis (Qcj rs) id (fun _ _ => rfl) rs [] 0 (fun x hx z i r hzb => by
  have := hr.2 x hx
  rw [Qcj, Qak, Qae, Qik, Kf0 _ (by omega), Qae, Kf0 _ (by omega), Qae, Qak, Qae, Qbb (by simp; omega), Qae]; rfl) (by simp; omega)]
 simp only [Qae, Qak, List.nil_append, List.map_id]
end Go.Proofs.SA
