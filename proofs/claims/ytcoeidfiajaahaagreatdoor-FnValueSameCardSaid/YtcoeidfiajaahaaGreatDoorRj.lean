/- The reference's templates filled; the first rule; rules applied. -/
import Derived.Test.YtcoeidfiajaahaaGreatDoorRg
set_option linter.unusedVariables false
set_option linter.unusedSimpArgs false
set_option maxRecDepth 100000
open Go Go.Proofs Go.Proofs.Shadow
namespace Go.Proofs.SA
def LN : Nat -> Fm -> Prop
 | 0, _ => False
 | d + 1, f => f.name.size <= 12 /\ f.sc.length <= 24 /\ ∀ k ∈ f.kids, LN d k
theorem LN.mono : ∀ (d e : Nat) (f : Fm), LN d f -> d <= e -> LN e f
 | 0, _, _, h, _ => h.elim
 | d + 1, 0, _, _, h => by omega
 | d + 1, e + 1, f, h, hde => ⟨h.1, h.2.1, fun k hk => LN.mono d e k (h.2.2 k hk) (by omega)⟩
theorem LN.sz : ∀ (d : Nat) (f : Fm), LN d f -> f.sz + 1 <= 37 * f.nodes
 | 0, _, h => h.elim
 | d + 1, f, h => by
  rw [Fm.Qgf, Fm.Qa4]
  have hsum : ∀ l : List Fm, (∀ g ∈ l, LN d g) -> Qbg Fm.sz l + l.length <= 37 * Qbg Fm.nodes l := by
   intro l
   induction l with
   | nil => intro _; exact Nat.le_refl _
   | cons g l ihl =>
    intro hg
    have h1 := LN.sz d g (hg g (List.mem_cons_self ..))
    have h2 := ihl (fun x hx => hg x (List.mem_cons_of_mem _ hx))
    simp only [Qbg, List.length_cons]
    omega
  have := hsum f.kids h.2.2
  have := h.1
  have := h.2.1
  omega
theorem NV.size {s : ByteArray} (h : NV s) : s.size <= 12 := by
 rcases h with h | h | h
 ·rw [h]; decide
 ·rw [h]; decide
 ·exact h.2.1
theorem FIs.ln : ∀ (d : Nat) (f : Fm), FIs d f -> LN d f
 | 0, _, h => h.elim
 | d + 1, f, h => by
  have z : (ByteArray.mk #[]).size = 0 := rfl
  rcases h with h | h | h
  ·exact ⟨NV.size h.2.1, h.2.2.2.1.1, fun k hk => by have := List.length_pos_of_mem hk; omega⟩
  ·exact ⟨by rw [h.2.1, z]; omega, by omega, fun k hk => by have := List.length_pos_of_mem hk; omega⟩
  ·exact ⟨by rw [h.2.1, z]; omega, by omega, fun k hk => FIs.ln d k (h.2.2.2.2 k hk)⟩
theorem FV.ln {f : Fm} (h : FV f) : LN 40 f := FIs.ln _ _ h.1
theorem Klx (x : Fm) : ∀ l : List Fm, ((Fm.Kgo l).any fun g => decide (g.kind = 1) && decide (g = x)) = l.any fun t => Qrz t x
 | [] => rfl
 | f :: l => by rw [Fm.Kgo, List.any_append, List.any_cons, Klx x l]; rfl
theorem Kev (t x : Fm) : Qrz t x = ((decide (t.kind = 1) && decide (t = x)) || t.kids.any fun k => Qrz k x) := by
 cases t
 rw [Qrz, Fm.all, List.any_cons, Klx]; rfl
theorem Q57 (x : Fm) : ∀ t : Fm, t.sz <= 1000000 -> Qf3 t x = some (Qrz t x) := by
 intro t
 induction t using Fm.ind with
 | h t ih =>
  intro ht
  have hz := Fm.Qgf t
  rw [Qf3, Kev]
  have rest : (Qej t x 0 >>= fun o7 => match o7 with | .inl r => pure r | .inr _ => (pure false) : Option Bool) = some (t.kids.any fun k => Qrz k x) := by
   rw [Quo _ _ (by omega), Qm2 (Qhe t x) (fun k => Qrz k x) true (fun _ => rfl) t.kids 0 (fun k hk i r => by
    have := Fm.Qh3 hk
    rw [Qhe, Qak, Qae, ih k hk (by omega), Qae]; rfl), Qae]
   cases t.kids.any fun k => Qrz k x <;> rfl
  by_cases h1 : t.kind = 1
  ·rw [if_pos h1, Qo3 t (by omega)]
   simp only [Qak, Qae, decide_eq_true h1, Bool.true_and]
   by_cases h2 : t = x
   ·rw [decide_eq_true h2]; rfl
   ·rw [decide_eq_false h2]
    simp only [Bool.false_eq_true, if_false, Bool.false_or]
    exact rest
  ·rw [if_neg h1, decide_eq_false h1]
   simp only [Qak, Qae, Bool.false_eq_true, if_false, Bool.false_and, Bool.false_or]
   exact rest
inductive HB : Hit -> Prop
 | mk {n : Fm} {d : Int} {o : Fm} {m : List Hit} (hn : n.sz <= 100000) (h0 : 0 <= d) (h1 : d <= 100000) (ho : LN 40 o) (hon : o.nodes <= 400) (hm : m.length <= 400) (hs : ∀ x ∈ m, HB x) : HB (.mk n d o m)
theorem HB.out {h : Hit} (k : HB h) : h.name.sz <= 100000 /\ 0 <= h.depth /\ h.depth <= 100000 /\ LN 40 h.one /\ h.one.nodes <= 400 /\ h.many.length <= 400 /\ ∀ x ∈ h.many, HB x := by
 cases k; exact ⟨by assumption, by assumption, by assumption, by assumption, by assumption, by assumption, by assumption⟩
def HL (H : List Hit) : Prop := H.length <= 400 /\ ∀ h ∈ H, HB h
theorem HL.hs {H : List Hit} (h : HL H) : HS H := ⟨by have := h.1; unfold Sm; omega, fun x hx => by have := (h.2 x hx).out; omega⟩
theorem Kaa {t : Fm} (ht : t.sz <= 1000000) {H : List Hit} (hH : HL H) : Qji t H = some (Qm4 t H (-1)) := by
 have loop : ∀ (r : List Hit), (∀ x ∈ r, x ∈ H) -> ∀ (n : Int) (i : Nat), Tot (Qex t H n i r) fun o => match o with | .inl c => c = Qm4 t r n | .inr c => c = Qm4 t r n := by
  intro r
  induction r with
  | nil => intro _ n i; exact ⟨_, rfl, rfl⟩
  | cons h r ih =>
   intro hr n i
   have hr' := fun x hx => hr x (List.mem_cons_of_mem h hx)
   rw [Qex]
   simp only [Qak, Qae]
   by_cases h0 : h.depth = 0
   ·rw [show Qm4 t (h :: r) n = Qm4 t r n by rw [Qm4, if_pos (.inl h0)], if_pos h0]
    simp only [Qae, if_true]
    exact ih hr' n (i + 1)
   rw [if_neg h0, Q57 h.name t ht]
   simp only [Qae]
   cases hu : Qrz t h.name
   ·rw [show Qm4 t (h :: r) n = Qm4 t r n by rw [Qm4, if_pos (.inr hu)]]
    simp only [Bool.not_false, if_true]
    exact ih hr' n (i + 1)
   simp only [Bool.not_true, Bool.false_eq_true, if_false]
   have hno : ¬ (h.depth = 0 ∨ Qrz t h.name = false) := by simp [h0, hu]
   by_cases h1 : n ≥ 0
   ·rw [if_pos h1]
    by_cases h2 : n = (h.many.length : Int)
    ·rw [show Qm4 t (h :: r) n = Qm4 t r h.many.length by rw [Qm4, if_neg hno, if_neg (fun h => h.2 h2)]]
     simp only [h2, decide_true, Bool.not_true, Qae, Bool.false_eq_true, if_false]
     exact ih hr' _ (i + 1)
    ·rw [show Qm4 t (h :: r) n = -1 by rw [Qm4, if_neg hno, if_pos ⟨h1, h2⟩]]
     simp only [h2, decide_false, Bool.not_false, Qae, if_true]
     exact ⟨_, rfl, rfl⟩
   ·rw [show Qm4 t (h :: r) n = Qm4 t r h.many.length by rw [Qm4, if_neg hno, if_neg (fun h => h1 h.1)], if_neg h1]
    simp only [Qae, Bool.false_eq_true, if_false]
    exact ih hr' _ (i + 1)
 rw [Qji, Qs4 _ _ _ (by have := hH.1; omega)]
 obtain ⟨o, ho, hop⟩ := loop H (fun _ h => h) (-1) 0
 rw [ho, Qae]
 cases o with
 | inl c => simp only at hop; rw [hop]; rfl
 | inr c => simp only at hop; rw [hop]; rfl
theorem Qu4 (t : Fm) : ∀ (H : List Hit) (n : Int), (∀ h ∈ H, 0 <= h.depth) -> 0 <= Qm4 t H n -> (n = Qm4 t H n ∨ n < 0) /\ ∀ h ∈ H, 0 < h.depth -> Qrz t h.name = true -> (h.many.length : Int) = Qm4 t H n
 | [], n, _, h => by rw [Qm4] at *; exact ⟨.inl rfl, fun _ hh => by cases hh⟩
 | h :: H, n, hd, hc => by
  have hd' := fun x hx => hd x (List.mem_cons_of_mem h hx)
  have h0 := hd h (List.mem_cons_self ..)
  rw [Qm4] at *
  split
  ·rename_i hs
   rw [if_pos hs] at hc
   obtain ⟨a, b⟩ := Qu4 t H n hd' hc
   refine ⟨a, fun x hx hx1 hx2 => ?_⟩
   rcases List.mem_cons.1 hx with rfl | hx
   ·rcases hs with hs | hs
    ·omega
    ·rw [hs] at hx2; cases hx2
   ·exact b x hx hx1 hx2
  ·rename_i hs
   rw [if_neg hs] at hc
   split
   ·rename_i h2; rw [if_pos h2] at hc; omega
   ·rename_i h2
    rw [if_neg h2] at hc
    obtain ⟨a, b⟩ := Qu4 t H _ hd' hc
    have e : (h.many.length : Int) = Qm4 t H h.many.length := by rcases a with a | a <;> omega
    refine ⟨?_, fun x hx hx1 hx2 => ?_⟩
    ·by_cases hn : n < 0
     ·exact .inr hn
     ·exact .inl (by
       have : n = (h.many.length : Int) := Classical.byContradiction fun hne => h2 ⟨by omega, hne⟩
       omega)
    ·rcases List.mem_cons.1 hx with rfl | hx
     ·exact e
     ·exact b x hx hx1 hx2
theorem Kh6 {t : Fm} (ht : t.sz <= 1000000) {H : List Hit} (hH : HL H) {n : Nat} (hn : (n : Int) < Qm4 t H (-1)) : Qky t H n = some (Q5p t H n) := by
 have hall := (Qu4 t H (-1) (fun h hh => (hH.2 h hh).out.2.1) (by omega)).2
 rw [Qky, Qwr _ _ _ _ (by have := hH.1; omega), Qis (Qfi t H n) (Kh7 t n) (fun _ _ => rfl) H [] 0 (fun x hx z i r hz => by
  rw [Qfi]
  simp only [Qak, Qae]
  have fin : ∀ y : Hit, (Qc6 192 z [Hit.mk (Fm.mk y.name.kind y.name.name y.name.num y.name.sc y.name.kids) y.depth (Fm.mk y.one.kind y.one.name y.one.num y.one.sc y.one.kids) y.many] >>= fun x38 => Qfi t H n x38 (i + 1) r) = Qfi t H n (z ++ [y]) (i + 1) r := fun y => by
   rw [Fm.eta, Fm.eta, Hit.eta, Qbb (by simp; omega), Qae]
  by_cases hd : x.depth > 0
  ·rw [if_pos hd, Q57 x.name t ht]
   simp only [Qae]
   cases hu : Qrz t x.name
   ·rw [show Kh7 t n x = x from if_neg (by simp [hu])]
    simp only [Bool.false_eq_true, if_false, Qae]
    exact fin x
   ·have hl := hall x hx hd hu
    have hnl : n < x.many.length := by omega
    rw [show Kh7 t n x = x.many[n] by unfold Kh7; rw [if_pos ⟨hd, hu⟩, Qcb hnl]]
    simp only [if_true, Qap _ n hnl, Qae]
    exact fin x.many[n]
  ·rw [if_neg hd, show Kh7 t n x = x from if_neg (fun h => hd h.1)]
   simp only [Qae, Bool.false_eq_true, if_false]
   exact fin x) (by have := hH.1; simp; omega)]
 simp only [Qae, Qak, List.nil_append]; rfl
theorem HL.nth {t : Fm} {H : List Hit} (hH : HL H) {n : Nat} (hn : (n : Int) < Qm4 t H (-1)) : HL (Q5p t H n) := by
 have hall := (Qu4 t H (-1) (fun h hh => (hH.2 h hh).out.2.1) (by omega)).2
 refine ⟨by unfold Q5p; rw [List.length_map]; exact hH.1, fun x hx => ?_⟩
 unfold Q5p at hx
 obtain ⟨y, hy, rfl⟩ := List.mem_map.1 hx
 unfold Kh7
 split
 ·rename_i hc
  have hl := hall y hy hc.1 hc.2
  have hnl : n < y.many.length := by omega
  rw [Qcb hnl]
  exact (hH.2 y hy).out.2.2.2.2.2.2 _ (List.getElem_mem hnl)
 ·exact hH.2 y hy
theorem Q3l (t : Fm) : ∀ (H : List Hit) (n : Int), (∀ h ∈ H, h.many.length <= 400) -> n <= 400 -> Qm4 t H n <= 400
 | [], n, _, h => h
 | h :: H, n, hm, hn => by
  have hm' := fun x hx => hm x (List.mem_cons_of_mem h hx)
  have := hm h (List.mem_cons_self ..)
  rw [Qm4]
  split
  ·exact Q3l t H n hm' hn
  ·split
   ·omega
   ·exact Q3l t H _ hm' (by omega)
def FR (d : Nat) (o : Option Fm) (r : Fm × Bool) : Prop := match o with | some f => r = (f, true) /\ LN d f /\ f.nodes <= 401 | none => r.2 = false /\ r.1.sz <= 20000
theorem Kmh (t : Fm) (H : List Hit) : fl t H = match (if t.kind = 1 then Kk4 H t else none) with
  | some h => if h.depth = 0 then some h.one else none
  | none => match flL t.kids H with
   | none => none
   | some out => if Qbg Fm.nodes out <= 400 then some (.mk t.kind t.name t.num t.sc out) else none := by cases t; rw [fl.eq_def]; rfl
theorem Kg6 (H : List Hit) : flL [] H = some [] := by rw [flL.eq_def]
theorem Kdh (t : Fm) (ts : List Fm) (H : List Hit) : flL (t :: ts) H = if Qbj t = true then flL ts H
    else if Qd7 ts = true then
      (if Qm4 t H (-1) < 0 then none
       else match Qtr (fun n => fl t (Q5p t H n)) (List.range (Qm4 t H (-1)).toNat) with
        | none => none
        | some ks => (flL ts H).map (ks ++ ·))
    else match fl t H with
      | none => none
      | some k => (flL ts H).map (k :: ·) := by
  conv => lhs; rw [flL.eq_def]
  rfl
theorem Qj7 {α : Type} (g : α -> Nat) (a b : List α) : Qbg g (a ++ b) = Qbg g a + Qbg g b := Qni g a b
def FRL (d : Nat) (z : List Fm) (o : Option (List Fm)) (r : (Fm × Bool) ⊕ (List Fm)) : Prop :=
 match o with
 | some ks => if Qbg Fm.nodes (z ++ ks) <= 400 then r = .inr (z ++ ks) /\ ∀ k ∈ ks, LN d k else ∃ x, r = .inl (x, false) /\ x.sz <= 20000
 | none => ∃ x, r = .inl (x, false) /\ x.sz <= 20000
theorem Q68 : ∀ (d : Nat) (t : Fm), LN d t -> t.sz <= 20000 -> ∀ {H : List Hit}, HL H -> Tot (Qjf t H) (FR (d + 40) (fl t H)) := by
 intro d
 induction d with
 | zero => intro t h; exact h.elim
 | succ d ih =>
  intro t hln ht H hH
  have hz := Fm.Qgf t
  rw [Qjf, Kmh]
  have rest : Tot ((Qc6 8 [] t.sc >>= fun x45 => (Qdl t H x45 [] 0 0 >>= fun o42 => match o42 with | .inl r => pure r | .inr Q48 => (pure (Fm.mk t.kind t.name t.num x45 Q48, true)))) : Option (Fm × Bool)) (FR (d + 1 + 40) (match flL t.kids H with | none => none | some out => if Qbg Fm.nodes out <= 400 then some (.mk t.kind t.name t.num t.sc out) else none)) := by
   rw [Qbb (by simp; omega), Qae, List.nil_append]
   have kidf : ∀ f ∈ t.kids, LN d f /\ f.sz <= 20000 := fun f hf => ⟨hln.2.2 f hf, by have := Fm.Qh3 hf; omega⟩
   have loop : ∀ (r : List Fm) (i : Nat) (z : List Fm), t.kids.drop i = r -> Qbg Fm.nodes z <= 400 -> Tot (Qel t H t.sc z ((Qbg Fm.nodes z : Nat) : Int) i r) (FRL (d + 40) z (flL r H)) := by
    intro r
    induction r with
    | nil => intro i z _ hzz; rw [Kg6]; refine ⟨_, rfl, ?_⟩; unfold FRL; simp only; rw [if_pos (by simpa using hzz)]; exact ⟨by simp, fun k hk => by cases hk⟩
    | cons f r ihr =>
     intro i z hd hzz
     have hd0 := hd
     have hi : i < t.kids.length := by
      rcases Nat.lt_or_ge i t.kids.length with h | h
      ·exact h
      ·rw [List.drop_of_length_le h] at hd; cases hd
     rw [List.drop_eq_getElem_cons hi] at hd
     injection hd with e1 e2
     have hm : f ∈ t.kids := e1 ▸ List.getElem_mem hi
     obtain ⟨hfl, hfz⟩ := kidf f hm
     rw [Qel, Kdh]
     simp only [Qak, Qae, Ql5]
     cases hq : Qbj f
     rotate_left
     ·simp only [if_true]
      exact ihr (i + 1) z e2 hzz
     simp only [Bool.false_eq_true, if_false]
     have hnx := Qz7 hd0 (by omega)
     simp only [Qak, Qae, Ql5] at hnx
     rw [hnx]
     simp only [Qae]
     have hzl := Qdw z
     have inner : ∀ (row : Bool) (c : Nat), c <= 400 -> (∀ n : Nat, n < c -> ((if row = true then (idx t.kids (i : Int) >>= fun x96 => (Qky x96 H n >>= fun x100 => some x100)) else some H : Option (List Hit)) = some (if row = true then Q5p f H n else H) /\ HL (if row = true then Q5p f H n else H))) ->
       ∀ (m k : Nat) (z : List Fm), k + m = c -> Qbg Fm.nodes z <= 400 -> Tot (Qdm t H t.sc (i : Int) row (c : Int) z (k : Int) ((Qbg Fm.nodes z : Nat) : Int)) fun o => match Qtr (fun n => fl f (if row = true then Q5p f H n else H)) (List.range' k m) with
        | some ks => if Qbg Fm.nodes (z ++ ks) <= 400 then o = .inr (z ++ ks, ((Qbg Fm.nodes (z ++ ks) : Nat) : Int)) /\ ∀ x ∈ ks, LN (d + 40) x else ∃ x, o = .inl (x, false) /\ x.sz <= 20000
        | none => ∃ x, o = .inl (x, false) /\ x.sz <= 20000 := by
      intro row c hc hn m
      induction m with
      | zero =>
       intro k z hk hzz
       rw [Qdm, if_neg (by omega)]
       refine ⟨_, rfl, ?_⟩
       rw [show List.range' k 0 = [] from rfl, Qtr]
       simp only [List.append_nil]
       rw [if_pos hzz]
       exact ⟨by simp, fun x hx => by cases hx⟩
      | succ m ihm =>
       intro k z hk hzz
       have hzl := Qdw z
       obtain ⟨q1, q2⟩ := hn k (by omega)
       rw [Qdm, if_pos (by omega)]
       simp only [Qak]
       rw [q1]
       simp only [Qae, Qap _ i hi, e1]
       obtain ⟨r, hr, hfr⟩ := ih f hfl hfz q2
       rw [hr]
       simp only [Qae]
       rw [List.range'_succ, Qtr]
       have hsz : r.1.sz < 1000000000 := by
        cases hf : fl f (if row = true then Q5p f H k else H) with
        | none => rw [hf] at hfr; have := hfr.2; omega
        | some g => rw [hf] at hfr; have h1 := hfr.1; have h2 := LN.sz _ _ hfr.2.1; have := hfr.2.2; rw [h1]; show g.sz < _; omega
       rw [Q4p _ hsz]
       simp only [Qae]
       cases hf : fl f (if row = true then Q5p f H k else H) with
       | none =>
        rw [hf] at hfr
        have : r.2 = false := hfr.1
        rw [this]
        simp only [Bool.not_false, Bool.true_or, if_true]
        exact ⟨_, rfl, t, rfl, ht⟩
       | some g =>
        rw [hf] at hfr
        obtain ⟨h1, h2, h3⟩ := hfr
        subst h1
        simp only [Bool.not_true, Bool.false_or]
        have hgz := Qkf g
        rw [Qa8 (by omega) (by omega)]
        have e3 : Qbg Fm.nodes (z ++ [g]) = Qbg Fm.nodes z + g.nodes := by rw [Qj7]; simp [Qbg]
        by_cases hbig : ((Qbg Fm.nodes z : Nat) : Int) + (g.nodes : Int) > 400
        ·rw [decide_eq_true hbig]
         simp only [if_true]
         refine ⟨_, rfl, ?_⟩
         cases hall : Qtr (fun n => fl f (if row = true then Q5p f H n else H)) (List.range' (k + 1) m) with
         | none => exact ⟨t, rfl, ht⟩
         | some ks =>
          simp only [Option.map_some]
          rw [if_neg (by rw [Qj7, Qbg]; omega)]
          exact ⟨t, rfl, ht⟩
        ·rw [decide_eq_false hbig]
         simp only [Bool.false_eq_true, if_false]
         rw [Qbb (by simp; omega)]
         simp only [Qae]
         rw [Qar (i := k) (by omega), show ((Qbg Fm.nodes z : Nat) : Int) + (g.nodes : Int) = ((Qbg Fm.nodes (z ++ [g]) : Nat) : Int) by rw [e3]; omega]
         obtain ⟨o, ho, hop⟩ := ihm (k + 1) (z ++ [g]) (by omega) (by omega)
         refine ⟨o, ho, ?_⟩
         cases hall : Qtr (fun n => fl f (if row = true then Q5p f H n else H)) (List.range' (k + 1) m) with
         | none => rw [hall] at hop; exact hop
         | some ks =>
          rw [hall] at hop
          simp only [Option.map_some, List.append_assoc, List.singleton_append] at hop ⊢
          split
          ·rename_i hle
           rw [if_pos hle] at hop
           exact ⟨hop.1, fun x hx => by
            rcases List.mem_cons.1 hx with rfl | hx
            ·exact h2
            ·exact hop.2 x hx⟩
          ·rename_i hle
           rw [if_neg hle] at hop; exact hop
     have after : ∀ (row : Bool) (c : Nat) (ks? : Option (List Fm)), (Tot (Qdm t H t.sc (i : Int) row (c : Int) z 0 ((Qbg Fm.nodes z : Nat) : Int)) fun o => match ks? with
        | some ks => if Qbg Fm.nodes (z ++ ks) <= 400 then o = .inr (z ++ ks, ((Qbg Fm.nodes (z ++ ks) : Nat) : Int)) /\ ∀ x ∈ ks, LN (d + 40) x else ∃ x, o = .inl (x, false) /\ x.sz <= 20000
        | none => ∃ x, o = .inl (x, false) /\ x.sz <= 20000) ->
       Tot ((Qdm t H t.sc (i : Int) row (c : Int) z 0 ((Qbg Fm.nodes z : Nat) : Int) >>= fun o37 => match o37 with | .inl r => some (Sum.inl r) | .inr (Qpg, Qv1) => (Qel t H t.sc Qpg Qv1 (i + 1) r)) : Option ((Fm × Bool) ⊕ (List Fm))) (FRL (d + 40) z (match ks? with | none => none | some ks => (flL r H).map (ks ++ ·))) := fun row c ks? h => by
      obtain ⟨o, ho, hop⟩ := h
      rw [ho, Qae]
      cases ks? with
      | none => obtain ⟨x, rfl, hx⟩ := hop; exact ⟨_, rfl, x, rfl, hx⟩
      | some ks =>
       simp only at hop ⊢
       split at hop
       ·rename_i hle
        obtain ⟨rfl, hks⟩ := hop
        simp only
        obtain ⟨o2, ho2, hop2⟩ := ihr (i + 1) (z ++ ks) e2 hle
        refine ⟨o2, ho2, ?_⟩
        cases hfr : flL r H with
        | none => rw [hfr] at hop2; exact hop2
        | some ks2 =>
         rw [hfr] at hop2
         unfold FRL at hop2 ⊢
         simp only [Option.map_some, List.append_assoc] at hop2 ⊢
         split
         ·rename_i hle2; rw [if_pos hle2] at hop2
          exact ⟨hop2.1, fun x hx => by
           rcases List.mem_append.1 hx with hx | hx
           ·exact hks x hx
           ·exact hop2.2 x hx⟩
         ·rename_i hle2; rw [if_neg hle2] at hop2; exact hop2
       ·rename_i hle
        obtain ⟨x, rfl, hx⟩ := hop
        refine ⟨_, rfl, ?_⟩
        cases hfr : flL r H with
        | none => exact ⟨x, rfl, hx⟩
        | some ks2 =>
         unfold FRL
         simp only [Option.map_some]
         rw [if_neg (by rw [← List.append_assoc, Qj7]; omega)]
         exact ⟨x, rfl, hx⟩
     cases hhd : Qd7 r
     ·simp only [Bool.false_eq_true, if_false, Qae]
      rw [if_neg (by omega)]
      have h1 := inner false 1 (by omega) (fun n _ => ⟨by simp, by simpa using hH⟩) 1 0 z rfl hzz
      have e4 : Qtr (fun n => fl f (if false = true then Q5p f H n else H)) (List.range' 0 1) = (fl f H).map (fun k => [k]) := by
       show Qtr _ [0] = _
       rw [Qtr]
       simp only [Bool.false_eq_true, if_false]
       cases fl f H <;> rfl
      rw [e4] at h1
      have := after false 1 _ h1
      rw [show ((1 : Nat) : Int) = 1 from rfl] at this
      refine this.mono fun o ho => ?_
      cases hf : fl f H with
      | none => rw [hf] at ho; exact ho
      | some k => rw [hf] at ho; exact ho
     ·simp only [if_true]
      rw [Kaa (by omega) hH]
      simp only [Qae]
      by_cases hc0 : Qm4 f H (-1) < 0
      ·rw [if_pos hc0, if_pos hc0]
       exact ⟨_, rfl, t, rfl, ht⟩
      rw [if_neg hc0, if_neg hc0]
      have hcl := Q3l f H (-1) (fun h hh => (hH.2 h hh).out.2.2.2.2.2.1) (by omega)
      have ec : ((Qm4 f H (-1)).toNat : Int) = Qm4 f H (-1) := by omega
      have h1 := inner true (Qm4 f H (-1)).toNat (by omega) (fun n hn => by
       simp only [if_true]
       refine ⟨?_, hH.nth (by omega)⟩
       rw [Qap _ i hi, Qae, e1, Kh6 (by omega) hH (by omega), Qae]) (Qm4 f H (-1)).toNat 0 z (by omega) hzz
      have := after true (Qm4 f H (-1)).toNat _ h1
      rw [ec] at this
      simp only [if_true] at this
      rw [List.range_eq_range']
      exact this
   rw [Quj _ _ _ _ _ (by omega)]
   obtain ⟨o, ho, hop⟩ := loop t.kids 0 [] (List.drop_zero ..) (by simp [Qbg])
   rw [show ((Qbg Fm.nodes ([] : List Fm) : Nat) : Int) = 0 from rfl] at ho
   rw [ho, Qae]
   cases hfl : flL t.kids H with
   | none => rw [hfl] at hop; obtain ⟨x, rfl, hx⟩ := hop; exact ⟨_, rfl, rfl, hx⟩
   | some out =>
    rw [hfl] at hop
    unfold FRL at hop
    simp only [List.nil_append] at hop ⊢
    split at hop
    ·rename_i hle
     obtain ⟨rfl, hk⟩ := hop
     rw [if_pos hle]
     refine ⟨_, rfl, rfl, ⟨hln.1, hln.2.1, fun k hk' => ?_⟩, ?_⟩
     ·exact LN.mono _ _ _ (hk k hk') (by omega)
     ·rw [Fm.Qa4]; show 1 + Qbg Fm.nodes out <= 401; omega
    ·rename_i hle
     obtain ⟨x, rfl, hx⟩ := hop
     rw [if_neg hle]
     exact ⟨_, rfl, rfl, hx⟩
  by_cases h1 : t.kind = 1
  ·rw [if_pos h1, if_pos h1]
   rcases Qy3 hH.hs t with ⟨j, hj, h2, h3⟩ | ⟨h2, h3⟩
   ·rw [h2, h3]
    have hb := (hH.2 _ (List.getElem_mem hj)).out
    have hs := LN.sz _ _ hb.2.2.2.1
    simp only [Qak, Qae]
    rw [if_pos (by omega), Qap _ j hj]
    simp only [Qae]
    rw [Qr7 _ (by omega)]
    simp only [Qae]
    by_cases h0 : H[j].depth = 0
    ·rw [decide_eq_true h0, if_pos h0]
     exact ⟨_, rfl, rfl, LN.mono _ _ _ hb.2.2.2.1 (by omega), by omega⟩
    ·rw [decide_eq_false h0, if_neg h0]
     exact ⟨_, rfl, rfl, by show H[j].one.sz <= _; omega⟩
   ·rw [h2, h3]
    simp only [Qak, Qae]
    rw [if_neg (by omega)]
    exact rest
  ·rw [if_neg h1, if_neg h1]
   simp only [Qak, Qae]
   rw [if_neg (by omega)]
   exact rest
end Go.Proofs.SA
namespace Go.Proofs.SA
theorem Km6 (B : List Bnd) (ls : List Fm) : ∀ (d : Nat) (p : Fm), FIs d p -> Qbj p = false -> p.sz <= 100000 -> p.nodes <= 400 -> ∀ (f : Fm), FV f -> ∀ hs, pm B ls p f = some hs -> ∀ h ∈ hs, HB h := by
 intro d
 induction d with
 | zero => intro p h; exact h.elim
 | succ d ih =>
  intro p h hdt hpz hpn f hf hs e
  have hzp := Fm.Qgf p
  have hnp := Fm.Qa4 p
  have hL : ∀ (ps : List Fm), (∀ q ∈ ps, q ∈ p.kids /\ FIs d q) -> ∀ (fs : List Fm), (∀ g ∈ fs, FV g) -> fs.length <= 400 -> ∀ (n : Nat) (hs : List Hit), pmL B ls ps fs n = some hs -> ∀ h ∈ hs, HB h := by
   intro ps
   induction ps with
   | nil => intro _ fs _ _ n hs e h hh; rw [Q34] at e; injection e with e; subst e; cases hh
   | cons q ps ihp =>
    intro hq fs hfs hfl n hs e
    have hq' := fun x hx => hq x (List.mem_cons_of_mem q hx)
    have hqm := (hq q (List.mem_cons_self ..))
    have hqz := Fm.Qh3 hqm.1
    have hqn := Qi4 hqm.1
    rw [Qz9] at e
    by_cases hd : Qbj q = true
    ·rw [if_pos hd] at e; exact ihp hq' fs hfs hfl n hs e
    ·rw [if_neg hd] at e
     have hd' : Qbj q = false := by simpa using hd
     by_cases hh : Qd7 ps = true
     ·rw [if_pos hh] at e
      split at e
      ·cases e
      ·rename_i rows hrows
       obtain ⟨hs2, h2, h3⟩ := Option.map_eq_some_iff.1 e
       subst h3
       intro h hh
       rcases List.mem_append.1 hh with hh | hh
       ·unfold Kf2 at hh
        obtain ⟨i, hi, rfl⟩ := List.mem_map.1 hh
        have hi' : i < (vrs ls q).length := by simpa using hi
        have hid : i < (dps ls 0 q).length := by rw [← Qxa]; exact hi'
        have hge := Kag ls q 0 _ (List.getElem_mem hid)
        have hvs := Q4h ls q _ (List.getElem_mem hi')
        have hrl := Qzj hrows
        rw [List.length_take] at hrl
        rw [Qcb hi', Qcb hid]
        have z : Fm.zero.name.size = 0 := rfl
        refine .mk (by omega) (by omega) (by omega) ⟨by rw [z]; omega, by show 0 <= 24; omega, fun k hk => by cases hk⟩ (by decide) (by rw [List.length_map]; omega) fun x hx => ?_
        obtain ⟨r, hr, rfl⟩ := List.mem_map.1 hx
        obtain ⟨g, hg, hg2⟩ := Qzk hrows r hr
        have hl := Q5u B ls d q hqm.2 hd' g r hg2
        have hil : i < r.length := by omega
        rw [Qcb hil]
        exact ih q hqm.2 hd' (by omega) (by omega) g (hfs g (List.mem_of_mem_take hg)) r hg2 _ (List.getElem_mem hil)
       ·exact ihp hq' _ (fun g hg => hfs g (List.mem_of_mem_drop hg)) (by rw [List.length_drop]; omega) _ _ h2 h hh
     ·rw [if_neg hh] at e
      split at e
      ·cases e
      ·rename_i f' fs'
       split at e
       ·cases e
       ·rename_i hs1 h1
        obtain ⟨hs2, h2, h3⟩ := Option.map_eq_some_iff.1 e
        subst h3
        intro h hh
        rcases List.mem_append.1 hh with hh | hh
        ·exact ih q hqm.2 hd' (by omega) (by omega) _ (hfs _ (List.mem_cons_self ..)) _ h1 h hh
        ·exact ihp hq' _ (fun g hg => hfs g (List.mem_cons_of_mem _ hg)) (by simp at hfl; omega) _ _ h2 h hh
  rw [Kif] at e
  split at e
  ·split at e
   ·injection e with e; subst e; intro h hh; cases hh
   ·split at e
    ·split at e
     ·injection e with e; subst e; intro h hh; cases hh
     ·cases e
    ·injection e with e; subst e
     intro h hh
     rw [List.mem_singleton.1 hh]
     exact .mk hpz (Int.le_refl _) (by omega) hf.ln hf.2 (by simp) (fun x hx => by cases hx)
  ·split at e
   ·split at e
    ·injection e with e; subst e; intro h hh; cases hh
    ·cases e
   ·rename_i k1 k2
    have hkids : ∀ q ∈ p.kids, q ∈ p.kids /\ FIs d q := fun q hq => ⟨hq, h.kid hq⟩
    have hfk : ∀ g ∈ f.kids, FV g := fun g hg => hf.kid hg
    have hfl := hf.Qse
    split at e
    ·split at e
     ·split at e
      ·cases e
      ·exact hL _ hkids _ hfk (by omega) _ _ e
     ·split at e
      ·exact hL _ hkids _ hfk (by omega) _ _ e
      ·cases e
    ·cases e
theorem Kbu {p : Fm} (h : Kbt p = true) : Qbj p = false := by
 cases hd : Qbj p
 ·rfl
 ·rw [Q0f, if_pos hd] at h; cases h
theorem Km7 {B : List Bnd} {ls : List Fm} {p f : Fm} (hp : Kf8 ls p) (hf : FV f) {hs : List Hit} (e : pm B ls p f = some hs) : HL hs := by
 have hd := Kbu hp.2.2.1
 have hz := hp.1.sz
 have hn := hp.1.2
 refine ⟨?_, Km6 B ls 40 p hp.1.1 hd (by omega) hn f hf hs e⟩
 rw [Q5u B ls 40 p hp.1.1 hd f hs e]
 have := Qmf ls p; omega
open Classical in
noncomputable def Qqx (B : List Bnd) (ls : List Fm) (rs : List Rul) (f : Fm) : Option Nat :=
 if BV B /\ Qvo ls rs /\ FV f then rs.findIdx? (fun r => (pm B ls r.pat f).isSome) else none
open Classical in
noncomputable def Q9s (B : List Bnd) (ls : List Fm) (rs : List Rul) (f : Fm) : Option Fm :=
 match Qqx B ls rs f with
 | none => none
 | some j => match pm B ls (rs.getD j ⟨default, default⟩).pat f with
  | none => none
  | some hs => match fl (rs.getD j ⟨default, default⟩).tpl hs with
   | none => none
   | some g => if FV g then some g else none
theorem Q3t {B : List Bnd} {ls : List Fm} {rs : List Rul} {f : Fm} {j : Nat} (h : Qqx B ls rs f = some j) : BV B /\ Qvo ls rs /\ FV f /\ ∃ hj : j < rs.length, ∃ hs, pm B ls rs[j].pat f = some hs := by
 unfold Qqx at h
 split at h
 ·rename_i hc
  obtain ⟨hj, h1, _⟩ := List.findIdx?_eq_some_iff_getElem.1 h
  exact ⟨hc.1, hc.2.1, hc.2.2, hj, Option.isSome_iff_exists.1 h1⟩
 ·cases h
theorem Qv5 {B : List Bnd} (hB : BS B) {ls : List Fm} (hls : FS ls) {rs : List Rul} (hrs : RS rs) {f : Fm} (hf : f.sz <= 100000) : Tot (Qh7 B rs ls f) fun r => match Qqx B ls rs f with | some j => r = ((j : Int), true) | none => r.2 = false := by
 rw [Qh7]
 have bad : ¬ (BV B /\ Qvo ls rs /\ FV f) -> Tot (some (0, false) : Option (Int × Bool)) fun r => match Qqx B ls rs f with | some j => r = ((j : Int), true) | none => r.2 = false := fun h => ⟨_, rfl, by unfold Qqx; rw [if_neg h]⟩
 refine Tot.bind (Qkz hB) fun b hb => ?_
 cases b
 ·simp only [Bool.not_false, if_true, Qak, Qae]
  exact bad fun h => by have := hb.2 h.1; cases this
 simp only [Bool.not_true, Bool.false_eq_true, if_false]
 obtain ⟨b2, e2, hb2⟩ := Qwd hls hrs
 rw [e2]
 simp only [Qak, Qae]
 cases b2
 ·simp only [Bool.not_false, if_true, Qak, Qae]
  exact bad fun h => by have := hb2.2 h.2.1; cases this
 simp only [Bool.not_true, Bool.false_eq_true, if_false]
 obtain ⟨b3, e3, hb3⟩ := Qja (f := f) (by omega)
 rw [e3]
 simp only [Qak, Qae]
 cases b3
 ·simp only [Bool.not_false, if_true]
  exact bad fun h => by have := hb3.2 h.2.2; cases this
 simp only [Bool.not_true, Bool.false_eq_true, if_false]
 have hro := hb2.1 rfl
 have hfv := hb3.1 rfl
 rw [Qp1 _ _ _ _ (by have := hrs.1; omega)]
 have e : Qqx B ls rs f = rs.findIdx? (fun r => (pm B ls r.pat f).isSome) := by unfold Qqx; rw [if_pos ⟨hb.1 rfl, hro, hfv⟩]
 rw [e]
 have key : ∀ (l : List Rul) (i : Nat), (∀ r ∈ l, ∀ i r2, Qcn B rs ls f i (r :: r2) = if (pm B ls r.pat f).isSome = true then some (.inl ((i : Int), true)) else Qcn B rs ls f (i + 1) r2) -> Qcn B rs ls f i l = some (match l.findIdx? (fun r => (pm B ls r.pat f).isSome) with | some j => .inl (((i + j : Nat) : Int), true) | none => .inr ()) := by
  intro l
  induction l with
  | nil => intro i _; rfl
  | cons r l ih =>
   intro i hc
   rw [hc r (List.mem_cons_self ..), List.findIdx?_cons]
   cases (pm B ls r.pat f).isSome
   ·rw [if_neg (by simp), ih (i + 1) (fun y hy => hc y (List.mem_cons_of_mem _ hy))]
    cases l.findIdx? (fun r => (pm B ls r.pat f).isSome) with
    | none => rfl
    | some j => simp only [Bool.false_eq_true, if_false, Option.map_some]; congr 4; omega
   ·rfl
 rw [key rs 0 (fun r hr i r2 => by
  have hp := (hro.2.1 r hr).1
  obtain ⟨x, hx, hmr⟩ := Qy5 hB hls 40 r.pat hp.1.1 (by have := hp.1.sz; omega) hp.1.2 hp.2.2.1 f (by have := hfv.sz; omega)
  rw [Qcn]
  simp only [Qak, Qae]
  rw [hx]
  simp only [Qae]
  cases hpm : pm B ls r.pat f with
  | none => rw [hpm] at hmr; have : x.2 = false := hmr; rw [this]; rfl
  | some hs => rw [hpm] at hmr; have : x = (hs, true) := hmr; rw [this]; rfl), Qae]
 cases rs.findIdx? (fun r => (pm B ls r.pat f).isSome) with
 | none => exact ⟨_, rfl, rfl⟩
 | some j => exact ⟨_, rfl, by simp⟩
theorem Q3c {B : List Bnd} (hB : BS B) {ls : List Fm} (hls : FS ls) {rs : List Rul} (hrs : RS rs) (hrl : rs.length <= 1000000) {f : Fm} (hf : f.sz <= 100000) : Tot (Qii B rs ls f) fun r => match Q9s B ls rs f with | some g => r = (g, true) /\ FV g | none => r.2 = false := by
 rw [Qii, Q30 rs hrs hrl, Qae]
 obtain ⟨x, hx, hx2⟩ := Qv5 hB hls hrs hf
 rw [hx, Qae]
 unfold Q9s
 cases hfst : Qqx B ls rs f with
 | none =>
  rw [hfst] at hx2
  simp only at hx2
  rw [hx2]
  simp only [Bool.not_false, if_true]
  exact ⟨_, rfl, rfl⟩
 | some j =>
  rw [hfst] at hx2
  simp only at hx2
  subst hx2
  obtain ⟨hBV, hro, hfv, hj, hs, hpm⟩ := Q3t hfst
  have hru := hro.2.1 _ (List.getElem_mem hj)
  have hp := hru.1
  obtain ⟨y, hy, hmr⟩ := Qy5 hB hls 40 rs[j].pat hp.1.1 (by have := hp.1.sz; omega) hp.1.2 hp.2.2.1 f (by have := hfv.sz; omega)
  rw [hpm] at hmr
  have : y = (hs, true) := hmr
  subst this
  simp only [Qcb hj, hpm, Bool.not_true, Bool.false_eq_true, if_false, Qap rs j hj, Qae, hy]
  have htp := hru.2.2.2.1
  obtain ⟨z, hz, hfr⟩ := Q68 40 rs[j].tpl htp.ln (by have := htp.sz; omega) (Km7 hp hfv hpm)
  rw [hz]
  simp only [Qae]
  cases hfl : fl rs[j].tpl hs with
  | none =>
   rw [hfl] at hfr
   have : z.2 = false := hfr.1
   rw [this]
   simp only [Bool.not_false, if_true, Qak, Qae]
   exact ⟨_, rfl, rfl⟩
  | some g =>
   rw [hfl] at hfr
   obtain ⟨h1, h2, h3⟩ := hfr
   subst h1
   have := LN.sz _ _ h2
   simp only [Bool.not_true, Bool.false_eq_true, if_false]
   obtain ⟨b3, e3, hb3⟩ := Qja (f := g) (by omega)
   rw [e3]
   simp only [Qak, Qae]
   cases b3
   ·simp only [Bool.not_false, if_true]
    exact ⟨_, rfl, by rw [if_neg (fun h => by have := hb3.2 h; cases this)]⟩
   ·simp only [Bool.not_true, Bool.false_eq_true, if_false]
    exact ⟨_, rfl, by rw [if_pos (hb3.1 rfl)]; exact ⟨rfl, hb3.1 rfl⟩⟩
end Go.Proofs.SA
namespace Go.Proofs.Shadow
mutual
def Cor.nodes : Cor -> Nat
 | .mk _ _ _ _ _ _ ks => 1 + Cor.Qjo ks
def Cor.Qjo : List Cor -> Nat
 | [] => 0
 | f :: fs => f.nodes + Cor.Qjo fs
end
theorem Cor.Qih : ∀ ks, Cor.Qjo ks = Qbg Cor.nodes ks
 | [] => rfl
 | f :: fs => by rw [Cor.Qjo, Qbg, Cor.Qih fs]
theorem Cor.Qa4 (c : Cor) : c.nodes = 1 + Qbg Cor.nodes c.kids := by cases c; rw [Cor.nodes, Cor.Qih]; rfl
instance : Inhabited Mac := ⟨⟨0, [], []⟩⟩
def Q5m (l : List Mac) (id : Int) : Int := match l.findIdx? (fun m => decide (m.id = id)) with | some j => (j : Int) | none => -1
def Qxy (x : Xpn) (n : Fm) : Int × Int :=
 if (findF x.binds n).2 = 0 then (0, 0) else if (findF x.binds n).2 = 2 then (4, 0)
 else if (x.binds.getD (findF x.binds n).1.toNat default).id <= 5 then (1, (x.binds.getD (findF x.binds n).1.toNat default).id)
 else if Q5m x.macs (x.binds.getD (findF x.binds n).1.toNat default).id ≥ 0 then (2, (x.binds.getD (findF x.binds n).1.toNat default).id)
 else (3, (x.binds.getD (findF x.binds n).1.toNat default).id)
theorem Kh1 {l : List Mac} {id : Int} (h : Q5m l id ≥ 0) : Q5m l id < l.length /\ (l.getD (Q5m l id).toNat default).id = id := by
 unfold Q5m at *
 cases hf : l.findIdx? (fun m => decide (m.id = id)) with
 | none => rw [hf] at h; simp at h
 | some j =>
  obtain ⟨hj, h1, _⟩ := List.findIdx?_eq_some_iff_getElem.1 hf
  simp only [Int.toNat_natCast]
  refine ⟨by omega, ?_⟩
  rw [List.getD_eq_getElem?_getD, List.getElem?_eq_getElem hj]
  simpa using h1
theorem Kbh {x : Xpn} {n : Fm} (h : (Qxy x n).1 = 2) : Q5m x.macs (Qxy x n).2 ≥ 0 := by
 unfold Qxy at *
 split at h
 ·cases h
 ·rename_i h1
  rw [if_neg h1]
  split at h
  ·cases h
  ·rename_i h2
   rw [if_neg h2]
   split at h
   ·cases h
   ·rename_i h3
    rw [if_neg h3]
    split at h
    ·rename_i h4; rw [if_pos h4]; exact h4
    ·cases h
end Go.Proofs.Shadow
namespace Go.Proofs.SA
theorem Kbg (x : Xpn) (id : Int) (h : Sm x.macs.length) : Qjl x id = some (Q5m x.macs id) := by
 have key : ∀ (l : List Mac) (i : Nat), Qgj x id i l = some (match l.findIdx? (fun m => decide (m.id = id)) with | some j => .inl ((i + j : Nat) : Int) | none => .inr ()) := by
  intro l
  induction l with
  | nil => intro i; rfl
  | cons m l ih =>
   intro i
   rw [Qgj, Qak, Qae, List.findIdx?_cons]
   by_cases hm : m.id = id
   ·rw [if_pos hm, decide_eq_true hm]; rfl
   ·rw [if_neg hm, decide_eq_false hm, ih]
    cases l.findIdx? (fun m => decide (m.id = id)) with
    | none => rfl
    | some j => simp only [Bool.false_eq_true, if_false, Option.map_some]; congr 3; omega
 rw [Qjl, Qtd _ _ (by omega), key x.macs 0, Qae, Q5m]
 cases x.macs.findIdx? (fun m => decide (m.id = id)) with
 | none => rfl
 | some j => simp only [Nat.zero_add]; rfl
theorem Kg5 (l : List Bnd) (n : Fm) : (findF l n).2 = 0 ∨ (findF l n).2 = 1 ∨ (findF l n).2 = 2 := by
 unfold findF; split
 ·exact .inr (.inl rfl)
 ·split
  ·exact .inl rfl
  ·exact .inr (.inr rfl)
theorem Q5n (x : Xpn) (n : Fm) (h : BS x.binds) (hn : Sm n.sc.length) (hm : Sm x.macs.length) : Qid x n = some (Qxy x n) := by
 rw [Qid, Qzz x.binds n h hn, Qae, Qxy]
 by_cases h0 : (findF x.binds n).2 = 0
 ·rw [if_pos h0, if_pos h0]; rfl
 rw [if_neg h0, if_neg h0]
 by_cases h2 : (findF x.binds n).2 = 2
 ·rw [if_pos h2, if_pos h2]; rfl
 have h1 : (findF x.binds n).2 = 1 := by have := Kg5 x.binds n; omega
 have hr := Qpu h1
 rw [if_neg h2, if_neg h2, Qoz (l := x.binds) hr.1 hr.2, Qae]
 by_cases h3 : (x.binds.getD (findF x.binds n).1.toNat default).id <= 5
 ·rw [if_pos h3, if_pos h3]; rfl
 ·rw [if_neg h3, if_neg h3, Kbg x _ hm, Qae]
  by_cases h4 : Q5m x.macs (x.binds.getD (findF x.binds n).1.toNat default).id ≥ 0
  ·rw [if_pos h4, if_pos h4]; rfl
  ·rw [if_neg h4, if_neg h4]; rfl
def MS (m : Mac) : Prop := FS m.lits /\ RS m.rules /\ m.rules.length <= 400
structure XI (x : Xpn) : Prop where
 b : BV x.binds
 m : (x.macs.length : Int) + 10 <= x.id
 i : x.id <= 999
 s0 : 0 <= x.scope
 s1 : x.scope <= 99
 t0 : 0 <= x.steps
 t1 : x.steps <= 60
 mm : ∀ m ∈ x.macs, MS m
theorem XI.sm {x : Xpn} (h : XI x) : Sm x.macs.length := by have := h.m; have := h.i; unfold Sm; omega
inductive Q21 : Cor -> Prop
 | mk {k i : Int} {s : ByteArray} {n : Int} {l : List Int} {d : Fm} {ks : List Cor} (hs : s.size <= 12) (hl : l.length <= 400) (hd : LN 40 d) (hn : d.nodes <= 400) (hk : ks.length <= 400) (h : ∀ x ∈ ks, Q21 x) : Q21 (.mk k i s n l d ks)
theorem Kl3 : LN 40 (Fm.mk 0 (ByteArray.mk #[]) 0 [] []) /\ (Fm.mk 0 (ByteArray.mk #[]) 0 [] []).nodes <= 400 := by
 have z : (Fm.mk 0 (ByteArray.mk #[]) 0 [] []).name.size = 0 := rfl
 exact ⟨⟨by rw [z]; omega, by show 0 <= 24; omega, fun k hk => by cases hk⟩, by decide⟩
theorem Q1g (k i : Int) (s : ByteArray) (hs : s.size <= 12) (n : Int) (l : List Int) (hl : l.length <= 400) (ks : List Cor) (hk : ks.length <= 400) (h : ∀ x ∈ ks, Q21 x) : Q21 (.mk k i s n l (Fm.mk 0 (ByteArray.mk #[]) 0 [] []) ks) := .mk hs hl Kl3.1 Kl3.2 hk h
theorem e0 : (ByteArray.mk #[]).size <= 12 := by decide
def P7 (x : Xpn) (n : Nat) (r : Xpn × Cor × Int) : Prop := r.2.2 = 0 -> XI r.1 /\ x.steps <= r.1.steps /\ Q21 r.2.1 /\ (r.2.1.nodes : Int) <= n + 400 * (r.1.steps - x.steps)
theorem P7.bad {x y : Xpn} {n : Nat} {c : Cor} {e : Int} (h : e ≠ 0) : P7 x n (y, c, e) := fun h2 => absurd h2 h
theorem FV.smc {f : Fm} (h : FV f) : Sm f.sc.length := by have := h.sz; have := Fm.Q2p f; unfold Sm; omega
theorem Q7f {x : Xpn} (hx : XI x) {f : Fm} (hf : FV f) : Tot (Qlh x f) (P7 x 1) := by
 have hn : f.name.size <= 12 := hf.ln.1
 rw [Qlh, Q5n x f hx.b.bs hf.smc hx.sm, Qae]
 split
 ·exact ⟨_, rfl, fun _ => ⟨hx, Int.le_refl _, Q1g _ _ _ hn _ _ (by simp) _ (by simp) (by simp), by simp [Cor.Qa4, Cor.kids, Qbg]⟩⟩
 ·split
  ·exact ⟨_, rfl, fun _ => ⟨hx, Int.le_refl _, Q1g _ _ _ e0 _ _ (by simp) _ (by simp) (by simp), by simp [Cor.Qa4, Cor.kids, Qbg]⟩⟩
  ·split
   ·exact ⟨_, rfl, .bad (by decide)⟩
   ·exact ⟨_, rfl, .bad (by decide)⟩
theorem Qy1 {x : Xpn} (hx : XI x) {f : Fm} (hf : f.sz < 1000000) : Tot (Qip x f) fun r => r.2 = 0 -> r.1 = ⟨x.binds ++ [⟨f.name, f.sc, x.id + 1⟩], x.macs, x.scope, x.id + 1, x.steps⟩ /\ BV r.1.binds /\ r.1.id <= 999 := by
 have hi := hx.i
 have hm := hx.m
 rw [Qip]
 split
 ·exact ⟨_, rfl, fun h => by cases h⟩
 ·rw [Qa8 (by omega) (by omega)]
  have hbl := hx.b.1
  refine Tot.bind (Q03 hx.b.bs (by omega) (by omega) _) fun r hr => ?_
  rcases hr with ⟨h1, h2, h3, h4, h5, h6⟩ | ⟨h1, _, _⟩
  ·rw [h1]
   simp only [Bool.not_true, Bool.false_eq_true, if_false]
   refine ⟨_, rfl, fun _ => ⟨by rw [h2], by rw [h2]; exact h6, ?_⟩⟩
   have := (h6.2.1 _ (List.mem_append_right _ (List.mem_singleton.2 rfl))).2.2.2
   exact this
  ·rw [h1]
   simp only [Bool.not_false, if_true]
   exact ⟨_, rfl, fun h => by cases h⟩
theorem Qm3 {f : Fm} (h : FV f) (s w : Int) : (chg s w f).sz <= 16000 := by have := Kjt s w f; have := h.sz; have := h.2; omega
theorem Khl {names : List Fm} (hn : ∀ n ∈ names, FV n) (hl : names.length <= 400) (body : Fm) (b : Int) : ∀ (r : List Fm) (i : Nat) (x : Xpn) (z : List Int), XI x -> (∀ n ∈ r, FV n) -> z.length + r.length <= 400 ->
  Tot (Qg1 names body b x.binds x.macs x.scope x.id x.steps z i r) fun o => match o with
   | .inl q => q.2.2 ≠ 0
   | .inr (q0, q1, q2, q3, q4, z') => XI ⟨q0, q1, q2, q3, q4⟩ /\ q4 = x.steps /\ z'.length = z.length + r.length /\ q2 = x.scope := by
 intro r
 induction r with
 | nil => intro i x z hx _ _; rw [Qg1]; exact ⟨_, rfl, hx, rfl, by simp, rfl⟩
 | cons n r ih =>
  intro i x z hx hr hz
  simp only [List.length_cons] at hz
  have hfn := hr n (List.mem_cons_self ..)
  rw [Qg1, Qak, Qae]
  by_cases hk : n.kind = 1
  rotate_left
  ·rw [if_neg hk]; exact ⟨_, rfl, fun h => by simp at h⟩
  have hcs := Qm3 hfn x.scope 0
  rw [if_pos hk, Qae, Qk0 _ _ n (by have := hfn.sz; omega), Qae]
  refine Tot.bind (Qja (by omega)) fun b1 hb1 => ?_
  cases b1
  ·simp only [Bool.not_false, if_true]; exact ⟨_, rfl, fun h => by simp at h⟩
  simp only [Bool.not_true, Bool.false_eq_true, if_false]
  refine Tot.bind (Qy1 hx (f := chg x.scope 0 n) (by omega)) fun q hq => ?_
  by_cases h0 : q.2 = 0
  ·rw [if_pos h0]
   obtain ⟨h1, h2, h3⟩ := hq h0
   rw [Qbb (by simp; omega), Qae]
   have hx2 : XI q.1 := by
    rw [h1] at h2 h3 ⊢
    have := hx.m
    exact ⟨h2, by show (x.macs.length : Int) + 10 <= x.id + 1; omega, h3, hx.s0, hx.s1, hx.t0, hx.t1, hx.mm⟩
   refine (ih (i + 1) q.1 (z ++ [q.1.id]) hx2 (fun y hy => hr y (List.mem_cons_of_mem _ hy)) (by simp; omega)).mono fun o ho => ?_
   cases o with
   | inl q2 => exact ho
   | inr q2 =>
    obtain ⟨a1, a2, a3, a4⟩ := ho
    refine ⟨a1, ?_, ?_, ?_⟩
    ·rw [a2, h1]
    ·rw [a3]; simp; omega
    ·rw [a4, h1]
  ·rw [if_neg h0]; exact ⟨_, rfl, h0⟩
theorem Kbq {x : Xpn} (hx : XI x) : Qiq x = some (⟨x.binds, x.macs, x.scope + 1, x.id, x.steps⟩, decide (x.scope + 1 <= 99)) := by
 have := hx.s0; have := hx.s1
 rw [Qiq, Qa8 (by omega) (by omega)]; rfl
theorem XI.scope {x : Xpn} (hx : XI x) (h : x.scope + 1 <= 99) : XI ⟨x.binds, x.macs, x.scope + 1, x.id, x.steps⟩ := ⟨hx.b, hx.m, hx.i, by have := hx.s0; show 0 <= x.scope + 1; omega, h, hx.t0, hx.t1, hx.mm⟩
theorem Ka0 {b s0 : Int} {body : Fm} (hb : FV body) (hE : ∀ x f, XI x -> s0 <= x.steps -> FV f -> f.nodes = body.nodes -> Tot (Qbp x f b) (P7 x f.nodes)) {names : List Fm} (hn : ∀ n ∈ names, FV n) (hl : names.length <= 400) {x : Xpn} (hx : XI x) (hs : s0 <= x.steps) : Tot (Qj6 x names body b) (P7 x (body.nodes + 1)) := by
 rw [Qj6, Kbq hx, Qae]
 by_cases h1 : x.scope + 1 <= 99
 rotate_left
 ·rw [decide_eq_false h1]; simp only [Bool.not_false, if_true]; exact ⟨_, rfl, .bad (by decide)⟩
 rw [decide_eq_true h1]
 simp only [Bool.not_true, Bool.false_eq_true, if_false]
 rw [Qww _ _ _ _ _ _ _ _ _ (by omega)]
 obtain ⟨o, ho, hop⟩ := Khl hn hl body b names 0 _ [] (hx.scope h1) hn (by simp; omega)
 rw [ho, Qae]
 cases o with
 | inl q => exact ⟨_, rfl, fun h => absurd h hop⟩
 | inr q =>
  obtain ⟨q0, q1, q2, q3, q4, z⟩ := q
  obtain ⟨a1, a2, a3, a4⟩ := hop
  simp only
  have hcs := Qm3 hb q2 0
  rw [Qk0 _ _ body (by have := hb.sz; omega), Qae]
  refine Tot.bind (Qja (by omega)) fun b1 hb1 => ?_
  cases b1
  ·simp only [Bool.not_false, if_true]; exact ⟨_, rfl, .bad (by decide)⟩
  simp only [Bool.not_true, Bool.false_eq_true, if_false]
  refine Tot.bind (hE ⟨q0, q1, q2, q3, q4⟩ _ a1 (by show s0 <= q4; rw [a2]; exact hs) (hb1.1 rfl) (Qqm _ _ _)) fun r hr => ?_
  refine ⟨_, rfl, fun h => ?_⟩
  obtain ⟨c1, c2, c3, c4⟩ := hr h
  have : q4 = x.steps := a2
  have c2' : q4 <= r.1.steps := c2
  have c4' : (r.2.1.nodes : Int) <= ((chg q2 0 body).nodes : Int) + 400 * (r.1.steps - q4) := c4
  rw [Qqm] at c4'
  refine ⟨c1, ?_, Q1g _ _ _ e0 _ _ (by rw [a3]; simp; omega) _ (by simp) (fun y hy => by rw [List.mem_singleton.1 hy]; exact c3), ?_⟩
  ·show x.steps <= r.1.steps
   omega
  ·show ((Cor.mk _ _ _ _ _ _ [r.2.1]).nodes : Int) <= _ + 400 * (r.1.steps - x.steps)
   rw [Cor.Qa4]
   simp only [Cor.kids, Qbg]
   omega
theorem Q7r {f : Fm} (h : Q6c f) (id : Int) : MS ⟨id, (Qge f).1, (Qge f).2⟩ := by
 obtain ⟨hf, _, h2, _, _, h3, _⟩ := h
 have l1 : 1 < f.kids.length := by omega
 have hkl := hf.Qse
 have e1 : (Qge f).1 = f.kids[1].kids := by unfold Qge; simp only [Qcb l1]
 have hv1 := hf.kid (List.getElem_mem l1)
 refine ⟨⟨by show Sm (Qge f).1.length; rw [e1]; have := hv1.Qse; unfold Sm; omega, fun x hx => ?_⟩, ⟨by show Sm (Qge f).2.length; unfold Qge Sm; rw [List.length_map, List.length_drop]; omega, fun x hx => ?_⟩, by show (Qge f).2.length <= 400; unfold Qge; rw [List.length_map, List.length_drop]; omega⟩
 ·have hx' : x ∈ (Qge f).1 := hx
  rw [e1] at hx'
  have := (hv1.kid hx').sz; omega
 ·have hx' : x ∈ (Qge f).2 := hx
  unfold Qge at hx'
  obtain ⟨y, hy, rfl⟩ := List.mem_map.1 hx'
  have q := (h3 y hy).2
  have hv := hf.kid (List.mem_of_mem_drop hy)
  have j0 : 0 < y.kids.length := by omega
  have j1 : 1 < y.kids.length := by omega
  simp only [Qcb j0, Qcb j1]
  have := (hv.kid (List.getElem_mem j0)).sz
  have := (hv.kid (List.getElem_mem j1)).sz
  omega
theorem Q7d {names vals : List Fm} (hn : ∀ n ∈ names, FV n) (hv : ∀ n ∈ vals, FV n) (hlen : vals.length = names.length) (hl : names.length <= 400) (body : Fm) (b : Int) : ∀ (r : List Fm) (i : Nat) (x : Xpn), names.drop i = r -> XI x ->
  Tot (Qd5 names vals body b x.binds x.macs x.scope x.id x.steps i r) fun o => match o with
   | .inl q => q.2.2 ≠ 0
   | .inr (q0, q1, q2, q3, q4) => XI ⟨q0, q1, q2, q3, q4⟩ /\ q4 = x.steps /\ q2 = x.scope := by
 intro r
 induction r with
 | nil => intro i x _ hx; rw [Qd5]; exact ⟨_, rfl, hx, rfl, rfl⟩
 | cons n r ih =>
  intro i x hd hx
  have hi : i < names.length := by
   rcases Nat.lt_or_ge i names.length with h | h
   ·exact h
   ·rw [List.drop_of_length_le h] at hd; cases hd
  rw [List.drop_eq_getElem_cons hi] at hd
  injection hd with e1 e2
  have hfn : FV n := hn n (e1 ▸ List.getElem_mem hi)
  have hiv : i < vals.length := by omega
  have hfv := hv _ (List.getElem_mem hiv)
  have hcs := Qm3 hfn x.scope 0
  have hcv := Qm3 hfv x.scope 0
  rw [Qd5, Qak, Qae, Qk0 _ _ n (by have := hfn.sz; omega), Qae, Qap _ i hiv, Qae, Qk0 _ _ _ (by have := hfv.sz; omega), Qae, Qae]
  by_cases hk : n.kind = 1
  rotate_left
  ·rw [if_neg hk]; exact ⟨_, rfl, fun h => by simp at h⟩
  rw [if_pos hk]
  refine Tot.bind (Qja (by omega)) fun b1 hb1 => ?_
  cases b1
  ·simp only [Bool.not_false, if_true, Qak, Qae]; exact ⟨_, rfl, fun h => by simp at h⟩
  simp only [Bool.not_true, Bool.false_eq_true, if_false]
  obtain ⟨b2, e3, hb2⟩ := Qja (f := chg x.scope 0 vals[i]) (by omega)
  rw [e3]
  simp only [Qak, Qae]
  cases b2
  ·simp only [Bool.not_false, if_true]; exact ⟨_, rfl, fun h => by simp at h⟩
  simp only [Bool.not_true, Bool.false_eq_true, if_false]
  obtain ⟨p, hp, hpp⟩ := Q33 (f := chg x.scope 0 vals[i]) (by omega)
  rw [hp]
  simp only [Qae]
  rcases hpp with ⟨hrf, rfl⟩ | ⟨_, hpf⟩
  rotate_left
  ·rw [hpf]; simp only [Bool.not_false, if_true]; exact ⟨_, rfl, fun h => by simp at h⟩
  simp only [Bool.not_true, Bool.false_eq_true, if_false]
  obtain ⟨q, hq1, hq⟩ := Qy1 hx (f := chg x.scope 0 n) (by omega)
  rw [hq1]
  simp only [Qae]
  by_cases h0 : q.2 = 0
  ·rw [if_pos h0]
   obtain ⟨h1, h2, h3⟩ := hq h0
   have hml := hx.m
   have hil := hx.i
   rw [Qbb (by rw [h1]; simp; omega)]
   simp only [Qae, List.nil_append]
   rw [Qbb (by rw [h1]; simp; omega)]
   simp only [Qae]
   have hx2 : XI ⟨q.1.binds, q.1.macs ++ [⟨q.1.id, (Qge (chg x.scope 0 vals[i])).1, (Qge (chg x.scope 0 vals[i])).2⟩], q.1.scope, q.1.id, q.1.steps⟩ := by
    rw [h1] at h2 h3 ⊢
    refine ⟨h2, by simp; omega, h3, hx.s0, hx.s1, hx.t0, hx.t1, fun m hm => ?_⟩
    rcases List.mem_append.1 hm with hm | hm
    ·exact hx.mm m hm
    ·rw [List.mem_singleton.1 hm]; exact Q7r hrf _
   refine (ih (i + 1) _ e2 hx2).mono fun o ho => ?_
   cases o with
   | inl q2 => exact ho
   | inr q2 =>
    obtain ⟨a1, a2, a3⟩ := ho
    refine ⟨a1, ?_, ?_⟩
    ·rw [a2, h1]
    ·rw [a3, h1]
  ·rw [if_neg h0]; exact ⟨_, rfl, h0⟩
theorem Q14 {b s0 : Int} {body : Fm} (hb : FV body) (hE : ∀ x f, XI x -> s0 <= x.steps -> FV f -> f.nodes = body.nodes -> Tot (Qbp x f b) (P7 x f.nodes)) {names vals : List Fm} (hn : ∀ n ∈ names, FV n) (hv : ∀ n ∈ vals, FV n) (hlen : vals.length = names.length) (hl : names.length <= 400) {x : Xpn} (hx : XI x) (hs : s0 <= x.steps) : Tot (Qjw x names vals body b) (P7 x body.nodes) := by
 rw [Qjw, Kbq hx, Qae]
 by_cases h1 : x.scope + 1 <= 99
 rotate_left
 ·rw [decide_eq_false h1]; simp only [Bool.not_false, if_true]; exact ⟨_, rfl, .bad (by decide)⟩
 rw [decide_eq_true h1]
 simp only [Bool.not_true, Bool.false_eq_true, if_false]
 rw [Qrp _ _ _ _ _ _ _ _ _ (by omega)]
 obtain ⟨o, ho, hop⟩ := Q7d hn hv hlen hl body b names 0 _ (List.drop_zero ..) (hx.scope h1)
 rw [ho, Qae]
 cases o with
 | inl q => exact ⟨_, rfl, fun h => absurd h hop⟩
 | inr q =>
  obtain ⟨q0, q1, q2, q3, q4⟩ := q
  obtain ⟨a1, a2, a4⟩ := hop
  simp only
  have hcs := Qm3 hb q2 0
  rw [Qk0 _ _ body (by have := hb.sz; omega), Qae]
  refine Tot.bind (Qja (by omega)) fun b1 hb1 => ?_
  cases b1
  ·simp only [Bool.not_false, if_true]; exact ⟨_, rfl, .bad (by decide)⟩
  simp only [Bool.not_true, Bool.false_eq_true, if_false]
  refine Tot.bind (hE ⟨q0, q1, q2, q3, q4⟩ _ a1 (by show s0 <= q4; rw [a2]; exact hs) (hb1.1 rfl) (Qqm _ _ _)) fun r hr => ?_
  refine ⟨_, rfl, fun h => ?_⟩
  obtain ⟨c1, c2, c3, c4⟩ := hr h
  have : q4 = x.steps := a2
  have c2' : q4 <= r.1.steps := c2
  have c4' : (r.2.1.nodes : Int) <= ((chg q2 0 body).nodes : Int) + 400 * (r.1.steps - q4) := c4
  rw [Qqm] at c4'
  exact ⟨c1, by show x.steps <= r.1.steps; omega, c3, by show (r.2.1.nodes : Int) <= _ + 400 * (r.1.steps - x.steps); omega⟩
def PA (x : Xpn) (l : List Fm) (r : Xpn × List Cor × Int) : Prop := r.2.2 = 0 -> XI r.1 /\ x.steps <= r.1.steps /\ r.2.1.length = l.length /\ (∀ c ∈ r.2.1, Q21 c) /\ (Qbg Cor.nodes r.2.1 : Int) <= Qbg Fm.nodes l + 400 * (r.1.steps - x.steps)
theorem Q9b {b s0 : Int} {l : List Fm} (hE : ∀ x f, XI x -> s0 <= x.steps -> f ∈ l -> Tot (Qbp x f b) (P7 x f.nodes)) (hl : l.length <= 400) {x : Xpn} (hx : XI x) (hs : s0 <= x.steps) : Tot (Qhg x l b) (PA x l) := by
 have loop : ∀ (r : List Fm) (i : Nat) (y : Xpn) (z : List Cor), (∀ f ∈ r, f ∈ l) -> XI y -> s0 <= y.steps -> x.steps <= y.steps -> z.length + r.length <= 400 -> (∀ c ∈ z, Q21 c) -> (Qbg Cor.nodes z : Int) + Qbg Fm.nodes r <= Qbg Fm.nodes l + 400 * (y.steps - x.steps) ->
   Tot (Qg0 l b y.binds y.macs y.scope y.id y.steps z i r) fun o => match o with
    | .inl q => q.2.2 ≠ 0
    | .inr (q0, q1, q2, q3, q4, z') => XI ⟨q0, q1, q2, q3, q4⟩ /\ x.steps <= q4 /\ z'.length = z.length + r.length /\ (∀ c ∈ z', Q21 c) /\ (Qbg Cor.nodes z' : Int) <= Qbg Fm.nodes l + 400 * (q4 - x.steps) := by
  intro r
  induction r with
  | nil => intro i y z _ hy _ hxy _ hz hnn; rw [Qg0]; exact ⟨_, rfl, hy, hxy, by simp, hz, by simpa [Qbg] using hnn⟩
  | cons f r ih =>
   intro i y z hr hy hs hxy hzl hz hnn
   rw [Qbg] at hnn
   simp only [List.length_cons] at hzl
   rw [Qg0, Qak, Qae]
   refine Tot.bind (hE ⟨y.binds, y.macs, y.scope, y.id, y.steps⟩ f hy hs (hr f (List.mem_cons_self ..))) fun q hq => ?_
   by_cases h0 : q.2.2 = 0
   ·rw [if_pos h0]
    obtain ⟨c1, c2, c3, c4⟩ := hq h0
    have c2' : y.steps <= q.1.steps := c2
    have c4' : (q.2.1.nodes : Int) <= (f.nodes : Int) + 400 * (q.1.steps - y.steps) := c4
    rw [Qbb (by simp; omega), Qae]
    refine (ih (i + 1) q.1 (z ++ [q.2.1]) (fun g hg => hr g (List.mem_cons_of_mem _ hg)) c1 (by omega) (by omega) (by simp; omega) (fun c hc => by
     rcases List.mem_append.1 hc with hc | hc
     ·exact hz c hc
     ·rw [List.mem_singleton.1 hc]; exact c3) (by rw [Qj7]; simp only [Qbg]; omega)).mono fun o ho => ?_
    cases o with
    | inl q2 => exact ho
    | inr q2 =>
     obtain ⟨a1, a2, a3, a4, a5⟩ := ho
     exact ⟨a1, a2, by rw [a3]; simp; omega, a4, a5⟩
   ·rw [if_neg h0]; exact ⟨_, rfl, h0⟩
 rw [Qhg, Qwv _ _ _ _ _ _ _ _ (by omega)]
 obtain ⟨o, ho, hop⟩ := loop l 0 x [] (fun _ h => h) hx hs (Int.le_refl _) (by simp; omega) (by simp) (by simp [Qbg])
 rw [ho, Qae]
 cases o with
 | inl q => exact ⟨_, rfl, fun h => absurd h hop⟩
 | inr q =>
  obtain ⟨q0, q1, q2, q3, q4, z⟩ := q
  obtain ⟨a1, a2, a3, a4, a5⟩ := hop
  exact ⟨_, rfl, fun _ => ⟨a1, a2, by rw [a3]; simp, a4, a5⟩⟩
end Go.Proofs.SA
