/- Patterns, matches and templates as plain functions: what both sides compute. -/
import Derived.Test.YtcoeidfiajaahaaGreatDoorQa
set_option linter.unusedVariables false
set_option linter.unusedSimpArgs false
set_option maxRecDepth 100000
open Go Go.Proofs Go.Proofs.Shadow
namespace Go.Proofs.Shadow
noncomputable instance : DecidableEq Fm := fun a b => Classical.propDecidable (a = b)
instance : Inhabited Hit := ⟨.mk Fm.zero 0 Fm.zero []⟩
instance : Inhabited Bnd := ⟨⟨ByteArray.mk #[], [], 0⟩⟩
theorem Hit.eta (h : Hit) : Hit.mk h.name h.depth h.one h.many = h := by cases h; rfl
def Qql : ByteArray := ByteArray.mk #[46, 46, 46]
def Q1b : ByteArray := ByteArray.mk #[95]
def Qbj (f : Fm) : Bool := decide (f.kind = 1) && decide (f.name = Qql)
def Qd7 : List Fm -> Bool
 | f :: _ => Qbj f
 | [] => false
def Keq (a b : List Int) : Bool := a.all fun x => decide (x ∈ b)
def Q5d (n : Fm) : Nat -> List Bnd -> List Int
 | _, [] => []
 | i, b :: l => if b.name = n.name /\ Keq b.sc n.sc = true then (i : Int) :: Q5d n (i + 1) l else Q5d n (i + 1) l
def Q8n (l : List Bnd) (i : Int) : List Int := (l.getD i.toNat default).sc
def Kl5 (l : List Bnd) (fit : List Int) (i : Int) : Bool := fit.all fun k => Keq (Q8n l k) (Q8n l i)
def findF (l : List Bnd) (n : Fm) : Int × Int :=
 match (Q5d n 0 l).find? (Kl5 l (Q5d n 0 l)) with
 | some i => (i, 1)
 | none => if (Q5d n 0 l).length = 0 then (0, 0) else (0, 2)
theorem Qoy (n : Fm) : ∀ (l : List Bnd) (i : Nat), ∀ k ∈ Q5d n i l, (i : Int) <= k /\ k < i + l.length
 | [], i, k, hk => by cases hk
 | b :: l, i, k, hk => by
  unfold Q5d at hk
  simp only [List.length_cons]
  split at hk
  ·rcases List.mem_cons.1 hk with rfl | hk
   ·omega
   ·have := Qoy n l (i + 1) k hk; omega
  ·have := Qoy n l (i + 1) k hk; omega
theorem Q5e (n : Fm) : ∀ (l : List Bnd) (i : Nat), (Q5d n i l).length <= l.length
 | [], i => Nat.le_refl _
 | b :: l, i => by
  unfold Q5d
  have := Q5e n l (i + 1)
  split <;> simp only [List.length_cons] <;> omega
theorem Qpu {l : List Bnd} {n : Fm} (h : (findF l n).2 = 1) : 0 <= (findF l n).1 /\ (findF l n).1 < l.length := by
 unfold findF at h ⊢
 split at h
 ·rename_i i hi
  have := Qoy n l 0 i (List.mem_of_find?_eq_some hi)
  simp only; omega
 ·split at h <;> cases h
def Qwe (l : List Bnd) (a b : Fm) : Bool :=
 if (findF l a).2 ≠ (findF l b).2 ∨ (findF l a).2 = 2 then false
 else if (findF l a).2 = 0 then decide (a.name = b.name)
 else decide ((l.getD (findF l a).1.toNat default).id = (l.getD (findF l b).1.toNat default).id)
noncomputable def Q22 (ls : List Fm) (f : Fm) : Bool := decide (f.kind = 1) && (!decide (f.name = Qql)) && (!decide (f.name = Q1b)) && !decide (f ∈ ls)
section
variable (ls : List Fm)
mutual
noncomputable def vrs : Fm -> List Fm
 | .mk k s n c ks => (if Q22 ls (.mk k s n c ks) = true then [.mk k s n c ks] else []) ++ Qzd ks
noncomputable def Qzd : List Fm -> List Fm
 | [] => []
 | f :: fs => vrs f ++ Qzd fs
end
mutual
noncomputable def dps : Int -> Fm -> List Int
 | d, .mk k s n c ks => (if Q22 ls (.mk k s n c ks) = true then [d] else []) ++ Q3o d ks
noncomputable def Q3o : Int -> List Fm -> List Int
 | d, [] => []
 | d, f :: fs => dps (if Qd7 fs = true then d + 1 else d) f ++ Q3o d fs
end
mutual
def Kbt : Fm -> Bool
 | .mk k s n c ks => if Qbj (.mk k s n c ks) = true then false else Q38 true 0 ks
def Q38 : Bool -> Nat -> List Fm -> Bool
 | _, n, [] => decide (n <= 1)
 | b, n, f :: fs => if Qbj f = true then (if b = true then false else Q38 true (n + 1) fs) else if Kbt f = true then Q38 false n fs else false
end
theorem Qxb (p : Fm) : vrs ls p = (if Q22 ls p = true then [p] else []) ++ Qzd ls p.kids := by cases p; rw [vrs]; rfl
theorem Q40 (d : Int) (p : Fm) : dps ls d p = (if Q22 ls p = true then [d] else []) ++ Q3o ls d p.kids := by cases p; rw [dps]; rfl
theorem Q0f (p : Fm) : Kbt p = if Qbj p = true then false else Q38 true 0 p.kids := by cases p; rw [Kbt]; rfl
theorem Qwf : ∀ (l : List Fm) (b : Bool) (n : Nat), Q38 b n l = true -> (l.filter Qbj).length + n <= 1
 | [], b, n, h => by rw [Q38] at h; simpa using h
 | f :: fs, b, n, h => by
  rw [Q38] at h
  by_cases hd : Qbj f = true
  ·rw [if_pos hd] at h
   cases b
   ·have := Qwf fs true (n + 1) (by simpa using h)
    rw [List.filter_cons_of_pos hd, List.length_cons]; omega
   ·simp at h
  ·rw [if_neg hd] at h
   split at h
   ·have := Qwf fs false n h
    rw [List.filter_cons_of_neg hd]; exact this
   ·cases h
theorem Kbw {l : List Fm} {n : Nat} (h : Q38 true n l = true) : Qd7 l = false := by
 cases l with
 | nil => rfl
 | cons f fs =>
  rw [Q38] at h
  cases hd : Qbj f
  ·exact hd
  ·rw [if_pos hd] at h; simp at h
theorem Q0g : ∀ (l : List Fm) (b : Bool) (n : Nat), Q38 b n l = true -> ∀ f ∈ l, Qbj f = true ∨ Kbt f = true
 | [], b, n, h, f, hf => by cases hf
 | g :: fs, b, n, h, f, hf => by
  rw [Q38] at h
  by_cases hd : Qbj g = true
  ·rw [if_pos hd] at h
   cases b
   ·rcases List.mem_cons.1 hf with rfl | hf
    ·exact .inl hd
    ·exact Q0g fs true (n + 1) (by simpa using h) f hf
   ·simp at h
  ·rw [if_neg hd] at h
   split at h
   ·rename_i hs
    rcases List.mem_cons.1 hf with rfl | hf
    ·exact .inr hs
    ·exact Q0g fs false n h f hf
   ·cases h
theorem Q58 : ∀ (l : List Fm), (∀ f ∈ l, ∀ d, (vrs ls f).length = (dps ls d f).length) -> ∀ d, (Qzd ls l).length = (Q3o ls d l).length
 | [], _, d => rfl
 | f :: fs, h, d => by
  rw [Qzd, Q3o, List.length_append, List.length_append, h f (List.mem_cons_self ..), Q58 fs (fun g hg => h g (List.mem_cons_of_mem _ hg))]
theorem Qxa (p : Fm) : ∀ d, (vrs ls p).length = (dps ls d p).length := by
 induction p using Fm.ind with
 | h p ih =>
  intro d
  rw [Qxb, Q40, List.length_append, List.length_append, Q58 ls p.kids ih d]
  split <;> rfl
theorem Q59 : ∀ (l : List Fm), (∀ f ∈ l, (vrs ls f).length <= f.nodes) -> (Qzd ls l).length <= Qbg Fm.nodes l
 | [], _ => Nat.le_refl _
 | f :: fs, h => by
  rw [Qzd, List.length_append, Qbg]
  have := h f (List.mem_cons_self ..)
  have := Q59 fs (fun g hg => h g (List.mem_cons_of_mem _ hg))
  omega
theorem Qmf (p : Fm) : (vrs ls p).length <= p.nodes := by
 induction p using Fm.ind with
 | h p ih =>
  rw [Qxb, List.length_append, Fm.Qa4]
  have := Q59 ls p.kids ih
  split <;> simp <;> omega
end
noncomputable def Kf2 (ls : List Fm) (p : Fm) (rows : List (List Hit)) : List Hit :=
 (List.range (vrs ls p).length).map fun i => .mk ((vrs ls p).getD i default) ((dps ls 0 p).getD i 0 + 1) Fm.zero (rows.map fun r => r.getD i default)
def Qtr {α β : Type} (g : α -> Option β) : List α -> Option (List β)
 | [] => some []
 | x :: l => match g x with
  | none => none
  | some y => (Qtr g l).map (y :: ·)
section
variable (B : List Bnd) (ls : List Fm)
mutual
noncomputable def pm : Fm -> Fm -> Option (List Hit)
  | .mk k s n c ks, f =>
    if k = 1 then
      (if s = Q1b then some [] else if .mk k s n c ks ∈ ls then (if f.kind = 1 /\ Qwe B (.mk k s n c ks) f = true then some [] else none) else some [.mk (.mk k s n c ks) 0 f []])
    else if k = 2 then (if .mk k s n c ks = f then some [] else none)
    else if f.kind = 3 then
      (if ks.any Qbj = true then (if f.kids.length + 2 < ks.length then none else pmL ks f.kids (f.kids.length + 2 - ks.length))
       else if ks.length = f.kids.length then pmL ks f.kids 0 else none)
    else none
noncomputable def pmL : List Fm -> List Fm -> Nat -> Option (List Hit)
  | [], _, _ => some []
  | p :: ps, fs, n =>
    if Qbj p = true then pmL ps fs n
    else if Qd7 ps = true then
      (match Qtr (pm p) (fs.take n) with
       | none => none
       | some rows => (pmL ps (fs.drop n) n).map (Kf2 ls p rows ++ ·))
    else match fs with
      | [] => none
      | f :: fs => match pm p f with
        | none => none
        | some hs => (pmL ps fs n).map (hs ++ ·)
end
end
theorem Q34 (B : List Bnd) (ls : List Fm) (fs : List Fm) (n : Nat) : pmL B ls [] fs n = some [] := by rw [pmL.eq_def]
theorem Qz9 (B : List Bnd) (ls : List Fm) (p : Fm) (ps fs : List Fm) (n : Nat) : pmL B ls (p :: ps) fs n = if Qbj p = true then pmL B ls ps fs n
    else if Qd7 ps = true then
      (match Qtr (pm B ls p) (fs.take n) with
       | none => none
       | some rows => (pmL B ls ps (fs.drop n) n).map (Kf2 ls p rows ++ ·))
    else match fs with
      | [] => none
      | f :: fs => match pm B ls p f with
        | none => none
        | some hs => (pmL B ls ps fs n).map (hs ++ ·) := by rw [pmL.eq_def]
theorem Kif (B : List Bnd) (ls : List Fm) (p f : Fm) : pm B ls p f = if p.kind = 1 then
      (if p.name = Q1b then some [] else if p ∈ ls then (if f.kind = 1 /\ Qwe B p f = true then some [] else none) else some [.mk p 0 f []])
    else if p.kind = 2 then (if p = f then some [] else none)
    else if f.kind = 3 then
      (if p.kids.any Qbj = true then (if f.kids.length + 2 < p.kids.length then none else pmL B ls p.kids f.kids (f.kids.length + 2 - p.kids.length))
       else if p.kids.length = f.kids.length then pmL B ls p.kids f.kids 0 else none)
    else none := by cases p; rw [pm]; rfl
end Go.Proofs.Shadow
namespace Go.Proofs.Shadow
noncomputable def Kk4 (H : List Hit) (f : Fm) : Option Hit := H.find? fun h => decide (h.name = f)
noncomputable def Q8l (H : List Hit) (f : Fm) : Int := if f.kind = 1 then (match Kk4 H f with | some h => h.depth | none => -1) else -1
mutual
noncomputable def Qx0 (H : List Hit) : Fm -> Bool
 | .mk k s n c ks => decide (0 < Q8l H (.mk k s n c ks)) || Kec H ks
noncomputable def Kec (H : List Hit) : List Fm -> Bool
 | [] => false
 | f :: fs => Qx0 H f || Kec H fs
end
def Qz4 (H : List Hit) : List Hit := H.map fun h => .mk h.name (if 0 < h.depth then h.depth - 1 else h.depth) h.one []
mutual
noncomputable def Kf5 : Fm -> List Hit -> Bool
 | .mk k s n c ks, H => !(Qbj (.mk k s n c ks) || decide (0 < Q8l H (.mk k s n c ks))) && Ker true ks H
noncomputable def Ker : Bool -> List Fm -> List Hit -> Bool
 | _, [], _ => true
 | b, t :: ts, H => if Qbj t = true then !b && Ker true ts H
  else if Qd7 ts = true then Qx0 H t && Kf5 t (Qz4 H) && Ker false ts H
  else Kf5 t H && Ker false ts H
end
noncomputable def Qrz (t x : Fm) : Bool := t.all.any fun g => decide (g.kind = 1) && decide (g = x)
noncomputable def Qm4 (t : Fm) : List Hit -> Int -> Int
 | [], n => n
 | h :: H, n => if h.depth = 0 ∨ Qrz t h.name = false then Qm4 t H n else if 0 <= n /\ n ≠ (h.many.length : Int) then -1 else Qm4 t H h.many.length
noncomputable def Kh7 (t : Fm) (n : Nat) (h : Hit) : Hit := if 0 < h.depth /\ Qrz t h.name = true then h.many.getD n default else h
noncomputable def Q5p (t : Fm) (H : List Hit) (n : Nat) : List Hit := H.map (Kh7 t n)
mutual
noncomputable def fl : Fm -> List Hit -> Option Fm
 | .mk k s n c ks, H =>
  match (if k = 1 then Kk4 H (.mk k s n c ks) else none) with
  | some h => if h.depth = 0 then some h.one else none
  | none => match flL ks H with
   | none => none
   | some out => if Qbg Fm.nodes out <= 400 then some (.mk k s n c out) else none
noncomputable def flL : List Fm -> List Hit -> Option (List Fm)
  | [], _ => some []
  | t :: ts, H =>
    if Qbj t = true then flL ts H
    else if Qd7 ts = true then
      (if Qm4 t H (-1) < 0 then none
       else match Qtr (fun n => fl t (Q5p t H n)) (List.range (Qm4 t H (-1)).toNat) with
        | none => none
        | some ks => (flL ts H).map (ks ++ ·))
    else match fl t H with
      | none => none
      | some k => (flL ts H).map (k :: ·)
end
noncomputable def Qtu (p : Fm) (ls : List Fm) : List Hit :=
 (List.range (vrs ls p).length).map fun i => .mk ((vrs ls p).getD i default) ((dps ls 0 p).getD i 0) (if (dps ls 0 p).getD i 0 = 0 then (vrs ls p).getD i default else Fm.zero) []
end Go.Proofs.Shadow
namespace Go.Proofs.SA
theorem FIs.mono : ∀ (d : Nat) (f : Fm), FIs d f -> FIs (d + 1) f := by
 intro d
 induction d with
 | zero => intro f h; exact h.elim
 | succ d ih =>
  intro f h
  rcases h with h | h | h
  ·exact .inl h
  ·exact .inr (.inl h)
  ·exact .inr (.inr ⟨h.1, h.2.1, h.2.2.1, h.2.2.2.1, fun k hk => ih k (h.2.2.2.2 k hk)⟩)
theorem FIs.kid {d : Nat} {f k : Fm} (h : FIs (d + 1) f) (hk : k ∈ f.kids) : FIs d k := by
 rcases h with h | h | h
 ·have := List.length_pos_of_mem hk; omega
 ·have := List.length_pos_of_mem hk; omega
 ·exact h.2.2.2.2 k hk
theorem Qi4 {f k : Fm} (hk : k ∈ f.kids) : k.nodes + 1 <= f.nodes := by
 rw [Fm.Qa4 f]
 have := Qf9 Fm.nodes f.kids k hk
 omega
theorem Qkf (f : Fm) : 1 <= f.nodes := by rw [Fm.Qa4]; omega
theorem FV.kid {f k : Fm} (h : FV f) (hk : k ∈ f.kids) : FV k := ⟨FIs.mono _ _ (FIs.kid h.1 hk), by have := Qi4 hk; have := h.2; omega⟩
theorem Qdw : ∀ l : List Fm, l.length <= Qbg Fm.nodes l
 | [] => Nat.le_refl _
 | f :: l => by have := Qdw l; have := Qkf f; rw [Qbg, List.length_cons]; omega
theorem FIs.sz : ∀ (d : Nat) (f : Fm), FIs d f -> f.sz + 1 <= 37 * f.nodes := by
 intro d
 induction d with
 | zero => intro f h; exact h.elim
 | succ d ih =>
  intro f h
  rw [Fm.Qgf, Fm.Qa4]
  have hsum : ∀ l : List Fm, (∀ g ∈ l, FIs d g) -> Qbg Fm.sz l + l.length <= 37 * Qbg Fm.nodes l := by
   intro l
   induction l with
   | nil => intro _; exact Nat.le_refl _
   | cons g l ihl =>
    intro hg
    have h1 := ih g (hg g (List.mem_cons_self ..))
    have h2 := ihl (fun x hx => hg x (List.mem_cons_of_mem _ hx))
    simp only [Qbg, List.length_cons]
    omega
  rcases h with h | h | h
  ·obtain ⟨h1, h2, h3, h4, h5⟩ := h
   have hk : f.kids = [] := List.eq_nil_of_length_eq_zero h5
   have hn : f.name.size <= 12 := by
    rcases h2 with h2 | h2 | h2
    ·rw [h2]; decide
    ·rw [h2]; decide
    ·exact h2.2.1
   have := h4.1
   rw [hk]; simp [Qbg]; omega
  ·obtain ⟨h1, h2, h3, h4, h5, h6⟩ := h
   have hk : f.kids = [] := List.eq_nil_of_length_eq_zero h6
   rw [hk, h2, h5]
   have : (ByteArray.mk #[]).size = 0 := rfl
   simp [Qbg, this]
  ·obtain ⟨h1, h2, h3, h4, h5⟩ := h
   have := hsum f.kids h5
   rw [h2, h4]
   have : (ByteArray.mk #[]).size = 0 := rfl
   omega
theorem FV.sz {f : Fm} (h : FV f) : f.sz <= 14800 := by have := FIs.sz _ _ h.1; have := h.2; omega
theorem FV.Qse {f : Fm} (h : FV f) : f.kids.length <= 399 := by have := Qdw f.kids; have := Fm.Qa4 f; have := h.2; omega
end Go.Proofs.SA
namespace Go.Proofs.Shadow
def Kd5 (n : Int) : List Int -> List Int
 | [] => [n]
 | x :: l => if x > n then n :: x :: l else x :: Kd5 n l
def Kl4 (l : List Int) (n : Int) : List Int := if n ∈ l then l else Kd5 n l
def Q4b (l : List Int) (n : Int) : List Int := l.filter fun x => decide (x ≠ n)
def chS (sc : List Int) (s way : Int) : List Int := if way = 2 ∨ (way = 1 /\ s ∈ sc) then Q4b sc s else Kl4 sc s
mutual
def chg (s way : Int) : Fm -> Fm
 | .mk k n m sc ks => .mk k n m (if k = 1 then chS sc s way else sc) (Kl6 s way ks)
def Kl6 (s way : Int) : List Fm -> List Fm
 | [] => []
 | f :: fs => chg s way f :: Kl6 s way fs
end
theorem Q96 (s way : Int) : ∀ l, Kl6 s way l = l.map (chg s way)
 | [] => rfl
 | f :: fs => by rw [Kl6, Q96 s way fs]; rfl
theorem Q97 (s way : Int) (f : Fm) : chg s way f = .mk f.kind f.name f.num (if f.kind = 1 then chS f.sc s way else f.sc) (f.kids.map (chg s way)) := by cases f; rw [chg, Q96]; rfl
theorem Qqm (s way : Int) (f : Fm) : (chg s way f).nodes = f.nodes := by
 induction f using Fm.ind with
 | h f ih =>
  rw [Fm.Qa4, Fm.Qa4 f, Q97]
  have : ∀ l : List Fm, (∀ g ∈ l, (chg s way g).nodes = g.nodes) -> Qbg Fm.nodes (l.map (chg s way)) = Qbg Fm.nodes l := by
   intro l
   induction l with
   | nil => intro _; rfl
   | cons g l ihl => intro h; rw [List.map_cons, Qbg, Qbg, h g (List.mem_cons_self ..), ihl (fun x hx => h x (List.mem_cons_of_mem _ hx))]
  show 1 + Qbg Fm.nodes (f.kids.map (chg s way)) = _
  rw [this _ ih]
theorem Q5v (n : Int) : ∀ l, (Kd5 n l).length = l.length + 1
 | [] => rfl
 | x :: l => by unfold Kd5; split <;> simp [Q5v n l]
theorem Kgz (sc : List Int) (s way : Int) : (chS sc s way).length <= sc.length + 1 := by
 unfold chS Kl4 Q4b
 split
 ·exact Nat.le_trans (List.length_filter_le _ _) (Nat.le_succ _)
 ·split
  ·omega
  ·rw [Q5v]; omega
theorem Kjt (s way : Int) (f : Fm) : (chg s way f).sz <= f.sz + f.nodes := by
 induction f using Fm.ind with
 | h f ih =>
  rw [Fm.Qgf, Fm.Qgf f, Fm.Qa4, Q97]
  have : ∀ l : List Fm, (∀ g ∈ l, (chg s way g).sz <= g.sz + g.nodes) -> Qbg Fm.sz (l.map (chg s way)) <= Qbg Fm.sz l + Qbg Fm.nodes l := by
   intro l
   induction l with
   | nil => intro _; exact Nat.le_refl _
   | cons g l ihl =>
    intro h
    have h1 := h g (List.mem_cons_self ..)
    have h2 := ihl (fun x hx => h x (List.mem_cons_of_mem _ hx))
    simp only [List.map_cons, Qbg]; omega
  have h1 := this _ ih
  have h2 := Kgz f.sc s way
  show f.name.size + (if f.kind = 1 then chS f.sc s way else f.sc).length + (f.kids.map (chg s way)).length + Qbg Fm.sz (f.kids.map (chg s way)) <= _
  rw [List.length_map]
  split <;> omega
end Go.Proofs.Shadow
namespace Go.Proofs.Shadow
theorem Qm2 {α β : Type} (F : Nat -> List α -> Option (β ⊕ Unit)) (p : α -> Bool) (b : β) (hn : ∀ i, F i [] = some (.inr ())) : ∀ (l : List α) (i : Nat), (∀ x ∈ l, ∀ i r, F i (x :: r) = if p x = true then some (.inl b) else F (i + 1) r) -> F i l = some (if l.any p = true then .inl b else .inr ()) := by
 intro l
 induction l with
 | nil => intro i _; rw [hn]; rfl
 | cons x l ih =>
  intro i hc
  rw [hc x (List.mem_cons_self ..), List.any_cons]
  cases hp : p x
  ·rw [if_neg (by simp), ih _ (fun y hy => hc y (List.mem_cons_of_mem _ hy))]; rfl
  ·rfl
theorem Q9f {α β : Type} (F : Nat -> List α -> Option (β ⊕ Unit)) (a : List α) (p : Nat -> α -> Bool) (b : β) (hn : ∀ i, F i [] = some (.inr ())) (hc : ∀ (i : Nat) (hi : i < a.length) r, F i (a[i] :: r) = if p i a[i] = true then some (.inl b) else F (i + 1) r) :
  (F 0 a = some (.inl b) /\ ∃ i, ∃ hi : i < a.length, p i a[i] = true) ∨ (F 0 a = some (.inr ()) /\ ∀ i, ∀ hi : i < a.length, p i a[i] = false) := by
 have key : ∀ (n i : Nat), i + n = a.length -> (F i (a.drop i) = some (.inl b) /\ ∃ j, i <= j /\ ∃ hj : j < a.length, p j a[j] = true) ∨ (F i (a.drop i) = some (.inr ()) /\ ∀ j, i <= j -> ∀ hj : j < a.length, p j a[j] = false) := by
  intro n
  induction n with
  | zero => intro i hi; right; rw [show i = a.length by omega, List.drop_length]; exact ⟨hn _, fun j h1 h2 => by omega⟩
  | succ n ih =>
   intro i hi
   have hil : i < a.length := by omega
   rw [List.drop_eq_getElem_cons hil, hc i hil]
   cases hp : p i a[i]
   ·rw [if_neg (by simp)]
    rcases ih (i + 1) (by omega) with ⟨h1, j, h2, h3, h4⟩ | ⟨h1, h2⟩
    ·exact .inl ⟨h1, j, by omega, h3, h4⟩
    ·refine .inr ⟨h1, fun j hj hjl => ?_⟩
     by_cases hji : j = i
     ·subst hji; exact hp
     ·exact h2 j (by omega) hjl
   ·exact .inl ⟨rfl, i, Nat.le_refl _, hil, hp⟩
 rcases key a.length 0 (by omega) with ⟨h1, j, _, h3, h4⟩ | ⟨h1, h2⟩
 ·exact .inl ⟨h1, j, h3, h4⟩
 ·exact .inr ⟨h1, fun i hi => h2 i (Nat.zero_le _) hi⟩
theorem Kgp (l : List Int) (n : Int) : (l.any fun x => decide (x = n)) = decide (n ∈ l) := by
 induction l with
 | nil => rfl
 | cons x l ih =>
  rw [List.any_cons, ih]
  by_cases h : x = n
  ·subst h; simp
  ·have h2 : ¬ n = x := fun e => h e.symm
   simp [h, h2]
end Go.Proofs.Shadow
namespace Go.Proofs.SA
abbrev Sm (n : Nat) : Prop := n <= 1099511627776
theorem Q1x (l : List Int) (n : Int) (h : Sm l.length) : Qfv l n = some (decide (n ∈ l)) := by
 rw [Qfv, Qwi _ _ (by omega), Qm2 (Qia l n) (fun x => decide (x = n)) true (fun _ => rfl) l 0 (fun x _ i r => by
  rw [Qia, Qak, Qae]; by_cases hx : x = n <;> simp [hx, Qak]), Kgp, Qae]
 cases decide (n ∈ l) <;> rfl
theorem Q2x (a b : List Int) (h : Sm a.length) (hb : Sm b.length) : Qc7 a b = some (Keq a b) := by
 rw [Qc7, Qnv _ _ (by omega), Qm2 (Qc8 a b) (fun x => !decide (x ∈ b)) false (fun _ => rfl) a 0 (fun x _ i r => by
  rw [Qc8, Qak, Qae, Q1x _ _ hb, Qae]; rfl), Qae]
 have : Keq a b = !(a.any fun x => !decide (x ∈ b)) := by unfold Keq; rw [List.all_eq_not_any_not]
 rw [this]
 cases (a.any fun x => !decide (x ∈ b)) <;> rfl
def BS (l : List Bnd) : Prop := Sm l.length /\ ∀ b ∈ l, Sm b.sc.length
theorem Q69 (l : List Bnd) (n : Fm) (h : BS l) (hn : Sm n.sc.length) : Qi7 l n = some (Q5d n 0 l) := by
 have key : ∀ (r : List Bnd) (z : List Int) (i : Nat), (∀ b ∈ r, Sm b.sc.length) -> z.length + r.length <= 1099511627776 -> Qcq l n z i r = some (z ++ Q5d n i r) := by
  intro r
  induction r with
  | nil => intro z i _ _; rw [Qcq, Qak]; simp [Q5d]
  | cons b r ih =>
   intro z i hb hz
   simp only [List.length_cons] at hz
   have hb' := fun x hx => hb x (List.mem_cons_of_mem b hx)
   rw [Qcq, Q5d, Qak, Qae]
   by_cases hnm : b.name = n.name
   ·rw [if_pos hnm]
    simp only [Qae, Q2x _ _ (hb b (List.mem_cons_self ..)) hn, Qak]
    cases hs : Keq b.sc n.sc
    ·rw [if_neg (by simp), ih z (i + 1) hb' (by omega), if_neg (by simp)]
    ·rw [if_pos rfl, Qbb (by simp; omega), Qae, ih _ (i + 1) hb' (by simp; omega), if_pos ⟨hnm, rfl⟩, List.append_assoc]; rfl
   ·rw [if_neg hnm]
    simp only [Qak, Qae]
    rw [if_neg (by simp), ih z (i + 1) hb' (by omega), if_neg (by simp [hnm])]
 rw [Qi7, Qp7 _ _ _ (by have := h.1; omega), key l [] 0 h.2 (by have := h.1; simp; omega)]; rfl
theorem Qoz {α : Type} [Inhabited α] {l : List α} {i : Int} (h0 : 0 <= i) (h : i < l.length) : idx l i = some (l.getD i.toNat default) := by
 rw [Q3u l i h0 h, List.getD_eq_getElem?_getD, List.getElem?_eq_getElem (by omega)]; rfl
theorem Qzz (l : List Bnd) (n : Fm) (h : BS l) (hn : Sm n.sc.length) : Qjc l n = some (findF l n) := by
 have hr := Qoy n l 0
 have hlen := Q5e n l 0
 rw [Qjc, Q69 l n h hn, Qae, findF]
 have hL := h.1
 generalize hx : Q5d n 0 l = X at hr hlen
 have sm : ∀ i, Sm (Q8n l i).length := fun i => by
  unfold Q8n
  rw [List.getD_eq_getElem?_getD]
  cases hg : l[i.toNat]? with
  | none => decide
  | some b => exact h.2 b (List.mem_of_getElem? hg)
 have inner : ∀ (i : Nat) (hi : i < X.length) (r : List Int) (b : Bool) (j : Nat), (∀ k ∈ r, k ∈ X) -> Qf1 l n X (i : Int) b j r = some (b && r.all fun k => Keq (Q8n l k) (Q8n l X[i])) := by
  intro i hi r
  have h1 := hr X[i] (List.getElem_mem hi)
  induction r with
  | nil => intro b j _; rw [Qf1, Qak]; simp
  | cons k r ih =>
   intro b j hk
   have h2 := hr k (hk k (List.mem_cons_self ..))
   have hs := Q2x _ _ (sm k) (sm X[i])
   unfold Q8n at hs
   rw [Qf1, Qap X i hi]
   cases b
   ·simp only [Bool.false_eq_true, if_false, Qak, Qae]
    rw [ih _ _ (fun x hx => hk x (List.mem_cons_of_mem _ hx))]; rfl
   ·simp only [if_true, Qak, Qae, Qoz (l := l) (i := k) (by omega) (by omega), Qoz (l := l) (i := X[i]) (by omega) (by omega), hs]
    rw [ih _ _ (fun x hx => hk x (List.mem_cons_of_mem _ hx)), List.all_cons]
    unfold Q8n; simp
 have outer : ∀ (m i : Nat), i + m = X.length -> Qg9 l n X i (X.drop i) = some (match (X.drop i).find? (Kl5 l X) with | some k => Sum.inl (k, 1) | none => Sum.inr ()) := by
  intro m
  induction m with
  | zero => intro i hi; rw [show i = X.length by omega, List.drop_length]; rfl
  | succ m ihm =>
   intro i hi
   have hil : i < X.length := by omega
   rw [List.drop_eq_getElem_cons hil, Qg9, Qua _ _ _ _ _ (by omega), inner i hil X true 0 (fun _ hk => hk), Qae, List.find?_cons]
   have hb : Kl5 l X X[i] = (true && X.all fun k => Keq (Q8n l k) (Q8n l X[i])) := by rw [Bool.true_and]; rfl
   rw [hb]
   cases (true && X.all fun k => Keq (Q8n l k) (Q8n l X[i]))
   ·rw [if_neg (by simp), ihm (i + 1) (by omega)]
   ·rw [if_pos rfl, Qak, Qae]; rfl
 have := outer X.length 0 (by omega)
 rw [List.drop_zero] at this
 rw [Qt9 _ _ _ (by omega), this, Qae]
 cases hf : X.find? (Kl5 l X) with
 | some k => rfl
 | none =>
  simp only
  by_cases h0 : X.length = 0
  ·rw [if_neg (by omega), if_pos h0]; rfl
  ·rw [if_pos (by omega), if_neg h0]; rfl
theorem Kef (l : List Bnd) (a b : Fm) (h : BS l) (ha : Sm a.sc.length) (hb : Sm b.sc.length) : Qla l a b = some (Qwe l a b) := by
 rw [Qla, Qzz l a h ha, Qzz l b h hb, Qae, Qae, Qwe]
 have ra := @Qpu l a
 have rb := @Qpu l b
 have ha3 : (findF l a).2 = 0 ∨ (findF l a).2 = 1 ∨ (findF l a).2 = 2 := by
  unfold findF; split
  ·exact .inr (.inl rfl)
  ·split
   ·exact .inl rfl
   ·exact .inr (.inr rfl)
 generalize findF l a = x at *
 generalize findF l b = y at *
 obtain ⟨x1, x2⟩ := x
 obtain ⟨y1, y2⟩ := y
 simp only at ra rb ha3 ⊢
 by_cases h1 : x2 = y2
 ·subst h1
  rcases ha3 with h | h | h
  ·subst h; rfl
  ·subst h
   have q1 := ra rfl
   have q2 := rb rfl
   rw [Qak, Qae, if_neg (by simp), if_neg (by simp), Qoz (l := l) q1.1 q1.2, Qoz (l := l) q2.1 q2.2, Qae, Qae]
   rfl
  ·subst h; rfl
 ·rw [Qak, Qae, if_pos (by simp [h1]), if_pos (.inl h1)]; rfl
end Go.Proofs.SA
namespace Go.Proofs.SA
theorem Qz1 (a b : List Int) (h : Sm a.length) : Qj2 a b = some (decide (a = b)) := by
 rw [Qj2]
 by_cases hl : a.length = b.length
 ·rw [if_pos (by omega), Qt4 _ _ (by omega)]
  rcases Q9f (Qg8 a b) a (fun i x => !decide (some x = b[i]?)) false (fun _ => rfl) (fun i hi r => by
   rw [Qg8, Qak, Qae, Qap b i (by omega), Qae]
   have : b[i]? = some b[i] := List.getElem?_eq_getElem _
   by_cases hx : a[i] = b[i] <;> simp [hx, this, Qak]) with ⟨h1, i, hi, hp⟩ | ⟨h1, hp⟩
  ·rw [h1, Qae, decide_eq_false]; rfl
   rintro rfl
   simp at hp
  ·rw [h1, Qae, decide_eq_true]; rfl
   apply List.ext_getElem?
   intro i
   by_cases hi : i < a.length
   ·have := hp i hi
    rw [List.getElem?_eq_getElem hi]; simpa using this
   ·rw [List.getElem?_eq_none (by omega), List.getElem?_eq_none (by omega)]
 ·rw [if_neg (by omega), decide_eq_false (fun h => hl (by rw [h]))]; rfl
def bOk (b : Bnd) : Prop := NV b.name /\ SV b.sc /\ 1 <= b.id /\ b.id <= 999
def bEq (a b : Bnd) : Prop := a.name = b.name /\ a.sc = b.sc
def BV (l : List Bnd) : Prop := l.length <= 60 /\ (∀ b ∈ l, bOk b) /\ l.Pairwise fun a b => ¬ bEq a b
theorem SV.len {l : List Int} (h : SV l) : l.length <= 24 := h.1
theorem BV.bs {l : List Bnd} (h : BV l) : BS l := ⟨by have := h.1; unfold Sm; omega, fun b hb => by have := (h.2.1 b hb).2.1.len; unfold Sm; omega⟩
theorem bv1 {l : List Bnd} (hs : BS l) {j : Nat} (hj : j < l.length) : ∀ (n k : Nat), k + n = j -> Tot (Qcm l j k) fun o => match o with | .inl r => r = false /\ ∃ k', ∃ h : k' < j, bEq l[k'] l[j] | .inr _ => ∀ k', k <= k' -> ∀ h : k' < j, ¬ bEq l[k'] l[j] := by
 intro n
 induction n with
 | zero => intro k hk; rw [Qcm, if_neg (by omega)]; exact ⟨_, rfl, fun k' h1 h2 => by omega⟩
 | succ n ih =>
  intro k hk
  rw [Qcm, if_pos (by omega), Qap l k (by omega), Qap l j hj]
  simp only [Qae]
  have w := Qar (i := k) (by have := hs.1; unfold Sm at this; omega)
  have hi := Qz1 l[k].sc l[j].sc (hs.2 _ (List.getElem_mem _))
  by_cases h1 : l[k].name = l[j].name
  ·rw [if_pos h1]
   simp only [hi, Qak, Qae, w]
   by_cases h2 : l[k].sc = l[j].sc
   ·rw [if_pos (by simp [h2])]; exact ⟨_, rfl, rfl, k, by omega, h1, h2⟩
   ·rw [if_neg (by simp [h2])]
    refine (ih (k + 1) (by omega)).mono fun o ho => ?_
    cases o with
    | inl r => exact ho
    | inr u =>
     exact fun k' h3 h4 => by
      by_cases hk' : k' = k
      ·subst hk'; exact fun h5 => h2 h5.2
      ·exact ho k' (by omega) h4
  ·rw [if_neg h1]
   simp only [Qak, Qae, w, Bool.false_eq_true, if_false]
   refine (ih (k + 1) (by omega)).mono fun o ho => ?_
   cases o with
   | inl r => exact ho
   | inr u =>
    exact fun k' h3 h4 => by
     by_cases hk' : k' = k
     ·subst hk'; exact fun h5 => h1 h5.1
     ·exact ho k' (by omega) h4
theorem bv0 {l : List Bnd} (hs : BS l) : ∀ (n j : Nat), j + n = 61 -> Tot (Qcl l j) fun o => match o with | .inl r => r = false /\ ∃ j', ∃ h : j' < l.length, ¬ (bOk l[j'] /\ ∀ k', ∀ h2 : k' < j', ¬ bEq l[k'] l[j']) | .inr _ => ∀ j', j <= j' -> j' <= 60 -> ∀ h : j' < l.length, bOk l[j'] /\ ∀ k', ∀ h2 : k' < j', ¬ bEq l[k'] l[j'] := by
 intro n
 induction n with
 | zero => intro j hj; rw [Qcl, Qak, Qae, if_neg (by simp; omega)]; exact ⟨_, rfl, fun j' h1 h2 => by omega⟩
 | succ n ih =>
  intro j hj
  rw [Qcl, Qak, Qae]
  by_cases hjl : j < l.length
  rotate_left
  ·rw [if_neg (by simp; omega)]; exact ⟨_, rfl, fun j' h1 h2 h3 => by omega⟩
  rw [if_pos (by simp; omega), Qap l j hjl]
  simp only [Qae]
  refine Tot.bind (Q3x _) fun b1 hb1 => ?_
  have bad : ¬ bOk l[j] -> Tot (pure (Sum.inl false) : Option (Bool ⊕ Unit)) fun o => match o with | .inl r => r = false /\ ∃ j', ∃ h : j' < l.length, ¬ (bOk l[j'] /\ ∀ k', ∀ h2 : k' < j', ¬ bEq l[k'] l[j']) | .inr _ => ∀ j', j <= j' -> j' <= 60 -> ∀ h : j' < l.length, bOk l[j'] /\ ∀ k', ∀ h2 : k' < j', ¬ bEq l[k'] l[j'] := fun h => ⟨_, rfl, rfl, j, hjl, fun h2 => h h2.1⟩
  cases b1
  ·simp only [Bool.not_false, if_true, Qak, Qae]
   exact bad fun h => by have := hb1.2 h.1; cases this
  simp only [Bool.not_true, Bool.false_eq_true, if_false]
  obtain ⟨b2, e2, hb2⟩ := Kb3 l[j].sc
  rw [e2]
  simp only [Qak, Qae]
  cases b2
  ·simp only [Bool.not_false, if_true, Qak, Qae]
   exact bad fun h => by have := hb2.2 h.2.1; cases this
  simp only [Bool.not_true, Bool.false_eq_true, if_false, Qak, Qae]
  by_cases h3 : l[j].id < 1
  ·simp only [h3, decide_true, if_true, Qak, Qae]
   exact bad fun h => by have := h.2.2.1; omega
  simp only [h3, decide_false, Bool.false_eq_true, if_false, Qak, Qae]
  by_cases h4 : l[j].id > 999
  ·simp only [h4, decide_true, if_true]
   exact bad fun h => by have := h.2.2.2; omega
  simp only [h4, decide_false, Bool.false_eq_true, if_false]
  have hok : bOk l[j] := ⟨hb1.1 rfl, hb2.1 rfl, by omega, by omega⟩
  refine Tot.bind (bv1 hs hjl j 0 (by omega)) fun o ho => ?_
  cases o with
  | inl r => exact ⟨_, rfl, ho.1, j, hjl, fun h => by obtain ⟨k', h5, h6⟩ := ho.2; exact h.2 k' h5 h6⟩
  | inr u =>
   simp only [Qar (i := j) (by omega)]
   refine (ih (j + 1) (by omega)).mono fun o ho2 => ?_
   cases o with
   | inl r => exact ho2
   | inr u =>
    exact fun j' h5 h6 h7 => by
     by_cases hj' : j' = j
     ·subst hj'; exact ⟨hok, fun k' h8 => ho k' (Nat.zero_le _) h8⟩
     ·exact ho2 j' (by omega) h6 h7
theorem Qkz {l : List Bnd} (hs : BS l) : Tot (Qfy l) fun b => b = true ↔ BV l := by
 rw [Qfy]
 refine Tot.bind (bv0 hs 61 0 (by omega)) fun o ho => ?_
 cases o with
 | inl r =>
  obtain ⟨h0, j, hj, hn⟩ := ho
  subst h0
  refine ⟨_, rfl, fun h => (by cases h), fun h => absurd ⟨h.2.1 _ (List.getElem_mem hj), fun k' h2 => ?_⟩ hn⟩
  exact List.pairwise_iff_getElem.1 h.2.2 k' j (by omega) hj h2
 | inr u =>
  refine ⟨_, rfl, ?_⟩
  simp only [decide_eq_true_iff]
  constructor
  ·intro hl
   refine ⟨by omega, fun b hb => ?_, List.pairwise_iff_getElem.2 fun i j hi hj hij => (ho j (Nat.zero_le _) (by omega) hj).2 i hij⟩
   obtain ⟨i, hi, rfl⟩ := List.mem_iff_getElem.1 hb
   exact (ho i (Nat.zero_le _) (by omega) hi).1
  ·intro h; have := h.1; omega
theorem Q5j {f : Fm} (hf : f.sz < 1000000000) : Tot (Qmu f) fun b => b = true ↔ f.kind = 1 /\ FV f := by
 rw [Qmu]
 by_cases h : f.kind = 1
 ·rw [if_pos h]
  refine Tot.bind (Tot.bind (Qja hf) fun b hb => ⟨b, rfl, hb⟩) fun b hb => ⟨b, rfl, ?_⟩
  simp only [hb, h, true_and]
 ·rw [if_neg h]
  refine ⟨false, rfl, ?_⟩
  simp [h]
theorem Kc8 (l : List Bnd) (h : BS l) (h2 : l.length <= 1000000) : Qi6 l = some l := by
 rw [Qi6, Qp6 _ _ (by omega), Qis (Qet l) id (fun _ _ => rfl) l [] 0 (fun x hx z i r hz => by
  have := h.2 x hx
  unfold Sm at this
  rw [Qet, Qak, Qae, Qbb (by simp; omega), Qae, Qbb (by simp; omega), Qae]; rfl) (by simp; omega)]
 simp [Qae, Qak]
theorem Q03 {l : List Bnd} (hs : BS l) (h2 : l.length <= 1000000) {f : Fm} (hf : f.sz < 1000000000) (id : Int) : Tot (Qkg l f id) fun r => (r.2 = true /\ r.1 = l ++ [⟨f.name, f.sc, id⟩] /\ f.kind = 1 /\ FV f /\ BV l /\ BV (l ++ [⟨f.name, f.sc, id⟩])) ∨ (r.2 = false /\ r.1 = [] /\ ¬ (f.kind = 1 /\ FV f /\ BV l /\ BV (l ++ [⟨f.name, f.sc, id⟩]))) := by
 have hz := Fm.Q2p f
 rw [Qkg]
 refine Tot.bind (Qkz hs) fun b hb => ?_
 cases b
 ·simp only [Bool.not_false, if_true, Qak, Qae]
  exact ⟨_, rfl, .inr ⟨rfl, rfl, fun h => by have := hb.2 h.2.2.1; cases this⟩⟩
 simp only [Bool.not_true, Bool.false_eq_true, if_false]
 obtain ⟨b2, e2, hb2⟩ := Q5j hf
 rw [e2]
 simp only [Qak, Qae]
 cases b2
 ·simp only [Bool.not_false, if_true]
  exact ⟨_, rfl, .inr ⟨rfl, rfl, fun h => by have := hb2.2 ⟨h.1, h.2.1⟩; cases this⟩⟩
 simp only [Bool.not_true, Bool.false_eq_true, if_false]
 rw [Kc8 l hs h2, Qae, Qbb (by simp; omega), Qae, Qbb (by simp; omega), Qae]
 simp only [List.nil_append]
 have hs' : BS (l ++ [⟨f.name, f.sc, id⟩]) := ⟨by simp only [List.length_append, List.length_cons, List.length_nil]; unfold Sm; omega, fun b hb => by
  rcases List.mem_append.1 hb with h | h
  ·exact hs.2 b h
  ·rw [List.mem_singleton.1 h]; show f.sc.length <= _; omega⟩
 obtain ⟨b3, e3, hb3⟩ := Qkz hs'
 rw [e3, Qae]
 cases b3
 ·simp only [Bool.not_false, if_true]
  exact ⟨_, rfl, .inr ⟨rfl, rfl, fun h => by have := hb3.2 h.2.2.2; cases this⟩⟩
 ·simp only [Bool.not_true, Bool.false_eq_true, if_false]
  exact ⟨_, rfl, .inl ⟨rfl, rfl, (hb2.1 rfl).1, (hb2.1 rfl).2, hb.1 rfl, hb3.1 rfl⟩⟩
theorem Q53 (l : List Int) (n : Int) (h : l.length <= 1000000) : Qj3 l n = some (Q4b l n) := by
 have key : ∀ (r z : List Int) (i : Nat), z.length + r.length <= 1000000 -> Qek l n z i r = some (z ++ Q4b r n) := by
  intro r
  induction r with
  | nil => intro z i _; rw [Qek, Qak]; simp [Q4b]
  | cons x r ih =>
   intro z i hz
   simp only [List.length_cons] at hz
   rw [Qek, Qak, Qae]
   by_cases hx : x = n
   ·rw [if_pos hx, ih _ _ (by omega)]; simp [Q4b, hx]
   ·rw [if_neg hx, Qae, Qbb (by simp; omega), Qae, ih _ _ (by simp; omega)]; simp [Q4b, hx]
 rw [Qj3, Qt8 _ _ _ (by omega), key l [] 0 (by simp; omega)]; rfl
theorem Kbl (l : List Int) (n : Int) (h : l.length <= 1000000) : Qkw l n = some (Kl4 l n) := by
 have key : ∀ (r z : List Int) (b : Bool) (i : Nat), z.length + r.length + (if b = true then 0 else 1) <= 1000002 -> Qgy l n z b i r = some (if b = true then (z ++ r, true) else if r.any (fun x => decide (x > n)) = true then (z ++ Kd5 n r, true) else (z ++ r, false)) := by
  intro r
  induction r with
  | nil => intro z b i _; rw [Qgy, Qak]; cases b <;> simp
  | cons x r ih =>
   intro z b i hz
   simp only [List.length_cons] at hz
   rw [Qgy]
   cases b
   ·rw [if_neg (by simp)] at hz
    simp only [Bool.not_false, if_true, Qak, Qae, Bool.false_eq_true, if_false, List.any_cons, Bool.or_eq_true, decide_eq_true_eq]
    by_cases hx : x > n
    ·rw [if_pos hx, Qbb (by simp only [List.length_append, List.length_cons, List.length_nil]; omega)]
     simp only [Qae]
     rw [Qbb (by simp; omega)]
     simp only [Qae]
     rw [ih _ true _ (by simp; omega), if_pos rfl, if_pos (.inl hx), Kd5, if_pos hx]
     simp
    ·rw [if_neg hx]
     simp only [Qae]
     rw [Qbb (by simp; omega)]
     simp only [Qae]
     rw [ih _ false _ (by simp; omega), if_neg (by simp), Kd5, if_neg hx]
     have e : (x > n ∨ (r.any fun x => decide (x > n)) = true) ↔ (r.any fun x => decide (x > n)) = true := by simp [hx]
     simp only [List.append_assoc, List.singleton_append]
     by_cases hr : (r.any fun x => decide (x > n)) = true
     ·rw [if_pos hr, if_pos (e.2 hr)]
     ·rw [if_neg hr, if_neg (fun h => hr (e.1 h))]
   ·rw [if_pos rfl] at hz
    simp only [Bool.not_true, Bool.false_eq_true, if_false, Qak, Qae, if_true]
    rw [Qbb (by simp; omega)]
    simp only [Qae]
    rw [ih _ true _ (by simp; omega), if_pos rfl]
    simp
 have tail : ∀ r : List Int, (r.any fun x => decide (x > n)) = false -> Kd5 n r = r ++ [n] := by
  intro r
  induction r with
  | nil => intro _; rfl
  | cons x r ih =>
   intro hr
   rw [List.any_cons, Bool.or_eq_false_iff] at hr
   rw [Kd5, if_neg (by simpa using hr.1), ih hr.2]; rfl
 rw [Qkw, Q1x _ _ (by unfold Sm; omega), Qae, Qwj _ _ _ _ (by omega), key l [] _ 0 (by simp only [List.length_nil]; split <;> omega), Qae, Kl4]
 by_cases hm : n ∈ l
 ·simp [hm, Qak]
 ·simp only [hm, decide_false, Bool.false_eq_true, if_false, List.nil_append]
  by_cases hr : (l.any fun x => decide (x > n)) = true
  ·rw [if_pos hr]; rfl
  ·rw [if_neg hr]
   simp only [Bool.not_false, if_true]
   rw [Qbb (by simp; omega), tail l (by simpa using hr)]; rfl
theorem Qk0 (s w : Int) : ∀ f : Fm, f.sz <= 1000000 -> Qbt f s w = some (chg s w f) := by
 intro f
 induction f using Fm.ind with
 | h f ih =>
  intro hf
  have hz := Fm.Qgf f
  have hS : (if f.kind = 1 then
   (((if w = 2 then pure true else ((if w = 1 then (Qfv f.sc s >>= fun x32 => pure x32) else pure false : Option Bool) >>= fun x33 => pure x33) : Option Bool)) >>= fun x34 =>
    if x34 = true then (Qj3 f.sc s >>= fun x38 => pure x38) else (Qkw f.sc s >>= fun x43 => pure x43)) else pure f.sc : Option (List Int)) = some (if f.kind = 1 then chS f.sc s w else f.sc) := by
   by_cases h1 : f.kind = 1
   ·rw [if_pos h1, if_pos h1, chS]
    by_cases h2 : w = 2
    ·simp [h2, Qak, Qae, Q53 f.sc s (by omega)]
    ·by_cases h3 : w = 1
     ·subst h3
      simp only [h2, if_false, if_true, Q1x _ _ (show Sm f.sc.length by unfold Sm; omega), Qak, Qae, false_or, true_and]
      by_cases h4 : s ∈ f.sc
      ·simp [h4, Q53 f.sc s (by omega), Qae]
      ·simp [h4, Kbl f.sc s (by omega), Qae]
     ·simp [h2, h3, Qak, Qae, Kbl f.sc s (by omega)]
   ·rw [if_neg h1, if_neg h1]; rfl
  rw [Qbt, Qbb (by simp; omega), Qae, List.nil_append, hS, Qae, Qq9 _ _ _ _ _ (by omega),
   Qis (Qfu f s w _) (chg s w) (fun _ _ => rfl) f.kids [] 0 (fun x hx z i r hzb => by
    have := Fm.Qh3 hx
    rw [Qfu, Qak, Qae, ih x hx (by omega), Qae, Qbb (by simp; omega), Qae]) (by simp; omega), Qae, Q97]
  simp [Qak]
end Go.Proofs.SA
open Go.IntKind (i64)
namespace Go.Proofs.SA
theorem Fm.ext_iff {a b : Fm} : a = b ↔ a.kind = b.kind /\ a.name = b.name /\ a.num = b.num /\ a.sc = b.sc /\ a.kids = b.kids := by
 cases a; cases b; simp [Fm.kind, Fm.name, Fm.num, Fm.sc, Fm.kids]
theorem Qo3 : ∀ a : Fm, a.sz <= 1000000 -> ∀ b : Fm, Qbs a b = some (decide (a = b)) := by
 intro a
 induction a using Fm.ind with
 | h a ih =>
  intro ha b
  have hz := Fm.Qgf a
  have hd : ∀ (P : Prop) [Decidable P], (a = b ↔ P) -> decide (a = b) = decide P := fun P _ h => by simp only [h]
  rw [Qbs]
  by_cases h1 : a.kind = b.kind
  rotate_left
  ·rw [decide_eq_false (fun h => h1 (Fm.ext_iff.1 h).1)]; simp [h1, Qak, Qae]
  by_cases h2 : a.name = b.name
  rotate_left
  ·rw [decide_eq_false (fun h => h2 (Fm.ext_iff.1 h).2.1)]; simp [h1, h2, Qak, Qae]
  by_cases h3 : a.num = b.num
  rotate_left
  ·rw [decide_eq_false (fun h => h3 (Fm.ext_iff.1 h).2.2.1)]; simp [h1, h2, h3, Qak, Qae]
  by_cases h4 : a.sc = b.sc
  rotate_left
  ·rw [decide_eq_false (fun h => h4 (Fm.ext_iff.1 h).2.2.2.1)]; simp [h1, h2, h3, h4, Qak, Qae, Qz1 a.sc b.sc (by unfold Sm; omega)]
  by_cases h5 : a.kids.length = b.kids.length
  rotate_left
  ·rw [show decide (a = b) = false from decide_eq_false (fun h => h5 (by rw [h]))]
   have : ¬ (a.kids.length : Int) = (b.kids.length : Int) := by omega
   simp [h1, h2, h3, h4, h5, this, Qak, Qae, Qz1 b.sc b.sc (by rw [← h4]; unfold Sm; omega)]
  have h6 : (a.kids.length : Int) = (b.kids.length : Int) := by omega
  simp only [h1, h2, h3, h4, h6, decide_true, Bool.not_true, Bool.or_false, Qak, Qae, Bool.false_eq_true, if_false, Qz1 b.sc b.sc (show Sm b.sc.length by rw [← h4]; unfold Sm; omega)]
  rw [Qq5 _ _ (by omega)]
  rcases Q9f (Qft a b) a.kids (fun i x => !decide (some x = b.kids[i]?)) false (fun _ => rfl) (fun i hi r => by
   have hm : a.kids[i] ∈ a.kids := List.getElem_mem hi
   have := Fm.Qh3 hm
   rw [Qft, Qak, Qae, Qap b.kids i (by omega), Qae, ih _ hm (by omega), Qae]
   have hg : b.kids[i]? = some (b.kids[i]'(by omega)) := List.getElem?_eq_getElem _
   rw [hg]
   simp only [Option.some.injEq]
   by_cases hx : a.kids[i] = b.kids[i] <;> simp [hx, Qak]) with ⟨h7, i, hi, hp⟩ | ⟨h7, hp⟩
  ·have e : decide (a = b) = false := decide_eq_false (fun h => by
    have h8 : some a.kids[i] = b.kids[i]? := by rw [← h]; exact (List.getElem?_eq_getElem hi).symm
    rw [decide_eq_true h8] at hp
    cases hp)
   rw [h7, e]; rfl
  ·have e : decide (a = b) = true := decide_eq_true ?_
   ·rw [h7, e]; rfl
   refine Fm.ext_iff.2 ⟨h1, h2, h3, h4, List.ext_getElem? fun i => ?_⟩
   by_cases hi : i < a.kids.length
   ·have := hp i hi
    rw [List.getElem?_eq_getElem hi]; simpa using this
   ·rw [List.getElem?_eq_none (by omega), List.getElem?_eq_none (by omega)]
def FS (l : List Fm) : Prop := Sm l.length /\ ∀ f ∈ l, f.sz <= 1000000
theorem Q5i (l : List Fm) (f : Fm) (h : FS l) : Qju l f = some (decide (f ∈ l)) := by
 have : ∀ l : List Fm, (l.any fun x => decide (x = f)) = decide (f ∈ l) := by
  intro l
  induction l with
  | nil => rfl
  | cons x l ih =>
   rw [List.any_cons, ih]
   by_cases h : x = f
   ·subst h; simp
   ·have h2 : ¬ f = x := fun e => h e.symm
    simp [h, h2]
 rw [Qju, Qx9 _ _ (by have := h.1; omega), Qm2 (Qiu l f) (fun x => decide (x = f)) true (fun _ => rfl) l 0 (fun x hx i r => by
  rw [Qiu, Qak, Qae, Qo3 x (h.2 x hx), Qae]; rfl), this, Qae]
 cases decide (f ∈ l) <;> rfl
theorem Ql5 (f : Fm) : Qbf f = some (Qbj f) := rfl
def Q8p (l : List Fm) : Prop := l.length < 10 /\ (∀ x ∈ l, x.kind = 1 /\ FV x /\ x.name ≠ Qql /\ x.name ≠ Q1b) /\ l.Nodup
theorem Qo2 {α : Type} {l : List α} : l.Nodup ↔ ∀ i, ∀ h : i < l.length, l[i] ∉ l.take i := by
 rw [List.Nodup, List.pairwise_iff_getElem]
 constructor
 ·intro h i hi hm
  obtain ⟨j, hj, e⟩ := List.mem_iff_getElem.1 hm
  rw [List.length_take] at hj
  rw [List.getElem_take] at e
  exact h j i (by omega) hi (by omega) e
 ·intro h i j hi hj hij e
  refine h j hj (List.mem_iff_getElem.2 ⟨i, by rw [List.length_take]; omega, ?_⟩)
  rw [List.getElem_take]; exact e
theorem Q13 {α : Type} (l : List α) (i : Nat) (h : i <= l.length) : Qy4 l 0 (i : Int) = some (l.take i) := by
 unfold Qy4
 rw [if_pos ⟨by omega, by omega, by omega⟩]
 simp
theorem Km4 {l : List Fm} (hs : FS l) : ∀ (n i : Nat), i + n = 10 -> Tot (Qcr l i) fun o => match o with
  | .inl r => r = false /\ ∃ j, ∃ h : j < l.length, ¬ ((l[j].kind = 1 /\ FV l[j] /\ l[j].name ≠ Qql /\ l[j].name ≠ Q1b) /\ l[j] ∉ l.take j)
  | .inr _ => ∀ j, i <= j -> j < 10 -> ∀ h : j < l.length, (l[j].kind = 1 /\ FV l[j] /\ l[j].name ≠ Qql /\ l[j].name ≠ Q1b) /\ l[j] ∉ l.take j := by
 intro n
 induction n with
 | zero => intro i hi; rw [Qcr, Qak, Qae, if_neg (by simp; omega)]; exact ⟨_, rfl, fun j h1 h2 => by omega⟩
 | succ n ih =>
  intro i hi
  rw [Qcr, Qak, Qae]
  by_cases hil : i < l.length
  rotate_left
  ·rw [if_neg (by simp; omega)]; exact ⟨_, rfl, fun j h1 h2 h3 => by omega⟩
  rw [if_pos (by simp; omega), Qap l i hil]
  simp only [Qae]
  have hm : l[i] ∈ l := List.getElem_mem hil
  have bad : ¬ ((l[i].kind = 1 /\ FV l[i] /\ l[i].name ≠ Qql /\ l[i].name ≠ Q1b) /\ l[i] ∉ l.take i) -> Tot (pure (Sum.inl false) : Option (Bool ⊕ Unit)) fun o => match o with
   | .inl r => r = false /\ ∃ j, ∃ h : j < l.length, ¬ ((l[j].kind = 1 /\ FV l[j] /\ l[j].name ≠ Qql /\ l[j].name ≠ Q1b) /\ l[j] ∉ l.take j)
   | .inr _ => ∀ j, i <= j -> j < 10 -> ∀ h : j < l.length, (l[j].kind = 1 /\ FV l[j] /\ l[j].name ≠ Qql /\ l[j].name ≠ Q1b) /\ l[j] ∉ l.take j := fun h => ⟨_, rfl, rfl, i, hil, h⟩
  obtain ⟨b1, e1, hb1⟩ := Q5j (f := l[i]) (by have := hs.2 _ hm; omega)
  rw [e1, Qae]
  cases b1
  ·simp only [Bool.not_false, if_true, Qak, Qae]
   exact bad fun h => by have := hb1.2 ⟨h.1.1, h.1.2.1⟩; cases this
  simp only [Bool.not_true, Bool.false_eq_true, if_false, Qak, Qae]
  have hb := hb1.1 rfl
  by_cases h2 : l[i].name = Qql
  ·have h2' := h2
   unfold Qql at h2'
   simp only [h2', decide_true, if_true, Qak, Qae]
   exact bad fun h => h.1.2.2.1 h2
  have h2' := h2
  unfold Qql at h2'
  simp only [h2', decide_false, Bool.false_eq_true, if_false, Qak, Qae]
  by_cases h3 : l[i].name = Q1b
  ·have h3' := h3
   unfold Q1b at h3'
   simp only [h3', decide_true, if_true, Qak, Qae]
   exact bad fun h => h.1.2.2.2 h3
  have h3' := h3
  unfold Q1b at h3'
  simp only [h3', decide_false, Bool.false_eq_true, if_false, Qak, Qae, Q13 l i (by omega)]
  rw [Q5i (l.take i) l[i] ⟨by have := hs.1; unfold Sm at *; rw [List.length_take]; omega, fun f hf => hs.2 f (List.mem_of_mem_take hf)⟩, Qae]
  simp only [Qae]
  by_cases h4 : l[i] ∈ l.take i
  ·simp only [h4, decide_true, if_true]
   exact bad fun h => h.2 h4
  simp only [h4, decide_false, Bool.false_eq_true, if_false, Qar (i := i) (by omega)]
  refine (ih (i + 1) (by omega)).mono fun o ho => ?_
  cases o with
  | inl r => exact ho
  | inr u =>
   exact fun j h5 h6 h7 => by
    by_cases hj : j = i
    ·subst hj; exact ⟨⟨hb.1, hb.2, h2, h3⟩, h4⟩
    ·exact ho j (by omega) h6 h7
theorem Qq0 {l : List Fm} (hs : FS l) : Tot (Qhb l) fun b => b = true ↔ Q8p l := by
 rw [Qhb]
 refine Tot.bind (Km4 hs 10 0 (by omega)) fun o ho => ?_
 cases o with
 | inl r =>
  obtain ⟨h0, j, hj, hn⟩ := ho
  subst h0
  exact ⟨_, rfl, fun h => (by cases h), fun h => absurd ⟨h.2.1 _ (List.getElem_mem hj), Qo2.1 h.2.2 j hj⟩ hn⟩
 | inr u =>
  refine ⟨_, rfl, ?_⟩
  simp only [decide_eq_true_iff]
  constructor
  ·intro hl
   refine ⟨by omega, fun b hb => ?_, Qo2.2 fun i hi => (ho i (Nat.zero_le _) (by omega) hi).2⟩
   obtain ⟨i, hi, rfl⟩ := List.mem_iff_getElem.1 hb
   exact (ho i (Nat.zero_le _) (by omega) hi).1
  ·intro h; have := h.1; omega
theorem Kbv : ∀ p : Fm, p.sz <= 1000000 -> Qhn p = some (Kbt p) := by
 intro p
 induction p using Fm.ind with
 | h p ih =>
  intro hp
  have hz := Fm.Qgf p
  have loop : ∀ (r : List Fm) (i : Nat) (n : Nat) (b : Bool), p.kids.drop i = r -> n <= i -> (b = true ↔ i = 0 ∨ ∃ h : i - 1 < p.kids.length, 0 < i /\ Qbj p.kids[i - 1] = true) ->
    Tot (Qew p (n : Int) i r) fun o => match o with | .inl r' => r' = false /\ Q38 b n r = false | .inr m => decide (m <= 1) = Q38 b n r := by
   intro r
   induction r with
   | nil => intro i n b _ _ _; exact ⟨_, rfl, by rw [Q38]; by_cases h : n <= 1 <;> simp [h] <;> omega⟩
   | cons f r ihr =>
    intro i n b hd hn hb
    have hi : i < p.kids.length := by
     rcases Nat.lt_or_ge i p.kids.length with h | h
     ·exact h
     ·rw [List.drop_of_length_le h] at hd; cases hd
    rw [List.drop_eq_getElem_cons hi] at hd
    injection hd with e1 e2
    have hm : f ∈ p.kids := e1 ▸ List.getElem_mem hi
    rw [Qew, Q38, Qak, Qae, Ql5, Qae]
    have hb2 : ∀ b', b' = Qbj f -> (b' = true ↔ i + 1 = 0 ∨ ∃ h : i + 1 - 1 < p.kids.length, 0 < i + 1 /\ Qbj p.kids[i + 1 - 1] = true) := by
     rintro b' rfl
     simp only [Nat.add_sub_cancel]
     constructor
     ·intro h; exact .inr ⟨hi, by omega, by rw [e1]; exact h⟩
     ·rintro (h | ⟨_, _, h⟩)
      ·omega
      ·rw [e1] at h; exact h
    cases hf : Qbj f
    ·simp only [Bool.false_eq_true, if_false]
     have hk := Fm.Qh3 hm
     rw [Qae, ih f hm (by omega), Qae]
     cases hs : Kbt f
     ·simp only [Bool.not_false, if_true, Bool.false_eq_true, if_false]; exact ⟨_, rfl, by simp⟩
     ·simp only [Bool.not_true, Bool.false_eq_true, if_false, if_true]
      exact ihr (i + 1) n false e2 (by omega) (hb2 false hf.symm)
    ·simp only [if_true]
     by_cases hi0 : i = 0
     ·subst hi0
      have : b = true := hb.2 (.inl rfl)
      subst this
      simp only [Int.ofNat_zero, if_true, Qak, Qae]
      exact ⟨_, rfl, by simp⟩
     ·rw [if_neg (by omega), show i64.wrap ((i : Int) - 1) = ((i - 1 : Nat) : Int) by rw [Qa8 (by omega) (by omega)]; omega, Qap _ _ (by omega)]
      simp only [Qae, Ql5, Qak]
      cases hpd : Qbj p.kids[i - 1]
      ·have : b = false := by
        cases b with
        | false => rfl
        | true =>
         rcases hb.1 rfl with h | ⟨_, _, h⟩
         ·exact absurd h hi0
         ·rw [h] at hpd; cases hpd
       subst this
       simp only [Bool.false_eq_true, if_false]
       have hw : i64.wrap ((n : Int) + 1) = ((n + 1 : Nat) : Int) := Qar (by omega)
       rw [hw]
       exact ihr (i + 1) (n + 1) true e2 (by omega) (hb2 true hf.symm)
      ·have : b = true := hb.2 (.inr ⟨by omega, by omega, hpd⟩)
       subst this
       simp only [if_true]
       exact ⟨_, rfl, by simp⟩
  rw [Qhn, Q0f, Ql5, Qae]
  cases hd : Qbj p
  ·simp only [Bool.false_eq_true, if_false]
   rw [Qs1 _ _ (by omega)]
   obtain ⟨o, ho, hp⟩ := loop p.kids 0 0 true (List.drop_zero ..) (Nat.le_refl _) ⟨fun _ => .inl rfl, fun _ => rfl⟩
   rw [show ((0 : Nat) : Int) = 0 from rfl] at ho
   rw [ho, Qae]
   cases o with
   | inl r => rw [hp.1, hp.2]; rfl
   | inr m => rw [← hp]; rfl
  ·rfl
end Go.Proofs.SA
