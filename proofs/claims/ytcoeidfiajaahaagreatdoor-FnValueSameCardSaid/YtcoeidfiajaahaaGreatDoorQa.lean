/- The frame of the exact laws, over forms: sizes, copies, comparisons. -/
import Derived.Test.YtcoeidfiajaahaaGreatDoorvsL
import Derived.Test.YtcoeidfiajaahaaGreatDoorFmA
import Derived.Test.YtcoeidfiajaahaaGreatDoorGv
import Derived.Laws.BitsAllLaws
import Derived.Lib.Bytealg
import Derived.Test.YtcoeidfiajaahaaGreatDoorPa
import Derived.Test.YtcoeidfiajaahaaGreatDoorvsD
import Derived.Test.YtcoeidfiajaahaaGreatDoorFmH
set_option linter.unusedVariables false
set_option linter.unusedSimpArgs false
set_option maxRecDepth 100000
open Go Go.Proofs Go.Proofs.Shadow
namespace Go.Proofs.Shadow
theorem Fm.Q2p (f : Fm) : f.name.size <= f.sz /\ f.sc.length <= f.sz /\ f.kids.length <= f.sz := by rw [Fm.Qgf]; omega
end Go.Proofs.Shadow
namespace Go.Proofs.SA
end Go.Proofs.SA
open Go.IntKind (i64)
namespace Go.Proofs.Shadow
def bs (l : List UInt8) : ByteArray := ⟨l.toArray⟩
theorem Qgd (l : List UInt8) : (bs l).size = l.length := by simp [bs, ByteArray.size]
theorem Qny (a b : List UInt8) : bs a ++ bs b = bs (a ++ b) := by
 apply ByteArray.ext
 rw [ByteArray.data_append]
 simp [bs]
theorem Q93 (s : ByteArray) : bs s.data.toList = s := by cases s; rfl
theorem Q8o {a : Int} (h1 : 0 <= a) (h2 : a < 256) : IntKind.wrap .u8 a = a := by
 rw [IntKind.wrap_u8']; omega
theorem Qy6 {u : Nat} (h : u < 10000000000000000000) : Lib.nDigits u <= 19 := by
 rcases Nat.lt_or_ge 19 (Lib.nDigits u) with h1 | h1
 ·exfalso
  have : ∀ k u : Nat, k + 1 <= Lib.nDigits u -> 10 ^ k <= u ∨ k = 0 := by
   intro k
   induction k with
   | zero => intro u _; exact .inr rfl
   | succ k ih =>
    intro u hu
    left
    by_cases h10 : u < 10
    ·rw [Lib.nDigits_small h10] at hu; omega
    ·rw [Lib.nDigits_big h10] at hu
     rcases ih (u / 10) (by omega) with h2 | h2
     ·rw [Nat.pow_succ]; omega
     ·subst h2; simp; omega
  rcases this 19 u h1 with h2 | h2
  ·omega
  ·cases h2
 ·exact h1
theorem Q3n {u : Nat} (h : u < 10000000000000000000) : (Lib.decDigits u).length <= 19 := by rw [Lib.decDigits_length]; exact Qy6 h
theorem Qqz {n : Int} (h0 : -9223372036854775808 <= n) (h1 : n <= 9223372036854775807) : (Lib.itoa n).length <= 20 := by
 unfold Lib.itoa
 split
 ·have := Q3n (u := n.natAbs) (by omega); simp only [List.length_cons]; omega
 ·have := Q3n (u := n.toNat) (by omega); omega
theorem Q5l {n : Int} (h0 : -9223372036854775808 <= n) (h1 : n <= 9223372036854775807) : Ka7 n = some (bs (Lib.itoa n)) := by
 have := Qqz h0 h1
 unfold Ka7
 rw [if_pos ⟨h0, h1, by omega⟩]; rfl
end Go.Proofs.Shadow
namespace Go.Proofs.SA
theorem Kju : ∀ (u : Nat) (s : List UInt8), u < 9223372036854775808 -> s.length + Lib.nDigits u <= 1000000 -> ∃ (k : Nat) (t : List UInt8), Qgw (u : Int) (bs s) = some ((k : Int), bs t) /\ k < 10 /\ UInt8.ofNat (48 + k) :: t = Lib.decDigits u ++ s := by
 intro u
 induction u using Nat.strongRecOn with
 | _ u ih =>
  intro s hu hs
  rw [Qgw]
  by_cases h : u < 10
  ·rw [if_neg (by omega)]
   exact ⟨u, s, rfl, h, by rw [Lib.decDigits, dif_pos h]; rfl⟩
  ·have hd := Lib.nDigits_big h
   have e1 : (u : Int).tmod 10 = ((u % 10 : Nat) : Int) := Q55 _ _
   have e2 : (u : Int).tdiv 10 = ((u / 10 : Nat) : Int) := Q54 _ _
   rw [if_pos (by omega), e1, e2, Qa8 (a := 48 + ((u % 10 : Nat) : Int)) (by omega) (by omega), Q8o (by omega) (by omega), Qa8 (by omega) (by omega)]
   have e3 : strOfNums [48 + ((u % 10 : Nat) : Int)] = bs [UInt8.ofNat (48 + u % 10)] := by
    unfold strOfNums bs
    rw [List.map_cons, List.map_nil, show (48 + ((u % 10 : Nat) : Int)).toNat = 48 + u % 10 by omega]
   rw [e3, Qk3 (by rw [Qgd, Qgd]; simp; omega), Qae, Qny]
   obtain ⟨k, t, h1, h2, h3⟩ := ih (u / 10) (by omega) (UInt8.ofNat (48 + u % 10) :: s) (by omega) (by simp; omega)
   refine ⟨k, t, h1, h2, ?_⟩
   rw [h3]
   conv => rhs; rw [Lib.decDigits, dif_neg h]
   simp
theorem Kae {u : Nat} (hu : u < 9223372036854775808) : Qfz (u : Int) = some (bs (Lib.decDigits u)) := by
 have hn := Qy6 (u := u) (by omega)
 obtain ⟨k, t, h1, h2, h3⟩ := Kju u [] hu (by simp; omega)
 rw [Qfz, if_neg (by omega), if_neg (by omega)]
 rw [show (ByteArray.mk #[]) = bs [] from rfl, h1, Qae]
 rw [List.append_nil] at h3
 have hl : t.length + 1 = Lib.nDigits u := by rw [← Lib.decDigits_length, ← h3]; rfl
 have e3 : strOfNums [IntKind.u8.wrap (i64.wrap (48 + (k : Int)))] = bs [UInt8.ofNat (48 + k)] := by
  rw [Qa8 (by omega) (by omega), Q8o (by omega) (by omega)]
  unfold strOfNums bs
  rw [List.map_cons, List.map_nil, show (48 + (k : Int)).toNat = 48 + k by omega]
 simp only [e3]
 rw [Qk3 (by rw [Qgd, Qgd]; simp; omega), Qae, Qak, Qny, List.singleton_append, h3]
theorem Kff {n : Int} (h0 : -9223372036854775808 <= n) (h1 : n <= 9223372036854775807) : Qfz n = some (bs (Lib.itoa n)) := by
 unfold Lib.itoa
 by_cases hn : n < 0
 ·rw [if_pos hn]
  by_cases hm : n < -9223372036854775807
  ·obtain rfl : n = -9223372036854775808 := by omega
   rw [Qfz, if_pos (by omega)]
   rw [Qak, Lib.decDigits_eq, Lib.nDigits_unique 18 _ (by decide) (by decide)]
   rfl
  ·rw [Qfz, if_neg hm, if_pos hn, Qa8 (by omega) (by omega)]
   have e : (0 - n) = ((n.natAbs : Nat) : Int) := by omega
   have hl := Q3n (u := n.natAbs) (by omega)
   rw [e, Kae (by omega), Qae, show (ByteArray.mk #[45]) = bs [45] from rfl, Qk3 (by rw [Qgd, Qgd]; simp; omega), Qae, Qak, Qny]
   rfl
 ·rw [if_neg hn]
  have e : n = ((n.toNat : Nat) : Int) := by omega
  conv => lhs; rw [e]
  rw [Kae (by omega)]
end Go.Proofs.SA
namespace Go.Proofs.SA
theorem bsm {α β : Type} (a : α) (f : α -> Option β) : ((some a : Option α) >>= f) = f a := rfl
theorem psm {α : Type} (a : α) : (pure a : Option α) = some a := rfl
def ltG (c : Int) : Bool := ((((((decide (c ≥ 97)) && (decide (c <= 122))) || decide (c = 42)) || decide (c = 63)) || decide (c = 61)) || decide (c = 43)) || decide (c = 60)
def ltD (c : Int) : Bool := ((decide (c ≥ 48)) && (decide (c <= 57))) || decide (c = 45)
def ltr (c : Int) (b : Bool) : Bool := if ltG c = true then true else if (!b) = true then ltD c else false
theorem Kbc (c : Int) (b : Bool) : Qht c b = some (ltr c b) := by
 unfold Qht ltr
 simp only [psm, bsm]
 show (if ltG c = true then some true else (if (!b) = true then some (ltD c) else some false) >>= fun x44 => some x44) = _
 cases ltG c <;> cases b <;> rfl
def NP (s : ByteArray) (j : Nat) : Prop := ltr (byt s j) (decide ((j : Int) = 0)) = true
def NV (s : ByteArray) : Prop := s = ByteArray.mk #[46, 46, 46] ∨ s = ByteArray.mk #[95] ∨ (1 <= s.size /\ s.size <= 12 /\ ∀ j, j < s.size -> NP s j)
theorem Q7h {s : ByteArray} : ∀ (n : Nat) (i : Nat), i + n = 13 -> Tot (Qbz s i) fun o => match o with | .inl r => r = false /\ ∃ j, j < s.size /\ ¬ NP s j | .inr _ => ∀ j, i <= j -> j < s.size -> j <= 12 -> NP s j := by
  intro n
  induction n with
  | zero =>
    intro i hi
    rw [Qbz, psm, bsm, if_neg (by simp; omega)]
    exact Tot.pure (by intro j h1 h2 h3; omega)
  | succ n ih =>
    intro i hi
    rw [Qbz, psm, bsm]
    refine Tot.ite (fun hc => ?_) (fun hc => Tot.pure ?_)
    · simp only [Bool.and_eq_true, decide_eq_true_eq] at hc
      rw [Kej s i (by omega), bsm, Kbc, bsm, Qar (by omega)]
      refine Tot.ite (fun h => Tot.pure ⟨rfl, i, by omega, fun hp => ?_⟩) (fun h => (ih (i + 1) (by omega)).mono fun o ho => ?_)
      · unfold NP at hp; rw [hp] at h; cases h
      · cases o with
        | inl r => exact ho
        | inr u => intro j h1 h2 h3; rcases Nat.lt_or_ge i j with h' | h'
                   · exact ho j h' h2 h3
                   · rw [show j = i by omega]; unfold NP; simpa using h
    · simp only [Bool.and_eq_true, decide_eq_true_eq] at hc
      intro j h1 h2 h3; omega
theorem Q3x (s : ByteArray) : Tot (Qd9 s) fun b => b = true ↔ NV s := by
 unfold Qd9
 rw [psm, bsm]
 refine Tot.ite (fun h => Tot.pure ?_) (fun h => ?_)
 ·simp only [Bool.or_eq_true, decide_eq_true_eq] at h
  exact ⟨fun _ => h.elim .inl (fun h => .inr (.inl h)), fun _ => rfl⟩
 simp only [Bool.or_eq_true, decide_eq_true_eq, not_or] at h
 have := Q7h (s := s) 13 0 (by omega)
 have e0 : ((0 : Nat) : Int) = 0 := rfl
 rw [e0] at this
 refine Tot.bind this fun o ho => ?_
 cases o with
 | inl r =>
  obtain ⟨rfl, j, h1, h2⟩ := ho
  refine Tot.pure ⟨fun h => (by cases h), fun hv => ?_⟩
  rcases hv with hv | hv | hv
  ·exact absurd hv h.1
  ·exact absurd hv h.2
  ·exact absurd (hv.2.2 j h1) h2
 | inr u =>
  simp only [psm, bsm]
  refine ⟨_, rfl, ?_⟩
  simp only [Bool.and_eq_true, decide_eq_true_eq]
  constructor
  ·rintro ⟨h1, h2⟩; exact .inr (.inr ⟨by omega, by omega, fun j hj => ho j (by omega) hj (by omega)⟩)
  ·rintro (hv | hv | hv)
   ·exact absurd hv h.1
   ·exact absurd hv h.2
   ·exact ⟨by omega, by omega⟩
end Go.Proofs.SA
namespace Go.Proofs.SA
def SP (l : List Int) (j : Nat) : Prop := 1 <= l.getD j 0 /\ l.getD j 0 <= 99 /\ (0 < j -> l.getD (j - 1) 0 < l.getD j 0)
def SV (l : List Int) : Prop := l.length <= 24 /\ ∀ j, j < l.length -> SP l j
theorem Q5h {l : List Int} {i : Nat} (h : i < l.length) : idx l (i : Int) = some (l.getD i 0) := by
 rw [Qap l i h]; simp [h]
theorem Q71 {l : List Int} : ∀ (n : Nat) (i : Nat), i + n = 25 -> Tot (Qb2 l i) fun o => match o with | .inl r => r = false /\ ∃ j, j < l.length /\ ¬ SP l j | .inr _ => ∀ j, i <= j -> j < l.length -> j <= 24 -> SP l j := by
 intro n
 induction n with
 | zero =>
  intro i hi
  rw [Qb2, psm, bsm, if_neg (by simp; omega)]
  exact Tot.pure (by intro j h1 h2 h3; omega)
 | succ n ih =>
  intro i hi
  rw [Qb2, psm, bsm]
  refine Tot.ite (fun hc => ?_) (fun hc => Tot.pure ?_)
  ·simp only [Bool.and_eq_true, decide_eq_true_eq] at hc
   rw [Q5h (by omega), bsm]
   have e : Tot ((if l.getD i 0 < 1 then pure true else (some (l.getD i 0) >>= fun x22 => pure (decide (x22 > 99))) : Option Bool)) fun b => b = true ↔ ¬ (1 <= l.getD i 0 /\ l.getD i 0 <= 99) := by
    refine Tot.ite (fun h => ⟨_, rfl, fun _ hp => by omega, fun _ => rfl⟩) (fun h => ⟨_, rfl, ?_⟩)
    simp only [decide_eq_true_eq]; omega
   refine Tot.bind e fun b hb => ?_
   have e2 : Tot (if b = true then pure true else ((if (i : Int) > 0 then (some (l.getD i 0) >>= fun x32 => idx l (i64.wrap ((i : Int) - 1)) >>= fun x37 => pure (decide (x32 <= x37))) else pure false : Option Bool) >>= fun x40 => pure x40)) fun b => b = true ↔ ¬ SP l i := by
    refine Tot.ite (fun h => ⟨_, rfl, fun _ hp => (hb.1 h) ⟨hp.1, hp.2.1⟩, fun _ => rfl⟩) (fun h => ?_)
    have hr : 1 <= l.getD i 0 /\ l.getD i 0 <= 99 := Classical.byContradiction fun hn => h (hb.2 hn)
    refine Tot.bind (p := fun b => b = true ↔ ¬ SP l i) (Tot.ite (fun h0 => ?_) (fun h0 => ⟨_, rfl, fun h => (by cases h), fun hn => absurd ⟨by omega, by omega, fun h => by omega⟩ hn⟩)) fun b hb => ⟨_, rfl, hb⟩
    rw [bsm, Qa8 (by omega) (by omega), show (i : Int) - 1 = ((i - 1 : Nat) : Int) by omega, Q5h (by omega), bsm]
    refine ⟨_, rfl, ?_⟩
    simp only [decide_eq_true_eq]
    unfold SP
    constructor
    ·intro h1 h2; have := h2.2.2 (by omega); omega
    ·intro h1
     rcases Int.lt_or_le (l.getD (i - 1) 0) (l.getD i 0) with h2 | h2
     ·exact absurd ⟨by omega, by omega, fun _ => h2⟩ h1
     ·exact h2
   refine Tot.bind e2 fun b hb => Tot.ite (fun h => ⟨_, rfl, rfl, i, by omega, hb.1 h⟩) (fun h => ?_)
   rw [Qar (by omega)]
   refine (ih (i + 1) (by omega)).mono fun o ho => ?_
   cases o with
   | inl r => exact ho
   | inr u =>
    intro j h1 h2 h3
    rcases Nat.lt_or_ge i j with h' | h'
    ·exact ho j h' h2 h3
    ·rw [show j = i by omega]; exact Classical.byContradiction fun hn => h (hb.2 hn)
  ·simp only [Bool.and_eq_true, decide_eq_true_eq] at hc
   intro j h1 h2 h3; omega
theorem Kb3 (l : List Int) : Tot (Qgm l) fun b => b = true ↔ SV l := by
 unfold Qgm
 have := Q71 (l := l) 25 0 (by omega)
 have e0 : ((0 : Nat) : Int) = 0 := rfl
 rw [e0] at this
 refine Tot.bind this fun o ho => ?_
 cases o with
 | inl r =>
  obtain ⟨rfl, j, h1, h2⟩ := ho
  exact ⟨_, rfl, fun h => (by cases h), fun hv => absurd (hv.2 j h1) h2⟩
 | inr u =>
  refine ⟨_, rfl, ?_⟩
  simp only [decide_eq_true_eq]
  exact ⟨fun h => ⟨by omega, fun j hj => ho j (by omega) hj (by omega)⟩, fun h => by have := h.1; omega⟩
end Go.Proofs.SA
namespace Go.Proofs.SA
theorem Khv {f : Fm} (hf : f.sz < 1000000000) : f.kids.length < 1000000000 /\ f.sc.length < 1000000000 := by
 have := Fm.Qgf f; omega
def FIs : Nat -> Fm -> Prop
 | 0, _ => False
 | d + 1, f => (f.kind = 1 /\ NV f.name /\ f.num = 0 /\ SV f.sc /\ f.kids.length = 0) ∨ (f.kind = 2 /\ f.name = ByteArray.mk #[] /\ 0 <= f.num /\ f.num <= 999 /\ f.sc.length = 0 /\ f.kids.length = 0) ∨ (f.kind = 3 /\ f.name = ByteArray.mk #[] /\ f.num = 0 /\ f.sc.length = 0 /\ ∀ k ∈ f.kids, FIs d k)
theorem Qzr {p : Fm -> Prop} {l : List Fm} {i : Nat} (h : i < l.length) : (∀ k ∈ l.drop i, p k) ↔ p l[i] /\ ∀ k ∈ l.drop (i + 1), p k := by
 rw [List.drop_eq_getElem_cons h, List.forall_mem_cons]
theorem Khu : ∀ (d : Nat), d < 1000 -> ∀ (f : Fm), f.sz < 1000000000 -> Tot (Qh2 f d) fun b => b = true ↔ FIs d f := by
 intro d
 induction d with
 | zero => intro _ f _; rw [Qh2, if_pos (by rfl)]; exact ⟨_, rfl, fun h => (by cases h), fun h => h.elim⟩
 | succ d ih =>
  intro hd f hf
  have hk := Khv hf
  have hz := Fm.Qgf f
  have loop : ∀ (n : Nat) (i : Nat), i + n = f.kids.length -> Tot (Qfc f ((d + 1 : Nat) : Int) i) fun o => match o with | .inl r => r = false /\ ¬ ∀ k ∈ f.kids.drop i, FIs d k | .inr _ => ∀ k ∈ f.kids.drop i, FIs d k := by
   intro n
   induction n with
   | zero => intro i h; rw [Qfc, if_neg (by omega), show i = f.kids.length by omega, List.drop_length]; exact ⟨_, rfl, by simp⟩
   | succ n ihn =>
    intro i h
    have hil : i < f.kids.length := by omega
    rw [Qfc, if_pos (by omega), Qap _ i hil, bsm]
    rw [Qar (by omega), Qa8 (by omega) (by omega), show ((d + 1 : Nat) : Int) - 1 = (d : Int) by omega]
    have hm : f.kids[i] ∈ f.kids := List.getElem_mem _
    refine Tot.bind (ih (by omega) _ (by have := Fm.Qh3 hm; omega)) fun b hb => ?_
    refine Tot.ite (fun h' => ⟨_, rfl, rfl, fun h2 => ?_⟩) (fun h' => (ihn (i + 1) (by omega)).mono fun o ho => ?_)
    ·rw [hb.2 ((Qzr hil).1 h2).1] at h'; cases h'
    ·have hb' : FIs d f.kids[i] := hb.1 (by simpa using h')
     cases o with
     | inl r => exact ⟨ho.1, fun h2 => ho.2 ((Qzr hil).1 h2).2⟩
     | inr u => exact (Qzr hil).2 ⟨hb', ho⟩
  rw [Qh2, if_neg (by omega)]
  refine Tot.ite (fun h1 => ?_) (fun h1 => ?_)
  ·refine Tot.bind (Q3x _) fun b hb => ?_
   rw [psm, bsm]
   refine Tot.bind (p := fun b' => b' = true ↔ NV f.name /\ f.num = 0 /\ SV f.sc) (Tot.ite (fun h => ?_) (fun h => ⟨_, rfl, fun h => (by cases h), fun hn => absurd ?_ h⟩)) fun b' hb' => ?_
   ·simp only [Bool.and_eq_true, decide_eq_true_eq] at h
    exact Tot.bind (Kb3 _) fun b2 hb2 => ⟨_, rfl, fun h' => ⟨hb.1 h.1, h.2, hb2.1 h'⟩, fun h' => hb2.2 h'.2.2⟩
   ·simp only [Bool.and_eq_true, decide_eq_true_eq]; exact ⟨hb.2 hn.1, hn.2.1⟩
   ·rw [psm, bsm]
    refine ⟨_, rfl, ?_⟩
    simp only [Bool.and_eq_true, decide_eq_true_eq]
    constructor
    ·rintro ⟨h2, h3⟩
     have := hb'.1 h2
     exact .inl ⟨h1, this.1, this.2.1, this.2.2, by omega⟩
    ·rintro (h | h | h)
     ·exact ⟨hb'.2 ⟨h.2.1, h.2.2.1, h.2.2.2.1⟩, by omega⟩
     ·omega
     ·omega
  refine Tot.ite (fun h2 => ?_) (fun h2 => ?_)
  ·simp only [psm, bsm]
   refine ⟨_, rfl, ?_⟩
   simp only [Bool.and_eq_true, decide_eq_true_eq]
   constructor
   ·rintro ⟨⟨⟨⟨a, b⟩, c⟩, e⟩, g⟩; exact .inr (.inl ⟨h2, a, b, c, by omega, by omega⟩)
   ·rintro (h | h | h)
    ·omega
    ·exact ⟨⟨⟨⟨h.2.1, h.2.2.1⟩, h.2.2.2.1⟩, by omega⟩, by omega⟩
    ·omega
  simp only [psm, bsm]
  refine Tot.ite (fun h3 => ⟨_, rfl, fun h => (by cases h), fun hn => ?_⟩) (fun h3 => ?_)
  ·rcases hn with h | h | h
   ·exact absurd h.1 h1
   ·exact absurd h.1 h2
   ·rw [decide_eq_true h.1, decide_eq_true h.2.1, decide_eq_true h.2.2.1, decide_eq_true (show ((f.sc.length : Int) = 0) by have := h.2.2.2.1; omega)] at h3
    exact absurd h3 (by decide)
  ·simp only [Bool.or_eq_true, Bool.not_eq_true', decide_eq_false_iff_not, not_or, Classical.not_not] at h3
   have := loop f.kids.length 0 (by omega)
   have e0 : ((0 : Nat) : Int) = 0 := rfl
   rw [e0, List.drop_zero] at this
   refine Tot.bind this fun o ho => ?_
   cases o with
   | inl r =>
    refine ⟨_, rfl, fun h => (by rw [ho.1] at h; cases h), fun hn => ?_⟩
    rcases hn with h | h | h
    ·exact absurd h.1 h1
    ·exact absurd h.1 h2
    ·exact absurd h.2.2.2.2 ho.2
   | inr u => exact ⟨_, rfl, fun _ => .inr (.inr ⟨h3.1.1.1, h3.1.1.2, h3.1.2, by have := h3.2; omega, ho⟩), fun _ => rfl⟩
theorem Q4p : ∀ (f : Fm), f.sz < 1000000000 -> Qfb f = some (f.nodes : Int) := by
 intro f
 induction f using Fm.ind with
 | h f ih =>
  intro hf
  have hz := Fm.Qgf f
  have hc := Fm.Qa4 f
  have hcl := Fm.Kd3 f
  rw [Qfb]
  have key : ∀ m (i : Nat), i + m = f.kids.length -> Qcv f (1 + Qbg Fm.nodes (f.kids.take i) : Int) i = some (f.nodes : Int) := by
   intro m
   induction m with
   | zero =>
    intro i hi
    rw [Qcv, if_neg (by omega), show i = f.kids.length by omega, List.take_length, Qak]
    congr 1; omega
   | succ m ihm =>
    intro i hi
    have hil : i < f.kids.length := by omega
    have hs := Kb2 Fm.nodes f.kids i hil
    have hle := Kil Fm.nodes f.kids (i + 1)
    rw [Qcv, if_pos (by omega), Qap _ i hil, Qae]
    rw [ih _ (List.getElem_mem _) (by have := Fm.Qh3 (List.getElem_mem hil); omega), Qae, Qar (by omega), Qa8 (by omega) (by omega)]
    have := ihm (i + 1) (by omega)
    rw [hs] at this
    rw [← this]
    congr 1
    omega
  have := key f.kids.length 0 (by omega)
  simp only [List.take_zero, Qbg] at this
  have e0 : ((0 : Nat) : Int) = 0 := rfl
  have e1 : (1 : Int) + ((0 : Nat) : Int) = 1 := rfl
  rw [e1, e0] at this
  rw [this]; rfl
def FV (f : Fm) : Prop := FIs 40 f /\ f.nodes <= 400
theorem Qja {f : Fm} (hf : f.sz < 1000000000) : Tot (Qa9 f) fun b => b = true ↔ FV f := by
 unfold Qa9
 refine Tot.bind (Khu 40 (by omega) f hf) fun b hb => ?_
 refine Tot.bind (p := fun b => b = true ↔ FV f) (Tot.ite (fun h => ?_) (fun h => ⟨_, rfl, fun h => (by cases h), fun hn => absurd (hb.2 hn.1) h⟩)) fun b hb => ⟨_, rfl, hb⟩
 rw [Q4p f hf, bsm]
 refine ⟨_, rfl, ?_⟩
 simp only [decide_eq_true_eq]
 exact ⟨fun h' => ⟨hb.1 h, by omega⟩, fun h' => by have := h'.2; omega⟩
end Go.Proofs.SA
namespace Go.Proofs.Shadow
theorem Cor.ind {p : Cor -> Prop} (h : ∀ f, (∀ g ∈ f.kids, p g) -> p f) (f : Cor) : p f :=
 h f fun g hg => Cor.ind h g
termination_by SizeOf.sizeOf f
decreasing_by
 obtain ⟨k, i, s, n, l, d, ks⟩ := f
 have := List.sizeOf_lt_of_mem hg
 simp only [Cor.kids] at this
 simp; omega
theorem Val.ind {p : Val -> Prop} (h : ∀ v, (∀ x ∈ v.items, p x) -> (∀ s ∈ v.env, p s.val) -> p v) (v : Val) : p v :=
 h v (fun x hx => Val.ind h x) (fun s hs => Val.ind h s.val)
termination_by SizeOf.sizeOf v
decreasing_by
 ·obtain ⟨k, n, s, l, f, e⟩ := v
  have := List.sizeOf_lt_of_mem hx
  simp only [Val.items] at this
  simp; omega
 ·obtain ⟨k, n, s', l, f, e⟩ := v
  have := List.sizeOf_lt_of_mem hs
  simp only [Val.env] at this
  obtain ⟨i, w⟩ := s
  simp only [Slt.val]
  simp at this ⊢; omega
mutual
def Cor.sz : Cor -> Nat
 | .mk _ _ s _ l d ks => s.size + l.length + d.sz + ks.length + Cor.szL ks
def Cor.szL : List Cor -> Nat
 | [] => 0
 | f :: fs => f.sz + Cor.szL fs
end
mutual
def Val.sz : Val -> Nat
 | .mk _ _ s l f e => s.size + l.length + Val.szL l + f.sz + e.length + Slt.szL e
def Val.szL : List Val -> Nat
 | [] => 0
 | f :: fs => f.sz + Val.szL fs
def Slt.sz : Slt -> Nat
 | .mk _ v => v.sz
def Slt.szL : List Slt -> Nat
 | [] => 0
 | f :: fs => f.sz + Slt.szL fs
end
theorem Cor.Qou : ∀ ks, Cor.szL ks = Qbg Cor.sz ks
 | [] => rfl
 | f :: fs => by rw [Cor.szL, Cor.Qou fs]; rfl
theorem Val.Qou : ∀ ks, Val.szL ks = Qbg Val.sz ks
 | [] => rfl
 | f :: fs => by rw [Val.szL, Val.Qou fs]; rfl
theorem Slt.Qgf : ∀ s : Slt, s.sz = s.val.sz
 | .mk _ v => by rw [Slt.sz]; rfl
theorem Slt.Qou : ∀ ks, Slt.szL ks = Qbg Slt.sz ks
 | [] => rfl
 | f :: fs => by rw [Slt.szL, Slt.Qou fs]; rfl
theorem Cor.Qgf (f : Cor) : f.sz = f.name.size + f.ids.length + f.data.sz + f.kids.length + Qbg Cor.sz f.kids := by cases f; simp [Cor.sz, Cor.Qou, Cor.name, Cor.ids, Cor.data, Cor.kids]
theorem Val.Qgf (v : Val) : v.sz = v.name.size + v.items.length + Qbg Val.sz v.items + v.fn.sz + v.env.length + Qbg Slt.sz v.env := by cases v; simp [Val.sz, Val.Qou, Slt.Qou, Val.name, Val.items, Val.fn, Val.env]
theorem Cor.eta (c : Cor) : Cor.mk c.kind c.id c.name c.num c.ids c.data c.kids = c := by cases c; rfl
theorem Val.eta (v : Val) : Val.mk v.kind v.num v.name v.items v.fn v.env = v := by cases v; rfl
theorem Slt.eta (v : Slt) : Slt.mk v.id v.val = v := by cases v; rfl
theorem Cor.Ok.out {c : Cor} (h : c.Ok) : c.name.size <= 140737488355328 /\ c.ids.length <= 140737488355328 /\ c.data.Ok /\ c.kids.length <= 140737488355328 /\ ∀ x ∈ c.kids, Cor.Ok x := by
 cases h with
 | mk hs hl hd hk h => exact ⟨hs, hl, hd, hk, h⟩
theorem Val.Ok.out {v : Val} (h : v.Ok) : Kjf v.num /\ v.name.size <= 140737488355328 /\ v.items.length <= 140737488355328 /\ v.fn.Ok /\ v.env.length <= 140737488355328 /\ (∀ x ∈ v.items, Val.Ok x) /\ ∀ x ∈ v.env, Slt.Ok x := by
 cases h with
 | mk hn hs hl hf he h1 h2 => exact ⟨hn, hs, hl, hf, he, h1, h2⟩
end Go.Proofs.Shadow
namespace Go.Proofs.SA
end Go.Proofs.SA
namespace Go.Proofs.Shadow
theorem Keh {α : Type} (F : ByteArray -> Nat -> List α -> Option ByteArray) (T : α -> List UInt8) (sep : List UInt8) (hn : ∀ z i, F z i [] = some z) : ∀ (l : List α) (z : List UInt8) (i : Nat), (∀ x ∈ l, ∀ (z : List UInt8) i r, z.length + sep.length + (T x).length <= 4611686018427387904 -> F (bs z) i (x :: r) = F (bs (z ++ (if i = 0 then T x else sep ++ T x))) (i + 1) r) -> z.length + Lib.lens (l.map T) + sep.length * l.length <= 4611686018427387904 -> F (bs z) i l = some (bs (z ++ (if i = 0 then Lib.join (l.map T) sep else Lib.joinTail sep (l.map T)))) := by
 intro l
 induction l with
 | nil =>
  intro z i _ _
  rw [hn]
  simp [Lib.join, Lib.joinTail, List.intercalate]
 | cons x l ih =>
  intro z i hc hz
  simp only [List.map_cons, Lib.lens, List.sum_cons, List.length_cons, Nat.mul_succ] at hz
  rw [hc x (List.mem_cons_self ..) z i l (by omega), ih _ _ (fun y hy => hc y (List.mem_cons_of_mem _ hy)) (by
   simp only [Lib.lens, List.length_append]
   by_cases h : i = 0
   ·rw [if_pos h]; omega
   ·rw [if_neg h, List.length_append]; omega)]
  rw [if_neg (Nat.succ_ne_zero i), List.map_cons]
  by_cases h : i = 0
  ·rw [if_pos h, if_pos h, Lib.join_cons, List.append_assoc]
  ·rw [if_neg h, if_neg h]; simp [Lib.joinTail, List.append_assoc]
theorem Q98 {α : Type} (F : List ByteArray -> Nat -> List α -> Option (List ByteArray)) (T : α -> List UInt8) (hn : ∀ z i, F z i [] = some z) : ∀ (l : List α) (z : List ByteArray) (i : Nat), (∀ x ∈ l, ∀ z i r, z.length <= 1099511627776 -> F z i (x :: r) = F (z ++ [bs (T x)]) (i + 1) r) -> z.length + l.length <= 1099511627776 -> F z i l = some (z ++ l.map fun x => bs (T x)) := by
 intro l
 induction l with
 | nil => intro z i _ _; rw [hn]; simp
 | cons x l ih =>
  intro z i hc hz
  simp only [List.length_cons] at hz
  rw [hc x (List.mem_cons_self ..) z i l (by omega), ih _ _ (fun y hy => hc y (List.mem_cons_of_mem _ hy)) (by simp; omega), List.map_cons, List.append_assoc]; rfl
theorem Qzf (l : List (List UInt8)) (s : List UInt8) : (Lib.join l s).length <= Lib.lens l + s.length * l.length := by
 cases l with
 | nil => simp [Lib.join_nil]
 | cons x r => rw [Lib.join_length, List.length_cons, Nat.mul_succ]; omega
theorem Kdv {α : Type} {T : α -> List UInt8} {l : List α} {s : List UInt8} (h : l.length <= 140737488355328) (h1 : Lib.lens (l.map T) + s.length * l.length <= 140737488355328) : Ka9 (l.map fun x => bs (T x)) (bs s) = some (bs (Lib.join (l.map T) s)) := by
 have := Qzf (l.map T) s
 rw [List.length_map] at this
 unfold Ka9
 rw [List.map_map, show ((fun x : ByteArray => x.data.toList) ∘ fun x => bs (T x)) = T from rfl, List.length_map, if_pos ⟨h, by show (Lib.join (l.map T) s).length <= _; omega⟩]
 rfl
def VT : Nat -> Val -> List UInt8
 | 0, _ => [46, 46]
 | d + 1, v => if v.kind = 1 then Lib.itoa v.num else if v.kind = 2 ∨ v.kind = 5 then v.name.data.toList else if v.kind = 4 then [35, 102, 117, 110] ++ Lib.itoa (v.fn.ids.length : Int) else if v.kind = 3 then [40] ++ Lib.join (v.items.map (VT d)) [32] ++ [41] else [63]
theorem Qu8 {α : Type} (T : α -> List UInt8) (g : α -> Nat) : ∀ l : List α, (∀ x ∈ l, (T x).length <= 30 + 31 * g x) -> Lib.lens (l.map T) <= 30 * l.length + 31 * Qbg g l
 | [], _ => by simp [Lib.lens]
 | x :: l, h => by
  have h1 := Qu8 T g l (fun y hy => h y (List.mem_cons_of_mem _ hy))
  have h2 := h x (List.mem_cons_self ..)
  simp only [Lib.lens, List.map_cons, List.sum_cons, List.length_cons, Qbg] at h1 ⊢
  omega
theorem Kfd : ∀ (d : Nat) (v : Val), v.Ok -> (VT d v).length <= 30 + 31 * v.sz := by
 intro d
 induction d with
 | zero => intro v _; simp [VT]; omega
 | succ d ih =>
  intro v hv
  obtain ⟨g0, g1, g2, g3, g4, g5, g6⟩ := hv.out
  obtain ⟨k1, k2, k3, k4, k5⟩ := g3.out
  have hz := Val.Qgf v
  rw [VT]
  split
  ·have := Qqz g0.1 g0.2; omega
  split
  ·have : v.name.data.toList.length = v.name.size := rfl
   omega
  split
  ·have := Qqz (n := (v.fn.ids.length : Int)) (by omega) (by omega); simp only [List.length_append, List.length_cons, List.length_nil]; omega
  split
  ·have h1 := Qu8 (VT d) Val.sz v.items (fun x hx => ih x (g5 x hx))
   have h2 := Qzf (v.items.map (VT d)) [32]
   simp only [List.length_append, List.length_cons, List.length_nil, List.length_map] at h2 ⊢
   omega
  ·simp; omega
end Go.Proofs.Shadow
namespace Go.Proofs.SA
theorem Q39 : ∀ (d : Nat) (v : Val), d <= 40 -> v.Ok -> v.sz <= 1099511627776 -> Qhz v (d : Int) = some (bs (VT d v)) := by
 intro d
 induction d with
 | zero => intro v _ _ _; rw [Qhz]; rfl
 | succ d ih =>
  intro v hd hv hs
  obtain ⟨g0, g1, g2, g3, g4, g5, g6⟩ := hv.out
  obtain ⟨k1, k2, k3, k4, k5⟩ := g3.out
  have hz := Val.Qgf v
  rw [Qhz, VT, if_neg (by omega)]
  by_cases h1 : v.kind = 1
  ·rw [if_pos h1, if_pos h1, Kff g0.1 g0.2]; rfl
  rw [if_neg h1, if_neg h1]
  by_cases h2 : v.kind = 2 ∨ v.kind = 5
  ·rw [if_pos h2, Q93]
   rcases h2 with h2 | h2
   ·simp [h2, Qak]
   ·simp [h2, Qak]
  obtain ⟨h3, h5⟩ := not_or.1 h2
  rw [if_neg h2]
  simp only [h3, h5, if_false, Qak, Qae, decide_false, Bool.false_eq_true]
  by_cases h4 : v.kind = 4
  ·have := Qqz (n := (v.fn.ids.length : Int)) (by omega) (by omega)
   rw [if_pos h4, if_pos h4, Kff (by omega) (by omega), Qae, show (ByteArray.mk #[35, 102, 117, 110]) = bs [35, 102, 117, 110] from rfl, Qk3 (by rw [Qgd, Qgd]; simp; omega), Qae, Qny]
  rw [if_neg h4, if_neg h4]
  by_cases h6 : v.kind = 3
  rotate_left
  ·rw [if_neg h6, if_neg h6]; rfl
  have hl := Qu8 (VT d) Val.sz v.items (fun x hx => Kfd d x (g5 x hx))
  have hj := Qzf (v.items.map (VT d)) [32]
  simp only [List.length_append, List.length_cons, List.length_nil, List.length_map] at hj
  rw [if_pos h6, if_pos h6, Qu1 _ _ _ (by omega), show (ByteArray.mk #[40]) = bs [40] from rfl,
   Keh (Qhk v ((d + 1 : Nat) : Int)) (VT d) [32] (fun _ _ => rfl) v.items [40] 0 (fun x hx z i r hzb => by
    have hxs := Qf9 Val.sz _ _ hx
    simp only [List.length_cons, List.length_nil] at hzb
    rw [Qhk, Qa8 (by omega) (by omega), show ((d + 1 : Nat) : Int) - 1 = (d : Int) by omega]
    by_cases hi : i = 0
    ·subst hi
     rw [if_neg (by omega), if_pos rfl, Qak, Qae, Qak, Qae, ih x (by omega) (g5 x hx) (by omega), Qae, Qk3 (by rw [Qgd, Qgd]; omega), Qae, Qny]
    ·rw [if_pos (by omega), if_neg hi, show (ByteArray.mk #[32]) = bs [32] from rfl, Qk3 (by rw [Qgd, Qgd]; simp; omega), Qae, Qak, Qae, Qak, Qae, ih x (by omega) (g5 x hx) (by omega), Qae, Qny, Qk3 (by rw [Qgd, Qgd]; simp; omega), Qae, Qny, List.append_assoc]) (by simp only [List.length_cons, List.length_nil]; omega), Qae, if_pos rfl,
   show (ByteArray.mk #[41]) = bs [41] from rfl, Qk3 (by rw [Qgd, Qgd]; simp only [List.length_append, List.length_cons, List.length_nil]; omega), Qae, Qny]
theorem Q3v : ∀ (d : Nat) (v : Val), d <= 40 -> v.Ok -> v.sz <= 1099511627776 -> Qd8 v (40 - (d : Int)) = some (bs (VT d v)) := by
 intro d
 induction d with
 | zero => intro v _ _ _; rw [Qd8]; rfl
 | succ d ih =>
  intro v hd hv hs
  obtain ⟨g0, g1, g2, g3, g4, g5, g6⟩ := hv.out
  obtain ⟨k1, k2, k3, k4, k5⟩ := g3.out
  have hz := Val.Qgf v
  rw [Qd8, VT, if_neg (by omega)]
  by_cases h1 : v.kind = 1
  ·rw [if_pos h1, if_pos h1, Qhl, Q5l g0.1 g0.2]; rfl
  rw [if_neg h1, if_neg h1]
  by_cases h2 : v.kind = 2 ∨ v.kind = 5
  ·rw [if_pos h2, Q93]
   rcases h2 with h2 | h2
   ·simp [h2, Qak]
   ·simp [h2, Qak]
  obtain ⟨h3, h5⟩ := not_or.1 h2
  rw [if_neg h2]
  simp only [h3, h5, if_false, Qak, Qae, decide_false, Bool.false_eq_true]
  by_cases h4 : v.kind = 4
  ·have := Qqz (n := (v.fn.ids.length : Int)) (by omega) (by omega)
   rw [if_pos h4, if_pos h4, Qhl, Q5l (by omega) (by omega), Qae, show (ByteArray.mk #[35, 102, 117, 110]) = bs [35, 102, 117, 110] from rfl, Qk3 (by rw [Qgd, Qgd]; simp; omega), Qae, Qny]
  rw [if_neg h4, if_neg h4]
  by_cases h6 : v.kind = 3
  rotate_left
  ·rw [if_neg h6, if_neg h6]; rfl
  have hl := Qu8 (VT d) Val.sz v.items (fun x hx => Kfd d x (g5 x hx))
  have hj := Qzf (v.items.map (VT d)) [32]
  simp only [List.length_append, List.length_cons, List.length_nil, List.length_map] at hj
  rw [if_pos h6, if_pos h6, Qpv _ _ _ (by omega),
   Q98 (Qeq v (40 - ((d + 1 : Nat) : Int))) (VT d) (fun _ _ => rfl) v.items [] 0 (fun x hx z i r hzb => by
    have hxs := Qf9 Val.sz _ _ hx
    rw [Qeq, Qa8 (by omega) (by omega), show 40 - ((d + 1 : Nat) : Int) + 1 = 40 - (d : Int) by omega, Qak, Qae, ih x (by omega) (g5 x hx) (by omega), Qae, Qbb (by simp; omega), Qae]) (by simp; omega), Qae,
   List.nil_append, Qjg, show (ByteArray.mk #[32]) = bs [32] from rfl, Kdv (by omega) (by simp only [List.length_cons, List.length_nil]; omega), Qae,
   show (ByteArray.mk #[40]) = bs [40] from rfl, Qk3 (by rw [Qgd, Qgd]; simp only [List.length_cons, List.length_nil]; omega), Qae, Qny,
   show (ByteArray.mk #[41]) = bs [41] from rfl, Qk3 (by rw [Qgd, Qgd]; simp only [List.length_append, List.length_cons, List.length_nil]; omega), Qae, Qny]
theorem Qnc (v : Val) (h : v.Ok) (hs : v.sz <= 1099511627776) : Qeu v = some (bs (VT 40 v)) := by
 rw [Qeu, show (40 : Int) = ((40 : Nat) : Int) from rfl, Q39 40 v (by omega) h hs]; rfl
theorem Qkr (v : Val) (h : v.Ok) (hs : v.sz <= 1099511627776) : Qc0 v = some (bs (VT 40 v)) := by
 rw [Qc0, show (0 : Int) = 40 - ((40 : Nat) : Int) from rfl, Q3v 40 v (by omega) h hs]; rfl
end Go.Proofs.SA
namespace Go.Proofs.Shadow
theorem Qis {α β : Type} (F : List β -> Nat -> List α -> Option (List β)) (T : α -> β) (hn : ∀ z i, F z i [] = some z) : ∀ (l : List α) (z : List β) (i : Nat), (∀ x ∈ l, ∀ z i r, z.length <= 1073741824 -> F z i (x :: r) = F (z ++ [T x]) (i + 1) r) -> z.length + l.length <= 1073741824 -> F z i l = some (z ++ l.map T) := by
 intro l
 induction l with
 | nil => intro z i _ _; rw [hn]; simp
 | cons x l ih =>
  intro z i hc hz
  simp only [List.length_cons] at hz
  rw [hc x (List.mem_cons_self ..) z i l (by omega), ih _ _ (fun y hy => hc y (List.mem_cons_of_mem _ hy)) (by simp; omega), List.map_cons, List.append_assoc]; rfl
mutual
def Fm.strip : Fm -> Fm
 | .mk k s n _ ks => .mk k s n [] (Fm.Q5z ks)
def Fm.Q5z : List Fm -> List Fm
 | [] => []
 | f :: fs => f.strip :: Fm.Q5z fs
end
theorem Fm.Q2m : ∀ l, Fm.Q5z l = l.map Fm.strip
 | [] => rfl
 | f :: fs => by rw [Fm.Q5z, Fm.Q2m fs]; rfl
theorem Fm.Qvb (f : Fm) : f.strip = .mk f.kind f.name f.num [] (f.kids.map Fm.strip) := by cases f; rw [Fm.strip, Fm.Q2m]; rfl
theorem Q51 {α β : Type} (g : β -> Nat) (h : α -> β) : ∀ l : List α, Qbg g (l.map h) = Qbg (fun x => g (h x)) l
 | [] => rfl
 | x :: l => by rw [List.map_cons, Qbg, Qbg, Q51 g h l]
theorem Fm.Keo (f : Fm) : f.strip.sz <= f.sz := by
 induction f using Fm.ind with
 | h f ih =>
  rw [Fm.Qgf, Fm.Qgf f, Fm.Qvb]
  have := Q2o (fun x => Fm.sz (Fm.strip x)) Fm.sz f.kids ih
  simp only [Fm.name, Fm.sc, Fm.kids, Q51, List.length_map, List.length_nil] at this ⊢
  omega
end Go.Proofs.Shadow
namespace Go.Proofs.SA
theorem Qtv : ∀ f : Fm, f.sz <= 1048576 -> Qdg f = some f.strip := by
 intro f
 induction f using Fm.ind with
 | h f ih =>
  intro hf
  have hz := Fm.Qgf f
  rw [Qdg, Qp2 _ _ (by omega), Qis (Qer f) Fm.strip (fun _ _ => rfl) f.kids [] 0 (fun x hx z i r hzb => by
   have := Fm.Qh3 hx
   rw [Qer, Qak, Qae, ih x hx (by omega), Qae, Qbb (by simp; omega), Qae]) (by simp; omega), Qae, Qak, Fm.Qvb, List.nil_append]
end Go.Proofs.SA
