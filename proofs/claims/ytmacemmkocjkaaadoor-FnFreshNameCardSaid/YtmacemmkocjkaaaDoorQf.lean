/- FnFreshName yields true. -/
import Derived.Test.YtmacemmkocjkaaaDoorPe
import Derived.Test.YtmacemmkocjkaaaDoorQk
import Derived.Test.YtmacemmkocjkaaaDoorQn
import Derived.Test.YtmacemmkocjkaaaDoorQd
set_option linter.unusedVariables false
set_option linter.unusedSimpArgs false
set_option maxRecDepth 100000
open Go Go.Proofs Go.Proofs.Shadow
namespace Go.Proofs.SA
theorem szM (k : Int) (s : ByteArray) (n : Int) (sc : List Int) (ks : List Fm) : (Fm.mk k s n sc ks).sz = s.size + sc.length + ks.length + sumL Fm.sz ks := by rw [Fm.sz_eq]; rfl
theorem drawFresh_tot {l : List Int} (h : ∀ x ∈ l, 0 ≤ x ∧ x < 256) : Tot (spec_DrawFreshName l) fun f => f.sz ≤ 2000000 := by
  unfold spec_DrawFreshName
  refine Tot.bind (open_tot h) fun c hc => ?_
  refine Tot.bind (case9_tot h) fun f hf => ?_
  refine Tot.bind (pick_tot hc (by omega) (by omega)) fun x hx => ?_
  refine Tot.ite (fun _ => ?_) (fun _ => Tot.pure (by omega))
  refine Tot.bind (p := fun f => f.sz = 6) ⟨_, rfl, by show (Fm.mk _ _ _ _ _).sz = 6; rw [szM]; rfl⟩ fun a ha => ?_
  refine Tot.bind (of_tot hx.2.2 (by omega) (by simp)) fun y hy => ?_
  have hy1 : y.1.size = 6 := by
    have := hy.1
    simp only [List.mem_cons, List.not_mem_nil, or_false] at this
    rcases this with h | h <;> (rw [h]; rfl)
  refine Tot.bind (p := fun f => f.sz = 6) ⟨_, rfl, by show (Fm.mk _ _ _ _ _).sz = 6; rw [szM, hy1]; rfl⟩ fun b hb => ?_
  refine Tot.bind (p := fun f => f.sz ≤ 2000000) ⟨_, rfl, ?_⟩ fun z hz => Tot.pure hz
  show (Fm.mk _ _ _ _ _).sz ≤ 2000000
  rw [szM]
  simp only [sumL, List.length_cons, List.length_nil]
  have : (ByteArray.mk #[]).size = 0 := rfl
  omega
theorem hasF (s : ByteArray) : ∀ (l : List Fm) (out : List ByteArray), hasN (l.foldl namesOne out) s = (hasN out s || l.any fun g => decide (g.kind = 1 ∧ g.name = s))
  | [], out => by simp
  | g :: l, out => by
    rw [List.foldl_cons, hasF s l, List.any_cons, ← Bool.or_assoc]
    congr 1
    unfold namesOne
    by_cases hk : g.kind = 1
    · rw [if_pos hk]
      cases hh : hasN out g.name
      · simp only [Bool.false_eq_true, if_false, hasN, List.any_append, List.any_cons, List.any_nil, Bool.or_false, hk, true_and]
      · simp only [if_true, hk, true_and]
        by_cases hs : g.name = s
        · subst hs; simp [hh]
        · simp [hs]
    · rw [if_neg hk]; simp [hk]
theorem cnt_zero (s : ByteArray) : ∀ f : Fm, (f.all.any fun g => decide (g.kind = 1 ∧ g.name = s)) = false → f.cnt s = 0 := by
  intro f
  induction f using Fm.ind with
  | h f ih =>
    intro h
    rw [Fm.all_eq, List.any_cons, Bool.or_eq_false_iff] at h
    rw [Fm.cnt_eq]
    have h1 : hit s f.kind f.name = 0 := by unfold hit; rw [if_neg (by simpa using h.1)]
    have key : ∀ l : List Fm, (∀ g ∈ l, g ∈ f.kids) → ((Fm.allL l).any fun g => decide (g.kind = 1 ∧ g.name = s)) = false → sumL (Fm.cnt s) l = 0 := by
      intro l
      induction l with
      | nil => intro _ _; rfl
      | cons g l ihl =>
        intro hl ha
        rw [Fm.allL, List.any_append, Bool.or_eq_false_iff] at ha
        simp only [sumL]
        rw [ih g (hl g (List.mem_cons_self ..)) ha.1, ihl (fun x hx => hl x (List.mem_cons_of_mem _ hx)) ha.2]
    rw [h1, key _ (fun _ h => h) h.2]
theorem freshM_some {names : List ByteArray} : ∀ (n k : Nat) (s : ByteArray), freshM names n k = some s → hasN names s = false ∧ ∃ j, j < k + n ∧ s = freshN j
  | 0, k, s, h => by cases h
  | n + 1, k, s, h => by
    rw [freshM] at h
    split at h
    · obtain ⟨h1, j, h2, h3⟩ := freshM_some n (k + 1) s h; exact ⟨h1, j, by omega, h3⟩
    · rename_i hh; injection h with h; subst h; exact ⟨by simpa using hh, k, by omega, rfl⟩
theorem dec_digit : ∀ (u : Nat), ∀ d ∈ Lib.decDigits u, 48 ≤ d.toNat ∧ d.toNat ≤ 57 := by
  intro u
  induction u using Nat.strongRecOn with
  | _ u ih =>
    intro d hd
    rw [Lib.decDigits] at hd
    split at hd
    · rw [List.mem_singleton] at hd; subst hd; rw [UInt8.toNat_ofNat']; omega
    · rcases List.mem_append.1 hd with hd | hd
      · exact ih _ (by omega) d hd
      · rw [List.mem_singleton] at hd; subst hd; rw [UInt8.toNat_ofNat']; omega
theorem byt_bs (l : List UInt8) (j : Nat) : byt (bs l) j = ((l.getD j 0).toNat : Int) := by
  unfold byt bs; simp
theorem fresh_NV {k : Nat} (hk : k ≤ 400) : NV (freshN k) := by
  have hl : Lib.nDigits k ≤ 3 := by
    rcases Nat.lt_or_ge k 10 with h | h
    · rw [Lib.nDigits_small h]; omega
    · rw [Lib.nDigits_big (by omega)]
      rcases Nat.lt_or_ge (k / 10) 10 with h2 | h2
      · rw [Lib.nDigits_small h2]; omega
      · rw [Lib.nDigits_big (by omega), Lib.nDigits_small (by omega)]; omega
  have hi : Lib.itoa (k : Int) = Lib.decDigits k := by unfold Lib.itoa; rw [if_neg (by omega)]; rfl
  have hd := Lib.decDigits_length k
  refine .inr (.inr ⟨?_, ?_, fun j hj => ?_⟩)
  · unfold freshN; rw [bs_size]; simp
  · unfold freshN; rw [bs_size, hi]; simp; omega
  · unfold freshN at hj ⊢
    rw [bs_size, hi, List.length_append] at hj
    simp only [List.length_cons, List.length_nil] at hj
    unfold NP
    rw [byt_bs, hi]
    rcases Nat.lt_or_ge j 5 with h5 | h5
    · have : j = 0 ∨ j = 1 ∨ j = 2 ∨ j = 3 ∨ j = 4 := by omega
      rcases this with rfl | rfl | rfl | rfl | rfl <;> rfl
    · have e : ([102, 114, 101, 115, 104] ++ Lib.decDigits k : List UInt8).getD j 0 = (Lib.decDigits k).getD (j - 5) 0 := by
        rw [List.getD_eq_getElem?_getD, List.getElem?_append_right (by simpa using h5), List.getD_eq_getElem?_getD]; rfl
      rw [e]
      have hm : (Lib.decDigits k).getD (j - 5) 0 ∈ Lib.decDigits k := by
        rw [List.getD_eq_getElem?_getD, List.getElem?_eq_getElem (by omega)]; exact List.getElem_mem _
      obtain ⟨h1, h2⟩ := dec_digit k _ hm
      generalize ((Lib.decDigits k).getD (j - 5) 0).toNat = c at h1 h2
      unfold ltr ltD
      have hz : decide ((j : Int) = 0) = false := by rw [decide_eq_false_iff_not]; omega
      rw [hz]
      have h48 : decide ((c : Int) ≥ 48) = true := by rw [decide_eq_true_iff]; omega
      have h57 : decide ((c : Int) ≤ 57) = true := by rw [decide_eq_true_iff]; omega
      rw [h48, h57]
      simp
theorem mxName_eq (l : List ByteArray) (s : ByteArray) (h : l.length ≤ 4398046511104) : laws_mxName l s = some (hasN l s) := by
  have key : ∀ (r : List ByteArray) (i : Nat), laws_mxName_l0L l s i r = some (if hasN r s then .inl true else .inr ()) := by
    intro r
    induction r with
    | nil => intro i; rfl
    | cons x r ih =>
      intro i
      rw [laws_mxName_l0L, psome, bsome]
      by_cases hx : x = s
      · subst hx; rw [if_pos rfl]; simp [hasN, psome]
      · rw [if_neg hx, ih]
        have e : hasN (x :: r) s = hasN r s := by simp [hasN, hx]
        rw [e]
  rw [laws_mxName, laws_mxName_l0L0 _ _ (by omega), key, bsome]
  cases hasN l s <;> rfl
theorem freshName_true {l : List Int} (h : ∀ x ∈ l, 0 ≤ x ∧ x < 256) : laws_FnFreshName l = some true := by
  unfold laws_FnFreshName
  split
  · rfl
  obtain ⟨f, hf, hz⟩ := drawFresh_tot h
  rw [hf, bsome, implFresh_eq f (by omega), bsome, specFresh_eq f (by omega), bsome, psome, bsome]
  have hlen := namesM_len [] f; have hnn := Fm.nodes_le f
  simp only [List.length_nil] at hlen
  by_cases he : freshF f = ByteArray.mk #[]
  · rw [he]; simp [psome]
  · have e1 : (!decide (freshF f = freshF f) || decide (freshF f = ByteArray.mk #[])) = false := by simp [he]
    rw [if_neg (by rw [e1]; simp)]
    have hs : ∃ s, freshM (namesM [] f) 401 0 = some s ∧ freshF f = s := by
      unfold freshF at he ⊢
      cases hm : freshM (namesM [] f) 401 0 with
      | none => rw [hm] at he; exact absurd rfl he
      | some s => exact ⟨s, rfl, rfl⟩
    obtain ⟨s, hs1, hs2⟩ := hs
    obtain ⟨h1, j, h2, h3⟩ := freshM_some _ _ _ hs1
    have hc : f.cnt s = 0 := by
      refine cnt_zero s f ?_
      have := hasF s f.all []
      unfold namesM at h1
      rw [this] at h1
      simpa [hasN] using h1
    have hv : impl_NameValid s = some true := by
      obtain ⟨b, hb1, hb2⟩ := nv_impl (s := s) (by
        have : s.size ≤ 12 := by
          rw [h3]
          rcases fresh_NV (k := j) (by omega) with h | h | h
          · rw [h]; decide
          · rw [h]; decide
          · exact h.2.1
        omega)
      rw [hb1, hb2.2 (by rw [h3]; exact fresh_NV (by omega))]
    rw [hs2, implCount_eq f s (by omega), bsome, hc, implNames_eq f (by omega), hv]
    simp only [if_true, psome, bsome, Int.natCast_zero, Int.ofNat_zero]
    rw [mxName_eq _ _ (by omega), bsome, h1]
    rfl
end Go.Proofs.SA
