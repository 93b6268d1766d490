/- Both sides' NameValid: the same answers. -/
import Derived.Lib.Bytealg
import Derived.Test.YtilkeeoinbndoaaPa
import Derived.Test.YtilkeeoinbndoaadvD
set_option linter.unusedVariables false
set_option linter.unusedSimpArgs false
set_option maxRecDepth 100000
open Go Go.Proofs Go.Proofs.Shadow
namespace Go.Proofs.SA
theorem bsm {α β : Type} (a : α) (f : α → Option β) : ((some a : Option α) >>= f) = f a := rfl
theorem psm {α : Type} (a : α) : (pure a : Option α) = some a := rfl
def ltG (c : Int) : Bool := ((((((decide (c ≥ 97)) && (decide (c ≤ 122))) || decide (c = 42)) || decide (c = 63)) || decide (c = 61)) || decide (c = 43)) || decide (c = 60)
def ltD (c : Int) : Bool := ((decide (c ≥ 48)) && (decide (c ≤ 57))) || decide (c = 45)
def ltr (c : Int) (b : Bool) : Bool := if ltG c = true then true else if (!b) = true then ltD c else false
theorem letter_eq (c : Int) (b : Bool) : spec_l1Letter c b = some (ltr c b) := by
  unfold spec_l1Letter ltr
  simp only [psm, bsm]
  show (if ltG c = true then some true else (if (!b) = true then some (ltD c) else some false) >>= fun x44 => some x44) = _
  cases ltG c <;> cases b <;> rfl
theorem ib_tab : ∀ n : Fin 256, decide (Lib.indexByte [42, 63, 61, 43, 60] n.val.toUInt8 ≥ 0) = ((((decide (n.val = 42) || decide (n.val = 63)) || decide (n.val = 61)) || decide (n.val = 43)) || decide (n.val = 60)) := by decide +kernel
theorem ib_eq {c : Int} (h : 0 ≤ c ∧ c < 256) : strings_IndexByte (ByteArray.mk #[42, 63, 61, 43, 60]) c = some (Lib.indexByte [42, 63, 61, 43, 60] c.toNat.toUInt8) := rfl
theorem ib_dec {c : Int} (h : 0 ≤ c ∧ c < 256) : decide (Lib.indexByte [42, 63, 61, 43, 60] c.toNat.toUInt8 ≥ 0) = ((((decide (c = 42) || decide (c = 63)) || decide (c = 61)) || decide (c = 43)) || decide (c = 60)) := by
  obtain ⟨n, rfl⟩ := Int.eq_ofNat_of_zero_le h.1
  have := ib_tab ⟨n, by omega⟩
  simp only [Int.toNat_natCast] at this ⊢
  rw [this]
  have e : ∀ k : Nat, decide (n = k) = decide ((n : Int) = (k : Int)) := fun k => by simp only [Int.ofNat_inj]
  rw [e 42, e 63, e 61, e 43, e 60]
  rfl
def NP (s : ByteArray) (j : Nat) : Prop := ltr (byt s j) (decide ((j : Int) = 0)) = true
def NV (s : ByteArray) : Prop := s = ByteArray.mk #[46, 46, 46] ∨ s = ByteArray.mk #[95] ∨ (1 ≤ s.size ∧ s.size ≤ 12 ∧ ∀ j, j < s.size → NP s j)
theorem nv_impl_l0 {s : ByteArray} (hs : s.size < 1099511627776) : ∀ (n : Nat) (i : Nat), i + n = s.size → Tot (impl_NameValid_l0 s i) fun o => match o with | .inl r => r = false ∧ ∃ j, j < s.size ∧ ¬ NP s j | .inr _ => ∀ j, i ≤ j → j < s.size → NP s j := by
  intro n
  induction n with
  | zero =>
    intro i hi
    rw [impl_NameValid_l0, if_neg (by omega)]
    exact Tot.pure (by intro j h1 h2; omega)
  | succ n ih =>
    intro i hi
    have hb := byt_ge s i
    rw [impl_NameValid_l0, if_pos (by omega), sidx_nat s i (by omega), bsm, psm, bsm]
    have e : (if (decide (byt s i ≥ 97) && decide (byt s i ≤ 122)) = true then pure true else (strings_IndexByte (ByteArray.mk #[42, 63, 61, 43, 60]) (byt s i) >>= fun x29 => pure (decide (x29 ≥ 0))) : Option Bool) = some (ltG (byt s i)) := by
      rw [ib_eq hb, bsm, ib_dec hb]
      unfold ltG
      cases (decide (byt s i ≥ 97) && decide (byt s i ≤ 122)) <;> rfl
    rw [e, bsm, wrap_nat (by omega)]
    have nxt : NP s i → Tot (impl_NameValid_l0 s ((i + 1 : Nat) : Int)) fun o => match o with | .inl r => r = false ∧ ∃ j, j < s.size ∧ ¬ NP s j | .inr _ => ∀ j, i ≤ j → j < s.size → NP s j := fun hp =>
      (ih (i + 1) (by omega)).mono fun o ho => by
        cases o with
        | inl r => exact ho
        | inr u => intro j h1 h2; rcases Nat.lt_or_ge i j with h | h
                   · exact ho j h h2
                   · rw [show j = i by omega]; exact hp
    refine Tot.ite (fun hg => nxt (by unfold NP ltr; rw [if_pos hg])) (fun hg => ?_)
    have e2 : (if (i : Int) > 0 then (pure (decide (byt s i ≥ 48) && decide (byt s i ≤ 57)) >>= fun x41 => pure (x41 || decide (byt s i = 45)) >>= fun x45 => pure x45) else pure false : Option Bool) = some (if (!decide ((i : Int) = 0)) = true then ltD (byt s i) else false) := by
      by_cases h0 : (i : Int) = 0
      · rw [if_neg (by omega), decide_eq_true h0]; rfl
      · rw [if_pos (by omega), decide_eq_false h0]; rfl
    rw [e2, bsm]
    have hn : NP s i ↔ (if (!decide ((i : Int) = 0)) = true then ltD (byt s i) else false) = true := by
      unfold NP ltr; rw [if_neg hg]
    refine Tot.ite (fun h => nxt (hn.2 h)) (fun h => Tot.pure ⟨rfl, i, by omega, fun hp => h (hn.1 hp)⟩)
theorem nv_impl {s : ByteArray} (hs : s.size < 1099511627776) : Tot (impl_NameValid s) fun b => b = true ↔ NV s := by
  unfold impl_NameValid
  rw [psm, bsm]
  refine Tot.ite (fun h => Tot.pure ?_) (fun h => ?_)
  · simp only [Bool.or_eq_true, decide_eq_true_eq] at h
    exact ⟨fun _ => h.elim .inl (fun h => .inr (.inl h)), fun _ => rfl⟩
  simp only [Bool.or_eq_true, decide_eq_true_eq, not_or] at h
  have := nv_impl_l0 hs s.size 0 (by omega)
  have e0 : ((0 : Nat) : Int) = 0 := rfl
  rw [e0] at this
  refine Tot.bind this fun o ho => ?_
  cases o with
  | inl r =>
    obtain ⟨rfl, j, h1, h2⟩ := ho
    refine Tot.pure ⟨fun h => (by cases h), fun hv => ?_⟩
    rcases hv with hv | hv | hv
    · exact absurd hv h.1
    · exact absurd hv h.2
    · exact absurd (hv.2.2 j h1) h2
  | inr u =>
    unfold impl_within
    simp only [psm, bsm]
    refine ⟨_, rfl, ?_⟩
    simp only [Bool.and_eq_true, decide_eq_true_eq]
    constructor
    · rintro ⟨h1, h2⟩; exact .inr (.inr ⟨by omega, by omega, fun j hj => ho j (by omega) hj⟩)
    · rintro (hv | hv | hv)
      · exact absurd hv h.1
      · exact absurd hv h.2
      · exact ⟨by omega, by omega⟩
theorem nv_spec_l0 {s : ByteArray} : ∀ (n : Nat) (i : Nat), i + n = 13 → Tot (spec_NameValid_l0 s i) fun o => match o with | .inl r => r = false ∧ ∃ j, j < s.size ∧ ¬ NP s j | .inr _ => ∀ j, i ≤ j → j < s.size → j ≤ 12 → NP s j := by
  intro n
  induction n with
  | zero =>
    intro i hi
    rw [spec_NameValid_l0, psm, bsm, if_neg (by simp; omega)]
    exact Tot.pure (by intro j h1 h2 h3; omega)
  | succ n ih =>
    intro i hi
    rw [spec_NameValid_l0, psm, bsm]
    refine Tot.ite (fun hc => ?_) (fun hc => Tot.pure ?_)
    · simp only [Bool.and_eq_true, decide_eq_true_eq] at hc
      rw [sidx_nat s i (by omega), bsm, letter_eq, bsm, wrap_nat (by omega)]
      refine Tot.ite (fun h => Tot.pure ⟨rfl, i, by omega, fun hp => ?_⟩) (fun h => (ih (i + 1) (by omega)).mono fun o ho => ?_)
      · unfold NP at hp; rw [hp] at h; cases h
      · cases o with
        | inl r => exact ho
        | inr u => intro j h1 h2 h3; rcases Nat.lt_or_ge i j with h' | h'
                   · exact ho j h' h2 h3
                   · rw [show j = i by omega]; unfold NP; simpa using h
    · simp only [Bool.and_eq_true, decide_eq_true_eq] at hc
      intro j h1 h2 h3; omega
theorem nv_spec (s : ByteArray) : Tot (spec_NameValid s) fun b => b = true ↔ NV s := by
  unfold spec_NameValid
  rw [psm, bsm]
  refine Tot.ite (fun h => Tot.pure ?_) (fun h => ?_)
  · simp only [Bool.or_eq_true, decide_eq_true_eq] at h
    exact ⟨fun _ => h.elim .inl (fun h => .inr (.inl h)), fun _ => rfl⟩
  simp only [Bool.or_eq_true, decide_eq_true_eq, not_or] at h
  have := nv_spec_l0 (s := s) 13 0 (by omega)
  have e0 : ((0 : Nat) : Int) = 0 := rfl
  rw [e0] at this
  refine Tot.bind this fun o ho => ?_
  cases o with
  | inl r =>
    obtain ⟨rfl, j, h1, h2⟩ := ho
    refine Tot.pure ⟨fun h => (by cases h), fun hv => ?_⟩
    rcases hv with hv | hv | hv
    · exact absurd hv h.1
    · exact absurd hv h.2
    · exact absurd (hv.2.2 j h1) h2
  | inr u =>
    simp only [psm, bsm]
    refine ⟨_, rfl, ?_⟩
    simp only [Bool.and_eq_true, decide_eq_true_eq]
    constructor
    · rintro ⟨h1, h2⟩; exact .inr (.inr ⟨by omega, by omega, fun j hj => ho j (by omega) hj (by omega)⟩)
    · rintro (hv | hv | hv)
      · exact absurd hv h.1
      · exact absurd hv h.2
      · exact ⟨by omega, by omega⟩
end Go.Proofs.SA

