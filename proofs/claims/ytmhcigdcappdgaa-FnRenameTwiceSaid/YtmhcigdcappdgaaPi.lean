/- Both sides' NameValid and scopes: the same answers. -/
import Derived.Test.YtmhcigdcappdgaaPh
set_option linter.unusedVariables false
set_option linter.unusedSimpArgs false
set_option maxRecDepth 100000
open Go Go.Proofs Go.Proofs.Shadow
namespace Go.Proofs.SA
def ltG (c : Int) : Bool := ((((((decide (c ≥ 97)) && (decide (c ≤ 122))) || decide (c = 42)) || decide (c = 63)) || decide (c = 61)) || decide (c = 43)) || decide (c = 60)
def ltD (c : Int) : Bool := ((decide (c ≥ 48)) && (decide (c ≤ 57))) || decide (c = 45)
def ltr (c : Int) (b : Bool) : Bool := if ltG c = true then true else if (!b) = true then ltD c else false
theorem letter_eq (c : Int) (b : Bool) : spec_l1Letter c b = some (ltr c b) := by
  unfold spec_l1Letter ltr
  simp only [psm, bsm]
  show (if ltG c = true then some true else (if (!b) = true then some (ltD c) else some false) >>= fun x44 => some x44) = _
  cases ltG c <;> cases b <;> rfl
theorem ib_tab : ∀ n : Fin 256, decide (Lib.indexByte [42, 63, 61, 43, 60] n.val.toUInt8 ≥ 0) = ((((decide (n.val = 42) || decide (n.val = 63)) || decide (n.val = 61)) || decide (n.val = 43)) || decide (n.val = 60)) := by decide +kernel
theorem ib_eq {c : Int} (h : 0 ≤ c ∧ c < 256) : strings_IndexByte (ByteArray.mk #[42, 63, 61, 43, 60]) c = some (Lib.indexByte [42, 63, 61, 43, 60] c.toNat.toUInt8) := rfl
theorem ib_dec {c : Int} (h : 0 ≤ c ∧ c < 256) : decide (Lib.indexByte [42, 63, 61, 43, 60] c.toNat.toUInt8 ≥ 0) = ((((decide (c = 42) || decide (c = 63)) || decide (c = 61)) || decide (c = 43)) || decide (c = 60)) := by
  obtain ⟨n, rfl⟩ := Int.eq_ofNat_of_zero_le h.1
  have := ib_tab ⟨n, by omega⟩
  simp only [Int.toNat_natCast] at this ⊢
  rw [this]
  have e : ∀ k : Nat, decide (n = k) = decide ((n : Int) = (k : Int)) := fun k => by simp only [Int.ofNat_inj]
  rw [e 42, e 63, e 61, e 43, e 60]
  rfl
def NP (s : ByteArray) (j : Nat) : Prop := ltr (byt s j) (decide ((j : Int) = 0)) = true
def NV (s : ByteArray) : Prop := s = ByteArray.mk #[46, 46, 46] ∨ s = ByteArray.mk #[95] ∨ (1 ≤ s.size ∧ s.size ≤ 12 ∧ ∀ j, j < s.size → NP s j)
theorem nv_impl_l0 {s : ByteArray} (hs : s.size < 1099511627776) : ∀ (n : Nat) (i : Nat), i + n = s.size → Tot (impl_NameValid_l0 s i) fun o => match o with | .inl r => r = false ∧ ∃ j, j < s.size ∧ ¬ NP s j | .inr _ => ∀ j, i ≤ j → j < s.size → NP s j := by
  intro n
  induction n with
  | zero =>
    intro i hi
    rw [impl_NameValid_l0, if_neg (by omega)]
    exact Tot.pure (by intro j h1 h2; omega)
  | succ n ih =>
    intro i hi
    have hb := byt_ge s i
    rw [impl_NameValid_l0, if_pos (by omega), sidx_nat s i (by omega), bsm, psm, bsm]
    have e : (if (decide (byt s i ≥ 97) && decide (byt s i ≤ 122)) = true then pure true else (strings_IndexByte (ByteArray.mk #[42, 63, 61, 43, 60]) (byt s i) >>= fun x29 => pure (decide (x29 ≥ 0))) : Option Bool) = some (ltG (byt s i)) := by
      rw [ib_eq hb, bsm, ib_dec hb]
      unfold ltG
      cases (decide (byt s i ≥ 97) && decide (byt s i ≤ 122)) <;> rfl
    rw [e, bsm, wrap_nat (by omega)]
    have nxt : NP s i → Tot (impl_NameValid_l0 s ((i + 1 : Nat) : Int)) fun o => match o with | .inl r => r = false ∧ ∃ j, j < s.size ∧ ¬ NP s j | .inr _ => ∀ j, i ≤ j → j < s.size → NP s j := fun hp =>
      (ih (i + 1) (by omega)).mono fun o ho => by
        cases o with
        | inl r => exact ho
        | inr u => intro j h1 h2; rcases Nat.lt_or_ge i j with h | h
                   · exact ho j h h2
                   · rw [show j = i by omega]; exact hp
    refine Tot.ite (fun hg => nxt (by unfold NP ltr; rw [if_pos hg])) (fun hg => ?_)
    have e2 : (if (i : Int) > 0 then (pure (decide (byt s i ≥ 48) && decide (byt s i ≤ 57)) >>= fun x41 => pure (x41 || decide (byt s i = 45)) >>= fun x45 => pure x45) else pure false : Option Bool) = some (if (!decide ((i : Int) = 0)) = true then ltD (byt s i) else false) := by
      by_cases h0 : (i : Int) = 0
      · rw [if_neg (by omega), decide_eq_true h0]; rfl
      · rw [if_pos (by omega), decide_eq_false h0]; rfl
    rw [e2, bsm]
    have hn : NP s i ↔ (if (!decide ((i : Int) = 0)) = true then ltD (byt s i) else false) = true := by
      unfold NP ltr; rw [if_neg hg]
    refine Tot.ite (fun h => nxt (hn.2 h)) (fun h => Tot.pure ⟨rfl, i, by omega, fun hp => h (hn.1 hp)⟩)
theorem nv_impl {s : ByteArray} (hs : s.size < 1099511627776) : Tot (impl_NameValid s) fun b => b = true ↔ NV s := by
  unfold impl_NameValid
  rw [psm, bsm]
  refine Tot.ite (fun h => Tot.pure ?_) (fun h => ?_)
  · simp only [Bool.or_eq_true, decide_eq_true_eq] at h
    exact ⟨fun _ => h.elim .inl (fun h => .inr (.inl h)), fun _ => rfl⟩
  simp only [Bool.or_eq_true, decide_eq_true_eq, not_or] at h
  have := nv_impl_l0 hs s.size 0 (by omega)
  have e0 : ((0 : Nat) : Int) = 0 := rfl
  rw [e0] at this
  refine Tot.bind this fun o ho => ?_
  cases o with
  | inl r =>
    obtain ⟨rfl, j, h1, h2⟩ := ho
    refine Tot.pure ⟨fun h => (by cases h), fun hv => ?_⟩
    rcases hv with hv | hv | hv
    · exact absurd hv h.1
    · exact absurd hv h.2
    · exact absurd (hv.2.2 j h1) h2
  | inr u =>
    unfold impl_within
    simp only [psm, bsm]
    refine ⟨_, rfl, ?_⟩
    simp only [Bool.and_eq_true, decide_eq_true_eq]
    constructor
    · rintro ⟨h1, h2⟩; exact .inr (.inr ⟨by omega, by omega, fun j hj => ho j (by omega) hj⟩)
    · rintro (hv | hv | hv)
      · exact absurd hv h.1
      · exact absurd hv h.2
      · exact ⟨by omega, by omega⟩
theorem nv_spec_l0 {s : ByteArray} : ∀ (n : Nat) (i : Nat), i + n = 13 → Tot (spec_NameValid_l0 s i) fun o => match o with | .inl r => r = false ∧ ∃ j, j < s.size ∧ ¬ NP s j | .inr _ => ∀ j, i ≤ j → j < s.size → j ≤ 12 → NP s j := by
  intro n
  induction n with
  | zero =>
    intro i hi
    rw [spec_NameValid_l0, psm, bsm, if_neg (by simp; omega)]
    exact Tot.pure (by intro j h1 h2 h3; omega)
  | succ n ih =>
    intro i hi
    rw [spec_NameValid_l0, psm, bsm]
    refine Tot.ite (fun hc => ?_) (fun hc => Tot.pure ?_)
    · simp only [Bool.and_eq_true, decide_eq_true_eq] at hc
      rw [sidx_nat s i (by omega), bsm, letter_eq, bsm, wrap_nat (by omega)]
      refine Tot.ite (fun h => Tot.pure ⟨rfl, i, by omega, fun hp => ?_⟩) (fun h => (ih (i + 1) (by omega)).mono fun o ho => ?_)
      · unfold NP at hp; rw [hp] at h; cases h
      · cases o with
        | inl r => exact ho
        | inr u => intro j h1 h2 h3; rcases Nat.lt_or_ge i j with h' | h'
                   · exact ho j h' h2 h3
                   · rw [show j = i by omega]; unfold NP; simpa using h
    · simp only [Bool.and_eq_true, decide_eq_true_eq] at hc
      intro j h1 h2 h3; omega
theorem nv_spec (s : ByteArray) : Tot (spec_NameValid s) fun b => b = true ↔ NV s := by
  unfold spec_NameValid
  rw [psm, bsm]
  refine Tot.ite (fun h => Tot.pure ?_) (fun h => ?_)
  · simp only [Bool.or_eq_true, decide_eq_true_eq] at h
    exact ⟨fun _ => h.elim .inl (fun h => .inr (.inl h)), fun _ => rfl⟩
  simp only [Bool.or_eq_true, decide_eq_true_eq, not_or] at h
  have := nv_spec_l0 (s := s) 13 0 (by omega)
  have e0 : ((0 : Nat) : Int) = 0 := rfl
  rw [e0] at this
  refine Tot.bind this fun o ho => ?_
  cases o with
  | inl r =>
    obtain ⟨rfl, j, h1, h2⟩ := ho
    refine Tot.pure ⟨fun h => (by cases h), fun hv => ?_⟩
    rcases hv with hv | hv | hv
    · exact absurd hv h.1
    · exact absurd hv h.2
    · exact absurd (hv.2.2 j h1) h2
  | inr u =>
    simp only [psm, bsm]
    refine ⟨_, rfl, ?_⟩
    simp only [Bool.and_eq_true, decide_eq_true_eq]
    constructor
    · rintro ⟨h1, h2⟩; exact .inr (.inr ⟨by omega, by omega, fun j hj => ho j (by omega) hj (by omega)⟩)
    · rintro (hv | hv | hv)
      · exact absurd hv h.1
      · exact absurd hv h.2
      · exact ⟨by omega, by omega⟩
/-! ### scopes -/
def SP (l : List Int) (j : Nat) : Prop := 1 ≤ l.getD j 0 ∧ l.getD j 0 ≤ 99 ∧ (0 < j → l.getD (j - 1) 0 < l.getD j 0)
def SV (l : List Int) : Prop := l.length ≤ 24 ∧ ∀ j, j < l.length → SP l j
theorem idx_getD {l : List Int} {i : Nat} (h : i < l.length) : idx l (i : Int) = some (l.getD i 0) := by
  rw [idx_nat l i h]; simp [h]
theorem sv_impl_l0 {l : List Int} (hl : l.length < 1099511627776) : ∀ (n : Nat) (i : Nat), i + n = l.length → Tot (impl_scopesOk_l0 l i) fun o => match o with | .inl r => r = false ∧ ∃ j, j < l.length ∧ ¬ SP l j | .inr _ => ∀ j, i ≤ j → j < l.length → SP l j := by
  intro n
  induction n with
  | zero =>
    intro i hi
    rw [impl_scopesOk_l0, if_neg (by omega)]
    exact Tot.pure (by intro j h1 h2; omega)
  | succ n ih =>
    intro i hi
    rw [impl_scopesOk_l0, if_pos (by omega), idx_getD (by omega), bsm]
    unfold impl_within
    simp only [psm, bsm]
    have e : Tot (if (!(decide (l.getD i 0 ≥ 1) && decide (l.getD i 0 ≤ 99))) = true then some true else (if (i : Int) > 0 then (idx l (IntKind.i64.wrap ((i : Int) - 1)) >>= fun x22 => some (decide (x22 ≥ l.getD i 0))) else some false) >>= fun x26 => some x26 : Option Bool) fun b => b = true ↔ ¬ SP l i := by
      refine Tot.ite (fun h => ⟨_, rfl, fun _ hp => ?_, fun _ => rfl⟩) (fun h => ?_)
      · rw [decide_eq_true hp.1, decide_eq_true hp.2.1] at h
        exact absurd h (by decide)
      · have hr : 1 ≤ l.getD i 0 ∧ l.getD i 0 ≤ 99 := Classical.byContradiction fun hn => h (by
          by_cases h1 : l.getD i 0 ≥ 1
          · rw [decide_eq_true h1, decide_eq_false (fun h2 => hn ⟨h1, h2⟩)]; rfl
          · rw [decide_eq_false h1]; rfl)
        refine Tot.bind (p := fun b => b = true ↔ ¬ SP l i) (Tot.ite (fun h0 => ?_) (fun h0 => ⟨_, rfl, fun h => (by cases h), fun hn => absurd ⟨by omega, by omega, fun h => by omega⟩ hn⟩)) fun b hb => ⟨_, rfl, hb⟩
        rw [wrap_id (by omega) (by omega), show (i : Int) - 1 = ((i - 1 : Nat) : Int) by omega, idx_getD (by omega), bsm]
        refine ⟨_, rfl, ?_⟩
        simp only [decide_eq_true_eq]
        unfold SP
        constructor
        · intro h1 h2; have := h2.2.2 (by omega); omega
        · intro h1
          rcases Int.lt_or_le (l.getD (i - 1) 0) (l.getD i 0) with h2 | h2
          · exact absurd ⟨by omega, by omega, fun _ => h2⟩ h1
          · exact h2
    refine Tot.bind e fun b hb => Tot.ite (fun h => ⟨_, rfl, rfl, i, by omega, hb.1 h⟩) (fun h => ?_)
    rw [wrap_nat (by omega)]
    refine (ih (i + 1) (by omega)).mono fun o ho => ?_
    cases o with
    | inl r => exact ho
    | inr u =>
      intro j h1 h2
      rcases Nat.lt_or_ge i j with h' | h'
      · exact ho j h' h2
      · rw [show j = i by omega]; exact Classical.byContradiction fun hn => h (hb.2 hn)
theorem sv_impl {l : List Int} (hl : l.length < 1099511627776) : Tot (impl_scopesOk l) fun b => b = true ↔ SV l := by
  unfold impl_scopesOk
  have := sv_impl_l0 hl l.length 0 (by omega)
  have e0 : ((0 : Nat) : Int) = 0 := rfl
  rw [e0] at this
  refine Tot.bind this fun o ho => ?_
  cases o with
  | inl r =>
    obtain ⟨rfl, j, h1, h2⟩ := ho
    exact ⟨_, rfl, fun h => (by cases h), fun hv => absurd (hv.2 j h1) h2⟩
  | inr u =>
    refine ⟨_, rfl, ?_⟩
    simp only [decide_eq_true_eq]
    exact ⟨fun h => ⟨by omega, fun j hj => ho j (by omega) hj⟩, fun h => by have := h.1; omega⟩
theorem sv_spec_l0 {l : List Int} : ∀ (n : Nat) (i : Nat), i + n = 25 → Tot (spec_l1Scopes_l0 l i) fun o => match o with | .inl r => r = false ∧ ∃ j, j < l.length ∧ ¬ SP l j | .inr _ => ∀ j, i ≤ j → j < l.length → j ≤ 24 → SP l j := by
  intro n
  induction n with
  | zero =>
    intro i hi
    rw [spec_l1Scopes_l0, psm, bsm, if_neg (by simp; omega)]
    exact Tot.pure (by intro j h1 h2 h3; omega)
  | succ n ih =>
    intro i hi
    rw [spec_l1Scopes_l0, psm, bsm]
    refine Tot.ite (fun hc => ?_) (fun hc => Tot.pure ?_)
    · simp only [Bool.and_eq_true, decide_eq_true_eq] at hc
      rw [idx_getD (by omega), bsm]
      have e : Tot ((if l.getD i 0 < 1 then pure true else (some (l.getD i 0) >>= fun x22 => pure (decide (x22 > 99))) : Option Bool)) fun b => b = true ↔ ¬ (1 ≤ l.getD i 0 ∧ l.getD i 0 ≤ 99) := by
        refine Tot.ite (fun h => ⟨_, rfl, fun _ hp => by omega, fun _ => rfl⟩) (fun h => ⟨_, rfl, ?_⟩)
        simp only [decide_eq_true_eq]; omega
      refine Tot.bind e fun b hb => ?_
      have e2 : Tot (if b = true then pure true else ((if (i : Int) > 0 then (some (l.getD i 0) >>= fun x32 => idx l (IntKind.i64.wrap ((i : Int) - 1)) >>= fun x37 => pure (decide (x32 ≤ x37))) else pure false : Option Bool) >>= fun x40 => pure x40)) fun b => b = true ↔ ¬ SP l i := by
        refine Tot.ite (fun h => ⟨_, rfl, fun _ hp => (hb.1 h) ⟨hp.1, hp.2.1⟩, fun _ => rfl⟩) (fun h => ?_)
        have hr : 1 ≤ l.getD i 0 ∧ l.getD i 0 ≤ 99 := Classical.byContradiction fun hn => h (hb.2 hn)
        refine Tot.bind (p := fun b => b = true ↔ ¬ SP l i) (Tot.ite (fun h0 => ?_) (fun h0 => ⟨_, rfl, fun h => (by cases h), fun hn => absurd ⟨by omega, by omega, fun h => by omega⟩ hn⟩)) fun b hb => ⟨_, rfl, hb⟩
        rw [bsm, wrap_id (by omega) (by omega), show (i : Int) - 1 = ((i - 1 : Nat) : Int) by omega, idx_getD (by omega), bsm]
        refine ⟨_, rfl, ?_⟩
        simp only [decide_eq_true_eq]
        unfold SP
        constructor
        · intro h1 h2; have := h2.2.2 (by omega); omega
        · intro h1
          rcases Int.lt_or_le (l.getD (i - 1) 0) (l.getD i 0) with h2 | h2
          · exact absurd ⟨by omega, by omega, fun _ => h2⟩ h1
          · exact h2
      refine Tot.bind e2 fun b hb => Tot.ite (fun h => ⟨_, rfl, rfl, i, by omega, hb.1 h⟩) (fun h => ?_)
      rw [wrap_nat (by omega)]
      refine (ih (i + 1) (by omega)).mono fun o ho => ?_
      cases o with
      | inl r => exact ho
      | inr u =>
        intro j h1 h2 h3
        rcases Nat.lt_or_ge i j with h' | h'
        · exact ho j h' h2 h3
        · rw [show j = i by omega]; exact Classical.byContradiction fun hn => h (hb.2 hn)
    · simp only [Bool.and_eq_true, decide_eq_true_eq] at hc
      intro j h1 h2 h3; omega
theorem sv_spec (l : List Int) : Tot (spec_l1Scopes l) fun b => b = true ↔ SV l := by
  unfold spec_l1Scopes
  have := sv_spec_l0 (l := l) 25 0 (by omega)
  have e0 : ((0 : Nat) : Int) = 0 := rfl
  rw [e0] at this
  refine Tot.bind this fun o ho => ?_
  cases o with
  | inl r =>
    obtain ⟨rfl, j, h1, h2⟩ := ho
    exact ⟨_, rfl, fun h => (by cases h), fun hv => absurd (hv.2 j h1) h2⟩
  | inr u =>
    refine ⟨_, rfl, ?_⟩
    simp only [decide_eq_true_eq]
    exact ⟨fun h => ⟨by omega, fun j hj => ho j (by omega) hj (by omega)⟩, fun h => by have := h.1; omega⟩
end Go.Proofs.SA
