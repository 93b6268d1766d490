/- The reading of a form yields something, for every text. -/
import Derived.Test.YtmacemmkocjkaaaDoorPc
set_option linter.unusedVariables false
set_option linter.unusedSimpArgs false
set_option maxRecDepth 100000
open Go Go.Proofs Go.Proofs.Shadow
namespace Go.Proofs.SA
theorem and_guard {c : Prop} [Decidable c] {o : Option Bool} (h : c → Tot o fun _ => True) : Tot (if c then o else pure false) fun b => b = true → c := by
  refine Tot.ite (fun hc => (h hc).mono fun _ _ _ => hc) (fun hc => Tot.pure fun h => by cases h)
theorem or_guard {c : Prop} [Decidable c] {o : Option Bool} (h : ¬ c → Tot o fun _ => True) : Tot (if c then pure true else o) fun b => b = false → ¬ c := by
  refine Tot.ite (fun hc => Tot.pure fun h => by cases h) (fun hc => (h hc).mono fun _ _ _ => hc)
theorem skip_tot {s : ByteArray} (hs : s.size < 1099511627776) : ∀ (n : Nat) (i : Int), 0 ≤ i → i + n = s.size → Tot (spec_l1Skip_l0 s i) fun r => i ≤ r ∧ r ≤ s.size := by
  intro n
  induction n with
  | zero =>
    intro i h0 h
    rw [spec_l1Skip_l0, if_neg (by omega)]
    exact ⟨i, rfl, by omega, by omega⟩
  | succ n ih =>
    intro i h0 h
    rw [spec_l1Skip_l0]
    refine Tot.bind (and_guard fun hc => Tot.bind (sidx_tot h0 hc) fun _ _ => Tot.pure trivial) fun b hb => ?_
    refine Tot.ite (fun hb' => ?_) (fun _ => Tot.pure ⟨by omega, by omega⟩)
    rw [wrap_id (by omega) (by omega)]
    exact (ih (i + 1) (by omega) (by omega)).mono fun r hr => ⟨by omega, hr.2⟩
theorem skip_tot' {s : ByteArray} (hs : s.size < 1099511627776) {i : Int} (h0 : 0 ≤ i) (h : i ≤ s.size) : Tot (spec_l1Skip s i) fun r => i ≤ r ∧ r ≤ s.size := by
  unfold spec_l1Skip
  exact Tot.bind (skip_tot hs (s.size - i.toNat) i h0 (by omega)) fun r hr => Tot.pure hr
theorem word_tot {s : ByteArray} (hs : s.size < 1099511627776) : ∀ (n : Nat) (i : Int), 0 ≤ i → i + n = s.size → Tot (spec_l1Word_l0 s i) fun r => i ≤ r ∧ r ≤ s.size := by
  intro n
  induction n with
  | zero =>
    intro i h0 h
    rw [spec_l1Word_l0, if_neg (by omega)]
    exact ⟨i, rfl, by omega, by omega⟩
  | succ n ih =>
    intro i h0 h
    rw [spec_l1Word_l0]
    refine Tot.bind (and_guard fun hc => Tot.bind (sidx_tot h0 hc) fun _ _ => Tot.pure trivial) fun b hb => ?_
    refine Tot.bind (and_guard fun hc => Tot.bind (sidx_tot h0 (hb hc)) fun _ _ => Tot.pure trivial) fun b2 hb2 => ?_
    refine Tot.bind (and_guard fun hc => Tot.bind (sidx_tot h0 (hb (hb2 hc))) fun _ _ => Tot.pure trivial) fun b3 hb3 => ?_
    refine Tot.bind (and_guard fun hc => Tot.bind (sidx_tot h0 (hb (hb2 (hb3 hc)))) fun _ _ => Tot.pure trivial) fun b4 hb4 => ?_
    refine Tot.ite (fun hb' => ?_) (fun _ => Tot.pure ⟨by omega, by omega⟩)
    rw [wrap_id (by omega) (by omega)]
    exact (ih (i + 1) (by omega) (by omega)).mono fun r hr => ⟨by omega, hr.2⟩
theorem word_tot' {s : ByteArray} (hs : s.size < 1099511627776) {i : Int} (h0 : 0 ≤ i) (h : i ≤ s.size) : Tot (spec_l1Word s i) fun r => i ≤ r ∧ r ≤ s.size := by
  unfold spec_l1Word
  exact Tot.bind (word_tot hs (s.size - i.toNat) i h0 (by omega)) fun r hr => Tot.pure hr
theorem num_l0_tot {s : ByteArray} {x : Bool} (hs : s.size < 1099511627776) : ∀ (n : Nat) (v i : Int), 0 ≤ i → i + n = s.size → Tot (spec_l15Num_l0 x s v i) fun _ => True := by
  intro n
  induction n with
  | zero =>
    intro v i h0 h
    rw [spec_l15Num_l0, if_neg (by omega)]
    exact ⟨_, rfl, trivial⟩
  | succ n ih =>
    intro v i h0 h
    rw [spec_l15Num_l0, if_pos (by omega)]
    have hx := sidx_tot (s := s) h0 (by omega)
    refine Tot.bind hx fun a _ => ?_
    refine Tot.bind (p := fun _ => True) (Tot.ite (fun _ => Tot.pure trivial) (fun _ => Tot.bind hx fun _ _ => Tot.pure trivial)) fun b _ => ?_
    refine Tot.ite (fun _ => Tot.pure trivial) (fun _ => ?_)
    refine Tot.bind hx fun a _ => ?_
    rw [wrap_id (a := i + 1) (by omega) (by omega)]
    exact ih _ (i + 1) (by omega) (by omega)
theorem num15_tot {s : ByteArray} (hs : s.size < 1099511627776) : Tot (spec_l15Num s) fun r => r.2 = true → 1 ≤ s.size := by
  unfold spec_l15Num
  refine Tot.bind (and_guard fun hc => Tot.bind (sidx_tot (by omega) (by omega)) fun _ _ => Tot.pure trivial) fun b hb => ?_
  refine Tot.bind (p := fun z => z.size ≤ s.size) (Tot.ite (fun hb' => ?_) (fun _ => Tot.pure (Nat.le_refl _))) fun z hz => ?_
  · exact Tot.bind (ssub_tot (by omega) (by have := hb hb'; omega) (by omega)) fun z hz => Tot.pure (by omega)
  simp only [pure_bind]
  refine Tot.bind (p := fun b => b = false → 1 ≤ z.size) (Tot.ite (fun hb' => Tot.pure fun h => by cases h) (fun hb' => ?_)) fun b2 hb2 => ?_
  · simp only [Bool.or_eq_true, decide_eq_true_eq, not_or] at hb'
    refine Tot.bind (sidx_tot (by omega) (by omega)) fun a _ => ?_
    refine Tot.bind (p := fun _ => True) (Tot.ite (fun _ => Tot.pure trivial) (fun _ => Tot.pure trivial)) fun _ _ => Tot.pure fun _ => by omega
  refine Tot.ite (fun _ => Tot.pure fun h => by cases h) (fun hb' => ?_)
  have h1 := hb2 (by simpa using hb')
  refine Tot.bind (num_l0_tot (by omega) z.size 0 0 (by omega) (by omega)) fun o _ => ?_
  cases o with
  | inl r => exact Tot.pure fun _ => by omega
  | inr e => exact Tot.ite (fun _ => Tot.pure fun _ => by omega) (fun _ => Tot.pure fun _ => by omega)
theorem cut_l0_tot {s : ByteArray} {c : Int} (hs : s.size < 1099511627) : ∀ (n : Nat) (z : List ByteArray) (a i : Int), 0 ≤ a → a ≤ i → i + n = s.size + 1 → z.length + n ≤ s.size + 1 → (∀ x ∈ z, x.size ≤ s.size) → Tot (spec_l15Cut_l0 s c z a i) fun r => ∀ x ∈ r, x.size ≤ s.size := by
  intro n
  induction n with
  | zero =>
    intro z a i h0 h1 h2 h3 h4
    rw [spec_l15Cut_l0, if_neg (by omega)]
    exact ⟨_, rfl, h4⟩
  | succ n ih =>
    intro z a i h0 h1 h2 h3 h4
    rw [spec_l15Cut_l0, if_pos (by omega)]
    refine Tot.bind (or_guard fun hc => Tot.bind (sidx_tot (by omega) (by omega)) fun _ _ => Tot.pure trivial) fun b hb => ?_
    rw [wrap_id (a := i + 1) (by omega) (by omega)]
    refine Tot.ite (fun _ => ?_) (fun _ => ih z a (i + 1) h0 (by omega) (by omega) (by omega) h4)
    refine Tot.bind (ssub_tot h0 h1 (by omega)) fun y hy => ?_
    refine Tot.bind (lcat_tot (by simp only [List.length_cons, List.length_nil]; omega)) fun w hw => ?_
    subst hw
    refine ih _ (i + 1) (i + 1) (by omega) (by omega) (by omega) (by simp only [List.length_append, List.length_cons, List.length_nil]; omega) fun x hx => ?_
    rcases List.mem_append.1 hx with hx | hx
    · exact h4 x hx
    · rw [List.mem_singleton] at hx; subst hx; omega
theorem sets_l0_tot {s : ByteArray} {a : Int} (hs : s.size < 1099511627776) : ∀ (n : Nat) (i : Int), 0 ≤ i → i + n = s.size → Tot (spec_l1Sets_l0 s a i) fun r => i ≤ r ∧ r ≤ s.size := by
  intro n
  induction n with
  | zero =>
    intro i h0 h
    rw [spec_l1Sets_l0, if_neg (by omega)]
    exact ⟨i, rfl, by omega, by omega⟩
  | succ n ih =>
    intro i h0 h
    rw [spec_l1Sets_l0]
    refine Tot.bind (and_guard fun hc => Tot.bind (sidx_tot h0 hc) fun _ _ => Tot.pure trivial) fun b hb => ?_
    refine Tot.ite (fun hb' => ?_) (fun _ => Tot.pure ⟨by omega, by omega⟩)
    rw [wrap_id (by omega) (by omega)]
    exact (ih (i + 1) (by omega) (by omega)).mono fun r hr => ⟨by omega, hr.2⟩
theorem sets_l1_tot {e : Int} {l : List ByteArray} (hl : ∀ x ∈ l, x.size < 1099511627776) : ∀ (n : Nat) (z : List Int) (i : Int), 0 ≤ i → i + n = 25 → z.length ≤ i → Tot (spec_l1Sets_l1 e l z i) fun r => match r with | .inl r => r.2 = -1 ∧ r.1.length ≤ 25 | .inr r => r.length ≤ 25 := by
  intro n
  induction n with
  | zero =>
    intro z i h0 h1 h2
    rw [spec_l1Sets_l1]
    refine Tot.bind (p := fun b => b = true → i < l.length ∧ i ≤ 24) (Tot.pure fun h => by simpa using h) fun b hb => ?_
    refine Tot.ite (fun h => by have := hb h; omega) (fun _ => Tot.pure (by simp only; omega))
  | succ n ih =>
    intro z i h0 h1 h2
    rw [spec_l1Sets_l1]
    refine Tot.bind (p := fun b => b = true → i < l.length ∧ i ≤ 24) (Tot.pure fun h => by simpa using h) fun b hb => ?_
    refine Tot.ite (fun h => ?_) (fun _ => Tot.pure (by simp only; omega))
    have := hb h
    refine Tot.bind (idx_tot h0 this.1) fun x hx => ?_
    refine Tot.bind (num15_tot (hl x hx)) fun v _ => ?_
    refine Tot.ite (fun _ => Tot.pure (by simp only; exact ⟨trivial, by omega⟩)) (fun _ => ?_)
    refine Tot.bind (lcat_tot (by simp only [List.length_cons, List.length_nil]; omega)) fun w hw => ?_
    subst hw
    rw [wrap_id (a := i + 1) (by omega) (by omega)]
    exact ih _ (i + 1) (by omega) (by omega) (by simp only [List.length_append, List.length_cons, List.length_nil]; omega)
theorem sets_tot {s : ByteArray} (hs : s.size < 1099511627) {i : Int} (h0 : 0 ≤ i) (h : i ≤ s.size) : Tot (spec_l1Sets s i) fun r => r.1.length ≤ 25 ∧ (r.2 = -1 ∨ (i ≤ r.2 ∧ r.2 ≤ s.size)) := by
  unfold spec_l1Sets
  refine Tot.bind (p := fun b => b = false → i < s.size ∧ sidx s i = some 123) (Tot.ite (fun _ => Tot.pure fun h => by cases h) (fun hc => ?_)) fun b hb => ?_
  · obtain ⟨v, hv, _⟩ := sidx_tot (s := s) h0 (by omega)
    rw [hv]
    refine Tot.bind (p := fun a => a = v) ⟨v, rfl, rfl⟩ fun a ha => Tot.pure fun h => ⟨by omega, ?_⟩
    subst ha
    have : a = 123 := by simpa using h
    rw [this]
  refine Tot.ite (fun _ => Tot.pure ⟨by simp, .inr ⟨by simp, h⟩⟩) (fun hb' => ?_)
  obtain ⟨hi, hv⟩ := hb (by simpa using hb')
  have he : Tot (spec_l1Sets_l0 s i i) fun e => i + 1 ≤ e ∧ e ≤ s.size := by
    rw [spec_l1Sets_l0, if_pos hi, hv]
    refine Tot.bind (p := fun b => b = true) ⟨true, rfl, rfl⟩ fun b hb => ?_
    rw [if_pos hb, wrap_id (by omega) (by omega)]
    exact sets_l0_tot (by omega) (s.size - (i + 1).toNat) (i + 1) (by omega) (by omega)
  refine Tot.bind he fun e he => ?_
  refine Tot.ite (fun _ => Tot.pure ⟨by simp, .inl rfl⟩) (fun hne => ?_)
  rw [wrap_id (a := i + 1) (by omega) (by omega), wrap_id (a := e + 1) (by omega) (by omega)]
  refine Tot.bind (ssub_tot (by omega) he.1 he.2) fun x hx => ?_
  have hc : Tot (spec_l15Cut x 44) fun r => ∀ y ∈ r, y.size ≤ x.size := by
    unfold spec_l15Cut
    exact Tot.bind (cut_l0_tot (by omega) (x.size + 1) [] 0 0 (by omega) (by omega) (by omega) (by simp) (by simp)) fun r hr => Tot.pure hr
  refine Tot.bind hc fun r hr => ?_
  refine Tot.bind (sets_l1_tot (fun y hy => by have := hr y hy; omega) 25 [] 0 (by omega) (by omega) (by simp)) fun o ho => ?_
  cases o with
  | inl r => exact Tot.pure ⟨ho.2, .inl ho.1⟩
  | inr r => exact Tot.pure ⟨ho, .inr ⟨by simp only; omega, by simp only; omega⟩⟩
theorem empty_of_size {s : ByteArray} (h : s.size = 0) : s = ByteArray.mk #[] := by
  obtain ⟨⟨l⟩⟩ := s
  congr
  simpa [ByteArray.size] using h
/-- A form that was read from a to b. -/
def ReadI (s : ByteArray) (i : Int) (r : Fm × Int) : Prop := r.2 = -1 ∨ (i < r.2 ∧ r.2 ≤ s.size ∧ (r.1.sz : Int) + 1 ≤ 27 * (r.2 - i))
theorem atom_tot {s : ByteArray} (hs : s.size < 1099511627) {i : Int} (h0 : 0 ≤ i) (h : i ≤ s.size) : Tot (spec_l1Atom s i) (ReadI s i) := by
  unfold spec_l1Atom
  refine Tot.bind (word_tot' (by omega) h0 h) fun j hj => ?_
  refine Tot.bind (ssub_tot h0 hj.1 hj.2) fun w hw => ?_
  refine Tot.bind (num15_tot (by omega)) fun v hv => ?_
  refine Tot.ite (fun hb => ?_) (fun _ => ?_)
  · have := hv hb
    refine Tot.pure (.inr ⟨by simp only; omega, by simp only; omega, ?_⟩)
    simp only; rw [sz_mk]; show ((0 + 0 + 0 + 0 : Nat) : Int) + 1 ≤ _; omega
  refine Tot.ite (fun _ => Tot.pure (.inl rfl)) (fun hne => ?_)
  have hj1 : i < j := by
    rcases Int.lt_or_le i j with h1 | h1
    · exact h1
    · exact absurd (empty_of_size (s := w) (by omega)) hne
  refine Tot.bind (sets_tot hs (by omega) hj.2) fun t ht => Tot.pure ?_
  rcases ht.2 with h2 | h2
  · exact .inl h2
  · refine .inr ⟨by simp only; omega, h2.2, ?_⟩
    simp only; rw [sz_mk]
    have := ht.1
    show ((w.size + t.1.length + 0 + 0 : Nat) : Int) + 1 ≤ _
    omega
theorem read_tot {s : ByteArray} (hs : s.size < 1099511627) : ∀ (d : Nat), d < 1000 → ∀ (i : Int), 0 ≤ i → i ≤ s.size → Tot (spec_l1Read s i d) (ReadI s i) := by
  intro d
  induction d with
  | zero =>
    intro _ i h0 h
    rw [spec_l1Read]
    refine Tot.bind (skip_tot' (by omega) h0 h) fun j hj => ?_
    refine Tot.bind (p := fun b => b = true) (Tot.pure (by simp)) fun b hb => ?_
    rw [if_pos hb]
    exact Tot.pure (.inl rfl)
  | succ d ih =>
    intro hd i h0 h
    have loop : ∀ (n : Nat) (z : List Fm) (a : Int) (j : Int), 0 ≤ a → a ≤ j → j + n = s.size → z.length ≤ 400 → (sumL Fm.sz z : Int) + z.length ≤ 27 * (j - a) → Tot (spec_l1Read_l0 s ((d + 1 : Nat) : Int) z j) fun o => match o with | .inl r => r.2 = -1 | .inr r => a ≤ r.2 ∧ r.2 ≤ s.size ∧ (sumL Fm.sz r.1 : Int) + r.1.length ≤ 27 * (r.2 - a) := by
      intro n
      induction n using Nat.strongRecOn with
      | _ n ihn =>
        intro z a j ha haj hj hz hsz
        rw [spec_l1Read_l0]
        refine Tot.bind (and_guard fun hc => Tot.bind (sidx_tot (by omega) hc) fun _ _ => Tot.pure trivial) fun b hb => ?_
        refine Tot.bind (p := fun b' => b' = true → b = true ∧ (z.length : Int) < 400) (Tot.pure fun h => by simpa using h) fun b' hb' => ?_
        refine Tot.ite (fun hbt => ?_) (fun _ => Tot.pure (by simp only; exact ⟨haj, by omega, hsz⟩))
        obtain ⟨h1, h2⟩ := hb' hbt
        have h3 := hb h1
        rw [wrap_id (by omega) (by omega), show ((d + 1 : Nat) : Int) - 1 = (d : Int) by omega]
        refine Tot.bind (ih (by omega) j (by omega) (by omega)) fun x hx => ?_
        refine Tot.ite (fun _ => Tot.pure (by simp only)) (fun hx0 => ?_)
        rcases hx with hx | hx
        · omega
        refine Tot.bind (lcat_tot (by simp only [List.length_cons, List.length_nil]; omega)) fun w hw => ?_
        subst hw
        refine Tot.bind (skip_tot' (by omega) (by omega) hx.2.1) fun k hk => ?_
        refine ihn (s.size - k.toNat) (by omega) _ a k ha (by omega) (by omega) (by simp only [List.length_append, List.length_cons, List.length_nil]; omega) ?_
        simp only [sumL_app, sumL, List.length_append, List.length_cons, List.length_nil]
        omega
    rw [spec_l1Read]
    refine Tot.bind (skip_tot' (by omega) h0 h) fun j hj => ?_
    refine Tot.bind (p := fun b => b = false → j < s.size) (Tot.pure fun h => by simp at h; omega) fun b hb => ?_
    refine Tot.ite (fun _ => Tot.pure (.inl rfl)) (fun hb' => ?_)
    have hjs := hb (by simpa using hb')
    refine Tot.bind (sidx_tot (by omega) hjs) fun c _ => ?_
    refine Tot.ite (fun _ => ?_) (fun _ => ?_)
    · rw [wrap_id (a := j + 1) (by omega) (by omega)]
      refine Tot.bind (skip_tot' (by omega) (by omega) (by omega)) fun k hk => ?_
      refine Tot.bind (loop (s.size - k.toNat) [] k k (by omega) (by omega) (by omega) (by simp) (by simp [sumL])) fun o ho => ?_
      cases o with
      | inl r => exact Tot.pure (.inl ho)
      | inr r =>
        obtain ⟨r1, r2⟩ := r
        simp only at ho ⊢
        refine Tot.bind (or_guard fun hc => Tot.bind (sidx_tot (by omega) (by omega)) fun _ _ => Tot.pure trivial) fun b hb => ?_
        refine Tot.ite (fun _ => Tot.pure (.inl rfl)) (fun hb' => ?_)
        have := hb (by simpa using hb')
        rw [wrap_id (a := r2 + 1) (by omega) (by omega)]
        refine Tot.pure (.inr ⟨by simp only; omega, by simp only; omega, ?_⟩)
        simp only; rw [sz_mk]
        show ((0 + 0 + r1.length + sumL Fm.sz r1 : Nat) : Int) + 1 ≤ _
        omega
    · refine Tot.bind (atom_tot hs (by omega) (by omega)) fun x hx => Tot.pure ?_
      rcases hx with hx | hx
      · exact .inl hx
      · exact .inr ⟨by simp only; omega, hx.2.1, by have := hx.2.2; simp only; omega⟩
end Go.Proofs.SA
