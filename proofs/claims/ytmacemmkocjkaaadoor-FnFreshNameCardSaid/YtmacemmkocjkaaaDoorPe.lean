/- FormValid yields something; so does ParseForm; so do the draws of the rename laws. -/
import Derived.Test.YtmacemmkocjkaaaDoorPd
set_option linter.unusedVariables false
set_option linter.unusedSimpArgs false
set_option maxRecDepth 100000
open Go Go.Proofs Go.Proofs.Shadow
namespace Go.Proofs.SA
theorem letter_tot (c : Int) (b : Bool) : Tot (spec_l1Letter c b) fun _ => True := by
  unfold spec_l1Letter
  simp only [pure_bind]
  refine Tot.ite (fun _ => Tot.pure trivial) (fun _ => ?_)
  exact Tot.bind (p := fun _ => True) (Tot.ite (fun _ => Tot.pure trivial) (fun _ => Tot.pure trivial)) fun _ _ => Tot.pure trivial
theorem nameValid_l0_tot {s : ByteArray} : ∀ (n : Nat) (i : Int), 0 ≤ i → i + n = 13 → Tot (spec_NameValid_l0 s i) fun _ => True := by
  intro n
  induction n with
  | zero =>
    intro i h0 h
    rw [spec_NameValid_l0]
    refine Tot.bind (p := fun b => b = true → i < s.size ∧ i ≤ 12) (Tot.pure fun h => by simpa using h) fun b hb => ?_
    exact Tot.ite (fun h => by have := hb h; omega) (fun _ => Tot.pure trivial)
  | succ n ih =>
    intro i h0 h
    rw [spec_NameValid_l0]
    refine Tot.bind (p := fun b => b = true → i < s.size ∧ i ≤ 12) (Tot.pure fun h => by simpa using h) fun b hb => ?_
    refine Tot.ite (fun h => ?_) (fun _ => Tot.pure trivial)
    have := hb h
    refine Tot.bind (sidx_tot h0 this.1) fun c _ => ?_
    refine Tot.bind (letter_tot _ _) fun v _ => ?_
    refine Tot.ite (fun _ => Tot.pure trivial) (fun _ => ?_)
    rw [wrap_id (by omega) (by omega)]
    exact ih _ (by omega) (by omega)
theorem nameValid_tot (s : ByteArray) : Tot (spec_NameValid s) fun _ => True := by
  unfold spec_NameValid
  refine Tot.bind (p := fun _ => True) (Tot.pure trivial) fun _ _ => ?_
  refine Tot.ite (fun _ => Tot.pure trivial) (fun _ => ?_)
  refine Tot.bind (nameValid_l0_tot 13 0 (by omega) (by omega)) fun o _ => ?_
  cases o with
  | inl r => exact Tot.pure trivial
  | inr r => exact Tot.bind (p := fun _ => True) (Tot.pure trivial) fun _ _ => Tot.pure trivial
theorem scopes_l0_tot {l : List Int} : ∀ (n : Nat) (i : Int), 0 ≤ i → i + n = 25 → Tot (spec_l1Scopes_l0 l i) fun _ => True := by
  intro n
  induction n with
  | zero =>
    intro i h0 h
    rw [spec_l1Scopes_l0]
    refine Tot.bind (p := fun b => b = true → i < l.length ∧ i ≤ 24) (Tot.pure fun h => by simpa using h) fun b hb => ?_
    exact Tot.ite (fun h => by have := hb h; omega) (fun _ => Tot.pure trivial)
  | succ n ih =>
    intro i h0 h
    rw [spec_l1Scopes_l0]
    refine Tot.bind (p := fun b => b = true → i < l.length ∧ i ≤ 24) (Tot.pure fun h => by simpa using h) fun b hb => ?_
    refine Tot.ite (fun h => ?_) (fun _ => Tot.pure trivial)
    have hi := (hb h).1
    have hx := idx_tot h0 hi
    refine Tot.bind hx fun x _ => ?_
    refine Tot.bind (p := fun _ => True) (Tot.ite (fun _ => Tot.pure trivial) (fun _ => Tot.bind hx fun _ _ => Tot.pure trivial)) fun _ _ => ?_
    refine Tot.bind (p := fun _ => True) (Tot.ite (fun _ => Tot.pure trivial) (fun _ => ?_)) fun _ _ => ?_
    · refine Tot.bind (p := fun _ => True) (Tot.ite (fun h1 => ?_) (fun _ => Tot.pure trivial)) fun _ _ => Tot.pure trivial
      rw [wrap_id (by omega) (by omega)]
      exact Tot.bind hx fun _ _ => Tot.bind (idx_tot (by omega) (by omega)) fun _ _ => Tot.pure trivial
    refine Tot.ite (fun _ => Tot.pure trivial) (fun _ => ?_)
    rw [wrap_id (by omega) (by omega)]
    exact ih _ (by omega) (by omega)
theorem scopes_tot (l : List Int) : Tot (spec_l1Scopes l) fun _ => True := by
  unfold spec_l1Scopes
  refine Tot.bind (scopes_l0_tot 25 0 (by omega) (by omega)) fun o _ => ?_
  cases o with
  | inl r => exact Tot.pure trivial
  | inr r => exact Tot.pure trivial
theorem pb {α : Type} {b : Bool} {k : Bool → Option α} {p : α → Prop} (h : ∀ b, Tot (k b) p) : Tot ((pure b : Option Bool) >>= k) p := h b
theorem is_tot : ∀ (d : Nat), d < 1000 → ∀ (f : Fm), f.sz < 1099511627776 → Tot (spec_l1Is f d) fun _ => True := by
  intro d
  induction d with
  | zero => intro _ f _; rw [spec_l1Is, if_pos (by rfl)]; exact Tot.pure trivial
  | succ d ih =>
    intro hd f hf
    have hz := Fm.sz_eq f
    have loop : ∀ (n : Nat) (i : Int), 0 ≤ i → i + n = f.kids.length → Tot (spec_l1Is_l0 f ((d + 1 : Nat) : Int) i) fun _ => True := by
      intro n
      induction n with
      | zero => intro i h0 h; rw [spec_l1Is_l0, if_neg (by omega)]; exact Tot.pure trivial
      | succ n ihn =>
        intro i h0 h
        rw [spec_l1Is_l0, if_pos (by omega)]
        refine Tot.bind (idx_tot h0 (by omega)) fun g hg => ?_
        rw [wrap_id (by omega) (by omega), wrap_id (by omega) (by omega), show ((d + 1 : Nat) : Int) - 1 = (d : Int) by omega]
        refine Tot.bind (ih (by omega) g (by have := Fm.sz_kid hg; omega)) fun b _ => ?_
        exact Tot.ite (fun _ => Tot.pure trivial) (fun _ => ihn (i + 1) (by omega) (by omega))
    rw [spec_l1Is, if_neg (by omega)]
    refine Tot.ite (fun _ => ?_) (fun _ => ?_)
    · refine Tot.bind (nameValid_tot _) fun _ _ => pb fun b => ?_
      refine Tot.bind (p := fun _ => True) (Tot.ite (fun _ => Tot.bind (scopes_tot _) fun _ _ => Tot.pure trivial) (fun _ => Tot.pure trivial)) fun _ _ => pb fun _ => Tot.pure trivial
    refine Tot.ite (fun _ => pb fun _ => pb fun _ => pb fun _ => pb fun _ => Tot.pure trivial) (fun _ => ?_)
    refine pb fun _ => pb fun _ => pb fun _ => ?_
    refine Tot.ite (fun _ => Tot.pure trivial) (fun _ => ?_)
    refine Tot.bind (loop f.kids.length 0 (by omega) (by omega)) fun o _ => ?_
    cases o with
    | inl r => exact Tot.pure trivial
    | inr r => exact Tot.pure trivial
theorem count_tot : ∀ (f : Fm), f.sz < 1099511627776 → Tot (spec_l1Count f) fun _ => True := by
  intro f
  induction f using Fm.ind with
  | h f ih =>
    intro hf
    have hz := Fm.sz_eq f
    have loop : ∀ (n : Nat) (v i : Int), 0 ≤ i → i + n = f.kids.length → Tot (spec_l1Count_l0 f v i) fun _ => True := by
      intro n
      induction n with
      | zero => intro v i h0 h; rw [spec_l1Count_l0, if_neg (by omega)]; exact Tot.pure trivial
      | succ n ihn =>
        intro v i h0 h
        rw [spec_l1Count_l0, if_pos (by omega)]
        refine Tot.bind (idx_tot h0 (by omega)) fun g hg => ?_
        refine Tot.bind (ih g hg (by have := Fm.sz_kid hg; omega)) fun b _ => ?_
        rw [wrap_id (a := i + 1) (by omega) (by omega)]
        exact ihn _ (i + 1) (by omega) (by omega)
    rw [spec_l1Count]
    exact Tot.bind (loop f.kids.length 1 0 (by omega) (by omega)) fun _ _ => Tot.pure trivial
theorem formValid_tot {f : Fm} (hf : f.sz < 1099511627776) : Tot (spec_FormValid f) fun _ => True := by
  unfold spec_FormValid
  refine Tot.bind (is_tot 40 (by omega) f hf) fun _ _ => ?_
  exact Tot.bind (p := fun _ => True) (Tot.ite (fun _ => Tot.bind (count_tot f hf) fun _ _ => Tot.pure trivial) (fun _ => Tot.pure trivial)) fun _ _ => Tot.pure trivial
theorem parseForm_tot {s : ByteArray} (hs : s.size < 1099511627) : Tot (spec_ParseForm s) fun r => r.1.sz ≤ 27 * s.size := by
  unfold spec_ParseForm
  refine Tot.bind (read_tot hs 40 (by omega) 0 (by omega) (by omega)) fun x hx => ?_
  refine Tot.bind (p := fun b => b = false → 0 ≤ x.2) (Tot.ite (fun _ => Tot.pure fun h => by cases h) (fun h => ?_)) fun b hb => ?_
  · have h2 : x.2 ≤ s.size := by rcases hx with hx | hx <;> omega
    exact Tot.bind (skip_tot' (by omega) (by omega) h2) fun _ _ => Tot.pure fun _ => by omega
  have hsz : 0 ≤ x.2 → x.1.sz ≤ 27 * s.size := fun h => by
    rcases hx with hx | hx
    · omega
    · have := hx.2.1; have := hx.2.2; omega
  refine Tot.bind (p := fun b' => b' = false → 0 ≤ x.2) (Tot.ite (fun _ => Tot.pure fun h => by cases h) (fun h => ?_)) fun b' hb' => ?_
  · have h0 := hb (by simpa using h)
    exact Tot.bind (formValid_tot (by have := hsz h0; omega)) fun _ _ => Tot.pure fun _ => h0
  refine Tot.ite (fun _ => Tot.pure ?_) (fun h => Tot.pure (hsz (hb' (by simpa using h))))
  simp only; rw [sz_mk]; show 0 + 0 + 0 + 0 ≤ _; omega
theorem parse_tot {s : ByteArray} (hs : s.size ≤ 1000) : Tot (spec_l1Parse s) fun r => r.sz ≤ 27000 := by
  unfold spec_l1Parse
  exact Tot.bind (parseForm_tot (by omega)) fun r hr => Tot.pure (by omega)
theorem texts7_tot : Tot spec_l7Texts fun l => 1 ≤ l.length ∧ ∀ s ∈ l, s.size ≤ 1000 := ⟨_, rfl, by decide, by decide⟩
theorem draw7_tot {c : Rdr} {k : Nat} (h : RdI c k) (hk : k < 1000000000) : Tot (spec_l7Draw c) fun r => r.1.sz ≤ 1000000 ∧ RdI r.2 (k + 1000000) := by
  unfold spec_l7Draw
  refine Tot.bind texts7_tot fun l hl => ?_
  refine Tot.bind (pick_tot h (by omega) (by omega)) fun x hx => ?_
  refine Tot.ite (fun _ => ?_) (fun _ => ?_)
  · refine Tot.bind (pick_tot hx.2.2 (by omega) (by omega)) fun y hy => ?_
    refine Tot.bind (idx_tot hy.1 hy.2.1) fun s hs => ?_
    exact Tot.bind (parse_tot (hl.2 s hs)) fun r hr => Tot.pure ⟨by simp only; omega, hy.2.2.mono (by omega)⟩
  refine Tot.bind (num_tot hx.2.2 (by omega) (by simp)) fun d hd => ?_
  have hd' : d.1 = 4 ∨ d.1 = 3 ∨ d.1 = 2 := by simpa using hd.1
  have hdn : ∃ n : Nat, n ≤ 4 ∧ d.1 = (n : Int) := by
    rcases hd' with h | h | h
    · exact ⟨4, by omega, h⟩
    · exact ⟨3, by omega, h⟩
    · exact ⟨2, by omega, h⟩
  obtain ⟨n, hn, hdn⟩ := hdn
  have hq : Qw n ≤ 256000 := by
    have : Qw n ≤ Qw 4 := by
      unfold Qw
      exact Nat.mul_le_mul_left _ (Nat.pow_le_pow_right (by omega) hn)
    exact this
  rw [hdn]
  refine Tot.bind (some7_tot n hd.2 ⟨by simp, by simp; omega, by decide⟩ (by omega) (by omega)) fun v hv => ?_
  refine Tot.bind (pick_tot hv.2 (by omega) (by omega)) fun u hu => ?_
  refine Tot.ite (fun _ => ?_) (fun _ => Tot.pure ⟨by have := hv.1; simp only; omega, hu.2.2.mono (by omega)⟩)
  refine Tot.bind (parse_tot (by decide)) fun r hr => ?_
  refine Tot.bind (name_tot _) fun n1 h1 => ?_
  refine Tot.bind (name_tot _) fun n2 h2 => ?_
  refine Tot.bind (list_tot _) fun n3 h3 => ?_
  refine Tot.bind (list_tot _) fun n4 h4 => ?_
  refine Tot.bind (list_tot _) fun n5 h5 => Tot.pure ⟨?_, hu.2.2.mono (by omega)⟩
  have e1 : (ByteArray.mk #[108, 101, 116, 45, 115, 121, 110, 116, 97, 120]).size = 10 := rfl
  have e2 : (ByteArray.mk #[103]).size = 1 := rfl
  have := hv.1
  simp only [sumL, List.length_cons, List.length_nil] at h3 h4 h5
  simp only; omega
theorem draw9_tot {c : Rdr} {k : Nat} (h : RdI c k) (hk : k < 100000000) : Tot (spec_l9Draw c) fun r => r.1.sz ≤ 1000000 ∧ RdI r.2 (k + 1000001) := by
  unfold spec_l9Draw
  refine Tot.bind (pick_tot h (by omega) (by omega)) fun x hx => ?_
  refine Tot.ite (fun _ => ?_) (fun _ => ?_)
  · refine Tot.bind (pick_tot hx.2.2 (by omega) (by omega)) fun y hy => ?_
    refine Tot.bind (p := fun s => s.size ≤ 1000) ((idx_tot hy.1 (by simpa using hy.2.1)).mono fun s hs => ?_) fun s hs => ?_
    · revert s hs; decide
    exact Tot.bind (parse_tot hs) fun r hr => Tot.pure ⟨by simp only; omega, hy.2.2.mono (by omega)⟩
  · exact Tot.bind (draw7_tot hx.2.2 (by omega)) fun r hr => Tot.pure ⟨hr.1, hr.2.mono (by omega)⟩
theorem case9_tot {l : List Int} (h : ∀ x ∈ l, 0 ≤ x ∧ x < 256) : Tot (spec_l9Case l) fun r => r.1.sz ≤ 1000100 := by
  unfold spec_l9Case
  refine Tot.bind (open_tot h) fun c hc => ?_
  refine Tot.bind (draw9_tot hc (by omega)) fun f hf => ?_
  refine Tot.bind (pick_tot hf.2 (by omega) (by omega)) fun x hx => ?_
  have hf1 := hf.1
  refine Tot.bind (p := fun y => (Fm.mk y.1 y.2.1 y.2.2.1 y.2.2.2.1 y.2.2.2.2.1).sz ≤ 1000100 ∧ RdI ⟨y.2.2.2.2.2.1, y.2.2.2.2.2.2⟩ 100000000) (Tot.ite (fun _ => ?_) (fun _ => Tot.pure ⟨?_, hx.2.2.mono (by omega)⟩)) fun y hy => ?_
  · refine Tot.bind (mutate_tot f.1 hx.2.2 (by omega) (by omega)) fun g hg => ?_
    have := hg.1
    refine Tot.bind (mutate_tot g.1 hg.2 (by omega) (by omega)) fun g2 hg2 => Tot.pure ⟨?_, hg2.2.mono (by omega)⟩
    have h1 := hg2.1
    rw [Fm.sz_eq] at h1
    simp only; rw [sz_mk]; omega
  · rw [Fm.sz_eq] at hf1
    simp only; rw [sz_mk]; omega
  obtain ⟨y1, y2, y3, y4, y5, y6, y7⟩ := y
  exact Tot.bind (num_tot hy.2 (by omega) (by simp)) fun z hz => Tot.pure hy.1
end Go.Proofs.SA
