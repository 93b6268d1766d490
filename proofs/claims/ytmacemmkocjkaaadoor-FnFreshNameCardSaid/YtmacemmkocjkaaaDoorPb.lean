/- The draws yield something: the reader, copies, mutations, drawn forms. Imports the plain functions of a seat (gen2). -/
import Derived.Test.YtmacemmkocjkaaaDoorPa
import Derived.Test.YtmacemmkocjkaaaDoorFnD
set_option linter.unusedVariables false
set_option linter.unusedSimpArgs false
set_option maxRecDepth 100000
open Go Go.Proofs Go.Proofs.Shadow
namespace Go.Proofs.SA
def RdI (c : Rdr) (k : Nat) : Prop := c.b.length ≤ 2000 ∧ (∀ x ∈ c.b, 0 ≤ x ∧ x < 256) ∧ 0 ≤ c.p ∧ c.p ≤ k
theorem RdI.mono {c : Rdr} {k k' : Nat} (h : RdI c k) (hk : k ≤ k') : RdI c k' := ⟨h.1, h.2.1, h.2.2.1, by have := h.2.2.2; omega⟩
theorem open_tot {l : List Int} (h : ∀ x ∈ l, 0 ≤ x ∧ x < 256) : Tot (spec_l15Open l) fun c => RdI c 0 := by
  unfold spec_l15Open
  refine Tot.ite (fun hc => ?_) (fun hc => ?_)
  · refine Tot.bind (lsub_tot (by omega) (by omega) (by omega)) fun z hz => Tot.pure ⟨by have := hz.1; simp only; omega, fun x hx => h x (hz.2 x hx), by simp, by simp⟩
  · exact Tot.pure ⟨by simp only; omega, h, by simp, by simp⟩
theorem pick_tot {c : Rdr} {k : Nat} {n : Int} (h : RdI c k) (hk : k < 1099511627776) (h1 : 1 ≤ n) : Tot (spec_l15Rd_pick n c) fun r => 0 ≤ r.1 ∧ r.1 < n ∧ RdI r.2 (k + 1) := by
  obtain ⟨hb, hx, hp0, hpk⟩ := h
  unfold spec_l15Rd_pick
  have w1 : IntKind.i64.wrap (c.p + 1) = c.p + 1 := wrap_id (by omega) (by omega)
  have w2 : IntKind.i64.wrap (c.p + 1 - 1) = c.p := by rw [wrap_id (by omega) (by omega)]; omega
  simp only [w1, w2, pure_bind]
  have hR : RdI ⟨c.b, c.p + 1⟩ (k + 1) := ⟨hb, hx, by simp only; omega, by simp only; omega⟩
  refine Tot.ite (fun hc => Tot.pure ⟨by simp, by simp only; omega, hR⟩) (fun hc => ?_)
  simp only [Bool.or_eq_true, decide_eq_true_eq, not_or] at hc
  refine Tot.ite (fun hl => ?_) (fun hl => ?_)
  · refine Tot.bind (idx_tot hp0 hl) fun x hm => ?_
    have := hx x hm
    rw [wrap_id (a := x) (by omega) (by omega)]
    exact Tot.bind (irem_tot (by omega) h1) fun y hy => Tot.pure ⟨hy.1, hy.2, hR⟩
  · refine Tot.bind (irem_tot hp0 (by omega)) fun i hi => ?_
    refine Tot.bind (idx_tot hi.1 hi.2) fun x hm => ?_
    have h2 := hx x hm
    have w3 : IntKind.i64.wrap (IntKind.i64.wrap (c.p * 7) + 3) = c.p * 7 + 3 := by rw [wrap_id (a := c.p * 7) (by omega) (by omega), wrap_id (by omega) (by omega)]
    rw [w3]
    refine Tot.bind (irem_tot (by omega) (by omega)) fun j hj => ?_
    refine Tot.bind (idx_tot hj.1 hj.2) fun y hm2 => ?_
    have h3 := hx y hm2
    refine Tot.bind (iquo_tot hp0 (by omega) (by omega)) fun q hq => ?_
    have e : IntKind.i64.wrap (IntKind.i64.wrap (IntKind.i64.wrap (IntKind.i64.wrap (IntKind.i64.wrap x * 131) + IntKind.i64.wrap (IntKind.i64.wrap y * 1117)) + IntKind.i64.wrap (c.p * 29)) + IntKind.i64.wrap (q * 53)) = x * 131 + y * 1117 + c.p * 29 + q * 53 := by
      rw [wrap_id (a := x) (by omega) (by omega), wrap_id (a := y) (by omega) (by omega), wrap_id (a := x * 131) (by omega) (by omega), wrap_id (a := y * 1117) (by omega) (by omega), wrap_id (a := c.p * 29) (by omega) (by omega), wrap_id (a := q * 53) (by omega) (by omega), wrap_id (a := x * 131 + y * 1117) (by omega) (by omega), wrap_id (a := x * 131 + y * 1117 + c.p * 29) (by omega) (by omega), wrap_id (by omega) (by omega)]
    rw [e]
    generalize hv : x * 131 + y * 1117 + c.p * 29 + q * 53 = v
    have v0 : 0 ≤ v := by omega
    have v1 : v < 1099511627776000 := by omega
    have d0 : 0 ≤ v.tdiv 64 := Int.tdiv_nonneg v0 (by omega)
    have d1 : v.tdiv 64 ≤ v := Int.tdiv_le_self _ v0
    rw [wrap_id (a := v.tdiv 64) (by omega) (by omega)]
    have := bits_xor v0 (by omega) d0 (by omega)
    exact Tot.bind (irem_tot this.1 h1) fun z hz => Tot.pure ⟨hz.1, hz.2, hR⟩
theorem num_tot {c : Rdr} {k : Nat} {l : List Int} (h : RdI c k) (hk : k < 1099511627776) (hl : 1 ≤ l.length) : Tot (spec_l15Rd_num l c) fun r => r.1 ∈ l ∧ RdI r.2 (k + 1) := by
  unfold spec_l15Rd_num
  refine Tot.bind (pick_tot h hk (by omega)) fun x hx => ?_
  exact Tot.bind (idx_tot hx.1 hx.2.1) fun y hy => Tot.pure ⟨hy, hx.2.2⟩
theorem of_tot {c : Rdr} {k : Nat} {l : List ByteArray} (h : RdI c k) (hk : k < 1099511627776) (hl : 1 ≤ l.length) : Tot (spec_l15Rd_of l c) fun r => r.1 ∈ l ∧ RdI r.2 (k + 1) := by
  unfold spec_l15Rd_of
  refine Tot.bind (pick_tot h hk (by omega)) fun x hx => ?_
  exact Tot.bind (idx_tot hx.1 hx.2.1) fun y hy => Tot.pure ⟨hy, hx.2.2⟩
theorem sz_mk (k : Int) (s : ByteArray) (n : Int) (sc : List Int) (ks : List Fm) : (Fm.mk k s n sc ks).sz = s.size + sc.length + ks.length + sumL Fm.sz ks := by rw [Fm.sz_eq]; rfl
theorem name_tot (s : ByteArray) : Tot (spec_l1Name s) fun f => f.sz = s.size := ⟨_, rfl, by simp only; rw [sz_mk]; simp [sumL]⟩
theorem list_tot (l : List Fm) : Tot (spec_l1List l) fun f => f.sz = l.length + sumL Fm.sz l := ⟨_, rfl, by simp only; rw [sz_mk]; show 0 + 0 + _ + _ = _; omega⟩
/-- bound of the recursion -/
def Pw (d : Nat) : Nat := 100 * 4 ^ d
theorem Pw_succ (d : Nat) : Pw (d + 1) = 4 * Pw d := by simp only [Pw, Nat.pow_succ]; omega
theorem Pw_ge (d : Nat) : 100 ≤ Pw d := by simp only [Pw]; have : 0 < 4 ^ d := Nat.pow_pos (by omega); omega
def names8 : List ByteArray := [(ByteArray.mk #[97]), (ByteArray.mk #[98]), (ByteArray.mk #[120]), (ByteArray.mk #[121]), (ByteArray.mk #[102]), (ByteArray.mk #[105, 102]), (ByteArray.mk #[108, 101, 116]), (ByteArray.mk #[43])]
theorem some_tot : ∀ (d : Nat) {c : Rdr} {k : Nat}, RdI c k → d < 20 → k + Pw d < 1099511627776 → Tot (spec_l1Some d c) fun r => r.1.sz ≤ Pw d ∧ RdI r.2 (k + Pw d) := by
  have base : ∀ {c : Rdr} {k n : Nat} {p : Int → Prop} {q : ByteArray → Prop}, RdI c k → 100 ≤ n → k + n < 1099511627776 + 1 → Tot (spec_l15Rd_pick 4 c >>= fun x => if x.1 = 0 then (spec_l15Rd_num [0, 1, 2, 7, 42, 999] x.2 >>= fun y => pure (Fm.mk 2 (ByteArray.mk #[]) y.1 [] [], y.2)) else (spec_l15Rd_of names8 x.2 >>= fun y => spec_l1Name y.1 >>= fun z => pure (z, y.2))) fun r => r.1.sz ≤ 100 ∧ RdI r.2 (k + 2) := by
    intro c k n p q h hn hk
    refine Tot.bind (pick_tot h (by omega) (by omega)) fun x hx => ?_
    refine Tot.ite (fun _ => ?_) (fun _ => ?_)
    · exact Tot.bind (num_tot hx.2.2 (by omega) (by simp)) fun y hy => Tot.pure ⟨by simp only; rw [sz_mk]; show 0 + 0 + 0 + 0 ≤ 100; omega, hy.2⟩
    · refine Tot.bind (of_tot hx.2.2 (by omega) (by simp [names8])) fun y hy => ?_
      refine Tot.bind (name_tot _) fun z hz => Tot.pure ⟨?_, hy.2⟩
      have : ∀ s ∈ names8, s.size ≤ 100 := by decide
      simp only; rw [hz]; exact this _ hy.1
  intro d
  induction d with
  | zero =>
    intro c k h hd hk
    rw [spec_l1Some]
    rw [if_pos (by rfl)]
    exact (base (p := fun _ => True) (q := fun _ => True) h (Nat.le_refl 100) (by have := Pw_ge 0; omega)).mono fun r hr => ⟨by have := Pw_ge 0; omega, hr.2.mono (by have := Pw_ge 0; omega)⟩
  | succ d ih =>
    intro c k h hd hk
    have hp := Pw_ge d
    have hs := Pw_succ d
    have loop : ∀ (n : Nat) {z : List Fm} {b : List Int} {p : Int} {k : Nat}, n ≤ 3 → z.length + n ≤ 3 → RdI ⟨b, p⟩ k → k + n * Pw d < 1099511627776 → Tot (spec_l1Some_l0 ((d + 1 : Nat) : Int) z n b p) fun r => r.1.length ≤ z.length + n ∧ sumL Fm.sz r.1 ≤ sumL Fm.sz z + n * Pw d ∧ RdI ⟨r.2.1, r.2.2⟩ (k + n * Pw d) := by
      intro n
      induction n with
      | zero =>
        intro z b p k _ _ h _
        rw [spec_l1Some_l0, if_neg (by omega)]
        exact Tot.pure ⟨by simp, by simp, by simpa using h⟩
      | succ n ihn =>
        intro z b p k hn hz h hk
        rw [Nat.succ_mul] at hk
        rw [spec_l1Some_l0, if_pos (by omega)]
        have w1 : IntKind.i64.wrap (((d + 1 : Nat) : Int) - 1) = (d : Int) := by rw [wrap_id (by omega) (by omega)]; omega
        have w2 : IntKind.i64.wrap (((n + 1 : Nat) : Int) - 1) = (n : Int) := by rw [wrap_id (by omega) (by omega)]; omega
        rw [w1, w2]
        refine Tot.bind (ih h (by omega) (by omega)) fun x hx => ?_
        refine Tot.bind (lcat_tot (by simp only [List.length_cons, List.length_nil]; omega)) fun y hy => ?_
        subst hy
        refine (ihn (by omega) (by simp only [List.length_append, List.length_cons, List.length_nil]; omega) hx.2 (by omega)).mono fun r hr => ?_
        obtain ⟨r1, r2, r3⟩ := hr
        simp only [List.length_append, List.length_cons, List.length_nil, sumL_app, sumL] at r1 r2
        rw [Nat.succ_mul]
        exact ⟨by omega, by have := hx.1; omega, r3.mono (by omega)⟩
    rw [spec_l1Some, if_neg (by omega)]
    refine Tot.bind (pick_tot h (by omega) (by omega)) fun x hx => ?_
    refine Tot.ite (fun _ => ?_) (fun _ => ?_)
    · exact (base (p := fun _ => True) (q := fun _ => True) hx.2.2 (Nat.le_refl 100) (by omega)).mono fun r hr => ⟨by omega, hr.2.mono (by omega)⟩
    · refine Tot.bind (pick_tot hx.2.2 (by omega) (by omega)) fun y hy => ?_
      obtain ⟨m, hm⟩ := Int.eq_ofNat_of_zero_le hy.1
      have hm3 : m ≤ 3 := by have := hy.2.1; omega
      have hmul : m * Pw d ≤ 3 * Pw d := Nat.mul_le_mul_right _ hm3
      rw [hm]
      refine Tot.bind (loop m hm3 (by simp; omega) hy.2.2 (by omega)) fun r hr => ?_
      obtain ⟨r1, r2, r3⟩ := hr
      simp only [List.length_nil, sumL] at r1 r2
      refine Tot.pure ⟨?_, r3.mono (by omega)⟩
      simp only; rw [sz_mk]
      show 0 + 0 + _ + _ ≤ _
      omega
end Go.Proofs.SA
