/- The draws yield something: l7Some, copies, mutations. -/
import Derived.Test.YtmacemmkocjkaaaDoorPb
set_option linter.unusedVariables false
set_option linter.unusedSimpArgs false
set_option maxRecDepth 100000
open Go Go.Proofs Go.Proofs.Shadow
namespace Go.Proofs.SA
def Qw (d : Nat) : Nat := 1000 * 4 ^ d
theorem Qw_succ (d : Nat) : Qw (d + 1) = 4 * Qw d := by simp only [Qw, Nat.pow_succ]; omega
theorem Qw_ge (d : Nat) : 1000 ≤ Qw d := by simp only [Qw]; have : 0 < 4 ^ d := Nat.pow_pos (by omega); omega
def NmI (l : List ByteArray) (d : Nat) : Prop := 1 ≤ l.length ∧ l.length + d ≤ 1000 ∧ ∀ s ∈ l, s.size ≤ 10
theorem some7_tot : ∀ (d : Nat) {a : List ByteArray} {c : Rdr} {k : Nat}, RdI c k → NmI a d → d < 20 → k + Qw d < 1099511627776 → Tot (spec_l7Some a d c) fun r => r.1.sz ≤ Qw d ∧ RdI r.2 (k + Qw d) := by
  have base : ∀ {a : List ByteArray} {c : Rdr} {k : Nat}, RdI c k → 1 ≤ a.length → (∀ s ∈ a, s.size ≤ 10) → k + 99 < 1099511627776 → Tot (spec_l15Rd_pick 3 c >>= fun x => if x.1 = 0 then (spec_l15Rd_num [0, 1, 2, 7] x.2 >>= fun y => pure (Fm.mk 2 (ByteArray.mk #[]) y.1 [] [], y.2)) else (spec_l15Rd_pick (a.length : Int) x.2 >>= fun y => idx a y.1 >>= fun u => spec_l1Name u >>= fun z => pure (z, y.2))) fun r => r.1.sz ≤ 100 ∧ RdI r.2 (k + 2) := by
    intro a c k h ha hs hk
    refine Tot.bind (pick_tot h (by omega) (by omega)) fun x hx => ?_
    refine Tot.ite (fun _ => ?_) (fun _ => ?_)
    · exact Tot.bind (num_tot hx.2.2 (by omega) (by simp)) fun y hy => Tot.pure ⟨by simp only; rw [sz_mk]; show 0 + 0 + 0 + 0 ≤ 100; omega, hy.2⟩
    · refine Tot.bind (pick_tot hx.2.2 (by omega) (by omega)) fun y hy => ?_
      refine Tot.bind (idx_tot hy.1 hy.2.1) fun u hu => ?_
      refine Tot.bind (name_tot _) fun z hz => Tot.pure ⟨?_, hy.2.2⟩
      have := hs u hu
      simp only; omega
  intro d
  induction d with
  | zero =>
    intro a c k h ha hd hk
    have := Qw_ge 0
    rw [spec_l7Some, if_pos (by rfl)]
    exact (base h ha.1 ha.2.2 (by omega)).mono fun r hr => ⟨by omega, hr.2.mono (by omega)⟩
  | succ d ih =>
    intro a c k h ha hd hk
    have hp := Qw_ge d
    have hs := Qw_succ d
    have w1 : IntKind.i64.wrap (((d + 1 : Nat) : Int) - 1) = (d : Int) := by rw [wrap_id (by omega) (by omega)]; omega
    rw [spec_l7Some, if_neg (by omega)]
    simp only [w1]
    refine Tot.bind (pick_tot h (by omega) (by omega)) fun x hx => ?_
    refine Tot.ite (fun _ => ?_) (fun _ => ?_)
    · exact (base hx.2.2 ha.1 ha.2.2 (by omega)).mono fun r hr => ⟨by omega, hr.2.mono (by omega)⟩
    refine Tot.bind (of_tot hx.2.2 (by omega) (by simp)) fun v hv => ?_
    have hv10 : v.1.size ≤ 10 := by
      have : ∀ s ∈ [(ByteArray.mk #[120]), (ByteArray.mk #[121]), (ByteArray.mk #[116])], s.size ≤ 10 := by decide
      exact this _ hv.1
    refine Tot.bind (lcat_tot (by have := ha.2.1; simp only [List.length_nil]; omega)) fun y hy => ?_
    rw [List.nil_append] at hy
    rw [hy]
    refine Tot.bind (lcat_tot (by have := ha.2.1; simp only [List.length_nil, List.length_cons]; omega)) fun y hy => ?_
    subst hy
    have ha0 : NmI a d := ⟨ha.1, by have := ha.2.1; omega, ha.2.2⟩
    have ha2 : NmI (a ++ [v.1]) d := ⟨by simp, by have := ha.2.1; simp; omega, fun s hs => by
      simp only [List.mem_append, List.mem_singleton] at hs
      rcases hs with hs | rfl
      · exact ha.2.2 s hs
      · exact hv10⟩
    refine Tot.bind (pick_tot hv.2 (by omega) (by omega)) fun p hp' => ?_
    obtain ⟨p0, p8, hR⟩ := hp'
    refine Tot.bind (p := fun _ => True) (Tot.ite (fun _ => Tot.pure trivial) (fun _ => Tot.pure trivial)) fun b _ => ?_
    refine Tot.ite (fun _ => ?_) (fun _ => ?_)
    · -- lambda
      refine Tot.bind (name_tot _) fun n1 h1 => ?_
      refine Tot.bind (name_tot _) fun n2 h2 => ?_
      refine Tot.bind (list_tot _) fun n3 h3 => ?_
      refine Tot.bind (ih hR ha2 (by omega) (by omega)) fun n4 h4 => ?_
      refine Tot.bind (list_tot _) fun n5 h5 => Tot.pure ⟨?_, h4.2.mono (by omega)⟩
      have e : (ByteArray.mk #[108, 97, 109, 98, 100, 97]).size = 6 := rfl
      have := h4.1
      simp only [sumL, List.length_cons, List.length_nil] at h3 h5
      simp only; omega
    refine Tot.bind (p := fun _ => True) (Tot.ite (fun _ => Tot.pure trivial) (fun _ => Tot.pure trivial)) fun b _ => ?_
    refine Tot.ite (fun _ => ?_) (fun _ => ?_)
    · -- let
      refine Tot.bind (name_tot _) fun n1 h1 => ?_
      refine Tot.bind (ih hR ha0 (by omega) (by omega)) fun n2 h2 => ?_
      refine Tot.bind (list_tot _) fun n3 h3 => ?_
      refine Tot.bind (name_tot _) fun n4 h4 => ?_
      refine Tot.bind (list_tot _) fun n5 h5 => ?_
      refine Tot.bind (ih h2.2 ha2 (by omega) (by omega)) fun n6 h6 => ?_
      refine Tot.bind (list_tot _) fun n7 h7 => Tot.pure ⟨?_, h6.2.mono (by omega)⟩
      have e : (ByteArray.mk #[108, 101, 116]).size = 3 := rfl
      have := h2.1
      have := h6.1
      simp only [sumL, List.length_cons, List.length_nil] at h3 h5 h7
      simp only; omega
    refine Tot.ite (fun _ => ?_) (fun _ => ?_)
    · -- if
      refine Tot.bind (name_tot _) fun n1 h1 => ?_
      refine Tot.bind (ih hR ha0 (by omega) (by omega)) fun n2 h2 => ?_
      refine Tot.bind (ih h2.2 ha0 (by omega) (by omega)) fun n3 h3 => ?_
      have hz : Tot (spec_l7Some a 0 n3.2) fun r => r.1.sz ≤ 100 ∧ RdI r.2 (k + 1 + 1 + 1 + Qw d + Qw d + 2) := by
        rw [spec_l7Some, if_pos (by rfl)]
        exact base h3.2 ha.1 ha.2.2 (by omega)
      refine Tot.bind hz fun n4 h4 => ?_
      refine Tot.bind (list_tot _) fun n5 h5 => Tot.pure ⟨?_, h4.2.mono (by omega)⟩
      have e : (ByteArray.mk #[105, 102]).size = 2 := rfl
      have := h2.1
      have := h3.1
      have := h4.1
      simp only [sumL, List.length_cons, List.length_nil] at h5
      simp only; omega
    refine Tot.ite (fun _ => ?_) (fun _ => ?_)
    · -- quote
      have q : Tot (spec_l1Some 1 p.2) fun r => r.1.sz ≤ 3 * Qw d + 50 ∧ RdI r.2 (k + 1 + 1 + 1 + (3 * Qw d + 50)) := by
        have := some_tot 1 hR (by omega) (by show k + 1 + 1 + 1 + 400 < _; omega)
        refine this.mono fun r hr => ⟨?_, hr.2.mono ?_⟩
        · have := hr.1; change r.1.sz ≤ 400 at this; omega
        · show k + 1 + 1 + 1 + 400 ≤ _; omega
      refine Tot.bind (name_tot _) fun n1 h1 => ?_
      refine Tot.bind q fun n2 h2 => ?_
      refine Tot.bind (list_tot _) fun n3 h3 => Tot.pure ⟨?_, h2.2.mono (by omega)⟩
      have e : (ByteArray.mk #[113, 117, 111, 116, 101]).size = 5 := rfl
      have := h2.1
      simp only [sumL, List.length_cons, List.length_nil] at h3
      simp only; omega
    · refine Tot.bind (ih hR ha0 (by omega) (by omega)) fun n2 h2 => ?_
      refine Tot.bind (ih h2.2 ha0 (by omega) (by omega)) fun n3 h3 => ?_
      refine Tot.bind (list_tot _) fun n5 h5 => Tot.pure ⟨?_, h3.2.mono (by omega)⟩
      have := h2.1
      have := h3.1
      simp only [sumL, List.length_cons, List.length_nil] at h5
      simp only; omega

/-! ### copies -/
theorem copy_eq : ∀ (f : Fm), f.sz < 1099511627776 → spec_l1Copy f = some f := by
  intro f
  induction f using Fm.ind with
  | h f ih =>
    intro hf
    have hz := Fm.sz_eq f
    rw [spec_l1Copy]
    rw [lcat_ok (by simp only [List.length_nil]; omega)]
    simp only [List.nil_append, Option.bind_eq_bind, Option.bind_some]
    have key : ∀ n (i : Nat), i + n = f.kids.length → spec_l1Copy_l0 f f.sc (f.kids.take i) i = some f.kids := by
      intro n
      induction n with
      | zero =>
        intro i hi
        rw [spec_l1Copy_l0, if_neg (by omega), show i = f.kids.length by omega, List.take_length]
        rfl
      | succ n ihn =>
        intro i hi
        have hil : i < f.kids.length := by omega
        rw [spec_l1Copy_l0, if_pos (by omega), idx_nat _ i hil]
        simp only [Option.bind_eq_bind, Option.bind_some]
        rw [ih _ (List.getElem_mem _) (by have := Fm.sz_kid (List.getElem_mem hil); omega)]
        simp only [Option.bind_some]
        rw [lcat_ok (by simp only [List.length_take, List.length_cons, List.length_nil]; omega)]
        simp only [Option.bind_some]
        rw [wrap_nat (by omega), ← List.take_succ_eq_append_getElem hil]
        exact ihn (i + 1) (by omega)
    have := key f.kids.length 0 (by omega)
    simp only [List.take_zero] at this
    show (spec_l1Copy_l0 f f.sc [] 0 >>= fun e => pure (Fm.mk f.kind f.name f.num f.sc e)) = _
    have e0 : ((0 : Nat) : Int) = 0 := rfl
    rw [e0] at this
    rw [this]
    cases f
    rfl
theorem copyo_eq (f : Fm) (hf : f.sz < 1099511627776) : spec_l1Copy_o0_30_4 f = some f := by
    have hz := Fm.sz_eq f
    rw [spec_l1Copy_o0_30_4]
    rw [lcat_ok (by simp only [List.length_nil]; omega)]
    simp only [List.nil_append, Option.bind_eq_bind, Option.bind_some]
    have key : ∀ n (i : Nat), i + n = f.kids.length → spec_l1Copy_o0_30_4_l0 f f.sc (f.kids.take i) i = some f.kids := by
      intro n
      induction n with
      | zero =>
        intro i hi
        rw [spec_l1Copy_o0_30_4_l0, if_neg (by omega), show i = f.kids.length by omega, List.take_length]
        rfl
      | succ n ihn =>
        intro i hi
        have hil : i < f.kids.length := by omega
        rw [spec_l1Copy_o0_30_4_l0, if_pos (by omega), idx_nat _ i hil]
        simp only [Option.bind_eq_bind, Option.bind_some]
        rw [copy_eq _ (by have := Fm.sz_kid (List.getElem_mem hil); omega)]
        simp only [Option.bind_some]
        rw [lcat_ok (by simp only [List.length_take, List.length_cons, List.length_nil]; omega)]
        simp only [Option.bind_some]
        rw [wrap_nat (by omega), ← List.take_succ_eq_append_getElem hil]
        exact ihn (i + 1) (by omega)
    have := key f.kids.length 0 (by omega)
    simp only [List.take_zero] at this
    have e0 : ((0 : Nat) : Int) = 0 := rfl
    rw [e0] at this
    rw [this]
    cases f
    rfl
theorem sumL_set {α : Type} (g : α → Nat) : ∀ (l : List α) (i : Nat) (x : α) (h : i < l.length), sumL g (l.set i x) + g l[i] = sumL g l + g x
  | [], i, x, h => by simp at h
  | a :: l, 0, x, h => by simp [sumL]; omega
  | a :: l, i + 1, x, h => by
    simp only [List.set_cons_succ, sumL, List.getElem_cons_succ]
    have := sumL_set g l i x (by simpa using h)
    omega
theorem idx_tot' {α : Type} {l : List α} {i : Int} (h0 : 0 ≤ i) (h : i < l.length) : Tot (idx l i) fun x => ∃ hi : i.toNat < l.length, x = l[i.toNat] := by
  rw [idx_int l i h0 h]; exact ⟨_, rfl, by omega, rfl⟩
theorem mutate_tot : ∀ (f : Fm) {c : Rdr} {k : Nat}, RdI c k → f.sz < 1000000000 → k + 3 * (f.sz + 1) < 1099511627776 → Tot (spec_l1Mutate f c) fun r => r.1.sz ≤ f.sz + 20 ∧ RdI r.2 (k + 3 * (f.sz + 1)) := by
  intro f
  induction f using Fm.ind with
  | h f ih =>
    intro c k h hf hk
    have hz := Fm.sz_eq f
    have tail : ∀ {c : Rdr} {k : Nat} {q : Nat}, RdI c k → k + 2 < 1099511627776 → Tot (spec_l15Rd_pick 14 c >>= fun x36 =>
      if x36.1 = 0 then (spec_l15Rd_num [0, 4, 1, 3] x36.2 >>= fun x41 => pure (Fm.mk x41.1 f.name f.num f.sc f.kids, x41.2))
      else if x36.1 = 1 then (spec_l15Rd_of [(ByteArray.mk #[]), (ByteArray.mk #[65]), (ByteArray.mk #[116, 111, 111, 108, 111, 110, 103, 97, 110, 97, 109, 101, 49]), (ByteArray.mk #[122]), (ByteArray.mk #[120, 32, 121])] x36.2 >>= fun x47 => pure (Fm.mk f.kind x47.1 f.num f.sc f.kids, x47.2))
      else if x36.1 = 2 then (spec_l15Rd_num [1000, -1, 5] x36.2 >>= fun x53 => pure (Fm.mk f.kind f.name x53.1 f.sc f.kids, x53.2))
      else if x36.1 = 3 then (spec_l15Rd_num [0, 100, 1, 50] x36.2 >>= fun x61 => lcat 8 f.sc [x61.1] >>= fun x63 => pure (Fm.mk f.kind f.name f.num x63 f.kids, x61.2))
      else pure (Fm.mk f.kind f.name f.num f.sc f.kids, x36.2)) fun r => r.1.sz ≤ f.sz + 20 ∧ RdI r.2 (k + 2) := by
      intro c k q h hk
      refine Tot.bind (pick_tot h (by omega) (by omega)) fun x hx => ?_
      obtain ⟨_, _, hR⟩ := hx
      refine Tot.ite (fun _ => Tot.bind (num_tot hR (by omega) (by simp)) fun y hy => Tot.pure ⟨by simp only; rw [sz_mk]; omega, hy.2⟩) (fun _ => ?_)
      refine Tot.ite (fun _ => Tot.bind (of_tot hR (by omega) (by simp)) fun y hy => Tot.pure ⟨?_, hy.2⟩) (fun _ => ?_)
      · have : ∀ s ∈ [(ByteArray.mk #[]), (ByteArray.mk #[65]), (ByteArray.mk #[116, 111, 111, 108, 111, 110, 103, 97, 110, 97, 109, 101, 49]), (ByteArray.mk #[122]), (ByteArray.mk #[120, 32, 121])], s.size ≤ 20 := by decide
        have := this _ hy.1
        simp only; rw [sz_mk]; omega
      refine Tot.ite (fun _ => Tot.bind (num_tot hR (by omega) (by simp)) fun y hy => Tot.pure ⟨by simp only; rw [sz_mk]; omega, hy.2⟩) (fun _ => ?_)
      refine Tot.ite (fun _ => Tot.bind (num_tot hR (by omega) (by simp)) fun y hy => ?_) (fun _ => ?_)
      · refine Tot.bind (lcat_tot (by simp only [List.length_cons, List.length_nil]; omega)) fun z hz' => Tot.pure ⟨?_, hy.2⟩
        subst hz'
        simp only; rw [sz_mk]; simp only [List.length_append, List.length_cons, List.length_nil]; omega
      · exact Tot.pure ⟨by simp only; rw [sz_mk]; omega, hR.mono (by omega)⟩
    rw [spec_l1Mutate, copyo_eq f (by omega)]
    refine Tot.bind (p := fun x => x = f) ⟨f, rfl, rfl⟩ fun x hx => ?_
    subst hx
    refine Tot.ite (fun hl => ?_) (fun hl => ?_)
    · refine Tot.bind (pick_tot h (by omega) (by omega)) fun p hp => ?_
      refine Tot.ite (fun _ => ?_) (fun _ => ?_)
      · refine Tot.bind (pick_tot hp.2.2 (by omega) (by omega)) fun q hq => ?_
        refine Tot.bind (idx_tot' hq.1 hq.2.1) fun g hg => ?_
        obtain ⟨hi, rfl⟩ := hg
        have hm : x.kids[q.1.toNat] ∈ x.kids := List.getElem_mem _
        have := sumL_mem Fm.sz x.kids _ hm
        refine Tot.bind (ih _ hm hq.2.2 (by omega) (by omega)) fun g' hg' => ?_
        refine Tot.bind (idx_tot hq.1 hq.2.1) fun u _ => Tot.pure ⟨?_, hg'.2.mono (by omega)⟩
        have h3 := sumL_set Fm.sz x.kids q.1.toNat g'.1 hi
        have := hg'.1
        simp only; rw [sz_mk, List.length_set]; omega
      · exact (tail (q := 0) hp.2.2 (by omega)).mono fun r hr => ⟨hr.1, hr.2.mono (by omega)⟩
    · exact (tail (q := 0) h (by omega)).mono fun r hr => ⟨hr.1, hr.2.mono (by omega)⟩
end Go.Proofs.SA
