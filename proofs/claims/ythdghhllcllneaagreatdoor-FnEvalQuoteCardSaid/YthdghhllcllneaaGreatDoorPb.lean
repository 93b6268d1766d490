/- The draws yield something: the reader, copies, mutations, drawn forms. Imports the plain functions of a seat (gen2). -/
import Derived.Test.YthdghhllcllneaaGreatDoorPa
import Derived.Test.YthdghhllcllneaaGreatDooreqD
set_option linter.unusedVariables false
set_option linter.unusedSimpArgs false
set_option maxRecDepth 100000
open Go Go.Proofs Go.Proofs.Shadow
open Go.IntKind (i64)
namespace Go.Proofs.SA
def RdI (c : Rdr) (k : Nat) : Prop := c.b.length <= 2000 /\ (∀ x ∈ c.b, 0 <= x /\ x < 256) /\ 0 <= c.p /\ c.p <= k
theorem RdI.mono {c : Rdr} {k k' : Nat} (h : RdI c k) (hk : k <= k') : RdI c k' := ⟨h.1, h.2.1, h.2.2.1, by have := h.2.2.2; omega⟩
theorem Qx4 {l : List Int} (h : ∀ x ∈ l, 0 <= x /\ x < 256) : Tot (Qgv l) fun c => RdI c 0 := by
 unfold Qgv
 refine Tot.ite (fun hc => ?_) (fun hc => ?_)
 ·refine Tot.bind (Qx0 (by omega) (by omega) (by omega)) fun z hz => Tot.pure ⟨by have := hz.1; simp only; omega, fun x hx => h x (hz.2 x hx), by simp, by simp⟩
 ·exact Tot.pure ⟨by simp only; omega, h, by simp, by simp⟩
theorem Qg5 {c : Rdr} {k : Nat} {n : Int} (h : RdI c k) (hk : k < 1099511627776) (h1 : 1 <= n) : Tot (Qa3 n c) fun r => 0 <= r.1 /\ r.1 < n /\ RdI r.2 (k + 1) := by
 obtain ⟨hb, hx, hp0, hpk⟩ := h
 unfold Qa3
 have w1 : i64.wrap (c.p + 1) = c.p + 1 := Qce (by omega) (by omega)
 have w2 : i64.wrap (c.p + 1 - 1) = c.p := by rw [Qce (by omega) (by omega)]; omega
 simp only [w1, w2, pure_bind]
 have hR : RdI ⟨c.b, c.p + 1⟩ (k + 1) := ⟨hb, hx, by simp only; omega, by simp only; omega⟩
 refine Tot.ite (fun hc => Tot.pure ⟨by simp, by simp only; omega, hR⟩) (fun hc => ?_)
 simp only [Bool.or_eq_true, decide_eq_true_eq, not_or] at hc
 refine Tot.ite (fun hl => ?_) (fun hl => ?_)
 ·refine Tot.bind (Qj3 hp0 hl) fun x hm => ?_
  have := hx x hm
  rw [Qce (a := x) (by omega) (by omega)]
  exact Tot.bind (Qmm (by omega) h1) fun y hy => Tot.pure ⟨hy.1, hy.2, hR⟩
 ·refine Tot.bind (Qmm hp0 (by omega)) fun i hi => ?_
  refine Tot.bind (Qj3 hi.1 hi.2) fun x hm => ?_
  have h2 := hx x hm
  have w3 : i64.wrap (i64.wrap (c.p * 7) + 3) = c.p * 7 + 3 := by rw [Qce (a := c.p * 7) (by omega) (by omega), Qce (by omega) (by omega)]
  rw [w3]
  refine Tot.bind (Qmm (by omega) (by omega)) fun j hj => ?_
  refine Tot.bind (Qj3 hj.1 hj.2) fun y hm2 => ?_
  have h3 := hx y hm2
  refine Tot.bind (Qxu hp0 (by omega) (by omega)) fun q hq => ?_
  have e : i64.wrap (i64.wrap (i64.wrap (i64.wrap (i64.wrap x * 131) + i64.wrap (i64.wrap y * 1117)) + i64.wrap (c.p * 29)) + i64.wrap (q * 53)) = x * 131 + y * 1117 + c.p * 29 + q * 53 := by
   rw [Qce (a := x) (by omega) (by omega), Qce (a := y) (by omega) (by omega), Qce (a := x * 131) (by omega) (by omega), Qce (a := y * 1117) (by omega) (by omega), Qce (a := c.p * 29) (by omega) (by omega), Qce (a := q * 53) (by omega) (by omega), Qce (a := x * 131 + y * 1117) (by omega) (by omega), Qce (a := x * 131 + y * 1117 + c.p * 29) (by omega) (by omega), Qce (by omega) (by omega)]
  rw [e]
  generalize hv : x * 131 + y * 1117 + c.p * 29 + q * 53 = v
  have v0 : 0 <= v := by omega
  have v1 : v < 1099511627776000 := by omega
  have d0 : 0 <= v.tdiv 64 := Int.tdiv_nonneg v0 (by omega)
  have d1 : v.tdiv 64 <= v := Int.tdiv_le_self _ v0
  rw [Qce (a := v.tdiv 64) (by omega) (by omega)]
  have := Qxd v0 (by omega) d0 (by omega)
  exact Tot.bind (Qmm this.1 h1) fun z hz => Tot.pure ⟨hz.1, hz.2, hR⟩
theorem Qm4 {c : Rdr} {k : Nat} {l : List Int} (h : RdI c k) (hk : k < 1099511627776) (hl : 1 <= l.length) : Tot (Qa7 l c) fun r => r.1 ∈ l /\ RdI r.2 (k + 1) := by
 unfold Qa7
 refine Tot.bind (Qg5 h hk (by omega)) fun x hx => ?_
 exact Tot.bind (Qj3 hx.1 hx.2.1) fun y hy => Tot.pure ⟨hy, hx.2.2⟩
theorem Qy5 {c : Rdr} {k : Nat} {l : List ByteArray} (h : RdI c k) (hk : k < 1099511627776) (hl : 1 <= l.length) : Tot (Qcz l c) fun r => r.1 ∈ l /\ RdI r.2 (k + 1) := by
 unfold Qcz
 refine Tot.bind (Qg5 h hk (by omega)) fun x hx => ?_
 exact Tot.bind (Qj3 hx.1 hx.2.1) fun y hy => Tot.pure ⟨hy, hx.2.2⟩
theorem Qnw (k : Int) (s : ByteArray) (n : Int) (sc : List Int) (ks : List Fm) : (Fm.mk k s n sc ks).sz = s.size + sc.length + ks.length + Qc4 Fm.sz ks := by rw [Fm.Qff]; rfl
theorem Qx2 (s : ByteArray) : Tot (Qgp s) fun f => f.sz = s.size := ⟨_, rfl, by simp only; rw [Qnw]; simp [Qc4]⟩
def Pw (d : Nat) : Nat := 100 * 4 ^ d
theorem Qzl (d : Nat) : Pw (d + 1) = 4 * Pw d := by simp only [Pw, Nat.pow_succ]; omega
theorem Qwm (d : Nat) : 100 <= Pw d := by simp only [Pw]; have : 0 < 4 ^ d := Nat.pow_pos (by omega); omega
def Qvw : List ByteArray := [(ByteArray.mk #[97]), (ByteArray.mk #[98]), (ByteArray.mk #[120]), (ByteArray.mk #[121]), (ByteArray.mk #[102]), (ByteArray.mk #[105, 102]), (ByteArray.mk #[108, 101, 116]), (ByteArray.mk #[43])]
theorem Qyc : ∀ (d : Nat) {c : Rdr} {k : Nat}, RdI c k -> d < 20 -> k + Pw d < 1099511627776 -> Tot (Qe7 d c) fun r => r.1.sz <= Pw d /\ RdI r.2 (k + Pw d) := by
 have base : ∀ {c : Rdr} {k n : Nat} {p : Int -> Prop} {q : ByteArray -> Prop}, RdI c k -> 100 <= n -> k + n < 1099511627776 + 1 -> Tot (Qa3 4 c >>= fun x => if x.1 = 0 then (Qa7 [0, 1, 2, 7, 42, 999] x.2 >>= fun y => pure (Fm.mk 2 (ByteArray.mk #[]) y.1 [] [], y.2)) else (Qcz Qvw x.2 >>= fun y => Qgp y.1 >>= fun z => pure (z, y.2))) fun r => r.1.sz <= 100 /\ RdI r.2 (k + 2) := by
  intro c k n p q h hn hk
  refine Tot.bind (Qg5 h (by omega) (by omega)) fun x hx => ?_
  refine Tot.ite (fun _ => ?_) (fun _ => ?_)
  ·exact Tot.bind (Qm4 hx.2.2 (by omega) (by simp)) fun y hy => Tot.pure ⟨by simp only; rw [Qnw]; show 0 + 0 + 0 + 0 <= 100; omega, hy.2⟩
  ·refine Tot.bind (Qy5 hx.2.2 (by omega) (by simp [Qvw])) fun y hy => ?_
   refine Tot.bind (Qx2 _) fun z hz => Tot.pure ⟨?_, hy.2⟩
   have : ∀ s ∈ Qvw, s.size <= 100 := by decide
   simp only; rw [hz]; exact this _ hy.1
 intro d
 induction d with
 | zero =>
  intro c k h hd hk
  rw [Qe7]
  rw [if_pos (by rfl)]
  exact (base (p := fun _ => True) (q := fun _ => True) h (Nat.le_refl 100) (by have := Qwm 0; omega)).mono fun r hr => ⟨by have := Qwm 0; omega, hr.2.mono (by have := Qwm 0; omega)⟩
 | succ d ih =>
  intro c k h hd hk
  have hp := Qwm d
  have hs := Qzl d
  have loop : ∀ (n : Nat) {z : List Fm} {b : List Int} {p : Int} {k : Nat}, n <= 3 -> z.length + n <= 3 -> RdI ⟨b, p⟩ k -> k + n * Pw d < 1099511627776 -> Tot (Qee ((d + 1 : Nat) : Int) z n b p) fun r => r.1.length <= z.length + n /\ Qc4 Fm.sz r.1 <= Qc4 Fm.sz z + n * Pw d /\ RdI ⟨r.2.1, r.2.2⟩ (k + n * Pw d) := by
   intro n
   induction n with
   | zero =>
    intro z b p k _ _ h _
    rw [Qee, if_neg (by omega)]
    exact Tot.pure ⟨by simp, by simp, by simpa using h⟩
   | succ n ihn =>
    intro z b p k hn hz h hk
    rw [Nat.succ_mul] at hk
    rw [Qee, if_pos (by omega)]
    have w1 : i64.wrap (((d + 1 : Nat) : Int) - 1) = (d : Int) := by rw [Qce (by omega) (by omega)]; omega
    have w2 : i64.wrap (((n + 1 : Nat) : Int) - 1) = (n : Int) := by rw [Qce (by omega) (by omega)]; omega
    rw [w1, w2]
    refine Tot.bind (ih h (by omega) (by omega)) fun x hx => ?_
    refine Tot.bind (Qoi (by simp only [List.length_cons, List.length_nil]; omega)) fun y hy => ?_
    subst hy
    refine (ihn (by omega) (by simp only [List.length_append, List.length_cons, List.length_nil]; omega) hx.2 (by omega)).mono fun r hr => ?_
    obtain ⟨r1, r2, r3⟩ := hr
    simp only [List.length_append, List.length_cons, List.length_nil, Qmp, Qc4] at r1 r2
    rw [Nat.succ_mul]
    exact ⟨by omega, by have := hx.1; omega, r3.mono (by omega)⟩
  rw [Qe7, if_neg (by omega)]
  refine Tot.bind (Qg5 h (by omega) (by omega)) fun x hx => ?_
  refine Tot.ite (fun _ => ?_) (fun _ => ?_)
  ·exact (base (p := fun _ => True) (q := fun _ => True) hx.2.2 (Nat.le_refl 100) (by omega)).mono fun r hr => ⟨by omega, hr.2.mono (by omega)⟩
  ·refine Tot.bind (Qg5 hx.2.2 (by omega) (by omega)) fun y hy => ?_
   obtain ⟨m, hm⟩ := Int.eq_ofNat_of_zero_le hy.1
   have hm3 : m <= 3 := by have := hy.2.1; omega
   have hmul : m * Pw d <= 3 * Pw d := Nat.mul_le_mul_right _ hm3
   rw [hm]
   refine Tot.bind (loop m hm3 (by simp; omega) hy.2.2 (by omega)) fun r hr => ?_
   obtain ⟨r1, r2, r3⟩ := hr
   simp only [List.length_nil, Qc4] at r1 r2
   refine Tot.pure ⟨?_, r3.mono (by omega)⟩
   simp only; rw [Qnw]
   show 0 + 0 + _ + _ <= _
   omega
end Go.Proofs.SA
namespace Go.Proofs.SA
theorem Qtu : ∀ (f : Fm), f.sz < 1099511627776 -> Qed f = some f := by
 intro f
 induction f using Fm.ind with
 | h f ih =>
  intro hf
  have hz := Fm.Qff f
  rw [Qed]
  rw [Qem (by simp only [List.length_nil]; omega)]
  simp only [List.nil_append, Option.bind_eq_bind, Option.bind_some]
  have key : ∀ n (i : Nat), i + n = f.kids.length -> Qbx f f.sc (f.kids.take i) i = some f.kids := by
   intro n
   induction n with
   | zero =>
    intro i hi
    rw [Qbx, if_neg (by omega), show i = f.kids.length by omega, List.take_length]
    rfl
   | succ n ihn =>
    intro i hi
    have hil : i < f.kids.length := by omega
    rw [Qbx, if_pos (by omega), Qb6 _ i hil]
    simp only [Option.bind_eq_bind, Option.bind_some]
    rw [ih _ (List.getElem_mem _) (by have := Fm.Qid (List.getElem_mem hil); omega)]
    simp only [Option.bind_some]
    rw [Qem (by simp only [List.length_take, List.length_cons, List.length_nil]; omega)]
    simp only [Option.bind_some]
    rw [Qbn (by omega), ← List.take_succ_eq_append_getElem hil]
    exact ihn (i + 1) (by omega)
  have := key f.kids.length 0 (by omega)
  simp only [List.take_zero] at this
  show (Qbx f f.sc [] 0 >>= fun e => pure (Fm.mk f.kind f.name f.num f.sc e)) = _
  have e0 : ((0 : Nat) : Int) = 0 := rfl
  rw [e0] at this
  rw [this]
  cases f
  rfl
theorem Qxf (f : Fm) (hf : f.sz < 1099511627776) : Qdw f = some f := by
  have hz := Fm.Qff f
  rw [Qdw]
  rw [Qem (by simp only [List.length_nil]; omega)]
  simp only [List.nil_append, Option.bind_eq_bind, Option.bind_some]
  have key : ∀ n (i : Nat), i + n = f.kids.length -> Qbb f f.sc (f.kids.take i) i = some f.kids := by
   intro n
   induction n with
   | zero =>
    intro i hi
    rw [Qbb, if_neg (by omega), show i = f.kids.length by omega, List.take_length]
    rfl
   | succ n ihn =>
    intro i hi
    have hil : i < f.kids.length := by omega
    rw [Qbb, if_pos (by omega), Qb6 _ i hil]
    simp only [Option.bind_eq_bind, Option.bind_some]
    rw [Qtu _ (by have := Fm.Qid (List.getElem_mem hil); omega)]
    simp only [Option.bind_some]
    rw [Qem (by simp only [List.length_take, List.length_cons, List.length_nil]; omega)]
    simp only [Option.bind_some]
    rw [Qbn (by omega), ← List.take_succ_eq_append_getElem hil]
    exact ihn (i + 1) (by omega)
  have := key f.kids.length 0 (by omega)
  simp only [List.take_zero] at this
  have e0 : ((0 : Nat) : Int) = 0 := rfl
  rw [e0] at this
  rw [this]
  cases f
  rfl
theorem Qoq {α : Type} (g : α -> Nat) : ∀ (l : List α) (i : Nat) (x : α) (h : i < l.length), Qc4 g (l.set i x) + g l[i] = Qc4 g l + g x
 | [], i, x, h => by simp at h
 | a :: l, 0, x, h => by simp [Qc4]; omega
 | a :: l, i + 1, x, h => by
  simp only [List.set_cons_succ, Qc4, List.getElem_cons_succ]
  have := Qoq g l i x (by simpa using h)
  omega
theorem Qxq {α : Type} {l : List α} {i : Int} (h0 : 0 <= i) (h : i < l.length) : Tot (idx l i) fun x => ∃ hi : i.toNat < l.length, x = l[i.toNat] := by
 rw [Qvl l i h0 h]; exact ⟨_, rfl, by omega, rfl⟩
theorem Qn0 : ∀ (f : Fm) {c : Rdr} {k : Nat}, RdI c k -> f.sz < 1000000000 -> k + 3 * (f.sz + 1) < 1099511627776 -> Tot (Qd7 f c) fun r => r.1.sz <= f.sz + 20 /\ RdI r.2 (k + 3 * (f.sz + 1)) := by
 intro f
 induction f using Fm.ind with
 | h f ih =>
  intro c k h hf hk
  have hz := Fm.Qff f
  have tail : ∀ {c : Rdr} {k : Nat} {q : Nat}, RdI c k -> k + 2 < 1099511627776 -> Tot (Qa3 14 c >>= fun x36 =>
   if x36.1 = 0 then (Qa7 [0, 4, 1, 3] x36.2 >>= fun x41 => pure (Fm.mk x41.1 f.name f.num f.sc f.kids, x41.2))
   else if x36.1 = 1 then (Qcz [(ByteArray.mk #[]), (ByteArray.mk #[65]), (ByteArray.mk #[116, 111, 111, 108, 111, 110, 103, 97, 110, 97, 109, 101, 49]), (ByteArray.mk #[122]), (ByteArray.mk #[120, 32, 121])] x36.2 >>= fun x47 => pure (Fm.mk f.kind x47.1 f.num f.sc f.kids, x47.2))
   else if x36.1 = 2 then (Qa7 [1000, -1, 5] x36.2 >>= fun x53 => pure (Fm.mk f.kind f.name x53.1 f.sc f.kids, x53.2))
   else if x36.1 = 3 then (Qa7 [0, 100, 1, 50] x36.2 >>= fun x61 => Qhd 8 f.sc [x61.1] >>= fun x63 => pure (Fm.mk f.kind f.name f.num x63 f.kids, x61.2))
   else pure (Fm.mk f.kind f.name f.num f.sc f.kids, x36.2)) fun r => r.1.sz <= f.sz + 20 /\ RdI r.2 (k + 2) := by
   intro c k q h hk
   refine Tot.bind (Qg5 h (by omega) (by omega)) fun x hx => ?_
   obtain ⟨_, _, hR⟩ := hx
   refine Tot.ite (fun _ => Tot.bind (Qm4 hR (by omega) (by simp)) fun y hy => Tot.pure ⟨by simp only; rw [Qnw]; omega, hy.2⟩) (fun _ => ?_)
   refine Tot.ite (fun _ => Tot.bind (Qy5 hR (by omega) (by simp)) fun y hy => Tot.pure ⟨?_, hy.2⟩) (fun _ => ?_)
   ·have : ∀ s ∈ [(ByteArray.mk #[]), (ByteArray.mk #[65]), (ByteArray.mk #[116, 111, 111, 108, 111, 110, 103, 97, 110, 97, 109, 101, 49]), (ByteArray.mk #[122]), (ByteArray.mk #[120, 32, 121])], s.size <= 20 := by decide
    have := this _ hy.1
    simp only; rw [Qnw]; omega
   refine Tot.ite (fun _ => Tot.bind (Qm4 hR (by omega) (by simp)) fun y hy => Tot.pure ⟨by simp only; rw [Qnw]; omega, hy.2⟩) (fun _ => ?_)
   refine Tot.ite (fun _ => Tot.bind (Qm4 hR (by omega) (by simp)) fun y hy => ?_) (fun _ => ?_)
   ·refine Tot.bind (Qoi (by simp only [List.length_cons, List.length_nil]; omega)) fun z hz' => Tot.pure ⟨?_, hy.2⟩
    subst hz'
    simp only; rw [Qnw]; simp only [List.length_append, List.length_cons, List.length_nil]; omega
   ·exact Tot.pure ⟨by simp only; rw [Qnw]; omega, hR.mono (by omega)⟩
  rw [Qd7, Qxf f (by omega)]
  refine Tot.bind (p := fun x => x = f) ⟨f, rfl, rfl⟩ fun x hx => ?_
  subst hx
  refine Tot.ite (fun hl => ?_) (fun hl => ?_)
  ·refine Tot.bind (Qg5 h (by omega) (by omega)) fun p hp => ?_
   refine Tot.ite (fun _ => ?_) (fun _ => ?_)
   ·refine Tot.bind (Qg5 hp.2.2 (by omega) (by omega)) fun q hq => ?_
    refine Tot.bind (Qxq hq.1 hq.2.1) fun g hg => ?_
    obtain ⟨hi, rfl⟩ := hg
    have hm : x.kids[q.1.toNat] ∈ x.kids := List.getElem_mem _
    have := Qg8 Fm.sz x.kids _ hm
    refine Tot.bind (ih _ hm hq.2.2 (by omega) (by omega)) fun g' hg' => ?_
    refine Tot.bind (Qj3 hq.1 hq.2.1) fun u _ => Tot.pure ⟨?_, hg'.2.mono (by omega)⟩
    have h3 := Qoq Fm.sz x.kids q.1.toNat g'.1 hi
    have := hg'.1
    simp only; rw [Qnw, List.length_set]; omega
   ·exact (tail (q := 0) hp.2.2 (by omega)).mono fun r hr => ⟨hr.1, hr.2.mono (by omega)⟩
  ·exact (tail (q := 0) h (by omega)).mono fun r hr => ⟨hr.1, hr.2.mono (by omega)⟩
end Go.Proofs.SA
