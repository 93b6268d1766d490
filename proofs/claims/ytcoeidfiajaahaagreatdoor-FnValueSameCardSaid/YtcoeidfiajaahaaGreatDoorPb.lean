/- The draws yield something: the reader, copies, mutations, drawn forms. Imports the plain functions of a seat (gen2). -/
import Derived.Test.YtcoeidfiajaahaaGreatDoorPa
import Derived.Test.YtcoeidfiajaahaaGreatDoorvsD
set_option linter.unusedVariables false
set_option linter.unusedSimpArgs false
set_option maxRecDepth 100000
open Go Go.Proofs Go.Proofs.Shadow
open Go.IntKind (i64)
namespace Go.Proofs.SA
def RdI (c : Rdr) (k : Nat) : Prop := c.b.length <= 2000 /\ (∀ x ∈ c.b, 0 <= x /\ x < 256) /\ 0 <= c.p /\ c.p <= k
theorem RdI.mono {c : Rdr} {k k' : Nat} (h : RdI c k) (hk : k <= k') : RdI c k' := ⟨h.1, h.2.1, h.2.2.1, by have := h.2.2.2; omega⟩
theorem Qu9 {l : List Int} (h : ∀ x ∈ l, 0 <= x /\ x < 256) : Tot (Qhm l) fun c => RdI c 0 := by
 unfold Qhm
 refine Tot.ite (fun hc => ?_) (fun hc => ?_)
 ·refine Tot.bind (Kd1 (by omega) (by omega) (by omega)) fun z hz => Tot.pure ⟨by have := hz.1; simp only; omega, fun x hx => h x (hz.2 x hx), by simp, by simp⟩
 ·exact Tot.pure ⟨by simp only; omega, h, by simp, by simp⟩
theorem Qcg {c : Rdr} {k : Nat} {n : Int} (h : RdI c k) (hk : k < 1099511627776) (h1 : 1 <= n) : Tot (Qal n c) fun r => 0 <= r.1 /\ r.1 < n /\ RdI r.2 (k + 1) := by
 obtain ⟨hb, hx, hp0, hpk⟩ := h
 unfold Qal
 have w1 : i64.wrap (c.p + 1) = c.p + 1 := Qa8 (by omega) (by omega)
 have w2 : i64.wrap (c.p + 1 - 1) = c.p := by rw [Qa8 (by omega) (by omega)]; omega
 simp only [w1, w2, pure_bind]
 have hR : RdI ⟨c.b, c.p + 1⟩ (k + 1) := ⟨hb, hx, by simp only; omega, by simp only; omega⟩
 refine Tot.ite (fun hc => Tot.pure ⟨by simp, by simp only; omega, hR⟩) (fun hc => ?_)
 simp only [Bool.or_eq_true, decide_eq_true_eq, not_or] at hc
 refine Tot.ite (fun hl => ?_) (fun hl => ?_)
 ·refine Tot.bind (Qjm hp0 hl) fun x hm => ?_
  have := hx x hm
  rw [Qa8 (a := x) (by omega) (by omega)]
  exact Tot.bind (Qu7 (by omega) h1) fun y hy => Tot.pure ⟨hy.1, hy.2, hR⟩
 ·refine Tot.bind (Qu7 hp0 (by omega)) fun i hi => ?_
  refine Tot.bind (Qjm hi.1 hi.2) fun x hm => ?_
  have h2 := hx x hm
  have w3 : i64.wrap (i64.wrap (c.p * 7) + 3) = c.p * 7 + 3 := by rw [Qa8 (a := c.p * 7) (by omega) (by omega), Qa8 (by omega) (by omega)]
  rw [w3]
  refine Tot.bind (Qu7 (by omega) (by omega)) fun j hj => ?_
  refine Tot.bind (Qjm hj.1 hj.2) fun y hm2 => ?_
  have h3 := hx y hm2
  refine Tot.bind (Kdr hp0 (by omega) (by omega)) fun q hq => ?_
  have e : i64.wrap (i64.wrap (i64.wrap (i64.wrap (i64.wrap x * 131) + i64.wrap (i64.wrap y * 1117)) + i64.wrap (c.p * 29)) + i64.wrap (q * 53)) = x * 131 + y * 1117 + c.p * 29 + q * 53 := by
   rw [Qa8 (a := x) (by omega) (by omega), Qa8 (a := y) (by omega) (by omega), Qa8 (a := x * 131) (by omega) (by omega), Qa8 (a := y * 1117) (by omega) (by omega), Qa8 (a := c.p * 29) (by omega) (by omega), Qa8 (a := q * 53) (by omega) (by omega), Qa8 (a := x * 131 + y * 1117) (by omega) (by omega), Qa8 (a := x * 131 + y * 1117 + c.p * 29) (by omega) (by omega), Qa8 (by omega) (by omega)]
  rw [e]
  generalize hv : x * 131 + y * 1117 + c.p * 29 + q * 53 = v
  have v0 : 0 <= v := by omega
  have v1 : v < 1099511627776000 := by omega
  have d0 : 0 <= v.tdiv 64 := Int.tdiv_nonneg v0 (by omega)
  have d1 : v.tdiv 64 <= v := Int.tdiv_le_self _ v0
  rw [Qa8 (a := v.tdiv 64) (by omega) (by omega)]
  have := Kc5 v0 (by omega) d0 (by omega)
  exact Tot.bind (Qu7 this.1 h1) fun z hz => Tot.pure ⟨hz.1, hz.2, hR⟩
theorem Qjp {c : Rdr} {k : Nat} {l : List Int} (h : RdI c k) (hk : k < 1099511627776) (hl : 1 <= l.length) : Tot (Qat l c) fun r => r.1 ∈ l /\ RdI r.2 (k + 1) := by
 unfold Qat
 refine Tot.bind (Qcg h hk (by omega)) fun x hx => ?_
 exact Tot.bind (Qjm hx.1 hx.2.1) fun y hy => Tot.pure ⟨hy, hx.2.2⟩
theorem Q18 {c : Rdr} {k : Nat} {l : List ByteArray} (h : RdI c k) (hk : k < 1099511627776) (hl : 1 <= l.length) : Tot (Qbl l c) fun r => r.1 ∈ l /\ RdI r.2 (k + 1) := by
 unfold Qbl
 refine Tot.bind (Qcg h hk (by omega)) fun x hx => ?_
 exact Tot.bind (Qjm hx.1 hx.2.1) fun y hy => Tot.pure ⟨hy, hx.2.2⟩
theorem Kh4 (s : ByteArray) : Qb1 s = some (Fm.mk 1 s 0 [] []) := rfl
theorem Q0o (k : Int) (s : ByteArray) (n : Int) (sc : List Int) (ks : List Fm) : (Fm.mk k s n sc ks).sz = s.size + sc.length + ks.length + Qbg Fm.sz ks := by rw [Fm.Qgf]; rfl
theorem Qj9 (s : ByteArray) : Tot (Qb1 s) fun f => f.sz = s.size := ⟨_, rfl, by simp only; rw [Q0o]; simp [Qbg]⟩
theorem Qjn (l : List Fm) : Tot (Qdq l) fun f => f.sz = l.length + Qbg Fm.sz l := ⟨_, rfl, by simp only; rw [Q0o]; show 0 + 0 + _ + _ = _; omega⟩
def Pw (d : Nat) : Nat := 100 * 4 ^ d
theorem Q8r (d : Nat) : Pw (d + 1) = 4 * Pw d := by simp only [Pw, Nat.pow_succ]; omega
theorem Q24 (d : Nat) : 100 <= Pw d := by simp only [Pw]; have : 0 < 4 ^ d := Nat.pow_pos (by omega); omega
def Qy7 : List ByteArray := [(ByteArray.mk #[97]), (ByteArray.mk #[98]), (ByteArray.mk #[120]), (ByteArray.mk #[121]), (ByteArray.mk #[102]), (ByteArray.mk #[105, 102]), (ByteArray.mk #[108, 101, 116]), (ByteArray.mk #[43])]
theorem Q5x : ∀ (d : Nat) {c : Rdr} {k : Nat}, RdI c k -> d < 20 -> k + Pw d < 1099511627776 -> Tot (Qbu d c) fun r => r.1.sz <= Pw d /\ RdI r.2 (k + Pw d) := by
 have base : ∀ {c : Rdr} {k n : Nat} {p : Int -> Prop} {q : ByteArray -> Prop}, RdI c k -> 100 <= n -> k + n < 1099511627776 + 1 -> Tot (Qal 4 c >>= fun x => if x.1 = 0 then (Qat [0, 1, 2, 7, 42, 999] x.2 >>= fun y => pure (Fm.mk 2 (ByteArray.mk #[]) y.1 [] [], y.2)) else (Qbl Qy7 x.2 >>= fun y => Qb1 y.1 >>= fun z => pure (z, y.2))) fun r => r.1.sz <= 100 /\ RdI r.2 (k + 2) := by
  intro c k n p q h hn hk
  refine Tot.bind (Qcg h (by omega) (by omega)) fun x hx => ?_
  refine Tot.ite (fun _ => ?_) (fun _ => ?_)
  ·exact Tot.bind (Qjp hx.2.2 (by omega) (by simp)) fun y hy => Tot.pure ⟨by simp only; rw [Q0o]; show 0 + 0 + 0 + 0 <= 100; omega, hy.2⟩
  ·refine Tot.bind (Q18 hx.2.2 (by omega) (by simp [Qy7])) fun y hy => ?_
   refine Tot.bind (Qj9 _) fun z hz => Tot.pure ⟨?_, hy.2⟩
   have : ∀ s ∈ Qy7, s.size <= 100 := by decide
   simp only; rw [hz]; exact this _ hy.1
 intro d
 induction d with
 | zero =>
  intro c k h hd hk
  rw [Qbu]
  rw [if_pos (by rfl)]
  exact (base (p := fun _ => True) (q := fun _ => True) h (Nat.le_refl 100) (by have := Q24 0; omega)).mono fun r hr => ⟨by have := Q24 0; omega, hr.2.mono (by have := Q24 0; omega)⟩
 | succ d ih =>
  intro c k h hd hk
  have hp := Q24 d
  have hs := Q8r d
  have loop : ∀ (n : Nat) {z : List Fm} {b : List Int} {p : Int} {k : Nat}, n <= 3 -> z.length + n <= 3 -> RdI ⟨b, p⟩ k -> k + n * Pw d < 1099511627776 -> Tot (Qdi ((d + 1 : Nat) : Int) z n b p) fun r => r.1.length <= z.length + n /\ Qbg Fm.sz r.1 <= Qbg Fm.sz z + n * Pw d /\ RdI ⟨r.2.1, r.2.2⟩ (k + n * Pw d) := by
   intro n
   induction n with
   | zero =>
    intro z b p k _ _ h _
    rw [Qdi, if_neg (by omega)]
    exact Tot.pure ⟨by simp, by simp, by simpa using h⟩
   | succ n ihn =>
    intro z b p k hn hz h hk
    rw [Nat.succ_mul] at hk
    rw [Qdi, if_pos (by omega)]
    have w1 : i64.wrap (((d + 1 : Nat) : Int) - 1) = (d : Int) := by rw [Qa8 (by omega) (by omega)]; omega
    have w2 : i64.wrap (((n + 1 : Nat) : Int) - 1) = (n : Int) := by rw [Qa8 (by omega) (by omega)]; omega
    rw [w1, w2]
    refine Tot.bind (ih h (by omega) (by omega)) fun x hx => ?_
    refine Tot.bind (Qm8 (by simp only [List.length_cons, List.length_nil]; omega)) fun y hy => ?_
    subst hy
    refine (ihn (by omega) (by simp only [List.length_append, List.length_cons, List.length_nil]; omega) hx.2 (by omega)).mono fun r hr => ?_
    obtain ⟨r1, r2, r3⟩ := hr
    simp only [List.length_append, List.length_cons, List.length_nil, Qni, Qbg] at r1 r2
    rw [Nat.succ_mul]
    exact ⟨by omega, by have := hx.1; omega, r3.mono (by omega)⟩
  rw [Qbu, if_neg (by omega)]
  refine Tot.bind (Qcg h (by omega) (by omega)) fun x hx => ?_
  refine Tot.ite (fun _ => ?_) (fun _ => ?_)
  ·exact (base (p := fun _ => True) (q := fun _ => True) hx.2.2 (Nat.le_refl 100) (by omega)).mono fun r hr => ⟨by omega, hr.2.mono (by omega)⟩
  ·refine Tot.bind (Qcg hx.2.2 (by omega) (by omega)) fun y hy => ?_
   obtain ⟨m, hm⟩ := Int.eq_ofNat_of_zero_le hy.1
   have hm3 : m <= 3 := by have := hy.2.1; omega
   have hmul : m * Pw d <= 3 * Pw d := Nat.mul_le_mul_right _ hm3
   rw [hm]
   refine Tot.bind (loop m hm3 (by simp; omega) hy.2.2 (by omega)) fun r hr => ?_
   obtain ⟨r1, r2, r3⟩ := hr
   simp only [List.length_nil, Qbg] at r1 r2
   refine Tot.pure ⟨?_, r3.mono (by omega)⟩
   simp only; rw [Q0o]
   show 0 + 0 + _ + _ <= _
   omega
end Go.Proofs.SA
namespace Go.Proofs.SA
def Qw (d : Nat) : Nat := 1000 * 4 ^ d
theorem Kf9 (d : Nat) : Qw (d + 1) = 4 * Qw d := by simp only [Qw, Nat.pow_succ]; omega
theorem Kjg (d : Nat) : 1000 <= Qw d := by simp only [Qw]; have : 0 < 4 ^ d := Nat.pow_pos (by omega); omega
def NmI (l : List ByteArray) (d : Nat) : Prop := 1 <= l.length /\ l.length + d <= 1000 /\ ∀ s ∈ l, s.size <= 10
theorem Kby : ∀ (d : Nat) {a : List ByteArray} {c : Rdr} {k : Nat}, RdI c k -> NmI a d -> d < 20 -> k + Qw d < 1099511627776 -> Tot (Qcd a d c) fun r => r.1.sz <= Qw d /\ RdI r.2 (k + Qw d) := by
 have base : ∀ {a : List ByteArray} {c : Rdr} {k : Nat}, RdI c k -> 1 <= a.length -> (∀ s ∈ a, s.size <= 10) -> k + 99 < 1099511627776 -> Tot (Qal 3 c >>= fun x => if x.1 = 0 then (Qat [0, 1, 2, 7] x.2 >>= fun y => pure (Fm.mk 2 (ByteArray.mk #[]) y.1 [] [], y.2)) else (Qal (a.length : Int) x.2 >>= fun y => idx a y.1 >>= fun u => Qb1 u >>= fun z => pure (z, y.2))) fun r => r.1.sz <= 100 /\ RdI r.2 (k + 2) := by
  intro a c k h ha hs hk
  refine Tot.bind (Qcg h (by omega) (by omega)) fun x hx => ?_
  refine Tot.ite (fun _ => ?_) (fun _ => ?_)
  ·exact Tot.bind (Qjp hx.2.2 (by omega) (by simp)) fun y hy => Tot.pure ⟨by simp only; rw [Q0o]; show 0 + 0 + 0 + 0 <= 100; omega, hy.2⟩
  ·refine Tot.bind (Qcg hx.2.2 (by omega) (by omega)) fun y hy => ?_
   refine Tot.bind (Qjm hy.1 hy.2.1) fun u hu => ?_
   refine Tot.bind (Qj9 _) fun z hz => Tot.pure ⟨?_, hy.2.2⟩
   have := hs u hu
   simp only; omega
 intro d
 induction d with
 | zero =>
  intro a c k h ha hd hk
  have := Kjg 0
  rw [Qcd, if_pos (by rfl)]
  exact (base h ha.1 ha.2.2 (by omega)).mono fun r hr => ⟨by omega, hr.2.mono (by omega)⟩
 | succ d ih =>
  intro a c k h ha hd hk
  have hp := Kjg d
  have hs := Kf9 d
  have w1 : i64.wrap (((d + 1 : Nat) : Int) - 1) = (d : Int) := by rw [Qa8 (by omega) (by omega)]; omega
  rw [Qcd, if_neg (by omega)]
  simp only [w1]
  refine Tot.bind (Qcg h (by omega) (by omega)) fun x hx => ?_
  refine Tot.ite (fun _ => ?_) (fun _ => ?_)
  ·exact (base hx.2.2 ha.1 ha.2.2 (by omega)).mono fun r hr => ⟨by omega, hr.2.mono (by omega)⟩
  refine Tot.bind (Q18 hx.2.2 (by omega) (by simp)) fun v hv => ?_
  have hv10 : v.1.size <= 10 := by
   have : ∀ s ∈ [(ByteArray.mk #[120]), (ByteArray.mk #[121]), (ByteArray.mk #[116])], s.size <= 10 := by decide
   exact this _ hv.1
  refine Tot.bind (Qm8 (by have := ha.2.1; simp only [List.length_nil]; omega)) fun y hy => ?_
  rw [List.nil_append] at hy
  rw [hy]
  refine Tot.bind (Qm8 (by have := ha.2.1; simp only [List.length_nil, List.length_cons]; omega)) fun y hy => ?_
  subst hy
  have ha0 : NmI a d := ⟨ha.1, by have := ha.2.1; omega, ha.2.2⟩
  have ha2 : NmI (a ++ [v.1]) d := ⟨by simp, by have := ha.2.1; simp; omega, fun s hs => by
   simp only [List.mem_append, List.mem_singleton] at hs
   rcases hs with hs | rfl
   ·exact ha.2.2 s hs
   ·exact hv10⟩
  refine Tot.bind (Qcg hv.2 (by omega) (by omega)) fun p hp' => ?_
  obtain ⟨p0, p8, hR⟩ := hp'
  refine Tot.bind (p := fun _ => True) (Tot.ite (fun _ => Tot.pure trivial) (fun _ => Tot.pure trivial)) fun b _ => ?_
  refine Tot.ite (fun _ => ?_) (fun _ => ?_)
  ·
   refine Tot.bind (Qj9 _) fun n1 h1 => ?_
   refine Tot.bind (Qj9 _) fun n2 h2 => ?_
   refine Tot.bind (Qjn _) fun n3 h3 => ?_
   refine Tot.bind (ih hR ha2 (by omega) (by omega)) fun n4 h4 => ?_
   refine Tot.bind (Qjn _) fun n5 h5 => Tot.pure ⟨?_, h4.2.mono (by omega)⟩
   have e : (ByteArray.mk #[108, 97, 109, 98, 100, 97]).size = 6 := rfl
   have := h4.1
   simp only [Qbg, List.length_cons, List.length_nil] at h3 h5
   simp only; omega
  refine Tot.bind (p := fun _ => True) (Tot.ite (fun _ => Tot.pure trivial) (fun _ => Tot.pure trivial)) fun b _ => ?_
  refine Tot.ite (fun _ => ?_) (fun _ => ?_)
  ·
   refine Tot.bind (Qj9 _) fun n1 h1 => ?_
   refine Tot.bind (ih hR ha0 (by omega) (by omega)) fun n2 h2 => ?_
   refine Tot.bind (Qjn _) fun n3 h3 => ?_
   refine Tot.bind (Qj9 _) fun n4 h4 => ?_
   refine Tot.bind (Qjn _) fun n5 h5 => ?_
   refine Tot.bind (ih h2.2 ha2 (by omega) (by omega)) fun n6 h6 => ?_
   refine Tot.bind (Qjn _) fun n7 h7 => Tot.pure ⟨?_, h6.2.mono (by omega)⟩
   have e : (ByteArray.mk #[108, 101, 116]).size = 3 := rfl
   have := h2.1
   have := h6.1
   simp only [Qbg, List.length_cons, List.length_nil] at h3 h5 h7
   simp only; omega
  refine Tot.ite (fun _ => ?_) (fun _ => ?_)
  ·
   refine Tot.bind (Qj9 _) fun n1 h1 => ?_
   refine Tot.bind (ih hR ha0 (by omega) (by omega)) fun n2 h2 => ?_
   refine Tot.bind (ih h2.2 ha0 (by omega) (by omega)) fun n3 h3 => ?_
   have hz : Tot (Qcd a 0 n3.2) fun r => r.1.sz <= 100 /\ RdI r.2 (k + 1 + 1 + 1 + Qw d + Qw d + 2) := by
    rw [Qcd, if_pos (by rfl)]
    exact base h3.2 ha.1 ha.2.2 (by omega)
   refine Tot.bind hz fun n4 h4 => ?_
   refine Tot.bind (Qjn _) fun n5 h5 => Tot.pure ⟨?_, h4.2.mono (by omega)⟩
   have e : (ByteArray.mk #[105, 102]).size = 2 := rfl
   have := h2.1
   have := h3.1
   have := h4.1
   simp only [Qbg, List.length_cons, List.length_nil] at h5
   simp only; omega
  refine Tot.ite (fun _ => ?_) (fun _ => ?_)
  ·
   have q : Tot (Qbu 1 p.2) fun r => r.1.sz <= 3 * Qw d + 50 /\ RdI r.2 (k + 1 + 1 + 1 + (3 * Qw d + 50)) := by
    have := Q5x 1 hR (by omega) (by show k + 1 + 1 + 1 + 400 < _; omega)
    refine this.mono fun r hr => ⟨?_, hr.2.mono ?_⟩
    ·have := hr.1; change r.1.sz <= 400 at this; omega
    ·show k + 1 + 1 + 1 + 400 <= _; omega
   refine Tot.bind (Qj9 _) fun n1 h1 => ?_
   refine Tot.bind q fun n2 h2 => ?_
   refine Tot.bind (Qjn _) fun n3 h3 => Tot.pure ⟨?_, h2.2.mono (by omega)⟩
   have e : (ByteArray.mk #[113, 117, 111, 116, 101]).size = 5 := rfl
   have := h2.1
   simp only [Qbg, List.length_cons, List.length_nil] at h3
   simp only; omega
  ·refine Tot.bind (ih hR ha0 (by omega) (by omega)) fun n2 h2 => ?_
   refine Tot.bind (ih h2.2 ha0 (by omega) (by omega)) fun n3 h3 => ?_
   refine Tot.bind (Qjn _) fun n5 h5 => Tot.pure ⟨?_, h3.2.mono (by omega)⟩
   have := h2.1
   have := h3.1
   simp only [Qbg, List.length_cons, List.length_nil] at h5
   simp only; omega
theorem Qr7 : ∀ (f : Fm), f.sz < 1099511627776 -> Qd4 f = some f := by
 intro f
 induction f using Fm.ind with
 | h f ih =>
  intro hf
  have hz := Fm.Qgf f
  rw [Qd4]
  rw [Qbb (by simp only [List.length_nil]; omega)]
  simp only [List.nil_append, Option.bind_eq_bind, Option.bind_some]
  have key : ∀ n (i : Nat), i + n = f.kids.length -> Qcu f f.sc (f.kids.take i) i = some f.kids := by
   intro n
   induction n with
   | zero =>
    intro i hi
    rw [Qcu, if_neg (by omega), show i = f.kids.length by omega, List.take_length]
    rfl
   | succ n ihn =>
    intro i hi
    have hil : i < f.kids.length := by omega
    rw [Qcu, if_pos (by omega), Qap _ i hil]
    simp only [Option.bind_eq_bind, Option.bind_some]
    rw [ih _ (List.getElem_mem _) (by have := Fm.Qh3 (List.getElem_mem hil); omega)]
    simp only [Option.bind_some]
    rw [Qbb (by simp only [List.length_take, List.length_cons, List.length_nil]; omega)]
    simp only [Option.bind_some]
    rw [Qar (by omega), ← List.take_succ_eq_append_getElem hil]
    exact ihn (i + 1) (by omega)
  have := key f.kids.length 0 (by omega)
  simp only [List.take_zero] at this
  show (Qcu f f.sc [] 0 >>= fun e => pure (Fm.mk f.kind f.name f.num f.sc e)) = _
  have e0 : ((0 : Nat) : Int) = 0 := rfl
  rw [e0] at this
  rw [this]
  cases f
  rfl
theorem Q52 {α : Type} (g : α -> Nat) : ∀ (l : List α) (i : Nat) (x : α) (h : i < l.length), Qbg g (l.set i x) + g l[i] = Qbg g l + g x
 | [], i, x, h => by simp at h
 | a :: l, 0, x, h => by simp [Qbg]; omega
 | a :: l, i + 1, x, h => by
  simp only [List.set_cons_succ, Qbg, List.getElem_cons_succ]
  have := Q52 g l i x (by simpa using h)
  omega
end Go.Proofs.SA
namespace Go.Proofs.SA
theorem Qkd {c : Prop} [Decidable c] {o : Option Bool} (h : c -> Tot o fun _ => True) : Tot (if c then o else pure false) fun b => b = true -> c := by
 refine Tot.ite (fun hc => (h hc).mono fun _ _ _ => hc) (fun hc => Tot.pure fun h => by cases h)
theorem Q5r {c : Prop} [Decidable c] {o : Option Bool} (h : ¬ c -> Tot o fun _ => True) : Tot (if c then pure true else o) fun b => b = false -> ¬ c := by
 refine Tot.ite (fun hc => Tot.pure fun h => by cases h) (fun hc => (h hc).mono fun _ _ _ => hc)
theorem Kek {s : ByteArray} (hs : s.size < 1099511627776) : ∀ (n : Nat) (i : Int), 0 <= i -> i + n = s.size -> Tot (Qfe s i) fun r => i <= r /\ r <= s.size := by
 intro n
 induction n with
 | zero =>
  intro i h0 h
  rw [Qfe, if_neg (by omega)]
  exact ⟨i, rfl, by omega, by omega⟩
 | succ n ih =>
  intro i h0 h
  rw [Qfe]
  refine Tot.bind (Qkd fun hc => Tot.bind (Qhq h0 hc) fun _ _ => Tot.pure trivial) fun b hb => ?_
  refine Tot.ite (fun hb' => ?_) (fun _ => Tot.pure ⟨by omega, by omega⟩)
  rw [Qa8 (by omega) (by omega)]
  exact (ih (i + 1) (by omega) (by omega)).mono fun r hr => ⟨by omega, hr.2⟩
theorem Qn9 {s : ByteArray} (hs : s.size < 1099511627776) {i : Int} (h0 : 0 <= i) (h : i <= s.size) : Tot (Qin s i) fun r => i <= r /\ r <= s.size := by
 unfold Qin
 exact Tot.bind (Kek hs (s.size - i.toNat) i h0 (by omega)) fun r hr => Tot.pure hr
theorem Ke2 {s : ByteArray} (hs : s.size < 1099511627776) : ∀ (n : Nat) (i : Int), 0 <= i -> i + n = s.size -> Tot (Qff s i) fun r => i <= r /\ r <= s.size := by
 intro n
 induction n with
 | zero =>
  intro i h0 h
  rw [Qff, if_neg (by omega)]
  exact ⟨i, rfl, by omega, by omega⟩
 | succ n ih =>
  intro i h0 h
  rw [Qff]
  refine Tot.bind (Qkd fun hc => Tot.bind (Qhq h0 hc) fun _ _ => Tot.pure trivial) fun b hb => ?_
  refine Tot.bind (Qkd fun hc => Tot.bind (Qhq h0 (hb hc)) fun _ _ => Tot.pure trivial) fun b2 hb2 => ?_
  refine Tot.bind (Qkd fun hc => Tot.bind (Qhq h0 (hb (hb2 hc))) fun _ _ => Tot.pure trivial) fun b3 hb3 => ?_
  refine Tot.bind (Qkd fun hc => Tot.bind (Qhq h0 (hb (hb2 (hb3 hc)))) fun _ _ => Tot.pure trivial) fun b4 hb4 => ?_
  refine Tot.ite (fun hb' => ?_) (fun _ => Tot.pure ⟨by omega, by omega⟩)
  rw [Qa8 (by omega) (by omega)]
  exact (ih (i + 1) (by omega) (by omega)).mono fun r hr => ⟨by omega, hr.2⟩
theorem Kb6 {s : ByteArray} (hs : s.size < 1099511627776) {i : Int} (h0 : 0 <= i) (h : i <= s.size) : Tot (Qk9 s i) fun r => i <= r /\ r <= s.size := by
 unfold Qk9
 exact Tot.bind (Ke2 hs (s.size - i.toNat) i h0 (by omega)) fun r hr => Tot.pure hr
theorem Q7g {s : ByteArray} {x : Bool} (hs : s.size < 1099511627776) : ∀ (n : Nat) (v i : Int), 0 <= i -> i + n = s.size -> Tot (Qfa x s v i) fun _ => True := by
 intro n
 induction n with
 | zero =>
  intro v i h0 h
  rw [Qfa, if_neg (by omega)]
  exact ⟨_, rfl, trivial⟩
 | succ n ih =>
  intro v i h0 h
  rw [Qfa, if_pos (by omega)]
  have hx := Qhq (s := s) h0 (by omega)
  refine Tot.bind hx fun a _ => ?_
  refine Tot.bind (p := fun _ => True) (Tot.ite (fun _ => Tot.pure trivial) (fun _ => Tot.bind hx fun _ _ => Tot.pure trivial)) fun b _ => ?_
  refine Tot.ite (fun _ => Tot.pure trivial) (fun _ => ?_)
  refine Tot.bind hx fun a _ => ?_
  rw [Qa8 (a := i + 1) (by omega) (by omega)]
  exact ih _ (i + 1) (by omega) (by omega)
theorem Q17 {s : ByteArray} (hs : s.size < 1099511627776) : Tot (Qj1 s) fun r => r.2 = true -> 1 <= s.size := by
 unfold Qj1
 refine Tot.bind (Qkd fun hc => Tot.bind (Qhq (by omega) (by omega)) fun _ _ => Tot.pure trivial) fun b hb => ?_
 refine Tot.bind (p := fun z => z.size <= s.size) (Tot.ite (fun hb' => ?_) (fun _ => Tot.pure (Nat.le_refl _))) fun z hz => ?_
 ·exact Tot.bind (Qva (by omega) (by have := hb hb'; omega) (by omega)) fun z hz => Tot.pure (by omega)
 simp only [pure_bind]
 refine Tot.bind (p := fun b => b = false -> 1 <= z.size) (Tot.ite (fun hb' => Tot.pure fun h => by cases h) (fun hb' => ?_)) fun b2 hb2 => ?_
 ·simp only [Bool.or_eq_true, decide_eq_true_eq, not_or] at hb'
  refine Tot.bind (Qhq (by omega) (by omega)) fun a _ => ?_
  refine Tot.bind (p := fun _ => True) (Tot.ite (fun _ => Tot.pure trivial) (fun _ => Tot.pure trivial)) fun _ _ => Tot.pure fun _ => by omega
 refine Tot.ite (fun _ => Tot.pure fun h => by cases h) (fun hb' => ?_)
 have h1 := hb2 (by simpa using hb')
 refine Tot.bind (Q7g (by omega) z.size 0 0 (by omega) (by omega)) fun o _ => ?_
 cases o with
 | inl r => exact Tot.pure fun _ => by omega
 | inr e => exact Tot.ite (fun _ => Tot.pure fun _ => by omega) (fun _ => Tot.pure fun _ => by omega)
theorem Q66 {s : ByteArray} {c : Int} (hs : s.size < 1099511627) : ∀ (n : Nat) (z : List ByteArray) (a i : Int), 0 <= a -> a <= i -> i + n = s.size + 1 -> z.length + n <= s.size + 1 -> (∀ x ∈ z, x.size <= s.size) -> Tot (Qea s c z a i) fun r => ∀ x ∈ r, x.size <= s.size := by
 intro n
 induction n with
 | zero =>
  intro z a i h0 h1 h2 h3 h4
  rw [Qea, if_neg (by omega)]
  exact ⟨_, rfl, h4⟩
 | succ n ih =>
  intro z a i h0 h1 h2 h3 h4
  rw [Qea, if_pos (by omega)]
  refine Tot.bind (Q5r fun hc => Tot.bind (Qhq (by omega) (by omega)) fun _ _ => Tot.pure trivial) fun b hb => ?_
  rw [Qa8 (a := i + 1) (by omega) (by omega)]
  refine Tot.ite (fun _ => ?_) (fun _ => ih z a (i + 1) h0 (by omega) (by omega) (by omega) h4)
  refine Tot.bind (Qva h0 h1 (by omega)) fun y hy => ?_
  refine Tot.bind (Qm8 (by simp only [List.length_cons, List.length_nil]; omega)) fun w hw => ?_
  subst hw
  refine ih _ (i + 1) (i + 1) (by omega) (by omega) (by omega) (by simp only [List.length_append, List.length_cons, List.length_nil]; omega) fun x hx => ?_
  rcases List.mem_append.1 hx with hx | hx
  ·exact h4 x hx
  ·rw [List.mem_singleton] at hx; subst hx; omega
theorem Q36 {s : ByteArray} {a : Int} (hs : s.size < 1099511627776) : ∀ (n : Nat) (i : Int), 0 <= i -> i + n = s.size -> Tot (Qdh s a i) fun r => i <= r /\ r <= s.size := by
 intro n
 induction n with
 | zero =>
  intro i h0 h
  rw [Qdh, if_neg (by omega)]
  exact ⟨i, rfl, by omega, by omega⟩
 | succ n ih =>
  intro i h0 h
  rw [Qdh]
  refine Tot.bind (Qkd fun hc => Tot.bind (Qhq h0 hc) fun _ _ => Tot.pure trivial) fun b hb => ?_
  refine Tot.ite (fun hb' => ?_) (fun _ => Tot.pure ⟨by omega, by omega⟩)
  rw [Qa8 (by omega) (by omega)]
  exact (ih (i + 1) (by omega) (by omega)).mono fun r hr => ⟨by omega, hr.2⟩
theorem Q37 {e : Int} {l : List ByteArray} (hl : ∀ x ∈ l, x.size < 1099511627776) : ∀ (n : Nat) (z : List Int) (i : Int), 0 <= i -> i + n = 25 -> z.length <= i -> Tot (Qfd e l z i) fun r => match r with | .inl r => r.2 = -1 /\ r.1.length <= 25 | .inr r => r.length <= 25 := by
 intro n
 induction n with
 | zero =>
  intro z i h0 h1 h2
  rw [Qfd]
  refine Tot.bind (p := fun b => b = true -> i < l.length /\ i <= 24) (Tot.pure fun h => by simpa using h) fun b hb => ?_
  refine Tot.ite (fun h => by have := hb h; omega) (fun _ => Tot.pure (by simp only; omega))
 | succ n ih =>
  intro z i h0 h1 h2
  rw [Qfd]
  refine Tot.bind (p := fun b => b = true -> i < l.length /\ i <= 24) (Tot.pure fun h => by simpa using h) fun b hb => ?_
  refine Tot.ite (fun h => ?_) (fun _ => Tot.pure (by simp only; omega))
  have := hb h
  refine Tot.bind (Qjm h0 this.1) fun x hx => ?_
  refine Tot.bind (Q17 (hl x hx)) fun v _ => ?_
  refine Tot.ite (fun _ => Tot.pure (by simp only; exact ⟨trivial, by omega⟩)) (fun _ => ?_)
  refine Tot.bind (Qm8 (by simp only [List.length_cons, List.length_nil]; omega)) fun w hw => ?_
  subst hw
  rw [Qa8 (a := i + 1) (by omega) (by omega)]
  exact ih _ (i + 1) (by omega) (by omega) (by simp only [List.length_append, List.length_cons, List.length_nil]; omega)
theorem Kei {s : ByteArray} (hs : s.size < 1099511627) {i : Int} (h0 : 0 <= i) (h : i <= s.size) : Tot (Qk8 s i) fun r => r.1.length <= 25 /\ (r.2 = -1 ∨ (i <= r.2 /\ r.2 <= s.size)) := by
 unfold Qk8
 refine Tot.bind (p := fun b => b = false -> i < s.size /\ Qt1 s i = some 123) (Tot.ite (fun _ => Tot.pure fun h => by cases h) (fun hc => ?_)) fun b hb => ?_
 ·obtain ⟨v, hv, _⟩ := Qhq (s := s) h0 (by omega)
  rw [hv]
  refine Tot.bind (p := fun a => a = v) ⟨v, rfl, rfl⟩ fun a ha => Tot.pure fun h => ⟨by omega, ?_⟩
  subst ha
  have : a = 123 := by simpa using h
  rw [this]
 refine Tot.ite (fun _ => Tot.pure ⟨by simp, .inr ⟨by simp, h⟩⟩) (fun hb' => ?_)
 obtain ⟨hi, hv⟩ := hb (by simpa using hb')
 have he : Tot (Qdh s i i) fun e => i + 1 <= e /\ e <= s.size := by
  rw [Qdh, if_pos hi, hv]
  refine Tot.bind (p := fun b => b = true) ⟨true, rfl, rfl⟩ fun b hb => ?_
  rw [if_pos hb, Qa8 (by omega) (by omega)]
  exact Q36 (by omega) (s.size - (i + 1).toNat) (i + 1) (by omega) (by omega)
 refine Tot.bind he fun e he => ?_
 refine Tot.ite (fun _ => Tot.pure ⟨by simp, .inl rfl⟩) (fun hne => ?_)
 rw [Qa8 (a := i + 1) (by omega) (by omega), Qa8 (a := e + 1) (by omega) (by omega)]
 refine Tot.bind (Qva (by omega) he.1 he.2) fun x hx => ?_
 have hc : Tot (Qk4 x 44) fun r => ∀ y ∈ r, y.size <= x.size := by
  unfold Qk4
  exact Tot.bind (Q66 (by omega) (x.size + 1) [] 0 0 (by omega) (by omega) (by omega) (by simp) (by simp)) fun r hr => Tot.pure hr
 refine Tot.bind hc fun r hr => ?_
 refine Tot.bind (Q37 (fun y hy => by have := hr y hy; omega) 25 [] 0 (by omega) (by omega) (by simp)) fun o ho => ?_
 cases o with
 | inl r => exact Tot.pure ⟨ho.2, .inl ho.1⟩
 | inr r => exact Tot.pure ⟨ho, .inr ⟨by simp only; omega, by simp only; omega⟩⟩
theorem Qzx {s : ByteArray} (h : s.size = 0) : s = ByteArray.mk #[] := by
 obtain ⟨⟨l⟩⟩ := s
 congr
 simpa [ByteArray.size] using h
def Kjh (s : ByteArray) (i : Int) (r : Fm × Int) : Prop := r.2 = -1 ∨ (i < r.2 /\ r.2 <= s.size /\ (r.1.sz : Int) + 1 <= 27 * (r.2 - i))
theorem Kc4 {s : ByteArray} (hs : s.size < 1099511627) {i : Int} (h0 : 0 <= i) (h : i <= s.size) : Tot (Qk5 s i) (Kjh s i) := by
 unfold Qk5
 refine Tot.bind (Kb6 (by omega) h0 h) fun j hj => ?_
 refine Tot.bind (Qva h0 hj.1 hj.2) fun w hw => ?_
 refine Tot.bind (Q17 (by omega)) fun v hv => ?_
 refine Tot.ite (fun hb => ?_) (fun _ => ?_)
 ·have := hv hb
  refine Tot.pure (.inr ⟨by simp only; omega, by simp only; omega, ?_⟩)
  simp only; rw [Q0o]; show ((0 + 0 + 0 + 0 : Nat) : Int) + 1 <= _; omega
 refine Tot.ite (fun _ => Tot.pure (.inl rfl)) (fun hne => ?_)
 have hj1 : i < j := by
  rcases Int.lt_or_le i j with h1 | h1
  ·exact h1
  ·exact absurd (Qzx (s := w) (by omega)) hne
 refine Tot.bind (Kei hs (by omega) hj.2) fun t ht => Tot.pure ?_
 rcases ht.2 with h2 | h2
 ·exact .inl h2
 ·refine .inr ⟨by simp only; omega, h2.2, ?_⟩
  simp only; rw [Q0o]
  have := ht.1
  show ((w.size + t.1.length + 0 + 0 : Nat) : Int) + 1 <= _
  omega
theorem Kd8 {s : ByteArray} (hs : s.size < 1099511627) : ∀ (d : Nat), d < 1000 -> ∀ (i : Int), 0 <= i -> i <= s.size -> Tot (Qim s i d) (Kjh s i) := by
 intro d
 induction d with
 | zero =>
  intro _ i h0 h
  rw [Qim]
  refine Tot.bind (Qn9 (by omega) h0 h) fun j hj => ?_
  refine Tot.bind (p := fun b => b = true) (Tot.pure (by simp)) fun b hb => ?_
  rw [if_pos hb]
  exact Tot.pure (.inl rfl)
 | succ d ih =>
  intro hd i h0 h
  have loop : ∀ (n : Nat) (z : List Fm) (a : Int) (j : Int), 0 <= a -> a <= j -> j + n = s.size -> z.length <= 400 -> (Qbg Fm.sz z : Int) + z.length <= 27 * (j - a) -> Tot (Qh9 s ((d + 1 : Nat) : Int) z j) fun o => match o with | .inl r => r.2 = -1 | .inr r => a <= r.2 /\ r.2 <= s.size /\ (Qbg Fm.sz r.1 : Int) + r.1.length <= 27 * (r.2 - a) := by
   intro n
   induction n using Nat.strongRecOn with
   | _ n ihn =>
    intro z a j ha haj hj hz hsz
    rw [Qh9]
    refine Tot.bind (Qkd fun hc => Tot.bind (Qhq (by omega) hc) fun _ _ => Tot.pure trivial) fun b hb => ?_
    refine Tot.bind (p := fun b' => b' = true -> b = true /\ (z.length : Int) < 400) (Tot.pure fun h => by simpa using h) fun b' hb' => ?_
    refine Tot.ite (fun hbt => ?_) (fun _ => Tot.pure (by simp only; exact ⟨haj, by omega, hsz⟩))
    obtain ⟨h1, h2⟩ := hb' hbt
    have h3 := hb h1
    rw [Qa8 (by omega) (by omega), show ((d + 1 : Nat) : Int) - 1 = (d : Int) by omega]
    refine Tot.bind (ih (by omega) j (by omega) (by omega)) fun x hx => ?_
    refine Tot.ite (fun _ => Tot.pure (by simp only)) (fun hx0 => ?_)
    rcases hx with hx | hx
    ·omega
    refine Tot.bind (Qm8 (by simp only [List.length_cons, List.length_nil]; omega)) fun w hw => ?_
    subst hw
    refine Tot.bind (Qn9 (by omega) (by omega) hx.2.1) fun k hk => ?_
    refine ihn (s.size - k.toNat) (by omega) _ a k ha (by omega) (by omega) (by simp only [List.length_append, List.length_cons, List.length_nil]; omega) ?_
    simp only [Qni, Qbg, List.length_append, List.length_cons, List.length_nil]
    omega
  rw [Qim]
  refine Tot.bind (Qn9 (by omega) h0 h) fun j hj => ?_
  refine Tot.bind (p := fun b => b = false -> j < s.size) (Tot.pure fun h => by simp at h; omega) fun b hb => ?_
  refine Tot.ite (fun _ => Tot.pure (.inl rfl)) (fun hb' => ?_)
  have hjs := hb (by simpa using hb')
  refine Tot.bind (Qhq (by omega) hjs) fun c _ => ?_
  refine Tot.ite (fun _ => ?_) (fun _ => ?_)
  ·rw [Qa8 (a := j + 1) (by omega) (by omega)]
   refine Tot.bind (Qn9 (by omega) (by omega) (by omega)) fun k hk => ?_
   refine Tot.bind (loop (s.size - k.toNat) [] k k (by omega) (by omega) (by omega) (by simp) (by simp [Qbg])) fun o ho => ?_
   cases o with
   | inl r => exact Tot.pure (.inl ho)
   | inr r =>
    obtain ⟨r1, r2⟩ := r
    simp only at ho ⊢
    refine Tot.bind (Q5r fun hc => Tot.bind (Qhq (by omega) (by omega)) fun _ _ => Tot.pure trivial) fun b hb => ?_
    refine Tot.ite (fun _ => Tot.pure (.inl rfl)) (fun hb' => ?_)
    have := hb (by simpa using hb')
    rw [Qa8 (a := r2 + 1) (by omega) (by omega)]
    refine Tot.pure (.inr ⟨by simp only; omega, by simp only; omega, ?_⟩)
    simp only; rw [Q0o]
    show ((0 + 0 + r1.length + Qbg Fm.sz r1 : Nat) : Int) + 1 <= _
    omega
  ·refine Tot.bind (Kc4 hs (by omega) (by omega)) fun x hx => Tot.pure ?_
   rcases hx with hx | hx
   ·exact .inl hx
   ·exact .inr ⟨by simp only; omega, hx.2.1, by have := hx.2.2; simp only; omega⟩
end Go.Proofs.SA
namespace Go.Proofs.SA
theorem Q7c (c : Int) (b : Bool) : Tot (Qht c b) fun _ => True := by
 unfold Qht
 simp only [pure_bind]
 refine Tot.ite (fun _ => Tot.pure trivial) (fun _ => ?_)
 exact Tot.bind (p := fun _ => True) (Tot.ite (fun _ => Tot.pure trivial) (fun _ => Tot.pure trivial)) fun _ _ => Tot.pure trivial
theorem Qt0 {s : ByteArray} : ∀ (n : Nat) (i : Int), 0 <= i -> i + n = 13 -> Tot (Qbz s i) fun _ => True := by
 intro n
 induction n with
 | zero =>
  intro i h0 h
  rw [Qbz]
  refine Tot.bind (p := fun b => b = true -> i < s.size /\ i <= 12) (Tot.pure fun h => by simpa using h) fun b hb => ?_
  exact Tot.ite (fun h => by have := hb h; omega) (fun _ => Tot.pure trivial)
 | succ n ih =>
  intro i h0 h
  rw [Qbz]
  refine Tot.bind (p := fun b => b = true -> i < s.size /\ i <= 12) (Tot.pure fun h => by simpa using h) fun b hb => ?_
  refine Tot.ite (fun h => ?_) (fun _ => Tot.pure trivial)
  have := hb h
  refine Tot.bind (Qhq h0 this.1) fun c _ => ?_
  refine Tot.bind (Q7c _ _) fun v _ => ?_
  refine Tot.ite (fun _ => Tot.pure trivial) (fun _ => ?_)
  rw [Qa8 (by omega) (by omega)]
  exact ih _ (by omega) (by omega)
theorem Qz6 (s : ByteArray) : Tot (Qd9 s) fun _ => True := by
 unfold Qd9
 refine Tot.bind (p := fun _ => True) (Tot.pure trivial) fun _ _ => ?_
 refine Tot.ite (fun _ => Tot.pure trivial) (fun _ => ?_)
 refine Tot.bind (Qt0 13 0 (by omega) (by omega)) fun o _ => ?_
 cases o with
 | inl r => exact Tot.pure trivial
 | inr r => exact Tot.bind (p := fun _ => True) (Tot.pure trivial) fun _ _ => Tot.pure trivial
theorem Q0c {l : List Int} : ∀ (n : Nat) (i : Int), 0 <= i -> i + n = 25 -> Tot (Qb2 l i) fun _ => True := by
 intro n
 induction n with
 | zero =>
  intro i h0 h
  rw [Qb2]
  refine Tot.bind (p := fun b => b = true -> i < l.length /\ i <= 24) (Tot.pure fun h => by simpa using h) fun b hb => ?_
  exact Tot.ite (fun h => by have := hb h; omega) (fun _ => Tot.pure trivial)
 | succ n ih =>
  intro i h0 h
  rw [Qb2]
  refine Tot.bind (p := fun b => b = true -> i < l.length /\ i <= 24) (Tot.pure fun h => by simpa using h) fun b hb => ?_
  refine Tot.ite (fun h => ?_) (fun _ => Tot.pure trivial)
  have hi := (hb h).1
  have hx := Qjm h0 hi
  refine Tot.bind hx fun x _ => ?_
  refine Tot.bind (p := fun _ => True) (Tot.ite (fun _ => Tot.pure trivial) (fun _ => Tot.bind hx fun _ _ => Tot.pure trivial)) fun _ _ => ?_
  refine Tot.bind (p := fun _ => True) (Tot.ite (fun _ => Tot.pure trivial) (fun _ => ?_)) fun _ _ => ?_
  ·refine Tot.bind (p := fun _ => True) (Tot.ite (fun h1 => ?_) (fun _ => Tot.pure trivial)) fun _ _ => Tot.pure trivial
   rw [Qa8 (by omega) (by omega)]
   exact Tot.bind hx fun _ _ => Tot.bind (Qjm (by omega) (by omega)) fun _ _ => Tot.pure trivial
  refine Tot.ite (fun _ => Tot.pure trivial) (fun _ => ?_)
  rw [Qa8 (by omega) (by omega)]
  exact ih _ (by omega) (by omega)
theorem Q7v (l : List Int) : Tot (Qgm l) fun _ => True := by
 unfold Qgm
 refine Tot.bind (Q0c 25 0 (by omega) (by omega)) fun o _ => ?_
 cases o with
 | inl r => exact Tot.pure trivial
 | inr r => exact Tot.pure trivial
theorem pb {α : Type} {b : Bool} {k : Bool -> Option α} {p : α -> Prop} (h : ∀ b, Tot (k b) p) : Tot ((pure b : Option Bool) >>= k) p := h b
theorem Kle : ∀ (d : Nat), d < 1000 -> ∀ (f : Fm), f.sz < 1099511627776 -> Tot (Qh2 f d) fun _ => True := by
 intro d
 induction d with
 | zero => intro _ f _; rw [Qh2, if_pos (by rfl)]; exact Tot.pure trivial
 | succ d ih =>
  intro hd f hf
  have hz := Fm.Qgf f
  have loop : ∀ (n : Nat) (i : Int), 0 <= i -> i + n = f.kids.length -> Tot (Qfc f ((d + 1 : Nat) : Int) i) fun _ => True := by
   intro n
   induction n with
   | zero => intro i h0 h; rw [Qfc, if_neg (by omega)]; exact Tot.pure trivial
   | succ n ihn =>
    intro i h0 h
    rw [Qfc, if_pos (by omega)]
    refine Tot.bind (Qjm h0 (by omega)) fun g hg => ?_
    rw [Qa8 (by omega) (by omega), Qa8 (by omega) (by omega), show ((d + 1 : Nat) : Int) - 1 = (d : Int) by omega]
    refine Tot.bind (ih (by omega) g (by have := Fm.Qh3 hg; omega)) fun b _ => ?_
    exact Tot.ite (fun _ => Tot.pure trivial) (fun _ => ihn (i + 1) (by omega) (by omega))
  rw [Qh2, if_neg (by omega)]
  refine Tot.ite (fun _ => ?_) (fun _ => ?_)
  ·refine Tot.bind (Qz6 _) fun _ _ => pb fun b => ?_
   refine Tot.bind (p := fun _ => True) (Tot.ite (fun _ => Tot.bind (Q7v _) fun _ _ => Tot.pure trivial) (fun _ => Tot.pure trivial)) fun _ _ => pb fun _ => Tot.pure trivial
  refine Tot.ite (fun _ => pb fun _ => pb fun _ => pb fun _ => pb fun _ => Tot.pure trivial) (fun _ => ?_)
  refine pb fun _ => pb fun _ => pb fun _ => ?_
  refine Tot.ite (fun _ => Tot.pure trivial) (fun _ => ?_)
  refine Tot.bind (loop f.kids.length 0 (by omega) (by omega)) fun o _ => ?_
  cases o with
  | inl r => exact Tot.pure trivial
  | inr r => exact Tot.pure trivial
theorem Kac : ∀ (f : Fm), f.sz < 1099511627776 -> Tot (Qfb f) fun _ => True := by
 intro f
 induction f using Fm.ind with
 | h f ih =>
  intro hf
  have hz := Fm.Qgf f
  have loop : ∀ (n : Nat) (v i : Int), 0 <= i -> i + n = f.kids.length -> Tot (Qcv f v i) fun _ => True := by
   intro n
   induction n with
   | zero => intro v i h0 h; rw [Qcv, if_neg (by omega)]; exact Tot.pure trivial
   | succ n ihn =>
    intro v i h0 h
    rw [Qcv, if_pos (by omega)]
    refine Tot.bind (Qjm h0 (by omega)) fun g hg => ?_
    refine Tot.bind (ih g hg (by have := Fm.Qh3 hg; omega)) fun b _ => ?_
    rw [Qa8 (a := i + 1) (by omega) (by omega)]
    exact ihn _ (i + 1) (by omega) (by omega)
  rw [Qfb]
  exact Tot.bind (loop f.kids.length 1 0 (by omega) (by omega)) fun _ _ => Tot.pure trivial
theorem Qz0 {f : Fm} (hf : f.sz < 1099511627776) : Tot (Qa9 f) fun _ => True := by
 unfold Qa9
 refine Tot.bind (Kle 40 (by omega) f hf) fun _ _ => ?_
 exact Tot.bind (p := fun _ => True) (Tot.ite (fun _ => Tot.bind (Kac f hf) fun _ _ => Tot.pure trivial) (fun _ => Tot.pure trivial)) fun _ _ => Tot.pure trivial
theorem Qz8 {s : ByteArray} (hs : s.size < 1099511627) : Tot (Qi5 s) fun r => r.1.sz <= 27 * s.size := by
 unfold Qi5
 refine Tot.bind (Kd8 hs 40 (by omega) 0 (by omega) (by omega)) fun x hx => ?_
 refine Tot.bind (p := fun b => b = false -> 0 <= x.2) (Tot.ite (fun _ => Tot.pure fun h => by cases h) (fun h => ?_)) fun b hb => ?_
 ·have h2 : x.2 <= s.size := by rcases hx with hx | hx <;> omega
  exact Tot.bind (Qn9 (by omega) (by omega) h2) fun _ _ => Tot.pure fun _ => by omega
 have hsz : 0 <= x.2 -> x.1.sz <= 27 * s.size := fun h => by
  rcases hx with hx | hx
  ·omega
  ·have := hx.2.1; have := hx.2.2; omega
 refine Tot.bind (p := fun b' => b' = false -> 0 <= x.2) (Tot.ite (fun _ => Tot.pure fun h => by cases h) (fun h => ?_)) fun b' hb' => ?_
 ·have h0 := hb (by simpa using h)
  exact Tot.bind (Qz0 (by have := hsz h0; omega)) fun _ _ => Tot.pure fun _ => h0
 refine Tot.ite (fun _ => Tot.pure ?_) (fun h => Tot.pure (hsz (hb' (by simpa using h))))
 simp only; rw [Q0o]; show 0 + 0 + 0 + 0 <= _; omega
theorem Qwa {s : ByteArray} (hs : s.size <= 1000) : Tot (Qil s) fun r => r.sz <= 27000 := by
 unfold Qil
 exact Tot.bind (Qz8 (by omega)) fun r hr => Tot.pure (by omega)
theorem Q73 : Tot Ql1 fun l => 1 <= l.length /\ ∀ s ∈ l, s.size <= 1000 := ⟨_, rfl, by decide, by decide⟩
theorem Kah {c : Rdr} {k : Nat} (h : RdI c k) (hk : k < 1000000000) : Tot (Qlf c) fun r => r.1.sz <= 1000000 /\ RdI r.2 (k + 1000000) := by
 unfold Qlf
 refine Tot.bind Q73 fun l hl => ?_
 refine Tot.bind (Qcg h (by omega) (by omega)) fun x hx => ?_
 refine Tot.ite (fun _ => ?_) (fun _ => ?_)
 ·refine Tot.bind (Qcg hx.2.2 (by omega) (by omega)) fun y hy => ?_
  refine Tot.bind (Qjm hy.1 hy.2.1) fun s hs => ?_
  exact Tot.bind (Qwa (hl.2 s hs)) fun r hr => Tot.pure ⟨by simp only; omega, hy.2.2.mono (by omega)⟩
 refine Tot.bind (Qjp hx.2.2 (by omega) (by simp)) fun d hd => ?_
 have hd' : d.1 = 4 ∨ d.1 = 3 ∨ d.1 = 2 := by simpa using hd.1
 have hdn : ∃ n : Nat, n <= 4 /\ d.1 = (n : Int) := by
  rcases hd' with h | h | h
  ·exact ⟨4, by omega, h⟩
  ·exact ⟨3, by omega, h⟩
  ·exact ⟨2, by omega, h⟩
 obtain ⟨n, hn, hdn⟩ := hdn
 have hq : Qw n <= 256000 := by
  have : Qw n <= Qw 4 := by
   unfold Qw
   exact Nat.mul_le_mul_left _ (Nat.pow_le_pow_right (by omega) hn)
  exact this
 rw [hdn]
 refine Tot.bind (Kby n hd.2 ⟨by simp, by simp; omega, by decide⟩ (by omega) (by omega)) fun v hv => ?_
 refine Tot.bind (Qcg hv.2 (by omega) (by omega)) fun u hu => ?_
 refine Tot.ite (fun _ => ?_) (fun _ => Tot.pure ⟨by have := hv.1; simp only; omega, hu.2.2.mono (by omega)⟩)
 refine Tot.bind (Qwa (by decide)) fun r hr => ?_
 refine Tot.bind (Qj9 _) fun n1 h1 => ?_
 refine Tot.bind (Qj9 _) fun n2 h2 => ?_
 refine Tot.bind (Qjn _) fun n3 h3 => ?_
 refine Tot.bind (Qjn _) fun n4 h4 => ?_
 refine Tot.bind (Qjn _) fun n5 h5 => Tot.pure ⟨?_, hu.2.2.mono (by omega)⟩
 have e1 : (ByteArray.mk #[108, 101, 116, 45, 115, 121, 110, 116, 97, 120]).size = 10 := rfl
 have e2 : (ByteArray.mk #[103]).size = 1 := rfl
 have := hv.1
 simp only [Qbg, List.length_cons, List.length_nil] at h3 h4 h5
 simp only; omega
end Go.Proofs.SA
