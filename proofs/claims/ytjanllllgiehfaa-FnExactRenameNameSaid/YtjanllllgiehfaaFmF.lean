/- The drawing reader: its block, numbers. -/
import Derived.Test.YtjanllllgiehfaaFmC
import Derived.Laws.BitsAllLaws
set_option linter.unusedVariables false
set_option linter.unusedSimpArgs false
namespace Go.Proofs.Shadow
open Go Go.RowKit
def bys (l : List Nat) : List (List AV) := l.map fun (x : Nat) => [.int .u8 (x : Int)]
theorem Wk.val2 {σ σ' : Sto} {r r' : AV} (h : WkV r r') (hs : Sub σ' σ) : Wk σ r σ' r' := (Wk.val h).trans (Wk.sub hs r')
theorem bys_len (l : List Nat) : (bys l).length = l.length := by simp [bys]
theorem tmod_nat (a b : Nat) : (a : Int).tmod (b : Int) = ((a % b : Nat) : Int) := (rfl)
theorem tdiv_nat (a b : Nat) : (a : Int).tdiv (b : Int) = ((a / b : Nat) : Int) := (rfl)
theorem aun_neg (k : IntKind) (n : Int) : aun .neg (.int k n) = some (.int k (k.wrap (0 - n))) := (rfl)
theorem aconv_int (k : IntKind) (u s : Bool) (k' : IntKind) (n : Int) : aconv (some k) u s (.int k' n) = some (.int k (k.wrap n)) := (rfl)
theorem afill_nil (ps : List (Nat × Nat)) (cells : List AV) : afill ps cells [] = some cells := (rfl)
theorem afill_cons (ps : List (Nat × Nat)) (cells : List AV) (i : Nat) (v : AV) (rest : List (Nat × AV)) : afill ps cells ((i, v) :: rest) = (ps[i]?).bind fun p => (avCells v).bind fun cs => if cs.length = p.2 ∧ p.1 + p.2 ≤ cells.length then afill ps (splice cells p.1 cs) rest else none := by
  simp only [afill]
  cases ps[i]? <;> cases avCells v <;> rfl
theorem abuild_eq (z : List AV) (ps : List (Nat × Nat)) (parts : List (Nat × AV)) : abuild (some z) (some ps) parts = (afill ps z parts).map .agg := (rfl)
theorem rowsOf_nil (sz k : Nat) : rowsOf sz k [] = some [] := by cases k <;> rfl
theorem rowsOf_cons (sz k i : Nat) (v : AV) (rest : List (Nat × AV)) : rowsOf sz k ((i, v) :: rest) = (avCells v).bind fun cs => if i = k ∧ cs.length = sz then (rowsOf sz (k + 1) rest).map (cs :: ·) else none := by
  simp only [rowsOf]
  cases avCells v <;> rfl
theorem abslice_eq (e : TypeId) (sz by_ : Nat) (z : Bool) (len : Nat) (parts : List (Nat × AV)) : abslice (some (e, sz, by_)) z len parts = if z = true ∧ len ≤ 16777216 ∧ len * sz ≤ 16777216 ∧ parts.length = len then (rowsOf sz 0 parts).map (.sl true) else none := (rfl)
theorem aslice_str_from {k : Option (TypeId × Nat × Nat)} {s : ByteArray} {l : Nat} {k1 : IntKind} (hl : l ≤ s.size) : aslice true k (.str s) (some (.int k1 (l : Int))) none none = some (.str (s.extract l s.size)) := by
  simp only [aslice, bound, Option.bind_some, Option.isNone_none, Bool.and_self, if_true, Int.toNat_natCast, and_self]
  rw [if_pos ⟨by omega, by omega, by omega⟩]
theorem aGd_introN {P : Program} {t : Bool} {o : Oper} {s : AS} {K : AS → Prop} (h1 : t = false → aop P o s K) (h2 : t = true → K (s.put o.dst skipped)) : aGd P (some (!t)) o s K :=
  aGd_intro (fun h => h1 (by simpa using h)) (fun h => h2 (by simpa using h))
theorem tGd_introN {P : Program} {E : Nat → Prop} {t : Bool} {c : Cl} {o : Oper} {s : AS} {K : AS → Prop} (h1 : t = false → tGd P E (some true) c o s K) (h2 : t = true → K (s.put o.dst skipped)) : tGd P E (some (!t)) c o s K :=
  tGd_intro (fun h => h1 (by simpa using h)) (fun h => h2 (by simpa using h))
/-- A string's byte. -/
def byt (s : ByteArray) (i : Nat) : Int := ((s.data.toList.getD i 0).toNat : Int)
theorem byt_ge (s : ByteArray) (i : Nat) : 0 ≤ byt s i ∧ byt s i < 256 := by
  unfold byt
  have := (s.data.toList.getD i 0).toNat_lt
  omega
theorem aindex_str {s : ByteArray} {i : Nat} {k : IntKind} (h : i < s.size) : aindex true (.str s) (.int k (i : Int)) = some (.int .u8 (byt s i)) := by
  simp only [aindex, Int.toNat_natCast, byt]
  rw [if_pos ⟨by omega, by omega⟩]
/-- σ's blocks but rb are in σ'. -/
structure SubX (rb : Nat) (σ σ' : Sto) : Prop where
  var : ∀ b e, b ≠ rb → σ.var b = some e → σ'.var b = some e
  own : ∀ b e, σ.own b = some e → σ'.own b = some e
theorem SubX.newOwn {rb : Nat} {σ σ' : Sto} (h : SubX rb σ σ') {b : Nat} (hb : σ.dead b) (e : Ent) : SubX rb σ (σ'.setOwn b e) := ⟨h.var, fun x e' he => by
  simp only [Sto.setOwn]; rw [if_neg (fun hh => by subst hh; rw [hb.2] at he; cases he)]; exact h.own x e' he⟩
theorem amax_int (a b : Int) : amax (.int .i64 a) (.int .i64 b) = some (.int .i64 (if b > a then b else a)) := (rfl)
attribute [go_sem] amax_int afill_nil afill_cons abuild_eq rowsOf_nil rowsOf_cons abslice_eq Option.map_none true_and and_true and_self Nat.zero_mul Nat.mul_one Nat.one_mul aun_neg aconv_int bys_len tmod_nat tdiv_nat
end Go.Proofs.Shadow
