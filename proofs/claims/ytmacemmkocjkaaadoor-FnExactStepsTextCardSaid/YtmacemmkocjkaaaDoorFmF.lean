/- The drawing reader: its block, numbers. -/
import Derived.Test.YtmacemmkocjkaaaDoorFmC
import Derived.Laws.BitsAllLaws
set_option linter.unusedVariables false
set_option linter.unusedSimpArgs false
namespace Go.Proofs.Shadow
open Go Go.RowKit
def bys (l : List Nat) : List (List AV) := l.map fun (x : Nat) => [.int .u8 (x : Int)]
theorem bys_mem (l : List Nat) : ∀ r ∈ bys l, r.length = 1 := by intro r hr; obtain ⟨f, _, rfl⟩ := List.mem_map.1 hr; rfl
theorem Wk.val2 {σ σ' : Sto} {r r' : AV} (h : WkV r r') (hs : Sub σ' σ) : Wk σ r σ' r' := (Wk.val h).trans (Wk.sub hs r')
theorem bys_take (l : List Nat) (n : Nat) : (bys l).take n = bys (l.take n) := by simp [bys]
theorem bys_len (l : List Nat) : (bys l).length = l.length := by simp [bys]
theorem aidx_map {α : Type} {l : List α} {g : α → List AV} {i sz by_ : Nat} {e : TypeId} {c : Bool} {k : IntKind} {σ : Sto} (hi : i < l.length) (hs : (g l[i]).length = sz) : aidx σ (some (e, sz, by_)) (.sl c (l.map g)) (.int k (i : Int)) = some (.ept (g l[i])) := by
  have hl : i < (l.map g).length := by simpa using hi
  have he : (l.map g)[i] = g l[i] := by simp
  rw [aidx_rows hl (by rw [he]; exact hs), he]
theorem aidx_by {l : List Nat} {i by_ : Nat} {e : TypeId} {c : Bool} {k : IntKind} {σ : Sto} (hi : i < l.length) : aidx σ (some (e, 1, by_)) (.sl c (bys l)) (.int k (i : Int)) = some (.ept [.int .u8 (l[i] : Int)]) := aidx_map (sz := 1) (g := fun (x : Nat) => [.int .u8 (x : Int)]) hi rfl
/-- The reader's block. -/
def Rd (ty : TypeId) (bs : List Nat) (p : Nat) : Ent := ⟨ty, 2, [.sl false (bys bs), .int .i64 (p : Int)]⟩
def BsOk (bs : List Nat) : Prop := bs.length ≤ 140737488355328 ∧ ∀ x ∈ bs, x < 256
theorem tmod_nat (a b : Nat) : (a : Int).tmod (b : Int) = ((a % b : Nat) : Int) := (rfl)
theorem tdiv_nat (a b : Nat) : (a : Int).tdiv (b : Int) = ((a / b : Nat) : Int) := (rfl)
theorem i64_xor (a b : Nat) (ha : a < 4611686018427387904) (hb : b < 4611686018427387904) : bits .xor .i64 (a : Int) (b : Int) = ((a ^^^ b : Nat) : Int) ∧ a ^^^ b < 4611686018427387904 := by
  have hx : a ^^^ b < 2 ^ 62 := Nat.xor_lt_two_pow (by omega) (by omega)
  refine ⟨?_, by omega⟩
  have e1 : (BitVec.ofInt 64 (a : Int) ^^^ BitVec.ofInt 64 (b : Int)).toNat = a ^^^ b := by
    rw [BitVec.toNat_xor, BitVec.toNat_ofInt, BitVec.toNat_ofInt]
    congr 1 <;> omega
  show IntKind.i64.wrap (((BitVec.ofInt 64 (a : Int) ^^^ BitVec.ofInt 64 (b : Int)).toNat : Nat) : Int) = _
  rw [e1, wrap_id (by omega) (by omega)]
theorem aun_neg (k : IntKind) (n : Int) : aun .neg (.int k n) = some (.int k (k.wrap (0 - n))) := (rfl)
theorem aconv_int (k : IntKind) (u s : Bool) (k' : IntKind) (n : Int) : aconv (some k) u s (.int k' n) = some (.int k (k.wrap n)) := (rfl)
theorem afill_nil (ps : List (Nat × Nat)) (cells : List AV) : afill ps cells [] = some cells := (rfl)
theorem afill_cons (ps : List (Nat × Nat)) (cells : List AV) (i : Nat) (v : AV) (rest : List (Nat × AV)) : afill ps cells ((i, v) :: rest) = (ps[i]?).bind fun p => (avCells v).bind fun cs => if cs.length = p.2 ∧ p.1 + p.2 ≤ cells.length then afill ps (splice cells p.1 cs) rest else none := by
  simp only [afill]
  cases ps[i]? <;> cases avCells v <;> rfl
theorem abuild_eq (z : List AV) (ps : List (Nat × Nat)) (parts : List (Nat × AV)) : abuild (some z) (some ps) parts = (afill ps z parts).map .agg := (rfl)
theorem rowsOf_nil (sz k : Nat) : rowsOf sz k [] = some [] := by cases k <;> rfl
theorem rowsOf_cons (sz k i : Nat) (v : AV) (rest : List (Nat × AV)) : rowsOf sz k ((i, v) :: rest) = (avCells v).bind fun cs => if i = k ∧ cs.length = sz then (rowsOf sz (k + 1) rest).map (cs :: ·) else none := by
  simp only [rowsOf]
  cases avCells v <;> rfl
theorem abslice_eq (e : TypeId) (sz by_ : Nat) (z : Bool) (len : Nat) (parts : List (Nat × AV)) : abslice (some (e, sz, by_)) z len parts = if z = true ∧ len ≤ 16777216 ∧ len * sz ≤ 16777216 ∧ parts.length = len then (rowsOf sz 0 parts).map (.sl true) else none := (rfl)
theorem aslice_hi {e : TypeId} {sz by_ : Nat} {c : Bool} {xs : List (List AV)} {n : Nat} {k : IntKind} (hr : ∀ r ∈ xs, r.length = sz) (hn : n ≤ xs.length) : aslice false (some (e, sz, by_)) (.sl c xs) none (some (.int k (n : Int))) none = some (.sl (c && decide ((n : Int) = xs.length)) (xs.take n)) := by
  have h : xs.all (fun x => x.length == sz) = true := by simpa using hr
  simp only [aslice, h, if_true, bound, Option.bind_some, Int.sub_zero, Int.toNat_natCast]
  rw [if_pos ⟨by omega, by omega, by omega⟩]
  simp
theorem aslice_str {k : Option (TypeId × Nat × Nat)} {s : ByteArray} {l h : Nat} {k1 k2 : IntKind} (hl : l ≤ h) (hh : h ≤ s.size) : aslice true k (.str s) (some (.int k1 (l : Int))) (some (.int k2 (h : Int))) none = some (.str (s.extract l h)) := by
  simp only [aslice, bound, Option.bind_some, Option.isNone_none, Bool.and_self, if_true, Int.toNat_natCast, and_self]
  rw [if_pos ⟨by omega, by omega, by omega⟩]
theorem aslice_str_from {k : Option (TypeId × Nat × Nat)} {s : ByteArray} {l : Nat} {k1 : IntKind} (hl : l ≤ s.size) : aslice true k (.str s) (some (.int k1 (l : Int))) none none = some (.str (s.extract l s.size)) := by
  simp only [aslice, bound, Option.bind_some, Option.isNone_none, Bool.and_self, if_true, Int.toNat_natCast, and_self]
  rw [if_pos ⟨by omega, by omega, by omega⟩]
theorem aGd_introN {P : Program} {t : Bool} {o : Oper} {s : AS} {K : AS → Prop} (h1 : t = false → aop P o s K) (h2 : t = true → K (s.put o.dst skipped)) : aGd P (some (!t)) o s K :=
  aGd_intro (fun h => h1 (by simpa using h)) (fun h => h2 (by simpa using h))
theorem tGd_introN {P : Program} {E : Nat → Prop} {t : Bool} {c : Cl} {o : Oper} {s : AS} {K : AS → Prop} (h1 : t = false → tGd P E (some true) c o s K) (h2 : t = true → K (s.put o.dst skipped)) : tGd P E (some (!t)) c o s K :=
  tGd_intro (fun h => h1 (by simpa using h)) (fun h => h2 (by simpa using h))
/-- A string's byte. -/
def byt (s : ByteArray) (i : Nat) : Int := ((s.data.toList.getD i 0).toNat : Int)
theorem byt_ge (s : ByteArray) (i : Nat) : 0 ≤ byt s i ∧ byt s i < 256 := by
  unfold byt
  have := (s.data.toList.getD i 0).toNat_lt
  omega
theorem aindex_str {s : ByteArray} {i : Nat} {k : IntKind} (h : i < s.size) : aindex true (.str s) (.int k (i : Int)) = some (.int .u8 (byt s i)) := by
  simp only [aindex, Int.toNat_natCast, byt]
  rw [if_pos ⟨by omega, by omega⟩]
/-- A function that leaves the store as it was and answers something with Q. -/
def ECtr (P : Program) (f : FuncId) (args : List AV) (Q : AV → Prop) : Prop := ∀ σ, Ctr P f args σ fun r σ' => Q r ∧ σ' = σ
theorem aCall_ex {P : Program} {f : FuncId} {args bs : List AV} {Q : AV → Prop} {T : Nat → AV} {σ : Sto} {dst : Option Tmp} {K : AS → Prop} (h : ECtr P f bs Q) (hw : WkVL args bs) (hK : ∀ r, Q r → K (AS.put ⟨T, σ⟩ dst r)) : aCall P (.fn f []) args ⟨T, σ⟩ dst K := by
  show Ctr P f (args ++ []) σ _
  rw [List.append_nil]
  exact (Ctr.args hw (h σ)).mono (fun r σ' ⟨h1, h2⟩ => by subst h2; exact hK r h1)
theorem aRet_ex {P : Program} {rs : List ResultVar} {s : AS} {vs : List AV} {σ : Sto} {Q : AV → Prop} {v : AV} (h : aresL P s rs = some vs) (hw : Wk s.σ (packed vs) σ v) (hq : Q v) : aRet P rs (fun r σ' => Q r ∧ σ' = σ) s := ⟨vs, h, v, σ, hw, hq, rfl⟩
/-- A contract told anew: the value, the store. -/
theorem Ctr.mono2 {P : Program} {f : FuncId} {args : List AV} {σ : Sto} {Q Q' : AV → Sto → Prop} (h : Ctr P f args σ Q) (hq : ∀ r σ', Q r σ' → ∃ r2 σ2, Wk σ' r σ2 r2 ∧ Q' r2 σ2) : Ctr P f args σ Q' :=
  ⟨h.1, fun w cargs hs htb hl hr => Calls.mono (h.2 w cargs hs htb hl hr) (fun e w' he => by
    obtain ⟨v, r, σ', h1, h2, h3, h4, h5⟩ := he
    obtain ⟨r2, σ2, h6, h7⟩ := hq r σ' h5
    obtain ⟨k1, k2, k3⟩ := h6 w' v h3 h4
    exact ⟨v, r2, σ2, h1, h2.trans (Step.drop k3), k1, k2, h7⟩)⟩
/-- What a draw leaves: the reader further on, the rest as it was. -/
def Drw (σ : Sto) (rb : Nat) (ty : TypeId) (bs : List Nat) (p C : Nat) (Q : AV → Prop) (r : AV) (σ' : Sto) : Prop := ∃ p', p ≤ p' ∧ p' ≤ p + C ∧ σ' = σ.setVar rb (Rd ty bs p') ∧ Q r
/-- A function that draws: at most C numbers. -/
def DCtr (P : Program) (f : FuncId) (args : List AV) (C : Nat) (Q : AV → Prop) : Prop :=
  ∀ ty bs p rb σ, BsOk bs → p + C < 1099511627776 → σ.var rb = some (Rd ty bs p) → Ctr P f (.ptr rb 0 :: args) σ (Drw σ rb ty bs p C Q)
/-- σ's blocks but rb are in σ'. -/
structure SubX (rb : Nat) (σ σ' : Sto) : Prop where
  var : ∀ b e, b ≠ rb → σ.var b = some e → σ'.var b = some e
  own : ∀ b e, σ.own b = some e → σ'.own b = some e
theorem SubX.refl (rb : Nat) (σ : Sto) : SubX rb σ σ := ⟨fun _ _ _ h => h, fun _ _ h => h⟩
theorem SubX.set {rb : Nat} {σ σ' : Sto} (h : SubX rb σ σ') (e : Ent) : SubX rb σ (σ'.setVar rb e) := ⟨fun b e' hb he => by
  simp only [Sto.setVar]; rw [if_neg hb]; exact h.var b e' hb he, h.own⟩
theorem SubX.new {rb : Nat} {σ σ' : Sto} (h : SubX rb σ σ') {b : Nat} (hb : σ.dead b) (e : Ent) : SubX rb σ (σ'.setVar b e) := ⟨fun x e' hx he => by
  simp only [Sto.setVar]; rw [if_neg (fun hh => by subst hh; rw [hb.1] at he; cases he)]; exact h.var x e' hx he, h.own⟩
theorem SubX.newOwn {rb : Nat} {σ σ' : Sto} (h : SubX rb σ σ') {b : Nat} (hb : σ.dead b) (e : Ent) : SubX rb σ (σ'.setOwn b e) := ⟨h.var, fun x e' he => by
  simp only [Sto.setOwn]; rw [if_neg (fun hh => by subst hh; rw [hb.2] at he; cases he)]; exact h.own x e' he⟩
theorem SubX.sub {rb : Nat} {σ σ' : Sto} (h : SubX rb σ σ') {e : Ent} (he : σ'.var rb = some e) : Sub (σ.setVar rb e) σ' := ⟨fun b e' hb => by
  simp only [Sto.setVar] at hb
  split at hb
  · rename_i h1; subst h1; rw [he]; exact hb
  · rename_i h1; exact h.var b e' h1 hb, h.own⟩
/-- A draw's end. -/
theorem aRet_drw {P : Program} {rs : List ResultVar} {s : AS} {vs : List AV} {σ : Sto} {rb : Nat} {ty : TypeId} {bs : List Nat} {p p' C : Nat} {Q : AV → Prop} (h : aresL P s rs = some vs) (hx : SubX rb σ s.σ) (hr : s.σ.var rb = some (Rd ty bs p')) (h1 : p ≤ p') (h2 : p' ≤ p + C) (hq : Q (packed vs)) : aRet P rs (Drw σ rb ty bs p C Q) s :=
  ⟨vs, h, packed vs, _, Wk.sub (hx.sub hr) _, p', h1, h2, rfl, hq⟩
theorem aRet_drw_wk {P : Program} {rs : List ResultVar} {s : AS} {vs : List AV} {v : AV} {σ σ1 : Sto} {rb : Nat} {ty : TypeId} {bs : List Nat} {p p' C : Nat} {Q : AV → Prop} (h : aresL P s rs = some vs) (hw : Wk s.σ (packed vs) σ1 v) (hx : SubX rb σ σ1) (hr : σ1.var rb = some (Rd ty bs p')) (h1 : p ≤ p') (h2 : p' ≤ p + C) (hq : Q v) : aRet P rs (Drw σ rb ty bs p C Q) s :=
  ⟨vs, h, v, _, hw.trans (Wk.sub (hx.sub hr) _), p', h1, h2, rfl, hq⟩
theorem live_ne {σ : Sto} {b b' : Nat} {e : Ent} (h : σ.var b = some e) (hd : σ.dead b') : b ≠ b' := fun he => by subst he; rw [hd.1] at h; cases h
theorem live_ne2 {σ : Sto} {b b' : Nat} {e : Ent} (h : σ.own b = some e) (hd : σ.dead b') : b ≠ b' := fun he => by subst he; rw [hd.2] at h; cases h
attribute [go_sem] afill_nil afill_cons abuild_eq rowsOf_nil rowsOf_cons abslice_eq Option.map_none true_and and_true and_self Nat.zero_mul Nat.mul_one Nat.one_mul aun_neg aconv_int bys_len tmod_nat tdiv_nat
end Go.Proofs.Shadow
