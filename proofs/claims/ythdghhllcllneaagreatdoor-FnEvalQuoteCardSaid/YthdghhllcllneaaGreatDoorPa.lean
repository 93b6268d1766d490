/- Plain functions: small laws. -/
import Derived.Test.YthdghhllcllneaaGreatDoorGx
set_option linter.unusedVariables false
set_option linter.unusedSimpArgs false
namespace Go.Proofs.Shadow
open Go
abbrev W (x : Int) : Int := IntKind.wrap .i64 x
theorem Qau {α β : Type} (a : α) (f : α -> Option β) : ((some a : Option α) >>= f) = f a := rfl
theorem Qby {α : Type} (a : α) : (pure a : Option α) = some a := rfl
theorem Qb6 {α : Type} (l : List α) (i : Nat) (h : i < l.length) : idx l (i : Int) = some l[i] := by
 simp [idx, h]
theorem Qvl {α : Type} (l : List α) (i : Int) (h0 : 0 <= i) (h : i < l.length) : idx l i = some (l[i.toNat]'(by omega)) := by
 have := Qb6 l i.toNat (by omega)
 rwa [Int.toNat_of_nonneg h0] at this
theorem Qbn {i : Nat} (h : i < 4611686018427387904) : IntKind.wrap .i64 ((i : Int) + 1) = ((i + 1 : Nat) : Int) := Qv9 h
theorem Qr0 (s : ByteArray) (i : Nat) (h : i < s.size) : Q07 s (i : Int) = some (byt s i) := by
 simp only [Q07, Int.toNat_natCast]
 rw [if_pos ⟨by omega, by omega⟩]
theorem Qem {α : Type} {n : Nat} {xs ys : List α} (h : (xs.length + ys.length) * n <= 140737488355328) : Qhd n xs ys = some (xs ++ ys) := if_pos h
theorem Qm7 {x y : ByteArray} (h : x.size + y.size <= 4611686018427387904) : Qtt x y = some (x ++ y) := if_pos h
def Tot {α : Type} (o : Option α) (p : α -> Prop) : Prop := ∃ a, o = some a /\ p a
theorem Tot.bind {α β : Type} {o : Option α} {p : α -> Prop} {k : α -> Option β} {q : β -> Prop} (h : Tot o p) (hk : ∀ a, p a -> Tot (k a) q) : Tot (o >>= k) q := by
 obtain ⟨a, rfl, ha⟩ := h
 exact hk a ha
theorem Tot.pure {α : Type} {a : α} {p : α -> Prop} (h : p a) : Tot (pure a : Option α) p := ⟨a, rfl, h⟩
theorem Tot.mono {α : Type} {o : Option α} {p q : α -> Prop} (h : Tot o p) (hk : ∀ a, p a -> q a) : Tot o q := by
 obtain ⟨a, h1, h2⟩ := h; exact ⟨a, h1, hk a h2⟩
theorem Tot.ite {α : Type} {c : Prop} [Decidable c] {x y : Option α} {p : α -> Prop} (h1 : c -> Tot x p) (h2 : ¬ c -> Tot y p) : Tot (if c then x else y) p := by
 split
 ·exact h1 (by assumption)
 ·exact h2 (by assumption)
theorem Qj3 {α : Type} {l : List α} {i : Int} (h0 : 0 <= i) (h : i < l.length) : Tot (idx l i) fun x => x ∈ l := by
 rw [Qvl l i h0 h]; exact ⟨_, rfl, List.getElem_mem _⟩
theorem Qoi {α : Type} {n : Nat} {xs ys : List α} (h : (xs.length + ys.length) * n <= 140737488355328) : Tot (Qhd n xs ys) fun z => z = xs ++ ys := ⟨_, Qem h, rfl⟩
theorem Qx0 {α : Type} {l : List α} {lo hi : Int} (h0 : 0 <= lo) (h1 : lo <= hi) (h2 : hi <= l.length) : Tot (Qts l lo hi) fun z => (z.length : Int) = hi - lo /\ ∀ x ∈ z, x ∈ l := by
 simp only [Qts]; rw [if_pos ⟨h0, h1, h2⟩]; exact ⟨_, rfl, by simp only [List.length_take, List.length_drop]; omega, fun x hx => List.mem_of_mem_drop (List.mem_of_mem_take hx)⟩
theorem Qmm {a b : Int} (h : 0 <= a) (hb : 1 <= b) : Tot (Qxv a b) fun r => 0 <= r /\ r < b := by
 simp only [Qxv]; rw [if_neg (by omega)]; exact ⟨_, rfl, Int.tmod_nonneg _ h, Int.tmod_lt_of_pos _ (by omega)⟩
theorem Qxu {a b : Int} (h : 0 <= a) (ha : a < 4611686018427387904) (hb : 1 <= b) : Tot (Q1x a b) fun r => 0 <= r /\ r <= a := by
 have h1 : 0 <= a.tdiv b := Int.tdiv_nonneg h (by omega)
 have h2 : a.tdiv b <= a := Int.tdiv_le_self _ h
 simp only [Q1x]; rw [if_neg (by omega), Qce (by omega) (by omega)]; exact ⟨_, rfl, h1, h2⟩
theorem Qxd {a b : Int} (ha : 0 <= a) (ha2 : a < 4611686018427387904) (hb : 0 <= b) (hb2 : b < 4611686018427387904) : 0 <= bits .xor .i64 a b /\ bits .xor .i64 a b < 4611686018427387904 := by
 obtain ⟨x, rfl⟩ := Int.eq_ofNat_of_zero_le ha
 obtain ⟨y, rfl⟩ := Int.eq_ofNat_of_zero_le hb
 have := Q0j x y (by omega) (by omega)
 rw [this.1]
 omega
end Go.Proofs.Shadow
