/- Decimal numbers: the program's and the reference's. -/
import Derived.Test.YthdghhllcllneaaGreatDooreqL
import Derived.Test.YthdghhllcllneaaGreatDoorFmA
import Derived.Test.YthdghhllcllneaaGreatDoorGv
import Derived.Laws.BitsAllLaws
set_option linter.unusedVariables false
set_option linter.unusedSimpArgs false
set_option maxRecDepth 100000
open Go Go.Proofs Go.Proofs.Shadow
namespace Go.Proofs.Shadow
def bs (l : List UInt8) : ByteArray := ⟨l.toArray⟩
theorem Qhz (l : List UInt8) : (bs l).size = l.length := by simp [bs, ByteArray.size]
theorem Qo8 (a b : List UInt8) : bs a ++ bs b = bs (a ++ b) := by
 apply ByteArray.ext
 rw [ByteArray.data_append]
 simp [bs]
theorem Qu0 (s : ByteArray) : bs s.data.toList = s := by cases s; rfl
theorem Qsy {u : Nat} (h : u < 10000000000000000000) : Lib.nDigits u <= 19 := by
 rcases Nat.lt_or_ge 19 (Lib.nDigits u) with h1 | h1
 ·exfalso
  have : ∀ k u : Nat, k + 1 <= Lib.nDigits u -> 10 ^ k <= u ∨ k = 0 := by
   intro k
   induction k with
   | zero => intro u _; exact .inr rfl
   | succ k ih =>
    intro u hu
    left
    by_cases h10 : u < 10
    ·rw [Lib.nDigits_small h10] at hu; omega
    ·rw [Lib.nDigits_big h10] at hu
     rcases ih (u / 10) (by omega) with h2 | h2
     ·rw [Nat.pow_succ]; omega
     ·subst h2; simp; omega
  rcases this 19 u h1 with h2 | h2
  ·omega
  ·cases h2
 ·exact h1
theorem Qu5 {u : Nat} (h : u < 10000000000000000000) : (Lib.decDigits u).length <= 19 := by rw [Lib.decDigits_length]; exact Qsy h
theorem Qkx {n : Int} (h0 : -9223372036854775808 <= n) (h1 : n <= 9223372036854775807) : (Lib.itoa n).length <= 20 := by
 unfold Lib.itoa
 split
 ·have := Qu5 (u := n.natAbs) (by omega); simp only [List.length_cons]; omega
 ·have := Qu5 (u := n.toNat) (by omega); omega
theorem Qog {n : Int} (h0 : -9223372036854775808 <= n) (h1 : n <= 9223372036854775807) : Qvo n = some (bs (Lib.itoa n)) := by
 have := Qkx h0 h1
 unfold Qvo
 rw [if_pos ⟨h0, h1, by omega⟩]; rfl
end Go.Proofs.Shadow
namespace Go.Proofs.SA
end Go.Proofs.SA
