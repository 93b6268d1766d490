/- FreshName: the program's and the reference's; the exact law yields true. -/
import Derived.Test.YtmacemmkocjkaaaDoorQb
import Derived.Test.YtmacemmkocjkaaaDoorQc
set_option linter.unusedVariables false
set_option linter.unusedSimpArgs false
set_option maxRecDepth 100000
open Go Go.Proofs Go.Proofs.Shadow
namespace Go.Proofs.Shadow
/-- "fresh" and a number. -/
def freshN (k : Nat) : ByteArray := bs ([102, 114, 101, 115, 104] ++ Lib.itoa (k : Int))
/-- The first one, from k on, n tries. -/
def freshM (names : List ByteArray) : Nat → Nat → Option ByteArray
  | 0, _ => none
  | n + 1, k => if hasN names (freshN k) then freshM names n (k + 1) else some (freshN k)
def freshF (f : Fm) : ByteArray := (freshM (namesM [] f) 401 0).getD (bs [])
end Go.Proofs.Shadow
namespace Go.Proofs.SA
theorem fresh_add (k : Nat) (hk : k < 1000000) : scat (ByteArray.mk #[102, 114, 101, 115, 104]) (bs (Lib.itoa (k : Int))) = some (freshN k) := by
  have := itoa_len (n := (k : Int)) (by omega) (by omega)
  rw [show (ByteArray.mk #[102, 114, 101, 115, 104]) = bs [102, 114, 101, 115, 104] from rfl, scat_ok (by rw [bs_size, bs_size]; simp; omega), bs_app]; rfl
theorem implFresh_l0 (f : Fm) (names : List ByteArray) (hn : names.length ≤ 4398046511104) : ∀ (n k : Nat), k + n = 401 → impl_FreshName_l0 f names (k : Int) = some (match freshM names n k with | some s => .inl s | none => .inr ()) := by
  intro n
  induction n with
  | zero => intro k hk; rw [impl_FreshName_l0, if_neg (by omega)]; rfl
  | succ n ih =>
    intro k hk
    rw [impl_FreshName_l0, if_pos (by omega), strconv_Itoa, itoaF_eq (by omega) (by omega), bsome, fresh_add k (by omega), bsome, contains_eq _ _ hn, bsome, freshM]
    cases hasN names (freshN k)
    · rfl
    · simp only [Bool.not_true, Bool.false_eq_true, if_false, if_true]
      rw [wrap_nat (by omega), ih (k + 1) (by omega)]
theorem specFresh_l0 (f : Fm) (names : List ByteArray) (hn : names.length ≤ 4398046511104) : ∀ (n k : Nat), k + n = 401 → spec_FreshName_l0 f names (k : Int) = some (match freshM names n k with | some s => .inl s | none => .inr ()) := by
  intro n
  induction n with
  | zero => intro k hk; rw [spec_FreshName_l0, if_neg (by omega)]; rfl
  | succ n ih =>
    intro k hk
    rw [spec_FreshName_l0, if_pos (by omega), dec_eq (by omega) (by omega), bsome, fresh_add k (by omega), bsome, l1In_eq _ _ hn, bsome, freshM]
    cases hasN names (freshN k)
    · simp only [Bool.not_false, if_true, Bool.false_eq_true, if_false, bsome, fresh_add k (by omega), psome]
    · simp only [Bool.not_true, Bool.false_eq_true, if_false, if_true]
      rw [wrap_nat (by omega), ih (k + 1) (by omega)]
theorem implFresh_eq (f : Fm) (hz : f.sz ≤ 1073741824) : impl_FreshName f = some (freshF f) := by
  have := namesM_len [] f; have := Fm.nodes_le f
  rw [impl_FreshName, implNames_eq f hz, bsome, show (0 : Int) = ((0 : Nat) : Int) from rfl, implFresh_l0 f _ (by simp at *; omega) 401 0 rfl, bsome]
  unfold freshF
  cases freshM (namesM [] f) 401 0 <;> rfl
theorem specFresh_eq (f : Fm) (hz : f.sz ≤ 1073741824) : spec_FreshName f = some (freshF f) := by
  have := namesM_len [] f; have := Fm.nodes_le f
  rw [spec_FreshName, specNames_eq f hz, bsome, show (0 : Int) = ((0 : Nat) : Int) from rfl, specFresh_l0 f _ (by simp at *; omega) 401 0 rfl, bsome]
  unfold freshF
  cases freshM (namesM [] f) 401 0 <;> rfl
end Go.Proofs.SA
