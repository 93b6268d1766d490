/- The draws yield something: l7Some, copies, mutations. -/
import Derived.Test.YtjanllllgiehfaaPb
set_option linter.unusedVariables false
set_option linter.unusedSimpArgs false
set_option maxRecDepth 100000
open Go Go.Proofs Go.Proofs.Shadow
namespace Go.Proofs.SA
/-! ### copies -/
theorem copy_eq : ∀ (f : Fm), f.sz < 1099511627776 → spec_l1Copy f = some f := by
  intro f
  induction f using Fm.ind with
  | h f ih =>
    intro hf
    have hz := Fm.sz_eq f
    rw [spec_l1Copy]
    rw [lcat_ok (by simp only [List.length_nil]; omega)]
    simp only [List.nil_append, Option.bind_eq_bind, Option.bind_some]
    have key : ∀ n (i : Nat), i + n = f.kids.length → spec_l1Copy_l0 f f.sc (f.kids.take i) i = some f.kids := by
      intro n
      induction n with
      | zero =>
        intro i hi
        rw [spec_l1Copy_l0, if_neg (by omega), show i = f.kids.length by omega, List.take_length]
        rfl
      | succ n ihn =>
        intro i hi
        have hil : i < f.kids.length := by omega
        rw [spec_l1Copy_l0, if_pos (by omega), idx_nat _ i hil]
        simp only [Option.bind_eq_bind, Option.bind_some]
        rw [ih _ (List.getElem_mem _) (by have := Fm.sz_kid (List.getElem_mem hil); omega)]
        simp only [Option.bind_some]
        rw [lcat_ok (by simp only [List.length_take, List.length_cons, List.length_nil]; omega)]
        simp only [Option.bind_some]
        rw [wrap_nat (by omega), ← List.take_succ_eq_append_getElem hil]
        exact ihn (i + 1) (by omega)
    have := key f.kids.length 0 (by omega)
    simp only [List.take_zero] at this
    show (spec_l1Copy_l0 f f.sc [] 0 >>= fun e => pure (Fm.mk f.kind f.name f.num f.sc e)) = _
    have e0 : ((0 : Nat) : Int) = 0 := rfl
    rw [e0] at this
    rw [this]
    cases f
    rfl
end Go.Proofs.SA

