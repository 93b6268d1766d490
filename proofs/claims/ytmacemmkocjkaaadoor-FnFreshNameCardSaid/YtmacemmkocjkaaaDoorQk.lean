/- What CountName computes. -/
import Derived.Test.YtmacemmkocjkaaaDoorPa
import Derived.Test.YtmacemmkocjkaaaDoorFnD
import Derived.Test.YtmacemmkocjkaaaDoorFmE
set_option linter.unusedVariables false
set_option linter.unusedSimpArgs false
set_option maxRecDepth 100000
open Go Go.Proofs Go.Proofs.Shadow
namespace Go.Proofs.SA
theorem named_eq (f : Fm) (c : ByteArray) : impl_named f c = some (decide (f.kind = 1) && decide (f.name = c)) := rfl
theorem hit_int (x : ByteArray) (k : Int) (s : ByteArray) : (hit x k s : Int) = if (decide (k = 1) && decide (s = x)) = true then 1 else 0 := by
  rw [hit_b]
  cases (decide (k = 1) && decide (s = x)) <;> rfl
theorem c1_eq (f : Fm) (c : ByteArray) (n : Int) (h0 : 0 ≤ n) (h : n < 1099511627776) : impl_CountName_c1 f c n = some (n + hit c f.kind f.name) := by
  unfold impl_CountName_c1
  rw [named_eq, bsome, hit_int]
  split
  · rw [wrap_id (by omega) (by omega)]; rfl
  · rw [Int.add_zero]; rfl
theorem each_count : ∀ (f : Fm) (c : ByteArray) (n : Int), 0 ≤ n → n + f.cnt c < 1099511627776 → f.sz < 1099511627776 → impl_eachForm__impl_CountName_c1 f c n = some (n + f.cnt c) := by
  intro f
  induction f using Fm.ind with
  | h f ih =>
    intro c n h0 h hf
    have hz := Fm.sz_eq f
    have hc := Fm.cnt_eq c f
    rw [impl_eachForm__impl_CountName_c1, c1_eq f c n h0 (by omega), bsome]
    have key : ∀ m (i : Nat), i + m = f.kids.length → impl_eachForm__impl_CountName_c1_l0 f c i (n + hit c f.kind f.name + sumL (Fm.cnt c) (f.kids.take i)) = some (n + f.cnt c) := by
      intro m
      induction m with
      | zero =>
        intro i hi
        rw [impl_eachForm__impl_CountName_c1_l0, if_neg (by omega), show i = f.kids.length by omega, List.take_length, psome]
        congr 1; omega
      | succ m ihm =>
        intro i hi
        have hil : i < f.kids.length := by omega
        have hs := sumL_take (Fm.cnt c) f.kids i hil
        have hle := sumL_le (Fm.cnt c) f.kids (i + 1)
        rw [impl_eachForm__impl_CountName_c1_l0, if_pos (by omega), idx_nat _ i hil, bsome]
        rw [ih _ (List.getElem_mem _) c _ (by omega) (by omega) (by have := Fm.sz_kid (List.getElem_mem hil); omega), bsome, wrap_nat (by omega)]
        have := ihm (i + 1) (by omega)
        rw [hs] at this
        rw [← this]
        congr 1
        omega
    have := key f.kids.length 0 (by omega)
    simp only [List.take_zero, sumL] at this
    have e0 : ((0 : Nat) : Int) = 0 := rfl
    rw [e0, Int.add_zero] at this
    rw [this]; rfl
theorem implCount_eq (f : Fm) (c : ByteArray) (hf : f.sz < 1000000000) : impl_CountName f c = some (f.cnt c : Int) := by
  have := Fm.cnt_le c f
  unfold impl_CountName
  rw [each_count f c 0 (by omega) (by omega) (by omega), bsome, Int.zero_add]; rfl
end Go.Proofs.SA
