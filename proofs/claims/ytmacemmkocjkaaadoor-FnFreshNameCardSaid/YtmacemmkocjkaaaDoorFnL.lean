/- The printed loops over lists, as functions on the lists: printed by a program of mine. -/
import Derived.Test.YtmacemmkocjkaaaDoorFnD
import Derived.Test.YtmacemmkocjkaaaDoorPa
set_option linter.unusedVariables false
set_option linter.unusedSimpArgs false
set_option maxRecDepth 100000
open Go Go.Proofs Go.Proofs.Shadow
namespace Go.Proofs.SA
def spec_l1Is_l0L : Fm → Int → Nat → List Fm → Option (Bool ⊕ Unit)
  | a0, a1, z0t_5, [] => (
    pure (Sum.inr ())
  )
  | a0, a1, z0t_5, it :: l_ => (
    (pure it >>= fun x87 =>
    (spec_l1Is x87 (IntKind.i64.wrap (a1 - 1)) >>= fun x91 =>
    if (!x91) = true then (
      pure (Sum.inl false)
    ) else (
      spec_l1Is_l0L a0 a1 (z0t_5 + 1) l_
    )
    )
    )
  )
theorem spec_l1Is_l0L_eq (a0 : Fm) (a1 : Int) (hl : a0.kids.length < 4611686018427387904) : ∀ (n i : Nat), i + n = a0.kids.length →  spec_l1Is_l0 a0 a1 (i : Int) = spec_l1Is_l0L a0 a1 i (a0.kids.drop i) := by
  intro n
  induction n with
  | zero =>
    intro i hi 
    obtain rfl : i = a0.kids.length := by omega
    rw [spec_l1Is_l0, if_neg (by omega), List.drop_length]; rfl
  | succ n ih =>
    intro i hi 
    have hil : i < a0.kids.length := by omega
    have hw := wrap_nat (i := i) (by omega)
    have ih' := ih (i + 1) (by omega)
    rw [spec_l1Is_l0, if_pos (show (i : Int) < (a0.kids.length : Int) by omega), List.drop_eq_getElem_cons hil, spec_l1Is_l0L]
    simp only [idx_nat _ i hil, psome, bsome, hw, ih']
theorem spec_l1Is_l0L0 (a0 : Fm) (a1 : Int)  (hl : a0.kids.length < 4611686018427387904) : spec_l1Is_l0 a0 a1 0 = spec_l1Is_l0L a0 a1 0 a0.kids := spec_l1Is_l0L_eq a0 a1 hl _ 0 (Nat.zero_add _) 
def spec_l1Count_l0L : Fm → Int → Nat → List Fm → Option (Int)
  | a0, z0t_3, z0t_4, [] => (
    pure z0t_3
  )
  | a0, z0t_3, z0t_4, it :: l_ => (
    (pure it >>= fun x16 =>
    (spec_l1Count x16 >>= fun x18 =>
    spec_l1Count_l0L a0 (IntKind.i64.wrap (z0t_3 + x18)) (z0t_4 + 1) l_
    )
    )
  )
theorem spec_l1Count_l0L_eq (a0 : Fm) (hl : a0.kids.length < 4611686018427387904) : ∀ (n i : Nat), i + n = a0.kids.length → ∀ (z0t_3 : Int), spec_l1Count_l0 a0 z0t_3 (i : Int) = spec_l1Count_l0L a0 z0t_3 i (a0.kids.drop i) := by
  intro n
  induction n with
  | zero =>
    intro i hi z0t_3
    obtain rfl : i = a0.kids.length := by omega
    rw [spec_l1Count_l0, if_neg (by omega), List.drop_length]; rfl
  | succ n ih =>
    intro i hi z0t_3
    have hil : i < a0.kids.length := by omega
    have hw := wrap_nat (i := i) (by omega)
    have ih' := ih (i + 1) (by omega)
    rw [spec_l1Count_l0, if_pos (show (i : Int) < (a0.kids.length : Int) by omega), List.drop_eq_getElem_cons hil, spec_l1Count_l0L]
    simp only [idx_nat _ i hil, psome, bsome, hw, ih']
theorem spec_l1Count_l0L0 (a0 : Fm) (z0t_3 : Int) (hl : a0.kids.length < 4611686018427387904) : spec_l1Count_l0 a0 z0t_3 0 = spec_l1Count_l0L a0 z0t_3 0 a0.kids := spec_l1Count_l0L_eq a0 hl _ 0 (Nat.zero_add _) z0t_3
def spec_l1Copy_l0L : Fm → List Int → List Fm → Nat → List Fm → Option (List Fm)
  | a0, x14, z0o_0, z0t_4, [] => (
    pure z0o_0
  )
  | a0, x14, z0o_0, z0t_4, it :: l_ => (
    (pure it >>= fun x28 =>
    (spec_l1Copy x28 >>= fun x30 =>
    (lcat 80 z0o_0 [x30] >>= fun x32 =>
    spec_l1Copy_l0L a0 x14 x32 (z0t_4 + 1) l_
    )
    )
    )
  )
theorem spec_l1Copy_l0L_eq (a0 : Fm) (x14 : List Int) (hl : a0.kids.length < 4611686018427387904) : ∀ (n i : Nat), i + n = a0.kids.length → ∀ (z0o_0 : List Fm), spec_l1Copy_l0 a0 x14 z0o_0 (i : Int) = spec_l1Copy_l0L a0 x14 z0o_0 i (a0.kids.drop i) := by
  intro n
  induction n with
  | zero =>
    intro i hi z0o_0
    obtain rfl : i = a0.kids.length := by omega
    rw [spec_l1Copy_l0, if_neg (by omega), List.drop_length]; rfl
  | succ n ih =>
    intro i hi z0o_0
    have hil : i < a0.kids.length := by omega
    have hw := wrap_nat (i := i) (by omega)
    have ih' := ih (i + 1) (by omega)
    rw [spec_l1Copy_l0, if_pos (show (i : Int) < (a0.kids.length : Int) by omega), List.drop_eq_getElem_cons hil, spec_l1Copy_l0L]
    simp only [idx_nat _ i hil, psome, bsome, hw, ih']
theorem spec_l1Copy_l0L0 (a0 : Fm) (x14 : List Int) (z0o_0 : List Fm) (hl : a0.kids.length < 4611686018427387904) : spec_l1Copy_l0 a0 x14 z0o_0 0 = spec_l1Copy_l0L a0 x14 z0o_0 0 a0.kids := spec_l1Copy_l0L_eq a0 x14 hl _ 0 (Nat.zero_add _) z0o_0
def spec_l1Copy_o0_30_4_l0L : Fm → List Int → List Fm → Nat → List Fm → Option (List Fm)
  | a0, x14, z0o_1, z0t_4, [] => (
    pure z0o_1
  )
  | a0, x14, z0o_1, z0t_4, it :: l_ => (
    (pure it >>= fun x28 =>
    (spec_l1Copy x28 >>= fun x30 =>
    (lcat 80 z0o_1 [x30] >>= fun x32 =>
    spec_l1Copy_o0_30_4_l0L a0 x14 x32 (z0t_4 + 1) l_
    )
    )
    )
  )
theorem spec_l1Copy_o0_30_4_l0L_eq (a0 : Fm) (x14 : List Int) (hl : a0.kids.length < 4611686018427387904) : ∀ (n i : Nat), i + n = a0.kids.length → ∀ (z0o_1 : List Fm), spec_l1Copy_o0_30_4_l0 a0 x14 z0o_1 (i : Int) = spec_l1Copy_o0_30_4_l0L a0 x14 z0o_1 i (a0.kids.drop i) := by
  intro n
  induction n with
  | zero =>
    intro i hi z0o_1
    obtain rfl : i = a0.kids.length := by omega
    rw [spec_l1Copy_o0_30_4_l0, if_neg (by omega), List.drop_length]; rfl
  | succ n ih =>
    intro i hi z0o_1
    have hil : i < a0.kids.length := by omega
    have hw := wrap_nat (i := i) (by omega)
    have ih' := ih (i + 1) (by omega)
    rw [spec_l1Copy_o0_30_4_l0, if_pos (show (i : Int) < (a0.kids.length : Int) by omega), List.drop_eq_getElem_cons hil, spec_l1Copy_o0_30_4_l0L]
    simp only [idx_nat _ i hil, psome, bsome, hw, ih']
theorem spec_l1Copy_o0_30_4_l0L0 (a0 : Fm) (x14 : List Int) (z0o_1 : List Fm) (hl : a0.kids.length < 4611686018427387904) : spec_l1Copy_o0_30_4_l0 a0 x14 z0o_1 0 = spec_l1Copy_o0_30_4_l0L a0 x14 z0o_1 0 a0.kids := spec_l1Copy_o0_30_4_l0L_eq a0 x14 hl _ 0 (Nat.zero_add _) z0o_1
def slices_Index_string_string_l0L : List ByteArray → ByteArray → Nat → List ByteArray → Option (Int ⊕ Unit)
  | a0, a1, z0t_8, [] => (
    pure (Sum.inr ())
  )
  | a0, a1, z0t_8, it :: l_ => (
    (pure it >>= fun x14 =>
    if a1 = x14 then (
      pure (Sum.inl (z0t_8 : Int))
    ) else (
      slices_Index_string_string_l0L a0 a1 (z0t_8 + 1) l_
    )
    )
  )
theorem slices_Index_string_string_l0L_eq (a0 : List ByteArray) (a1 : ByteArray) (hl : a0.length < 4611686018427387904) : ∀ (n i : Nat), i + n = a0.length →  slices_Index_string_string_l0 a0 a1 (i : Int) = slices_Index_string_string_l0L a0 a1 i (a0.drop i) := by
  intro n
  induction n with
  | zero =>
    intro i hi 
    obtain rfl : i = a0.length := by omega
    rw [slices_Index_string_string_l0, if_neg (by omega), List.drop_length]; rfl
  | succ n ih =>
    intro i hi 
    have hil : i < a0.length := by omega
    have hw := wrap_nat (i := i) (by omega)
    have ih' := ih (i + 1) (by omega)
    rw [slices_Index_string_string_l0, if_pos (show (i : Int) < (a0.length : Int) by omega), List.drop_eq_getElem_cons hil, slices_Index_string_string_l0L]
    simp only [idx_nat _ i hil, psome, bsome, hw, ih']
theorem slices_Index_string_string_l0L0 (a0 : List ByteArray) (a1 : ByteArray)  (hl : a0.length < 4611686018427387904) : slices_Index_string_string_l0 a0 a1 0 = slices_Index_string_string_l0L a0 a1 0 a0 := slices_Index_string_string_l0L_eq a0 a1 hl _ 0 (Nat.zero_add _) 
def impl_eachForm__impl_NamesOf_c1_l0L : Fm → List ByteArray → Nat → List Fm → Option (List ByteArray)
  | a0, z0o_0, z0t_12, [] => (
    pure z0o_0
  )
  | a0, z0o_0, z0t_12, it :: l_ => (
    (pure it >>= fun x14 =>
    (impl_eachForm__impl_NamesOf_c1 x14 z0o_0 >>= fun x18 =>
    impl_eachForm__impl_NamesOf_c1_l0L a0 x18 (z0t_12 + 1) l_
    )
    )
  )
theorem impl_eachForm__impl_NamesOf_c1_l0L_eq (a0 : Fm) (hl : a0.kids.length < 4611686018427387904) : ∀ (n i : Nat), i + n = a0.kids.length → ∀ (z0o_0 : List ByteArray), impl_eachForm__impl_NamesOf_c1_l0 a0 z0o_0 (i : Int) = impl_eachForm__impl_NamesOf_c1_l0L a0 z0o_0 i (a0.kids.drop i) := by
  intro n
  induction n with
  | zero =>
    intro i hi z0o_0
    obtain rfl : i = a0.kids.length := by omega
    rw [impl_eachForm__impl_NamesOf_c1_l0, if_neg (by omega), List.drop_length]; rfl
  | succ n ih =>
    intro i hi z0o_0
    have hil : i < a0.kids.length := by omega
    have hw := wrap_nat (i := i) (by omega)
    have ih' := ih (i + 1) (by omega)
    rw [impl_eachForm__impl_NamesOf_c1_l0, if_pos (show (i : Int) < (a0.kids.length : Int) by omega), List.drop_eq_getElem_cons hil, impl_eachForm__impl_NamesOf_c1_l0L]
    simp only [idx_nat _ i hil, psome, bsome, hw, ih']
theorem impl_eachForm__impl_NamesOf_c1_l0L0 (a0 : Fm) (z0o_0 : List ByteArray) (hl : a0.kids.length < 4611686018427387904) : impl_eachForm__impl_NamesOf_c1_l0 a0 z0o_0 0 = impl_eachForm__impl_NamesOf_c1_l0L a0 z0o_0 0 a0.kids := impl_eachForm__impl_NamesOf_c1_l0L_eq a0 hl _ 0 (Nat.zero_add _) z0o_0
def spec_l1In_l0L : List ByteArray → ByteArray → Nat → List ByteArray → Option (Bool ⊕ Unit)
  | a0, a1, z0t_5, [] => (
    pure (Sum.inr ())
  )
  | a0, a1, z0t_5, it :: l_ => (
    (pure it >>= fun x14 =>
    if x14 = a1 then (
      pure (Sum.inl true)
    ) else (
      spec_l1In_l0L a0 a1 (z0t_5 + 1) l_
    )
    )
  )
theorem spec_l1In_l0L_eq (a0 : List ByteArray) (a1 : ByteArray) (hl : a0.length < 4611686018427387904) : ∀ (n i : Nat), i + n = a0.length →  spec_l1In_l0 a0 a1 (i : Int) = spec_l1In_l0L a0 a1 i (a0.drop i) := by
  intro n
  induction n with
  | zero =>
    intro i hi 
    obtain rfl : i = a0.length := by omega
    rw [spec_l1In_l0, if_neg (by omega), List.drop_length]; rfl
  | succ n ih =>
    intro i hi 
    have hil : i < a0.length := by omega
    have hw := wrap_nat (i := i) (by omega)
    have ih' := ih (i + 1) (by omega)
    rw [spec_l1In_l0, if_pos (show (i : Int) < (a0.length : Int) by omega), List.drop_eq_getElem_cons hil, spec_l1In_l0L]
    simp only [idx_nat _ i hil, psome, bsome, hw, ih']
theorem spec_l1In_l0L0 (a0 : List ByteArray) (a1 : ByteArray)  (hl : a0.length < 4611686018427387904) : spec_l1In_l0 a0 a1 0 = spec_l1In_l0L a0 a1 0 a0 := spec_l1In_l0L_eq a0 a1 hl _ 0 (Nat.zero_add _) 
def spec_l1Names_o0_l0L : Fm → List ByteArray → Nat → List Fm → Option (List ByteArray)
  | a1, z0o_0, z0t_5, [] => (
    pure z0o_0
  )
  | a1, z0o_0, z0t_5, it :: l_ => (
    (pure it >>= fun x32 =>
    (spec_l1Names_o0 z0o_0 x32 >>= fun x34 =>
    spec_l1Names_o0_l0L a1 x34 (z0t_5 + 1) l_
    )
    )
  )
theorem spec_l1Names_o0_l0L_eq (a1 : Fm) (hl : a1.kids.length < 4611686018427387904) : ∀ (n i : Nat), i + n = a1.kids.length → ∀ (z0o_0 : List ByteArray), spec_l1Names_o0_l0 a1 z0o_0 (i : Int) = spec_l1Names_o0_l0L a1 z0o_0 i (a1.kids.drop i) := by
  intro n
  induction n with
  | zero =>
    intro i hi z0o_0
    obtain rfl : i = a1.kids.length := by omega
    rw [spec_l1Names_o0_l0, if_neg (by omega), List.drop_length]; rfl
  | succ n ih =>
    intro i hi z0o_0
    have hil : i < a1.kids.length := by omega
    have hw := wrap_nat (i := i) (by omega)
    have ih' := ih (i + 1) (by omega)
    rw [spec_l1Names_o0_l0, if_pos (show (i : Int) < (a1.kids.length : Int) by omega), List.drop_eq_getElem_cons hil, spec_l1Names_o0_l0L]
    simp only [idx_nat _ i hil, psome, bsome, hw, ih']
theorem spec_l1Names_o0_l0L0 (a1 : Fm) (z0o_0 : List ByteArray) (hl : a1.kids.length < 4611686018427387904) : spec_l1Names_o0_l0 a1 z0o_0 0 = spec_l1Names_o0_l0L a1 z0o_0 0 a1.kids := spec_l1Names_o0_l0L_eq a1 hl _ 0 (Nat.zero_add _) z0o_0
def spec_l1Names_l0L : Fm → List ByteArray → Nat → List Fm → Option (List ByteArray)
  | a1, z0o_0, z0t_5, [] => (
    pure z0o_0
  )
  | a1, z0o_0, z0t_5, it :: l_ => (
    (pure it >>= fun x32 =>
    (spec_l1Names_o0 z0o_0 x32 >>= fun x34 =>
    spec_l1Names_l0L a1 x34 (z0t_5 + 1) l_
    )
    )
  )
theorem spec_l1Names_l0L_eq (a1 : Fm) (hl : a1.kids.length < 4611686018427387904) : ∀ (n i : Nat), i + n = a1.kids.length → ∀ (z0o_0 : List ByteArray), spec_l1Names_l0 a1 z0o_0 (i : Int) = spec_l1Names_l0L a1 z0o_0 i (a1.kids.drop i) := by
  intro n
  induction n with
  | zero =>
    intro i hi z0o_0
    obtain rfl : i = a1.kids.length := by omega
    rw [spec_l1Names_l0, if_neg (by omega), List.drop_length]; rfl
  | succ n ih =>
    intro i hi z0o_0
    have hil : i < a1.kids.length := by omega
    have hw := wrap_nat (i := i) (by omega)
    have ih' := ih (i + 1) (by omega)
    rw [spec_l1Names_l0, if_pos (show (i : Int) < (a1.kids.length : Int) by omega), List.drop_eq_getElem_cons hil, spec_l1Names_l0L]
    simp only [idx_nat _ i hil, psome, bsome, hw, ih']
theorem spec_l1Names_l0L0 (a1 : Fm) (z0o_0 : List ByteArray) (hl : a1.kids.length < 4611686018427387904) : spec_l1Names_l0 a1 z0o_0 0 = spec_l1Names_l0L a1 z0o_0 0 a1.kids := spec_l1Names_l0L_eq a1 hl _ 0 (Nat.zero_add _) z0o_0
def impl_eachForm__impl_CountName_c1_l0L : Fm → ByteArray → Int → Nat → List Fm → Option (Int)
  | a0, c0, z0x_1_0, z0t_12, [] => (
    pure z0x_1_0
  )
  | a0, c0, z0x_1_0, z0t_12, it :: l_ => (
    (pure it >>= fun x14 =>
    (impl_eachForm__impl_CountName_c1 x14 c0 z0x_1_0 >>= fun x18 =>
    impl_eachForm__impl_CountName_c1_l0L a0 c0 x18 (z0t_12 + 1) l_
    )
    )
  )
theorem impl_eachForm__impl_CountName_c1_l0L_eq (a0 : Fm) (c0 : ByteArray) (hl : a0.kids.length < 4611686018427387904) : ∀ (n i : Nat), i + n = a0.kids.length → ∀ (z0x_1_0 : Int), impl_eachForm__impl_CountName_c1_l0 a0 c0 (i : Int) z0x_1_0 = impl_eachForm__impl_CountName_c1_l0L a0 c0 z0x_1_0 i (a0.kids.drop i) := by
  intro n
  induction n with
  | zero =>
    intro i hi z0x_1_0
    obtain rfl : i = a0.kids.length := by omega
    rw [impl_eachForm__impl_CountName_c1_l0, if_neg (by omega), List.drop_length]; rfl
  | succ n ih =>
    intro i hi z0x_1_0
    have hil : i < a0.kids.length := by omega
    have hw := wrap_nat (i := i) (by omega)
    have ih' := ih (i + 1) (by omega)
    rw [impl_eachForm__impl_CountName_c1_l0, if_pos (show (i : Int) < (a0.kids.length : Int) by omega), List.drop_eq_getElem_cons hil, impl_eachForm__impl_CountName_c1_l0L]
    simp only [idx_nat _ i hil, psome, bsome, hw, ih']
theorem impl_eachForm__impl_CountName_c1_l0L0 (a0 : Fm) (c0 : ByteArray) (z0x_1_0 : Int) (hl : a0.kids.length < 4611686018427387904) : impl_eachForm__impl_CountName_c1_l0 a0 c0 0 z0x_1_0 = impl_eachForm__impl_CountName_c1_l0L a0 c0 z0x_1_0 0 a0.kids := impl_eachForm__impl_CountName_c1_l0L_eq a0 c0 hl _ 0 (Nat.zero_add _) z0x_1_0
def laws_mxName_l0L : List ByteArray → ByteArray → Nat → List ByteArray → Option (Bool ⊕ Unit)
  | a0, a1, z0t_5, [] => (
    pure (Sum.inr ())
  )
  | a0, a1, z0t_5, it :: l_ => (
    (pure it >>= fun x14 =>
    if x14 = a1 then (
      pure (Sum.inl true)
    ) else (
      laws_mxName_l0L a0 a1 (z0t_5 + 1) l_
    )
    )
  )
theorem laws_mxName_l0L_eq (a0 : List ByteArray) (a1 : ByteArray) (hl : a0.length < 4611686018427387904) : ∀ (n i : Nat), i + n = a0.length →  laws_mxName_l0 a0 a1 (i : Int) = laws_mxName_l0L a0 a1 i (a0.drop i) := by
  intro n
  induction n with
  | zero =>
    intro i hi 
    obtain rfl : i = a0.length := by omega
    rw [laws_mxName_l0, if_neg (by omega), List.drop_length]; rfl
  | succ n ih =>
    intro i hi 
    have hil : i < a0.length := by omega
    have hw := wrap_nat (i := i) (by omega)
    have ih' := ih (i + 1) (by omega)
    rw [laws_mxName_l0, if_pos (show (i : Int) < (a0.length : Int) by omega), List.drop_eq_getElem_cons hil, laws_mxName_l0L]
    simp only [idx_nat _ i hil, psome, bsome, hw, ih']
theorem laws_mxName_l0L0 (a0 : List ByteArray) (a1 : ByteArray)  (hl : a0.length < 4611686018427387904) : laws_mxName_l0 a0 a1 0 = laws_mxName_l0L a0 a1 0 a0 := laws_mxName_l0L_eq a0 a1 hl _ 0 (Nat.zero_add _) 
end Go.Proofs.SA
