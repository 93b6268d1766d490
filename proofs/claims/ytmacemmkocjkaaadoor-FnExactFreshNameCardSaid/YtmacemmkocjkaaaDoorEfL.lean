/- The printed loops over lists, as functions on the lists: printed by a program of mine. -/
import Derived.Test.YtmacemmkocjkaaaDoorEfD
import Derived.Test.YtmacemmkocjkaaaDoorPa
set_option linter.unusedVariables false
set_option linter.unusedSimpArgs false
set_option maxRecDepth 100000
open Go Go.Proofs Go.Proofs.Shadow
namespace Go.Proofs.SA
def laws_szFormS_l0L : List Fm → Int → Nat → List Fm → Option (Int ⊕ Int)
  | a0, z0t_1, z0t_5, [] => (
    pure (Sum.inr z0t_1)
  )
  | a0, z0t_1, z0t_5, it :: l_ => (
    (pure it >>= fun x20 =>
    (laws_szForm x20 z0t_1 >>= fun x23 =>
    if x23 < 0 then (
      pure (Sum.inl (-1))
    ) else (
      laws_szFormS_l0L a0 x23 (z0t_5 + 1) l_
    )
    )
    )
  )
theorem laws_szFormS_l0L_eq (a0 : List Fm) (hl : a0.length < 4611686018427387904) : ∀ (n i : Nat), i + n = a0.length → ∀ (z0t_1 : Int), laws_szFormS_l0 a0 z0t_1 (i : Int) = laws_szFormS_l0L a0 z0t_1 i (a0.drop i) := by
  intro n
  induction n with
  | zero =>
    intro i hi z0t_1
    obtain rfl : i = a0.length := by omega
    rw [laws_szFormS_l0, if_neg (by omega), List.drop_length]; rfl
  | succ n ih =>
    intro i hi z0t_1
    have hil : i < a0.length := by omega
    have hw := wrap_nat (i := i) (by omega)
    have ih' := ih (i + 1) (by omega)
    rw [laws_szFormS_l0, if_pos (show (i : Int) < (a0.length : Int) by omega), List.drop_eq_getElem_cons hil, laws_szFormS_l0L]
    simp only [idx_nat _ i hil, psome, bsome, hw, ih']
theorem laws_szFormS_l0L0 (a0 : List Fm) (z0t_1 : Int) (hl : a0.length < 4611686018427387904) : laws_szFormS_l0 a0 z0t_1 0 = laws_szFormS_l0L a0 z0t_1 0 a0 := laws_szFormS_l0L_eq a0 hl _ 0 (Nat.zero_add _) z0t_1
def laws_toIntS_l0L : List Int → List Int → Nat → List Int → Option (List Int)
  | a0, z0o_0, z0t_4, [] => (
    pure z0o_0
  )
  | a0, z0o_0, z0t_4, it :: l_ => (
    (pure it >>= fun x18 =>
    (idx z0o_0 (z0t_4 : Int) >>= fun x20 =>
    laws_toIntS_l0L a0 (z0o_0.set (z0t_4 : Int).toNat x18) (z0t_4 + 1) l_
    )
    )
  )
theorem laws_toIntS_l0L_eq (a0 : List Int) (hl : a0.length < 4611686018427387904) : ∀ (n i : Nat), i + n = a0.length → ∀ (z0o_0 : List Int), laws_toIntS_l0 a0 z0o_0 (i : Int) = laws_toIntS_l0L a0 z0o_0 i (a0.drop i) := by
  intro n
  induction n with
  | zero =>
    intro i hi z0o_0
    obtain rfl : i = a0.length := by omega
    rw [laws_toIntS_l0, if_neg (by omega), List.drop_length]; rfl
  | succ n ih =>
    intro i hi z0o_0
    have hil : i < a0.length := by omega
    have hw := wrap_nat (i := i) (by omega)
    have ih' := ih (i + 1) (by omega)
    rw [laws_toIntS_l0, if_pos (show (i : Int) < (a0.length : Int) by omega), List.drop_eq_getElem_cons hil, laws_toIntS_l0L]
    simp only [idx_nat _ i hil, psome, bsome, hw, ih']
theorem laws_toIntS_l0L0 (a0 : List Int) (z0o_0 : List Int) (hl : a0.length < 4611686018427387904) : laws_toIntS_l0 a0 z0o_0 0 = laws_toIntS_l0L a0 z0o_0 0 a0 := laws_toIntS_l0L_eq a0 hl _ 0 (Nat.zero_add _) z0o_0
def laws_toFormS_l0L : List Fm → List Fm → Nat → List Fm → Option (List Fm)
  | a0, z0o_0, z0t_4, [] => (
    pure z0o_0
  )
  | a0, z0o_0, z0t_4, it :: l_ => (
    (pure it >>= fun x18 =>
    (laws_toForm x18 >>= fun x20 =>
    (idx z0o_0 (z0t_4 : Int) >>= fun x21 =>
    laws_toFormS_l0L a0 (z0o_0.set (z0t_4 : Int).toNat x20) (z0t_4 + 1) l_
    )
    )
    )
  )
theorem laws_toFormS_l0L_eq (a0 : List Fm) (hl : a0.length < 4611686018427387904) : ∀ (n i : Nat), i + n = a0.length → ∀ (z0o_0 : List Fm), laws_toFormS_l0 a0 z0o_0 (i : Int) = laws_toFormS_l0L a0 z0o_0 i (a0.drop i) := by
  intro n
  induction n with
  | zero =>
    intro i hi z0o_0
    obtain rfl : i = a0.length := by omega
    rw [laws_toFormS_l0, if_neg (by omega), List.drop_length]; rfl
  | succ n ih =>
    intro i hi z0o_0
    have hil : i < a0.length := by omega
    have hw := wrap_nat (i := i) (by omega)
    have ih' := ih (i + 1) (by omega)
    rw [laws_toFormS_l0, if_pos (show (i : Int) < (a0.length : Int) by omega), List.drop_eq_getElem_cons hil, laws_toFormS_l0L]
    simp only [idx_nat _ i hil, psome, bsome, hw, ih']
theorem laws_toFormS_l0L0 (a0 : List Fm) (z0o_0 : List Fm) (hl : a0.length < 4611686018427387904) : laws_toFormS_l0 a0 z0o_0 0 = laws_toFormS_l0L a0 z0o_0 0 a0 := laws_toFormS_l0L_eq a0 hl _ 0 (Nat.zero_add _) z0o_0
def spec_l1In_l0L : List ByteArray → ByteArray → Nat → List ByteArray → Option (Bool ⊕ Unit)
  | a0, a1, z0t_5, [] => (
    pure (Sum.inr ())
  )
  | a0, a1, z0t_5, it :: l_ => (
    (pure it >>= fun x14 =>
    if x14 = a1 then (
      pure (Sum.inl true)
    ) else (
      spec_l1In_l0L a0 a1 (z0t_5 + 1) l_
    )
    )
  )
theorem spec_l1In_l0L_eq (a0 : List ByteArray) (a1 : ByteArray) (hl : a0.length < 4611686018427387904) : ∀ (n i : Nat), i + n = a0.length →  spec_l1In_l0 a0 a1 (i : Int) = spec_l1In_l0L a0 a1 i (a0.drop i) := by
  intro n
  induction n with
  | zero =>
    intro i hi 
    obtain rfl : i = a0.length := by omega
    rw [spec_l1In_l0, if_neg (by omega), List.drop_length]; rfl
  | succ n ih =>
    intro i hi 
    have hil : i < a0.length := by omega
    have hw := wrap_nat (i := i) (by omega)
    have ih' := ih (i + 1) (by omega)
    rw [spec_l1In_l0, if_pos (show (i : Int) < (a0.length : Int) by omega), List.drop_eq_getElem_cons hil, spec_l1In_l0L]
    simp only [idx_nat _ i hil, psome, bsome, hw, ih']
theorem spec_l1In_l0L0 (a0 : List ByteArray) (a1 : ByteArray)  (hl : a0.length < 4611686018427387904) : spec_l1In_l0 a0 a1 0 = spec_l1In_l0L a0 a1 0 a0 := spec_l1In_l0L_eq a0 a1 hl _ 0 (Nat.zero_add _) 
def spec_l1Names_o0_l0L : Fm → List ByteArray → Nat → List Fm → Option (List ByteArray)
  | a1, z0o_0, z0t_5, [] => (
    pure z0o_0
  )
  | a1, z0o_0, z0t_5, it :: l_ => (
    (pure it >>= fun x32 =>
    (spec_l1Names_o0 z0o_0 x32 >>= fun x34 =>
    spec_l1Names_o0_l0L a1 x34 (z0t_5 + 1) l_
    )
    )
  )
theorem spec_l1Names_o0_l0L_eq (a1 : Fm) (hl : a1.kids.length < 4611686018427387904) : ∀ (n i : Nat), i + n = a1.kids.length → ∀ (z0o_0 : List ByteArray), spec_l1Names_o0_l0 a1 z0o_0 (i : Int) = spec_l1Names_o0_l0L a1 z0o_0 i (a1.kids.drop i) := by
  intro n
  induction n with
  | zero =>
    intro i hi z0o_0
    obtain rfl : i = a1.kids.length := by omega
    rw [spec_l1Names_o0_l0, if_neg (by omega), List.drop_length]; rfl
  | succ n ih =>
    intro i hi z0o_0
    have hil : i < a1.kids.length := by omega
    have hw := wrap_nat (i := i) (by omega)
    have ih' := ih (i + 1) (by omega)
    rw [spec_l1Names_o0_l0, if_pos (show (i : Int) < (a1.kids.length : Int) by omega), List.drop_eq_getElem_cons hil, spec_l1Names_o0_l0L]
    simp only [idx_nat _ i hil, psome, bsome, hw, ih']
theorem spec_l1Names_o0_l0L0 (a1 : Fm) (z0o_0 : List ByteArray) (hl : a1.kids.length < 4611686018427387904) : spec_l1Names_o0_l0 a1 z0o_0 0 = spec_l1Names_o0_l0L a1 z0o_0 0 a1.kids := spec_l1Names_o0_l0L_eq a1 hl _ 0 (Nat.zero_add _) z0o_0
def spec_l1Names_l0L : Fm → List ByteArray → Nat → List Fm → Option (List ByteArray)
  | a1, z0o_0, z0t_5, [] => (
    pure z0o_0
  )
  | a1, z0o_0, z0t_5, it :: l_ => (
    (pure it >>= fun x32 =>
    (spec_l1Names_o0 z0o_0 x32 >>= fun x34 =>
    spec_l1Names_l0L a1 x34 (z0t_5 + 1) l_
    )
    )
  )
theorem spec_l1Names_l0L_eq (a1 : Fm) (hl : a1.kids.length < 4611686018427387904) : ∀ (n i : Nat), i + n = a1.kids.length → ∀ (z0o_0 : List ByteArray), spec_l1Names_l0 a1 z0o_0 (i : Int) = spec_l1Names_l0L a1 z0o_0 i (a1.kids.drop i) := by
  intro n
  induction n with
  | zero =>
    intro i hi z0o_0
    obtain rfl : i = a1.kids.length := by omega
    rw [spec_l1Names_l0, if_neg (by omega), List.drop_length]; rfl
  | succ n ih =>
    intro i hi z0o_0
    have hil : i < a1.kids.length := by omega
    have hw := wrap_nat (i := i) (by omega)
    have ih' := ih (i + 1) (by omega)
    rw [spec_l1Names_l0, if_pos (show (i : Int) < (a1.kids.length : Int) by omega), List.drop_eq_getElem_cons hil, spec_l1Names_l0L]
    simp only [idx_nat _ i hil, psome, bsome, hw, ih']
theorem spec_l1Names_l0L0 (a1 : Fm) (z0o_0 : List ByteArray) (hl : a1.kids.length < 4611686018427387904) : spec_l1Names_l0 a1 z0o_0 0 = spec_l1Names_l0L a1 z0o_0 0 a1.kids := spec_l1Names_l0L_eq a1 hl _ 0 (Nat.zero_add _) z0o_0
def slices_Index_string_string_l0L : List ByteArray → ByteArray → Nat → List ByteArray → Option (Int ⊕ Unit)
  | a0, a1, z0t_8, [] => (
    pure (Sum.inr ())
  )
  | a0, a1, z0t_8, it :: l_ => (
    (pure it >>= fun x14 =>
    if a1 = x14 then (
      pure (Sum.inl (z0t_8 : Int))
    ) else (
      slices_Index_string_string_l0L a0 a1 (z0t_8 + 1) l_
    )
    )
  )
theorem slices_Index_string_string_l0L_eq (a0 : List ByteArray) (a1 : ByteArray) (hl : a0.length < 4611686018427387904) : ∀ (n i : Nat), i + n = a0.length →  slices_Index_string_string_l0 a0 a1 (i : Int) = slices_Index_string_string_l0L a0 a1 i (a0.drop i) := by
  intro n
  induction n with
  | zero =>
    intro i hi 
    obtain rfl : i = a0.length := by omega
    rw [slices_Index_string_string_l0, if_neg (by omega), List.drop_length]; rfl
  | succ n ih =>
    intro i hi 
    have hil : i < a0.length := by omega
    have hw := wrap_nat (i := i) (by omega)
    have ih' := ih (i + 1) (by omega)
    rw [slices_Index_string_string_l0, if_pos (show (i : Int) < (a0.length : Int) by omega), List.drop_eq_getElem_cons hil, slices_Index_string_string_l0L]
    simp only [idx_nat _ i hil, psome, bsome, hw, ih']
theorem slices_Index_string_string_l0L0 (a0 : List ByteArray) (a1 : ByteArray)  (hl : a0.length < 4611686018427387904) : slices_Index_string_string_l0 a0 a1 0 = slices_Index_string_string_l0L a0 a1 0 a0 := slices_Index_string_string_l0L_eq a0 a1 hl _ 0 (Nat.zero_add _) 
def impl_eachForm__impl_NamesOf_c1_l0L : Fm → List ByteArray → Nat → List Fm → Option (List ByteArray)
  | a0, z0o_0, z0t_12, [] => (
    pure z0o_0
  )
  | a0, z0o_0, z0t_12, it :: l_ => (
    (pure it >>= fun x14 =>
    (impl_eachForm__impl_NamesOf_c1 x14 z0o_0 >>= fun x18 =>
    impl_eachForm__impl_NamesOf_c1_l0L a0 x18 (z0t_12 + 1) l_
    )
    )
  )
theorem impl_eachForm__impl_NamesOf_c1_l0L_eq (a0 : Fm) (hl : a0.kids.length < 4611686018427387904) : ∀ (n i : Nat), i + n = a0.kids.length → ∀ (z0o_0 : List ByteArray), impl_eachForm__impl_NamesOf_c1_l0 a0 z0o_0 (i : Int) = impl_eachForm__impl_NamesOf_c1_l0L a0 z0o_0 i (a0.kids.drop i) := by
  intro n
  induction n with
  | zero =>
    intro i hi z0o_0
    obtain rfl : i = a0.kids.length := by omega
    rw [impl_eachForm__impl_NamesOf_c1_l0, if_neg (by omega), List.drop_length]; rfl
  | succ n ih =>
    intro i hi z0o_0
    have hil : i < a0.kids.length := by omega
    have hw := wrap_nat (i := i) (by omega)
    have ih' := ih (i + 1) (by omega)
    rw [impl_eachForm__impl_NamesOf_c1_l0, if_pos (show (i : Int) < (a0.kids.length : Int) by omega), List.drop_eq_getElem_cons hil, impl_eachForm__impl_NamesOf_c1_l0L]
    simp only [idx_nat _ i hil, psome, bsome, hw, ih']
theorem impl_eachForm__impl_NamesOf_c1_l0L0 (a0 : Fm) (z0o_0 : List ByteArray) (hl : a0.kids.length < 4611686018427387904) : impl_eachForm__impl_NamesOf_c1_l0 a0 z0o_0 0 = impl_eachForm__impl_NamesOf_c1_l0L a0 z0o_0 0 a0.kids := impl_eachForm__impl_NamesOf_c1_l0L_eq a0 hl _ 0 (Nat.zero_add _) z0o_0
def laws_eqIntS_l0L : List Int → List Int → Nat → List Int → Option (Bool ⊕ Unit)
  | a0, a1, z0t_5, [] => (
    pure (Sum.inr ())
  )
  | a0, a1, z0t_5, it :: l_ => (
    (pure it >>= fun x19 =>
    (idx a1 (z0t_5 : Int) >>= fun x23 =>
    if x19 = x23 then (
      laws_eqIntS_l0L a0 a1 (z0t_5 + 1) l_
    ) else (
      pure (Sum.inl false)
    )
    )
    )
  )
theorem laws_eqIntS_l0L_eq (a0 : List Int) (a1 : List Int) (hl : a0.length < 4611686018427387904) : ∀ (n i : Nat), i + n = a0.length →  laws_eqIntS_l0 a0 a1 (i : Int) = laws_eqIntS_l0L a0 a1 i (a0.drop i) := by
  intro n
  induction n with
  | zero =>
    intro i hi 
    obtain rfl : i = a0.length := by omega
    rw [laws_eqIntS_l0, if_neg (by omega), List.drop_length]; rfl
  | succ n ih =>
    intro i hi 
    have hil : i < a0.length := by omega
    have hw := wrap_nat (i := i) (by omega)
    have ih' := ih (i + 1) (by omega)
    rw [laws_eqIntS_l0, if_pos (show (i : Int) < (a0.length : Int) by omega), List.drop_eq_getElem_cons hil, laws_eqIntS_l0L]
    simp only [idx_nat _ i hil, psome, bsome, hw, ih']
theorem laws_eqIntS_l0L0 (a0 : List Int) (a1 : List Int)  (hl : a0.length < 4611686018427387904) : laws_eqIntS_l0 a0 a1 0 = laws_eqIntS_l0L a0 a1 0 a0 := laws_eqIntS_l0L_eq a0 a1 hl _ 0 (Nat.zero_add _) 
def laws_eqFormS_l0L : List Fm → List Fm → Nat → List Fm → Option (Bool ⊕ Unit)
  | a0, a1, z0t_5, [] => (
    pure (Sum.inr ())
  )
  | a0, a1, z0t_5, it :: l_ => (
    (pure it >>= fun x19 =>
    (idx a1 (z0t_5 : Int) >>= fun x23 =>
    (laws_eqForm x19 x23 >>= fun x25 =>
    if (!x25) = true then (
      pure (Sum.inl false)
    ) else (
      laws_eqFormS_l0L a0 a1 (z0t_5 + 1) l_
    )
    )
    )
    )
  )
theorem laws_eqFormS_l0L_eq (a0 : List Fm) (a1 : List Fm) (hl : a0.length < 4611686018427387904) : ∀ (n i : Nat), i + n = a0.length →  laws_eqFormS_l0 a0 a1 (i : Int) = laws_eqFormS_l0L a0 a1 i (a0.drop i) := by
  intro n
  induction n with
  | zero =>
    intro i hi 
    obtain rfl : i = a0.length := by omega
    rw [laws_eqFormS_l0, if_neg (by omega), List.drop_length]; rfl
  | succ n ih =>
    intro i hi 
    have hil : i < a0.length := by omega
    have hw := wrap_nat (i := i) (by omega)
    have ih' := ih (i + 1) (by omega)
    rw [laws_eqFormS_l0, if_pos (show (i : Int) < (a0.length : Int) by omega), List.drop_eq_getElem_cons hil, laws_eqFormS_l0L]
    simp only [idx_nat _ i hil, psome, bsome, hw, ih']
theorem laws_eqFormS_l0L0 (a0 : List Fm) (a1 : List Fm)  (hl : a0.length < 4611686018427387904) : laws_eqFormS_l0 a0 a1 0 = laws_eqFormS_l0L a0 a1 0 a0 := laws_eqFormS_l0L_eq a0 a1 hl _ 0 (Nat.zero_add _) 
end Go.Proofs.SA
