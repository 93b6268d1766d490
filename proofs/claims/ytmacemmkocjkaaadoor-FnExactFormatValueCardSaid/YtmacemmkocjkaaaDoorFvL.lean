/- The printed loops over lists, as functions on the lists: printed by a program of mine. -/
import Derived.Test.YtmacemmkocjkaaaDoorFvD
import Derived.Test.YtmacemmkocjkaaaDoorPa
set_option linter.unusedVariables false
set_option linter.unusedSimpArgs false
set_option maxRecDepth 100000
open Go Go.Proofs Go.Proofs.Shadow
namespace Go.Proofs.SA
def laws_szFormS_l0L : List Fm → Int → Nat → List Fm → Option (Int ⊕ Int)
  | a0, z0t_1, z0t_5, [] => (
    pure (Sum.inr z0t_1)
  )
  | a0, z0t_1, z0t_5, it :: l_ => (
    (pure it >>= fun x20 =>
    (laws_szForm x20 z0t_1 >>= fun x23 =>
    if x23 < 0 then (
      pure (Sum.inl (-1))
    ) else (
      laws_szFormS_l0L a0 x23 (z0t_5 + 1) l_
    )
    )
    )
  )
theorem laws_szFormS_l0L_eq (a0 : List Fm) (hl : a0.length < 4611686018427387904) : ∀ (n i : Nat), i + n = a0.length → ∀ (z0t_1 : Int), laws_szFormS_l0 a0 z0t_1 (i : Int) = laws_szFormS_l0L a0 z0t_1 i (a0.drop i) := by
  intro n
  induction n with
  | zero =>
    intro i hi z0t_1
    obtain rfl : i = a0.length := by omega
    rw [laws_szFormS_l0, if_neg (by omega), List.drop_length]; rfl
  | succ n ih =>
    intro i hi z0t_1
    have hil : i < a0.length := by omega
    have hw := wrap_nat (i := i) (by omega)
    have ih' := ih (i + 1) (by omega)
    rw [laws_szFormS_l0, if_pos (show (i : Int) < (a0.length : Int) by omega), List.drop_eq_getElem_cons hil, laws_szFormS_l0L]
    simp only [idx_nat _ i hil, psome, bsome, hw, ih']
theorem laws_szFormS_l0L0 (a0 : List Fm) (z0t_1 : Int) (hl : a0.length < 4611686018427387904) : laws_szFormS_l0 a0 z0t_1 0 = laws_szFormS_l0L a0 z0t_1 0 a0 := laws_szFormS_l0L_eq a0 hl _ 0 (Nat.zero_add _) z0t_1
def laws_szCoreS_l0L : List Cor → Int → Nat → List Cor → Option (Int ⊕ Int)
  | a0, z0t_1, z0t_5, [] => (
    pure (Sum.inr z0t_1)
  )
  | a0, z0t_1, z0t_5, it :: l_ => (
    (pure it >>= fun x20 =>
    (laws_szCore x20 z0t_1 >>= fun x23 =>
    if x23 < 0 then (
      pure (Sum.inl (-1))
    ) else (
      laws_szCoreS_l0L a0 x23 (z0t_5 + 1) l_
    )
    )
    )
  )
theorem laws_szCoreS_l0L_eq (a0 : List Cor) (hl : a0.length < 4611686018427387904) : ∀ (n i : Nat), i + n = a0.length → ∀ (z0t_1 : Int), laws_szCoreS_l0 a0 z0t_1 (i : Int) = laws_szCoreS_l0L a0 z0t_1 i (a0.drop i) := by
  intro n
  induction n with
  | zero =>
    intro i hi z0t_1
    obtain rfl : i = a0.length := by omega
    rw [laws_szCoreS_l0, if_neg (by omega), List.drop_length]; rfl
  | succ n ih =>
    intro i hi z0t_1
    have hil : i < a0.length := by omega
    have hw := wrap_nat (i := i) (by omega)
    have ih' := ih (i + 1) (by omega)
    rw [laws_szCoreS_l0, if_pos (show (i : Int) < (a0.length : Int) by omega), List.drop_eq_getElem_cons hil, laws_szCoreS_l0L]
    simp only [idx_nat _ i hil, psome, bsome, hw, ih']
theorem laws_szCoreS_l0L0 (a0 : List Cor) (z0t_1 : Int) (hl : a0.length < 4611686018427387904) : laws_szCoreS_l0 a0 z0t_1 0 = laws_szCoreS_l0L a0 z0t_1 0 a0 := laws_szCoreS_l0L_eq a0 hl _ 0 (Nat.zero_add _) z0t_1
def laws_szValueS_l0L : List Val → Int → Nat → List Val → Option (Int ⊕ Int)
  | a0, z0t_1, z0t_5, [] => (
    pure (Sum.inr z0t_1)
  )
  | a0, z0t_1, z0t_5, it :: l_ => (
    (pure it >>= fun x20 =>
    (laws_szValue x20 z0t_1 >>= fun x23 =>
    if x23 < 0 then (
      pure (Sum.inl (-1))
    ) else (
      laws_szValueS_l0L a0 x23 (z0t_5 + 1) l_
    )
    )
    )
  )
theorem laws_szValueS_l0L_eq (a0 : List Val) (hl : a0.length < 4611686018427387904) : ∀ (n i : Nat), i + n = a0.length → ∀ (z0t_1 : Int), laws_szValueS_l0 a0 z0t_1 (i : Int) = laws_szValueS_l0L a0 z0t_1 i (a0.drop i) := by
  intro n
  induction n with
  | zero =>
    intro i hi z0t_1
    obtain rfl : i = a0.length := by omega
    rw [laws_szValueS_l0, if_neg (by omega), List.drop_length]; rfl
  | succ n ih =>
    intro i hi z0t_1
    have hil : i < a0.length := by omega
    have hw := wrap_nat (i := i) (by omega)
    have ih' := ih (i + 1) (by omega)
    rw [laws_szValueS_l0, if_pos (show (i : Int) < (a0.length : Int) by omega), List.drop_eq_getElem_cons hil, laws_szValueS_l0L]
    simp only [idx_nat _ i hil, psome, bsome, hw, ih']
theorem laws_szValueS_l0L0 (a0 : List Val) (z0t_1 : Int) (hl : a0.length < 4611686018427387904) : laws_szValueS_l0 a0 z0t_1 0 = laws_szValueS_l0L a0 z0t_1 0 a0 := laws_szValueS_l0L_eq a0 hl _ 0 (Nat.zero_add _) z0t_1
def laws_szSlotS_l0L : List Slt → Int → Nat → List Slt → Option (Int ⊕ Int)
  | a0, z0t_1, z0t_5, [] => (
    pure (Sum.inr z0t_1)
  )
  | a0, z0t_1, z0t_5, it :: l_ => (
    (pure it >>= fun x20 =>
    (laws_szSlot x20 z0t_1 >>= fun x23 =>
    if x23 < 0 then (
      pure (Sum.inl (-1))
    ) else (
      laws_szSlotS_l0L a0 x23 (z0t_5 + 1) l_
    )
    )
    )
  )
theorem laws_szSlotS_l0L_eq (a0 : List Slt) (hl : a0.length < 4611686018427387904) : ∀ (n i : Nat), i + n = a0.length → ∀ (z0t_1 : Int), laws_szSlotS_l0 a0 z0t_1 (i : Int) = laws_szSlotS_l0L a0 z0t_1 i (a0.drop i) := by
  intro n
  induction n with
  | zero =>
    intro i hi z0t_1
    obtain rfl : i = a0.length := by omega
    rw [laws_szSlotS_l0, if_neg (by omega), List.drop_length]; rfl
  | succ n ih =>
    intro i hi z0t_1
    have hil : i < a0.length := by omega
    have hw := wrap_nat (i := i) (by omega)
    have ih' := ih (i + 1) (by omega)
    rw [laws_szSlotS_l0, if_pos (show (i : Int) < (a0.length : Int) by omega), List.drop_eq_getElem_cons hil, laws_szSlotS_l0L]
    simp only [idx_nat _ i hil, psome, bsome, hw, ih']
theorem laws_szSlotS_l0L0 (a0 : List Slt) (z0t_1 : Int) (hl : a0.length < 4611686018427387904) : laws_szSlotS_l0 a0 z0t_1 0 = laws_szSlotS_l0L a0 z0t_1 0 a0 := laws_szSlotS_l0L_eq a0 hl _ 0 (Nat.zero_add _) z0t_1
def laws_toIntS_l0L : List Int → List Int → Nat → List Int → Option (List Int)
  | a0, z0o_0, z0t_4, [] => (
    pure z0o_0
  )
  | a0, z0o_0, z0t_4, it :: l_ => (
    (pure it >>= fun x18 =>
    (idx z0o_0 (z0t_4 : Int) >>= fun x20 =>
    laws_toIntS_l0L a0 (z0o_0.set (z0t_4 : Int).toNat x18) (z0t_4 + 1) l_
    )
    )
  )
theorem laws_toIntS_l0L_eq (a0 : List Int) (hl : a0.length < 4611686018427387904) : ∀ (n i : Nat), i + n = a0.length → ∀ (z0o_0 : List Int), laws_toIntS_l0 a0 z0o_0 (i : Int) = laws_toIntS_l0L a0 z0o_0 i (a0.drop i) := by
  intro n
  induction n with
  | zero =>
    intro i hi z0o_0
    obtain rfl : i = a0.length := by omega
    rw [laws_toIntS_l0, if_neg (by omega), List.drop_length]; rfl
  | succ n ih =>
    intro i hi z0o_0
    have hil : i < a0.length := by omega
    have hw := wrap_nat (i := i) (by omega)
    have ih' := ih (i + 1) (by omega)
    rw [laws_toIntS_l0, if_pos (show (i : Int) < (a0.length : Int) by omega), List.drop_eq_getElem_cons hil, laws_toIntS_l0L]
    simp only [idx_nat _ i hil, psome, bsome, hw, ih']
theorem laws_toIntS_l0L0 (a0 : List Int) (z0o_0 : List Int) (hl : a0.length < 4611686018427387904) : laws_toIntS_l0 a0 z0o_0 0 = laws_toIntS_l0L a0 z0o_0 0 a0 := laws_toIntS_l0L_eq a0 hl _ 0 (Nat.zero_add _) z0o_0
def laws_toFormS_l0L : List Fm → List Fm → Nat → List Fm → Option (List Fm)
  | a0, z0o_0, z0t_4, [] => (
    pure z0o_0
  )
  | a0, z0o_0, z0t_4, it :: l_ => (
    (pure it >>= fun x18 =>
    (laws_toForm x18 >>= fun x20 =>
    (idx z0o_0 (z0t_4 : Int) >>= fun x21 =>
    laws_toFormS_l0L a0 (z0o_0.set (z0t_4 : Int).toNat x20) (z0t_4 + 1) l_
    )
    )
    )
  )
theorem laws_toFormS_l0L_eq (a0 : List Fm) (hl : a0.length < 4611686018427387904) : ∀ (n i : Nat), i + n = a0.length → ∀ (z0o_0 : List Fm), laws_toFormS_l0 a0 z0o_0 (i : Int) = laws_toFormS_l0L a0 z0o_0 i (a0.drop i) := by
  intro n
  induction n with
  | zero =>
    intro i hi z0o_0
    obtain rfl : i = a0.length := by omega
    rw [laws_toFormS_l0, if_neg (by omega), List.drop_length]; rfl
  | succ n ih =>
    intro i hi z0o_0
    have hil : i < a0.length := by omega
    have hw := wrap_nat (i := i) (by omega)
    have ih' := ih (i + 1) (by omega)
    rw [laws_toFormS_l0, if_pos (show (i : Int) < (a0.length : Int) by omega), List.drop_eq_getElem_cons hil, laws_toFormS_l0L]
    simp only [idx_nat _ i hil, psome, bsome, hw, ih']
theorem laws_toFormS_l0L0 (a0 : List Fm) (z0o_0 : List Fm) (hl : a0.length < 4611686018427387904) : laws_toFormS_l0 a0 z0o_0 0 = laws_toFormS_l0L a0 z0o_0 0 a0 := laws_toFormS_l0L_eq a0 hl _ 0 (Nat.zero_add _) z0o_0
def laws_toCoreS_l0L : List Cor → List Cor → Nat → List Cor → Option (List Cor)
  | a0, z0o_0, z0t_4, [] => (
    pure z0o_0
  )
  | a0, z0o_0, z0t_4, it :: l_ => (
    (pure it >>= fun x18 =>
    (laws_toCore x18 >>= fun x20 =>
    (idx z0o_0 (z0t_4 : Int) >>= fun x21 =>
    laws_toCoreS_l0L a0 (z0o_0.set (z0t_4 : Int).toNat x20) (z0t_4 + 1) l_
    )
    )
    )
  )
theorem laws_toCoreS_l0L_eq (a0 : List Cor) (hl : a0.length < 4611686018427387904) : ∀ (n i : Nat), i + n = a0.length → ∀ (z0o_0 : List Cor), laws_toCoreS_l0 a0 z0o_0 (i : Int) = laws_toCoreS_l0L a0 z0o_0 i (a0.drop i) := by
  intro n
  induction n with
  | zero =>
    intro i hi z0o_0
    obtain rfl : i = a0.length := by omega
    rw [laws_toCoreS_l0, if_neg (by omega), List.drop_length]; rfl
  | succ n ih =>
    intro i hi z0o_0
    have hil : i < a0.length := by omega
    have hw := wrap_nat (i := i) (by omega)
    have ih' := ih (i + 1) (by omega)
    rw [laws_toCoreS_l0, if_pos (show (i : Int) < (a0.length : Int) by omega), List.drop_eq_getElem_cons hil, laws_toCoreS_l0L]
    simp only [idx_nat _ i hil, psome, bsome, hw, ih']
theorem laws_toCoreS_l0L0 (a0 : List Cor) (z0o_0 : List Cor) (hl : a0.length < 4611686018427387904) : laws_toCoreS_l0 a0 z0o_0 0 = laws_toCoreS_l0L a0 z0o_0 0 a0 := laws_toCoreS_l0L_eq a0 hl _ 0 (Nat.zero_add _) z0o_0
def laws_toValueS_l0L : List Val → List Val → Nat → List Val → Option (List Val)
  | a0, z0o_0, z0t_4, [] => (
    pure z0o_0
  )
  | a0, z0o_0, z0t_4, it :: l_ => (
    (pure it >>= fun x18 =>
    (laws_toValue x18 >>= fun x20 =>
    (idx z0o_0 (z0t_4 : Int) >>= fun x21 =>
    laws_toValueS_l0L a0 (z0o_0.set (z0t_4 : Int).toNat x20) (z0t_4 + 1) l_
    )
    )
    )
  )
theorem laws_toValueS_l0L_eq (a0 : List Val) (hl : a0.length < 4611686018427387904) : ∀ (n i : Nat), i + n = a0.length → ∀ (z0o_0 : List Val), laws_toValueS_l0 a0 z0o_0 (i : Int) = laws_toValueS_l0L a0 z0o_0 i (a0.drop i) := by
  intro n
  induction n with
  | zero =>
    intro i hi z0o_0
    obtain rfl : i = a0.length := by omega
    rw [laws_toValueS_l0, if_neg (by omega), List.drop_length]; rfl
  | succ n ih =>
    intro i hi z0o_0
    have hil : i < a0.length := by omega
    have hw := wrap_nat (i := i) (by omega)
    have ih' := ih (i + 1) (by omega)
    rw [laws_toValueS_l0, if_pos (show (i : Int) < (a0.length : Int) by omega), List.drop_eq_getElem_cons hil, laws_toValueS_l0L]
    simp only [idx_nat _ i hil, psome, bsome, hw, ih']
theorem laws_toValueS_l0L0 (a0 : List Val) (z0o_0 : List Val) (hl : a0.length < 4611686018427387904) : laws_toValueS_l0 a0 z0o_0 0 = laws_toValueS_l0L a0 z0o_0 0 a0 := laws_toValueS_l0L_eq a0 hl _ 0 (Nat.zero_add _) z0o_0
def laws_toSlotS_l0L : List Slt → List Slt → Nat → List Slt → Option (List Slt)
  | a0, z0o_0, z0t_4, [] => (
    pure z0o_0
  )
  | a0, z0o_0, z0t_4, it :: l_ => (
    (pure it >>= fun x18 =>
    (laws_toSlot x18 >>= fun x20 =>
    (idx z0o_0 (z0t_4 : Int) >>= fun x21 =>
    laws_toSlotS_l0L a0 (z0o_0.set (z0t_4 : Int).toNat x20) (z0t_4 + 1) l_
    )
    )
    )
  )
theorem laws_toSlotS_l0L_eq (a0 : List Slt) (hl : a0.length < 4611686018427387904) : ∀ (n i : Nat), i + n = a0.length → ∀ (z0o_0 : List Slt), laws_toSlotS_l0 a0 z0o_0 (i : Int) = laws_toSlotS_l0L a0 z0o_0 i (a0.drop i) := by
  intro n
  induction n with
  | zero =>
    intro i hi z0o_0
    obtain rfl : i = a0.length := by omega
    rw [laws_toSlotS_l0, if_neg (by omega), List.drop_length]; rfl
  | succ n ih =>
    intro i hi z0o_0
    have hil : i < a0.length := by omega
    have hw := wrap_nat (i := i) (by omega)
    have ih' := ih (i + 1) (by omega)
    rw [laws_toSlotS_l0, if_pos (show (i : Int) < (a0.length : Int) by omega), List.drop_eq_getElem_cons hil, laws_toSlotS_l0L]
    simp only [idx_nat _ i hil, psome, bsome, hw, ih']
theorem laws_toSlotS_l0L0 (a0 : List Slt) (z0o_0 : List Slt) (hl : a0.length < 4611686018427387904) : laws_toSlotS_l0 a0 z0o_0 0 = laws_toSlotS_l0L a0 z0o_0 0 a0 := laws_toSlotS_l0L_eq a0 hl _ 0 (Nat.zero_add _) z0o_0
def spec_l8Text_l0L : Val → Int → ByteArray → Nat → List Val → Option (ByteArray)
  | a0, a1, z0t_5, z0t_6, [] => (
    pure z0t_5
  )
  | a0, a1, z0t_5, z0t_6, it :: l_ => (
    ((if (z0t_6 : Int) > 0 then (
      (scat z0t_5 (ByteArray.mk #[32]) >>= fun x41 =>
      pure x41
      )
    ) else (
      pure z0t_5
    ) : Option (ByteArray)) >>= fun y8t_5 =>
      (pure it >>= fun x46 =>
      (spec_l8Text x46 (IntKind.i64.wrap (a1 - 1)) >>= fun x50 =>
      (scat y8t_5 x50 >>= fun x51 =>
      spec_l8Text_l0L a0 a1 x51 (z0t_6 + 1) l_
      )
      )
      )
    )
  )
theorem spec_l8Text_l0L_eq (a0 : Val) (a1 : Int) (hl : a0.items.length < 4611686018427387904) : ∀ (n i : Nat), i + n = a0.items.length → ∀ (z0t_5 : ByteArray), spec_l8Text_l0 a0 a1 z0t_5 (i : Int) = spec_l8Text_l0L a0 a1 z0t_5 i (a0.items.drop i) := by
  intro n
  induction n with
  | zero =>
    intro i hi z0t_5
    obtain rfl : i = a0.items.length := by omega
    rw [spec_l8Text_l0, if_neg (by omega), List.drop_length]; rfl
  | succ n ih =>
    intro i hi z0t_5
    have hil : i < a0.items.length := by omega
    have hw := wrap_nat (i := i) (by omega)
    have ih' := ih (i + 1) (by omega)
    rw [spec_l8Text_l0, if_pos (show (i : Int) < (a0.items.length : Int) by omega), List.drop_eq_getElem_cons hil, spec_l8Text_l0L]
    simp only [idx_nat _ i hil, psome, bsome, hw, ih']
theorem spec_l8Text_l0L0 (a0 : Val) (a1 : Int) (z0t_5 : ByteArray) (hl : a0.items.length < 4611686018427387904) : spec_l8Text_l0 a0 a1 z0t_5 0 = spec_l8Text_l0L a0 a1 z0t_5 0 a0.items := spec_l8Text_l0L_eq a0 a1 hl _ 0 (Nat.zero_add _) z0t_5
def impl_valueText_l0L : Val → Int → List ByteArray → Nat → List Val → Option (List ByteArray)
  | a0, a1, z0o_0, z0t_36, [] => (
    pure z0o_0
  )
  | a0, a1, z0o_0, z0t_36, it :: l_ => (
    (pure it >>= fun x38 =>
    (impl_valueText x38 (IntKind.i64.wrap (a1 + 1)) >>= fun x44 =>
    (lcat 16 z0o_0 [x44] >>= fun x46 =>
    impl_valueText_l0L a0 a1 x46 (z0t_36 + 1) l_
    )
    )
    )
  )
theorem impl_valueText_l0L_eq (a0 : Val) (a1 : Int) (hl : a0.items.length < 4611686018427387904) : ∀ (n i : Nat), i + n = a0.items.length → ∀ (z0o_0 : List ByteArray), impl_valueText_l0 a0 a1 z0o_0 (i : Int) = impl_valueText_l0L a0 a1 z0o_0 i (a0.items.drop i) := by
  intro n
  induction n with
  | zero =>
    intro i hi z0o_0
    obtain rfl : i = a0.items.length := by omega
    rw [impl_valueText_l0, if_neg (by omega), List.drop_length]; rfl
  | succ n ih =>
    intro i hi z0o_0
    have hil : i < a0.items.length := by omega
    have hw := wrap_nat (i := i) (by omega)
    have ih' := ih (i + 1) (by omega)
    rw [impl_valueText_l0, if_pos (show (i : Int) < (a0.items.length : Int) by omega), List.drop_eq_getElem_cons hil, impl_valueText_l0L]
    simp only [idx_nat _ i hil, psome, bsome, hw, ih']
theorem impl_valueText_l0L0 (a0 : Val) (a1 : Int) (z0o_0 : List ByteArray) (hl : a0.items.length < 4611686018427387904) : impl_valueText_l0 a0 a1 z0o_0 0 = impl_valueText_l0L a0 a1 z0o_0 0 a0.items := impl_valueText_l0L_eq a0 a1 hl _ 0 (Nat.zero_add _) z0o_0
def laws_eqIntS_l0L : List Int → List Int → Nat → List Int → Option (Bool ⊕ Unit)
  | a0, a1, z0t_5, [] => (
    pure (Sum.inr ())
  )
  | a0, a1, z0t_5, it :: l_ => (
    (pure it >>= fun x19 =>
    (idx a1 (z0t_5 : Int) >>= fun x23 =>
    if x19 = x23 then (
      laws_eqIntS_l0L a0 a1 (z0t_5 + 1) l_
    ) else (
      pure (Sum.inl false)
    )
    )
    )
  )
theorem laws_eqIntS_l0L_eq (a0 : List Int) (a1 : List Int) (hl : a0.length < 4611686018427387904) : ∀ (n i : Nat), i + n = a0.length →  laws_eqIntS_l0 a0 a1 (i : Int) = laws_eqIntS_l0L a0 a1 i (a0.drop i) := by
  intro n
  induction n with
  | zero =>
    intro i hi 
    obtain rfl : i = a0.length := by omega
    rw [laws_eqIntS_l0, if_neg (by omega), List.drop_length]; rfl
  | succ n ih =>
    intro i hi 
    have hil : i < a0.length := by omega
    have hw := wrap_nat (i := i) (by omega)
    have ih' := ih (i + 1) (by omega)
    rw [laws_eqIntS_l0, if_pos (show (i : Int) < (a0.length : Int) by omega), List.drop_eq_getElem_cons hil, laws_eqIntS_l0L]
    simp only [idx_nat _ i hil, psome, bsome, hw, ih']
theorem laws_eqIntS_l0L0 (a0 : List Int) (a1 : List Int)  (hl : a0.length < 4611686018427387904) : laws_eqIntS_l0 a0 a1 0 = laws_eqIntS_l0L a0 a1 0 a0 := laws_eqIntS_l0L_eq a0 a1 hl _ 0 (Nat.zero_add _) 
def laws_eqFormS_l0L : List Fm → List Fm → Nat → List Fm → Option (Bool ⊕ Unit)
  | a0, a1, z0t_5, [] => (
    pure (Sum.inr ())
  )
  | a0, a1, z0t_5, it :: l_ => (
    (pure it >>= fun x19 =>
    (idx a1 (z0t_5 : Int) >>= fun x23 =>
    (laws_eqForm x19 x23 >>= fun x25 =>
    if (!x25) = true then (
      pure (Sum.inl false)
    ) else (
      laws_eqFormS_l0L a0 a1 (z0t_5 + 1) l_
    )
    )
    )
    )
  )
theorem laws_eqFormS_l0L_eq (a0 : List Fm) (a1 : List Fm) (hl : a0.length < 4611686018427387904) : ∀ (n i : Nat), i + n = a0.length →  laws_eqFormS_l0 a0 a1 (i : Int) = laws_eqFormS_l0L a0 a1 i (a0.drop i) := by
  intro n
  induction n with
  | zero =>
    intro i hi 
    obtain rfl : i = a0.length := by omega
    rw [laws_eqFormS_l0, if_neg (by omega), List.drop_length]; rfl
  | succ n ih =>
    intro i hi 
    have hil : i < a0.length := by omega
    have hw := wrap_nat (i := i) (by omega)
    have ih' := ih (i + 1) (by omega)
    rw [laws_eqFormS_l0, if_pos (show (i : Int) < (a0.length : Int) by omega), List.drop_eq_getElem_cons hil, laws_eqFormS_l0L]
    simp only [idx_nat _ i hil, psome, bsome, hw, ih']
theorem laws_eqFormS_l0L0 (a0 : List Fm) (a1 : List Fm)  (hl : a0.length < 4611686018427387904) : laws_eqFormS_l0 a0 a1 0 = laws_eqFormS_l0L a0 a1 0 a0 := laws_eqFormS_l0L_eq a0 a1 hl _ 0 (Nat.zero_add _) 
def laws_eqCoreS_l0L : List Cor → List Cor → Nat → List Cor → Option (Bool ⊕ Unit)
  | a0, a1, z0t_5, [] => (
    pure (Sum.inr ())
  )
  | a0, a1, z0t_5, it :: l_ => (
    (pure it >>= fun x19 =>
    (idx a1 (z0t_5 : Int) >>= fun x23 =>
    (laws_eqCore x19 x23 >>= fun x25 =>
    if (!x25) = true then (
      pure (Sum.inl false)
    ) else (
      laws_eqCoreS_l0L a0 a1 (z0t_5 + 1) l_
    )
    )
    )
    )
  )
theorem laws_eqCoreS_l0L_eq (a0 : List Cor) (a1 : List Cor) (hl : a0.length < 4611686018427387904) : ∀ (n i : Nat), i + n = a0.length →  laws_eqCoreS_l0 a0 a1 (i : Int) = laws_eqCoreS_l0L a0 a1 i (a0.drop i) := by
  intro n
  induction n with
  | zero =>
    intro i hi 
    obtain rfl : i = a0.length := by omega
    rw [laws_eqCoreS_l0, if_neg (by omega), List.drop_length]; rfl
  | succ n ih =>
    intro i hi 
    have hil : i < a0.length := by omega
    have hw := wrap_nat (i := i) (by omega)
    have ih' := ih (i + 1) (by omega)
    rw [laws_eqCoreS_l0, if_pos (show (i : Int) < (a0.length : Int) by omega), List.drop_eq_getElem_cons hil, laws_eqCoreS_l0L]
    simp only [idx_nat _ i hil, psome, bsome, hw, ih']
theorem laws_eqCoreS_l0L0 (a0 : List Cor) (a1 : List Cor)  (hl : a0.length < 4611686018427387904) : laws_eqCoreS_l0 a0 a1 0 = laws_eqCoreS_l0L a0 a1 0 a0 := laws_eqCoreS_l0L_eq a0 a1 hl _ 0 (Nat.zero_add _) 
def laws_eqValueS_l0L : List Val → List Val → Nat → List Val → Option (Bool ⊕ Unit)
  | a0, a1, z0t_5, [] => (
    pure (Sum.inr ())
  )
  | a0, a1, z0t_5, it :: l_ => (
    (pure it >>= fun x19 =>
    (idx a1 (z0t_5 : Int) >>= fun x23 =>
    (laws_eqValue x19 x23 >>= fun x25 =>
    if (!x25) = true then (
      pure (Sum.inl false)
    ) else (
      laws_eqValueS_l0L a0 a1 (z0t_5 + 1) l_
    )
    )
    )
    )
  )
theorem laws_eqValueS_l0L_eq (a0 : List Val) (a1 : List Val) (hl : a0.length < 4611686018427387904) : ∀ (n i : Nat), i + n = a0.length →  laws_eqValueS_l0 a0 a1 (i : Int) = laws_eqValueS_l0L a0 a1 i (a0.drop i) := by
  intro n
  induction n with
  | zero =>
    intro i hi 
    obtain rfl : i = a0.length := by omega
    rw [laws_eqValueS_l0, if_neg (by omega), List.drop_length]; rfl
  | succ n ih =>
    intro i hi 
    have hil : i < a0.length := by omega
    have hw := wrap_nat (i := i) (by omega)
    have ih' := ih (i + 1) (by omega)
    rw [laws_eqValueS_l0, if_pos (show (i : Int) < (a0.length : Int) by omega), List.drop_eq_getElem_cons hil, laws_eqValueS_l0L]
    simp only [idx_nat _ i hil, psome, bsome, hw, ih']
theorem laws_eqValueS_l0L0 (a0 : List Val) (a1 : List Val)  (hl : a0.length < 4611686018427387904) : laws_eqValueS_l0 a0 a1 0 = laws_eqValueS_l0L a0 a1 0 a0 := laws_eqValueS_l0L_eq a0 a1 hl _ 0 (Nat.zero_add _) 
def laws_eqSlotS_l0L : List Slt → List Slt → Nat → List Slt → Option (Bool ⊕ Unit)
  | a0, a1, z0t_5, [] => (
    pure (Sum.inr ())
  )
  | a0, a1, z0t_5, it :: l_ => (
    (pure it >>= fun x19 =>
    (idx a1 (z0t_5 : Int) >>= fun x23 =>
    (laws_eqSlot x19 x23 >>= fun x25 =>
    if (!x25) = true then (
      pure (Sum.inl false)
    ) else (
      laws_eqSlotS_l0L a0 a1 (z0t_5 + 1) l_
    )
    )
    )
    )
  )
theorem laws_eqSlotS_l0L_eq (a0 : List Slt) (a1 : List Slt) (hl : a0.length < 4611686018427387904) : ∀ (n i : Nat), i + n = a0.length →  laws_eqSlotS_l0 a0 a1 (i : Int) = laws_eqSlotS_l0L a0 a1 i (a0.drop i) := by
  intro n
  induction n with
  | zero =>
    intro i hi 
    obtain rfl : i = a0.length := by omega
    rw [laws_eqSlotS_l0, if_neg (by omega), List.drop_length]; rfl
  | succ n ih =>
    intro i hi 
    have hil : i < a0.length := by omega
    have hw := wrap_nat (i := i) (by omega)
    have ih' := ih (i + 1) (by omega)
    rw [laws_eqSlotS_l0, if_pos (show (i : Int) < (a0.length : Int) by omega), List.drop_eq_getElem_cons hil, laws_eqSlotS_l0L]
    simp only [idx_nat _ i hil, psome, bsome, hw, ih']
theorem laws_eqSlotS_l0L0 (a0 : List Slt) (a1 : List Slt)  (hl : a0.length < 4611686018427387904) : laws_eqSlotS_l0 a0 a1 0 = laws_eqSlotS_l0L a0 a1 0 a0 := laws_eqSlotS_l0L_eq a0 a1 hl _ 0 (Nat.zero_add _) 
end Go.Proofs.SA
