/- The printed loops over lists, as functions on the lists: printed by a program of mine. -/
import Derived.Test.YtmacemmkocjkaaaDoorStD
import Derived.Test.YtmacemmkocjkaaaDoorPa
set_option linter.unusedVariables false
set_option linter.unusedSimpArgs false
set_option maxRecDepth 100000
open Go Go.Proofs Go.Proofs.Shadow
namespace Go.Proofs.SA
def laws_szFormS_l0L : List Fm → Int → Nat → List Fm → Option (Int ⊕ Int)
  | a0, z0t_1, z0t_5, [] => (
    pure (Sum.inr z0t_1)
  )
  | a0, z0t_1, z0t_5, it :: l_ => (
    (pure it >>= fun x20 =>
    (laws_szForm x20 z0t_1 >>= fun x23 =>
    if x23 < 0 then (
      pure (Sum.inl (-1))
    ) else (
      laws_szFormS_l0L a0 x23 (z0t_5 + 1) l_
    )
    )
    )
  )
theorem laws_szFormS_l0L_eq (a0 : List Fm) (hl : a0.length < 4611686018427387904) : ∀ (n i : Nat), i + n = a0.length → ∀ (z0t_1 : Int), laws_szFormS_l0 a0 z0t_1 (i : Int) = laws_szFormS_l0L a0 z0t_1 i (a0.drop i) := by
  intro n
  induction n with
  | zero =>
    intro i hi z0t_1
    obtain rfl : i = a0.length := by omega
    rw [laws_szFormS_l0, if_neg (by omega), List.drop_length]; rfl
  | succ n ih =>
    intro i hi z0t_1
    have hil : i < a0.length := by omega
    have hw := wrap_nat (i := i) (by omega)
    have ih' := ih (i + 1) (by omega)
    rw [laws_szFormS_l0, if_pos (show (i : Int) < (a0.length : Int) by omega), List.drop_eq_getElem_cons hil, laws_szFormS_l0L]
    simp only [idx_nat _ i hil, psome, bsome, hw, ih']
theorem laws_szFormS_l0L0 (a0 : List Fm) (z0t_1 : Int) (hl : a0.length < 4611686018427387904) : laws_szFormS_l0 a0 z0t_1 0 = laws_szFormS_l0L a0 z0t_1 0 a0 := laws_szFormS_l0L_eq a0 hl _ 0 (Nat.zero_add _) z0t_1
def laws_szStepS_l0L : List Stp → Int → Nat → List Stp → Option (Int ⊕ Int)
  | a0, z0t_1, z0t_5, [] => (
    pure (Sum.inr z0t_1)
  )
  | a0, z0t_1, z0t_5, it :: l_ => (
    (pure it >>= fun x20 =>
    (laws_szStep x20 z0t_1 >>= fun x23 =>
    if x23 < 0 then (
      pure (Sum.inl (-1))
    ) else (
      laws_szStepS_l0L a0 x23 (z0t_5 + 1) l_
    )
    )
    )
  )
theorem laws_szStepS_l0L_eq (a0 : List Stp) (hl : a0.length < 4611686018427387904) : ∀ (n i : Nat), i + n = a0.length → ∀ (z0t_1 : Int), laws_szStepS_l0 a0 z0t_1 (i : Int) = laws_szStepS_l0L a0 z0t_1 i (a0.drop i) := by
  intro n
  induction n with
  | zero =>
    intro i hi z0t_1
    obtain rfl : i = a0.length := by omega
    rw [laws_szStepS_l0, if_neg (by omega), List.drop_length]; rfl
  | succ n ih =>
    intro i hi z0t_1
    have hil : i < a0.length := by omega
    have hw := wrap_nat (i := i) (by omega)
    have ih' := ih (i + 1) (by omega)
    rw [laws_szStepS_l0, if_pos (show (i : Int) < (a0.length : Int) by omega), List.drop_eq_getElem_cons hil, laws_szStepS_l0L]
    simp only [idx_nat _ i hil, psome, bsome, hw, ih']
theorem laws_szStepS_l0L0 (a0 : List Stp) (z0t_1 : Int) (hl : a0.length < 4611686018427387904) : laws_szStepS_l0 a0 z0t_1 0 = laws_szStepS_l0L a0 z0t_1 0 a0 := laws_szStepS_l0L_eq a0 hl _ 0 (Nat.zero_add _) z0t_1
def laws_toIntS_l0L : List Int → List Int → Nat → List Int → Option (List Int)
  | a0, z0o_0, z0t_4, [] => (
    pure z0o_0
  )
  | a0, z0o_0, z0t_4, it :: l_ => (
    (pure it >>= fun x18 =>
    (idx z0o_0 (z0t_4 : Int) >>= fun x20 =>
    laws_toIntS_l0L a0 (z0o_0.set (z0t_4 : Int).toNat x18) (z0t_4 + 1) l_
    )
    )
  )
theorem laws_toIntS_l0L_eq (a0 : List Int) (hl : a0.length < 4611686018427387904) : ∀ (n i : Nat), i + n = a0.length → ∀ (z0o_0 : List Int), laws_toIntS_l0 a0 z0o_0 (i : Int) = laws_toIntS_l0L a0 z0o_0 i (a0.drop i) := by
  intro n
  induction n with
  | zero =>
    intro i hi z0o_0
    obtain rfl : i = a0.length := by omega
    rw [laws_toIntS_l0, if_neg (by omega), List.drop_length]; rfl
  | succ n ih =>
    intro i hi z0o_0
    have hil : i < a0.length := by omega
    have hw := wrap_nat (i := i) (by omega)
    have ih' := ih (i + 1) (by omega)
    rw [laws_toIntS_l0, if_pos (show (i : Int) < (a0.length : Int) by omega), List.drop_eq_getElem_cons hil, laws_toIntS_l0L]
    simp only [idx_nat _ i hil, psome, bsome, hw, ih']
theorem laws_toIntS_l0L0 (a0 : List Int) (z0o_0 : List Int) (hl : a0.length < 4611686018427387904) : laws_toIntS_l0 a0 z0o_0 0 = laws_toIntS_l0L a0 z0o_0 0 a0 := laws_toIntS_l0L_eq a0 hl _ 0 (Nat.zero_add _) z0o_0
def laws_toFormS_l0L : List Fm → List Fm → Nat → List Fm → Option (List Fm)
  | a0, z0o_0, z0t_4, [] => (
    pure z0o_0
  )
  | a0, z0o_0, z0t_4, it :: l_ => (
    (pure it >>= fun x18 =>
    (laws_toForm x18 >>= fun x20 =>
    (idx z0o_0 (z0t_4 : Int) >>= fun x21 =>
    laws_toFormS_l0L a0 (z0o_0.set (z0t_4 : Int).toNat x20) (z0t_4 + 1) l_
    )
    )
    )
  )
theorem laws_toFormS_l0L_eq (a0 : List Fm) (hl : a0.length < 4611686018427387904) : ∀ (n i : Nat), i + n = a0.length → ∀ (z0o_0 : List Fm), laws_toFormS_l0 a0 z0o_0 (i : Int) = laws_toFormS_l0L a0 z0o_0 i (a0.drop i) := by
  intro n
  induction n with
  | zero =>
    intro i hi z0o_0
    obtain rfl : i = a0.length := by omega
    rw [laws_toFormS_l0, if_neg (by omega), List.drop_length]; rfl
  | succ n ih =>
    intro i hi z0o_0
    have hil : i < a0.length := by omega
    have hw := wrap_nat (i := i) (by omega)
    have ih' := ih (i + 1) (by omega)
    rw [laws_toFormS_l0, if_pos (show (i : Int) < (a0.length : Int) by omega), List.drop_eq_getElem_cons hil, laws_toFormS_l0L]
    simp only [idx_nat _ i hil, psome, bsome, hw, ih']
theorem laws_toFormS_l0L0 (a0 : List Fm) (z0o_0 : List Fm) (hl : a0.length < 4611686018427387904) : laws_toFormS_l0 a0 z0o_0 0 = laws_toFormS_l0L a0 z0o_0 0 a0 := laws_toFormS_l0L_eq a0 hl _ 0 (Nat.zero_add _) z0o_0
def laws_toStepS_l0L : List Stp → List Stp → Nat → List Stp → Option (List Stp)
  | a0, z0o_0, z0t_4, [] => (
    pure z0o_0
  )
  | a0, z0o_0, z0t_4, it :: l_ => (
    (pure it >>= fun x18 =>
    (laws_toStep x18 >>= fun x20 =>
    (idx z0o_0 (z0t_4 : Int) >>= fun x21 =>
    laws_toStepS_l0L a0 (z0o_0.set (z0t_4 : Int).toNat x20) (z0t_4 + 1) l_
    )
    )
    )
  )
theorem laws_toStepS_l0L_eq (a0 : List Stp) (hl : a0.length < 4611686018427387904) : ∀ (n i : Nat), i + n = a0.length → ∀ (z0o_0 : List Stp), laws_toStepS_l0 a0 z0o_0 (i : Int) = laws_toStepS_l0L a0 z0o_0 i (a0.drop i) := by
  intro n
  induction n with
  | zero =>
    intro i hi z0o_0
    obtain rfl : i = a0.length := by omega
    rw [laws_toStepS_l0, if_neg (by omega), List.drop_length]; rfl
  | succ n ih =>
    intro i hi z0o_0
    have hil : i < a0.length := by omega
    have hw := wrap_nat (i := i) (by omega)
    have ih' := ih (i + 1) (by omega)
    rw [laws_toStepS_l0, if_pos (show (i : Int) < (a0.length : Int) by omega), List.drop_eq_getElem_cons hil, laws_toStepS_l0L]
    simp only [idx_nat _ i hil, psome, bsome, hw, ih']
theorem laws_toStepS_l0L0 (a0 : List Stp) (z0o_0 : List Stp) (hl : a0.length < 4611686018427387904) : laws_toStepS_l0 a0 z0o_0 0 = laws_toStepS_l0L a0 z0o_0 0 a0 := laws_toStepS_l0L_eq a0 hl _ 0 (Nat.zero_add _) z0o_0
def spec_StripForm_l0L : Fm → List Fm → Nat → List Fm → Option (List Fm)
  | a0, z0o_0, z0t_4, [] => (
    pure z0o_0
  )
  | a0, z0o_0, z0t_4, it :: l_ => (
    (pure it >>= fun x24 =>
    (spec_StripForm x24 >>= fun x26 =>
    (lcat 80 z0o_0 [x26] >>= fun x28 =>
    spec_StripForm_l0L a0 x28 (z0t_4 + 1) l_
    )
    )
    )
  )
theorem spec_StripForm_l0L_eq (a0 : Fm) (hl : a0.kids.length < 4611686018427387904) : ∀ (n i : Nat), i + n = a0.kids.length → ∀ (z0o_0 : List Fm), spec_StripForm_l0 a0 z0o_0 (i : Int) = spec_StripForm_l0L a0 z0o_0 i (a0.kids.drop i) := by
  intro n
  induction n with
  | zero =>
    intro i hi z0o_0
    obtain rfl : i = a0.kids.length := by omega
    rw [spec_StripForm_l0, if_neg (by omega), List.drop_length]; rfl
  | succ n ih =>
    intro i hi z0o_0
    have hil : i < a0.kids.length := by omega
    have hw := wrap_nat (i := i) (by omega)
    have ih' := ih (i + 1) (by omega)
    rw [spec_StripForm_l0, if_pos (show (i : Int) < (a0.kids.length : Int) by omega), List.drop_eq_getElem_cons hil, spec_StripForm_l0L]
    simp only [idx_nat _ i hil, psome, bsome, hw, ih']
theorem spec_StripForm_l0L0 (a0 : Fm) (z0o_0 : List Fm) (hl : a0.kids.length < 4611686018427387904) : spec_StripForm_l0 a0 z0o_0 0 = spec_StripForm_l0L a0 z0o_0 0 a0.kids := spec_StripForm_l0L_eq a0 hl _ 0 (Nat.zero_add _) z0o_0
def spec_l1Is_l0L : Fm → Int → Nat → List Fm → Option (Bool ⊕ Unit)
  | a0, a1, z0t_5, [] => (
    pure (Sum.inr ())
  )
  | a0, a1, z0t_5, it :: l_ => (
    (pure it >>= fun x87 =>
    (spec_l1Is x87 (IntKind.i64.wrap (a1 - 1)) >>= fun x91 =>
    if (!x91) = true then (
      pure (Sum.inl false)
    ) else (
      spec_l1Is_l0L a0 a1 (z0t_5 + 1) l_
    )
    )
    )
  )
theorem spec_l1Is_l0L_eq (a0 : Fm) (a1 : Int) (hl : a0.kids.length < 4611686018427387904) : ∀ (n i : Nat), i + n = a0.kids.length →  spec_l1Is_l0 a0 a1 (i : Int) = spec_l1Is_l0L a0 a1 i (a0.kids.drop i) := by
  intro n
  induction n with
  | zero =>
    intro i hi 
    obtain rfl : i = a0.kids.length := by omega
    rw [spec_l1Is_l0, if_neg (by omega), List.drop_length]; rfl
  | succ n ih =>
    intro i hi 
    have hil : i < a0.kids.length := by omega
    have hw := wrap_nat (i := i) (by omega)
    have ih' := ih (i + 1) (by omega)
    rw [spec_l1Is_l0, if_pos (show (i : Int) < (a0.kids.length : Int) by omega), List.drop_eq_getElem_cons hil, spec_l1Is_l0L]
    simp only [idx_nat _ i hil, psome, bsome, hw, ih']
theorem spec_l1Is_l0L0 (a0 : Fm) (a1 : Int)  (hl : a0.kids.length < 4611686018427387904) : spec_l1Is_l0 a0 a1 0 = spec_l1Is_l0L a0 a1 0 a0.kids := spec_l1Is_l0L_eq a0 a1 hl _ 0 (Nat.zero_add _) 
def spec_l1Count_l0L : Fm → Int → Nat → List Fm → Option (Int)
  | a0, z0t_3, z0t_4, [] => (
    pure z0t_3
  )
  | a0, z0t_3, z0t_4, it :: l_ => (
    (pure it >>= fun x16 =>
    (spec_l1Count x16 >>= fun x18 =>
    spec_l1Count_l0L a0 (IntKind.i64.wrap (z0t_3 + x18)) (z0t_4 + 1) l_
    )
    )
  )
theorem spec_l1Count_l0L_eq (a0 : Fm) (hl : a0.kids.length < 4611686018427387904) : ∀ (n i : Nat), i + n = a0.kids.length → ∀ (z0t_3 : Int), spec_l1Count_l0 a0 z0t_3 (i : Int) = spec_l1Count_l0L a0 z0t_3 i (a0.kids.drop i) := by
  intro n
  induction n with
  | zero =>
    intro i hi z0t_3
    obtain rfl : i = a0.kids.length := by omega
    rw [spec_l1Count_l0, if_neg (by omega), List.drop_length]; rfl
  | succ n ih =>
    intro i hi z0t_3
    have hil : i < a0.kids.length := by omega
    have hw := wrap_nat (i := i) (by omega)
    have ih' := ih (i + 1) (by omega)
    rw [spec_l1Count_l0, if_pos (show (i : Int) < (a0.kids.length : Int) by omega), List.drop_eq_getElem_cons hil, spec_l1Count_l0L]
    simp only [idx_nat _ i hil, psome, bsome, hw, ih']
theorem spec_l1Count_l0L0 (a0 : Fm) (z0t_3 : Int) (hl : a0.kids.length < 4611686018427387904) : spec_l1Count_l0 a0 z0t_3 0 = spec_l1Count_l0L a0 z0t_3 0 a0.kids := spec_l1Count_l0L_eq a0 hl _ 0 (Nat.zero_add _) z0t_3
def spec_l1Text_l0L : Fm → ByteArray → Nat → List Int → Option (ByteArray)
  | a0, z0t_3, z0t_4, [] => (
    pure z0t_3
  )
  | a0, z0t_3, z0t_4, it :: l_ => (
    ((if (z0t_4 : Int) = 0 then (
      pure (ByteArray.mk #[123])
    ) else (
      pure (ByteArray.mk #[44])
    ) : Option (ByteArray)) >>= fun y3t_5 =>
      (scat z0t_3 y3t_5 >>= fun x30 =>
      (pure it >>= fun x34 =>
      (spec_l15Dec x34 >>= fun x36 =>
      (scat x30 x36 >>= fun x37 =>
      spec_l1Text_l0L a0 x37 (z0t_4 + 1) l_
      )
      )
      )
      )
    )
  )
theorem spec_l1Text_l0L_eq (a0 : Fm) (hl : a0.sc.length < 4611686018427387904) : ∀ (n i : Nat), i + n = a0.sc.length → ∀ (z0t_3 : ByteArray), spec_l1Text_l0 a0 z0t_3 (i : Int) = spec_l1Text_l0L a0 z0t_3 i (a0.sc.drop i) := by
  intro n
  induction n with
  | zero =>
    intro i hi z0t_3
    obtain rfl : i = a0.sc.length := by omega
    rw [spec_l1Text_l0, if_neg (by omega), List.drop_length]; rfl
  | succ n ih =>
    intro i hi z0t_3
    have hil : i < a0.sc.length := by omega
    have hw := wrap_nat (i := i) (by omega)
    have ih' := ih (i + 1) (by omega)
    rw [spec_l1Text_l0, if_pos (show (i : Int) < (a0.sc.length : Int) by omega), List.drop_eq_getElem_cons hil, spec_l1Text_l0L]
    simp only [idx_nat _ i hil, psome, bsome, hw, ih']
theorem spec_l1Text_l0L0 (a0 : Fm) (z0t_3 : ByteArray) (hl : a0.sc.length < 4611686018427387904) : spec_l1Text_l0 a0 z0t_3 0 = spec_l1Text_l0L a0 z0t_3 0 a0.sc := spec_l1Text_l0L_eq a0 hl _ 0 (Nat.zero_add _) z0t_3
def spec_l1Text_l1L : Fm → ByteArray → Nat → List Fm → Option (ByteArray)
  | a0, z1t_6, z1t_7, [] => (
    pure z1t_6
  )
  | a0, z1t_6, z1t_7, it :: l_ => (
    ((if (z1t_7 : Int) > 0 then (
      (scat z1t_6 (ByteArray.mk #[32]) >>= fun x55 =>
      pure x55
      )
    ) else (
      pure z1t_6
    ) : Option (ByteArray)) >>= fun y13t_6 =>
      (pure it >>= fun x60 =>
      (spec_l1Text x60 >>= fun x62 =>
      (scat y13t_6 x62 >>= fun x63 =>
      spec_l1Text_l1L a0 x63 (z1t_7 + 1) l_
      )
      )
      )
    )
  )
theorem spec_l1Text_l1L_eq (a0 : Fm) (hl : a0.kids.length < 4611686018427387904) : ∀ (n i : Nat), i + n = a0.kids.length → ∀ (z1t_6 : ByteArray), spec_l1Text_l1 a0 z1t_6 (i : Int) = spec_l1Text_l1L a0 z1t_6 i (a0.kids.drop i) := by
  intro n
  induction n with
  | zero =>
    intro i hi z1t_6
    obtain rfl : i = a0.kids.length := by omega
    rw [spec_l1Text_l1, if_neg (by omega), List.drop_length]; rfl
  | succ n ih =>
    intro i hi z1t_6
    have hil : i < a0.kids.length := by omega
    have hw := wrap_nat (i := i) (by omega)
    have ih' := ih (i + 1) (by omega)
    rw [spec_l1Text_l1, if_pos (show (i : Int) < (a0.kids.length : Int) by omega), List.drop_eq_getElem_cons hil, spec_l1Text_l1L]
    simp only [idx_nat _ i hil, psome, bsome, hw, ih']
theorem spec_l1Text_l1L0 (a0 : Fm) (z1t_6 : ByteArray) (hl : a0.kids.length < 4611686018427387904) : spec_l1Text_l1 a0 z1t_6 0 = spec_l1Text_l1L a0 z1t_6 0 a0.kids := spec_l1Text_l1L_eq a0 hl _ 0 (Nat.zero_add _) z1t_6
def spec_StepsText_l0L : List Stp → ByteArray → Nat → List Stp → Option (ByteArray)
  | a0, z0t_3, z0t_4, [] => (
    pure z0t_3
  )
  | a0, z0t_3, z0t_4, it :: l_ => (
    (pure it >>= fun x14 =>
    (spec_StripForm x14.use >>= fun x17 =>
    (spec_FormatForm x17 >>= fun x18 =>
    (scat z0t_3 x18 >>= fun x19 =>
    (scat x19 (ByteArray.mk #[32, 45, 62, 32]) >>= fun x20 =>
    (pure it >>= fun x23 =>
    (spec_StripForm x23.res >>= fun x26 =>
    (spec_FormatForm x26 >>= fun x27 =>
    (scat x20 x27 >>= fun x28 =>
    (scat x28 (ByteArray.mk #[10]) >>= fun x29 =>
    spec_StepsText_l0L a0 x29 (z0t_4 + 1) l_
    )
    )
    )
    )
    )
    )
    )
    )
    )
    )
  )
theorem spec_StepsText_l0L_eq (a0 : List Stp) (hl : a0.length < 4611686018427387904) : ∀ (n i : Nat), i + n = a0.length → ∀ (z0t_3 : ByteArray), spec_StepsText_l0 a0 z0t_3 (i : Int) = spec_StepsText_l0L a0 z0t_3 i (a0.drop i) := by
  intro n
  induction n with
  | zero =>
    intro i hi z0t_3
    obtain rfl : i = a0.length := by omega
    rw [spec_StepsText_l0, if_neg (by omega), List.drop_length]; rfl
  | succ n ih =>
    intro i hi z0t_3
    have hil : i < a0.length := by omega
    have hw := wrap_nat (i := i) (by omega)
    have ih' := ih (i + 1) (by omega)
    rw [spec_StepsText_l0, if_pos (show (i : Int) < (a0.length : Int) by omega), List.drop_eq_getElem_cons hil, spec_StepsText_l0L]
    simp only [idx_nat _ i hil, psome, bsome, hw, ih']
theorem spec_StepsText_l0L0 (a0 : List Stp) (z0t_3 : ByteArray) (hl : a0.length < 4611686018427387904) : spec_StepsText_l0 a0 z0t_3 0 = spec_StepsText_l0L a0 z0t_3 0 a0 := spec_StepsText_l0L_eq a0 hl _ 0 (Nat.zero_add _) z0t_3
def impl_StripForm_l0L : Fm → List Fm → Nat → List Fm → Option (List Fm)
  | a0, z0o_0, z0t_16, [] => (
    pure z0o_0
  )
  | a0, z0o_0, z0t_16, it :: l_ => (
    (pure it >>= fun x18 =>
    (impl_StripForm x18 >>= fun x23 =>
    (lcat 80 z0o_0 [x23] >>= fun x25 =>
    impl_StripForm_l0L a0 x25 (z0t_16 + 1) l_
    )
    )
    )
  )
theorem impl_StripForm_l0L_eq (a0 : Fm) (hl : a0.kids.length < 4611686018427387904) : ∀ (n i : Nat), i + n = a0.kids.length → ∀ (z0o_0 : List Fm), impl_StripForm_l0 a0 z0o_0 (i : Int) = impl_StripForm_l0L a0 z0o_0 i (a0.kids.drop i) := by
  intro n
  induction n with
  | zero =>
    intro i hi z0o_0
    obtain rfl : i = a0.kids.length := by omega
    rw [impl_StripForm_l0, if_neg (by omega), List.drop_length]; rfl
  | succ n ih =>
    intro i hi z0o_0
    have hil : i < a0.kids.length := by omega
    have hw := wrap_nat (i := i) (by omega)
    have ih' := ih (i + 1) (by omega)
    rw [impl_StripForm_l0, if_pos (show (i : Int) < (a0.kids.length : Int) by omega), List.drop_eq_getElem_cons hil, impl_StripForm_l0L]
    simp only [idx_nat _ i hil, psome, bsome, hw, ih']
theorem impl_StripForm_l0L0 (a0 : Fm) (z0o_0 : List Fm) (hl : a0.kids.length < 4611686018427387904) : impl_StripForm_l0 a0 z0o_0 0 = impl_StripForm_l0L a0 z0o_0 0 a0.kids := impl_StripForm_l0L_eq a0 hl _ 0 (Nat.zero_add _) z0o_0
def impl_scopesOk_l0L : List Int → Nat → List Int → Option (Bool ⊕ Unit)
  | a0, z0t_7, [] => (
    pure (Sum.inr ())
  )
  | a0, z0t_7, it :: l_ => (
    (pure it >>= fun x10 =>
    (impl_within x10 1 99 >>= fun x13 =>
    ((if (!x13) = true then (
      pure true
    ) else (
      ((if (z0t_7 : Int) > 0 then (
        (idx a0 (IntKind.i64.wrap ((z0t_7 : Int) - 1)) >>= fun x22 =>
        pure (decide (x22 ≥ x10))
        )
      ) else (
        pure false
      ) : Option Bool) >>= fun x26 =>
      pure x26
      )
    ) : Option Bool) >>= fun x27 =>
    if x27 = true then (
      pure (Sum.inl false)
    ) else (
      impl_scopesOk_l0L a0 (z0t_7 + 1) l_
    )
    )
    )
    )
  )
theorem impl_scopesOk_l0L_eq (a0 : List Int) (hl : a0.length < 4611686018427387904) : ∀ (n i : Nat), i + n = a0.length →  impl_scopesOk_l0 a0 (i : Int) = impl_scopesOk_l0L a0 i (a0.drop i) := by
  intro n
  induction n with
  | zero =>
    intro i hi 
    obtain rfl : i = a0.length := by omega
    rw [impl_scopesOk_l0, if_neg (by omega), List.drop_length]; rfl
  | succ n ih =>
    intro i hi 
    have hil : i < a0.length := by omega
    have hw := wrap_nat (i := i) (by omega)
    have ih' := ih (i + 1) (by omega)
    rw [impl_scopesOk_l0, if_pos (show (i : Int) < (a0.length : Int) by omega), List.drop_eq_getElem_cons hil, impl_scopesOk_l0L]
    simp only [idx_nat _ i hil, psome, bsome, hw, ih']
theorem impl_scopesOk_l0L0 (a0 : List Int)  (hl : a0.length < 4611686018427387904) : impl_scopesOk_l0 a0 0 = impl_scopesOk_l0L a0 0 a0 := impl_scopesOk_l0L_eq a0 hl _ 0 (Nat.zero_add _) 
def impl_formOk_l0L : Fm → Int → Int → Nat → List Fm → Option ((Bool × Int) ⊕ Int)
  | a0, a1, z0x_0_0, z0t_86, [] => (
    pure (Sum.inr z0x_0_0)
  )
  | a0, a1, z0x_0_0, z0t_86, it :: l_ => (
    (pure it >>= fun x88 =>
    (impl_formOk x88 (IntKind.i64.wrap (a1 + 1)) z0x_0_0 >>= fun x94 =>
    if (!x94.1) = true then (
      pure (Sum.inl (false, x94.2))
    ) else (
      impl_formOk_l0L a0 a1 x94.2 (z0t_86 + 1) l_
    )
    )
    )
  )
theorem impl_formOk_l0L_eq (a0 : Fm) (a1 : Int) (hl : a0.kids.length < 4611686018427387904) : ∀ (n i : Nat), i + n = a0.kids.length → ∀ (z0x_0_0 : Int), impl_formOk_l0 a0 a1 (i : Int) z0x_0_0 = impl_formOk_l0L a0 a1 z0x_0_0 i (a0.kids.drop i) := by
  intro n
  induction n with
  | zero =>
    intro i hi z0x_0_0
    obtain rfl : i = a0.kids.length := by omega
    rw [impl_formOk_l0, if_neg (by omega), List.drop_length]; rfl
  | succ n ih =>
    intro i hi z0x_0_0
    have hil : i < a0.kids.length := by omega
    have hw := wrap_nat (i := i) (by omega)
    have ih' := ih (i + 1) (by omega)
    rw [impl_formOk_l0, if_pos (show (i : Int) < (a0.kids.length : Int) by omega), List.drop_eq_getElem_cons hil, impl_formOk_l0L]
    simp only [idx_nat _ i hil, psome, bsome, hw, ih']
theorem impl_formOk_l0L0 (a0 : Fm) (a1 : Int) (z0x_0_0 : Int) (hl : a0.kids.length < 4611686018427387904) : impl_formOk_l0 a0 a1 0 z0x_0_0 = impl_formOk_l0L a0 a1 z0x_0_0 0 a0.kids := impl_formOk_l0L_eq a0 a1 hl _ 0 (Nat.zero_add _) z0x_0_0
def impl_formText_l0L : Fm → List ByteArray → Nat → List Int → Option (List ByteArray)
  | a0, z0o_0, z0t_23, [] => (
    pure z0o_0
  )
  | a0, z0o_0, z0t_23, it :: l_ => (
    (pure it >>= fun x25 =>
    (strconv_Itoa x25 >>= fun x29 =>
    (lcat 16 z0o_0 [x29] >>= fun x31 =>
    impl_formText_l0L a0 x31 (z0t_23 + 1) l_
    )
    )
    )
  )
theorem impl_formText_l0L_eq (a0 : Fm) (hl : a0.sc.length < 4611686018427387904) : ∀ (n i : Nat), i + n = a0.sc.length → ∀ (z0o_0 : List ByteArray), impl_formText_l0 a0 z0o_0 (i : Int) = impl_formText_l0L a0 z0o_0 i (a0.sc.drop i) := by
  intro n
  induction n with
  | zero =>
    intro i hi z0o_0
    obtain rfl : i = a0.sc.length := by omega
    rw [impl_formText_l0, if_neg (by omega), List.drop_length]; rfl
  | succ n ih =>
    intro i hi z0o_0
    have hil : i < a0.sc.length := by omega
    have hw := wrap_nat (i := i) (by omega)
    have ih' := ih (i + 1) (by omega)
    rw [impl_formText_l0, if_pos (show (i : Int) < (a0.sc.length : Int) by omega), List.drop_eq_getElem_cons hil, impl_formText_l0L]
    simp only [idx_nat _ i hil, psome, bsome, hw, ih']
theorem impl_formText_l0L0 (a0 : Fm) (z0o_0 : List ByteArray) (hl : a0.sc.length < 4611686018427387904) : impl_formText_l0 a0 z0o_0 0 = impl_formText_l0L a0 z0o_0 0 a0.sc := impl_formText_l0L_eq a0 hl _ 0 (Nat.zero_add _) z0o_0
def impl_formText_l1L : Fm → List ByteArray → Nat → List Fm → Option (List ByteArray)
  | a0, z1o_0, z1t_49, [] => (
    pure z1o_0
  )
  | a0, z1o_0, z1t_49, it :: l_ => (
    (pure it >>= fun x51 =>
    (impl_formText x51 >>= fun x55 =>
    (lcat 16 z1o_0 [x55] >>= fun x57 =>
    impl_formText_l1L a0 x57 (z1t_49 + 1) l_
    )
    )
    )
  )
theorem impl_formText_l1L_eq (a0 : Fm) (hl : a0.kids.length < 4611686018427387904) : ∀ (n i : Nat), i + n = a0.kids.length → ∀ (z1o_0 : List ByteArray), impl_formText_l1 a0 z1o_0 (i : Int) = impl_formText_l1L a0 z1o_0 i (a0.kids.drop i) := by
  intro n
  induction n with
  | zero =>
    intro i hi z1o_0
    obtain rfl : i = a0.kids.length := by omega
    rw [impl_formText_l1, if_neg (by omega), List.drop_length]; rfl
  | succ n ih =>
    intro i hi z1o_0
    have hil : i < a0.kids.length := by omega
    have hw := wrap_nat (i := i) (by omega)
    have ih' := ih (i + 1) (by omega)
    rw [impl_formText_l1, if_pos (show (i : Int) < (a0.kids.length : Int) by omega), List.drop_eq_getElem_cons hil, impl_formText_l1L]
    simp only [idx_nat _ i hil, psome, bsome, hw, ih']
theorem impl_formText_l1L0 (a0 : Fm) (z1o_0 : List ByteArray) (hl : a0.kids.length < 4611686018427387904) : impl_formText_l1 a0 z1o_0 0 = impl_formText_l1L a0 z1o_0 0 a0.kids := impl_formText_l1L_eq a0 hl _ 0 (Nat.zero_add _) z1o_0
def impl_StepsText_l0L : List Stp → ByteArray → Nat → List Stp → Option (ByteArray)
  | a0, z0t_3, z0t_8, [] => (
    pure z0t_3
  )
  | a0, z0t_3, z0t_8, it :: l_ => (
    (pure it >>= fun x10 =>
    (impl_StripForm x10.use >>= fun x15 =>
    (impl_FormatForm x15 >>= fun x16 =>
    (scat x16 (ByteArray.mk #[32, 45, 62, 32]) >>= fun x17 =>
    (impl_StripForm x10.res >>= fun x20 =>
    (impl_FormatForm x20 >>= fun x21 =>
    (scat x17 x21 >>= fun x22 =>
    (scat x22 (ByteArray.mk #[10]) >>= fun x23 =>
    (scat z0t_3 x23 >>= fun x24 =>
    impl_StepsText_l0L a0 x24 (z0t_8 + 1) l_
    )
    )
    )
    )
    )
    )
    )
    )
    )
  )
theorem impl_StepsText_l0L_eq (a0 : List Stp) (hl : a0.length < 4611686018427387904) : ∀ (n i : Nat), i + n = a0.length → ∀ (z0t_3 : ByteArray), impl_StepsText_l0 a0 z0t_3 (i : Int) = impl_StepsText_l0L a0 z0t_3 i (a0.drop i) := by
  intro n
  induction n with
  | zero =>
    intro i hi z0t_3
    obtain rfl : i = a0.length := by omega
    rw [impl_StepsText_l0, if_neg (by omega), List.drop_length]; rfl
  | succ n ih =>
    intro i hi z0t_3
    have hil : i < a0.length := by omega
    have hw := wrap_nat (i := i) (by omega)
    have ih' := ih (i + 1) (by omega)
    rw [impl_StepsText_l0, if_pos (show (i : Int) < (a0.length : Int) by omega), List.drop_eq_getElem_cons hil, impl_StepsText_l0L]
    simp only [idx_nat _ i hil, psome, bsome, hw, ih']
theorem impl_StepsText_l0L0 (a0 : List Stp) (z0t_3 : ByteArray) (hl : a0.length < 4611686018427387904) : impl_StepsText_l0 a0 z0t_3 0 = impl_StepsText_l0L a0 z0t_3 0 a0 := impl_StepsText_l0L_eq a0 hl _ 0 (Nat.zero_add _) z0t_3
def laws_eqIntS_l0L : List Int → List Int → Nat → List Int → Option (Bool ⊕ Unit)
  | a0, a1, z0t_5, [] => (
    pure (Sum.inr ())
  )
  | a0, a1, z0t_5, it :: l_ => (
    (pure it >>= fun x19 =>
    (idx a1 (z0t_5 : Int) >>= fun x23 =>
    if x19 = x23 then (
      laws_eqIntS_l0L a0 a1 (z0t_5 + 1) l_
    ) else (
      pure (Sum.inl false)
    )
    )
    )
  )
theorem laws_eqIntS_l0L_eq (a0 : List Int) (a1 : List Int) (hl : a0.length < 4611686018427387904) : ∀ (n i : Nat), i + n = a0.length →  laws_eqIntS_l0 a0 a1 (i : Int) = laws_eqIntS_l0L a0 a1 i (a0.drop i) := by
  intro n
  induction n with
  | zero =>
    intro i hi 
    obtain rfl : i = a0.length := by omega
    rw [laws_eqIntS_l0, if_neg (by omega), List.drop_length]; rfl
  | succ n ih =>
    intro i hi 
    have hil : i < a0.length := by omega
    have hw := wrap_nat (i := i) (by omega)
    have ih' := ih (i + 1) (by omega)
    rw [laws_eqIntS_l0, if_pos (show (i : Int) < (a0.length : Int) by omega), List.drop_eq_getElem_cons hil, laws_eqIntS_l0L]
    simp only [idx_nat _ i hil, psome, bsome, hw, ih']
theorem laws_eqIntS_l0L0 (a0 : List Int) (a1 : List Int)  (hl : a0.length < 4611686018427387904) : laws_eqIntS_l0 a0 a1 0 = laws_eqIntS_l0L a0 a1 0 a0 := laws_eqIntS_l0L_eq a0 a1 hl _ 0 (Nat.zero_add _) 
def laws_eqFormS_l0L : List Fm → List Fm → Nat → List Fm → Option (Bool ⊕ Unit)
  | a0, a1, z0t_5, [] => (
    pure (Sum.inr ())
  )
  | a0, a1, z0t_5, it :: l_ => (
    (pure it >>= fun x19 =>
    (idx a1 (z0t_5 : Int) >>= fun x23 =>
    (laws_eqForm x19 x23 >>= fun x25 =>
    if (!x25) = true then (
      pure (Sum.inl false)
    ) else (
      laws_eqFormS_l0L a0 a1 (z0t_5 + 1) l_
    )
    )
    )
    )
  )
theorem laws_eqFormS_l0L_eq (a0 : List Fm) (a1 : List Fm) (hl : a0.length < 4611686018427387904) : ∀ (n i : Nat), i + n = a0.length →  laws_eqFormS_l0 a0 a1 (i : Int) = laws_eqFormS_l0L a0 a1 i (a0.drop i) := by
  intro n
  induction n with
  | zero =>
    intro i hi 
    obtain rfl : i = a0.length := by omega
    rw [laws_eqFormS_l0, if_neg (by omega), List.drop_length]; rfl
  | succ n ih =>
    intro i hi 
    have hil : i < a0.length := by omega
    have hw := wrap_nat (i := i) (by omega)
    have ih' := ih (i + 1) (by omega)
    rw [laws_eqFormS_l0, if_pos (show (i : Int) < (a0.length : Int) by omega), List.drop_eq_getElem_cons hil, laws_eqFormS_l0L]
    simp only [idx_nat _ i hil, psome, bsome, hw, ih']
theorem laws_eqFormS_l0L0 (a0 : List Fm) (a1 : List Fm)  (hl : a0.length < 4611686018427387904) : laws_eqFormS_l0 a0 a1 0 = laws_eqFormS_l0L a0 a1 0 a0 := laws_eqFormS_l0L_eq a0 a1 hl _ 0 (Nat.zero_add _) 
def laws_eqStepS_l0L : List Stp → List Stp → Nat → List Stp → Option (Bool ⊕ Unit)
  | a0, a1, z0t_5, [] => (
    pure (Sum.inr ())
  )
  | a0, a1, z0t_5, it :: l_ => (
    (pure it >>= fun x19 =>
    (idx a1 (z0t_5 : Int) >>= fun x23 =>
    (laws_eqStep x19 x23 >>= fun x25 =>
    if (!x25) = true then (
      pure (Sum.inl false)
    ) else (
      laws_eqStepS_l0L a0 a1 (z0t_5 + 1) l_
    )
    )
    )
    )
  )
theorem laws_eqStepS_l0L_eq (a0 : List Stp) (a1 : List Stp) (hl : a0.length < 4611686018427387904) : ∀ (n i : Nat), i + n = a0.length →  laws_eqStepS_l0 a0 a1 (i : Int) = laws_eqStepS_l0L a0 a1 i (a0.drop i) := by
  intro n
  induction n with
  | zero =>
    intro i hi 
    obtain rfl : i = a0.length := by omega
    rw [laws_eqStepS_l0, if_neg (by omega), List.drop_length]; rfl
  | succ n ih =>
    intro i hi 
    have hil : i < a0.length := by omega
    have hw := wrap_nat (i := i) (by omega)
    have ih' := ih (i + 1) (by omega)
    rw [laws_eqStepS_l0, if_pos (show (i : Int) < (a0.length : Int) by omega), List.drop_eq_getElem_cons hil, laws_eqStepS_l0L]
    simp only [idx_nat _ i hil, psome, bsome, hw, ih']
theorem laws_eqStepS_l0L0 (a0 : List Stp) (a1 : List Stp)  (hl : a0.length < 4611686018427387904) : laws_eqStepS_l0 a0 a1 0 = laws_eqStepS_l0L a0 a1 0 a0 := laws_eqStepS_l0L_eq a0 a1 hl _ 0 (Nat.zero_add _) 
end Go.Proofs.SA
