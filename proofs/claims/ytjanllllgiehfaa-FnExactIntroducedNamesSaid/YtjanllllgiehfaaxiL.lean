/- The printed loops over lists, as functions on the lists: printed by a program of mine. -/
import Derived.Test.YtjanllllgiehfaaxiD
import Derived.Test.YtjanllllgiehfaaPa
set_option linter.unusedVariables false
set_option linter.unusedSimpArgs false
set_option maxRecDepth 100000
open Go Go.Proofs Go.Proofs.Shadow
namespace Go.Proofs.SA
def laws_toIntS_l0L : List Int → List Int → Nat → List Int → Option (List Int)
  | a0, z0o_0, z0t_4, [] => (
    pure z0o_0
  )
  | a0, z0o_0, z0t_4, it :: l_ => (
    (pure it >>= fun x18 =>
    (idx z0o_0 (z0t_4 : Int) >>= fun x20 =>
    laws_toIntS_l0L a0 (z0o_0.set (z0t_4 : Int).toNat x18) (z0t_4 + 1) l_
    )
    )
  )
theorem laws_toIntS_l0L0 (a0 : List Int) (z0o_0 : List Int) (hl : a0.length < 4611686018427387904) : laws_toIntS_l0 a0 z0o_0 0 = laws_toIntS_l0L a0 z0o_0 0 a0 := lsl1 hl (fun z0o_0 z0t_4 => laws_toIntS_l0 a0 z0o_0 z0t_4) (fun z0o_0 => laws_toIntS_l0L a0 z0o_0) (fun _ _ h => by rw [laws_toIntS_l0, if_neg h]; rfl) (fun _ i h p w r => by rw [laws_toIntS_l0, if_pos p, laws_toIntS_l0L]; simp only [idx_nat _ i h, psome, bsome, w, r]; all_goals rfl) z0o_0
def laws_toFormS_l0L : List Fm → List Fm → Nat → List Fm → Option (List Fm)
  | a0, z0o_0, z0t_4, [] => (
    pure z0o_0
  )
  | a0, z0o_0, z0t_4, it :: l_ => (
    (pure it >>= fun x18 =>
    (laws_toForm x18 >>= fun x20 =>
    (idx z0o_0 (z0t_4 : Int) >>= fun x21 =>
    laws_toFormS_l0L a0 (z0o_0.set (z0t_4 : Int).toNat x20) (z0t_4 + 1) l_
    )
    )
    )
  )
theorem laws_toFormS_l0L0 (a0 : List Fm) (z0o_0 : List Fm) (hl : a0.length < 4611686018427387904) : laws_toFormS_l0 a0 z0o_0 0 = laws_toFormS_l0L a0 z0o_0 0 a0 := lsl1 hl (fun z0o_0 z0t_4 => laws_toFormS_l0 a0 z0o_0 z0t_4) (fun z0o_0 => laws_toFormS_l0L a0 z0o_0) (fun _ _ h => by rw [laws_toFormS_l0, if_neg h]; rfl) (fun _ i h p w r => by rw [laws_toFormS_l0, if_pos p, laws_toFormS_l0L]; simp only [idx_nat _ i h, psome, bsome, w, r]; all_goals rfl) z0o_0
def slices_Index_int_int_l0L : List Int → Int → Nat → List Int → Option (Int ⊕ Unit)
  | a0, a1, z0t_8, [] => (
    pure (Sum.inr ())
  )
  | a0, a1, z0t_8, it :: l_ => (
    (pure it >>= fun x14 =>
    if a1 = x14 then (
      pure (Sum.inl (z0t_8 : Int))
    ) else (
      slices_Index_int_int_l0L a0 a1 (z0t_8 + 1) l_
    )
    )
  )
theorem slices_Index_int_int_l0L0 (a0 : List Int) (a1 : Int)  (hl : a0.length < 4611686018427387904) : slices_Index_int_int_l0 a0 a1 0 = slices_Index_int_int_l0L a0 a1 0 a0 := lsl0 hl (fun z0t_8 => slices_Index_int_int_l0 a0 a1 z0t_8) (slices_Index_int_int_l0L a0 a1) (fun _ h => by rw [slices_Index_int_int_l0, if_neg h]; rfl) (fun i h p w r => by rw [slices_Index_int_int_l0, if_pos p, slices_Index_int_int_l0L]; simp only [idx_nat _ i h, psome, bsome, w, r]; all_goals rfl) 
def slices_Equal_int_int_l0L : List Int → List Int → Nat → List Int → Option (Bool ⊕ Unit)
  | a0, a1, z0t_13, [] => (
    pure (Sum.inr ())
  )
  | a0, a1, z0t_13, it :: l_ => (
    (pure it >>= fun x18 =>
    (idx a1 (z0t_13 : Int) >>= fun x22 =>
    if x18 = x22 then (
      slices_Equal_int_int_l0L a0 a1 (z0t_13 + 1) l_
    ) else (
      pure (Sum.inl false)
    )
    )
    )
  )
theorem slices_Equal_int_int_l0L0 (a0 : List Int) (a1 : List Int)  (hl : a0.length < 4611686018427387904) : slices_Equal_int_int_l0 a0 a1 0 = slices_Equal_int_int_l0L a0 a1 0 a0 := lsl0 hl (fun z0t_13 => slices_Equal_int_int_l0 a0 a1 z0t_13) (slices_Equal_int_int_l0L a0 a1) (fun _ h => by rw [slices_Equal_int_int_l0, if_neg h]; rfl) (fun i h p w r => by rw [slices_Equal_int_int_l0, if_pos p, slices_Equal_int_int_l0L]; simp only [idx_nat _ i h, psome, bsome, w, r]; all_goals rfl) 
def slices_EqualFunc_Form_Form_Form_Form__impl_FormSame_l0L : List Fm → List Fm → Nat → List Fm → Option (Bool ⊕ Unit)
  | a0, a1, z0t_17, [] => (
    pure (Sum.inr ())
  )
  | a0, a1, z0t_17, it :: l_ => (
    (pure it >>= fun x20 =>
    (idx a1 (z0t_17 : Int) >>= fun x24 =>
    (impl_FormSame x20 x24 >>= fun x29 =>
    if (!x29) = true then (
      pure (Sum.inl false)
    ) else (
      slices_EqualFunc_Form_Form_Form_Form__impl_FormSame_l0L a0 a1 (z0t_17 + 1) l_
    )
    )
    )
    )
  )
theorem slices_EqualFunc_Form_Form_Form_Form__impl_FormSame_l0L0 (a0 : List Fm) (a1 : List Fm)  (hl : a0.length < 4611686018427387904) : slices_EqualFunc_Form_Form_Form_Form__impl_FormSame_l0 a0 a1 0 = slices_EqualFunc_Form_Form_Form_Form__impl_FormSame_l0L a0 a1 0 a0 := lsl0 hl (fun z0t_17 => slices_EqualFunc_Form_Form_Form_Form__impl_FormSame_l0 a0 a1 z0t_17) (slices_EqualFunc_Form_Form_Form_Form__impl_FormSame_l0L a0 a1) (fun _ h => by rw [slices_EqualFunc_Form_Form_Form_Form__impl_FormSame_l0, if_neg h]; rfl) (fun i h p w r => by rw [slices_EqualFunc_Form_Form_Form_Form__impl_FormSame_l0, if_pos p, slices_EqualFunc_Form_Form_Form_Form__impl_FormSame_l0L]; simp only [idx_nat _ i h, psome, bsome, w, r]; all_goals rfl) 
def slices_IndexFunc_Form_Form__impl_isIn_c1_l0L : List Fm → Fm → Nat → List Fm → Option (Int ⊕ Unit)
  | a0, c0, z0t_8, [] => (
    pure (Sum.inr ())
  )
  | a0, c0, z0t_8, it :: l_ => (
    (pure it >>= fun x14 =>
    (impl_isIn_c1 x14 c0 >>= fun x16 =>
    if x16 = true then (
      pure (Sum.inl (z0t_8 : Int))
    ) else (
      slices_IndexFunc_Form_Form__impl_isIn_c1_l0L a0 c0 (z0t_8 + 1) l_
    )
    )
    )
  )
theorem slices_IndexFunc_Form_Form__impl_isIn_c1_l0L0 (a0 : List Fm) (c0 : Fm)  (hl : a0.length < 4611686018427387904) : slices_IndexFunc_Form_Form__impl_isIn_c1_l0 a0 c0 0 = slices_IndexFunc_Form_Form__impl_isIn_c1_l0L a0 c0 0 a0 := lsl0 hl (fun z0t_8 => slices_IndexFunc_Form_Form__impl_isIn_c1_l0 a0 c0 z0t_8) (slices_IndexFunc_Form_Form__impl_isIn_c1_l0L a0 c0) (fun _ h => by rw [slices_IndexFunc_Form_Form__impl_isIn_c1_l0, if_neg h]; rfl) (fun i h p w r => by rw [slices_IndexFunc_Form_Form__impl_isIn_c1_l0, if_pos p, slices_IndexFunc_Form_Form__impl_isIn_c1_l0L]; simp only [idx_nat _ i h, psome, bsome, w, r]; all_goals rfl) 
def impl_copyForm_l0L : Fm → List Int → List Fm → Nat → List Fm → Option (List Fm)
  | a0, x14, z0o_0, z0t_19, [] => (
    pure z0o_0
  )
  | a0, x14, z0o_0, z0t_19, it :: l_ => (
    (pure it >>= fun x21 =>
    (impl_copyForm x21 >>= fun x26 =>
    (lcat 80 z0o_0 [x26] >>= fun x28 =>
    impl_copyForm_l0L a0 x14 x28 (z0t_19 + 1) l_
    )
    )
    )
  )
theorem impl_copyForm_l0L0 (a0 : Fm) (x14 : List Int) (z0o_0 : List Fm) (hl : a0.kids.length < 4611686018427387904) : impl_copyForm_l0 a0 x14 z0o_0 0 = impl_copyForm_l0L a0 x14 z0o_0 0 a0.kids := lsl1 hl (fun z0o_0 z0t_19 => impl_copyForm_l0 a0 x14 z0o_0 z0t_19) (fun z0o_0 => impl_copyForm_l0L a0 x14 z0o_0) (fun _ _ h => by rw [impl_copyForm_l0, if_neg h]; rfl) (fun _ i h p w r => by rw [impl_copyForm_l0, if_pos p, impl_copyForm_l0L]; simp only [idx_nat _ i h, psome, bsome, w, r]; all_goals rfl) z0o_0
def impl_eachForm__impl_IntroducedNames_c1_l0L : Fm → Stp → List Fm → Nat → List Fm → Option (List Fm)
  | a0, c0, z0o_0, z0t_12, [] => (
    pure z0o_0
  )
  | a0, c0, z0o_0, z0t_12, it :: l_ => (
    (pure it >>= fun x14 =>
    (impl_eachForm__impl_IntroducedNames_c1 x14 c0 z0o_0 >>= fun x18 =>
    impl_eachForm__impl_IntroducedNames_c1_l0L a0 c0 x18 (z0t_12 + 1) l_
    )
    )
  )
theorem impl_eachForm__impl_IntroducedNames_c1_l0L0 (a0 : Fm) (c0 : Stp) (z0o_0 : List Fm) (hl : a0.kids.length < 4611686018427387904) : impl_eachForm__impl_IntroducedNames_c1_l0 a0 c0 z0o_0 0 = impl_eachForm__impl_IntroducedNames_c1_l0L a0 c0 z0o_0 0 a0.kids := lsl1 hl (fun z0o_0 z0t_12 => impl_eachForm__impl_IntroducedNames_c1_l0 a0 c0 z0o_0 z0t_12) (fun z0o_0 => impl_eachForm__impl_IntroducedNames_c1_l0L a0 c0 z0o_0) (fun _ _ h => by rw [impl_eachForm__impl_IntroducedNames_c1_l0, if_neg h]; rfl) (fun _ i h p w r => by rw [impl_eachForm__impl_IntroducedNames_c1_l0, if_pos p, impl_eachForm__impl_IntroducedNames_c1_l0L]; simp only [idx_nat _ i h, psome, bsome, w, r]; all_goals rfl) z0o_0
def spec_l2Has_l0L : List Int → Int → Nat → List Int → Option (Bool ⊕ Unit)
  | a0, a1, z0t_5, [] => (
    pure (Sum.inr ())
  )
  | a0, a1, z0t_5, it :: l_ => (
    (pure it >>= fun x14 =>
    if x14 = a1 then (
      pure (Sum.inl true)
    ) else (
      spec_l2Has_l0L a0 a1 (z0t_5 + 1) l_
    )
    )
  )
theorem spec_l2Has_l0L0 (a0 : List Int) (a1 : Int)  (hl : a0.length < 4611686018427387904) : spec_l2Has_l0 a0 a1 0 = spec_l2Has_l0L a0 a1 0 a0 := lsl0 hl (fun z0t_5 => spec_l2Has_l0 a0 a1 z0t_5) (spec_l2Has_l0L a0 a1) (fun _ h => by rw [spec_l2Has_l0, if_neg h]; rfl) (fun i h p w r => by rw [spec_l2Has_l0, if_pos p, spec_l2Has_l0L]; simp only [idx_nat _ i h, psome, bsome, w, r]; all_goals rfl) 
def spec_l1Ints_l0L : List Int → List Int → Nat → List Int → Option (Bool ⊕ Unit)
  | a0, a1, z0t_5, [] => (
    pure (Sum.inr ())
  )
  | a0, a1, z0t_5, it :: l_ => (
    (pure it >>= fun x19 =>
    (idx a1 (z0t_5 : Int) >>= fun x23 =>
    if x19 = x23 then (
      spec_l1Ints_l0L a0 a1 (z0t_5 + 1) l_
    ) else (
      pure (Sum.inl false)
    )
    )
    )
  )
theorem spec_l1Ints_l0L0 (a0 : List Int) (a1 : List Int)  (hl : a0.length < 4611686018427387904) : spec_l1Ints_l0 a0 a1 0 = spec_l1Ints_l0L a0 a1 0 a0 := lsl0 hl (fun z0t_5 => spec_l1Ints_l0 a0 a1 z0t_5) (spec_l1Ints_l0L a0 a1) (fun _ h => by rw [spec_l1Ints_l0, if_neg h]; rfl) (fun i h p w r => by rw [spec_l1Ints_l0, if_pos p, spec_l1Ints_l0L]; simp only [idx_nat _ i h, psome, bsome, w, r]; all_goals rfl) 
def spec_FormSame_l0L : Fm → Fm → Nat → List Fm → Option (Bool ⊕ Unit)
  | a0, a1, z0t_5, [] => (
    pure (Sum.inr ())
  )
  | a0, a1, z0t_5, it :: l_ => (
    (pure it >>= fun x52 =>
    (idx a1.kids (z0t_5 : Int) >>= fun x57 =>
    (spec_FormSame x52 x57 >>= fun x59 =>
    if (!x59) = true then (
      pure (Sum.inl false)
    ) else (
      spec_FormSame_l0L a0 a1 (z0t_5 + 1) l_
    )
    )
    )
    )
  )
theorem spec_FormSame_l0L0 (a0 : Fm) (a1 : Fm)  (hl : a0.kids.length < 4611686018427387904) : spec_FormSame_l0 a0 a1 0 = spec_FormSame_l0L a0 a1 0 a0.kids := lsl0 hl (fun z0t_5 => spec_FormSame_l0 a0 a1 z0t_5) (spec_FormSame_l0L a0 a1) (fun _ h => by rw [spec_FormSame_l0, if_neg h]; rfl) (fun i h p w r => by rw [spec_FormSame_l0, if_pos p, spec_FormSame_l0L]; simp only [idx_nat _ i h, psome, bsome, w, r]; all_goals rfl) 
def spec_l4In_l0L : List Fm → Fm → Nat → List Fm → Option (Bool ⊕ Unit)
  | a0, a1, z0t_5, [] => (
    pure (Sum.inr ())
  )
  | a0, a1, z0t_5, it :: l_ => (
    (pure it >>= fun x14 =>
    (spec_FormSame x14 a1 >>= fun x17 =>
    if x17 = true then (
      pure (Sum.inl true)
    ) else (
      spec_l4In_l0L a0 a1 (z0t_5 + 1) l_
    )
    )
    )
  )
theorem spec_l4In_l0L0 (a0 : List Fm) (a1 : Fm)  (hl : a0.length < 4611686018427387904) : spec_l4In_l0 a0 a1 0 = spec_l4In_l0L a0 a1 0 a0 := lsl0 hl (fun z0t_5 => spec_l4In_l0 a0 a1 z0t_5) (spec_l4In_l0L a0 a1) (fun _ h => by rw [spec_l4In_l0, if_neg h]; rfl) (fun i h p w r => by rw [spec_l4In_l0, if_pos p, spec_l4In_l0L]; simp only [idx_nat _ i h, psome, bsome, w, r]; all_goals rfl) 
def spec_l10Names_o0_l0L : Fm → Int → List Fm → Nat → List Fm → Option (List Fm)
  | a1, a2, z0o_0, z0t_7, [] => (
    pure z0o_0
  )
  | a1, a2, z0o_0, z0t_7, it :: l_ => (
    (pure it >>= fun x39 =>
    (spec_l10Names_o0 z0o_0 x39 a2 >>= fun x42 =>
    spec_l10Names_o0_l0L a1 a2 x42 (z0t_7 + 1) l_
    )
    )
  )
theorem spec_l10Names_o0_l0L0 (a1 : Fm) (a2 : Int) (z0o_0 : List Fm) (hl : a1.kids.length < 4611686018427387904) : spec_l10Names_o0_l0 a1 a2 z0o_0 0 = spec_l10Names_o0_l0L a1 a2 z0o_0 0 a1.kids := lsl1 hl (fun z0o_0 z0t_7 => spec_l10Names_o0_l0 a1 a2 z0o_0 z0t_7) (fun z0o_0 => spec_l10Names_o0_l0L a1 a2 z0o_0) (fun _ _ h => by rw [spec_l10Names_o0_l0, if_neg h]; rfl) (fun _ i h p w r => by rw [spec_l10Names_o0_l0, if_pos p, spec_l10Names_o0_l0L]; simp only [idx_nat _ i h, psome, bsome, w, r]; all_goals rfl) z0o_0
def spec_l10Names_l0L : Fm → Int → List Fm → Nat → List Fm → Option (List Fm)
  | a1, a2, z0o_0, z0t_7, [] => (
    pure z0o_0
  )
  | a1, a2, z0o_0, z0t_7, it :: l_ => (
    (pure it >>= fun x39 =>
    (spec_l10Names_o0 z0o_0 x39 a2 >>= fun x42 =>
    spec_l10Names_l0L a1 a2 x42 (z0t_7 + 1) l_
    )
    )
  )
theorem spec_l10Names_l0L0 (a1 : Fm) (a2 : Int) (z0o_0 : List Fm) (hl : a1.kids.length < 4611686018427387904) : spec_l10Names_l0 a1 a2 z0o_0 0 = spec_l10Names_l0L a1 a2 z0o_0 0 a1.kids := lsl1 hl (fun z0o_0 z0t_7 => spec_l10Names_l0 a1 a2 z0o_0 z0t_7) (fun z0o_0 => spec_l10Names_l0L a1 a2 z0o_0) (fun _ _ h => by rw [spec_l10Names_l0, if_neg h]; rfl) (fun _ i h p w r => by rw [spec_l10Names_l0, if_pos p, spec_l10Names_l0L]; simp only [idx_nat _ i h, psome, bsome, w, r]; all_goals rfl) z0o_0
def laws_szFormS_l0L : List Fm → Int → Nat → List Fm → Option (Int ⊕ Int)
  | a0, z0t_1, z0t_5, [] => (
    pure (Sum.inr z0t_1)
  )
  | a0, z0t_1, z0t_5, it :: l_ => (
    (pure it >>= fun x20 =>
    (laws_szForm x20 z0t_1 >>= fun x23 =>
    if x23 < 0 then (
      pure (Sum.inl (-1))
    ) else (
      laws_szFormS_l0L a0 x23 (z0t_5 + 1) l_
    )
    )
    )
  )
theorem laws_szFormS_l0L0 (a0 : List Fm) (z0t_1 : Int) (hl : a0.length < 4611686018427387904) : laws_szFormS_l0 a0 z0t_1 0 = laws_szFormS_l0L a0 z0t_1 0 a0 := lsl1 hl (fun z0t_1 z0t_5 => laws_szFormS_l0 a0 z0t_1 z0t_5) (fun z0t_1 => laws_szFormS_l0L a0 z0t_1) (fun _ _ h => by rw [laws_szFormS_l0, if_neg h]; rfl) (fun _ i h p w r => by rw [laws_szFormS_l0, if_pos p, laws_szFormS_l0L]; simp only [idx_nat _ i h, psome, bsome, w, r]; all_goals rfl) z0t_1
def laws_eqIntS_l0L : List Int → List Int → Nat → List Int → Option (Bool ⊕ Unit)
  | a0, a1, z0t_5, [] => (
    pure (Sum.inr ())
  )
  | a0, a1, z0t_5, it :: l_ => (
    (pure it >>= fun x19 =>
    (idx a1 (z0t_5 : Int) >>= fun x23 =>
    if x19 = x23 then (
      laws_eqIntS_l0L a0 a1 (z0t_5 + 1) l_
    ) else (
      pure (Sum.inl false)
    )
    )
    )
  )
theorem laws_eqIntS_l0L0 (a0 : List Int) (a1 : List Int)  (hl : a0.length < 4611686018427387904) : laws_eqIntS_l0 a0 a1 0 = laws_eqIntS_l0L a0 a1 0 a0 := lsl0 hl (fun z0t_5 => laws_eqIntS_l0 a0 a1 z0t_5) (laws_eqIntS_l0L a0 a1) (fun _ h => by rw [laws_eqIntS_l0, if_neg h]; rfl) (fun i h p w r => by rw [laws_eqIntS_l0, if_pos p, laws_eqIntS_l0L]; simp only [idx_nat _ i h, psome, bsome, w, r]; all_goals rfl) 
def laws_eqFormS_l0L : List Fm → List Fm → Nat → List Fm → Option (Bool ⊕ Unit)
  | a0, a1, z0t_5, [] => (
    pure (Sum.inr ())
  )
  | a0, a1, z0t_5, it :: l_ => (
    (pure it >>= fun x19 =>
    (idx a1 (z0t_5 : Int) >>= fun x23 =>
    (laws_eqForm x19 x23 >>= fun x25 =>
    if (!x25) = true then (
      pure (Sum.inl false)
    ) else (
      laws_eqFormS_l0L a0 a1 (z0t_5 + 1) l_
    )
    )
    )
    )
  )
theorem laws_eqFormS_l0L0 (a0 : List Fm) (a1 : List Fm)  (hl : a0.length < 4611686018427387904) : laws_eqFormS_l0 a0 a1 0 = laws_eqFormS_l0L a0 a1 0 a0 := lsl0 hl (fun z0t_5 => laws_eqFormS_l0 a0 a1 z0t_5) (laws_eqFormS_l0L a0 a1) (fun _ h => by rw [laws_eqFormS_l0, if_neg h]; rfl) (fun i h p w r => by rw [laws_eqFormS_l0, if_pos p, laws_eqFormS_l0L]; simp only [idx_nat _ i h, psome, bsome, w, r]; all_goals rfl) 
end Go.Proofs.SA

