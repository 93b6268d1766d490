/- Printed by a program of mine: the plain functions that the code computes (D), and the walks that show it (W). -/
import Derived.Test.YtjanllllgiehfaaGt
import Derived.Lib.Bytealg
set_option maxRecDepth 100000
set_option maxHeartbeats 2000000
set_option linter.unusedSimpArgs false
set_option linter.unusedVariables false
open Go Go.Proofs Go.Proofs.Shadow
namespace Go.Proofs.SA
def laws_toIntS_l0 (a0 : List Int) (z0o_0 : List Int) (z0t_4 : Int) : Option (List Int) :=
  if z0t_4 < (a0.length : Int) then (
    (idx a0 z0t_4 >>= fun x18 =>
    (idx z0o_0 z0t_4 >>= fun x20 =>
    laws_toIntS_l0 a0 (z0o_0.set z0t_4.toNat x18) (IntKind.i64.wrap (z0t_4 + 1))
    )
    )
  ) else (
    pure z0o_0
  )
  partial_fixpoint
def laws_toIntS (a0 : List Int) : Option (List Int) :=
  (lmake 8 0 (a0.length : Int) >>= fun x7 =>
  (laws_toIntS_l0 a0 x7 0 >>= fun e5o_0 => 
    pure e5o_0
  )
  )
mutual
def laws_toForm (a0 : Fm) : Option (Fm) :=
  (laws_toIntS a0.sc >>= fun x15 =>
  (laws_toFormS a0.kids >>= fun x19 =>
  pure (Fm.mk a0.kind a0.name a0.num x15 x19)
  )
  )
  partial_fixpoint
def laws_toFormS (a0 : List Fm) : Option (List Fm) :=
  (lmake 80 (Fm.mk 0 (ByteArray.mk #[]) 0 [] []) (a0.length : Int) >>= fun x7 =>
  (laws_toFormS_l0 a0 x7 0 >>= fun e5o_0 => 
    pure e5o_0
  )
  )
  partial_fixpoint
def laws_toFormS_l0 (a0 : List Fm) (z0o_0 : List Fm) (z0t_4 : Int) : Option (List Fm) :=
  if z0t_4 < (a0.length : Int) then (
    (idx a0 z0t_4 >>= fun x18 =>
    (laws_toForm x18 >>= fun x20 =>
    (idx z0o_0 z0t_4 >>= fun x21 =>
    laws_toFormS_l0 a0 (z0o_0.set z0t_4.toNat x20) (IntKind.i64.wrap (z0t_4 + 1))
    )
    )
    )
  ) else (
    pure z0o_0
  )
  partial_fixpoint
end
def laws_toStep (a0 : Stp) : Option (Stp) :=
  (laws_toForm a0.use >>= fun x15 =>
  (laws_toForm a0.res >>= fun x19 =>
  pure (Stp.mk a0.id a0.rule a0.scope x15 x19)
  )
  )
def strings_IndexByte (a0 : ByteArray) (a1 : Int) : Option Int := some (Lib.indexByte a0.data.toList a1.toNat.toUInt8)
def impl_within (a0 : Int) (a1 : Int) (a2 : Int) : Option (Bool) :=
  ((pure ((decide (a0 ≥ a1)) && (decide (a0 ≤ a2))) : Option Bool) >>= fun x14 =>
  pure x14
  )
def impl_NameValid_l0 (a0 : ByteArray) (z0t_3 : Int) : Option (Bool ⊕ Unit) :=
  if z0t_3 < (a0.size : Int) then (
    (sidx a0 z0t_3 >>= fun x19 =>
    ((pure ((decide (x19 ≥ 97)) && (decide (x19 ≤ 122))) : Option Bool) >>= fun x26 =>
    ((if x26 = true then (
      pure true
    ) else (
      (strings_IndexByte (ByteArray.mk #[42, 63, 61, 43, 60]) x19 >>= fun x29 =>
      pure (decide (x29 ≥ 0))
      )
    ) : Option Bool) >>= fun x31 =>
    if x31 = true then (
      impl_NameValid_l0 a0 (IntKind.i64.wrap (z0t_3 + 1))
    ) else (
      ((if z0t_3 > 0 then (
        ((pure ((decide (x19 ≥ 48)) && (decide (x19 ≤ 57))) : Option Bool) >>= fun x41 =>
        ((pure (x41 || (decide (x19 = 45))) : Option Bool) >>= fun x45 =>
        pure x45
        )
        )
      ) else (
        pure false
      ) : Option Bool) >>= fun x46 =>
      if x46 = true then (
        impl_NameValid_l0 a0 (IntKind.i64.wrap (z0t_3 + 1))
      ) else (
        pure (Sum.inl false)
      )
      )
    )
    )
    )
    )
  ) else (
    pure (Sum.inr ())
  )
  partial_fixpoint
def impl_NameValid (a0 : ByteArray) : Option (Bool) :=
  ((pure ((decide (a0 = (ByteArray.mk #[46, 46, 46]))) || (decide (a0 = (ByteArray.mk #[95])))) : Option Bool) >>= fun x10 =>
  if x10 = true then (
    pure true
  ) else (
    (impl_NameValid_l0 a0 0 >>= fun o13 => match o13 with
      | .inl r => pure r
      | .inr _ => (
        (impl_within (a0.size : Int) 1 12 >>= fun x49 =>
        pure x49
        )
      ))
  )
  )
def impl_scopesOk_l0 (a0 : List Int) (z0t_7 : Int) : Option (Bool ⊕ Unit) :=
  if z0t_7 < (a0.length : Int) then (
    (idx a0 z0t_7 >>= fun x10 =>
    (impl_within x10 1 99 >>= fun x13 =>
    ((if (!x13) = true then (
      pure true
    ) else (
      ((if z0t_7 > 0 then (
        (idx a0 (IntKind.i64.wrap (z0t_7 - 1)) >>= fun x22 =>
        pure (decide (x22 ≥ x10))
        )
      ) else (
        pure false
      ) : Option Bool) >>= fun x26 =>
      pure x26
      )
    ) : Option Bool) >>= fun x27 =>
    if x27 = true then (
      pure (Sum.inl false)
    ) else (
      impl_scopesOk_l0 a0 (IntKind.i64.wrap (z0t_7 + 1))
    )
    )
    )
    )
  ) else (
    pure (Sum.inr ())
  )
  partial_fixpoint
def impl_scopesOk (a0 : List Int) : Option (Bool) :=
  (impl_scopesOk_l0 a0 0 >>= fun o5 => match o5 with
    | .inl r => pure r
    | .inr _ => (
      pure (decide ((a0.length : Int) ≤ 24))
    ))
mutual
def impl_formOk (a0 : Fm) (a1 : Int) (c0 : Int) : Option (Bool × Int) :=
  ((pure ((decide ((IntKind.i64.wrap (c0 - 1)) < 0)) || (decide (a1 > 40))) : Option Bool) >>= fun x21 =>
  if x21 = true then (
    pure (false, IntKind.i64.wrap (c0 - 1))
  ) else (
    if a0.kind = 1 then (
      (impl_NameValid a0.name >>= fun x28 =>
      ((pure (x28 && (decide (a0.num = 0))) : Option Bool) >>= fun x33 =>
      ((if x33 = true then (
        (impl_scopesOk a0.sc >>= fun x37 =>
        pure x37
        )
      ) else (
        pure false
      ) : Option Bool) >>= fun x38 =>
      ((pure (x38 && (decide ((a0.kids.length : Int) = 0))) : Option Bool) >>= fun x44 =>
      pure (x44, IntKind.i64.wrap (c0 - 1))
      )
      )
      )
      )
    ) else (
      if a0.kind = 2 then (
        ((if a0.name = (ByteArray.mk #[]) then (
          (impl_within a0.num 0 999 >>= fun x53 =>
          pure x53
          )
        ) else (
          pure false
        ) : Option Bool) >>= fun x54 =>
        ((pure (x54 && (decide ((a0.sc.length : Int) = 0))) : Option Bool) >>= fun x60 =>
        ((pure (x60 && (decide ((a0.kids.length : Int) = 0))) : Option Bool) >>= fun x66 =>
        pure (x66, IntKind.i64.wrap (c0 - 1))
        )
        )
        )
      ) else (
        if a0.kind = 3 then (
          ((pure ((!decide (a0.name = (ByteArray.mk #[]))) || (!decide (a0.num = 0))) : Option Bool) >>= fun x76 =>
          ((pure (x76 || (decide ((a0.sc.length : Int) > 0))) : Option Bool) >>= fun x82 =>
          if x82 = true then (
            pure (false, IntKind.i64.wrap (c0 - 1))
          ) else (
            (impl_formOk_l0 a0 a1 0 (IntKind.i64.wrap (c0 - 1)) >>= fun o29 => match o29 with
              | .inl r => pure r
              | .inr e30x_0_0 => (
                pure (true, e30x_0_0)
              ))
          )
          )
          )
        ) else (
          pure (false, IntKind.i64.wrap (c0 - 1))
        )
      )
    )
  )
  )
  partial_fixpoint
def impl_formOk_l0 (a0 : Fm) (a1 : Int) (z0t_86 : Int) (z0x_0_0 : Int) : Option ((Bool × Int) ⊕ Int) :=
  if z0t_86 < (a0.kids.length : Int) then (
    (idx a0.kids z0t_86 >>= fun x88 =>
    (impl_formOk x88 (IntKind.i64.wrap (a1 + 1)) z0x_0_0 >>= fun x94 =>
    if (!x94.1) = true then (
      pure (Sum.inl (false, x94.2))
    ) else (
      impl_formOk_l0 a0 a1 (IntKind.i64.wrap (z0t_86 + 1)) x94.2
    )
    )
    )
  ) else (
    pure (Sum.inr z0x_0_0)
  )
  partial_fixpoint
end
def impl_FormValid (a0 : Fm) : Option (Bool) :=
  (impl_formOk a0 1 400 >>= fun x5 =>
  pure x5.1
  )
def slices_Index_int_int_l0 (a0 : List Int) (a1 : Int) (z0t_8 : Int) : Option (Int ⊕ Unit) :=
  if z0t_8 < (a0.length : Int) then (
    (idx a0 z0t_8 >>= fun x14 =>
    if a1 = x14 then (
      pure (Sum.inl z0t_8)
    ) else (
      slices_Index_int_int_l0 a0 a1 (IntKind.i64.wrap (z0t_8 + 1))
    )
    )
  ) else (
    pure (Sum.inr ())
  )
  partial_fixpoint
def slices_Index_int_int (a0 : List Int) (a1 : Int) : Option (Int) :=
  (slices_Index_int_int_l0 a0 a1 0 >>= fun o1 => match o1 with
    | .inl r => pure r
    | .inr _ => (
      pure (-1)
    ))
def slices_Contains_int_int (a0 : List Int) (a1 : Int) : Option (Bool) :=
  (slices_Index_int_int a0 a1 >>= fun x7 =>
  pure (decide (x7 ≥ 0))
  )
def slices_Equal_int_int_l0 (a0 : List Int) (a1 : List Int) (z0t_13 : Int) : Option (Bool ⊕ Unit) :=
  if z0t_13 < (a0.length : Int) then (
    (idx a0 z0t_13 >>= fun x18 =>
    (idx a1 z0t_13 >>= fun x22 =>
    if x18 = x22 then (
      slices_Equal_int_int_l0 a0 a1 (IntKind.i64.wrap (z0t_13 + 1))
    ) else (
      pure (Sum.inl false)
    )
    )
    )
  ) else (
    pure (Sum.inr ())
  )
  partial_fixpoint
def slices_Equal_int_int (a0 : List Int) (a1 : List Int) : Option (Bool) :=
  if (a0.length : Int) = (a1.length : Int) then (
    (slices_Equal_int_int_l0 a0 a1 0 >>= fun o1 => match o1 with
      | .inl r => pure r
      | .inr _ => (
        pure true
      ))
  ) else (
    pure false
  )
mutual
def impl_FormSame (a0 : Fm) (a1 : Fm) : Option (Bool) :=
  ((pure ((decide (a0.kind = a1.kind)) && (decide (a0.name = a1.name))) : Option Bool) >>= fun x16 =>
  ((pure (x16 && (decide (a0.num = a1.num))) : Option Bool) >>= fun x23 =>
  ((if x23 = true then (
    (slices_Equal_int_int a0.sc a1.sc >>= fun x29 =>
    pure x29
    )
  ) else (
    pure false
  ) : Option Bool) >>= fun x30 =>
  ((if x30 = true then (
    (slices_EqualFunc_Form_Form_Form_Form__impl_FormSame a0.kids a1.kids >>= fun x36 =>
    pure x36
    )
  ) else (
    pure false
  ) : Option Bool) >>= fun x37 =>
  pure x37
  )
  )
  )
  )
  partial_fixpoint
def slices_EqualFunc_Form_Form_Form_Form__impl_FormSame (a0 : List Fm) (a1 : List Fm) : Option (Bool) :=
  if (a0.length : Int) = (a1.length : Int) then (
    (slices_EqualFunc_Form_Form_Form_Form__impl_FormSame_l0 a0 a1 0 >>= fun o7 => match o7 with
      | .inl r => pure r
      | .inr _ => (
        pure true
      ))
  ) else (
    pure false
  )
  partial_fixpoint
def slices_EqualFunc_Form_Form_Form_Form__impl_FormSame_l0 (a0 : List Fm) (a1 : List Fm) (z0t_17 : Int) : Option (Bool ⊕ Unit) :=
  if z0t_17 < (a0.length : Int) then (
    (idx a0 z0t_17 >>= fun x20 =>
    (idx a1 z0t_17 >>= fun x24 =>
    (impl_FormSame x20 x24 >>= fun x29 =>
    if (!x29) = true then (
      pure (Sum.inl false)
    ) else (
      slices_EqualFunc_Form_Form_Form_Form__impl_FormSame_l0 a0 a1 (IntKind.i64.wrap (z0t_17 + 1))
    )
    )
    )
    )
  ) else (
    pure (Sum.inr ())
  )
  partial_fixpoint
end
def impl_isIn_c1 (a0 : Fm) (c0 : Fm) : Option (Bool) :=
  (impl_FormSame a0 c0 >>= fun x6 =>
  pure x6
  )
def slices_IndexFunc_Form_Form__impl_isIn_c1_l0 (a0 : List Fm) (c0 : Fm) (z0t_8 : Int) : Option (Int ⊕ Unit) :=
  if z0t_8 < (a0.length : Int) then (
    (idx a0 z0t_8 >>= fun x14 =>
    (impl_isIn_c1 x14 c0 >>= fun x16 =>
    if x16 = true then (
      pure (Sum.inl z0t_8)
    ) else (
      slices_IndexFunc_Form_Form__impl_isIn_c1_l0 a0 c0 (IntKind.i64.wrap (z0t_8 + 1))
    )
    )
    )
  ) else (
    pure (Sum.inr ())
  )
  partial_fixpoint
def slices_IndexFunc_Form_Form__impl_isIn_c1 (a0 : List Fm) (c0 : Fm) : Option (Int) :=
  (slices_IndexFunc_Form_Form__impl_isIn_c1_l0 a0 c0 0 >>= fun o4 => match o4 with
    | .inl r => pure r
    | .inr _ => (
      pure (-1)
    ))
def slices_ContainsFunc_Form_Form__impl_isIn_c1 (a0 : List Fm) (c0 : Fm) : Option (Bool) :=
  (slices_IndexFunc_Form_Form__impl_isIn_c1 a0 c0 >>= fun x7 =>
  pure (decide (x7 ≥ 0))
  )
def impl_isIn (a0 : List Fm) (a1 : Fm) : Option (Bool) :=
  (slices_ContainsFunc_Form_Form__impl_isIn_c1 a0 a1 >>= fun x7 =>
  pure x7
  )
def slices_Clone_int_int (a0 : List Int) : Option (List Int) := lcat 8 [] a0
mutual
def impl_copyForm (a0 : Fm) : Option (Fm) :=
  (slices_Clone_int_int a0.sc >>= fun x14 =>
  (impl_copyForm_l0 a0 x14 [] 0 >>= fun e15o_0 => 
    pure (Fm.mk a0.kind a0.name a0.num x14 e15o_0)
  )
  )
  partial_fixpoint
def impl_copyForm_l0 (a0 : Fm) (x14 : List Int) (z0o_0 : List Fm) (z0t_19 : Int) : Option (List Fm) :=
  if z0t_19 < (a0.kids.length : Int) then (
    (idx a0.kids z0t_19 >>= fun x21 =>
    (impl_copyForm x21 >>= fun x26 =>
    (lcat 80 z0o_0 [x26] >>= fun x28 =>
    impl_copyForm_l0 a0 x14 x28 (IntKind.i64.wrap (z0t_19 + 1))
    )
    )
    )
  ) else (
    pure z0o_0
  )
  partial_fixpoint
end
def impl_IntroducedNames_c1 (a0 : Fm) (c0 : Stp) (c1 : List Fm) : Option (List Fm) :=
  ((if a0.kind = 1 then (
    (slices_Contains_int_int a0.sc c0.scope >>= fun x12 =>
    pure x12
    )
  ) else (
    pure false
  ) : Option Bool) >>= fun x13 =>
  ((if x13 = true then (
    (impl_isIn c1 a0 >>= fun x17 =>
    pure (!x17)
    )
  ) else (
    pure false
  ) : Option Bool) >>= fun x19 =>
  if x19 = true then (
    (impl_copyForm a0 >>= fun x22 =>
    (lcat 80 c1 [Fm.mk 0 (ByteArray.mk #[]) 0 [] []] >>= fun x25 =>
    (idx x25 (c1.length : Int) >>= fun x26 =>
    pure (x25.set (c1.length : Int).toNat x22)
    )
    )
    )
  ) else (
    pure c1
  )
  )
  )
mutual
def impl_eachForm__impl_IntroducedNames_c1 (a0 : Fm) (c0 : Stp) (c1 : List Fm) : Option (List Fm) :=
  (impl_IntroducedNames_c1 a0 c0 c1 >>= fun x8 =>
  (impl_eachForm__impl_IntroducedNames_c1_l0 a0 c0 x8 0 >>= fun e15o_0 => 
    pure e15o_0
  )
  )
  partial_fixpoint
def impl_eachForm__impl_IntroducedNames_c1_l0 (a0 : Fm) (c0 : Stp) (z0o_0 : List Fm) (z0t_12 : Int) : Option (List Fm) :=
  if z0t_12 < (a0.kids.length : Int) then (
    (idx a0.kids z0t_12 >>= fun x14 =>
    (impl_eachForm__impl_IntroducedNames_c1 x14 c0 z0o_0 >>= fun x18 =>
    impl_eachForm__impl_IntroducedNames_c1_l0 a0 c0 x18 (IntKind.i64.wrap (z0t_12 + 1))
    )
    )
  ) else (
    pure z0o_0
  )
  partial_fixpoint
end
def impl_IntroducedNames (a0 : Stp) : Option (List Fm) :=
  (impl_FormValid a0.res >>= fun x7 =>
  ((if (!x7) = true then (
    pure true
  ) else (
    (impl_within a0.scope 1 99 >>= fun x12 =>
    pure (!x12)
    )
  ) : Option Bool) >>= fun x14 =>
  if x14 = true then (
    pure []
  ) else (
    (impl_eachForm__impl_IntroducedNames_c1 a0.res a0 [] >>= fun x19 =>
    pure x19
    )
  )
  )
  )
def spec_l1Letter (a0 : Int) (a1 : Bool) : Option (Bool) :=
  ((pure ((decide (a0 ≥ 97)) && (decide (a0 ≤ 122))) : Option Bool) >>= fun x10 =>
  ((pure (x10 || (decide (a0 = 42))) : Option Bool) >>= fun x14 =>
  ((pure (x14 || (decide (a0 = 63))) : Option Bool) >>= fun x18 =>
  ((pure (x18 || (decide (a0 = 61))) : Option Bool) >>= fun x22 =>
  ((pure (x22 || (decide (a0 = 43))) : Option Bool) >>= fun x26 =>
  ((pure (x26 || (decide (a0 = 60))) : Option Bool) >>= fun x30 =>
  if x30 = true then (
    pure true
  ) else (
    ((if (!a1) = true then (
      ((pure ((decide (a0 ≥ 48)) && (decide (a0 ≤ 57))) : Option Bool) >>= fun x39 =>
      ((pure (x39 || (decide (a0 = 45))) : Option Bool) >>= fun x43 =>
      pure x43
      )
      )
    ) else (
      pure false
    ) : Option Bool) >>= fun x44 =>
    pure x44
    )
  )
  )
  )
  )
  )
  )
  )
def spec_NameValid_l0 (a0 : ByteArray) (z0t_3 : Int) : Option (Bool ⊕ Unit) :=
  ((pure ((decide (z0t_3 < (a0.size : Int))) && (decide (z0t_3 ≤ 12))) : Option Bool) >>= fun x17 =>
  if x17 = true then (
    (sidx a0 z0t_3 >>= fun x22 =>
    (spec_l1Letter x22 (decide (z0t_3 = 0)) >>= fun x25 =>
    if (!x25) = true then (
      pure (Sum.inl false)
    ) else (
      spec_NameValid_l0 a0 (IntKind.i64.wrap (z0t_3 + 1))
    )
    )
    )
  ) else (
    pure (Sum.inr ())
  )
  )
  partial_fixpoint
def spec_NameValid (a0 : ByteArray) : Option (Bool) :=
  ((pure ((decide (a0 = (ByteArray.mk #[46, 46, 46]))) || (decide (a0 = (ByteArray.mk #[95])))) : Option Bool) >>= fun x9 =>
  if x9 = true then (
    pure true
  ) else (
    (spec_NameValid_l0 a0 0 >>= fun o5 => match o5 with
      | .inl r => pure r
      | .inr _ => (
        ((pure ((decide ((a0.size : Int) ≥ 1)) && (decide ((a0.size : Int) ≤ 12))) : Option Bool) >>= fun x34 =>
        pure x34
        )
      ))
  )
  )
def spec_l1Scopes_l0 (a0 : List Int) (z0t_3 : Int) : Option (Bool ⊕ Unit) :=
  ((pure ((decide (z0t_3 < (a0.length : Int))) && (decide (z0t_3 ≤ 24))) : Option Bool) >>= fun x11 =>
  if x11 = true then (
    (idx a0 z0t_3 >>= fun x16 =>
    ((if x16 < 1 then (
      pure true
    ) else (
      (idx a0 z0t_3 >>= fun x22 =>
      pure (decide (x22 > 99))
      )
    ) : Option Bool) >>= fun x25 =>
    ((if x25 = true then (
      pure true
    ) else (
      ((if z0t_3 > 0 then (
        (idx a0 z0t_3 >>= fun x32 =>
        (idx a0 (IntKind.i64.wrap (z0t_3 - 1)) >>= fun x37 =>
        pure (decide (x32 ≤ x37))
        )
        )
      ) else (
        pure false
      ) : Option Bool) >>= fun x40 =>
      pure x40
      )
    ) : Option Bool) >>= fun x41 =>
    if x41 = true then (
      pure (Sum.inl false)
    ) else (
      spec_l1Scopes_l0 a0 (IntKind.i64.wrap (z0t_3 + 1))
    )
    )
    )
    )
  ) else (
    pure (Sum.inr ())
  )
  )
  partial_fixpoint
def spec_l1Scopes (a0 : List Int) : Option (Bool) :=
  (spec_l1Scopes_l0 a0 0 >>= fun o9 => match o9 with
    | .inl r => pure r
    | .inr _ => (
      pure (decide ((a0.length : Int) ≤ 24))
    ))
mutual
def spec_l1Is (a0 : Fm) (a1 : Int) : Option (Bool) :=
  if a1 = 0 then (
    pure false
  ) else (
    if a0.kind = 1 then (
      (spec_NameValid a0.name >>= fun x14 =>
      ((pure (x14 && (decide (a0.num = 0))) : Option Bool) >>= fun x19 =>
      ((if x19 = true then (
        (spec_l1Scopes a0.sc >>= fun x23 =>
        pure x23
        )
      ) else (
        pure false
      ) : Option Bool) >>= fun x24 =>
      ((pure (x24 && (decide ((a0.kids.length : Int) = 0))) : Option Bool) >>= fun x30 =>
      pure x30
      )
      )
      )
      )
    ) else (
      if a0.kind = 2 then (
        ((pure ((decide (a0.name = (ByteArray.mk #[]))) && (decide (a0.num ≥ 0))) : Option Bool) >>= fun x40 =>
        ((pure (x40 && (decide (a0.num ≤ 999))) : Option Bool) >>= fun x45 =>
        ((pure (x45 && (decide ((a0.sc.length : Int) = 0))) : Option Bool) >>= fun x51 =>
        ((pure (x51 && (decide ((a0.kids.length : Int) = 0))) : Option Bool) >>= fun x57 =>
        pure x57
        )
        )
        )
        )
      ) else (
        ((pure ((!decide (a0.kind = 3)) || (!decide (a0.name = (ByteArray.mk #[])))) : Option Bool) >>= fun x65 =>
        ((pure (x65 || (!decide (a0.num = 0))) : Option Bool) >>= fun x70 =>
        ((pure (x70 || (!decide ((a0.sc.length : Int) = 0))) : Option Bool) >>= fun x76 =>
        if x76 = true then (
          pure false
        ) else (
          (spec_l1Is_l0 a0 a1 0 >>= fun o23 => match o23 with
            | .inl r => pure r
            | .inr _ => (
              pure true
            ))
        )
        )
        )
        )
      )
    )
  )
  partial_fixpoint
def spec_l1Is_l0 (a0 : Fm) (a1 : Int) (z0t_5 : Int) : Option (Bool ⊕ Unit) :=
  if z0t_5 < (a0.kids.length : Int) then (
    (idx a0.kids z0t_5 >>= fun x87 =>
    (spec_l1Is x87 (IntKind.i64.wrap (a1 - 1)) >>= fun x91 =>
    if (!x91) = true then (
      pure (Sum.inl false)
    ) else (
      spec_l1Is_l0 a0 a1 (IntKind.i64.wrap (z0t_5 + 1))
    )
    )
    )
  ) else (
    pure (Sum.inr ())
  )
  partial_fixpoint
end
mutual
def spec_l1Count (a0 : Fm) : Option (Int) :=
  (spec_l1Count_l0 a0 1 0 >>= fun e4t_3 => 
    pure e4t_3
  )
  partial_fixpoint
def spec_l1Count_l0 (a0 : Fm) (z0t_3 : Int) (z0t_4 : Int) : Option (Int) :=
  if z0t_4 < (a0.kids.length : Int) then (
    (idx a0.kids z0t_4 >>= fun x16 =>
    (spec_l1Count x16 >>= fun x18 =>
    spec_l1Count_l0 a0 (IntKind.i64.wrap (z0t_3 + x18)) (IntKind.i64.wrap (z0t_4 + 1))
    )
    )
  ) else (
    pure z0t_3
  )
  partial_fixpoint
end
def spec_FormValid (a0 : Fm) : Option (Bool) :=
  (spec_l1Is a0 40 >>= fun x4 =>
  ((if x4 = true then (
    (spec_l1Count a0 >>= fun x7 =>
    pure (decide (x7 ≤ 400))
    )
  ) else (
    pure false
  ) : Option Bool) >>= fun x9 =>
  pure x9
  )
  )
def spec_l7In (a0 : Int) (a1 : Int) (a2 : Int) : Option (Bool) :=
  ((pure ((decide (a0 ≥ a1)) && (decide (a0 ≤ a2))) : Option Bool) >>= fun x14 =>
  pure x14
  )
def spec_l2Has_l0 (a0 : List Int) (a1 : Int) (z0t_5 : Int) : Option (Bool ⊕ Unit) :=
  if z0t_5 < (a0.length : Int) then (
    (idx a0 z0t_5 >>= fun x14 =>
    if x14 = a1 then (
      pure (Sum.inl true)
    ) else (
      spec_l2Has_l0 a0 a1 (IntKind.i64.wrap (z0t_5 + 1))
    )
    )
  ) else (
    pure (Sum.inr ())
  )
  partial_fixpoint
def spec_l2Has (a0 : List Int) (a1 : Int) : Option (Bool) :=
  (spec_l2Has_l0 a0 a1 0 >>= fun o1 => match o1 with
    | .inl r => pure r
    | .inr _ => (
      pure false
    ))
def spec_l1Ints_l0 (a0 : List Int) (a1 : List Int) (z0t_5 : Int) : Option (Bool ⊕ Unit) :=
  if z0t_5 < (a0.length : Int) then (
    (idx a0 z0t_5 >>= fun x19 =>
    (idx a1 z0t_5 >>= fun x23 =>
    if x19 = x23 then (
      spec_l1Ints_l0 a0 a1 (IntKind.i64.wrap (z0t_5 + 1))
    ) else (
      pure (Sum.inl false)
    )
    )
    )
  ) else (
    pure (Sum.inr ())
  )
  partial_fixpoint
def spec_l1Ints (a0 : List Int) (a1 : List Int) : Option (Bool) :=
  if (a0.length : Int) = (a1.length : Int) then (
    (spec_l1Ints_l0 a0 a1 0 >>= fun o1 => match o1 with
      | .inl r => pure r
      | .inr _ => (
        pure true
      ))
  ) else (
    pure false
  )
mutual
def spec_FormSame (a0 : Fm) (a1 : Fm) : Option (Bool) :=
  ((pure ((!decide (a0.kind = a1.kind)) || (!decide (a0.name = a1.name))) : Option Bool) >>= fun x17 =>
  ((pure (x17 || (!decide (a0.num = a1.num))) : Option Bool) >>= fun x24 =>
  ((if x24 = true then (
    pure true
  ) else (
    (spec_l1Ints a0.sc a1.sc >>= fun x30 =>
    pure (!x30)
    )
  ) : Option Bool) >>= fun x32 =>
  ((pure (x32 || (!decide ((a0.kids.length : Int) = (a1.kids.length : Int)))) : Option Bool) >>= fun x41 =>
  if x41 = true then (
    pure false
  ) else (
    (spec_FormSame_l0 a0 a1 0 >>= fun o13 => match o13 with
      | .inl r => pure r
      | .inr _ => (
        pure true
      ))
  )
  )
  )
  )
  )
  partial_fixpoint
def spec_FormSame_l0 (a0 : Fm) (a1 : Fm) (z0t_5 : Int) : Option (Bool ⊕ Unit) :=
  if z0t_5 < (a0.kids.length : Int) then (
    (idx a0.kids z0t_5 >>= fun x52 =>
    (idx a1.kids z0t_5 >>= fun x57 =>
    (spec_FormSame x52 x57 >>= fun x59 =>
    if (!x59) = true then (
      pure (Sum.inl false)
    ) else (
      spec_FormSame_l0 a0 a1 (IntKind.i64.wrap (z0t_5 + 1))
    )
    )
    )
    )
  ) else (
    pure (Sum.inr ())
  )
  partial_fixpoint
end
def spec_l4In_l0 (a0 : List Fm) (a1 : Fm) (z0t_5 : Int) : Option (Bool ⊕ Unit) :=
  if z0t_5 < (a0.length : Int) then (
    (idx a0 z0t_5 >>= fun x14 =>
    (spec_FormSame x14 a1 >>= fun x17 =>
    if x17 = true then (
      pure (Sum.inl true)
    ) else (
      spec_l4In_l0 a0 a1 (IntKind.i64.wrap (z0t_5 + 1))
    )
    )
    )
  ) else (
    pure (Sum.inr ())
  )
  partial_fixpoint
def spec_l4In (a0 : List Fm) (a1 : Fm) : Option (Bool) :=
  (spec_l4In_l0 a0 a1 0 >>= fun o3 => match o3 with
    | .inl r => pure r
    | .inr _ => (
      pure false
    ))
mutual
def spec_l1Copy (a0 : Fm) : Option (Fm) :=
  (lcat 8 [] a0.sc >>= fun x14 =>
  (spec_l1Copy_l0 a0 x14 [] 0 >>= fun e12o_0 => 
    pure (Fm.mk a0.kind a0.name a0.num x14 e12o_0)
  )
  )
  partial_fixpoint
def spec_l1Copy_l0 (a0 : Fm) (x14 : List Int) (z0o_0 : List Fm) (z0t_4 : Int) : Option (List Fm) :=
  if z0t_4 < (a0.kids.length : Int) then (
    (idx a0.kids z0t_4 >>= fun x28 =>
    (spec_l1Copy x28 >>= fun x30 =>
    (lcat 80 z0o_0 [x30] >>= fun x32 =>
    spec_l1Copy_l0 a0 x14 x32 (IntKind.i64.wrap (z0t_4 + 1))
    )
    )
    )
  ) else (
    pure z0o_0
  )
  partial_fixpoint
end
mutual
def spec_l10Names_o0 (a0 : List Fm) (a1 : Fm) (a2 : Int) : Option (List Fm) :=
  ((if a1.kind = 1 then (
    (spec_l2Has a1.sc a2 >>= fun x15 =>
    pure x15
    )
  ) else (
    pure false
  ) : Option Bool) >>= fun x16 =>
  ((if x16 = true then (
    (spec_l4In a0 a1 >>= fun x20 =>
    pure (!x20)
    )
  ) else (
    pure false
  ) : Option Bool) >>= fun x22 =>
  ((if x22 = true then (
    (spec_l1Copy a1 >>= fun x25 =>
    (lcat 80 a0 [x25] >>= fun x27 =>
    pure x27
    )
    )
  ) else (
    pure a0
  ) : Option (List Fm)) >>= fun y7o_0 =>
    (spec_l10Names_o0_l0 a1 a2 y7o_0 0 >>= fun e19o_0 => 
      pure e19o_0
    )
  )
  )
  )
  partial_fixpoint
def spec_l10Names_o0_l0 (a1 : Fm) (a2 : Int) (z0o_0 : List Fm) (z0t_7 : Int) : Option (List Fm) :=
  if z0t_7 < (a1.kids.length : Int) then (
    (idx a1.kids z0t_7 >>= fun x39 =>
    (spec_l10Names_o0 z0o_0 x39 a2 >>= fun x42 =>
    spec_l10Names_o0_l0 a1 a2 x42 (IntKind.i64.wrap (z0t_7 + 1))
    )
    )
  ) else (
    pure z0o_0
  )
  partial_fixpoint
end
def spec_l10Names_l0 (a1 : Fm) (a2 : Int) (z0o_0 : List Fm) (z0t_7 : Int) : Option (List Fm) :=
  if z0t_7 < (a1.kids.length : Int) then (
    (idx a1.kids z0t_7 >>= fun x39 =>
    (spec_l10Names_o0 z0o_0 x39 a2 >>= fun x42 =>
    spec_l10Names_l0 a1 a2 x42 (IntKind.i64.wrap (z0t_7 + 1))
    )
    )
  ) else (
    pure z0o_0
  )
  partial_fixpoint
def spec_l10Names (a0 : List Fm) (a1 : Fm) (a2 : Int) : Option (List Fm) :=
  ((if a1.kind = 1 then (
    (spec_l2Has a1.sc a2 >>= fun x15 =>
    pure x15
    )
  ) else (
    pure false
  ) : Option Bool) >>= fun x16 =>
  ((if x16 = true then (
    (spec_l4In a0 a1 >>= fun x20 =>
    pure (!x20)
    )
  ) else (
    pure false
  ) : Option Bool) >>= fun x22 =>
  ((if x22 = true then (
    (spec_l1Copy a1 >>= fun x25 =>
    (lcat 80 a0 [x25] >>= fun x27 =>
    pure x27
    )
    )
  ) else (
    pure a0
  ) : Option (List Fm)) >>= fun y7o_0 =>
    (spec_l10Names_l0 a1 a2 y7o_0 0 >>= fun e19o_0 => 
      pure e19o_0
    )
  )
  )
  )
def spec_IntroducedNames (a0 : Stp) : Option (List Fm) :=
  (spec_FormValid a0.res >>= fun x5 =>
  ((if (!x5) = true then (
    pure true
  ) else (
    (spec_l7In a0.scope 1 99 >>= fun x10 =>
    pure (!x10)
    )
  ) : Option Bool) >>= fun x12 =>
  if x12 = true then (
    pure []
  ) else (
    (spec_l10Names [] a0.res a0.scope >>= fun x19 =>
    pure x19
    )
  )
  )
  )
def laws_szIntS (a0 : List Int) (a1 : Int) : Option (Int) :=
  if (IntKind.i64.wrap (a1 - (a0.length : Int))) < 0 then (
    pure (-1)
  ) else (
    pure (IntKind.i64.wrap (a1 - (a0.length : Int)))
  )
mutual
def laws_szForm (a0 : Fm) (a1 : Int) : Option (Int) :=
  if (IntKind.i64.wrap (a1 - (a0.name.size : Int))) < 0 then (
    pure (-1)
  ) else (
    (laws_szIntS a0.sc (IntKind.i64.wrap (a1 - (a0.name.size : Int))) >>= fun x15 =>
    if x15 < 0 then (
      pure (-1)
    ) else (
      (laws_szFormS a0.kids x15 >>= fun x21 =>
      if x21 < 0 then (
        pure (-1)
      ) else (
        pure x21
      )
      )
    )
    )
  )
  partial_fixpoint
def laws_szFormS (a0 : List Fm) (a1 : Int) : Option (Int) :=
  if (IntKind.i64.wrap (a1 - (a0.length : Int))) < 0 then (
    pure (-1)
  ) else (
    (laws_szFormS_l0 a0 (IntKind.i64.wrap (a1 - (a0.length : Int))) 0 >>= fun o1 => match o1 with
      | .inl r => pure r
      | .inr e2t_1 => (
        pure e2t_1
      ))
  )
  partial_fixpoint
def laws_szFormS_l0 (a0 : List Fm) (z0t_1 : Int) (z0t_5 : Int) : Option (Int ⊕ Int) :=
  if z0t_5 < (a0.length : Int) then (
    (idx a0 z0t_5 >>= fun x20 =>
    (laws_szForm x20 z0t_1 >>= fun x23 =>
    if x23 < 0 then (
      pure (Sum.inl (-1))
    ) else (
      laws_szFormS_l0 a0 x23 (IntKind.i64.wrap (z0t_5 + 1))
    )
    )
    )
  ) else (
    pure (Sum.inr z0t_1)
  )
  partial_fixpoint
end
def laws_szStep (a0 : Stp) (a1 : Int) : Option (Int) :=
  (laws_szForm a0.use a1 >>= fun x8 =>
  if x8 < 0 then (
    pure (-1)
  ) else (
    (laws_szForm a0.res x8 >>= fun x14 =>
    if x14 < 0 then (
      pure (-1)
    ) else (
      pure x14
    )
    )
  )
  )
def laws_eqIntS_l0 (a0 : List Int) (a1 : List Int) (z0t_5 : Int) : Option (Bool ⊕ Unit) :=
  if z0t_5 < (a0.length : Int) then (
    (idx a0 z0t_5 >>= fun x19 =>
    (idx a1 z0t_5 >>= fun x23 =>
    if x19 = x23 then (
      laws_eqIntS_l0 a0 a1 (IntKind.i64.wrap (z0t_5 + 1))
    ) else (
      pure (Sum.inl false)
    )
    )
    )
  ) else (
    pure (Sum.inr ())
  )
  partial_fixpoint
def laws_eqIntS (a0 : List Int) (a1 : List Int) : Option (Bool) :=
  if (a0.length : Int) = (a1.length : Int) then (
    (laws_eqIntS_l0 a0 a1 0 >>= fun o1 => match o1 with
      | .inl r => pure r
      | .inr _ => (
        pure true
      ))
  ) else (
    pure false
  )
mutual
def laws_eqForm (a0 : Fm) (a1 : Fm) : Option (Bool) :=
  if a0.kind = a1.kind then (
    if a0.name = a1.name then (
      if a0.num = a1.num then (
        (laws_eqIntS a0.sc a1.sc >>= fun x24 =>
        if (!x24) = true then (
          pure false
        ) else (
          (laws_eqFormS a0.kids a1.kids >>= fun x30 =>
          if (!x30) = true then (
            pure false
          ) else (
            pure true
          )
          )
        )
        )
      ) else (
        pure false
      )
    ) else (
      pure false
    )
  ) else (
    pure false
  )
  partial_fixpoint
def laws_eqFormS (a0 : List Fm) (a1 : List Fm) : Option (Bool) :=
  if (a0.length : Int) = (a1.length : Int) then (
    (laws_eqFormS_l0 a0 a1 0 >>= fun o1 => match o1 with
      | .inl r => pure r
      | .inr _ => (
        pure true
      ))
  ) else (
    pure false
  )
  partial_fixpoint
def laws_eqFormS_l0 (a0 : List Fm) (a1 : List Fm) (z0t_5 : Int) : Option (Bool ⊕ Unit) :=
  if z0t_5 < (a0.length : Int) then (
    (idx a0 z0t_5 >>= fun x19 =>
    (idx a1 z0t_5 >>= fun x23 =>
    (laws_eqForm x19 x23 >>= fun x25 =>
    if (!x25) = true then (
      pure (Sum.inl false)
    ) else (
      laws_eqFormS_l0 a0 a1 (IntKind.i64.wrap (z0t_5 + 1))
    )
    )
    )
    )
  ) else (
    pure (Sum.inr ())
  )
  partial_fixpoint
end
def laws_eqStep (a0 : Stp) (a1 : Stp) : Option (Bool) :=
  if a0.id = a1.id then (
    if a0.rule = a1.rule then (
      if a0.scope = a1.scope then (
        (laws_eqForm a0.use a1.use >>= fun x24 =>
        if (!x24) = true then (
          pure false
        ) else (
          (laws_eqForm a0.res a1.res >>= fun x30 =>
          if (!x30) = true then (
            pure false
          ) else (
            pure true
          )
          )
        )
        )
      ) else (
        pure false
      )
    ) else (
      pure false
    )
  ) else (
    pure false
  )
def laws_markText_l0 (z0t_0 : Int) (z0t_3 : ByteArray) : Option (ByteArray) :=
  if z0t_0 > 0 then (
    (scat (strOfNums [IntKind.u8.wrap (IntKind.i64.wrap (48 + (z0t_0.tmod 10)))]) z0t_3 >>= fun x15 =>
    laws_markText_l0  (IntKind.i64.wrap (z0t_0.tdiv 10)) x15
    )
  ) else (
    pure z0t_3
  )
  partial_fixpoint
def laws_markText (a0 : Int) : Option (ByteArray) :=
  if a0 ≤ 0 then (
    pure (ByteArray.mk #[109, 48])
  ) else (
    (laws_markText_l0  a0 (ByteArray.mk #[]) >>= fun e2t_3 => 
      (scat (ByteArray.mk #[109]) e2t_3 >>= fun x19 =>
      pure x19
      )
    )
  )
def laws_heldIntS_l0 (a0 : List Int) (z0t_1 : Int) (z0t_5 : Int) : Option (Int ⊕ Int) :=
  if z0t_5 < (a0.length : Int) then (
    (idx a0 z0t_5 >>= fun x14 =>
    if x14 = z0t_1 then (
      laws_heldIntS_l0 a0 (IntKind.i64.wrap (z0t_1 + 1)) (IntKind.i64.wrap (z0t_5 + 1))
    ) else (
      pure (Sum.inl (-1))
    )
    )
  ) else (
    pure (Sum.inr z0t_1)
  )
  partial_fixpoint
def laws_heldIntS (a0 : List Int) (a1 : Int) : Option (Int) :=
  (laws_heldIntS_l0 a0 a1 0 >>= fun o1 => match o1 with
    | .inl r => pure r
    | .inr e2t_1 => (
      pure e2t_1
    ))
mutual
def laws_heldFormS (a0 : List Fm) (a1 : Int) : Option (Int) :=
  (laws_heldFormS_l0 a0 a1 0 >>= fun o1 => match o1 with
    | .inl r => pure r
    | .inr e2t_1 => (
      pure e2t_1
    ))
  partial_fixpoint
def laws_heldFormS_l0 (a0 : List Fm) (z0t_1 : Int) (z0t_5 : Int) : Option (Int ⊕ Int) :=
  if z0t_5 < (a0.length : Int) then (
    (idx a0 z0t_5 >>= fun x14 =>
    if x14.kind = z0t_1 then (
      (idx a0 z0t_5 >>= fun x23 =>
      (laws_markText (IntKind.i64.wrap (z0t_1 + 1)) >>= fun x27 =>
      if x23.name = x27 then (
        (idx a0 z0t_5 >>= fun x33 =>
        if x33.num = (IntKind.i64.wrap ((IntKind.i64.wrap (z0t_1 + 1)) + 1)) then (
          (idx a0 z0t_5 >>= fun x42 =>
          (laws_heldIntS x42.sc (IntKind.i64.wrap ((IntKind.i64.wrap ((IntKind.i64.wrap (z0t_1 + 1)) + 1)) + 1)) >>= fun x46 =>
          if x46 < 0 then (
            pure (Sum.inl (-1))
          ) else (
            (idx a0 z0t_5 >>= fun x51 =>
            (laws_heldFormS x51.kids x46 >>= fun x55 =>
            if x55 < 0 then (
              pure (Sum.inl (-1))
            ) else (
              laws_heldFormS_l0 a0 x55 (IntKind.i64.wrap (z0t_5 + 1))
            )
            )
            )
          )
          )
          )
        ) else (
          pure (Sum.inl (-1))
        )
        )
      ) else (
        pure (Sum.inl (-1))
      )
      )
      )
    ) else (
      pure (Sum.inl (-1))
    )
    )
  ) else (
    pure (Sum.inr z0t_1)
  )
  partial_fixpoint
end
end Go.Proofs.SA

