/- Printed by a program of mine: the plain functions that the code computes (D), and the walks that show it (W). -/
import Derived.Test.YtmacemmkocjkaaaDoorGt
import Derived.Test.YtmacemmkocjkaaaDoorGv
import Derived.Test.YtmacemmkocjkaaaDoorGv
set_option maxRecDepth 100000
set_option linter.unusedSimpArgs false
set_option linter.unusedVariables false
open Go Go.Proofs Go.Proofs.Shadow
namespace Go.Proofs.SA
def laws_szIntS (a0 : List Int) (a1 : Int) : Option (Int) :=
  if (IntKind.i64.wrap (a1 - (a0.length : Int))) < 0 then (
    pure (-1)
  ) else (
    pure (IntKind.i64.wrap (a1 - (a0.length : Int)))
  )
mutual
def laws_szForm (a0 : Fm) (a1 : Int) : Option (Int) :=
  if (IntKind.i64.wrap (a1 - (a0.name.size : Int))) < 0 then (
    pure (-1)
  ) else (
    (laws_szIntS a0.sc (IntKind.i64.wrap (a1 - (a0.name.size : Int))) >>= fun x15 =>
    if x15 < 0 then (
      pure (-1)
    ) else (
      (laws_szFormS a0.kids x15 >>= fun x21 =>
      if x21 < 0 then (
        pure (-1)
      ) else (
        pure x21
      )
      )
    )
    )
  )
  partial_fixpoint
def laws_szFormS (a0 : List Fm) (a1 : Int) : Option (Int) :=
  if (IntKind.i64.wrap (a1 - (a0.length : Int))) < 0 then (
    pure (-1)
  ) else (
    (laws_szFormS_l0 a0 (IntKind.i64.wrap (a1 - (a0.length : Int))) 0 >>= fun o1 => match o1 with
      | .inl r => pure r
      | .inr e2t_1 => (
        pure e2t_1
      ))
  )
  partial_fixpoint
def laws_szFormS_l0 (a0 : List Fm) (z0t_1 : Int) (z0t_5 : Int) : Option (Int ⊕ Int) :=
  if z0t_5 < (a0.length : Int) then (
    (idx a0 z0t_5 >>= fun x20 =>
    (laws_szForm x20 z0t_1 >>= fun x23 =>
    if x23 < 0 then (
      pure (Sum.inl (-1))
    ) else (
      laws_szFormS_l0 a0 x23 (IntKind.i64.wrap (z0t_5 + 1))
    )
    )
    )
  ) else (
    pure (Sum.inr z0t_1)
  )
  partial_fixpoint
end
mutual
def laws_szCore (a0 : Cor) (a1 : Int) : Option (Int) :=
  if (IntKind.i64.wrap (a1 - (a0.name.size : Int))) < 0 then (
    pure (-1)
  ) else (
    (laws_szIntS a0.ids (IntKind.i64.wrap (a1 - (a0.name.size : Int))) >>= fun x15 =>
    if x15 < 0 then (
      pure (-1)
    ) else (
      (laws_szForm a0.data x15 >>= fun x21 =>
      if x21 < 0 then (
        pure (-1)
      ) else (
        (laws_szCoreS a0.kids x21 >>= fun x27 =>
        if x27 < 0 then (
          pure (-1)
        ) else (
          pure x27
        )
        )
      )
      )
    )
    )
  )
  partial_fixpoint
def laws_szCoreS (a0 : List Cor) (a1 : Int) : Option (Int) :=
  if (IntKind.i64.wrap (a1 - (a0.length : Int))) < 0 then (
    pure (-1)
  ) else (
    (laws_szCoreS_l0 a0 (IntKind.i64.wrap (a1 - (a0.length : Int))) 0 >>= fun o1 => match o1 with
      | .inl r => pure r
      | .inr e2t_1 => (
        pure e2t_1
      ))
  )
  partial_fixpoint
def laws_szCoreS_l0 (a0 : List Cor) (z0t_1 : Int) (z0t_5 : Int) : Option (Int ⊕ Int) :=
  if z0t_5 < (a0.length : Int) then (
    (idx a0 z0t_5 >>= fun x20 =>
    (laws_szCore x20 z0t_1 >>= fun x23 =>
    if x23 < 0 then (
      pure (Sum.inl (-1))
    ) else (
      laws_szCoreS_l0 a0 x23 (IntKind.i64.wrap (z0t_5 + 1))
    )
    )
    )
  ) else (
    pure (Sum.inr z0t_1)
  )
  partial_fixpoint
end
mutual
def laws_szValue (a0 : Val) (a1 : Int) : Option (Int) :=
  if (IntKind.i64.wrap (a1 - (a0.name.size : Int))) < 0 then (
    pure (-1)
  ) else (
    (laws_szValueS a0.items (IntKind.i64.wrap (a1 - (a0.name.size : Int))) >>= fun x15 =>
    if x15 < 0 then (
      pure (-1)
    ) else (
      (laws_szCore a0.fn x15 >>= fun x21 =>
      if x21 < 0 then (
        pure (-1)
      ) else (
        (laws_szSlotS a0.env x21 >>= fun x27 =>
        if x27 < 0 then (
          pure (-1)
        ) else (
          pure x27
        )
        )
      )
      )
    )
    )
  )
  partial_fixpoint
def laws_szValueS (a0 : List Val) (a1 : Int) : Option (Int) :=
  if (IntKind.i64.wrap (a1 - (a0.length : Int))) < 0 then (
    pure (-1)
  ) else (
    (laws_szValueS_l0 a0 (IntKind.i64.wrap (a1 - (a0.length : Int))) 0 >>= fun o1 => match o1 with
      | .inl r => pure r
      | .inr e2t_1 => (
        pure e2t_1
      ))
  )
  partial_fixpoint
def laws_szSlotS (a0 : List Slt) (a1 : Int) : Option (Int) :=
  if (IntKind.i64.wrap (a1 - (a0.length : Int))) < 0 then (
    pure (-1)
  ) else (
    (laws_szSlotS_l0 a0 (IntKind.i64.wrap (a1 - (a0.length : Int))) 0 >>= fun o1 => match o1 with
      | .inl r => pure r
      | .inr e2t_1 => (
        pure e2t_1
      ))
  )
  partial_fixpoint
def laws_szSlot (a0 : Slt) (a1 : Int) : Option (Int) :=
  (laws_szValue a0.val a1 >>= fun x8 =>
  if x8 < 0 then (
    pure (-1)
  ) else (
    pure x8
  )
  )
  partial_fixpoint
def laws_szValueS_l0 (a0 : List Val) (z0t_1 : Int) (z0t_5 : Int) : Option (Int ⊕ Int) :=
  if z0t_5 < (a0.length : Int) then (
    (idx a0 z0t_5 >>= fun x20 =>
    (laws_szValue x20 z0t_1 >>= fun x23 =>
    if x23 < 0 then (
      pure (Sum.inl (-1))
    ) else (
      laws_szValueS_l0 a0 x23 (IntKind.i64.wrap (z0t_5 + 1))
    )
    )
    )
  ) else (
    pure (Sum.inr z0t_1)
  )
  partial_fixpoint
def laws_szSlotS_l0 (a0 : List Slt) (z0t_1 : Int) (z0t_5 : Int) : Option (Int ⊕ Int) :=
  if z0t_5 < (a0.length : Int) then (
    (idx a0 z0t_5 >>= fun x20 =>
    (laws_szSlot x20 z0t_1 >>= fun x23 =>
    if x23 < 0 then (
      pure (Sum.inl (-1))
    ) else (
      laws_szSlotS_l0 a0 x23 (IntKind.i64.wrap (z0t_5 + 1))
    )
    )
    )
  ) else (
    pure (Sum.inr z0t_1)
  )
  partial_fixpoint
end
def laws_toIntS_l0 (a0 : List Int) (z0o_0 : List Int) (z0t_4 : Int) : Option (List Int) :=
  if z0t_4 < (a0.length : Int) then (
    (idx a0 z0t_4 >>= fun x18 =>
    (idx z0o_0 z0t_4 >>= fun x20 =>
    laws_toIntS_l0 a0 (z0o_0.set z0t_4.toNat x18) (IntKind.i64.wrap (z0t_4 + 1))
    )
    )
  ) else (
    pure z0o_0
  )
  partial_fixpoint
def laws_toIntS (a0 : List Int) : Option (List Int) :=
  (lmake 8 0 (a0.length : Int) >>= fun x7 =>
  (laws_toIntS_l0 a0 x7 0 >>= fun e5o_0 => 
    pure e5o_0
  )
  )
mutual
def laws_toForm (a0 : Fm) : Option (Fm) :=
  (laws_toIntS a0.sc >>= fun x15 =>
  (laws_toFormS a0.kids >>= fun x19 =>
  pure (Fm.mk a0.kind a0.name a0.num x15 x19)
  )
  )
  partial_fixpoint
def laws_toFormS (a0 : List Fm) : Option (List Fm) :=
  (lmake 80 (Fm.mk 0 (ByteArray.mk #[]) 0 [] []) (a0.length : Int) >>= fun x7 =>
  (laws_toFormS_l0 a0 x7 0 >>= fun e5o_0 => 
    pure e5o_0
  )
  )
  partial_fixpoint
def laws_toFormS_l0 (a0 : List Fm) (z0o_0 : List Fm) (z0t_4 : Int) : Option (List Fm) :=
  if z0t_4 < (a0.length : Int) then (
    (idx a0 z0t_4 >>= fun x18 =>
    (laws_toForm x18 >>= fun x20 =>
    (idx z0o_0 z0t_4 >>= fun x21 =>
    laws_toFormS_l0 a0 (z0o_0.set z0t_4.toNat x20) (IntKind.i64.wrap (z0t_4 + 1))
    )
    )
    )
  ) else (
    pure z0o_0
  )
  partial_fixpoint
end
mutual
def laws_toCore (a0 : Cor) : Option (Cor) :=
  (laws_toIntS a0.ids >>= fun x18 =>
  (laws_toForm a0.data >>= fun x22 =>
  (laws_toCoreS a0.kids >>= fun x26 =>
  pure (Cor.mk a0.kind a0.id a0.name a0.num x18 x22 x26)
  )
  )
  )
  partial_fixpoint
def laws_toCoreS (a0 : List Cor) : Option (List Cor) :=
  (lmake 168 (Cor.mk 0 0 (ByteArray.mk #[]) 0 [] (Fm.mk 0 (ByteArray.mk #[]) 0 [] []) []) (a0.length : Int) >>= fun x7 =>
  (laws_toCoreS_l0 a0 x7 0 >>= fun e5o_0 => 
    pure e5o_0
  )
  )
  partial_fixpoint
def laws_toCoreS_l0 (a0 : List Cor) (z0o_0 : List Cor) (z0t_4 : Int) : Option (List Cor) :=
  if z0t_4 < (a0.length : Int) then (
    (idx a0 z0t_4 >>= fun x18 =>
    (laws_toCore x18 >>= fun x20 =>
    (idx z0o_0 z0t_4 >>= fun x21 =>
    laws_toCoreS_l0 a0 (z0o_0.set z0t_4.toNat x20) (IntKind.i64.wrap (z0t_4 + 1))
    )
    )
    )
  ) else (
    pure z0o_0
  )
  partial_fixpoint
end
mutual
def laws_toValue (a0 : Val) : Option (Val) :=
  (laws_toValueS a0.items >>= fun x15 =>
  (laws_toCore a0.fn >>= fun x19 =>
  (laws_toSlotS a0.env >>= fun x23 =>
  pure (Val.mk a0.kind a0.num a0.name x15 x19 x23)
  )
  )
  )
  partial_fixpoint
def laws_toValueS (a0 : List Val) : Option (List Val) :=
  (lmake 248 (Val.mk 0 0 (ByteArray.mk #[]) [] (Cor.mk 0 0 (ByteArray.mk #[]) 0 [] (Fm.mk 0 (ByteArray.mk #[]) 0 [] []) []) []) (a0.length : Int) >>= fun x7 =>
  (laws_toValueS_l0 a0 x7 0 >>= fun e5o_0 => 
    pure e5o_0
  )
  )
  partial_fixpoint
def laws_toSlotS (a0 : List Slt) : Option (List Slt) :=
  (lmake 256 (Slt.mk 0 (Val.mk 0 0 (ByteArray.mk #[]) [] (Cor.mk 0 0 (ByteArray.mk #[]) 0 [] (Fm.mk 0 (ByteArray.mk #[]) 0 [] []) []) [])) (a0.length : Int) >>= fun x7 =>
  (laws_toSlotS_l0 a0 x7 0 >>= fun e5o_0 => 
    pure e5o_0
  )
  )
  partial_fixpoint
def laws_toSlot (a0 : Slt) : Option (Slt) :=
  (laws_toValue a0.val >>= fun x9 =>
  pure (Slt.mk a0.id x9)
  )
  partial_fixpoint
def laws_toValueS_l0 (a0 : List Val) (z0o_0 : List Val) (z0t_4 : Int) : Option (List Val) :=
  if z0t_4 < (a0.length : Int) then (
    (idx a0 z0t_4 >>= fun x18 =>
    (laws_toValue x18 >>= fun x20 =>
    (idx z0o_0 z0t_4 >>= fun x21 =>
    laws_toValueS_l0 a0 (z0o_0.set z0t_4.toNat x20) (IntKind.i64.wrap (z0t_4 + 1))
    )
    )
    )
  ) else (
    pure z0o_0
  )
  partial_fixpoint
def laws_toSlotS_l0 (a0 : List Slt) (z0o_0 : List Slt) (z0t_4 : Int) : Option (List Slt) :=
  if z0t_4 < (a0.length : Int) then (
    (idx a0 z0t_4 >>= fun x18 =>
    (laws_toSlot x18 >>= fun x20 =>
    (idx z0o_0 z0t_4 >>= fun x21 =>
    laws_toSlotS_l0 a0 (z0o_0.set z0t_4.toNat x20) (IntKind.i64.wrap (z0t_4 + 1))
    )
    )
    )
  ) else (
    pure z0o_0
  )
  partial_fixpoint
end
def spec_l15Dec_l0 (z0t_0 : Int) (z0t_3 : ByteArray) : Option (Int × ByteArray) :=
  if z0t_0 > 9 then (
    (scat (strOfNums [IntKind.u8.wrap (IntKind.i64.wrap (48 + (z0t_0.tmod 10)))]) z0t_3 >>= fun x21 =>
    spec_l15Dec_l0  (IntKind.i64.wrap (z0t_0.tdiv 10)) x21
    )
  ) else (
    pure (z0t_0, z0t_3)
  )
  partial_fixpoint
def spec_l15Dec (a0 : Int) : Option (ByteArray) :=
  if a0 < (-9223372036854775807) then (
    pure (ByteArray.mk #[45, 57, 50, 50, 51, 51, 55, 50, 48, 51, 54, 56, 53, 52, 55, 55, 53, 56, 48, 56])
  ) else (
    if a0 < 0 then (
      (spec_l15Dec (IntKind.i64.wrap (0 - a0)) >>= fun x10 =>
      (scat (ByteArray.mk #[45]) x10 >>= fun x11 =>
      pure x11
      )
      )
    ) else (
      (spec_l15Dec_l0  a0 (ByteArray.mk #[]) >>= fun (e2t_0, e2t_3) => 
        (scat (strOfNums [IntKind.u8.wrap (IntKind.i64.wrap (48 + e2t_0))]) e2t_3 >>= fun x30 =>
        pure x30
        )
      )
    )
  )
  partial_fixpoint
mutual
def spec_l8Text (a0 : Val) (a1 : Int) : Option (ByteArray) :=
  if a1 = 0 then (
    pure (ByteArray.mk #[46, 46])
  ) else (
    if a0.kind = 1 then (
      (spec_l15Dec a0.num >>= fun x15 =>
      pure x15
      )
    ) else (
      ((if a0.kind = 2 then (
        pure (decide (a0.kind = 2))
      ) else (
        pure (decide (a0.kind = 5))
      ) : Option (Bool)) >>= fun y3t_16 =>
        if y3t_16 = true then (
          pure a0.name
        ) else (
          if a0.kind = 4 then (
            (spec_l15Dec (a0.fn.ids.length : Int) >>= fun x27 =>
            (scat (ByteArray.mk #[35, 102, 117, 110]) x27 >>= fun x28 =>
            pure x28
            )
            )
          ) else (
            if a0.kind = 3 then (
              (spec_l8Text_l0 a0 a1 (ByteArray.mk #[40]) 0 >>= fun e14t_5 => 
                (scat e14t_5 (ByteArray.mk #[41]) >>= fun x53 =>
                pure x53
                )
              )
            ) else (
              pure (ByteArray.mk #[63])
            )
          )
        )
      )
    )
  )
  partial_fixpoint
def spec_l8Text_l0 (a0 : Val) (a1 : Int) (z0t_5 : ByteArray) (z0t_6 : Int) : Option (ByteArray) :=
  if z0t_6 < (a0.items.length : Int) then (
    ((if z0t_6 > 0 then (
      (scat z0t_5 (ByteArray.mk #[32]) >>= fun x41 =>
      pure x41
      )
    ) else (
      pure z0t_5
    ) : Option (ByteArray)) >>= fun y8t_5 =>
      (idx a0.items z0t_6 >>= fun x46 =>
      (spec_l8Text x46 (IntKind.i64.wrap (a1 - 1)) >>= fun x50 =>
      (scat y8t_5 x50 >>= fun x51 =>
      spec_l8Text_l0 a0 a1 x51 (IntKind.i64.wrap (z0t_6 + 1))
      )
      )
      )
    )
  ) else (
    pure z0t_5
  )
  partial_fixpoint
end
def spec_FormatValue (a0 : Val) : Option (ByteArray) :=
  (spec_l8Text a0 40 >>= fun x4 =>
  pure x4
  )
mutual
def spec_ValueSame (a0 : Val) (a1 : Val) : Option (Bool) :=
  ((pure ((!decide (a0.kind = a1.kind)) || (!decide (a0.num = a1.num))) : Option Bool) >>= fun x17 =>
  ((pure (x17 || (!decide (a0.name = a1.name))) : Option Bool) >>= fun x24 =>
  ((pure (x24 || (!decide ((a0.items.length : Int) = (a1.items.length : Int)))) : Option Bool) >>= fun x33 =>
  if x33 = true then (
    pure false
  ) else (
    (spec_ValueSame_l0 a0 a1 0 >>= fun o11 => match o11 with
      | .inl r => pure r
      | .inr _ => (
        (spec_FormatValue a0 >>= fun x54 =>
        (spec_FormatValue a1 >>= fun x56 =>
        pure (decide (x54 = x56))
        )
        )
      ))
  )
  )
  )
  )
  partial_fixpoint
def spec_ValueSame_l0 (a0 : Val) (a1 : Val) (z0t_5 : Int) : Option (Bool ⊕ Unit) :=
  if z0t_5 < (a0.items.length : Int) then (
    (idx a0.items z0t_5 >>= fun x44 =>
    (idx a1.items z0t_5 >>= fun x49 =>
    (spec_ValueSame x44 x49 >>= fun x51 =>
    if (!x51) = true then (
      pure (Sum.inl false)
    ) else (
      spec_ValueSame_l0 a0 a1 (IntKind.i64.wrap (z0t_5 + 1))
    )
    )
    )
    )
  ) else (
    pure (Sum.inr ())
  )
  partial_fixpoint
end
def strconv_Itoa (a0 : Int) : Option ByteArray := itoaF a0
def strings_Join (a0 : List ByteArray) (a1 : ByteArray) : Option ByteArray := joinF a0 a1
mutual
def impl_valueText (a0 : Val) (a1 : Int) : Option (ByteArray) :=
  if a1 ≥ 40 then (
    pure (ByteArray.mk #[46, 46])
  ) else (
    if a0.kind = 1 then (
      (strconv_Itoa a0.num >>= fun x16 =>
      pure x16
      )
    ) else (
      ((if a0.kind = 2 then (
        pure (decide (a0.kind = 2))
      ) else (
        pure (decide (a0.kind = 5))
      ) : Option (Bool)) >>= fun y3t_17 =>
        if y3t_17 = true then (
          pure a0.name
        ) else (
          if a0.kind = 4 then (
            (strconv_Itoa (a0.fn.ids.length : Int) >>= fun x28 =>
            (scat (ByteArray.mk #[35, 102, 117, 110]) x28 >>= fun x29 =>
            pure x29
            )
            )
          ) else (
            if a0.kind = 3 then (
              (impl_valueText_l0 a0 a1 [] 0 >>= fun e14o_0 => 
                (strings_Join e14o_0 (ByteArray.mk #[32]) >>= fun x49 =>
                (scat (ByteArray.mk #[40]) x49 >>= fun x50 =>
                (scat x50 (ByteArray.mk #[41]) >>= fun x51 =>
                pure x51
                )
                )
                )
              )
            ) else (
              pure (ByteArray.mk #[63])
            )
          )
        )
      )
    )
  )
  partial_fixpoint
def impl_valueText_l0 (a0 : Val) (a1 : Int) (z0o_0 : List ByteArray) (z0t_36 : Int) : Option (List ByteArray) :=
  if z0t_36 < (a0.items.length : Int) then (
    (idx a0.items z0t_36 >>= fun x38 =>
    (impl_valueText x38 (IntKind.i64.wrap (a1 + 1)) >>= fun x44 =>
    (lcat 16 z0o_0 [x44] >>= fun x46 =>
    impl_valueText_l0 a0 a1 x46 (IntKind.i64.wrap (z0t_36 + 1))
    )
    )
    )
  ) else (
    pure z0o_0
  )
  partial_fixpoint
end
def impl_FormatValue (a0 : Val) : Option (ByteArray) :=
  (impl_valueText a0 0 >>= fun x4 =>
  pure x4
  )
mutual
def impl_ValueSame (a0 : Val) (a1 : Val) : Option (Bool) :=
  ((pure ((decide (a0.kind = a1.kind)) && (decide (a0.num = a1.num))) : Option Bool) >>= fun x16 =>
  ((pure (x16 && (decide (a0.name = a1.name))) : Option Bool) >>= fun x23 =>
  ((if x23 = true then (
    (slices_EqualFunc_Value_Value_Value_Value__impl_ValueSame a0.items a1.items >>= fun x29 =>
    pure x29
    )
  ) else (
    pure false
  ) : Option Bool) >>= fun x30 =>
  ((if x30 = true then (
    (impl_FormatValue a0 >>= fun x33 =>
    (impl_FormatValue a1 >>= fun x35 =>
    pure (decide (x33 = x35))
    )
    )
  ) else (
    pure false
  ) : Option Bool) >>= fun x37 =>
  pure x37
  )
  )
  )
  )
  partial_fixpoint
def slices_EqualFunc_Value_Value_Value_Value__impl_ValueSame (a0 : List Val) (a1 : List Val) : Option (Bool) :=
  if (a0.length : Int) = (a1.length : Int) then (
    (slices_EqualFunc_Value_Value_Value_Value__impl_ValueSame_l0 a0 a1 0 >>= fun o7 => match o7 with
      | .inl r => pure r
      | .inr _ => (
        pure true
      ))
  ) else (
    pure false
  )
  partial_fixpoint
def slices_EqualFunc_Value_Value_Value_Value__impl_ValueSame_l0 (a0 : List Val) (a1 : List Val) (z0t_17 : Int) : Option (Bool ⊕ Unit) :=
  if z0t_17 < (a0.length : Int) then (
    (idx a0 z0t_17 >>= fun x20 =>
    (idx a1 z0t_17 >>= fun x24 =>
    (impl_ValueSame x20 x24 >>= fun x29 =>
    if (!x29) = true then (
      pure (Sum.inl false)
    ) else (
      slices_EqualFunc_Value_Value_Value_Value__impl_ValueSame_l0 a0 a1 (IntKind.i64.wrap (z0t_17 + 1))
    )
    )
    )
    )
  ) else (
    pure (Sum.inr ())
  )
  partial_fixpoint
end
def laws_eqIntS_l0 (a0 : List Int) (a1 : List Int) (z0t_5 : Int) : Option (Bool ⊕ Unit) :=
  if z0t_5 < (a0.length : Int) then (
    (idx a0 z0t_5 >>= fun x19 =>
    (idx a1 z0t_5 >>= fun x23 =>
    if x19 = x23 then (
      laws_eqIntS_l0 a0 a1 (IntKind.i64.wrap (z0t_5 + 1))
    ) else (
      pure (Sum.inl false)
    )
    )
    )
  ) else (
    pure (Sum.inr ())
  )
  partial_fixpoint
def laws_eqIntS (a0 : List Int) (a1 : List Int) : Option (Bool) :=
  if (a0.length : Int) = (a1.length : Int) then (
    (laws_eqIntS_l0 a0 a1 0 >>= fun o1 => match o1 with
      | .inl r => pure r
      | .inr _ => (
        pure true
      ))
  ) else (
    pure false
  )
mutual
def laws_eqForm (a0 : Fm) (a1 : Fm) : Option (Bool) :=
  if a0.kind = a1.kind then (
    if a0.name = a1.name then (
      if a0.num = a1.num then (
        (laws_eqIntS a0.sc a1.sc >>= fun x24 =>
        if (!x24) = true then (
          pure false
        ) else (
          (laws_eqFormS a0.kids a1.kids >>= fun x30 =>
          if (!x30) = true then (
            pure false
          ) else (
            pure true
          )
          )
        )
        )
      ) else (
        pure false
      )
    ) else (
      pure false
    )
  ) else (
    pure false
  )
  partial_fixpoint
def laws_eqFormS (a0 : List Fm) (a1 : List Fm) : Option (Bool) :=
  if (a0.length : Int) = (a1.length : Int) then (
    (laws_eqFormS_l0 a0 a1 0 >>= fun o1 => match o1 with
      | .inl r => pure r
      | .inr _ => (
        pure true
      ))
  ) else (
    pure false
  )
  partial_fixpoint
def laws_eqFormS_l0 (a0 : List Fm) (a1 : List Fm) (z0t_5 : Int) : Option (Bool ⊕ Unit) :=
  if z0t_5 < (a0.length : Int) then (
    (idx a0 z0t_5 >>= fun x19 =>
    (idx a1 z0t_5 >>= fun x23 =>
    (laws_eqForm x19 x23 >>= fun x25 =>
    if (!x25) = true then (
      pure (Sum.inl false)
    ) else (
      laws_eqFormS_l0 a0 a1 (IntKind.i64.wrap (z0t_5 + 1))
    )
    )
    )
    )
  ) else (
    pure (Sum.inr ())
  )
  partial_fixpoint
end
mutual
def laws_eqCore (a0 : Cor) (a1 : Cor) : Option (Bool) :=
  if a0.kind = a1.kind then (
    if a0.id = a1.id then (
      if a0.name = a1.name then (
        if a0.num = a1.num then (
          (laws_eqIntS a0.ids a1.ids >>= fun x29 =>
          if (!x29) = true then (
            pure false
          ) else (
            (laws_eqForm a0.data a1.data >>= fun x35 =>
            if (!x35) = true then (
              pure false
            ) else (
              (laws_eqCoreS a0.kids a1.kids >>= fun x41 =>
              if (!x41) = true then (
                pure false
              ) else (
                pure true
              )
              )
            )
            )
          )
          )
        ) else (
          pure false
        )
      ) else (
        pure false
      )
    ) else (
      pure false
    )
  ) else (
    pure false
  )
  partial_fixpoint
def laws_eqCoreS (a0 : List Cor) (a1 : List Cor) : Option (Bool) :=
  if (a0.length : Int) = (a1.length : Int) then (
    (laws_eqCoreS_l0 a0 a1 0 >>= fun o1 => match o1 with
      | .inl r => pure r
      | .inr _ => (
        pure true
      ))
  ) else (
    pure false
  )
  partial_fixpoint
def laws_eqCoreS_l0 (a0 : List Cor) (a1 : List Cor) (z0t_5 : Int) : Option (Bool ⊕ Unit) :=
  if z0t_5 < (a0.length : Int) then (
    (idx a0 z0t_5 >>= fun x19 =>
    (idx a1 z0t_5 >>= fun x23 =>
    (laws_eqCore x19 x23 >>= fun x25 =>
    if (!x25) = true then (
      pure (Sum.inl false)
    ) else (
      laws_eqCoreS_l0 a0 a1 (IntKind.i64.wrap (z0t_5 + 1))
    )
    )
    )
    )
  ) else (
    pure (Sum.inr ())
  )
  partial_fixpoint
end
mutual
def laws_eqValue (a0 : Val) (a1 : Val) : Option (Bool) :=
  if a0.kind = a1.kind then (
    if a0.num = a1.num then (
      if a0.name = a1.name then (
        (laws_eqValueS a0.items a1.items >>= fun x24 =>
        if (!x24) = true then (
          pure false
        ) else (
          (laws_eqCore a0.fn a1.fn >>= fun x30 =>
          if (!x30) = true then (
            pure false
          ) else (
            (laws_eqSlotS a0.env a1.env >>= fun x36 =>
            if (!x36) = true then (
              pure false
            ) else (
              pure true
            )
            )
          )
          )
        )
        )
      ) else (
        pure false
      )
    ) else (
      pure false
    )
  ) else (
    pure false
  )
  partial_fixpoint
def laws_eqValueS (a0 : List Val) (a1 : List Val) : Option (Bool) :=
  if (a0.length : Int) = (a1.length : Int) then (
    (laws_eqValueS_l0 a0 a1 0 >>= fun o1 => match o1 with
      | .inl r => pure r
      | .inr _ => (
        pure true
      ))
  ) else (
    pure false
  )
  partial_fixpoint
def laws_eqSlotS (a0 : List Slt) (a1 : List Slt) : Option (Bool) :=
  if (a0.length : Int) = (a1.length : Int) then (
    (laws_eqSlotS_l0 a0 a1 0 >>= fun o1 => match o1 with
      | .inl r => pure r
      | .inr _ => (
        pure true
      ))
  ) else (
    pure false
  )
  partial_fixpoint
def laws_eqSlot (a0 : Slt) (a1 : Slt) : Option (Bool) :=
  if a0.id = a1.id then (
    (laws_eqValue a0.val a1.val >>= fun x14 =>
    if (!x14) = true then (
      pure false
    ) else (
      pure true
    )
    )
  ) else (
    pure false
  )
  partial_fixpoint
def laws_eqValueS_l0 (a0 : List Val) (a1 : List Val) (z0t_5 : Int) : Option (Bool ⊕ Unit) :=
  if z0t_5 < (a0.length : Int) then (
    (idx a0 z0t_5 >>= fun x19 =>
    (idx a1 z0t_5 >>= fun x23 =>
    (laws_eqValue x19 x23 >>= fun x25 =>
    if (!x25) = true then (
      pure (Sum.inl false)
    ) else (
      laws_eqValueS_l0 a0 a1 (IntKind.i64.wrap (z0t_5 + 1))
    )
    )
    )
    )
  ) else (
    pure (Sum.inr ())
  )
  partial_fixpoint
def laws_eqSlotS_l0 (a0 : List Slt) (a1 : List Slt) (z0t_5 : Int) : Option (Bool ⊕ Unit) :=
  if z0t_5 < (a0.length : Int) then (
    (idx a0 z0t_5 >>= fun x19 =>
    (idx a1 z0t_5 >>= fun x23 =>
    (laws_eqSlot x19 x23 >>= fun x25 =>
    if (!x25) = true then (
      pure (Sum.inl false)
    ) else (
      laws_eqSlotS_l0 a0 a1 (IntKind.i64.wrap (z0t_5 + 1))
    )
    )
    )
    )
  ) else (
    pure (Sum.inr ())
  )
  partial_fixpoint
end
def laws_FnExactValueSame (a0 : Val) (a1 : Val) : Option (Bool) :=
  (laws_szValue a0 1048576 >>= fun x12 =>
  if x12 < 0 then (
    pure true
  ) else (
    (laws_szValue a1 x12 >>= fun x17 =>
    if x17 < 0 then (
      pure true
    ) else (
      (laws_toValue a0 >>= fun x21 =>
      (laws_toValue a1 >>= fun x23 =>
      (spec_ValueSame x21 x23 >>= fun x24 =>
      (laws_toValue a0 >>= fun x26 =>
      (laws_toValue a1 >>= fun x28 =>
      (impl_ValueSame x26 x28 >>= fun x31 =>
      if (!(x31 == x24)) = true then (
        pure false
      ) else (
        (laws_toValue a0 >>= fun x37 =>
        (laws_eqValue x26 x37 >>= fun x38 =>
        if (!x38) = true then (
          pure false
        ) else (
          (laws_toValue a1 >>= fun x42 =>
          (laws_eqValue x28 x42 >>= fun x43 =>
          if (!x43) = true then (
            pure false
          ) else (
            pure true
          )
          )
          )
        )
        )
        )
      )
      )
      )
      )
      )
      )
      )
    )
    )
  )
  )
end Go.Proofs.SA
