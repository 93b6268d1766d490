/- Printed by a program of mine: the plain functions that the code computes (D), and the walks that show it (W). -/
import Derived.Test.YtmacemmkocjkaaaDoorGt
import Derived.Test.YtmacemmkocjkaaaDoorGv
set_option maxRecDepth 100000
set_option linter.unusedSimpArgs false
set_option linter.unusedVariables false
open Go Go.Proofs Go.Proofs.Shadow
namespace Go.Proofs.SA
def laws_szIntS (a0 : List Int) (a1 : Int) : Option (Int) :=
  if (IntKind.i64.wrap (a1 - (a0.length : Int))) < 0 then (
    pure (-1)
  ) else (
    pure (IntKind.i64.wrap (a1 - (a0.length : Int)))
  )
mutual
def laws_szForm (a0 : Fm) (a1 : Int) : Option (Int) :=
  if (IntKind.i64.wrap (a1 - (a0.name.size : Int))) < 0 then (
    pure (-1)
  ) else (
    (laws_szIntS a0.sc (IntKind.i64.wrap (a1 - (a0.name.size : Int))) >>= fun x15 =>
    if x15 < 0 then (
      pure (-1)
    ) else (
      (laws_szFormS a0.kids x15 >>= fun x21 =>
      if x21 < 0 then (
        pure (-1)
      ) else (
        pure x21
      )
      )
    )
    )
  )
  partial_fixpoint
def laws_szFormS (a0 : List Fm) (a1 : Int) : Option (Int) :=
  if (IntKind.i64.wrap (a1 - (a0.length : Int))) < 0 then (
    pure (-1)
  ) else (
    (laws_szFormS_l0 a0 (IntKind.i64.wrap (a1 - (a0.length : Int))) 0 >>= fun o1 => match o1 with
      | .inl r => pure r
      | .inr e2t_1 => (
        pure e2t_1
      ))
  )
  partial_fixpoint
def laws_szFormS_l0 (a0 : List Fm) (z0t_1 : Int) (z0t_5 : Int) : Option (Int ⊕ Int) :=
  if z0t_5 < (a0.length : Int) then (
    (idx a0 z0t_5 >>= fun x20 =>
    (laws_szForm x20 z0t_1 >>= fun x23 =>
    if x23 < 0 then (
      pure (Sum.inl (-1))
    ) else (
      laws_szFormS_l0 a0 x23 (IntKind.i64.wrap (z0t_5 + 1))
    )
    )
    )
  ) else (
    pure (Sum.inr z0t_1)
  )
  partial_fixpoint
end
def laws_toIntS_l0 (a0 : List Int) (z0o_0 : List Int) (z0t_4 : Int) : Option (List Int) :=
  if z0t_4 < (a0.length : Int) then (
    (idx a0 z0t_4 >>= fun x18 =>
    (idx z0o_0 z0t_4 >>= fun x20 =>
    laws_toIntS_l0 a0 (z0o_0.set z0t_4.toNat x18) (IntKind.i64.wrap (z0t_4 + 1))
    )
    )
  ) else (
    pure z0o_0
  )
  partial_fixpoint
def laws_toIntS (a0 : List Int) : Option (List Int) :=
  (lmake 8 0 (a0.length : Int) >>= fun x7 =>
  (laws_toIntS_l0 a0 x7 0 >>= fun e5o_0 => 
    pure e5o_0
  )
  )
mutual
def laws_toForm (a0 : Fm) : Option (Fm) :=
  (laws_toIntS a0.sc >>= fun x15 =>
  (laws_toFormS a0.kids >>= fun x19 =>
  pure (Fm.mk a0.kind a0.name a0.num x15 x19)
  )
  )
  partial_fixpoint
def laws_toFormS (a0 : List Fm) : Option (List Fm) :=
  (lmake 80 (Fm.mk 0 (ByteArray.mk #[]) 0 [] []) (a0.length : Int) >>= fun x7 =>
  (laws_toFormS_l0 a0 x7 0 >>= fun e5o_0 => 
    pure e5o_0
  )
  )
  partial_fixpoint
def laws_toFormS_l0 (a0 : List Fm) (z0o_0 : List Fm) (z0t_4 : Int) : Option (List Fm) :=
  if z0t_4 < (a0.length : Int) then (
    (idx a0 z0t_4 >>= fun x18 =>
    (laws_toForm x18 >>= fun x20 =>
    (idx z0o_0 z0t_4 >>= fun x21 =>
    laws_toFormS_l0 a0 (z0o_0.set z0t_4.toNat x20) (IntKind.i64.wrap (z0t_4 + 1))
    )
    )
    )
  ) else (
    pure z0o_0
  )
  partial_fixpoint
end
def spec_l1In_l0 (a0 : List ByteArray) (a1 : ByteArray) (z0t_5 : Int) : Option (Bool ⊕ Unit) :=
  if z0t_5 < (a0.length : Int) then (
    (idx a0 z0t_5 >>= fun x14 =>
    if x14 = a1 then (
      pure (Sum.inl true)
    ) else (
      spec_l1In_l0 a0 a1 (IntKind.i64.wrap (z0t_5 + 1))
    )
    )
  ) else (
    pure (Sum.inr ())
  )
  partial_fixpoint
def spec_l1In (a0 : List ByteArray) (a1 : ByteArray) : Option (Bool) :=
  (spec_l1In_l0 a0 a1 0 >>= fun o1 => match o1 with
    | .inl r => pure r
    | .inr _ => (
      pure false
    ))
mutual
def spec_l1Names_o0 (a0 : List ByteArray) (a1 : Fm) : Option (List ByteArray) :=
  ((if a1.kind = 1 then (
    (spec_l1In a0 a1.name >>= fun x13 =>
    pure (!x13)
    )
  ) else (
    pure false
  ) : Option Bool) >>= fun x15 =>
  ((if x15 = true then (
    (lcat 16 a0 [a1.name] >>= fun x20 =>
    pure x20
    )
  ) else (
    pure a0
  ) : Option (List ByteArray)) >>= fun y5o_0 =>
    (spec_l1Names_o0_l0 a1 y5o_0 0 >>= fun e17o_0 => 
      pure e17o_0
    )
  )
  )
  partial_fixpoint
def spec_l1Names_o0_l0 (a1 : Fm) (z0o_0 : List ByteArray) (z0t_5 : Int) : Option (List ByteArray) :=
  if z0t_5 < (a1.kids.length : Int) then (
    (idx a1.kids z0t_5 >>= fun x32 =>
    (spec_l1Names_o0 z0o_0 x32 >>= fun x34 =>
    spec_l1Names_o0_l0 a1 x34 (IntKind.i64.wrap (z0t_5 + 1))
    )
    )
  ) else (
    pure z0o_0
  )
  partial_fixpoint
end
def spec_l1Names_l0 (a1 : Fm) (z0o_0 : List ByteArray) (z0t_5 : Int) : Option (List ByteArray) :=
  if z0t_5 < (a1.kids.length : Int) then (
    (idx a1.kids z0t_5 >>= fun x32 =>
    (spec_l1Names_o0 z0o_0 x32 >>= fun x34 =>
    spec_l1Names_l0 a1 x34 (IntKind.i64.wrap (z0t_5 + 1))
    )
    )
  ) else (
    pure z0o_0
  )
  partial_fixpoint
def spec_l1Names (a0 : List ByteArray) (a1 : Fm) : Option (List ByteArray) :=
  ((if a1.kind = 1 then (
    (spec_l1In a0 a1.name >>= fun x13 =>
    pure (!x13)
    )
  ) else (
    pure false
  ) : Option Bool) >>= fun x15 =>
  ((if x15 = true then (
    (lcat 16 a0 [a1.name] >>= fun x20 =>
    pure x20
    )
  ) else (
    pure a0
  ) : Option (List ByteArray)) >>= fun y5o_0 =>
    (spec_l1Names_l0 a1 y5o_0 0 >>= fun e17o_0 => 
      pure e17o_0
    )
  )
  )
def spec_l15Dec_l0 (z0t_0 : Int) (z0t_3 : ByteArray) : Option (Int × ByteArray) :=
  if z0t_0 > 9 then (
    (scat (strOfNums [IntKind.u8.wrap (IntKind.i64.wrap (48 + (z0t_0.tmod 10)))]) z0t_3 >>= fun x21 =>
    spec_l15Dec_l0  (IntKind.i64.wrap (z0t_0.tdiv 10)) x21
    )
  ) else (
    pure (z0t_0, z0t_3)
  )
  partial_fixpoint
def spec_l15Dec (a0 : Int) : Option (ByteArray) :=
  if a0 < (-9223372036854775807) then (
    pure (ByteArray.mk #[45, 57, 50, 50, 51, 51, 55, 50, 48, 51, 54, 56, 53, 52, 55, 55, 53, 56, 48, 56])
  ) else (
    if a0 < 0 then (
      (spec_l15Dec (IntKind.i64.wrap (0 - a0)) >>= fun x10 =>
      (scat (ByteArray.mk #[45]) x10 >>= fun x11 =>
      pure x11
      )
      )
    ) else (
      (spec_l15Dec_l0  a0 (ByteArray.mk #[]) >>= fun (e2t_0, e2t_3) => 
        (scat (strOfNums [IntKind.u8.wrap (IntKind.i64.wrap (48 + e2t_0))]) e2t_3 >>= fun x30 =>
        pure x30
        )
      )
    )
  )
  partial_fixpoint
def spec_FreshName_l0 (a0 : Fm) (x7 : List ByteArray) (z0t_4 : Int) : Option (ByteArray ⊕ Unit) :=
  if z0t_4 ≤ 400 then (
    (spec_l15Dec z0t_4 >>= fun x14 =>
    (scat (ByteArray.mk #[102, 114, 101, 115, 104]) x14 >>= fun x15 =>
    (spec_l1In x7 x15 >>= fun x16 =>
    if (!x16) = true then (
      (spec_l15Dec z0t_4 >>= fun x19 =>
      (scat (ByteArray.mk #[102, 114, 101, 115, 104]) x19 >>= fun x20 =>
      pure (Sum.inl x20)
      )
      )
    ) else (
      spec_FreshName_l0 a0 x7 (IntKind.i64.wrap (z0t_4 + 1))
    )
    )
    )
    )
  ) else (
    pure (Sum.inr ())
  )
  partial_fixpoint
def spec_FreshName (a0 : Fm) : Option (ByteArray) :=
  (spec_l1Names [] a0 >>= fun x7 =>
  (spec_FreshName_l0 a0 x7 0 >>= fun o6 => match o6 with
    | .inl r => pure r
    | .inr _ => (
      pure (ByteArray.mk #[])
    ))
  )
def slices_Index_string_string_l0 (a0 : List ByteArray) (a1 : ByteArray) (z0t_8 : Int) : Option (Int ⊕ Unit) :=
  if z0t_8 < (a0.length : Int) then (
    (idx a0 z0t_8 >>= fun x14 =>
    if a1 = x14 then (
      pure (Sum.inl z0t_8)
    ) else (
      slices_Index_string_string_l0 a0 a1 (IntKind.i64.wrap (z0t_8 + 1))
    )
    )
  ) else (
    pure (Sum.inr ())
  )
  partial_fixpoint
def slices_Index_string_string (a0 : List ByteArray) (a1 : ByteArray) : Option (Int) :=
  (slices_Index_string_string_l0 a0 a1 0 >>= fun o1 => match o1 with
    | .inl r => pure r
    | .inr _ => (
      pure (-1)
    ))
def slices_Contains_string_string (a0 : List ByteArray) (a1 : ByteArray) : Option (Bool) :=
  (slices_Index_string_string a0 a1 >>= fun x7 =>
  pure (decide (x7 ≥ 0))
  )
def impl_NamesOf_c1 (a0 : Fm) (c0 : List ByteArray) : Option (List ByteArray) :=
  ((if a0.kind = 1 then (
    (slices_Contains_string_string c0 a0.name >>= fun x10 =>
    pure (!x10)
    )
  ) else (
    pure false
  ) : Option Bool) >>= fun x12 =>
  if x12 = true then (
    (lcat 16 c0 [a0.name] >>= fun x17 =>
    pure x17
    )
  ) else (
    pure c0
  )
  )
mutual
def impl_eachForm__impl_NamesOf_c1 (a0 : Fm) (c0 : List ByteArray) : Option (List ByteArray) :=
  (impl_NamesOf_c1 a0 c0 >>= fun x8 =>
  (impl_eachForm__impl_NamesOf_c1_l0 a0 x8 0 >>= fun e15o_0 => 
    pure e15o_0
  )
  )
  partial_fixpoint
def impl_eachForm__impl_NamesOf_c1_l0 (a0 : Fm) (z0o_0 : List ByteArray) (z0t_12 : Int) : Option (List ByteArray) :=
  if z0t_12 < (a0.kids.length : Int) then (
    (idx a0.kids z0t_12 >>= fun x14 =>
    (impl_eachForm__impl_NamesOf_c1 x14 z0o_0 >>= fun x18 =>
    impl_eachForm__impl_NamesOf_c1_l0 a0 x18 (IntKind.i64.wrap (z0t_12 + 1))
    )
    )
  ) else (
    pure z0o_0
  )
  partial_fixpoint
end
def impl_NamesOf (a0 : Fm) : Option (List ByteArray) :=
  (impl_eachForm__impl_NamesOf_c1 a0 [] >>= fun x7 =>
  pure x7
  )
def strconv_Itoa (a0 : Int) : Option ByteArray := itoaF a0
def impl_FreshName_l0 (a0 : Fm) (x7 : List ByteArray) (z0t_4 : Int) : Option (ByteArray ⊕ Unit) :=
  if z0t_4 ≤ 400 then (
    (strconv_Itoa z0t_4 >>= fun x13 =>
    (scat (ByteArray.mk #[102, 114, 101, 115, 104]) x13 >>= fun x14 =>
    (slices_Contains_string_string x7 x14 >>= fun x17 =>
    if (!x17) = true then (
      pure (Sum.inl x14)
    ) else (
      impl_FreshName_l0 a0 x7 (IntKind.i64.wrap (z0t_4 + 1))
    )
    )
    )
    )
  ) else (
    pure (Sum.inr ())
  )
  partial_fixpoint
def impl_FreshName (a0 : Fm) : Option (ByteArray) :=
  (impl_NamesOf a0 >>= fun x7 =>
  (impl_FreshName_l0 a0 x7 0 >>= fun o3 => match o3 with
    | .inl r => pure r
    | .inr _ => (
      pure (ByteArray.mk #[])
    ))
  )
def laws_eqIntS_l0 (a0 : List Int) (a1 : List Int) (z0t_5 : Int) : Option (Bool ⊕ Unit) :=
  if z0t_5 < (a0.length : Int) then (
    (idx a0 z0t_5 >>= fun x19 =>
    (idx a1 z0t_5 >>= fun x23 =>
    if x19 = x23 then (
      laws_eqIntS_l0 a0 a1 (IntKind.i64.wrap (z0t_5 + 1))
    ) else (
      pure (Sum.inl false)
    )
    )
    )
  ) else (
    pure (Sum.inr ())
  )
  partial_fixpoint
def laws_eqIntS (a0 : List Int) (a1 : List Int) : Option (Bool) :=
  if (a0.length : Int) = (a1.length : Int) then (
    (laws_eqIntS_l0 a0 a1 0 >>= fun o1 => match o1 with
      | .inl r => pure r
      | .inr _ => (
        pure true
      ))
  ) else (
    pure false
  )
mutual
def laws_eqForm (a0 : Fm) (a1 : Fm) : Option (Bool) :=
  if a0.kind = a1.kind then (
    if a0.name = a1.name then (
      if a0.num = a1.num then (
        (laws_eqIntS a0.sc a1.sc >>= fun x24 =>
        if (!x24) = true then (
          pure false
        ) else (
          (laws_eqFormS a0.kids a1.kids >>= fun x30 =>
          if (!x30) = true then (
            pure false
          ) else (
            pure true
          )
          )
        )
        )
      ) else (
        pure false
      )
    ) else (
      pure false
    )
  ) else (
    pure false
  )
  partial_fixpoint
def laws_eqFormS (a0 : List Fm) (a1 : List Fm) : Option (Bool) :=
  if (a0.length : Int) = (a1.length : Int) then (
    (laws_eqFormS_l0 a0 a1 0 >>= fun o1 => match o1 with
      | .inl r => pure r
      | .inr _ => (
        pure true
      ))
  ) else (
    pure false
  )
  partial_fixpoint
def laws_eqFormS_l0 (a0 : List Fm) (a1 : List Fm) (z0t_5 : Int) : Option (Bool ⊕ Unit) :=
  if z0t_5 < (a0.length : Int) then (
    (idx a0 z0t_5 >>= fun x19 =>
    (idx a1 z0t_5 >>= fun x23 =>
    (laws_eqForm x19 x23 >>= fun x25 =>
    if (!x25) = true then (
      pure (Sum.inl false)
    ) else (
      laws_eqFormS_l0 a0 a1 (IntKind.i64.wrap (z0t_5 + 1))
    )
    )
    )
    )
  ) else (
    pure (Sum.inr ())
  )
  partial_fixpoint
end
def laws_FnExactFreshName (a0 : Fm) : Option (Bool) :=
  (laws_szForm a0 1048576 >>= fun x9 =>
  if x9 < 0 then (
    pure true
  ) else (
    (laws_toForm a0 >>= fun x13 =>
    (spec_FreshName x13 >>= fun x14 =>
    (laws_toForm a0 >>= fun x16 =>
    (impl_FreshName x16 >>= fun x18 =>
    if x18 = x14 then (
      (laws_toForm a0 >>= fun x24 =>
      (laws_eqForm x16 x24 >>= fun x25 =>
      if (!x25) = true then (
        pure false
      ) else (
        pure true
      )
      )
      )
    ) else (
      pure false
    )
    )
    )
    )
    )
  )
  )
end Go.Proofs.SA
