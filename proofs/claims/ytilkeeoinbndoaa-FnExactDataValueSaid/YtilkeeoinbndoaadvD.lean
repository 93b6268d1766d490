/- Printed by a program of mine: the plain functions that the code computes (D), and the walks that show it (W). -/
import Derived.Test.YtilkeeoinbndoaaGt
import Derived.Lib.Bytealg
set_option maxRecDepth 100000
set_option maxHeartbeats 2000000
set_option linter.unusedSimpArgs false
set_option linter.unusedVariables false
open Go Go.Proofs Go.Proofs.Shadow
namespace Go.Proofs.SA
def laws_szIntS (a0 : List Int) (a1 : Int) : Option (Int) :=
  if (IntKind.i64.wrap (a1 - (a0.length : Int))) < 0 then (
    pure (-1)
  ) else (
    pure (IntKind.i64.wrap (a1 - (a0.length : Int)))
  )
mutual
def laws_szForm (a0 : Fm) (a1 : Int) : Option (Int) :=
  if (IntKind.i64.wrap (a1 - (a0.name.size : Int))) < 0 then (
    pure (-1)
  ) else (
    (laws_szIntS a0.sc (IntKind.i64.wrap (a1 - (a0.name.size : Int))) >>= fun x15 =>
    if x15 < 0 then (
      pure (-1)
    ) else (
      (laws_szFormS a0.kids x15 >>= fun x21 =>
      if x21 < 0 then (
        pure (-1)
      ) else (
        pure x21
      )
      )
    )
    )
  )
  partial_fixpoint
def laws_szFormS (a0 : List Fm) (a1 : Int) : Option (Int) :=
  if (IntKind.i64.wrap (a1 - (a0.length : Int))) < 0 then (
    pure (-1)
  ) else (
    (laws_szFormS_l0 a0 (IntKind.i64.wrap (a1 - (a0.length : Int))) 0 >>= fun o1 => match o1 with
      | .inl r => pure r
      | .inr e2t_1 => (
        pure e2t_1
      ))
  )
  partial_fixpoint
def laws_szFormS_l0 (a0 : List Fm) (z0t_1 : Int) (z0t_5 : Int) : Option (Int ⊕ Int) :=
  if z0t_5 < (a0.length : Int) then (
    (idx a0 z0t_5 >>= fun x20 =>
    (laws_szForm x20 z0t_1 >>= fun x23 =>
    if x23 < 0 then (
      pure (Sum.inl (-1))
    ) else (
      laws_szFormS_l0 a0 x23 (IntKind.i64.wrap (z0t_5 + 1))
    )
    )
    )
  ) else (
    pure (Sum.inr z0t_1)
  )
  partial_fixpoint
end
def laws_toIntS_l0 (a0 : List Int) (z0o_0 : List Int) (z0t_4 : Int) : Option (List Int) :=
  if z0t_4 < (a0.length : Int) then (
    (idx a0 z0t_4 >>= fun x18 =>
    (idx z0o_0 z0t_4 >>= fun x20 =>
    laws_toIntS_l0 a0 (z0o_0.set z0t_4.toNat x18) (IntKind.i64.wrap (z0t_4 + 1))
    )
    )
  ) else (
    pure z0o_0
  )
  partial_fixpoint
def laws_toIntS (a0 : List Int) : Option (List Int) :=
  (lmake 8 0 (a0.length : Int) >>= fun x7 =>
  (laws_toIntS_l0 a0 x7 0 >>= fun e5o_0 => 
    pure e5o_0
  )
  )
mutual
def laws_toForm (a0 : Fm) : Option (Fm) :=
  (laws_toIntS a0.sc >>= fun x15 =>
  (laws_toFormS a0.kids >>= fun x19 =>
  pure (Fm.mk a0.kind a0.name a0.num x15 x19)
  )
  )
  partial_fixpoint
def laws_toFormS (a0 : List Fm) : Option (List Fm) :=
  (lmake 80 (Fm.mk 0 (ByteArray.mk #[]) 0 [] []) (a0.length : Int) >>= fun x7 =>
  (laws_toFormS_l0 a0 x7 0 >>= fun e5o_0 => 
    pure e5o_0
  )
  )
  partial_fixpoint
def laws_toFormS_l0 (a0 : List Fm) (z0o_0 : List Fm) (z0t_4 : Int) : Option (List Fm) :=
  if z0t_4 < (a0.length : Int) then (
    (idx a0 z0t_4 >>= fun x18 =>
    (laws_toForm x18 >>= fun x20 =>
    (idx z0o_0 z0t_4 >>= fun x21 =>
    laws_toFormS_l0 a0 (z0o_0.set z0t_4.toNat x20) (IntKind.i64.wrap (z0t_4 + 1))
    )
    )
    )
  ) else (
    pure z0o_0
  )
  partial_fixpoint
end
def spec_l1Letter (a0 : Int) (a1 : Bool) : Option (Bool) :=
  ((pure ((decide (a0 ≥ 97)) && (decide (a0 ≤ 122))) : Option Bool) >>= fun x10 =>
  ((pure (x10 || (decide (a0 = 42))) : Option Bool) >>= fun x14 =>
  ((pure (x14 || (decide (a0 = 63))) : Option Bool) >>= fun x18 =>
  ((pure (x18 || (decide (a0 = 61))) : Option Bool) >>= fun x22 =>
  ((pure (x22 || (decide (a0 = 43))) : Option Bool) >>= fun x26 =>
  ((pure (x26 || (decide (a0 = 60))) : Option Bool) >>= fun x30 =>
  if x30 = true then (
    pure true
  ) else (
    ((if (!a1) = true then (
      ((pure ((decide (a0 ≥ 48)) && (decide (a0 ≤ 57))) : Option Bool) >>= fun x39 =>
      ((pure (x39 || (decide (a0 = 45))) : Option Bool) >>= fun x43 =>
      pure x43
      )
      )
    ) else (
      pure false
    ) : Option Bool) >>= fun x44 =>
    pure x44
    )
  )
  )
  )
  )
  )
  )
  )
def spec_NameValid_l0 (a0 : ByteArray) (z0t_3 : Int) : Option (Bool ⊕ Unit) :=
  ((pure ((decide (z0t_3 < (a0.size : Int))) && (decide (z0t_3 ≤ 12))) : Option Bool) >>= fun x17 =>
  if x17 = true then (
    (sidx a0 z0t_3 >>= fun x22 =>
    (spec_l1Letter x22 (decide (z0t_3 = 0)) >>= fun x25 =>
    if (!x25) = true then (
      pure (Sum.inl false)
    ) else (
      spec_NameValid_l0 a0 (IntKind.i64.wrap (z0t_3 + 1))
    )
    )
    )
  ) else (
    pure (Sum.inr ())
  )
  )
  partial_fixpoint
def spec_NameValid (a0 : ByteArray) : Option (Bool) :=
  ((pure ((decide (a0 = (ByteArray.mk #[46, 46, 46]))) || (decide (a0 = (ByteArray.mk #[95])))) : Option Bool) >>= fun x9 =>
  if x9 = true then (
    pure true
  ) else (
    (spec_NameValid_l0 a0 0 >>= fun o5 => match o5 with
      | .inl r => pure r
      | .inr _ => (
        ((pure ((decide ((a0.size : Int) ≥ 1)) && (decide ((a0.size : Int) ≤ 12))) : Option Bool) >>= fun x34 =>
        pure x34
        )
      ))
  )
  )
def spec_l1Scopes_l0 (a0 : List Int) (z0t_3 : Int) : Option (Bool ⊕ Unit) :=
  ((pure ((decide (z0t_3 < (a0.length : Int))) && (decide (z0t_3 ≤ 24))) : Option Bool) >>= fun x11 =>
  if x11 = true then (
    (idx a0 z0t_3 >>= fun x16 =>
    ((if x16 < 1 then (
      pure true
    ) else (
      (idx a0 z0t_3 >>= fun x22 =>
      pure (decide (x22 > 99))
      )
    ) : Option Bool) >>= fun x25 =>
    ((if x25 = true then (
      pure true
    ) else (
      ((if z0t_3 > 0 then (
        (idx a0 z0t_3 >>= fun x32 =>
        (idx a0 (IntKind.i64.wrap (z0t_3 - 1)) >>= fun x37 =>
        pure (decide (x32 ≤ x37))
        )
        )
      ) else (
        pure false
      ) : Option Bool) >>= fun x40 =>
      pure x40
      )
    ) : Option Bool) >>= fun x41 =>
    if x41 = true then (
      pure (Sum.inl false)
    ) else (
      spec_l1Scopes_l0 a0 (IntKind.i64.wrap (z0t_3 + 1))
    )
    )
    )
    )
  ) else (
    pure (Sum.inr ())
  )
  )
  partial_fixpoint
def spec_l1Scopes (a0 : List Int) : Option (Bool) :=
  (spec_l1Scopes_l0 a0 0 >>= fun o9 => match o9 with
    | .inl r => pure r
    | .inr _ => (
      pure (decide ((a0.length : Int) ≤ 24))
    ))
mutual
def spec_l1Is (a0 : Fm) (a1 : Int) : Option (Bool) :=
  if a1 = 0 then (
    pure false
  ) else (
    if a0.kind = 1 then (
      (spec_NameValid a0.name >>= fun x14 =>
      ((pure (x14 && (decide (a0.num = 0))) : Option Bool) >>= fun x19 =>
      ((if x19 = true then (
        (spec_l1Scopes a0.sc >>= fun x23 =>
        pure x23
        )
      ) else (
        pure false
      ) : Option Bool) >>= fun x24 =>
      ((pure (x24 && (decide ((a0.kids.length : Int) = 0))) : Option Bool) >>= fun x30 =>
      pure x30
      )
      )
      )
      )
    ) else (
      if a0.kind = 2 then (
        ((pure ((decide (a0.name = (ByteArray.mk #[]))) && (decide (a0.num ≥ 0))) : Option Bool) >>= fun x40 =>
        ((pure (x40 && (decide (a0.num ≤ 999))) : Option Bool) >>= fun x45 =>
        ((pure (x45 && (decide ((a0.sc.length : Int) = 0))) : Option Bool) >>= fun x51 =>
        ((pure (x51 && (decide ((a0.kids.length : Int) = 0))) : Option Bool) >>= fun x57 =>
        pure x57
        )
        )
        )
        )
      ) else (
        ((pure ((!decide (a0.kind = 3)) || (!decide (a0.name = (ByteArray.mk #[])))) : Option Bool) >>= fun x65 =>
        ((pure (x65 || (!decide (a0.num = 0))) : Option Bool) >>= fun x70 =>
        ((pure (x70 || (!decide ((a0.sc.length : Int) = 0))) : Option Bool) >>= fun x76 =>
        if x76 = true then (
          pure false
        ) else (
          (spec_l1Is_l0 a0 a1 0 >>= fun o23 => match o23 with
            | .inl r => pure r
            | .inr _ => (
              pure true
            ))
        )
        )
        )
        )
      )
    )
  )
  partial_fixpoint
def spec_l1Is_l0 (a0 : Fm) (a1 : Int) (z0t_5 : Int) : Option (Bool ⊕ Unit) :=
  if z0t_5 < (a0.kids.length : Int) then (
    (idx a0.kids z0t_5 >>= fun x87 =>
    (spec_l1Is x87 (IntKind.i64.wrap (a1 - 1)) >>= fun x91 =>
    if (!x91) = true then (
      pure (Sum.inl false)
    ) else (
      spec_l1Is_l0 a0 a1 (IntKind.i64.wrap (z0t_5 + 1))
    )
    )
    )
  ) else (
    pure (Sum.inr ())
  )
  partial_fixpoint
end
mutual
def spec_l1Count (a0 : Fm) : Option (Int) :=
  (spec_l1Count_l0 a0 1 0 >>= fun e4t_3 => 
    pure e4t_3
  )
  partial_fixpoint
def spec_l1Count_l0 (a0 : Fm) (z0t_3 : Int) (z0t_4 : Int) : Option (Int) :=
  if z0t_4 < (a0.kids.length : Int) then (
    (idx a0.kids z0t_4 >>= fun x16 =>
    (spec_l1Count x16 >>= fun x18 =>
    spec_l1Count_l0 a0 (IntKind.i64.wrap (z0t_3 + x18)) (IntKind.i64.wrap (z0t_4 + 1))
    )
    )
  ) else (
    pure z0t_3
  )
  partial_fixpoint
end
def spec_FormValid (a0 : Fm) : Option (Bool) :=
  (spec_l1Is a0 40 >>= fun x4 =>
  ((if x4 = true then (
    (spec_l1Count a0 >>= fun x7 =>
    pure (decide (x7 ≤ 400))
    )
  ) else (
    pure false
  ) : Option Bool) >>= fun x9 =>
  pure x9
  )
  )
mutual
def spec_l8Data (a0 : Fm) : Option (Val) :=
  if a0.kind = 2 then (
    pure (Val.mk 1 a0.num (ByteArray.mk #[]) [] (Cor.mk 0 0 (ByteArray.mk #[]) 0 [] (Fm.mk 0 (ByteArray.mk #[]) 0 [] []) []) [])
  ) else (
    if a0.kind = 1 then (
      pure (Val.mk 2 0 a0.name [] (Cor.mk 0 0 (ByteArray.mk #[]) 0 [] (Fm.mk 0 (ByteArray.mk #[]) 0 [] []) []) [])
    ) else (
      (spec_l8Data_l0 a0 [] 0 >>= fun e14o_0 => 
        pure (Val.mk 3 0 (ByteArray.mk #[]) e14o_0 (Cor.mk 0 0 (ByteArray.mk #[]) 0 [] (Fm.mk 0 (ByteArray.mk #[]) 0 [] []) []) [])
      )
    )
  )
  partial_fixpoint
def spec_l8Data_l0 (a0 : Fm) (z0o_0 : List Val) (z0t_4 : Int) : Option (List Val) :=
  if z0t_4 < (a0.kids.length : Int) then (
    (idx a0.kids z0t_4 >>= fun x30 =>
    (spec_l8Data x30 >>= fun x32 =>
    (lcat 248 z0o_0 [x32] >>= fun x34 =>
    spec_l8Data_l0 a0 x34 (IntKind.i64.wrap (z0t_4 + 1))
    )
    )
    )
  ) else (
    pure z0o_0
  )
  partial_fixpoint
end
def spec_DataValue (a0 : Fm) : Option (Val × Bool) :=
  (spec_FormValid a0 >>= fun x5 =>
  if (!x5) = true then (
    pure (Val.mk 0 0 (ByteArray.mk #[]) [] (Cor.mk 0 0 (ByteArray.mk #[]) 0 [] (Fm.mk 0 (ByteArray.mk #[]) 0 [] []) []) [], false)
  ) else (
    (spec_l8Data a0 >>= fun x9 =>
    pure (x9, true)
    )
  )
  )
def strings_IndexByte (a0 : ByteArray) (a1 : Int) : Option Int := some (Lib.indexByte a0.data.toList a1.toNat.toUInt8)
def impl_within (a0 : Int) (a1 : Int) (a2 : Int) : Option (Bool) :=
  ((pure ((decide (a0 ≥ a1)) && (decide (a0 ≤ a2))) : Option Bool) >>= fun x14 =>
  pure x14
  )
def impl_NameValid_l0 (a0 : ByteArray) (z0t_3 : Int) : Option (Bool ⊕ Unit) :=
  if z0t_3 < (a0.size : Int) then (
    (sidx a0 z0t_3 >>= fun x19 =>
    ((pure ((decide (x19 ≥ 97)) && (decide (x19 ≤ 122))) : Option Bool) >>= fun x26 =>
    ((if x26 = true then (
      pure true
    ) else (
      (strings_IndexByte (ByteArray.mk #[42, 63, 61, 43, 60]) x19 >>= fun x29 =>
      pure (decide (x29 ≥ 0))
      )
    ) : Option Bool) >>= fun x31 =>
    if x31 = true then (
      impl_NameValid_l0 a0 (IntKind.i64.wrap (z0t_3 + 1))
    ) else (
      ((if z0t_3 > 0 then (
        ((pure ((decide (x19 ≥ 48)) && (decide (x19 ≤ 57))) : Option Bool) >>= fun x41 =>
        ((pure (x41 || (decide (x19 = 45))) : Option Bool) >>= fun x45 =>
        pure x45
        )
        )
      ) else (
        pure false
      ) : Option Bool) >>= fun x46 =>
      if x46 = true then (
        impl_NameValid_l0 a0 (IntKind.i64.wrap (z0t_3 + 1))
      ) else (
        pure (Sum.inl false)
      )
      )
    )
    )
    )
    )
  ) else (
    pure (Sum.inr ())
  )
  partial_fixpoint
def impl_NameValid (a0 : ByteArray) : Option (Bool) :=
  ((pure ((decide (a0 = (ByteArray.mk #[46, 46, 46]))) || (decide (a0 = (ByteArray.mk #[95])))) : Option Bool) >>= fun x10 =>
  if x10 = true then (
    pure true
  ) else (
    (impl_NameValid_l0 a0 0 >>= fun o13 => match o13 with
      | .inl r => pure r
      | .inr _ => (
        (impl_within (a0.size : Int) 1 12 >>= fun x49 =>
        pure x49
        )
      ))
  )
  )
def impl_scopesOk_l0 (a0 : List Int) (z0t_7 : Int) : Option (Bool ⊕ Unit) :=
  if z0t_7 < (a0.length : Int) then (
    (idx a0 z0t_7 >>= fun x10 =>
    (impl_within x10 1 99 >>= fun x13 =>
    ((if (!x13) = true then (
      pure true
    ) else (
      ((if z0t_7 > 0 then (
        (idx a0 (IntKind.i64.wrap (z0t_7 - 1)) >>= fun x22 =>
        pure (decide (x22 ≥ x10))
        )
      ) else (
        pure false
      ) : Option Bool) >>= fun x26 =>
      pure x26
      )
    ) : Option Bool) >>= fun x27 =>
    if x27 = true then (
      pure (Sum.inl false)
    ) else (
      impl_scopesOk_l0 a0 (IntKind.i64.wrap (z0t_7 + 1))
    )
    )
    )
    )
  ) else (
    pure (Sum.inr ())
  )
  partial_fixpoint
def impl_scopesOk (a0 : List Int) : Option (Bool) :=
  (impl_scopesOk_l0 a0 0 >>= fun o5 => match o5 with
    | .inl r => pure r
    | .inr _ => (
      pure (decide ((a0.length : Int) ≤ 24))
    ))
mutual
def impl_formOk (a0 : Fm) (a1 : Int) (c0 : Int) : Option (Bool × Int) :=
  ((pure ((decide ((IntKind.i64.wrap (c0 - 1)) < 0)) || (decide (a1 > 40))) : Option Bool) >>= fun x21 =>
  if x21 = true then (
    pure (false, IntKind.i64.wrap (c0 - 1))
  ) else (
    if a0.kind = 1 then (
      (impl_NameValid a0.name >>= fun x28 =>
      ((pure (x28 && (decide (a0.num = 0))) : Option Bool) >>= fun x33 =>
      ((if x33 = true then (
        (impl_scopesOk a0.sc >>= fun x37 =>
        pure x37
        )
      ) else (
        pure false
      ) : Option Bool) >>= fun x38 =>
      ((pure (x38 && (decide ((a0.kids.length : Int) = 0))) : Option Bool) >>= fun x44 =>
      pure (x44, IntKind.i64.wrap (c0 - 1))
      )
      )
      )
      )
    ) else (
      if a0.kind = 2 then (
        ((if a0.name = (ByteArray.mk #[]) then (
          (impl_within a0.num 0 999 >>= fun x53 =>
          pure x53
          )
        ) else (
          pure false
        ) : Option Bool) >>= fun x54 =>
        ((pure (x54 && (decide ((a0.sc.length : Int) = 0))) : Option Bool) >>= fun x60 =>
        ((pure (x60 && (decide ((a0.kids.length : Int) = 0))) : Option Bool) >>= fun x66 =>
        pure (x66, IntKind.i64.wrap (c0 - 1))
        )
        )
        )
      ) else (
        if a0.kind = 3 then (
          ((pure ((!decide (a0.name = (ByteArray.mk #[]))) || (!decide (a0.num = 0))) : Option Bool) >>= fun x76 =>
          ((pure (x76 || (decide ((a0.sc.length : Int) > 0))) : Option Bool) >>= fun x82 =>
          if x82 = true then (
            pure (false, IntKind.i64.wrap (c0 - 1))
          ) else (
            (impl_formOk_l0 a0 a1 0 (IntKind.i64.wrap (c0 - 1)) >>= fun o29 => match o29 with
              | .inl r => pure r
              | .inr e30x_0_0 => (
                pure (true, e30x_0_0)
              ))
          )
          )
          )
        ) else (
          pure (false, IntKind.i64.wrap (c0 - 1))
        )
      )
    )
  )
  )
  partial_fixpoint
def impl_formOk_l0 (a0 : Fm) (a1 : Int) (z0t_86 : Int) (z0x_0_0 : Int) : Option ((Bool × Int) ⊕ Int) :=
  if z0t_86 < (a0.kids.length : Int) then (
    (idx a0.kids z0t_86 >>= fun x88 =>
    (impl_formOk x88 (IntKind.i64.wrap (a1 + 1)) z0x_0_0 >>= fun x94 =>
    if (!x94.1) = true then (
      pure (Sum.inl (false, x94.2))
    ) else (
      impl_formOk_l0 a0 a1 (IntKind.i64.wrap (z0t_86 + 1)) x94.2
    )
    )
    )
  ) else (
    pure (Sum.inr z0x_0_0)
  )
  partial_fixpoint
end
def impl_FormValid (a0 : Fm) : Option (Bool) :=
  (impl_formOk a0 1 400 >>= fun x5 =>
  pure x5.1
  )
mutual
def impl_dataValue (a0 : Fm) : Option (Val) :=
  if a0.kind = 2 then (
    pure (Val.mk 1 a0.num (ByteArray.mk #[]) [] (Cor.mk 0 0 (ByteArray.mk #[]) 0 [] (Fm.mk 0 (ByteArray.mk #[]) 0 [] []) []) [])
  ) else (
    if a0.kind = 1 then (
      pure (Val.mk 2 0 a0.name [] (Cor.mk 0 0 (ByteArray.mk #[]) 0 [] (Fm.mk 0 (ByteArray.mk #[]) 0 [] []) []) [])
    ) else (
      (impl_dataValue_l0 a0 [] 0 >>= fun e17o_0 => 
        pure (Val.mk 3 0 (ByteArray.mk #[]) e17o_0 (Cor.mk 0 0 (ByteArray.mk #[]) 0 [] (Fm.mk 0 (ByteArray.mk #[]) 0 [] []) []) [])
      )
    )
  )
  partial_fixpoint
def impl_dataValue_l0 (a0 : Fm) (z0o_0 : List Val) (z0t_22 : Int) : Option (List Val) :=
  if z0t_22 < (a0.kids.length : Int) then (
    (idx a0.kids z0t_22 >>= fun x24 =>
    (impl_dataValue x24 >>= fun x29 =>
    (lcat 248 z0o_0 [x29] >>= fun x31 =>
    impl_dataValue_l0 a0 x31 (IntKind.i64.wrap (z0t_22 + 1))
    )
    )
    )
  ) else (
    pure z0o_0
  )
  partial_fixpoint
end
def impl_DataValue (a0 : Fm) : Option (Val × Bool) :=
  (impl_FormValid a0 >>= fun x5 =>
  if (!x5) = true then (
    pure (Val.mk 0 0 (ByteArray.mk #[]) [] (Cor.mk 0 0 (ByteArray.mk #[]) 0 [] (Fm.mk 0 (ByteArray.mk #[]) 0 [] []) []) [], false)
  ) else (
    (impl_dataValue a0 >>= fun x9 =>
    pure (x9, true)
    )
  )
  )
def laws_eqIntS_l0 (a0 : List Int) (a1 : List Int) (z0t_5 : Int) : Option (Bool ⊕ Unit) :=
  if z0t_5 < (a0.length : Int) then (
    (idx a0 z0t_5 >>= fun x19 =>
    (idx a1 z0t_5 >>= fun x23 =>
    if x19 = x23 then (
      laws_eqIntS_l0 a0 a1 (IntKind.i64.wrap (z0t_5 + 1))
    ) else (
      pure (Sum.inl false)
    )
    )
    )
  ) else (
    pure (Sum.inr ())
  )
  partial_fixpoint
def laws_eqIntS (a0 : List Int) (a1 : List Int) : Option (Bool) :=
  if (a0.length : Int) = (a1.length : Int) then (
    (laws_eqIntS_l0 a0 a1 0 >>= fun o1 => match o1 with
      | .inl r => pure r
      | .inr _ => (
        pure true
      ))
  ) else (
    pure false
  )
mutual
def laws_eqForm (a0 : Fm) (a1 : Fm) : Option (Bool) :=
  if a0.kind = a1.kind then (
    if a0.name = a1.name then (
      if a0.num = a1.num then (
        (laws_eqIntS a0.sc a1.sc >>= fun x24 =>
        if (!x24) = true then (
          pure false
        ) else (
          (laws_eqFormS a0.kids a1.kids >>= fun x30 =>
          if (!x30) = true then (
            pure false
          ) else (
            pure true
          )
          )
        )
        )
      ) else (
        pure false
      )
    ) else (
      pure false
    )
  ) else (
    pure false
  )
  partial_fixpoint
def laws_eqFormS (a0 : List Fm) (a1 : List Fm) : Option (Bool) :=
  if (a0.length : Int) = (a1.length : Int) then (
    (laws_eqFormS_l0 a0 a1 0 >>= fun o1 => match o1 with
      | .inl r => pure r
      | .inr _ => (
        pure true
      ))
  ) else (
    pure false
  )
  partial_fixpoint
def laws_eqFormS_l0 (a0 : List Fm) (a1 : List Fm) (z0t_5 : Int) : Option (Bool ⊕ Unit) :=
  if z0t_5 < (a0.length : Int) then (
    (idx a0 z0t_5 >>= fun x19 =>
    (idx a1 z0t_5 >>= fun x23 =>
    (laws_eqForm x19 x23 >>= fun x25 =>
    if (!x25) = true then (
      pure (Sum.inl false)
    ) else (
      laws_eqFormS_l0 a0 a1 (IntKind.i64.wrap (z0t_5 + 1))
    )
    )
    )
    )
  ) else (
    pure (Sum.inr ())
  )
  partial_fixpoint
end
mutual
def laws_eqCore (a0 : Cor) (a1 : Cor) : Option (Bool) :=
  if a0.kind = a1.kind then (
    if a0.id = a1.id then (
      if a0.name = a1.name then (
        if a0.num = a1.num then (
          (laws_eqIntS a0.ids a1.ids >>= fun x29 =>
          if (!x29) = true then (
            pure false
          ) else (
            (laws_eqForm a0.data a1.data >>= fun x35 =>
            if (!x35) = true then (
              pure false
            ) else (
              (laws_eqCoreS a0.kids a1.kids >>= fun x41 =>
              if (!x41) = true then (
                pure false
              ) else (
                pure true
              )
              )
            )
            )
          )
          )
        ) else (
          pure false
        )
      ) else (
        pure false
      )
    ) else (
      pure false
    )
  ) else (
    pure false
  )
  partial_fixpoint
def laws_eqCoreS (a0 : List Cor) (a1 : List Cor) : Option (Bool) :=
  if (a0.length : Int) = (a1.length : Int) then (
    (laws_eqCoreS_l0 a0 a1 0 >>= fun o1 => match o1 with
      | .inl r => pure r
      | .inr _ => (
        pure true
      ))
  ) else (
    pure false
  )
  partial_fixpoint
def laws_eqCoreS_l0 (a0 : List Cor) (a1 : List Cor) (z0t_5 : Int) : Option (Bool ⊕ Unit) :=
  if z0t_5 < (a0.length : Int) then (
    (idx a0 z0t_5 >>= fun x19 =>
    (idx a1 z0t_5 >>= fun x23 =>
    (laws_eqCore x19 x23 >>= fun x25 =>
    if (!x25) = true then (
      pure (Sum.inl false)
    ) else (
      laws_eqCoreS_l0 a0 a1 (IntKind.i64.wrap (z0t_5 + 1))
    )
    )
    )
    )
  ) else (
    pure (Sum.inr ())
  )
  partial_fixpoint
end
mutual
def laws_eqValue (a0 : Val) (a1 : Val) : Option (Bool) :=
  if a0.kind = a1.kind then (
    if a0.num = a1.num then (
      if a0.name = a1.name then (
        (laws_eqValueS a0.items a1.items >>= fun x24 =>
        if (!x24) = true then (
          pure false
        ) else (
          (laws_eqCore a0.fn a1.fn >>= fun x30 =>
          if (!x30) = true then (
            pure false
          ) else (
            (laws_eqSlotS a0.env a1.env >>= fun x36 =>
            if (!x36) = true then (
              pure false
            ) else (
              pure true
            )
            )
          )
          )
        )
        )
      ) else (
        pure false
      )
    ) else (
      pure false
    )
  ) else (
    pure false
  )
  partial_fixpoint
def laws_eqValueS (a0 : List Val) (a1 : List Val) : Option (Bool) :=
  if (a0.length : Int) = (a1.length : Int) then (
    (laws_eqValueS_l0 a0 a1 0 >>= fun o1 => match o1 with
      | .inl r => pure r
      | .inr _ => (
        pure true
      ))
  ) else (
    pure false
  )
  partial_fixpoint
def laws_eqSlotS (a0 : List Slt) (a1 : List Slt) : Option (Bool) :=
  if (a0.length : Int) = (a1.length : Int) then (
    (laws_eqSlotS_l0 a0 a1 0 >>= fun o1 => match o1 with
      | .inl r => pure r
      | .inr _ => (
        pure true
      ))
  ) else (
    pure false
  )
  partial_fixpoint
def laws_eqSlot (a0 : Slt) (a1 : Slt) : Option (Bool) :=
  if a0.id = a1.id then (
    (laws_eqValue a0.val a1.val >>= fun x14 =>
    if (!x14) = true then (
      pure false
    ) else (
      pure true
    )
    )
  ) else (
    pure false
  )
  partial_fixpoint
def laws_eqValueS_l0 (a0 : List Val) (a1 : List Val) (z0t_5 : Int) : Option (Bool ⊕ Unit) :=
  if z0t_5 < (a0.length : Int) then (
    (idx a0 z0t_5 >>= fun x19 =>
    (idx a1 z0t_5 >>= fun x23 =>
    (laws_eqValue x19 x23 >>= fun x25 =>
    if (!x25) = true then (
      pure (Sum.inl false)
    ) else (
      laws_eqValueS_l0 a0 a1 (IntKind.i64.wrap (z0t_5 + 1))
    )
    )
    )
    )
  ) else (
    pure (Sum.inr ())
  )
  partial_fixpoint
def laws_eqSlotS_l0 (a0 : List Slt) (a1 : List Slt) (z0t_5 : Int) : Option (Bool ⊕ Unit) :=
  if z0t_5 < (a0.length : Int) then (
    (idx a0 z0t_5 >>= fun x19 =>
    (idx a1 z0t_5 >>= fun x23 =>
    (laws_eqSlot x19 x23 >>= fun x25 =>
    if (!x25) = true then (
      pure (Sum.inl false)
    ) else (
      laws_eqSlotS_l0 a0 a1 (IntKind.i64.wrap (z0t_5 + 1))
    )
    )
    )
    )
  ) else (
    pure (Sum.inr ())
  )
  partial_fixpoint
end
def laws_markText_l0 (z0t_0 : Int) (z0t_3 : ByteArray) : Option (ByteArray) :=
  if z0t_0 > 0 then (
    (scat (strOfNums [IntKind.u8.wrap (IntKind.i64.wrap (48 + (z0t_0.tmod 10)))]) z0t_3 >>= fun x15 =>
    laws_markText_l0  (IntKind.i64.wrap (z0t_0.tdiv 10)) x15
    )
  ) else (
    pure z0t_3
  )
  partial_fixpoint
def laws_markText (a0 : Int) : Option (ByteArray) :=
  if a0 ≤ 0 then (
    pure (ByteArray.mk #[109, 48])
  ) else (
    (laws_markText_l0  a0 (ByteArray.mk #[]) >>= fun e2t_3 => 
      (scat (ByteArray.mk #[109]) e2t_3 >>= fun x19 =>
      pure x19
      )
    )
  )
def laws_heldIntS_l0 (a0 : List Int) (z0t_1 : Int) (z0t_5 : Int) : Option (Int ⊕ Int) :=
  if z0t_5 < (a0.length : Int) then (
    (idx a0 z0t_5 >>= fun x14 =>
    if x14 = z0t_1 then (
      laws_heldIntS_l0 a0 (IntKind.i64.wrap (z0t_1 + 1)) (IntKind.i64.wrap (z0t_5 + 1))
    ) else (
      pure (Sum.inl (-1))
    )
    )
  ) else (
    pure (Sum.inr z0t_1)
  )
  partial_fixpoint
def laws_heldIntS (a0 : List Int) (a1 : Int) : Option (Int) :=
  (laws_heldIntS_l0 a0 a1 0 >>= fun o1 => match o1 with
    | .inl r => pure r
    | .inr e2t_1 => (
      pure e2t_1
    ))
mutual
def laws_heldFormS (a0 : List Fm) (a1 : Int) : Option (Int) :=
  (laws_heldFormS_l0 a0 a1 0 >>= fun o1 => match o1 with
    | .inl r => pure r
    | .inr e2t_1 => (
      pure e2t_1
    ))
  partial_fixpoint
def laws_heldFormS_l0 (a0 : List Fm) (z0t_1 : Int) (z0t_5 : Int) : Option (Int ⊕ Int) :=
  if z0t_5 < (a0.length : Int) then (
    (idx a0 z0t_5 >>= fun x14 =>
    if x14.kind = z0t_1 then (
      (idx a0 z0t_5 >>= fun x23 =>
      (laws_markText (IntKind.i64.wrap (z0t_1 + 1)) >>= fun x27 =>
      if x23.name = x27 then (
        (idx a0 z0t_5 >>= fun x33 =>
        if x33.num = (IntKind.i64.wrap ((IntKind.i64.wrap (z0t_1 + 1)) + 1)) then (
          (idx a0 z0t_5 >>= fun x42 =>
          (laws_heldIntS x42.sc (IntKind.i64.wrap ((IntKind.i64.wrap ((IntKind.i64.wrap (z0t_1 + 1)) + 1)) + 1)) >>= fun x46 =>
          if x46 < 0 then (
            pure (Sum.inl (-1))
          ) else (
            (idx a0 z0t_5 >>= fun x51 =>
            (laws_heldFormS x51.kids x46 >>= fun x55 =>
            if x55 < 0 then (
              pure (Sum.inl (-1))
            ) else (
              laws_heldFormS_l0 a0 x55 (IntKind.i64.wrap (z0t_5 + 1))
            )
            )
            )
          )
          )
          )
        ) else (
          pure (Sum.inl (-1))
        )
        )
      ) else (
        pure (Sum.inl (-1))
      )
      )
      )
    ) else (
      pure (Sum.inl (-1))
    )
    )
  ) else (
    pure (Sum.inr z0t_1)
  )
  partial_fixpoint
end
mutual
def laws_heldCoreS (a0 : List Cor) (a1 : Int) : Option (Int) :=
  (laws_heldCoreS_l0 a0 a1 0 >>= fun o1 => match o1 with
    | .inl r => pure r
    | .inr e2t_1 => (
      pure e2t_1
    ))
  partial_fixpoint
def laws_heldCoreS_l0 (a0 : List Cor) (z0t_1 : Int) (z0t_5 : Int) : Option (Int ⊕ Int) :=
  if z0t_5 < (a0.length : Int) then (
    (idx a0 z0t_5 >>= fun x14 =>
    if x14.kind = z0t_1 then (
      (idx a0 z0t_5 >>= fun x23 =>
      if x23.id = (IntKind.i64.wrap (z0t_1 + 1)) then (
        (idx a0 z0t_5 >>= fun x32 =>
        (laws_markText (IntKind.i64.wrap ((IntKind.i64.wrap (z0t_1 + 1)) + 1)) >>= fun x36 =>
        if x32.name = x36 then (
          (idx a0 z0t_5 >>= fun x42 =>
          if x42.num = (IntKind.i64.wrap ((IntKind.i64.wrap ((IntKind.i64.wrap (z0t_1 + 1)) + 1)) + 1)) then (
            (idx a0 z0t_5 >>= fun x51 =>
            (laws_heldIntS x51.ids (IntKind.i64.wrap ((IntKind.i64.wrap ((IntKind.i64.wrap ((IntKind.i64.wrap (z0t_1 + 1)) + 1)) + 1)) + 1)) >>= fun x55 =>
            if x55 < 0 then (
              pure (Sum.inl (-1))
            ) else (
              (idx a0 z0t_5 >>= fun x60 =>
              if x60.data.kind = x55 then (
                (idx a0 z0t_5 >>= fun x70 =>
                (laws_markText (IntKind.i64.wrap (x55 + 1)) >>= fun x75 =>
                if x70.data.name = x75 then (
                  (idx a0 z0t_5 >>= fun x81 =>
                  if x81.data.num = (IntKind.i64.wrap ((IntKind.i64.wrap (x55 + 1)) + 1)) then (
                    (idx a0 z0t_5 >>= fun x91 =>
                    (laws_heldIntS x91.data.sc (IntKind.i64.wrap ((IntKind.i64.wrap ((IntKind.i64.wrap (x55 + 1)) + 1)) + 1)) >>= fun x96 =>
                    if x96 < 0 then (
                      pure (Sum.inl (-1))
                    ) else (
                      (idx a0 z0t_5 >>= fun x101 =>
                      (laws_heldFormS x101.data.kids x96 >>= fun x106 =>
                      if x106 < 0 then (
                        pure (Sum.inl (-1))
                      ) else (
                        (idx a0 z0t_5 >>= fun x111 =>
                        (laws_heldCoreS x111.kids x106 >>= fun x115 =>
                        if x115 < 0 then (
                          pure (Sum.inl (-1))
                        ) else (
                          laws_heldCoreS_l0 a0 x115 (IntKind.i64.wrap (z0t_5 + 1))
                        )
                        )
                        )
                      )
                      )
                      )
                    )
                    )
                    )
                  ) else (
                    pure (Sum.inl (-1))
                  )
                  )
                ) else (
                  pure (Sum.inl (-1))
                )
                )
                )
              ) else (
                pure (Sum.inl (-1))
              )
              )
            )
            )
            )
          ) else (
            pure (Sum.inl (-1))
          )
          )
        ) else (
          pure (Sum.inl (-1))
        )
        )
        )
      ) else (
        pure (Sum.inl (-1))
      )
      )
    ) else (
      pure (Sum.inl (-1))
    )
    )
  ) else (
    pure (Sum.inr z0t_1)
  )
  partial_fixpoint
end
mutual
def laws_heldValueS (a0 : List Val) (a1 : Int) : Option (Int) :=
  (laws_heldValueS_l0 a0 a1 0 >>= fun o1 => match o1 with
    | .inl r => pure r
    | .inr e2t_1 => (
      pure e2t_1
    ))
  partial_fixpoint
def laws_heldSlotS (a0 : List Slt) (a1 : Int) : Option (Int) :=
  (laws_heldSlotS_l0 a0 a1 0 >>= fun o1 => match o1 with
    | .inl r => pure r
    | .inr e2t_1 => (
      pure e2t_1
    ))
  partial_fixpoint
def laws_heldValueS_l0 (a0 : List Val) (z0t_1 : Int) (z0t_5 : Int) : Option (Int ⊕ Int) :=
  if z0t_5 < (a0.length : Int) then (
    (idx a0 z0t_5 >>= fun x14 =>
    if x14.kind = z0t_1 then (
      (idx a0 z0t_5 >>= fun x23 =>
      if x23.num = (IntKind.i64.wrap (z0t_1 + 1)) then (
        (idx a0 z0t_5 >>= fun x32 =>
        (laws_markText (IntKind.i64.wrap ((IntKind.i64.wrap (z0t_1 + 1)) + 1)) >>= fun x36 =>
        if x32.name = x36 then (
          (idx a0 z0t_5 >>= fun x42 =>
          (laws_heldValueS x42.items (IntKind.i64.wrap ((IntKind.i64.wrap ((IntKind.i64.wrap (z0t_1 + 1)) + 1)) + 1)) >>= fun x46 =>
          if x46 < 0 then (
            pure (Sum.inl (-1))
          ) else (
            (idx a0 z0t_5 >>= fun x51 =>
            if x51.fn.kind = x46 then (
              (idx a0 z0t_5 >>= fun x61 =>
              if x61.fn.id = (IntKind.i64.wrap (x46 + 1)) then (
                (idx a0 z0t_5 >>= fun x71 =>
                (laws_markText (IntKind.i64.wrap ((IntKind.i64.wrap (x46 + 1)) + 1)) >>= fun x76 =>
                if x71.fn.name = x76 then (
                  (idx a0 z0t_5 >>= fun x82 =>
                  if x82.fn.num = (IntKind.i64.wrap ((IntKind.i64.wrap ((IntKind.i64.wrap (x46 + 1)) + 1)) + 1)) then (
                    (idx a0 z0t_5 >>= fun x92 =>
                    (laws_heldIntS x92.fn.ids (IntKind.i64.wrap ((IntKind.i64.wrap ((IntKind.i64.wrap ((IntKind.i64.wrap (x46 + 1)) + 1)) + 1)) + 1)) >>= fun x97 =>
                    if x97 < 0 then (
                      pure (Sum.inl (-1))
                    ) else (
                      (idx a0 z0t_5 >>= fun x102 =>
                      if x102.fn.data.kind = x97 then (
                        (idx a0 z0t_5 >>= fun x113 =>
                        (laws_markText (IntKind.i64.wrap (x97 + 1)) >>= fun x119 =>
                        if x113.fn.data.name = x119 then (
                          (idx a0 z0t_5 >>= fun x125 =>
                          if x125.fn.data.num = (IntKind.i64.wrap ((IntKind.i64.wrap (x97 + 1)) + 1)) then (
                            (idx a0 z0t_5 >>= fun x136 =>
                            (laws_heldIntS x136.fn.data.sc (IntKind.i64.wrap ((IntKind.i64.wrap ((IntKind.i64.wrap (x97 + 1)) + 1)) + 1)) >>= fun x142 =>
                            if x142 < 0 then (
                              pure (Sum.inl (-1))
                            ) else (
                              (idx a0 z0t_5 >>= fun x147 =>
                              (laws_heldFormS x147.fn.data.kids x142 >>= fun x153 =>
                              if x153 < 0 then (
                                pure (Sum.inl (-1))
                              ) else (
                                (idx a0 z0t_5 >>= fun x158 =>
                                (laws_heldCoreS x158.fn.kids x153 >>= fun x163 =>
                                if x163 < 0 then (
                                  pure (Sum.inl (-1))
                                ) else (
                                  (idx a0 z0t_5 >>= fun x168 =>
                                  (laws_heldSlotS x168.env x163 >>= fun x172 =>
                                  if x172 < 0 then (
                                    pure (Sum.inl (-1))
                                  ) else (
                                    laws_heldValueS_l0 a0 x172 (IntKind.i64.wrap (z0t_5 + 1))
                                  )
                                  )
                                  )
                                )
                                )
                                )
                              )
                              )
                              )
                            )
                            )
                            )
                          ) else (
                            pure (Sum.inl (-1))
                          )
                          )
                        ) else (
                          pure (Sum.inl (-1))
                        )
                        )
                        )
                      ) else (
                        pure (Sum.inl (-1))
                      )
                      )
                    )
                    )
                    )
                  ) else (
                    pure (Sum.inl (-1))
                  )
                  )
                ) else (
                  pure (Sum.inl (-1))
                )
                )
                )
              ) else (
                pure (Sum.inl (-1))
              )
              )
            ) else (
              pure (Sum.inl (-1))
            )
            )
          )
          )
          )
        ) else (
          pure (Sum.inl (-1))
        )
        )
        )
      ) else (
        pure (Sum.inl (-1))
      )
      )
    ) else (
      pure (Sum.inl (-1))
    )
    )
  ) else (
    pure (Sum.inr z0t_1)
  )
  partial_fixpoint
def laws_heldSlotS_l0 (a0 : List Slt) (z0t_1 : Int) (z0t_5 : Int) : Option (Int ⊕ Int) :=
  if z0t_5 < (a0.length : Int) then (
    (idx a0 z0t_5 >>= fun x14 =>
    if x14.id = z0t_1 then (
      (idx a0 z0t_5 >>= fun x23 =>
      if x23.val.kind = (IntKind.i64.wrap (z0t_1 + 1)) then (
        (idx a0 z0t_5 >>= fun x33 =>
        if x33.val.num = (IntKind.i64.wrap ((IntKind.i64.wrap (z0t_1 + 1)) + 1)) then (
          (idx a0 z0t_5 >>= fun x43 =>
          (laws_markText (IntKind.i64.wrap ((IntKind.i64.wrap ((IntKind.i64.wrap (z0t_1 + 1)) + 1)) + 1)) >>= fun x48 =>
          if x43.val.name = x48 then (
            (idx a0 z0t_5 >>= fun x54 =>
            (laws_heldValueS x54.val.items (IntKind.i64.wrap ((IntKind.i64.wrap ((IntKind.i64.wrap ((IntKind.i64.wrap (z0t_1 + 1)) + 1)) + 1)) + 1)) >>= fun x59 =>
            if x59 < 0 then (
              pure (Sum.inl (-1))
            ) else (
              (idx a0 z0t_5 >>= fun x64 =>
              if x64.val.fn.kind = x59 then (
                (idx a0 z0t_5 >>= fun x75 =>
                if x75.val.fn.id = (IntKind.i64.wrap (x59 + 1)) then (
                  (idx a0 z0t_5 >>= fun x86 =>
                  (laws_markText (IntKind.i64.wrap ((IntKind.i64.wrap (x59 + 1)) + 1)) >>= fun x92 =>
                  if x86.val.fn.name = x92 then (
                    (idx a0 z0t_5 >>= fun x98 =>
                    if x98.val.fn.num = (IntKind.i64.wrap ((IntKind.i64.wrap ((IntKind.i64.wrap (x59 + 1)) + 1)) + 1)) then (
                      (idx a0 z0t_5 >>= fun x109 =>
                      (laws_heldIntS x109.val.fn.ids (IntKind.i64.wrap ((IntKind.i64.wrap ((IntKind.i64.wrap ((IntKind.i64.wrap (x59 + 1)) + 1)) + 1)) + 1)) >>= fun x115 =>
                      if x115 < 0 then (
                        pure (Sum.inl (-1))
                      ) else (
                        (idx a0 z0t_5 >>= fun x120 =>
                        if x120.val.fn.data.kind = x115 then (
                          (idx a0 z0t_5 >>= fun x132 =>
                          (laws_markText (IntKind.i64.wrap (x115 + 1)) >>= fun x139 =>
                          if x132.val.fn.data.name = x139 then (
                            (idx a0 z0t_5 >>= fun x145 =>
                            if x145.val.fn.data.num = (IntKind.i64.wrap ((IntKind.i64.wrap (x115 + 1)) + 1)) then (
                              (idx a0 z0t_5 >>= fun x157 =>
                              (laws_heldIntS x157.val.fn.data.sc (IntKind.i64.wrap ((IntKind.i64.wrap ((IntKind.i64.wrap (x115 + 1)) + 1)) + 1)) >>= fun x164 =>
                              if x164 < 0 then (
                                pure (Sum.inl (-1))
                              ) else (
                                (idx a0 z0t_5 >>= fun x169 =>
                                (laws_heldFormS x169.val.fn.data.kids x164 >>= fun x176 =>
                                if x176 < 0 then (
                                  pure (Sum.inl (-1))
                                ) else (
                                  (idx a0 z0t_5 >>= fun x181 =>
                                  (laws_heldCoreS x181.val.fn.kids x176 >>= fun x187 =>
                                  if x187 < 0 then (
                                    pure (Sum.inl (-1))
                                  ) else (
                                    (idx a0 z0t_5 >>= fun x192 =>
                                    (laws_heldSlotS x192.val.env x187 >>= fun x197 =>
                                    if x197 < 0 then (
                                      pure (Sum.inl (-1))
                                    ) else (
                                      laws_heldSlotS_l0 a0 x197 (IntKind.i64.wrap (z0t_5 + 1))
                                    )
                                    )
                                    )
                                  )
                                  )
                                  )
                                )
                                )
                                )
                              )
                              )
                              )
                            ) else (
                              pure (Sum.inl (-1))
                            )
                            )
                          ) else (
                            pure (Sum.inl (-1))
                          )
                          )
                          )
                        ) else (
                          pure (Sum.inl (-1))
                        )
                        )
                      )
                      )
                      )
                    ) else (
                      pure (Sum.inl (-1))
                    )
                    )
                  ) else (
                    pure (Sum.inl (-1))
                  )
                  )
                  )
                ) else (
                  pure (Sum.inl (-1))
                )
                )
              ) else (
                pure (Sum.inl (-1))
              )
              )
            )
            )
            )
          ) else (
            pure (Sum.inl (-1))
          )
          )
          )
        ) else (
          pure (Sum.inl (-1))
        )
        )
      ) else (
        pure (Sum.inl (-1))
      )
      )
    ) else (
      pure (Sum.inl (-1))
    )
    )
  ) else (
    pure (Sum.inr z0t_1)
  )
  partial_fixpoint
end
def laws_heldForm (a0 : Fm) (a1 : Int) : Option (Int) :=
  (laws_heldIntS a0.sc a1 >>= fun x8 =>
  if x8 < 0 then (
    pure (-1)
  ) else (
    (laws_heldFormS a0.kids x8 >>= fun x14 =>
    if x14 < 0 then (
      pure (-1)
    ) else (
      pure x14
    )
    )
  )
  )
def laws_heldCore (a0 : Cor) (a1 : Int) : Option (Int) :=
  (laws_heldIntS a0.ids a1 >>= fun x8 =>
  if x8 < 0 then (
    pure (-1)
  ) else (
    (laws_heldForm a0.data x8 >>= fun x14 =>
    if x14 < 0 then (
      pure (-1)
    ) else (
      (laws_heldCoreS a0.kids x14 >>= fun x20 =>
      if x20 < 0 then (
        pure (-1)
      ) else (
        pure x20
      )
      )
    )
    )
  )
  )
def laws_heldValue (a0 : Val) (a1 : Int) : Option (Int) :=
  (laws_heldValueS a0.items a1 >>= fun x8 =>
  if x8 < 0 then (
    pure (-1)
  ) else (
    (laws_heldCore a0.fn x8 >>= fun x14 =>
    if x14 < 0 then (
      pure (-1)
    ) else (
      (laws_heldSlotS a0.env x14 >>= fun x20 =>
      if x20 < 0 then (
        pure (-1)
      ) else (
        pure x20
      )
      )
    )
    )
  )
  )
end Go.Proofs.SA

