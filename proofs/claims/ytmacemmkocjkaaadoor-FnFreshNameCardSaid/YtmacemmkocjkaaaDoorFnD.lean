/- Printed by a program of mine: the plain functions that the code computes (D), and the walks that show it (W). -/
import Derived.Test.YtmacemmkocjkaaaDoorGt
import Derived.Test.YtmacemmkocjkaaaDoorGv
import Derived.Lib.Bytealg
set_option maxRecDepth 100000
set_option linter.unusedSimpArgs false
set_option linter.unusedVariables false
open Go Go.Proofs Go.Proofs.Shadow
namespace Go.Proofs.SA
def spec_l15Open (a0 : List Int) : Option (Rdr) :=
  if (a0.length : Int) > 2000 then (
    (lsub a0 0 2000 >>= fun x7 =>
    pure (Rdr.mk x7 0)
    )
  ) else (
    pure (Rdr.mk a0 0)
  )
def spec_l15Rd_pick (a1 : Int) (c0 : Rdr) : Option (Int × Rdr) :=
  ((pure ((decide (a1 < 1)) || (decide ((c0.b.length : Int) = 0))) : Option Bool) >>= fun x24 =>
  if x24 = true then (
    pure (0, Rdr.mk c0.b (IntKind.i64.wrap (c0.p + 1)))
  ) else (
    if (IntKind.i64.wrap ((IntKind.i64.wrap (c0.p + 1)) - 1)) < (c0.b.length : Int) then (
      (idx c0.b (IntKind.i64.wrap ((IntKind.i64.wrap (c0.p + 1)) - 1)) >>= fun x42 =>
      (irem (IntKind.i64.wrap x42) a1 >>= fun x46 =>
      pure (x46, Rdr.mk c0.b (IntKind.i64.wrap (c0.p + 1)))
      )
      )
    ) else (
      (irem (IntKind.i64.wrap ((IntKind.i64.wrap (c0.p + 1)) - 1)) (c0.b.length : Int) >>= fun x57 =>
      (idx c0.b x57 >>= fun x58 =>
      (irem (IntKind.i64.wrap ((IntKind.i64.wrap ((IntKind.i64.wrap ((IntKind.i64.wrap (c0.p + 1)) - 1)) * 7)) + 3)) (c0.b.length : Int) >>= fun x74 =>
      (idx c0.b x74 >>= fun x75 =>
      (iquo (IntKind.i64.wrap ((IntKind.i64.wrap (c0.p + 1)) - 1)) (c0.b.length : Int) >>= fun x89 =>
      (irem (bits .xor .i64 (IntKind.i64.wrap ((IntKind.i64.wrap ((IntKind.i64.wrap ((IntKind.i64.wrap ((IntKind.i64.wrap x58) * 131)) + (IntKind.i64.wrap ((IntKind.i64.wrap x75) * 1117)))) + (IntKind.i64.wrap ((IntKind.i64.wrap ((IntKind.i64.wrap (c0.p + 1)) - 1)) * 29)))) + (IntKind.i64.wrap (x89 * 53)))) (IntKind.i64.wrap ((IntKind.i64.wrap ((IntKind.i64.wrap ((IntKind.i64.wrap ((IntKind.i64.wrap ((IntKind.i64.wrap x58) * 131)) + (IntKind.i64.wrap ((IntKind.i64.wrap x75) * 1117)))) + (IntKind.i64.wrap ((IntKind.i64.wrap ((IntKind.i64.wrap (c0.p + 1)) - 1)) * 29)))) + (IntKind.i64.wrap (x89 * 53)))).tdiv 64))) a1 >>= fun x98 =>
      pure (x98, Rdr.mk c0.b (IntKind.i64.wrap (c0.p + 1)))
      )
      )
      )
      )
      )
      )
    )
  )
  )
def spec_l1Skip_l0 (a0 : ByteArray) (z0t_1 : Int) : Option (Int) :=
  ((if z0t_1 < (a0.size : Int) then (
    (sidx a0 z0t_1 >>= fun x12 =>
    pure (decide (x12 = 32))
    )
  ) else (
    pure false
  ) : Option Bool) >>= fun x14 =>
  if x14 = true then (
    spec_l1Skip_l0 a0 (IntKind.i64.wrap (z0t_1 + 1))
  ) else (
    pure z0t_1
  )
  )
  partial_fixpoint
def spec_l1Skip (a0 : ByteArray) (a1 : Int) : Option (Int) :=
  (spec_l1Skip_l0 a0 a1 >>= fun e4t_1 => 
    pure e4t_1
  )
def spec_l1Word_l0 (a0 : ByteArray) (z0t_1 : Int) : Option (Int) :=
  ((if z0t_1 < (a0.size : Int) then (
    (sidx a0 z0t_1 >>= fun x12 =>
    pure (!decide (x12 = 32))
    )
  ) else (
    pure false
  ) : Option Bool) >>= fun x14 =>
  ((if x14 = true then (
    (sidx a0 z0t_1 >>= fun x18 =>
    pure (!decide (x18 = 40))
    )
  ) else (
    pure false
  ) : Option Bool) >>= fun x20 =>
  ((if x20 = true then (
    (sidx a0 z0t_1 >>= fun x24 =>
    pure (!decide (x24 = 41))
    )
  ) else (
    pure false
  ) : Option Bool) >>= fun x26 =>
  ((if x26 = true then (
    (sidx a0 z0t_1 >>= fun x30 =>
    pure (!decide (x30 = 123))
    )
  ) else (
    pure false
  ) : Option Bool) >>= fun x32 =>
  if x32 = true then (
    spec_l1Word_l0 a0 (IntKind.i64.wrap (z0t_1 + 1))
  ) else (
    pure z0t_1
  )
  )
  )
  )
  )
  partial_fixpoint
def spec_l1Word (a0 : ByteArray) (a1 : Int) : Option (Int) :=
  (spec_l1Word_l0 a0 a1 >>= fun e10t_1 => 
    pure e10t_1
  )
def spec_l15Num_l0 (x14 : Bool) (y3t_0 : ByteArray) (z0t_5 : Int) (z0t_6 : Int) : Option ((Int × Bool) ⊕ Int) :=
  if z0t_6 < (y3t_0.size : Int) then (
    (sidx y3t_0 z0t_6 >>= fun x47 =>
    ((if x47 < 48 then (
      pure true
    ) else (
      (sidx y3t_0 z0t_6 >>= fun x52 =>
      pure (decide (x52 > 57))
      )
    ) : Option Bool) >>= fun x54 =>
    if x54 = true then (
      pure (Sum.inl (0, false))
    ) else (
      (sidx y3t_0 z0t_6 >>= fun x59 =>
      spec_l15Num_l0 x14 y3t_0 (IntKind.i64.wrap ((IntKind.i64.wrap (z0t_5 * 10)) + (IntKind.i64.wrap (IntKind.u8.wrap (x59 - 48))))) (IntKind.i64.wrap (z0t_6 + 1))
      )
    )
    )
    )
  ) else (
    pure (Sum.inr z0t_5)
  )
  partial_fixpoint
def spec_l15Num (a0 : ByteArray) : Option (Int × Bool) :=
  ((if (a0.size : Int) > 0 then (
    (sidx a0 0 >>= fun x12 =>
    pure (decide (x12 = 45))
    )
  ) else (
    pure false
  ) : Option Bool) >>= fun x14 =>
  ((if x14 = true then (
    (ssub a0 1 (a0.size : Int) >>= fun x17 =>
    pure x17
    )
  ) else (
    pure a0
  ) : Option (ByteArray)) >>= fun y3t_0 =>
    ((pure ((decide ((y3t_0.size : Int) = 0)) || (decide ((y3t_0.size : Int) > 17))) : Option Bool) >>= fun x25 =>
    ((if x25 = true then (
      pure true
    ) else (
      (sidx y3t_0 0 >>= fun x28 =>
      ((if x28 = 48 then (
        ((pure ((decide ((y3t_0.size : Int) > 1)) || x14) : Option Bool) >>= fun x36 =>
        pure x36
        )
      ) else (
        pure false
      ) : Option Bool) >>= fun x37 =>
      pure x37
      )
      )
    ) : Option Bool) >>= fun x38 =>
    if x38 = true then (
      pure (0, false)
    ) else (
      (spec_l15Num_l0 x14 y3t_0 0 0 >>= fun o18 => match o18 with
        | .inl r => pure r
        | .inr e19t_5 => (
          if x14 = true then (
            pure (IntKind.i64.wrap (0 - e19t_5), true)
          ) else (
            pure (e19t_5, true)
          )
        ))
    )
    )
    )
  )
  )
def spec_l15Cut_l0 (a0 : ByteArray) (a1 : Int) (z0o_0 : List ByteArray) (z0t_6 : Int) (z0t_7 : Int) : Option (List ByteArray) :=
  if z0t_7 ≤ (a0.size : Int) then (
    ((if z0t_7 = (a0.size : Int) then (
      pure true
    ) else (
      (sidx a0 z0t_7 >>= fun x22 =>
      pure (decide (x22 = a1))
      )
    ) : Option Bool) >>= fun x25 =>
    if x25 = true then (
      (ssub a0 z0t_6 z0t_7 >>= fun x30 =>
      (lcat 16 z0o_0 [x30] >>= fun x32 =>
      spec_l15Cut_l0 a0 a1 x32 (IntKind.i64.wrap (z0t_7 + 1)) (IntKind.i64.wrap (z0t_7 + 1))
      )
      )
    ) else (
      spec_l15Cut_l0 a0 a1 z0o_0 z0t_6 (IntKind.i64.wrap (z0t_7 + 1))
    )
    )
  ) else (
    pure z0o_0
  )
  partial_fixpoint
def spec_l15Cut (a0 : ByteArray) (a1 : Int) : Option (List ByteArray) :=
  (spec_l15Cut_l0 a0 a1 [] 0 0 >>= fun e6o_0 => 
    pure e6o_0
  )
def spec_l1Sets_l0 (a0 : ByteArray) (a1 : Int) (z0t_7 : Int) : Option (Int) :=
  ((if z0t_7 < (a0.size : Int) then (
    (sidx a0 z0t_7 >>= fun x33 =>
    pure (!decide (x33 = 125))
    )
  ) else (
    pure false
  ) : Option Bool) >>= fun x35 =>
  if x35 = true then (
    spec_l1Sets_l0 a0 a1 (IntKind.i64.wrap (z0t_7 + 1))
  ) else (
    pure z0t_7
  )
  )
  partial_fixpoint
def spec_l1Sets_l1 (e6t_7 : Int) (x48 : List ByteArray) (z1o_0 : List Int) (z1t_9 : Int) : Option ((List Int × Int) ⊕ (List Int)) :=
  ((pure ((decide (z1t_9 < (x48.length : Int))) && (decide (z1t_9 ≤ 24))) : Option Bool) >>= fun x56 =>
  if x56 = true then (
    (idx x48 z1t_9 >>= fun x62 =>
    (spec_l15Num x62 >>= fun x64 =>
    if (!x64.2) = true then (
      pure (Sum.inl (z1o_0, -1))
    ) else (
      (lcat 8 z1o_0 [x64.1] >>= fun x73 =>
      spec_l1Sets_l1 e6t_7 x48 x73 (IntKind.i64.wrap (z1t_9 + 1))
      )
    )
    )
    )
  ) else (
    pure (Sum.inr z1o_0)
  )
  )
  partial_fixpoint
def spec_l1Sets (a0 : ByteArray) (a1 : Int) : Option (List Int × Int) :=
  ((if a1 ≥ (a0.size : Int) then (
    pure true
  ) else (
    (sidx a0 a1 >>= fun x20 =>
    pure (!decide (x20 = 123))
    )
  ) : Option Bool) >>= fun x22 =>
  if x22 = true then (
    pure ([], a1)
  ) else (
    (spec_l1Sets_l0 a0 a1 a1 >>= fun e6t_7 => 
      if e6t_7 = (a0.size : Int) then (
        pure ([], -1)
      ) else (
        (ssub a0 (IntKind.i64.wrap (a1 + 1)) e6t_7 >>= fun x47 =>
        (spec_l15Cut x47 44 >>= fun x48 =>
        (spec_l1Sets_l1 e6t_7 x48 [] 0 >>= fun o14 => match o14 with
          | .inl r => pure r
          | .inr e15o_0 => (
            pure (e15o_0, IntKind.i64.wrap (e6t_7 + 1))
          ))
        )
        )
      )
    )
  )
  )
def spec_l1Atom (a0 : ByteArray) (a1 : Int) : Option (Fm × Int) :=
  (spec_l1Word a0 a1 >>= fun x14 =>
  (ssub a0 a1 x14 >>= fun x18 =>
  (spec_l15Num x18 >>= fun x21 =>
  if x21.2 = true then (
    pure (Fm.mk 2 (ByteArray.mk #[]) x21.1 [] [], x14)
  ) else (
    if x18 = (ByteArray.mk #[]) then (
      pure (Fm.mk 0 (ByteArray.mk #[]) 0 [] [], -1)
    ) else (
      (spec_l1Sets a0 x14 >>= fun x34 =>
      pure (Fm.mk 1 x18 0 x34.1 [], x34.2)
      )
    )
  )
  )
  )
  )
mutual
def spec_l1Read (a0 : ByteArray) (a1 : Int) (a2 : Int) : Option (Fm × Int) :=
  (spec_l1Skip a0 a1 >>= fun x13 =>
  ((pure ((decide (x13 ≥ (a0.size : Int))) || (decide (a2 = 0))) : Option Bool) >>= fun x21 =>
  if x21 = true then (
    pure (Fm.mk 0 (ByteArray.mk #[]) 0 [] [], -1)
  ) else (
    (sidx a0 x13 >>= fun x25 =>
    if x25 = 40 then (
      (spec_l1Skip a0 (IntKind.i64.wrap (x13 + 1)) >>= fun x36 =>
      (spec_l1Read_l0 a0 a2 [] x36 >>= fun o21 => match o21 with
        | .inl r => pure r
        | .inr (e22o_0, e22t_1) => (
          ((if e22t_1 ≥ (a0.size : Int) then (
            pure true
          ) else (
            (sidx a0 e22t_1 >>= fun x80 =>
            pure (!decide (x80 = 41))
            )
          ) : Option Bool) >>= fun x82 =>
          if x82 = true then (
            pure (Fm.mk 3 (ByteArray.mk #[]) 0 [] e22o_0, -1)
          ) else (
            pure (Fm.mk 3 (ByteArray.mk #[]) 0 [] e22o_0, IntKind.i64.wrap (e22t_1 + 1))
          )
          )
        ))
      )
    ) else (
      (spec_l1Atom a0 x13 >>= fun x29 =>
      pure (x29.1, x29.2)
      )
    )
    )
  )
  )
  )
  partial_fixpoint
def spec_l1Read_l0 (a0 : ByteArray) (a2 : Int) (z0o_0 : List Fm) (z0t_1 : Int) : Option ((Fm × Int) ⊕ (List Fm × Int)) :=
  ((if z0t_1 < (a0.size : Int) then (
    (sidx a0 z0t_1 >>= fun x44 =>
    pure (!decide (x44 = 41))
    )
  ) else (
    pure false
  ) : Option Bool) >>= fun x46 =>
  ((pure (x46 && (decide ((z0o_0.length : Int) < 400))) : Option Bool) >>= fun x52 =>
  if x52 = true then (
    (spec_l1Read a0 z0t_1 (IntKind.i64.wrap (a2 - 1)) >>= fun x58 =>
    if x58.2 < 0 then (
      pure (Sum.inl (Fm.mk 3 (ByteArray.mk #[]) 0 [] z0o_0, -1))
    ) else (
      (lcat 80 z0o_0 [x58.1] >>= fun x68 =>
      (spec_l1Skip a0 x58.2 >>= fun x72 =>
      spec_l1Read_l0 a0 a2 x68 x72
      )
      )
    )
    )
  ) else (
    pure (Sum.inr (z0o_0, z0t_1))
  )
  )
  )
  partial_fixpoint
end
def spec_l1Letter (a0 : Int) (a1 : Bool) : Option (Bool) :=
  ((pure ((decide (a0 ≥ 97)) && (decide (a0 ≤ 122))) : Option Bool) >>= fun x10 =>
  ((pure (x10 || (decide (a0 = 42))) : Option Bool) >>= fun x14 =>
  ((pure (x14 || (decide (a0 = 63))) : Option Bool) >>= fun x18 =>
  ((pure (x18 || (decide (a0 = 61))) : Option Bool) >>= fun x22 =>
  ((pure (x22 || (decide (a0 = 43))) : Option Bool) >>= fun x26 =>
  ((pure (x26 || (decide (a0 = 60))) : Option Bool) >>= fun x30 =>
  if x30 = true then (
    pure true
  ) else (
    ((if (!a1) = true then (
      ((pure ((decide (a0 ≥ 48)) && (decide (a0 ≤ 57))) : Option Bool) >>= fun x39 =>
      ((pure (x39 || (decide (a0 = 45))) : Option Bool) >>= fun x43 =>
      pure x43
      )
      )
    ) else (
      pure false
    ) : Option Bool) >>= fun x44 =>
    pure x44
    )
  )
  )
  )
  )
  )
  )
  )
def spec_NameValid_l0 (a0 : ByteArray) (z0t_3 : Int) : Option (Bool ⊕ Unit) :=
  ((pure ((decide (z0t_3 < (a0.size : Int))) && (decide (z0t_3 ≤ 12))) : Option Bool) >>= fun x17 =>
  if x17 = true then (
    (sidx a0 z0t_3 >>= fun x22 =>
    (spec_l1Letter x22 (decide (z0t_3 = 0)) >>= fun x25 =>
    if (!x25) = true then (
      pure (Sum.inl false)
    ) else (
      spec_NameValid_l0 a0 (IntKind.i64.wrap (z0t_3 + 1))
    )
    )
    )
  ) else (
    pure (Sum.inr ())
  )
  )
  partial_fixpoint
def spec_NameValid (a0 : ByteArray) : Option (Bool) :=
  ((pure ((decide (a0 = (ByteArray.mk #[46, 46, 46]))) || (decide (a0 = (ByteArray.mk #[95])))) : Option Bool) >>= fun x9 =>
  if x9 = true then (
    pure true
  ) else (
    (spec_NameValid_l0 a0 0 >>= fun o5 => match o5 with
      | .inl r => pure r
      | .inr _ => (
        ((pure ((decide ((a0.size : Int) ≥ 1)) && (decide ((a0.size : Int) ≤ 12))) : Option Bool) >>= fun x34 =>
        pure x34
        )
      ))
  )
  )
def spec_l1Scopes_l0 (a0 : List Int) (z0t_3 : Int) : Option (Bool ⊕ Unit) :=
  ((pure ((decide (z0t_3 < (a0.length : Int))) && (decide (z0t_3 ≤ 24))) : Option Bool) >>= fun x11 =>
  if x11 = true then (
    (idx a0 z0t_3 >>= fun x16 =>
    ((if x16 < 1 then (
      pure true
    ) else (
      (idx a0 z0t_3 >>= fun x22 =>
      pure (decide (x22 > 99))
      )
    ) : Option Bool) >>= fun x25 =>
    ((if x25 = true then (
      pure true
    ) else (
      ((if z0t_3 > 0 then (
        (idx a0 z0t_3 >>= fun x32 =>
        (idx a0 (IntKind.i64.wrap (z0t_3 - 1)) >>= fun x37 =>
        pure (decide (x32 ≤ x37))
        )
        )
      ) else (
        pure false
      ) : Option Bool) >>= fun x40 =>
      pure x40
      )
    ) : Option Bool) >>= fun x41 =>
    if x41 = true then (
      pure (Sum.inl false)
    ) else (
      spec_l1Scopes_l0 a0 (IntKind.i64.wrap (z0t_3 + 1))
    )
    )
    )
    )
  ) else (
    pure (Sum.inr ())
  )
  )
  partial_fixpoint
def spec_l1Scopes (a0 : List Int) : Option (Bool) :=
  (spec_l1Scopes_l0 a0 0 >>= fun o9 => match o9 with
    | .inl r => pure r
    | .inr _ => (
      pure (decide ((a0.length : Int) ≤ 24))
    ))
mutual
def spec_l1Is (a0 : Fm) (a1 : Int) : Option (Bool) :=
  if a1 = 0 then (
    pure false
  ) else (
    if a0.kind = 1 then (
      (spec_NameValid a0.name >>= fun x14 =>
      ((pure (x14 && (decide (a0.num = 0))) : Option Bool) >>= fun x19 =>
      ((if x19 = true then (
        (spec_l1Scopes a0.sc >>= fun x23 =>
        pure x23
        )
      ) else (
        pure false
      ) : Option Bool) >>= fun x24 =>
      ((pure (x24 && (decide ((a0.kids.length : Int) = 0))) : Option Bool) >>= fun x30 =>
      pure x30
      )
      )
      )
      )
    ) else (
      if a0.kind = 2 then (
        ((pure ((decide (a0.name = (ByteArray.mk #[]))) && (decide (a0.num ≥ 0))) : Option Bool) >>= fun x40 =>
        ((pure (x40 && (decide (a0.num ≤ 999))) : Option Bool) >>= fun x45 =>
        ((pure (x45 && (decide ((a0.sc.length : Int) = 0))) : Option Bool) >>= fun x51 =>
        ((pure (x51 && (decide ((a0.kids.length : Int) = 0))) : Option Bool) >>= fun x57 =>
        pure x57
        )
        )
        )
        )
      ) else (
        ((pure ((!decide (a0.kind = 3)) || (!decide (a0.name = (ByteArray.mk #[])))) : Option Bool) >>= fun x65 =>
        ((pure (x65 || (!decide (a0.num = 0))) : Option Bool) >>= fun x70 =>
        ((pure (x70 || (!decide ((a0.sc.length : Int) = 0))) : Option Bool) >>= fun x76 =>
        if x76 = true then (
          pure false
        ) else (
          (spec_l1Is_l0 a0 a1 0 >>= fun o23 => match o23 with
            | .inl r => pure r
            | .inr _ => (
              pure true
            ))
        )
        )
        )
        )
      )
    )
  )
  partial_fixpoint
def spec_l1Is_l0 (a0 : Fm) (a1 : Int) (z0t_5 : Int) : Option (Bool ⊕ Unit) :=
  if z0t_5 < (a0.kids.length : Int) then (
    (idx a0.kids z0t_5 >>= fun x87 =>
    (spec_l1Is x87 (IntKind.i64.wrap (a1 - 1)) >>= fun x91 =>
    if (!x91) = true then (
      pure (Sum.inl false)
    ) else (
      spec_l1Is_l0 a0 a1 (IntKind.i64.wrap (z0t_5 + 1))
    )
    )
    )
  ) else (
    pure (Sum.inr ())
  )
  partial_fixpoint
end
mutual
def spec_l1Count (a0 : Fm) : Option (Int) :=
  (spec_l1Count_l0 a0 1 0 >>= fun e4t_3 => 
    pure e4t_3
  )
  partial_fixpoint
def spec_l1Count_l0 (a0 : Fm) (z0t_3 : Int) (z0t_4 : Int) : Option (Int) :=
  if z0t_4 < (a0.kids.length : Int) then (
    (idx a0.kids z0t_4 >>= fun x16 =>
    (spec_l1Count x16 >>= fun x18 =>
    spec_l1Count_l0 a0 (IntKind.i64.wrap (z0t_3 + x18)) (IntKind.i64.wrap (z0t_4 + 1))
    )
    )
  ) else (
    pure z0t_3
  )
  partial_fixpoint
end
def spec_FormValid (a0 : Fm) : Option (Bool) :=
  (spec_l1Is a0 40 >>= fun x4 =>
  ((if x4 = true then (
    (spec_l1Count a0 >>= fun x7 =>
    pure (decide (x7 ≤ 400))
    )
  ) else (
    pure false
  ) : Option Bool) >>= fun x9 =>
  pure x9
  )
  )
def spec_ParseForm (a0 : ByteArray) : Option (Fm × Bool) :=
  (spec_l1Read a0 0 40 >>= fun x8 =>
  ((if x8.2 < 0 then (
    pure true
  ) else (
    (spec_l1Skip a0 x8.2 >>= fun x16 =>
    pure (!decide (x16 = (a0.size : Int)))
    )
  ) : Option Bool) >>= fun x20 =>
  ((if x20 = true then (
    pure true
  ) else (
    (spec_FormValid x8.1 >>= fun x23 =>
    pure (!x23)
    )
  ) : Option Bool) >>= fun x25 =>
  if x25 = true then (
    pure (Fm.mk 0 (ByteArray.mk #[]) 0 [] [], false)
  ) else (
    pure (x8.1, true)
  )
  )
  )
  )
def spec_l1Parse (a0 : ByteArray) : Option (Fm) :=
  (spec_ParseForm a0 >>= fun x7 =>
  pure x7.1
  )
def spec_l7Texts  : Option (List ByteArray) :=
  pure [(ByteArray.mk #[40, 108, 101, 116, 32, 40, 40, 120, 32, 49, 41, 32, 40, 121, 32, 50, 41, 41, 32, 40, 108, 101, 116, 45, 115, 121, 110, 116, 97, 120, 32, 40, 40, 115, 119, 97, 112, 32, 40, 114, 117, 108, 101, 115, 32, 40, 41, 32, 40, 40, 95, 32, 97, 32, 98, 41, 32, 40, 108, 101, 116, 32, 40, 40, 116, 109, 112, 32, 97, 41, 41, 32, 40, 108, 105, 115, 116, 32, 98, 32, 116, 109, 112, 41, 41, 41, 41, 41, 41, 32, 40, 115, 119, 97, 112, 32, 120, 32, 121, 41, 41, 41]), (ByteArray.mk #[40, 108, 101, 116, 32, 40, 40, 116, 109, 112, 32, 53, 41, 32, 40, 122, 32, 54, 41, 41, 32, 40, 108, 101, 116, 45, 115, 121, 110, 116, 97, 120, 32, 40, 40, 115, 119, 97, 112, 32, 40, 114, 117, 108, 101, 115, 32, 40, 41, 32, 40, 40, 95, 32, 97, 32, 98, 41, 32, 40, 108, 101, 116, 32, 40, 40, 116, 109, 112, 32, 97, 41, 41, 32, 40, 108, 105, 115, 116, 32, 98, 32, 116, 109, 112, 41, 41, 41, 41, 41, 41, 32, 40, 115, 119, 97, 112, 32, 116, 109, 112, 32, 122, 41, 41, 41]), (ByteArray.mk #[40, 108, 101, 116, 45, 115, 121, 110, 116, 97, 120, 32, 40, 40, 111, 114, 32, 40, 114, 117, 108, 101, 115, 32, 40, 41, 32, 40, 40, 95, 41, 32, 48, 41, 32, 40, 40, 95, 32, 97, 41, 32, 97, 41, 32, 40, 40, 95, 32, 97, 32, 98, 32, 46, 46, 46, 41, 32, 40, 108, 101, 116, 32, 40, 40, 116, 32, 97, 41, 41, 32, 40, 105, 102, 32, 116, 32, 116, 32, 40, 111, 114, 32, 98, 32, 46, 46, 46, 41, 41, 41, 41, 41, 41, 41, 32, 40, 108, 101, 116, 32, 40, 40, 116, 32, 53, 41, 41, 32, 40, 111, 114, 32, 48, 32, 116, 32, 55, 41, 41, 41]), (ByteArray.mk #[40, 108, 101, 116, 45, 115, 121, 110, 116, 97, 120, 32, 40, 40, 119, 105, 116, 104, 32, 40, 114, 117, 108, 101, 115, 32, 40, 41, 32, 40, 40, 95, 32, 40, 40, 120, 32, 118, 41, 32, 46, 46, 46, 41, 32, 98, 111, 100, 121, 41, 32, 40, 40, 108, 97, 109, 98, 100, 97, 32, 40, 120, 32, 46, 46, 46, 41, 32, 98, 111, 100, 121, 41, 32, 118, 32, 46, 46, 46, 41, 41, 41, 41, 41, 32, 40, 119, 105, 116, 104, 32, 40, 40, 112, 32, 49, 41, 32, 40, 113, 32, 50, 41, 41, 32, 40, 43, 32, 112, 32, 113, 41, 41, 41]), (ByteArray.mk #[40, 108, 101, 116, 32, 40, 40, 105, 102, 32, 108, 105, 115, 116, 41, 41, 32, 40, 108, 101, 116, 45, 115, 121, 110, 116, 97, 120, 32, 40, 40, 109, 32, 40, 114, 117, 108, 101, 115, 32, 40, 41, 32, 40, 40, 95, 32, 97, 41, 32, 40, 105, 102, 32, 97, 32, 49, 32, 50, 41, 41, 41, 41, 41, 32, 40, 109, 32, 53, 41, 41, 41]), (ByteArray.mk #[40, 108, 101, 116, 45, 115, 121, 110, 116, 97, 120, 32, 40, 40, 109, 32, 40, 114, 117, 108, 101, 115, 32, 40, 41, 32, 40, 40, 95, 32, 97, 41, 32, 40, 105, 102, 32, 97, 32, 49, 32, 50, 41, 41, 41, 41, 41, 32, 40, 108, 101, 116, 32, 40, 40, 105, 102, 32, 108, 105, 115, 116, 41, 41, 32, 40, 109, 32, 105, 102, 41, 41, 41]), (ByteArray.mk #[40, 108, 101, 116, 45, 115, 121, 110, 116, 97, 120, 32, 40, 40, 107, 32, 40, 114, 117, 108, 101, 115, 32, 40, 101, 108, 115, 101, 41, 32, 40, 40, 95, 32, 101, 108, 115, 101, 32, 97, 41, 32, 97, 41, 32, 40, 40, 95, 32, 98, 32, 97, 41, 32, 40, 108, 105, 115, 116, 32, 98, 32, 97, 41, 41, 41, 41, 41, 32, 40, 108, 101, 116, 32, 40, 40, 101, 108, 115, 101, 32, 51, 41, 41, 32, 40, 107, 32, 101, 108, 115, 101, 32, 52, 41, 41, 41]), (ByteArray.mk #[40, 108, 101, 116, 45, 115, 121, 110, 116, 97, 120, 32, 40, 40, 107, 32, 40, 114, 117, 108, 101, 115, 32, 40, 101, 108, 115, 101, 41, 32, 40, 40, 95, 32, 101, 108, 115, 101, 32, 97, 41, 32, 97, 41, 32, 40, 40, 95, 32, 98, 32, 97, 41, 32, 40, 108, 105, 115, 116, 32, 98, 32, 97, 41, 41, 41, 41, 41, 32, 40, 107, 32, 101, 108, 115, 101, 32, 52, 41, 41]), (ByteArray.mk #[40, 108, 101, 116, 45, 115, 121, 110, 116, 97, 120, 32, 40, 40, 108, 111, 111, 112, 32, 40, 114, 117, 108, 101, 115, 32, 40, 41, 32, 40, 40, 95, 41, 32, 40, 108, 111, 111, 112, 41, 41, 41, 41, 41, 32, 40, 108, 111, 111, 112, 41, 41]), (ByteArray.mk #[40, 108, 101, 116, 45, 115, 121, 110, 116, 97, 120, 32, 40, 40, 109, 32, 40, 114, 117, 108, 101, 115, 32, 40, 41, 32, 40, 40, 95, 32, 97, 41, 32, 49, 41, 41, 41, 41, 32, 40, 109, 41, 41]), (ByteArray.mk #[40, 108, 97, 109, 98, 100, 97, 32, 40, 120, 41, 32, 40, 108, 97, 109, 98, 100, 97, 32, 40, 120, 32, 121, 41, 32, 40, 120, 32, 121, 32, 40, 113, 117, 111, 116, 101, 32, 40, 120, 32, 49, 41, 41, 41, 41, 41]), (ByteArray.mk #[40, 108, 101, 116, 45, 115, 121, 110, 116, 97, 120, 32, 40, 40, 100, 101, 102, 32, 40, 114, 117, 108, 101, 115, 32, 40, 41, 32, 40, 40, 95, 32, 110, 32, 101, 32, 98, 41, 32, 40, 108, 101, 116, 32, 40, 40, 110, 32, 101, 41, 41, 32, 98, 41, 41, 41, 41, 41, 32, 40, 100, 101, 102, 32, 122, 32, 51, 32, 40, 43, 32, 122, 32, 122, 41, 41, 41]), (ByteArray.mk #[40, 108, 101, 116, 45, 115, 121, 110, 116, 97, 120, 32, 40, 40, 97, 32, 40, 114, 117, 108, 101, 115, 32, 40, 41, 32, 40, 40, 95, 32, 120, 41, 32, 40, 98, 32, 120, 41, 41, 41, 41, 32, 40, 98, 32, 40, 114, 117, 108, 101, 115, 32, 40, 41, 32, 40, 40, 95, 32, 121, 41, 32, 40, 108, 105, 115, 116, 32, 121, 32, 121, 41, 41, 41, 41, 41, 32, 40, 97, 32, 55, 41, 41]), (ByteArray.mk #[40, 108, 101, 116, 45, 115, 121, 110, 116, 97, 120, 32, 40, 40, 109, 121, 32, 40, 114, 117, 108, 101, 115, 32, 40, 41, 32, 40, 40, 95, 32, 102, 41, 32, 40, 108, 97, 109, 98, 100, 97, 32, 40, 120, 41, 32, 40, 102, 32, 120, 41, 41, 41, 41, 41, 41, 32, 40, 108, 101, 116, 32, 40, 40, 120, 32, 51, 41, 41, 32, 40, 40, 109, 121, 32, 40, 108, 97, 109, 98, 100, 97, 32, 40, 121, 41, 32, 40, 43, 32, 120, 32, 121, 41, 41, 41, 32, 52, 41, 41, 41]), (ByteArray.mk #[40, 108, 101, 116, 45, 115, 121, 110, 116, 97, 120, 32, 40, 40, 116, 119, 111, 32, 40, 114, 117, 108, 101, 115, 32, 40, 41, 32, 40, 40, 95, 32, 110, 41, 32, 40, 108, 97, 109, 98, 100, 97, 32, 40, 110, 32, 120, 41, 32, 40, 43, 32, 110, 32, 120, 41, 41, 41, 41, 41, 41, 32, 40, 116, 119, 111, 32, 120, 41, 41])]
def spec_l15Rd_num (a1 : List Int) (c0 : Rdr) : Option (Int × Rdr) :=
  (spec_l15Rd_pick (a1.length : Int) c0 >>= fun x9 =>
  (idx a1 x9.1 >>= fun x10 =>
  pure (x10, x9.2)
  )
  )
def spec_l1Name (a0 : ByteArray) : Option (Fm) :=
  pure (Fm.mk 1 a0 0 [] [])
def spec_l15Rd_of (a1 : List ByteArray) (c0 : Rdr) : Option (ByteArray × Rdr) :=
  (spec_l15Rd_pick (a1.length : Int) c0 >>= fun x9 =>
  (idx a1 x9.1 >>= fun x10 =>
  pure (x10, x9.2)
  )
  )
def spec_l1List (a0 : List Fm) : Option (Fm) :=
  pure (Fm.mk 3 (ByteArray.mk #[]) 0 [] a0)
mutual
def spec_l1Some (a1 : Int) (c0 : Rdr) : Option (Fm × Rdr) :=
  if a1 = 0 then (
    (spec_l15Rd_pick 4 c0 >>= fun x15_1 =>
    if x15_1.1 = 0 then (
      (spec_l15Rd_num [0, 1, 2, 7, 42, 999] x15_1.2 >>= fun x19_1 =>
      pure (Fm.mk 2 (ByteArray.mk #[]) x19_1.1 [] [], x19_1.2)
      )
    ) else (
      (spec_l15Rd_of [(ByteArray.mk #[97]), (ByteArray.mk #[98]), (ByteArray.mk #[120]), (ByteArray.mk #[121]), (ByteArray.mk #[102]), (ByteArray.mk #[105, 102]), (ByteArray.mk #[108, 101, 116]), (ByteArray.mk #[43])] x15_1.2 >>= fun x23_1 =>
      (spec_l1Name x23_1.1 >>= fun x24_1 =>
      pure (x24_1, x23_1.2)
      )
      )
    )
    )
  ) else (
    (spec_l15Rd_pick 3 c0 >>= fun x11_1 =>
    if x11_1.1 = 0 then (
      (spec_l15Rd_pick 4 x11_1.2 >>= fun x15 =>
      if x15.1 = 0 then (
        (spec_l15Rd_num [0, 1, 2, 7, 42, 999] x15.2 >>= fun x19 =>
        pure (Fm.mk 2 (ByteArray.mk #[]) x19.1 [] [], x19.2)
        )
      ) else (
        (spec_l15Rd_of [(ByteArray.mk #[97]), (ByteArray.mk #[98]), (ByteArray.mk #[120]), (ByteArray.mk #[121]), (ByteArray.mk #[102]), (ByteArray.mk #[105, 102]), (ByteArray.mk #[108, 101, 116]), (ByteArray.mk #[43])] x15.2 >>= fun x23 =>
        (spec_l1Name x23.1 >>= fun x24 =>
        pure (x24, x23.2)
        )
        )
      )
      )
    ) else (
      (spec_l15Rd_pick 4 x11_1.2 >>= fun x27 =>
      (spec_l1Some_l0 a1 [] x27.1 x27.2.b x27.2.p >>= fun (e37o_0, e37x_0_0, e37x_0_1) => 
        pure (Fm.mk 3 (ByteArray.mk #[]) 0 [] e37o_0, Rdr.mk e37x_0_0 e37x_0_1)
      )
      )
    )
    )
  )
  partial_fixpoint
def spec_l1Some_l0 (a1 : Int) (z0o_0 : List Fm) (z0t_6 : Int) (z0x_0_0 : List Int) (z0x_0_1 : Int) : Option (List Fm × List Int × Int) :=
  if z0t_6 > 0 then (
    (spec_l1Some (IntKind.i64.wrap (a1 - 1)) (Rdr.mk z0x_0_0 z0x_0_1) >>= fun x37 =>
    (lcat 80 z0o_0 [x37.1] >>= fun x39 =>
    spec_l1Some_l0 a1 x39 (IntKind.i64.wrap (z0t_6 - 1)) x37.2.b x37.2.p
    )
    )
  ) else (
    pure (z0o_0, z0x_0_0, z0x_0_1)
  )
  partial_fixpoint
end
def spec_l7Some (a1 : List ByteArray) (a2 : Int) (c0 : Rdr) : Option (Fm × Rdr) :=
  if a2 = 0 then (
    (spec_l15Rd_pick 3 c0 >>= fun x18_1 =>
    if x18_1.1 = 0 then (
      (spec_l15Rd_num [0, 1, 2, 7] x18_1.2 >>= fun x22_1 =>
      pure (Fm.mk 2 (ByteArray.mk #[]) x22_1.1 [] [], x22_1.2)
      )
    ) else (
      (spec_l15Rd_pick (a1.length : Int) x18_1.2 >>= fun x28_1 =>
      (idx a1 x28_1.1 >>= fun x29_1 =>
      (spec_l1Name x29_1 >>= fun x31_1 =>
      pure (x31_1, x28_1.2)
      )
      )
      )
    )
    )
  ) else (
    (spec_l15Rd_pick 5 c0 >>= fun x14_1 =>
    if x14_1.1 = 0 then (
      (spec_l15Rd_pick 3 x14_1.2 >>= fun x18 =>
      if x18.1 = 0 then (
        (spec_l15Rd_num [0, 1, 2, 7] x18.2 >>= fun x22 =>
        pure (Fm.mk 2 (ByteArray.mk #[]) x22.1 [] [], x22.2)
        )
      ) else (
        (spec_l15Rd_pick (a1.length : Int) x18.2 >>= fun x28 =>
        (idx a1 x28.1 >>= fun x29 =>
        (spec_l1Name x29 >>= fun x31 =>
        pure (x31, x28.2)
        )
        )
        )
      )
      )
    ) else (
      (spec_l15Rd_of [(ByteArray.mk #[120]), (ByteArray.mk #[121]), (ByteArray.mk #[116])] x14_1.2 >>= fun x34 =>
      (lcat 16 [] a1 >>= fun x37 =>
      (lcat 16 x37 [x34.1] >>= fun x40 =>
      (spec_l15Rd_pick 8 x34.2 >>= fun x42 =>
      ((if x42.1 = 0 then (
        pure (decide (x42.1 = 0))
      ) else (
        pure (decide (x42.1 = 1))
      ) : Option (Bool)) >>= fun y32t_43 =>
        if y32t_43 = true then (
          (spec_l1Name (ByteArray.mk #[108, 97, 109, 98, 100, 97]) >>= fun x46 =>
          (spec_l1Name x34.1 >>= fun x48 =>
          (spec_l1List [x48] >>= fun x50 =>
          (spec_l7Some x40 (IntKind.i64.wrap (a2 - 1)) x42.2 >>= fun x55 =>
          (spec_l1List [x46, x50, x55.1] >>= fun x57 =>
          pure (x57, x55.2)
          )
          )
          )
          )
          )
        ) else (
          ((if x42.1 = 2 then (
            pure (decide (x42.1 = 2))
          ) else (
            pure (decide (x42.1 = 3))
          ) : Option (Bool)) >>= fun y45t_58 =>
            if y45t_58 = true then (
              (spec_l1Name x34.1 >>= fun x62 =>
              (spec_l7Some a1 (IntKind.i64.wrap (a2 - 1)) x42.2 >>= fun x67 =>
              (spec_l1List [x62, x67.1] >>= fun x69 =>
              (spec_l1Name (ByteArray.mk #[108, 101, 116]) >>= fun x70 =>
              (spec_l1List [x69] >>= fun x73 =>
              (spec_l7Some x40 (IntKind.i64.wrap (a2 - 1)) x67.2 >>= fun x78 =>
              (spec_l1List [x70, x73, x78.1] >>= fun x80 =>
              pure (x80, x78.2)
              )
              )
              )
              )
              )
              )
              )
            ) else (
              if x42.1 = 4 then (
                (spec_l1Name (ByteArray.mk #[105, 102]) >>= fun x83 =>
                (spec_l7Some a1 (IntKind.i64.wrap (a2 - 1)) x42.2 >>= fun x88 =>
                (spec_l7Some a1 (IntKind.i64.wrap (a2 - 1)) x88.2 >>= fun x93 =>
                (spec_l7Some a1 0 x93.2 >>= fun x96 =>
                (spec_l1List [x83, x88.1, x93.1, x96.1] >>= fun x98 =>
                pure (x98, x96.2)
                )
                )
                )
                )
                )
              ) else (
                if x42.1 = 5 then (
                  (spec_l1Name (ByteArray.mk #[113, 117, 111, 116, 101]) >>= fun x101 =>
                  (spec_l1Some 1 x42.2 >>= fun x103 =>
                  (spec_l1List [x101, x103.1] >>= fun x105 =>
                  pure (x105, x103.2)
                  )
                  )
                  )
                ) else (
                  (spec_l7Some a1 (IntKind.i64.wrap (a2 - 1)) x42.2 >>= fun x110 =>
                  (spec_l7Some a1 (IntKind.i64.wrap (a2 - 1)) x110.2 >>= fun x115 =>
                  (spec_l1List [x110.1, x115.1] >>= fun x117 =>
                  pure (x117, x115.2)
                  )
                  )
                  )
                )
              )
            )
          )
        )
      )
      )
      )
      )
      )
    )
    )
  )
  partial_fixpoint
def spec_l7Draw (c0 : Rdr) : Option (Fm × Rdr) :=
  (spec_l7Texts  >>= fun x6 =>
  (spec_l15Rd_pick 3 c0 >>= fun x8 =>
  if x8.1 > 0 then (
    (spec_l15Rd_pick (x6.length : Int) x8.2 >>= fun x14 =>
    (idx x6 x14.1 >>= fun x15 =>
    (spec_l1Parse x15 >>= fun x17 =>
    pure (x17, x14.2)
    )
    )
    )
  ) else (
    (spec_l15Rd_num [4, 3, 2] x8.2 >>= fun x22 =>
    (spec_l7Some [(ByteArray.mk #[43]), (ByteArray.mk #[108, 105, 115, 116]), (ByteArray.mk #[103])] x22.1 x22.2 >>= fun x23 =>
    (spec_l15Rd_pick 2 x23.2 >>= fun x25 =>
    if x25.1 = 0 then (
      (spec_l1Parse (ByteArray.mk #[40, 114, 117, 108, 101, 115, 32, 40, 41, 32, 40, 40, 95, 32, 97, 32, 98, 41, 32, 40, 108, 101, 116, 32, 40, 40, 116, 32, 97, 41, 41, 32, 40, 108, 105, 115, 116, 32, 98, 32, 116, 41, 41, 41, 32, 40, 40, 95, 32, 97, 41, 32, 40, 108, 101, 116, 32, 40, 40, 120, 32, 97, 41, 41, 32, 40, 108, 105, 115, 116, 32, 120, 32, 97, 41, 41, 41, 41]) >>= fun x27 =>
      (spec_l1Name (ByteArray.mk #[108, 101, 116, 45, 115, 121, 110, 116, 97, 120]) >>= fun x28 =>
      (spec_l1Name (ByteArray.mk #[103]) >>= fun x29 =>
      (spec_l1List [x29, x27] >>= fun x32 =>
      (spec_l1List [x32] >>= fun x34 =>
      (spec_l1List [x28, x34, x23.1] >>= fun x37 =>
      pure (x37, x25.2)
      )
      )
      )
      )
      )
      )
    ) else (
      pure (x23.1, x25.2)
    )
    )
    )
    )
  )
  )
  )
def spec_l9Draw (c0 : Rdr) : Option (Fm × Rdr) :=
  (spec_l15Rd_pick 2 c0 >>= fun x6 =>
  if x6.1 = 0 then (
    (spec_l15Rd_pick 4 x6.2 >>= fun x12 =>
    (idx [(ByteArray.mk #[40, 108, 101, 116, 32, 40, 40, 116, 109, 112, 32, 53, 41, 32, 40, 122, 32, 54, 41, 41, 32, 40, 108, 101, 116, 45, 115, 121, 110, 116, 97, 120, 32, 40, 40, 115, 119, 97, 112, 32, 40, 114, 117, 108, 101, 115, 32, 40, 41, 32, 40, 40, 95, 32, 97, 32, 98, 41, 32, 40, 108, 101, 116, 32, 40, 40, 116, 109, 112, 32, 97, 41, 41, 32, 40, 108, 105, 115, 116, 32, 98, 32, 116, 109, 112, 41, 41, 41, 41, 41, 41, 32, 40, 115, 119, 97, 112, 32, 122, 32, 116, 109, 112, 41, 41, 41]), (ByteArray.mk #[40, 108, 101, 116, 45, 115, 121, 110, 116, 97, 120, 32, 40, 40, 111, 114, 32, 40, 114, 117, 108, 101, 115, 32, 40, 41, 32, 40, 40, 95, 41, 32, 48, 41, 32, 40, 40, 95, 32, 97, 32, 98, 32, 46, 46, 46, 41, 32, 40, 108, 101, 116, 32, 40, 40, 116, 32, 97, 41, 41, 32, 40, 105, 102, 32, 116, 32, 116, 32, 40, 111, 114, 32, 98, 32, 46, 46, 46, 41, 41, 41, 41, 41, 41, 41, 32, 40, 108, 101, 116, 32, 40, 40, 116, 32, 53, 41, 41, 32, 40, 111, 114, 32, 48, 32, 116, 41, 41, 41]), (ByteArray.mk #[40, 108, 101, 116, 32, 40, 40, 120, 32, 49, 41, 41, 32, 40, 108, 101, 116, 45, 115, 121, 110, 116, 97, 120, 32, 40, 40, 109, 32, 40, 114, 117, 108, 101, 115, 32, 40, 41, 32, 40, 40, 95, 32, 101, 41, 32, 40, 108, 101, 116, 32, 40, 40, 120, 32, 50, 41, 41, 32, 40, 43, 32, 120, 32, 101, 41, 41, 41, 41, 41, 41, 32, 40, 109, 32, 120, 41, 41, 41]), (ByteArray.mk #[40, 108, 101, 116, 32, 40, 40, 121, 32, 49, 41, 41, 32, 40, 108, 101, 116, 45, 115, 121, 110, 116, 97, 120, 32, 40, 40, 109, 32, 40, 114, 117, 108, 101, 115, 32, 40, 41, 32, 40, 40, 95, 32, 101, 41, 32, 40, 43, 32, 121, 32, 101, 41, 41, 41, 41, 41, 32, 40, 108, 101, 116, 32, 40, 40, 121, 32, 50, 41, 41, 32, 40, 109, 32, 121, 41, 41, 41, 41])] x12.1 >>= fun x13 =>
    (spec_l1Parse x13 >>= fun x15 =>
    pure (x15, x12.2)
    )
    )
    )
  ) else (
    (spec_l7Draw x6.2 >>= fun x17 =>
    pure (x17.1, x17.2)
    )
  )
  )
mutual
def spec_l1Copy (a0 : Fm) : Option (Fm) :=
  (lcat 8 [] a0.sc >>= fun x14 =>
  (spec_l1Copy_l0 a0 x14 [] 0 >>= fun e12o_0 => 
    pure (Fm.mk a0.kind a0.name a0.num x14 e12o_0)
  )
  )
  partial_fixpoint
def spec_l1Copy_l0 (a0 : Fm) (x14 : List Int) (z0o_0 : List Fm) (z0t_4 : Int) : Option (List Fm) :=
  if z0t_4 < (a0.kids.length : Int) then (
    (idx a0.kids z0t_4 >>= fun x28 =>
    (spec_l1Copy x28 >>= fun x30 =>
    (lcat 80 z0o_0 [x30] >>= fun x32 =>
    spec_l1Copy_l0 a0 x14 x32 (IntKind.i64.wrap (z0t_4 + 1))
    )
    )
    )
  ) else (
    pure z0o_0
  )
  partial_fixpoint
end
def spec_l1Copy_o0_30_4_l0 (a0 : Fm) (x14 : List Int) (z0o_1 : List Fm) (z0t_4 : Int) : Option (List Fm) :=
  if z0t_4 < (a0.kids.length : Int) then (
    (idx a0.kids z0t_4 >>= fun x28 =>
    (spec_l1Copy x28 >>= fun x30 =>
    (lcat 80 z0o_1 [x30] >>= fun x32 =>
    spec_l1Copy_o0_30_4_l0 a0 x14 x32 (IntKind.i64.wrap (z0t_4 + 1))
    )
    )
    )
  ) else (
    pure z0o_1
  )
  partial_fixpoint
def spec_l1Copy_o0_30_4 (a0 : Fm) : Option (Fm) :=
  (lcat 8 [] a0.sc >>= fun x14 =>
  (spec_l1Copy_o0_30_4_l0 a0 x14 [] 0 >>= fun e14o_1 => 
    pure (Fm.mk a0.kind a0.name a0.num x14 e14o_1)
  )
  )
def spec_l1Mutate (a1 : Fm) (c0 : Rdr) : Option (Fm × Rdr) :=
  (spec_l1Copy_o0_30_4 a1 >>= fun x8 =>
  if (x8.kids.length : Int) > 0 then (
    (spec_l15Rd_pick 2 c0 >>= fun x15_1 =>
    if x15_1.1 > 0 then (
      (spec_l15Rd_pick (x8.kids.length : Int) x15_1.2 >>= fun x22 =>
      (idx x8.kids x22.1 >>= fun x30 =>
      (spec_l1Mutate x30 x22.2 >>= fun x32 =>
      (idx x8.kids x22.1 >>= fun x33 =>
      pure (Fm.mk x8.kind x8.name x8.num x8.sc (x8.kids.set x22.1.toNat x32.1), x32.2)
      )
      )
      )
      )
    ) else (
      (spec_l15Rd_pick 14 x15_1.2 >>= fun x36 =>
      if x36.1 = 0 then (
        (spec_l15Rd_num [0, 4, 1, 3] x36.2 >>= fun x41 =>
        pure (Fm.mk x41.1 x8.name x8.num x8.sc x8.kids, x41.2)
        )
      ) else (
        if x36.1 = 1 then (
          (spec_l15Rd_of [(ByteArray.mk #[]), (ByteArray.mk #[65]), (ByteArray.mk #[116, 111, 111, 108, 111, 110, 103, 97, 110, 97, 109, 101, 49]), (ByteArray.mk #[122]), (ByteArray.mk #[120, 32, 121])] x36.2 >>= fun x47 =>
          pure (Fm.mk x8.kind x47.1 x8.num x8.sc x8.kids, x47.2)
          )
        ) else (
          if x36.1 = 2 then (
            (spec_l15Rd_num [1000, -1, 5] x36.2 >>= fun x53 =>
            pure (Fm.mk x8.kind x8.name x53.1 x8.sc x8.kids, x53.2)
            )
          ) else (
            if x36.1 = 3 then (
              (spec_l15Rd_num [0, 100, 1, 50] x36.2 >>= fun x61 =>
              (lcat 8 x8.sc [x61.1] >>= fun x63 =>
              pure (Fm.mk x8.kind x8.name x8.num x63 x8.kids, x61.2)
              )
              )
            ) else (
              pure (Fm.mk x8.kind x8.name x8.num x8.sc x8.kids, x36.2)
            )
          )
        )
      )
      )
    )
    )
  ) else (
    (spec_l15Rd_pick 14 c0 >>= fun x36_1 =>
    if x36_1.1 = 0 then (
      (spec_l15Rd_num [0, 4, 1, 3] x36_1.2 >>= fun x41_1 =>
      pure (Fm.mk x41_1.1 x8.name x8.num x8.sc x8.kids, x41_1.2)
      )
    ) else (
      if x36_1.1 = 1 then (
        (spec_l15Rd_of [(ByteArray.mk #[]), (ByteArray.mk #[65]), (ByteArray.mk #[116, 111, 111, 108, 111, 110, 103, 97, 110, 97, 109, 101, 49]), (ByteArray.mk #[122]), (ByteArray.mk #[120, 32, 121])] x36_1.2 >>= fun x47_1 =>
        pure (Fm.mk x8.kind x47_1.1 x8.num x8.sc x8.kids, x47_1.2)
        )
      ) else (
        if x36_1.1 = 2 then (
          (spec_l15Rd_num [1000, -1, 5] x36_1.2 >>= fun x53_1 =>
          pure (Fm.mk x8.kind x8.name x53_1.1 x8.sc x8.kids, x53_1.2)
          )
        ) else (
          if x36_1.1 = 3 then (
            (spec_l15Rd_num [0, 100, 1, 50] x36_1.2 >>= fun x61_1 =>
            (lcat 8 x8.sc [x61_1.1] >>= fun x63_1 =>
            pure (Fm.mk x8.kind x8.name x8.num x63_1 x8.kids, x61_1.2)
            )
            )
          ) else (
            pure (Fm.mk x8.kind x8.name x8.num x8.sc x8.kids, x36_1.2)
          )
        )
      )
    )
    )
  )
  )
  partial_fixpoint
def spec_l9Case (a0 : List Int) : Option (Fm × Int) :=
  (spec_l15Open a0 >>= fun x7 =>
  (spec_l9Draw x7 >>= fun x9 =>
  (spec_l15Rd_pick 16 x9.2 >>= fun x11 =>
  ((if x11.1 = 0 then (
    (spec_l1Mutate x9.1 x11.2 >>= fun x16 =>
    (spec_l1Mutate x16.1 x16.2 >>= fun x17 =>
    pure (x17.1.kind, x17.1.name, x17.1.num, x17.1.sc, x17.1.kids, x17.2.b, x17.2.p)
    )
    )
  ) else (
    pure (x9.1.kind, x9.1.name, x9.1.num, x9.1.sc, x9.1.kids, x11.2.b, x11.2.p)
  ) : Option (Int × ByteArray × Int × List Int × List Fm × List Int × Int)) >>= fun (y17c_1_0, y17c_1_1, y17c_1_2, y17c_1_3, y17c_1_4, y17c_2_0, y17c_2_1) =>
    (spec_l15Rd_num [20, 10, 60, 3, 0, 61] (Rdr.mk y17c_2_0 y17c_2_1) >>= fun x21 =>
    pure (Fm.mk y17c_1_0 y17c_1_1 y17c_1_2 y17c_1_3 y17c_1_4, x21.1)
    )
  )
  )
  )
  )
def spec_DrawFreshName (a0 : List Int) : Option (Fm) :=
  (spec_l15Open a0 >>= fun x7 =>
  (spec_l9Case a0 >>= fun x10 =>
  (spec_l15Rd_pick 3 x7 >>= fun x14 =>
  if x14.1 = 0 then (
    (spec_l1Name (ByteArray.mk #[102, 114, 101, 115, 104, 48]) >>= fun x17 =>
    (spec_l15Rd_of [(ByteArray.mk #[102, 114, 101, 115, 104, 49]), (ByteArray.mk #[102, 114, 101, 115, 104, 50])] x14.2 >>= fun x20 =>
    (spec_l1Name x20.1 >>= fun x21 =>
    (spec_l1List [x10.1, x17, x21] >>= fun x23 =>
    pure x23
    )
    )
    )
    )
  ) else (
    pure x10.1
  )
  )
  )
  )
def slices_Index_string_string_l0 (a0 : List ByteArray) (a1 : ByteArray) (z0t_8 : Int) : Option (Int ⊕ Unit) :=
  if z0t_8 < (a0.length : Int) then (
    (idx a0 z0t_8 >>= fun x14 =>
    if a1 = x14 then (
      pure (Sum.inl z0t_8)
    ) else (
      slices_Index_string_string_l0 a0 a1 (IntKind.i64.wrap (z0t_8 + 1))
    )
    )
  ) else (
    pure (Sum.inr ())
  )
  partial_fixpoint
def slices_Index_string_string (a0 : List ByteArray) (a1 : ByteArray) : Option (Int) :=
  (slices_Index_string_string_l0 a0 a1 0 >>= fun o1 => match o1 with
    | .inl r => pure r
    | .inr _ => (
      pure (-1)
    ))
def slices_Contains_string_string (a0 : List ByteArray) (a1 : ByteArray) : Option (Bool) :=
  (slices_Index_string_string a0 a1 >>= fun x7 =>
  pure (decide (x7 ≥ 0))
  )
def impl_NamesOf_c1 (a0 : Fm) (c0 : List ByteArray) : Option (List ByteArray) :=
  ((if a0.kind = 1 then (
    (slices_Contains_string_string c0 a0.name >>= fun x10 =>
    pure (!x10)
    )
  ) else (
    pure false
  ) : Option Bool) >>= fun x12 =>
  if x12 = true then (
    (lcat 16 c0 [a0.name] >>= fun x17 =>
    pure x17
    )
  ) else (
    pure c0
  )
  )
mutual
def impl_eachForm__impl_NamesOf_c1 (a0 : Fm) (c0 : List ByteArray) : Option (List ByteArray) :=
  (impl_NamesOf_c1 a0 c0 >>= fun x8 =>
  (impl_eachForm__impl_NamesOf_c1_l0 a0 x8 0 >>= fun e15o_0 => 
    pure e15o_0
  )
  )
  partial_fixpoint
def impl_eachForm__impl_NamesOf_c1_l0 (a0 : Fm) (z0o_0 : List ByteArray) (z0t_12 : Int) : Option (List ByteArray) :=
  if z0t_12 < (a0.kids.length : Int) then (
    (idx a0.kids z0t_12 >>= fun x14 =>
    (impl_eachForm__impl_NamesOf_c1 x14 z0o_0 >>= fun x18 =>
    impl_eachForm__impl_NamesOf_c1_l0 a0 x18 (IntKind.i64.wrap (z0t_12 + 1))
    )
    )
  ) else (
    pure z0o_0
  )
  partial_fixpoint
end
def impl_NamesOf (a0 : Fm) : Option (List ByteArray) :=
  (impl_eachForm__impl_NamesOf_c1 a0 [] >>= fun x7 =>
  pure x7
  )
def strconv_Itoa (a0 : Int) : Option ByteArray := itoaF a0
def impl_FreshName_l0 (a0 : Fm) (x7 : List ByteArray) (z0t_4 : Int) : Option (ByteArray ⊕ Unit) :=
  if z0t_4 ≤ 400 then (
    (strconv_Itoa z0t_4 >>= fun x13 =>
    (scat (ByteArray.mk #[102, 114, 101, 115, 104]) x13 >>= fun x14 =>
    (slices_Contains_string_string x7 x14 >>= fun x17 =>
    if (!x17) = true then (
      pure (Sum.inl x14)
    ) else (
      impl_FreshName_l0 a0 x7 (IntKind.i64.wrap (z0t_4 + 1))
    )
    )
    )
    )
  ) else (
    pure (Sum.inr ())
  )
  partial_fixpoint
def impl_FreshName (a0 : Fm) : Option (ByteArray) :=
  (impl_NamesOf a0 >>= fun x7 =>
  (impl_FreshName_l0 a0 x7 0 >>= fun o3 => match o3 with
    | .inl r => pure r
    | .inr _ => (
      pure (ByteArray.mk #[])
    ))
  )
def spec_l1In_l0 (a0 : List ByteArray) (a1 : ByteArray) (z0t_5 : Int) : Option (Bool ⊕ Unit) :=
  if z0t_5 < (a0.length : Int) then (
    (idx a0 z0t_5 >>= fun x14 =>
    if x14 = a1 then (
      pure (Sum.inl true)
    ) else (
      spec_l1In_l0 a0 a1 (IntKind.i64.wrap (z0t_5 + 1))
    )
    )
  ) else (
    pure (Sum.inr ())
  )
  partial_fixpoint
def spec_l1In (a0 : List ByteArray) (a1 : ByteArray) : Option (Bool) :=
  (spec_l1In_l0 a0 a1 0 >>= fun o1 => match o1 with
    | .inl r => pure r
    | .inr _ => (
      pure false
    ))
mutual
def spec_l1Names_o0 (a0 : List ByteArray) (a1 : Fm) : Option (List ByteArray) :=
  ((if a1.kind = 1 then (
    (spec_l1In a0 a1.name >>= fun x13 =>
    pure (!x13)
    )
  ) else (
    pure false
  ) : Option Bool) >>= fun x15 =>
  ((if x15 = true then (
    (lcat 16 a0 [a1.name] >>= fun x20 =>
    pure x20
    )
  ) else (
    pure a0
  ) : Option (List ByteArray)) >>= fun y5o_0 =>
    (spec_l1Names_o0_l0 a1 y5o_0 0 >>= fun e17o_0 => 
      pure e17o_0
    )
  )
  )
  partial_fixpoint
def spec_l1Names_o0_l0 (a1 : Fm) (z0o_0 : List ByteArray) (z0t_5 : Int) : Option (List ByteArray) :=
  if z0t_5 < (a1.kids.length : Int) then (
    (idx a1.kids z0t_5 >>= fun x32 =>
    (spec_l1Names_o0 z0o_0 x32 >>= fun x34 =>
    spec_l1Names_o0_l0 a1 x34 (IntKind.i64.wrap (z0t_5 + 1))
    )
    )
  ) else (
    pure z0o_0
  )
  partial_fixpoint
end
def spec_l1Names_l0 (a1 : Fm) (z0o_0 : List ByteArray) (z0t_5 : Int) : Option (List ByteArray) :=
  if z0t_5 < (a1.kids.length : Int) then (
    (idx a1.kids z0t_5 >>= fun x32 =>
    (spec_l1Names_o0 z0o_0 x32 >>= fun x34 =>
    spec_l1Names_l0 a1 x34 (IntKind.i64.wrap (z0t_5 + 1))
    )
    )
  ) else (
    pure z0o_0
  )
  partial_fixpoint
def spec_l1Names (a0 : List ByteArray) (a1 : Fm) : Option (List ByteArray) :=
  ((if a1.kind = 1 then (
    (spec_l1In a0 a1.name >>= fun x13 =>
    pure (!x13)
    )
  ) else (
    pure false
  ) : Option Bool) >>= fun x15 =>
  ((if x15 = true then (
    (lcat 16 a0 [a1.name] >>= fun x20 =>
    pure x20
    )
  ) else (
    pure a0
  ) : Option (List ByteArray)) >>= fun y5o_0 =>
    (spec_l1Names_l0 a1 y5o_0 0 >>= fun e17o_0 => 
      pure e17o_0
    )
  )
  )
def spec_l15Dec_l0 (z0t_0 : Int) (z0t_3 : ByteArray) : Option (Int × ByteArray) :=
  if z0t_0 > 9 then (
    (scat (strOfNums [IntKind.u8.wrap (IntKind.i64.wrap (48 + (z0t_0.tmod 10)))]) z0t_3 >>= fun x21 =>
    spec_l15Dec_l0  (IntKind.i64.wrap (z0t_0.tdiv 10)) x21
    )
  ) else (
    pure (z0t_0, z0t_3)
  )
  partial_fixpoint
def spec_l15Dec (a0 : Int) : Option (ByteArray) :=
  if a0 < (-9223372036854775807) then (
    pure (ByteArray.mk #[45, 57, 50, 50, 51, 51, 55, 50, 48, 51, 54, 56, 53, 52, 55, 55, 53, 56, 48, 56])
  ) else (
    if a0 < 0 then (
      (spec_l15Dec (IntKind.i64.wrap (0 - a0)) >>= fun x10 =>
      (scat (ByteArray.mk #[45]) x10 >>= fun x11 =>
      pure x11
      )
      )
    ) else (
      (spec_l15Dec_l0  a0 (ByteArray.mk #[]) >>= fun (e2t_0, e2t_3) => 
        (scat (strOfNums [IntKind.u8.wrap (IntKind.i64.wrap (48 + e2t_0))]) e2t_3 >>= fun x30 =>
        pure x30
        )
      )
    )
  )
  partial_fixpoint
def spec_FreshName_l0 (a0 : Fm) (x7 : List ByteArray) (z0t_4 : Int) : Option (ByteArray ⊕ Unit) :=
  if z0t_4 ≤ 400 then (
    (spec_l15Dec z0t_4 >>= fun x14 =>
    (scat (ByteArray.mk #[102, 114, 101, 115, 104]) x14 >>= fun x15 =>
    (spec_l1In x7 x15 >>= fun x16 =>
    if (!x16) = true then (
      (spec_l15Dec z0t_4 >>= fun x19 =>
      (scat (ByteArray.mk #[102, 114, 101, 115, 104]) x19 >>= fun x20 =>
      pure (Sum.inl x20)
      )
      )
    ) else (
      spec_FreshName_l0 a0 x7 (IntKind.i64.wrap (z0t_4 + 1))
    )
    )
    )
    )
  ) else (
    pure (Sum.inr ())
  )
  partial_fixpoint
def spec_FreshName (a0 : Fm) : Option (ByteArray) :=
  (spec_l1Names [] a0 >>= fun x7 =>
  (spec_FreshName_l0 a0 x7 0 >>= fun o6 => match o6 with
    | .inl r => pure r
    | .inr _ => (
      pure (ByteArray.mk #[])
    ))
  )
def impl_named (a0 : Fm) (a1 : ByteArray) : Option (Bool) :=
  ((pure ((decide (a0.kind = 1)) && (decide (a0.name = a1))) : Option Bool) >>= fun x13 =>
  pure x13
  )
def impl_CountName_c1 (a0 : Fm) (c0 : ByteArray) (c1 : Int) : Option (Int) :=
  (impl_named a0 c0 >>= fun x6 =>
  if x6 = true then (
    pure (IntKind.i64.wrap (c1 + 1))
  ) else (
    pure c1
  )
  )
mutual
def impl_eachForm__impl_CountName_c1 (a0 : Fm) (c0 : ByteArray) (c1 : Int) : Option (Int) :=
  (impl_CountName_c1 a0 c0 c1 >>= fun x8 =>
  (impl_eachForm__impl_CountName_c1_l0 a0 c0 0 x8 >>= fun e13x_1_0 => 
    pure e13x_1_0
  )
  )
  partial_fixpoint
def impl_eachForm__impl_CountName_c1_l0 (a0 : Fm) (c0 : ByteArray) (z0t_12 : Int) (z0x_1_0 : Int) : Option (Int) :=
  if z0t_12 < (a0.kids.length : Int) then (
    (idx a0.kids z0t_12 >>= fun x14 =>
    (impl_eachForm__impl_CountName_c1 x14 c0 z0x_1_0 >>= fun x18 =>
    impl_eachForm__impl_CountName_c1_l0 a0 c0 (IntKind.i64.wrap (z0t_12 + 1)) x18
    )
    )
  ) else (
    pure z0x_1_0
  )
  partial_fixpoint
end
def impl_CountName (a0 : Fm) (a1 : ByteArray) : Option (Int) :=
  (impl_eachForm__impl_CountName_c1 a0 a1 0 >>= fun x8 =>
  pure x8
  )
def strings_IndexByte (a0 : ByteArray) (a1 : Int) : Option Int := some (Lib.indexByte a0.data.toList a1.toNat.toUInt8)
def impl_within (a0 : Int) (a1 : Int) (a2 : Int) : Option (Bool) :=
  ((pure ((decide (a0 ≥ a1)) && (decide (a0 ≤ a2))) : Option Bool) >>= fun x14 =>
  pure x14
  )
def impl_NameValid_l0 (a0 : ByteArray) (z0t_3 : Int) : Option (Bool ⊕ Unit) :=
  if z0t_3 < (a0.size : Int) then (
    (sidx a0 z0t_3 >>= fun x19 =>
    ((pure ((decide (x19 ≥ 97)) && (decide (x19 ≤ 122))) : Option Bool) >>= fun x26 =>
    ((if x26 = true then (
      pure true
    ) else (
      (strings_IndexByte (ByteArray.mk #[42, 63, 61, 43, 60]) x19 >>= fun x29 =>
      pure (decide (x29 ≥ 0))
      )
    ) : Option Bool) >>= fun x31 =>
    if x31 = true then (
      impl_NameValid_l0 a0 (IntKind.i64.wrap (z0t_3 + 1))
    ) else (
      ((if z0t_3 > 0 then (
        ((pure ((decide (x19 ≥ 48)) && (decide (x19 ≤ 57))) : Option Bool) >>= fun x41 =>
        ((pure (x41 || (decide (x19 = 45))) : Option Bool) >>= fun x45 =>
        pure x45
        )
        )
      ) else (
        pure false
      ) : Option Bool) >>= fun x46 =>
      if x46 = true then (
        impl_NameValid_l0 a0 (IntKind.i64.wrap (z0t_3 + 1))
      ) else (
        pure (Sum.inl false)
      )
      )
    )
    )
    )
    )
  ) else (
    pure (Sum.inr ())
  )
  partial_fixpoint
def impl_NameValid (a0 : ByteArray) : Option (Bool) :=
  ((pure ((decide (a0 = (ByteArray.mk #[46, 46, 46]))) || (decide (a0 = (ByteArray.mk #[95])))) : Option Bool) >>= fun x10 =>
  if x10 = true then (
    pure true
  ) else (
    (impl_NameValid_l0 a0 0 >>= fun o13 => match o13 with
      | .inl r => pure r
      | .inr _ => (
        (impl_within (a0.size : Int) 1 12 >>= fun x49 =>
        pure x49
        )
      ))
  )
  )
def laws_mxName_l0 (a0 : List ByteArray) (a1 : ByteArray) (z0t_5 : Int) : Option (Bool ⊕ Unit) :=
  if z0t_5 < (a0.length : Int) then (
    (idx a0 z0t_5 >>= fun x14 =>
    if x14 = a1 then (
      pure (Sum.inl true)
    ) else (
      laws_mxName_l0 a0 a1 (IntKind.i64.wrap (z0t_5 + 1))
    )
    )
  ) else (
    pure (Sum.inr ())
  )
  partial_fixpoint
def laws_mxName (a0 : List ByteArray) (a1 : ByteArray) : Option (Bool) :=
  (laws_mxName_l0 a0 a1 0 >>= fun o1 => match o1 with
    | .inl r => pure r
    | .inr _ => (
      pure false
    ))
def laws_FnFreshName (a0 : List Int) : Option (Bool) :=
  if (a0.length : Int) > 1048576 then (
    pure true
  ) else (
    (spec_DrawFreshName a0 >>= fun x9 =>
    (impl_FreshName x9 >>= fun x11 =>
    (spec_FreshName x9 >>= fun x14 =>
    ((pure ((!decide (x11 = x14)) || (decide (x11 = (ByteArray.mk #[])))) : Option Bool) >>= fun x19 =>
    if x19 = true then (
      (spec_FreshName x9 >>= fun x22 =>
      pure (decide (x11 = x22))
      )
    ) else (
      (impl_CountName x9 x11 >>= fun x26 =>
      ((if x26 = 0 then (
        (impl_NameValid x11 >>= fun x30 =>
        pure x30
        )
      ) else (
        pure false
      ) : Option Bool) >>= fun x31 =>
      ((if x31 = true then (
        (impl_NamesOf x9 >>= fun x34 =>
        (laws_mxName x34 x11 >>= fun x36 =>
        pure (!x36)
        )
        )
      ) else (
        pure false
      ) : Option Bool) >>= fun x38 =>
      pure x38
      )
      )
      )
    )
    )
    )
    )
    )
  )
end Go.Proofs.SA
