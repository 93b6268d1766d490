/- The printed loops over lists, as functions on the lists: printed by a program of mine. -/
import Derived.Test.YtilkeeoinbndoaadvD
import Derived.Test.YtilkeeoinbndoaaPa
set_option linter.unusedVariables false
set_option linter.unusedSimpArgs false
set_option maxRecDepth 100000
open Go Go.Proofs Go.Proofs.Shadow
namespace Go.Proofs.SA
def laws_szFormS_l0L : List Fm → Int → Nat → List Fm → Option (Int ⊕ Int)
  | a0, z0t_1, z0t_5, [] => (
    pure (Sum.inr z0t_1)
  )
  | a0, z0t_1, z0t_5, it :: l_ => (
    (pure it >>= fun x20 =>
    (laws_szForm x20 z0t_1 >>= fun x23 =>
    if x23 < 0 then (
      pure (Sum.inl (-1))
    ) else (
      laws_szFormS_l0L a0 x23 (z0t_5 + 1) l_
    )
    )
    )
  )
theorem laws_szFormS_l0L0 (a0 : List Fm) (z0t_1 : Int) (hl : a0.length < 4611686018427387904) : laws_szFormS_l0 a0 z0t_1 0 = laws_szFormS_l0L a0 z0t_1 0 a0 := lsl1 hl (fun z0t_1 z0t_5 => laws_szFormS_l0 a0 z0t_1 z0t_5) (fun z0t_1 => laws_szFormS_l0L a0 z0t_1) (fun _ _ h => by rw [laws_szFormS_l0, if_neg h]; rfl) (fun _ i h p w r => by rw [laws_szFormS_l0, if_pos p, laws_szFormS_l0L]; simp only [idx_nat _ i h, psome, bsome, w, r]; all_goals rfl) z0t_1
def laws_toIntS_l0L : List Int → List Int → Nat → List Int → Option (List Int)
  | a0, z0o_0, z0t_4, [] => (
    pure z0o_0
  )
  | a0, z0o_0, z0t_4, it :: l_ => (
    (pure it >>= fun x18 =>
    (idx z0o_0 (z0t_4 : Int) >>= fun x20 =>
    laws_toIntS_l0L a0 (z0o_0.set (z0t_4 : Int).toNat x18) (z0t_4 + 1) l_
    )
    )
  )
theorem laws_toIntS_l0L0 (a0 : List Int) (z0o_0 : List Int) (hl : a0.length < 4611686018427387904) : laws_toIntS_l0 a0 z0o_0 0 = laws_toIntS_l0L a0 z0o_0 0 a0 := lsl1 hl (fun z0o_0 z0t_4 => laws_toIntS_l0 a0 z0o_0 z0t_4) (fun z0o_0 => laws_toIntS_l0L a0 z0o_0) (fun _ _ h => by rw [laws_toIntS_l0, if_neg h]; rfl) (fun _ i h p w r => by rw [laws_toIntS_l0, if_pos p, laws_toIntS_l0L]; simp only [idx_nat _ i h, psome, bsome, w, r]; all_goals rfl) z0o_0
def laws_toFormS_l0L : List Fm → List Fm → Nat → List Fm → Option (List Fm)
  | a0, z0o_0, z0t_4, [] => (
    pure z0o_0
  )
  | a0, z0o_0, z0t_4, it :: l_ => (
    (pure it >>= fun x18 =>
    (laws_toForm x18 >>= fun x20 =>
    (idx z0o_0 (z0t_4 : Int) >>= fun x21 =>
    laws_toFormS_l0L a0 (z0o_0.set (z0t_4 : Int).toNat x20) (z0t_4 + 1) l_
    )
    )
    )
  )
theorem laws_toFormS_l0L0 (a0 : List Fm) (z0o_0 : List Fm) (hl : a0.length < 4611686018427387904) : laws_toFormS_l0 a0 z0o_0 0 = laws_toFormS_l0L a0 z0o_0 0 a0 := lsl1 hl (fun z0o_0 z0t_4 => laws_toFormS_l0 a0 z0o_0 z0t_4) (fun z0o_0 => laws_toFormS_l0L a0 z0o_0) (fun _ _ h => by rw [laws_toFormS_l0, if_neg h]; rfl) (fun _ i h p w r => by rw [laws_toFormS_l0, if_pos p, laws_toFormS_l0L]; simp only [idx_nat _ i h, psome, bsome, w, r]; all_goals rfl) z0o_0
def spec_l8Data_l0L : Fm → List Val → Nat → List Fm → Option (List Val)
  | a0, z0o_0, z0t_4, [] => (
    pure z0o_0
  )
  | a0, z0o_0, z0t_4, it :: l_ => (
    (pure it >>= fun x30 =>
    (spec_l8Data x30 >>= fun x32 =>
    (lcat 248 z0o_0 [x32] >>= fun x34 =>
    spec_l8Data_l0L a0 x34 (z0t_4 + 1) l_
    )
    )
    )
  )
theorem spec_l8Data_l0L0 (a0 : Fm) (z0o_0 : List Val) (hl : a0.kids.length < 4611686018427387904) : spec_l8Data_l0 a0 z0o_0 0 = spec_l8Data_l0L a0 z0o_0 0 a0.kids := lsl1 hl (fun z0o_0 z0t_4 => spec_l8Data_l0 a0 z0o_0 z0t_4) (fun z0o_0 => spec_l8Data_l0L a0 z0o_0) (fun _ _ h => by rw [spec_l8Data_l0, if_neg h]; rfl) (fun _ i h p w r => by rw [spec_l8Data_l0, if_pos p, spec_l8Data_l0L]; simp only [idx_nat _ i h, psome, bsome, w, r]; all_goals rfl) z0o_0
def impl_dataValue_l0L : Fm → List Val → Nat → List Fm → Option (List Val)
  | a0, z0o_0, z0t_22, [] => (
    pure z0o_0
  )
  | a0, z0o_0, z0t_22, it :: l_ => (
    (pure it >>= fun x24 =>
    (impl_dataValue x24 >>= fun x29 =>
    (lcat 248 z0o_0 [x29] >>= fun x31 =>
    impl_dataValue_l0L a0 x31 (z0t_22 + 1) l_
    )
    )
    )
  )
theorem impl_dataValue_l0L0 (a0 : Fm) (z0o_0 : List Val) (hl : a0.kids.length < 4611686018427387904) : impl_dataValue_l0 a0 z0o_0 0 = impl_dataValue_l0L a0 z0o_0 0 a0.kids := lsl1 hl (fun z0o_0 z0t_22 => impl_dataValue_l0 a0 z0o_0 z0t_22) (fun z0o_0 => impl_dataValue_l0L a0 z0o_0) (fun _ _ h => by rw [impl_dataValue_l0, if_neg h]; rfl) (fun _ i h p w r => by rw [impl_dataValue_l0, if_pos p, impl_dataValue_l0L]; simp only [idx_nat _ i h, psome, bsome, w, r]; all_goals rfl) z0o_0
def laws_eqIntS_l0L : List Int → List Int → Nat → List Int → Option (Bool ⊕ Unit)
  | a0, a1, z0t_5, [] => (
    pure (Sum.inr ())
  )
  | a0, a1, z0t_5, it :: l_ => (
    (pure it >>= fun x19 =>
    (idx a1 (z0t_5 : Int) >>= fun x23 =>
    if x19 = x23 then (
      laws_eqIntS_l0L a0 a1 (z0t_5 + 1) l_
    ) else (
      pure (Sum.inl false)
    )
    )
    )
  )
theorem laws_eqIntS_l0L0 (a0 : List Int) (a1 : List Int)  (hl : a0.length < 4611686018427387904) : laws_eqIntS_l0 a0 a1 0 = laws_eqIntS_l0L a0 a1 0 a0 := lsl0 hl (fun z0t_5 => laws_eqIntS_l0 a0 a1 z0t_5) (laws_eqIntS_l0L a0 a1) (fun _ h => by rw [laws_eqIntS_l0, if_neg h]; rfl) (fun i h p w r => by rw [laws_eqIntS_l0, if_pos p, laws_eqIntS_l0L]; simp only [idx_nat _ i h, psome, bsome, w, r]; all_goals rfl) 
def laws_eqFormS_l0L : List Fm → List Fm → Nat → List Fm → Option (Bool ⊕ Unit)
  | a0, a1, z0t_5, [] => (
    pure (Sum.inr ())
  )
  | a0, a1, z0t_5, it :: l_ => (
    (pure it >>= fun x19 =>
    (idx a1 (z0t_5 : Int) >>= fun x23 =>
    (laws_eqForm x19 x23 >>= fun x25 =>
    if (!x25) = true then (
      pure (Sum.inl false)
    ) else (
      laws_eqFormS_l0L a0 a1 (z0t_5 + 1) l_
    )
    )
    )
    )
  )
theorem laws_eqFormS_l0L0 (a0 : List Fm) (a1 : List Fm)  (hl : a0.length < 4611686018427387904) : laws_eqFormS_l0 a0 a1 0 = laws_eqFormS_l0L a0 a1 0 a0 := lsl0 hl (fun z0t_5 => laws_eqFormS_l0 a0 a1 z0t_5) (laws_eqFormS_l0L a0 a1) (fun _ h => by rw [laws_eqFormS_l0, if_neg h]; rfl) (fun i h p w r => by rw [laws_eqFormS_l0, if_pos p, laws_eqFormS_l0L]; simp only [idx_nat _ i h, psome, bsome, w, r]; all_goals rfl) 
def laws_eqCoreS_l0L : List Cor → List Cor → Nat → List Cor → Option (Bool ⊕ Unit)
  | a0, a1, z0t_5, [] => (
    pure (Sum.inr ())
  )
  | a0, a1, z0t_5, it :: l_ => (
    (pure it >>= fun x19 =>
    (idx a1 (z0t_5 : Int) >>= fun x23 =>
    (laws_eqCore x19 x23 >>= fun x25 =>
    if (!x25) = true then (
      pure (Sum.inl false)
    ) else (
      laws_eqCoreS_l0L a0 a1 (z0t_5 + 1) l_
    )
    )
    )
    )
  )
theorem laws_eqCoreS_l0L0 (a0 : List Cor) (a1 : List Cor)  (hl : a0.length < 4611686018427387904) : laws_eqCoreS_l0 a0 a1 0 = laws_eqCoreS_l0L a0 a1 0 a0 := lsl0 hl (fun z0t_5 => laws_eqCoreS_l0 a0 a1 z0t_5) (laws_eqCoreS_l0L a0 a1) (fun _ h => by rw [laws_eqCoreS_l0, if_neg h]; rfl) (fun i h p w r => by rw [laws_eqCoreS_l0, if_pos p, laws_eqCoreS_l0L]; simp only [idx_nat _ i h, psome, bsome, w, r]; all_goals rfl) 
def laws_eqValueS_l0L : List Val → List Val → Nat → List Val → Option (Bool ⊕ Unit)
  | a0, a1, z0t_5, [] => (
    pure (Sum.inr ())
  )
  | a0, a1, z0t_5, it :: l_ => (
    (pure it >>= fun x19 =>
    (idx a1 (z0t_5 : Int) >>= fun x23 =>
    (laws_eqValue x19 x23 >>= fun x25 =>
    if (!x25) = true then (
      pure (Sum.inl false)
    ) else (
      laws_eqValueS_l0L a0 a1 (z0t_5 + 1) l_
    )
    )
    )
    )
  )
theorem laws_eqValueS_l0L0 (a0 : List Val) (a1 : List Val)  (hl : a0.length < 4611686018427387904) : laws_eqValueS_l0 a0 a1 0 = laws_eqValueS_l0L a0 a1 0 a0 := lsl0 hl (fun z0t_5 => laws_eqValueS_l0 a0 a1 z0t_5) (laws_eqValueS_l0L a0 a1) (fun _ h => by rw [laws_eqValueS_l0, if_neg h]; rfl) (fun i h p w r => by rw [laws_eqValueS_l0, if_pos p, laws_eqValueS_l0L]; simp only [idx_nat _ i h, psome, bsome, w, r]; all_goals rfl) 
def laws_eqSlotS_l0L : List Slt → List Slt → Nat → List Slt → Option (Bool ⊕ Unit)
  | a0, a1, z0t_5, [] => (
    pure (Sum.inr ())
  )
  | a0, a1, z0t_5, it :: l_ => (
    (pure it >>= fun x19 =>
    (idx a1 (z0t_5 : Int) >>= fun x23 =>
    (laws_eqSlot x19 x23 >>= fun x25 =>
    if (!x25) = true then (
      pure (Sum.inl false)
    ) else (
      laws_eqSlotS_l0L a0 a1 (z0t_5 + 1) l_
    )
    )
    )
    )
  )
theorem laws_eqSlotS_l0L0 (a0 : List Slt) (a1 : List Slt)  (hl : a0.length < 4611686018427387904) : laws_eqSlotS_l0 a0 a1 0 = laws_eqSlotS_l0L a0 a1 0 a0 := lsl0 hl (fun z0t_5 => laws_eqSlotS_l0 a0 a1 z0t_5) (laws_eqSlotS_l0L a0 a1) (fun _ h => by rw [laws_eqSlotS_l0, if_neg h]; rfl) (fun i h p w r => by rw [laws_eqSlotS_l0, if_pos p, laws_eqSlotS_l0L]; simp only [idx_nat _ i h, psome, bsome, w, r]; all_goals rfl) 
end Go.Proofs.SA

