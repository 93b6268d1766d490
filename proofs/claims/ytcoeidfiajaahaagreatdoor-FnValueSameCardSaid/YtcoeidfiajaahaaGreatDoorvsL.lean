/- The printed loops over lists, as functions on the lists: printed by a program of mine. -/
import Derived.Test.YtcoeidfiajaahaaGreatDoorvsD
import Derived.Test.YtcoeidfiajaahaaGreatDoorPa
set_option linter.unusedVariables false
set_option linter.unusedSimpArgs false
set_option maxRecDepth 100000
open Go Go.Proofs Go.Proofs.Shadow
open Go.IntKind (i64)
namespace Go.Proofs.SA
def Qk6 : Fm -> List Int -> List Fm -> Nat -> List Fm -> Option (List Fm)
 | a0, x14, Qac, Qba, [] => (
  pure Qac
 )
 | a0, x14, Qac, Qba, it :: l_ => (
  (pure it >>= fun x28 =>
  (Qd4 x28 >>= fun x30 =>
  (Qc6 80 Qac [x30] >>= fun x32 =>
  Qk6 a0 x14 x32 (Qba + 1) l_
  )
  )
  )
 )
theorem Q5y (a0 : Fm) (x14 : List Int) (hl : a0.kids.length < 4611686018427387904) : ∀ (n i : Nat), i + n = a0.kids.length -> ∀ (Qac : List Fm), Qcu a0 x14 Qac (i : Int) = Qk6 a0 x14 Qac i (a0.kids.drop i) := by
 intro n
 induction n with
 | zero =>
  intro i hi Qac
  obtain rfl : i = a0.kids.length := by omega
  rw [Qcu, if_neg (by omega), List.drop_length]; rfl
 | succ n ih =>
  intro i hi Qac
  have hil : i < a0.kids.length := by omega
  have hw := Qar (i := i) (by omega)
  have ih' := ih (i + 1) (by omega)
  rw [Qcu, if_pos (show (i : Int) < (a0.kids.length : Int) by omega), List.drop_eq_getElem_cons hil, Qk6]
  simp only [Qap _ i hil, Qak, Qae, hw, ih']
  all_goals rfl
def Qhf : Cor -> List Int -> Fm -> List Cor -> Nat -> List Cor -> Option (List Cor)
 | a0, x16, x19, Qac, Qba, [] => (
  pure Qac
 )
 | a0, x16, x19, Qac, Qba, it :: l_ => (
  (pure it >>= fun x33 =>
  (Qf4 x33 >>= fun x35 =>
  (Qc6 168 Qac [x35] >>= fun x37 =>
  Qhf a0 x16 x19 x37 (Qba + 1) l_
  )
  )
  )
 )
theorem Qrn (a0 : Cor) (x16 : List Int) (x19 : Fm) (hl : a0.kids.length < 4611686018427387904) : ∀ (n i : Nat), i + n = a0.kids.length -> ∀ (Qac : List Cor), Qfk a0 x16 x19 Qac (i : Int) = Qhf a0 x16 x19 Qac i (a0.kids.drop i) := by
 intro n
 induction n with
 | zero =>
  intro i hi Qac
  obtain rfl : i = a0.kids.length := by omega
  rw [Qfk, if_neg (by omega), List.drop_length]; rfl
 | succ n ih =>
  intro i hi Qac
  have hil : i < a0.kids.length := by omega
  have hw := Qar (i := i) (by omega)
  have ih' := ih (i + 1) (by omega)
  rw [Qfk, if_pos (show (i : Int) < (a0.kids.length : Int) by omega), List.drop_eq_getElem_cons hil, Qhf]
  simp only [Qap _ i hil, Qak, Qae, hw, ih']
  all_goals rfl
theorem Qup (a0 : Cor) (x16 : List Int) (x19 : Fm) (Qac : List Cor) (hl : a0.kids.length < 4611686018427387904) : Qfk a0 x16 x19 Qac 0 = Qhf a0 x16 x19 Qac 0 a0.kids := Qrn a0 x16 x19 hl _ 0 (Nat.zero_add _) Qac
def Qb8 : Cor -> List Int -> Fm -> List Cor -> Nat -> List Cor -> Option (List Cor)
 | a0, x16, x19, Qgh, Qba, [] => (
  pure Qgh
 )
 | a0, x16, x19, Qgh, Qba, it :: l_ => (
  (pure it >>= fun x33 =>
  (Qf4 x33 >>= fun x35 =>
  (Qc6 168 Qgh [x35] >>= fun x37 =>
  Qb8 a0 x16 x19 x37 (Qba + 1) l_
  )
  )
  )
 )
theorem Qld (a0 : Cor) (x16 : List Int) (x19 : Fm) (hl : a0.kids.length < 4611686018427387904) : ∀ (n i : Nat), i + n = a0.kids.length -> ∀ (Qgh : List Cor), Qbm a0 x16 x19 Qgh (i : Int) = Qb8 a0 x16 x19 Qgh i (a0.kids.drop i) := by
 intro n
 induction n with
 | zero =>
  intro i hi Qgh
  obtain rfl : i = a0.kids.length := by omega
  rw [Qbm, if_neg (by omega), List.drop_length]; rfl
 | succ n ih =>
  intro i hi Qgh
  have hil : i < a0.kids.length := by omega
  have hw := Qar (i := i) (by omega)
  have ih' := ih (i + 1) (by omega)
  rw [Qbm, if_pos (show (i : Int) < (a0.kids.length : Int) by omega), List.drop_eq_getElem_cons hil, Qb8]
  simp only [Qap _ i hil, Qak, Qae, hw, ih']
  all_goals rfl
theorem Qmc (a0 : Cor) (x16 : List Int) (x19 : Fm) (Qgh : List Cor) (hl : a0.kids.length < 4611686018427387904) : Qbm a0 x16 x19 Qgh 0 = Qb8 a0 x16 x19 Qgh 0 a0.kids := Qld a0 x16 x19 hl _ 0 (Nat.zero_add _) Qgh
def Q0h : Fm -> Int -> Nat -> List Fm -> Option (Bool ⊕ Unit)
 | a0, a1, Qaj, [] => (
  pure (Sum.inr ())
 )
 | a0, a1, Qaj, it :: l_ => (
  (pure it >>= fun x87 =>
  (Qh2 x87 (i64.wrap (a1 - 1)) >>= fun x91 =>
  if (!x91) = true then (
   pure (Sum.inl false)
  ) else (
   Q0h a0 a1 (Qaj + 1) l_
  )
  )
  )
 )
def Qhr : List ByteArray -> List Bnd -> Nat -> List ByteArray -> Option (List Bnd)
 | x5, Qac, Qa1, [] => (
  pure Qac
 )
 | x5, Qac, Qa1, it :: l_ => (
  (pure it >>= fun x16 =>
  (Qc6 48 Qac [Bnd.mk x16 [] (Qa1 : Int)] >>= fun x21 =>
  Qhr x5 x21 (Qa1 + 1) l_
  )
  )
 )
theorem Qxs (x5 : List ByteArray) (hl : x5.length < 4611686018427387904) : ∀ (n i : Nat), i + n = x5.length -> ∀ (Qac : List Bnd), Qbd x5 Qac (i : Int) = Qhr x5 Qac i (x5.drop i) := by
 intro n
 induction n with
 | zero =>
  intro i hi Qac
  obtain rfl : i = x5.length := by omega
  rw [Qbd, if_neg (by omega), List.drop_length]; rfl
 | succ n ih =>
  intro i hi Qac
  have hil : i < x5.length := by omega
  have hw := Qar (i := i) (by omega)
  have ih' := ih (i + 1) (by omega)
  rw [Qbd, if_pos (show (i : Int) < (x5.length : Int) by omega), List.drop_eq_getElem_cons hil, Qhr]
  simp only [Qap _ i hil, Qak, Qae, hw, ih']
  all_goals rfl
def Qia : List Int -> Int -> Nat -> List Int -> Option (Bool ⊕ Unit)
 | a0, a1, Qaj, [] => (
  pure (Sum.inr ())
 )
 | a0, a1, Qaj, it :: l_ => (
  (pure it >>= fun x14 =>
  if x14 = a1 then (
   pure (Sum.inl true)
  ) else (
   Qia a0 a1 (Qaj + 1) l_
  )
  )
 )
theorem Qsq (a0 : List Int) (a1 : Int) (hl : a0.length < 4611686018427387904) : ∀ (n i : Nat), i + n = a0.length ->  Qe3 a0 a1 (i : Int) = Qia a0 a1 i (a0.drop i) := by
 intro n
 induction n with
 | zero =>
  intro i hi
  obtain rfl : i = a0.length := by omega
  rw [Qe3, if_neg (by omega), List.drop_length]; rfl
 | succ n ih =>
  intro i hi
  have hil : i < a0.length := by omega
  have hw := Qar (i := i) (by omega)
  have ih' := ih (i + 1) (by omega)
  rw [Qe3, if_pos (show (i : Int) < (a0.length : Int) by omega), List.drop_eq_getElem_cons hil, Qia]
  simp only [Qap _ i hil, Qak, Qae, hw, ih']
  all_goals rfl
theorem Qwi (a0 : List Int) (a1 : Int)  (hl : a0.length < 4611686018427387904) : Qe3 a0 a1 0 = Qia a0 a1 0 a0 := Qsq a0 a1 hl _ 0 (Nat.zero_add _)
def Qc8 : List Int -> List Int -> Nat -> List Int -> Option (Bool ⊕ Unit)
 | a0, a1, Qaj, [] => (
  pure (Sum.inr ())
 )
 | a0, a1, Qaj, it :: l_ => (
  (pure it >>= fun x15 =>
  (Qfv a1 x15 >>= fun x17 =>
  if (!x17) = true then (
   pure (Sum.inl false)
  ) else (
   Qc8 a0 a1 (Qaj + 1) l_
  )
  )
  )
 )
theorem Qmq (a0 : List Int) (a1 : List Int) (hl : a0.length < 4611686018427387904) : ∀ (n i : Nat), i + n = a0.length ->  Qbx a0 a1 (i : Int) = Qc8 a0 a1 i (a0.drop i) := by
 intro n
 induction n with
 | zero =>
  intro i hi
  obtain rfl : i = a0.length := by omega
  rw [Qbx, if_neg (by omega), List.drop_length]; rfl
 | succ n ih =>
  intro i hi
  have hil : i < a0.length := by omega
  have hw := Qar (i := i) (by omega)
  have ih' := ih (i + 1) (by omega)
  rw [Qbx, if_pos (show (i : Int) < (a0.length : Int) by omega), List.drop_eq_getElem_cons hil, Qc8]
  simp only [Qap _ i hil, Qak, Qae, hw, ih']
  all_goals rfl
theorem Qnv (a0 : List Int) (a1 : List Int)  (hl : a0.length < 4611686018427387904) : Qbx a0 a1 0 = Qc8 a0 a1 0 a0 := Qmq a0 a1 hl _ 0 (Nat.zero_add _)
def Qcq : List Bnd -> Fm -> List Int -> Nat -> List Bnd -> Option (List Int)
 | a0, a1, Qac, Qa7, [] => (
  pure Qac
 )
 | a0, a1, Qac, Qa7, it :: l_ => (
  (pure it >>= fun x16 =>
  ((if x16.name = a1.name then (
   (pure it >>= fun x25 =>
   (Qc7 x25.sc a1.sc >>= fun x30 =>
   pure x30
   )
   )
  ) else (
   pure false
  ) : Option Bool) >>= fun x31 =>
  if x31 = true then (
   (Qc6 8 Qac [(Qa7 : Int)] >>= fun x35 =>
   Qcq a0 a1 x35 (Qa7 + 1) l_
   )
  ) else (
   Qcq a0 a1 Qac (Qa7 + 1) l_
  )
  )
  )
 )
theorem Qol (a0 : List Bnd) (a1 : Fm) (hl : a0.length < 4611686018427387904) : ∀ (n i : Nat), i + n = a0.length -> ∀ (Qac : List Int), Qb5 a0 a1 Qac (i : Int) = Qcq a0 a1 Qac i (a0.drop i) := by
 intro n
 induction n with
 | zero =>
  intro i hi Qac
  obtain rfl : i = a0.length := by omega
  rw [Qb5, if_neg (by omega), List.drop_length]; rfl
 | succ n ih =>
  intro i hi Qac
  have hil : i < a0.length := by omega
  have hw := Qar (i := i) (by omega)
  have ih' := ih (i + 1) (by omega)
  rw [Qb5, if_pos (show (i : Int) < (a0.length : Int) by omega), List.drop_eq_getElem_cons hil, Qcq]
  simp only [Qap _ i hil, Qak, Qae, hw, ih']
  all_goals rfl
theorem Qp7 (a0 : List Bnd) (a1 : Fm) (Qac : List Int) (hl : a0.length < 4611686018427387904) : Qb5 a0 a1 Qac 0 = Qcq a0 a1 Qac 0 a0 := Qol a0 a1 hl _ 0 (Nat.zero_add _) Qac
def Qf1 : List Bnd -> Fm -> List Int -> Int -> Bool -> Nat -> List Int -> Option (Bool)
 | a0, a1, x12, Qa2, Qdx, Qif, [] => (
  pure Qdx
 )
 | a0, a1, x12, Qa2, Qdx, Qif, it :: l_ => (
  ((if Qdx = true then (
   (pure it >>= fun x30 =>
   (idx a0 x30 >>= fun x32 =>
   (idx x12 Qa2 >>= fun x38 =>
   (idx a0 x38 >>= fun x40 =>
   (Qc7 x32.sc x40.sc >>= fun x43 =>
   pure x43
   )
   )
   )
   )
   )
  ) else (
   pure false
  ) : Option Bool) >>= fun x44 =>
  Qf1 a0 a1 x12 Qa2 x44 (Qif + 1) l_
  )
 )
theorem Qrc (a0 : List Bnd) (a1 : Fm) (x12 : List Int) (Qa2 : Int) (hl : x12.length < 4611686018427387904) : ∀ (n i : Nat), i + n = x12.length -> ∀ (Qdx : Bool), Qdk a0 a1 x12 Qa2 Qdx (i : Int) = Qf1 a0 a1 x12 Qa2 Qdx i (x12.drop i) := by
 intro n
 induction n with
 | zero =>
  intro i hi Qdx
  obtain rfl : i = x12.length := by omega
  rw [Qdk, if_neg (by omega), List.drop_length]; rfl
 | succ n ih =>
  intro i hi Qdx
  have hil : i < x12.length := by omega
  have hw := Qar (i := i) (by omega)
  have ih' := ih (i + 1) (by omega)
  rw [Qdk, if_pos (show (i : Int) < (x12.length : Int) by omega), List.drop_eq_getElem_cons hil, Qf1]
  simp only [Qap _ i hil, Qak, Qae, hw, ih']
  all_goals rfl
theorem Qua (a0 : List Bnd) (a1 : Fm) (x12 : List Int) (Qa2 : Int) (Qdx : Bool) (hl : x12.length < 4611686018427387904) : Qdk a0 a1 x12 Qa2 Qdx 0 = Qf1 a0 a1 x12 Qa2 Qdx 0 x12 := Qrc a0 a1 x12 Qa2 hl _ 0 (Nat.zero_add _) Qdx
def Qg9 : List Bnd -> Fm -> List Int -> Nat -> List Int -> Option ((Int × Int) ⊕ Unit)
 | a0, a1, x12, Qa2, [] => (
  pure (Sum.inr ())
 )
 | a0, a1, x12, Qa2, it :: l_ => (
  (Qdk a0 a1 x12 (Qa2 : Int) true 0 >>= fun Kdc =>
   if Kdc = true then (
    (pure it >>= fun x48 =>
    pure (Sum.inl (x48, 1))
    )
   ) else (
    Qg9 a0 a1 x12 (Qa2 + 1) l_
   )
  )
 )
theorem Qrb (a0 : List Bnd) (a1 : Fm) (x12 : List Int) (hl : x12.length < 4611686018427387904) : ∀ (n i : Nat), i + n = x12.length ->  Qec a0 a1 x12 (i : Int) = Qg9 a0 a1 x12 i (x12.drop i) := by
 intro n
 induction n with
 | zero =>
  intro i hi
  obtain rfl : i = x12.length := by omega
  rw [Qec, if_neg (by omega), List.drop_length]; rfl
 | succ n ih =>
  intro i hi
  have hil : i < x12.length := by omega
  have hw := Qar (i := i) (by omega)
  have ih' := ih (i + 1) (by omega)
  rw [Qec, if_pos (show (i : Int) < (x12.length : Int) by omega), List.drop_eq_getElem_cons hil, Qg9]
  simp only [Qap _ i hil, Qak, Qae, hw, ih']
  all_goals rfl
theorem Qt9 (a0 : List Bnd) (a1 : Fm) (x12 : List Int)  (hl : x12.length < 4611686018427387904) : Qec a0 a1 x12 0 = Qg9 a0 a1 x12 0 x12 := Qrb a0 a1 x12 hl _ 0 (Nat.zero_add _)
def Qgj : Xpn -> Int -> Nat -> List Mac -> Option (Int ⊕ Unit)
 | a0, a1, Qaj, [] => (
  pure (Sum.inr ())
 )
 | a0, a1, Qaj, it :: l_ => (
  (pure it >>= fun x16 =>
  if x16.id = a1 then (
   pure (Sum.inl (Qaj : Int))
  ) else (
   Qgj a0 a1 (Qaj + 1) l_
  )
  )
 )
theorem Qqe (a0 : Xpn) (a1 : Int) (hl : a0.macs.length < 4611686018427387904) : ∀ (n i : Nat), i + n = a0.macs.length ->  Qdu a0 a1 (i : Int) = Qgj a0 a1 i (a0.macs.drop i) := by
 intro n
 induction n with
 | zero =>
  intro i hi
  obtain rfl : i = a0.macs.length := by omega
  rw [Qdu, if_neg (by omega), List.drop_length]; rfl
 | succ n ih =>
  intro i hi
  have hil : i < a0.macs.length := by omega
  have hw := Qar (i := i) (by omega)
  have ih' := ih (i + 1) (by omega)
  rw [Qdu, if_pos (show (i : Int) < (a0.macs.length : Int) by omega), List.drop_eq_getElem_cons hil, Qgj]
  simp only [Qap _ i hil, Qak, Qae, hw, ih']
  all_goals rfl
theorem Qtd (a0 : Xpn) (a1 : Int)  (hl : a0.macs.length < 4611686018427387904) : Qdu a0 a1 0 = Qgj a0 a1 0 a0.macs := Qqe a0 a1 hl _ 0 (Nat.zero_add _)
def Qer : Fm -> List Fm -> Nat -> List Fm -> Option (List Fm)
 | a0, Qac, Qba, [] => (
  pure Qac
 )
 | a0, Qac, Qba, it :: l_ => (
  (pure it >>= fun x24 =>
  (Qdg x24 >>= fun x26 =>
  (Qc6 80 Qac [x26] >>= fun x28 =>
  Qer a0 x28 (Qba + 1) l_
  )
  )
  )
 )
theorem Qog (a0 : Fm) (hl : a0.kids.length < 4611686018427387904) : ∀ (n i : Nat), i + n = a0.kids.length -> ∀ (Qac : List Fm), Qc9 a0 Qac (i : Int) = Qer a0 Qac i (a0.kids.drop i) := by
 intro n
 induction n with
 | zero =>
  intro i hi Qac
  obtain rfl : i = a0.kids.length := by omega
  rw [Qc9, if_neg (by omega), List.drop_length]; rfl
 | succ n ih =>
  intro i hi Qac
  have hil : i < a0.kids.length := by omega
  have hw := Qar (i := i) (by omega)
  have ih' := ih (i + 1) (by omega)
  rw [Qc9, if_pos (show (i : Int) < (a0.kids.length : Int) by omega), List.drop_eq_getElem_cons hil, Qer]
  simp only [Qap _ i hil, Qak, Qae, hw, ih']
  all_goals rfl
theorem Qp2 (a0 : Fm) (Qac : List Fm) (hl : a0.kids.length < 4611686018427387904) : Qc9 a0 Qac 0 = Qer a0 Qac 0 a0.kids := Qog a0 hl _ 0 (Nat.zero_add _) Qac
def Qek : List Int -> Int -> List Int -> Nat -> List Int -> Option (List Int)
 | a0, a1, Qac, Qa7, [] => (
  pure Qac
 )
 | a0, a1, Qac, Qa7, it :: l_ => (
  (pure it >>= fun x16 =>
  if x16 = a1 then (
   Qek a0 a1 Qac (Qa7 + 1) l_
  ) else (
   (pure it >>= fun x23 =>
   (Qc6 8 Qac [x23] >>= fun x26 =>
   Qek a0 a1 x26 (Qa7 + 1) l_
   )
   )
  )
  )
 )
theorem Qra (a0 : List Int) (a1 : Int) (hl : a0.length < 4611686018427387904) : ∀ (n i : Nat), i + n = a0.length -> ∀ (Qac : List Int), Qdj a0 a1 Qac (i : Int) = Qek a0 a1 Qac i (a0.drop i) := by
 intro n
 induction n with
 | zero =>
  intro i hi Qac
  obtain rfl : i = a0.length := by omega
  rw [Qdj, if_neg (by omega), List.drop_length]; rfl
 | succ n ih =>
  intro i hi Qac
  have hil : i < a0.length := by omega
  have hw := Qar (i := i) (by omega)
  have ih' := ih (i + 1) (by omega)
  rw [Qdj, if_pos (show (i : Int) < (a0.length : Int) by omega), List.drop_eq_getElem_cons hil, Qek]
  simp only [Qap _ i hil, Qak, Qae, hw, ih']
  all_goals rfl
theorem Qt8 (a0 : List Int) (a1 : Int) (Qac : List Int) (hl : a0.length < 4611686018427387904) : Qdj a0 a1 Qac 0 = Qek a0 a1 Qac 0 a0 := Qra a0 a1 hl _ 0 (Nat.zero_add _) Qac
def Qgy : List Int -> Int -> List Int -> Bool -> Nat -> List Int -> Option (List Int × Bool)
 | a0, a1, Qac, Qa7, Qa2, [] => (
  pure (Qac, Qa7)
 )
 | a0, a1, Qac, Qa7, Qa2, it :: l_ => (
  ((if (!Qa7) = true then (
   (pure it >>= fun x23 =>
   pure (decide (x23 > a1))
   )
  ) else (
   pure false
  ) : Option Bool) >>= fun x27 =>
  ((if x27 = true then (
   (Qc6 8 Qac [a1] >>= fun x31 =>
   pure (x31, true)
   )
  ) else (
   pure (Qac, Qa7)
  ) : Option (List Int × Bool)) >>= fun (Qkn, Q8h) =>
   (pure it >>= fun x35 =>
   (Qc6 8 Qkn [x35] >>= fun x38 =>
   Qgy a0 a1 x38 Q8h (Qa2 + 1) l_
   )
   )
  )
  )
 )
theorem Qsr (a0 : List Int) (a1 : Int) (hl : a0.length < 4611686018427387904) : ∀ (n i : Nat), i + n = a0.length -> ∀ (Qac : List Int) (Qa7 : Bool), Qe4 a0 a1 Qac Qa7 (i : Int) = Qgy a0 a1 Qac Qa7 i (a0.drop i) := by
 intro n
 induction n with
 | zero =>
  intro i hi Qac Qa7
  obtain rfl : i = a0.length := by omega
  rw [Qe4, if_neg (by omega), List.drop_length]; rfl
 | succ n ih =>
  intro i hi Qac Qa7
  have hil : i < a0.length := by omega
  have hw := Qar (i := i) (by omega)
  have ih' := ih (i + 1) (by omega)
  rw [Qe4, if_pos (show (i : Int) < (a0.length : Int) by omega), List.drop_eq_getElem_cons hil, Qgy]
  simp only [Qap _ i hil, Qak, Qae, hw, ih']
  all_goals rfl
theorem Qwj (a0 : List Int) (a1 : Int) (Qac : List Int) (Qa7 : Bool) (hl : a0.length < 4611686018427387904) : Qe4 a0 a1 Qac Qa7 0 = Qgy a0 a1 Qac Qa7 0 a0 := Qsr a0 a1 hl _ 0 (Nat.zero_add _) Qac Qa7
def Qfu : Fm -> Int -> Int -> List Int -> List Fm -> Nat -> List Fm -> Option (List Fm)
 | a0, a1, a2, Qf7, Qac, Qby, [] => (
  pure Qac
 )
 | a0, a1, a2, Qf7, Qac, Qby, it :: l_ => (
  (pure it >>= fun x57 =>
  (Qbt x57 a1 a2 >>= fun x61 =>
  (Qc6 80 Qac [x61] >>= fun x63 =>
  Qfu a0 a1 a2 Qf7 x63 (Qby + 1) l_
  )
  )
  )
 )
theorem Qpa (a0 : Fm) (a1 : Int) (a2 : Int) (Qf7 : List Int) (hl : a0.kids.length < 4611686018427387904) : ∀ (n i : Nat), i + n = a0.kids.length -> ∀ (Qac : List Fm), Qdz a0 a1 a2 Qf7 Qac (i : Int) = Qfu a0 a1 a2 Qf7 Qac i (a0.kids.drop i) := by
 intro n
 induction n with
 | zero =>
  intro i hi Qac
  obtain rfl : i = a0.kids.length := by omega
  rw [Qdz, if_neg (by omega), List.drop_length]; rfl
 | succ n ih =>
  intro i hi Qac
  have hil : i < a0.kids.length := by omega
  have hw := Qar (i := i) (by omega)
  have ih' := ih (i + 1) (by omega)
  rw [Qdz, if_pos (show (i : Int) < (a0.kids.length : Int) by omega), List.drop_eq_getElem_cons hil, Qfu]
  simp only [Qap _ i hil, Qak, Qae, hw, ih']
  all_goals rfl
theorem Qq9 (a0 : Fm) (a1 : Int) (a2 : Int) (Qf7 : List Int) (Qac : List Fm) (hl : a0.kids.length < 4611686018427387904) : Qdz a0 a1 a2 Qf7 Qac 0 = Qfu a0 a1 a2 Qf7 Qac 0 a0.kids := Qpa a0 a1 a2 Qf7 hl _ 0 (Nat.zero_add _) Qac
def Qg8 : List Int -> List Int -> Nat -> List Int -> Option (Bool ⊕ Unit)
 | a0, a1, Qaj, [] => (
  pure (Sum.inr ())
 )
 | a0, a1, Qaj, it :: l_ => (
  (pure it >>= fun x19 =>
  (idx a1 (Qaj : Int) >>= fun x23 =>
  if x19 = x23 then (
   Qg8 a0 a1 (Qaj + 1) l_
  ) else (
   pure (Sum.inl false)
  )
  )
  )
 )
theorem Qq8 (a0 : List Int) (a1 : List Int) (hl : a0.length < 4611686018427387904) : ∀ (n i : Nat), i + n = a0.length ->  Qeb a0 a1 (i : Int) = Qg8 a0 a1 i (a0.drop i) := by
 intro n
 induction n with
 | zero =>
  intro i hi
  obtain rfl : i = a0.length := by omega
  rw [Qeb, if_neg (by omega), List.drop_length]; rfl
 | succ n ih =>
  intro i hi
  have hil : i < a0.length := by omega
  have hw := Qar (i := i) (by omega)
  have ih' := ih (i + 1) (by omega)
  rw [Qeb, if_pos (show (i : Int) < (a0.length : Int) by omega), List.drop_eq_getElem_cons hil, Qg8]
  simp only [Qap _ i hil, Qak, Qae, hw, ih']
  all_goals rfl
theorem Qt4 (a0 : List Int) (a1 : List Int)  (hl : a0.length < 4611686018427387904) : Qeb a0 a1 0 = Qg8 a0 a1 0 a0 := Qq8 a0 a1 hl _ 0 (Nat.zero_add _)
def Qet : List Bnd -> List Bnd -> Nat -> List Bnd -> Option (List Bnd)
 | a0, Qac, Qba, [] => (
  pure Qac
 )
 | a0, Qac, Qba, it :: l_ => (
  (pure it >>= fun x15 =>
  (Qc6 8 [] x15.sc >>= fun x20 =>
  (Qc6 48 Qac [Bnd.mk x15.name x20 x15.id] >>= fun x25 =>
  Qet a0 x25 (Qba + 1) l_
  )
  )
  )
 )
theorem Qok (a0 : List Bnd) (hl : a0.length < 4611686018427387904) : ∀ (n i : Nat), i + n = a0.length -> ∀ (Qac : List Bnd), Qck a0 Qac (i : Int) = Qet a0 Qac i (a0.drop i) := by
 intro n
 induction n with
 | zero =>
  intro i hi Qac
  obtain rfl : i = a0.length := by omega
  rw [Qck, if_neg (by omega), List.drop_length]; rfl
 | succ n ih =>
  intro i hi Qac
  have hil : i < a0.length := by omega
  have hw := Qar (i := i) (by omega)
  have ih' := ih (i + 1) (by omega)
  rw [Qck, if_pos (show (i : Int) < (a0.length : Int) by omega), List.drop_eq_getElem_cons hil, Qet]
  simp only [Qap _ i hil, Qak, Qae, hw, ih']
  all_goals rfl
theorem Qp6 (a0 : List Bnd) (Qac : List Bnd) (hl : a0.length < 4611686018427387904) : Qck a0 Qac 0 = Qet a0 Qac 0 a0 := Qok a0 hl _ 0 (Nat.zero_add _) Qac
def Qe0 : Fm -> List Fm -> List Fm -> Nat -> List Fm -> Option ((List Fm × List Fm × Bool) ⊕ (List Fm × List Fm))
 | a0, Qac, Qgh, Qa2, [] => (
  pure (Sum.inr (Qac, Qgh))
 )
 | a0, Qac, Qgh, Qa2, it :: l_ => (
  (pure it >>= fun x20 =>
  ((if x20.kind = 3 then (
   (pure it >>= fun x28 =>
   pure (!decide ((x28.kids.length : Int) = 2))
   )
  ) else (
   pure true
  ) : Option Bool) >>= fun x33 =>
  if x33 = true then (
   pure (Sum.inl (Qac, Qgh, false))
  ) else (
   (pure it >>= fun x40 =>
   (idx x40.kids 0 >>= fun x43 =>
   (Qc6 80 Qac [x43] >>= fun x46 =>
   (pure it >>= fun x51 =>
   (idx x51.kids 1 >>= fun x54 =>
   (Qc6 80 Qgh [x54] >>= fun x57 =>
   Qe0 a0 x46 x57 (Qa2 + 1) l_
   )
   )
   )
   )
   )
   )
  )
  )
  )
 )
theorem Qqg (a0 : Fm) (hl : a0.kids.length < 4611686018427387904) : ∀ (n i : Nat), i + n = a0.kids.length -> ∀ (Qac : List Fm) (Qgh : List Fm), Qdv a0 Qac Qgh (i : Int) = Qe0 a0 Qac Qgh i (a0.kids.drop i) := by
 intro n
 induction n with
 | zero =>
  intro i hi Qac Qgh
  obtain rfl : i = a0.kids.length := by omega
  rw [Qdv, if_neg (by omega), List.drop_length]; rfl
 | succ n ih =>
  intro i hi Qac Qgh
  have hil : i < a0.kids.length := by omega
  have hw := Qar (i := i) (by omega)
  have ih' := ih (i + 1) (by omega)
  rw [Qdv, if_pos (show (i : Int) < (a0.kids.length : Int) by omega), List.drop_eq_getElem_cons hil, Qe0]
  simp only [Qap _ i hil, Qak, Qae, hw, ih']
  all_goals rfl
theorem Qte (a0 : Fm) (Qac : List Fm) (Qgh : List Fm) (hl : a0.kids.length < 4611686018427387904) : Qdv a0 Qac Qgh 0 = Qe0 a0 Qac Qgh 0 a0.kids := Qqg a0 hl _ 0 (Nat.zero_add _) Qac Qgh
def Qft : Fm -> Fm -> Nat -> List Fm -> Option (Bool ⊕ Unit)
 | a0, a1, Qaj, [] => (
  pure (Sum.inr ())
 )
 | a0, a1, Qaj, it :: l_ => (
  (pure it >>= fun x52 =>
  (idx a1.kids (Qaj : Int) >>= fun x57 =>
  (Qbs x52 x57 >>= fun x59 =>
  if (!x59) = true then (
   pure (Sum.inl false)
  ) else (
   Qft a0 a1 (Qaj + 1) l_
  )
  )
  )
  )
 )
theorem Qo8 (a0 : Fm) (a1 : Fm) (hl : a0.kids.length < 4611686018427387904) : ∀ (n i : Nat), i + n = a0.kids.length ->  Qdy a0 a1 (i : Int) = Qft a0 a1 i (a0.kids.drop i) := by
 intro n
 induction n with
 | zero =>
  intro i hi
  obtain rfl : i = a0.kids.length := by omega
  rw [Qdy, if_neg (by omega), List.drop_length]; rfl
 | succ n ih =>
  intro i hi
  have hil : i < a0.kids.length := by omega
  have hw := Qar (i := i) (by omega)
  have ih' := ih (i + 1) (by omega)
  rw [Qdy, if_pos (show (i : Int) < (a0.kids.length : Int) by omega), List.drop_eq_getElem_cons hil, Qft]
  simp only [Qap _ i hil, Qak, Qae, hw, ih']
  all_goals rfl
theorem Qq5 (a0 : Fm) (a1 : Fm)  (hl : a0.kids.length < 4611686018427387904) : Qdy a0 a1 0 = Qft a0 a1 0 a0.kids := Qo8 a0 a1 hl _ 0 (Nat.zero_add _)
def Qiu : List Fm -> Fm -> Nat -> List Fm -> Option (Bool ⊕ Unit)
 | a0, a1, Qaj, [] => (
  pure (Sum.inr ())
 )
 | a0, a1, Qaj, it :: l_ => (
  (pure it >>= fun x14 =>
  (Qbs x14 a1 >>= fun x17 =>
  if x17 = true then (
   pure (Sum.inl true)
  ) else (
   Qiu a0 a1 (Qaj + 1) l_
  )
  )
  )
 )
theorem Quc (a0 : List Fm) (a1 : Fm) (hl : a0.length < 4611686018427387904) : ∀ (n i : Nat), i + n = a0.length ->  Qgn a0 a1 (i : Int) = Qiu a0 a1 i (a0.drop i) := by
 intro n
 induction n with
 | zero =>
  intro i hi
  obtain rfl : i = a0.length := by omega
  rw [Qgn, if_neg (by omega), List.drop_length]; rfl
 | succ n ih =>
  intro i hi
  have hil : i < a0.length := by omega
  have hw := Qar (i := i) (by omega)
  have ih' := ih (i + 1) (by omega)
  rw [Qgn, if_pos (show (i : Int) < (a0.length : Int) by omega), List.drop_eq_getElem_cons hil, Qiu]
  simp only [Qap _ i hil, Qak, Qae, hw, ih']
  all_goals rfl
theorem Qx9 (a0 : List Fm) (a1 : Fm)  (hl : a0.length < 4611686018427387904) : Qgn a0 a1 0 = Qiu a0 a1 0 a0 := Quc a0 a1 hl _ 0 (Nat.zero_add _)
def Qew : Fm -> Int -> Nat -> List Fm -> Option (Bool ⊕ Int)
 | a0, Qa1, Qba, [] => (
  pure (Sum.inr Qa1)
 )
 | a0, Qa1, Qba, it :: l_ => (
  (pure it >>= fun x17 =>
  (Qbf x17 >>= fun x19 =>
  if x19 = true then (
   ((if (Qba : Int) = 0 then (
    pure true
   ) else (
    (idx a0.kids (i64.wrap ((Qba : Int) - 1)) >>= fun x29 =>
    (Qbf x29 >>= fun x31 =>
    pure x31
    )
    )
   ) : Option Bool) >>= fun x32 =>
   if x32 = true then (
    pure (Sum.inl false)
   ) else (
    Qew a0 (i64.wrap (Qa1 + 1)) (Qba + 1) l_
   )
   )
  ) else (
   (pure it >>= fun x36 =>
   (Qhn x36 >>= fun x38 =>
   if (!x38) = true then (
    pure (Sum.inl false)
   ) else (
    Qew a0 Qa1 (Qba + 1) l_
   )
   )
   )
  )
  )
  )
 )
theorem Qqa (a0 : Fm) (hl : a0.kids.length < 4611686018427387904) : ∀ (n i : Nat), i + n = a0.kids.length -> ∀ (Qa1 : Int), Qds a0 Qa1 (i : Int) = Qew a0 Qa1 i (a0.kids.drop i) := by
 intro n
 induction n with
 | zero =>
  intro i hi Qa1
  obtain rfl : i = a0.kids.length := by omega
  rw [Qds, if_neg (by omega), List.drop_length]; rfl
 | succ n ih =>
  intro i hi Qa1
  have hil : i < a0.kids.length := by omega
  have hw := Qar (i := i) (by omega)
  have ih' := ih (i + 1) (by omega)
  rw [Qds, if_pos (show (i : Int) < (a0.kids.length : Int) by omega), List.drop_eq_getElem_cons hil, Qew]
  simp only [Qap _ i hil, Qak, Qae, hw, ih']
  all_goals rfl
theorem Qs1 (a0 : Fm) (Qa1 : Int) (hl : a0.kids.length < 4611686018427387904) : Qds a0 Qa1 0 = Qew a0 Qa1 0 a0.kids := Qqa a0 hl _ 0 (Nat.zero_add _) Qa1
def Qdt : Fm -> List Fm -> List Fm -> Nat -> List Fm -> Option (List Fm)
 | a1, a2, Qac, Qa2, [] => (
  pure Qac
 )
 | a1, a2, Qac, Qa2, it :: l_ => (
  (pure it >>= fun x26 =>
  (Qeh Qac x26 a2 >>= fun x29 =>
  Qdt a1 a2 x29 (Qa2 + 1) l_
  )
  )
 )
theorem Qop (a1 : Fm) (a2 : List Fm) (hl : a1.kids.length < 4611686018427387904) : ∀ (n i : Nat), i + n = a1.kids.length -> ∀ (Qac : List Fm), Qdd a1 a2 Qac (i : Int) = Qdt a1 a2 Qac i (a1.kids.drop i) := by
 intro n
 induction n with
 | zero =>
  intro i hi Qac
  obtain rfl : i = a1.kids.length := by omega
  rw [Qdd, if_neg (by omega), List.drop_length]; rfl
 | succ n ih =>
  intro i hi Qac
  have hil : i < a1.kids.length := by omega
  have hw := Qar (i := i) (by omega)
  have ih' := ih (i + 1) (by omega)
  rw [Qdd, if_pos (show (i : Int) < (a1.kids.length : Int) by omega), List.drop_eq_getElem_cons hil, Qdt]
  simp only [Qap _ i hil, Qak, Qae, hw, ih']
  all_goals rfl
theorem Qlb (a1 : Fm) (a2 : List Fm) (Qac : List Fm) (hl : a1.kids.length < 4611686018427387904) : Qdd a1 a2 Qac 0 = Qdt a1 a2 Qac 0 a1.kids := Qop a1 a2 hl _ 0 (Nat.zero_add _) Qac
def Qf2 : Fm -> List Fm -> List Fm -> Nat -> List Fm -> Option (List Fm)
 | a1, a2, Qac, Qa2, [] => (
  pure Qac
 )
 | a1, a2, Qac, Qa2, it :: l_ => (
  (pure it >>= fun x26 =>
  (Qeh Qac x26 a2 >>= fun x29 =>
  Qf2 a1 a2 x29 (Qa2 + 1) l_
  )
  )
 )
theorem Qrf (a1 : Fm) (a2 : List Fm) (hl : a1.kids.length < 4611686018427387904) : ∀ (n i : Nat), i + n = a1.kids.length -> ∀ (Qac : List Fm), Qeg a1 a2 Qac (i : Int) = Qf2 a1 a2 Qac i (a1.kids.drop i) := by
 intro n
 induction n with
 | zero =>
  intro i hi Qac
  obtain rfl : i = a1.kids.length := by omega
  rw [Qeg, if_neg (by omega), List.drop_length]; rfl
 | succ n ih =>
  intro i hi Qac
  have hil : i < a1.kids.length := by omega
  have hw := Qar (i := i) (by omega)
  have ih' := ih (i + 1) (by omega)
  rw [Qeg, if_pos (show (i : Int) < (a1.kids.length : Int) by omega), List.drop_eq_getElem_cons hil, Qf2]
  simp only [Qap _ i hil, Qak, Qae, hw, ih']
  all_goals rfl
theorem Qno (a1 : Fm) (a2 : List Fm) (Qac : List Fm) (hl : a1.kids.length < 4611686018427387904) : Qeg a1 a2 Qac 0 = Qf2 a1 a2 Qac 0 a1.kids := Qrf a1 a2 hl _ 0 (Nat.zero_add _) Qac
def Qb7 : Fm -> List Fm -> Int -> List Int -> Nat -> List Fm -> Option (List Int)
 | a1, a2, a3, Qac, Qbq, [] => (
  pure Qac
 )
 | a1, a2, a3, Qac, Qbq, it :: l_ => (
  ((if (i64.wrap ((Qbq : Int) + 1)) < (a1.kids.length : Int) then (
   (idx a1.kids (i64.wrap ((Qbq : Int) + 1)) >>= fun x37 =>
   (Qbf x37 >>= fun x39 =>
   pure x39
   )
   )
  ) else (
   pure false
  ) : Option Bool) >>= fun x40 =>
  ((if x40 = true then (
   pure (i64.wrap (a3 + 1))
  ) else (
   pure a3
  ) : Option (Int)) >>= fun Qj8 =>
   (pure it >>= fun x47 =>
   (Qb3 Qac x47 a2 Qj8 >>= fun x51 =>
   Qb7 a1 a2 a3 x51 (Qbq + 1) l_
   )
   )
  )
  )
 )
theorem Qne (a1 : Fm) (a2 : List Fm) (a3 : Int) (hl : a1.kids.length < 4611686018427387904) : ∀ (n i : Nat), i + n = a1.kids.length -> ∀ (Qac : List Int), Qcc a1 a2 a3 Qac (i : Int) = Qb7 a1 a2 a3 Qac i (a1.kids.drop i) := by
 intro n
 induction n with
 | zero =>
  intro i hi Qac
  obtain rfl : i = a1.kids.length := by omega
  rw [Qcc, if_neg (by omega), List.drop_length]; rfl
 | succ n ih =>
  intro i hi Qac
  have hil : i < a1.kids.length := by omega
  have hw := Qar (i := i) (by omega)
  have ih' := ih (i + 1) (by omega)
  rw [Qcc, if_pos (show (i : Int) < (a1.kids.length : Int) by omega), List.drop_eq_getElem_cons hil, Qb7]
  simp only [Qap _ i hil, Qak, Qae, hw, ih']
  all_goals rfl
theorem Qkh (a1 : Fm) (a2 : List Fm) (a3 : Int) (Qac : List Int) (hl : a1.kids.length < 4611686018427387904) : Qcc a1 a2 a3 Qac 0 = Qb7 a1 a2 a3 Qac 0 a1.kids := Qne a1 a2 a3 hl _ 0 (Nat.zero_add _) Qac
def Qdb : Fm -> List Fm -> Int -> List Int -> Nat -> List Fm -> Option (List Int)
 | a1, a2, a3, Qac, Qbq, [] => (
  pure Qac
 )
 | a1, a2, a3, Qac, Qbq, it :: l_ => (
  ((if (i64.wrap ((Qbq : Int) + 1)) < (a1.kids.length : Int) then (
   (idx a1.kids (i64.wrap ((Qbq : Int) + 1)) >>= fun x37 =>
   (Qbf x37 >>= fun x39 =>
   pure x39
   )
   )
  ) else (
   pure false
  ) : Option Bool) >>= fun x40 =>
  ((if x40 = true then (
   pure (i64.wrap (a3 + 1))
  ) else (
   pure a3
  ) : Option (Int)) >>= fun Qj8 =>
   (pure it >>= fun x47 =>
   (Qb3 Qac x47 a2 Qj8 >>= fun x51 =>
   Qdb a1 a2 a3 x51 (Qbq + 1) l_
   )
   )
  )
  )
 )
theorem Qpd (a1 : Fm) (a2 : List Fm) (a3 : Int) (hl : a1.kids.length < 4611686018427387904) : ∀ (n i : Nat), i + n = a1.kids.length -> ∀ (Qac : List Int), Qc2 a1 a2 a3 Qac (i : Int) = Qdb a1 a2 a3 Qac i (a1.kids.drop i) := by
 intro n
 induction n with
 | zero =>
  intro i hi Qac
  obtain rfl : i = a1.kids.length := by omega
  rw [Qc2, if_neg (by omega), List.drop_length]; rfl
 | succ n ih =>
  intro i hi Qac
  have hil : i < a1.kids.length := by omega
  have hw := Qar (i := i) (by omega)
  have ih' := ih (i + 1) (by omega)
  rw [Qc2, if_pos (show (i : Int) < (a1.kids.length : Int) by omega), List.drop_eq_getElem_cons hil, Qdb]
  simp only [Qap _ i hil, Qak, Qae, hw, ih']
  all_goals rfl
theorem Qlw (a1 : Fm) (a2 : List Fm) (a3 : Int) (Qac : List Int) (hl : a1.kids.length < 4611686018427387904) : Qc2 a1 a2 a3 Qac 0 = Qdb a1 a2 a3 Qac 0 a1.kids := Qpd a1 a2 a3 hl _ 0 (Nat.zero_add _) Qac
def Qiv : Fm -> List Fm -> List Fm -> Nat -> List Fm -> Option (Bool ⊕ Unit)
 | a0, a1, x25, Qa7, [] => (
  pure (Sum.inr ())
 )
 | a0, a1, x25, Qa7, it :: l_ => (
  (Qy4 x25 0 (Qa7 : Int) >>= fun x34 =>
  (pure it >>= fun x37 =>
  (Qju x34 x37 >>= fun x39 =>
  if x39 = true then (
   pure (Sum.inl false)
  ) else (
   Qiv a0 a1 x25 (Qa7 + 1) l_
  )
  )
  )
  )
 )
theorem Qud (a0 : Fm) (a1 : List Fm) (x25 : List Fm) (hl : x25.length < 4611686018427387904) : ∀ (n i : Nat), i + n = x25.length ->  Qgo a0 a1 x25 (i : Int) = Qiv a0 a1 x25 i (x25.drop i) := by
 intro n
 induction n with
 | zero =>
  intro i hi
  obtain rfl : i = x25.length := by omega
  rw [Qgo, if_neg (by omega), List.drop_length]; rfl
 | succ n ih =>
  intro i hi
  have hil : i < x25.length := by omega
  have hw := Qar (i := i) (by omega)
  have ih' := ih (i + 1) (by omega)
  rw [Qgo, if_pos (show (i : Int) < (x25.length : Int) by omega), List.drop_eq_getElem_cons hil, Qiv]
  simp only [Qap _ i hil, Qak, Qae, hw, ih']
  all_goals rfl
theorem Qya (a0 : Fm) (a1 : List Fm) (x25 : List Fm)  (hl : x25.length < 4611686018427387904) : Qgo a0 a1 x25 0 = Qiv a0 a1 x25 0 x25 := Qud a0 a1 x25 hl _ 0 (Nat.zero_add _)
def Qiw : Fm -> List Fm -> List Int -> Nat -> List Int -> Option (Bool ⊕ Unit)
 | a0, x25, x43, Qdx, [] => (
  pure (Sum.inr ())
 )
 | a0, x25, x43, Qdx, it :: l_ => (
  (pure it >>= fun x52 =>
  if x52 > 3 then (
   pure (Sum.inl false)
  ) else (
   Qiw a0 x25 x43 (Qdx + 1) l_
  )
  )
 )
theorem Que (a0 : Fm) (x25 : List Fm) (x43 : List Int) (hl : x43.length < 4611686018427387904) : ∀ (n i : Nat), i + n = x43.length ->  Qgp a0 x25 x43 (i : Int) = Qiw a0 x25 x43 i (x43.drop i) := by
 intro n
 induction n with
 | zero =>
  intro i hi
  obtain rfl : i = x43.length := by omega
  rw [Qgp, if_neg (by omega), List.drop_length]; rfl
 | succ n ih =>
  intro i hi
  have hil : i < x43.length := by omega
  have hw := Qar (i := i) (by omega)
  have ih' := ih (i + 1) (by omega)
  rw [Qgp, if_pos (show (i : Int) < (x43.length : Int) by omega), List.drop_eq_getElem_cons hil, Qiw]
  simp only [Qap _ i hil, Qak, Qae, hw, ih']
  all_goals rfl
theorem Qyb (a0 : Fm) (x25 : List Fm) (x43 : List Int)  (hl : x43.length < 4611686018427387904) : Qgp a0 x25 x43 0 = Qiw a0 x25 x43 0 x43 := Que a0 x25 x43 hl _ 0 (Nat.zero_add _)
def Qey : Fm -> List Fm -> List Int -> List Hit -> Nat -> List Fm -> Option (List Hit)
 | a0, x14, x18, Qac, Qby, [] => (
  pure Qac
 )
 | a0, x14, x18, Qac, Qby, it :: l_ => (
  (pure it >>= fun x27 =>
  (idx x18 (Qby : Int) >>= fun x31 =>
  if x31 = 0 then (
   (pure it >>= fun x39 =>
   (Qc6 192 Qac [Hit.mk x27 x31 x39 []] >>= fun x45 =>
   Qey a0 x14 x18 x45 (Qby + 1) l_
   )
   )
  ) else (
   (Qc6 192 Qac [Hit.mk x27 x31 (Fm.mk 0 (ByteArray.mk #[]) 0 [] []) []] >>= fun Qr1 =>
   Qey a0 x14 x18 Qr1 (Qby + 1) l_
   )
  )
  )
  )
 )
theorem Qqc (a0 : Fm) (x14 : List Fm) (x18 : List Int) (hl : x14.length < 4611686018427387904) : ∀ (n i : Nat), i + n = x14.length -> ∀ (Qac : List Hit), Qcz a0 x14 x18 Qac (i : Int) = Qey a0 x14 x18 Qac i (x14.drop i) := by
 intro n
 induction n with
 | zero =>
  intro i hi Qac
  obtain rfl : i = x14.length := by omega
  rw [Qcz, if_neg (by omega), List.drop_length]; rfl
 | succ n ih =>
  intro i hi Qac
  have hil : i < x14.length := by omega
  have hw := Qar (i := i) (by omega)
  have ih' := ih (i + 1) (by omega)
  rw [Qcz, if_pos (show (i : Int) < (x14.length : Int) by omega), List.drop_eq_getElem_cons hil, Qey]
  simp only [Qap _ i hil, Qak, Qae, hw, ih']
  all_goals rfl
theorem Qs7 (a0 : Fm) (x14 : List Fm) (x18 : List Int) (Qac : List Hit) (hl : x14.length < 4611686018427387904) : Qcz a0 x14 x18 Qac 0 = Qey a0 x14 x18 Qac 0 x14 := Qqc a0 x14 x18 hl _ 0 (Nat.zero_add _) Qac
def Qha : List Hit -> Fm -> Nat -> List Hit -> Option (Int ⊕ Unit)
 | a0, a1, Qaj, [] => (
  pure (Sum.inr ())
 )
 | a0, a1, Qaj, it :: l_ => (
  (pure it >>= fun x14 =>
  (Qbs x14.name a1 >>= fun x18 =>
  if x18 = true then (
   pure (Sum.inl (Qaj : Int))
  ) else (
   Qha a0 a1 (Qaj + 1) l_
  )
  )
  )
 )
theorem Qrd (a0 : List Hit) (a1 : Fm) (hl : a0.length < 4611686018427387904) : ∀ (n i : Nat), i + n = a0.length ->  Qed a0 a1 (i : Int) = Qha a0 a1 i (a0.drop i) := by
 intro n
 induction n with
 | zero =>
  intro i hi
  obtain rfl : i = a0.length := by omega
  rw [Qed, if_neg (by omega), List.drop_length]; rfl
 | succ n ih =>
  intro i hi
  have hil : i < a0.length := by omega
  have hw := Qar (i := i) (by omega)
  have ih' := ih (i + 1) (by omega)
  rw [Qed, if_pos (show (i : Int) < (a0.length : Int) by omega), List.drop_eq_getElem_cons hil, Qha]
  simp only [Qap _ i hil, Qak, Qae, hw, ih']
  all_goals rfl
theorem Qub (a0 : List Hit) (a1 : Fm)  (hl : a0.length < 4611686018427387904) : Qed a0 a1 0 = Qha a0 a1 0 a0 := Qrd a0 a1 hl _ 0 (Nat.zero_add _)
def Qhd : List Hit -> Fm -> Nat -> List Fm -> Option (Bool ⊕ Unit)
 | a0, a1, Qaj, [] => (
  pure (Sum.inr ())
 )
 | a0, a1, Qaj, it :: l_ => (
  (pure it >>= fun x21 =>
  (Qhv a0 x21 >>= fun x23 =>
  if x23 = true then (
   pure (Sum.inl true)
  ) else (
   Qhd a0 a1 (Qaj + 1) l_
  )
  )
  )
 )
theorem Qrj (a0 : List Hit) (a1 : Fm) (hl : a1.kids.length < 4611686018427387904) : ∀ (n i : Nat), i + n = a1.kids.length ->  Qfj a0 a1 (i : Int) = Qhd a0 a1 i (a1.kids.drop i) := by
 intro n
 induction n with
 | zero =>
  intro i hi
  obtain rfl : i = a1.kids.length := by omega
  rw [Qfj, if_neg (by omega), List.drop_length]; rfl
 | succ n ih =>
  intro i hi
  have hil : i < a1.kids.length := by omega
  have hw := Qar (i := i) (by omega)
  have ih' := ih (i + 1) (by omega)
  rw [Qfj, if_pos (show (i : Int) < (a1.kids.length : Int) by omega), List.drop_eq_getElem_cons hil, Qhd]
  simp only [Qap _ i hil, Qak, Qae, hw, ih']
  all_goals rfl
theorem Qun (a0 : List Hit) (a1 : Fm)  (hl : a1.kids.length < 4611686018427387904) : Qfj a0 a1 0 = Qhd a0 a1 0 a1.kids := Qrj a0 a1 hl _ 0 (Nat.zero_add _)
def Qhc : List Hit -> List Hit -> Nat -> List Hit -> Option (List Hit)
 | a0, Qac, Qba, [] => (
  pure Qac
 )
 | a0, Qac, Qba, it :: l_ => (
  (pure it >>= fun x15 =>
  ((if x15.depth > 0 then (
   pure (i64.wrap (x15.depth - 1))
  ) else (
   pure x15.depth
  ) : Option (Int)) >>= fun Qtm =>
   (Qc6 192 Qac [Hit.mk x15.name Qtm x15.one []] >>= fun x39 =>
   Qhc a0 x39 (Qba + 1) l_
   )
  )
  )
 )
theorem Qri (a0 : List Hit) (hl : a0.length < 4611686018427387904) : ∀ (n i : Nat), i + n = a0.length -> ∀ (Qac : List Hit), Qei a0 Qac (i : Int) = Qhc a0 Qac i (a0.drop i) := by
 intro n
 induction n with
 | zero =>
  intro i hi Qac
  obtain rfl : i = a0.length := by omega
  rw [Qei, if_neg (by omega), List.drop_length]; rfl
 | succ n ih =>
  intro i hi Qac
  have hil : i < a0.length := by omega
  have hw := Qar (i := i) (by omega)
  have ih' := ih (i + 1) (by omega)
  rw [Qei, if_pos (show (i : Int) < (a0.length : Int) by omega), List.drop_eq_getElem_cons hil, Qhc]
  simp only [Qap _ i hil, Qak, Qae, hw, ih']
  all_goals rfl
theorem Qul (a0 : List Hit) (Qac : List Hit) (hl : a0.length < 4611686018427387904) : Qei a0 Qac 0 = Qhc a0 Qac 0 a0 := Qri a0 hl _ 0 (Nat.zero_add _) Qac
def Qgq : Fm -> List Hit -> Nat -> List Fm -> Option (Bool ⊕ Unit)
 | a0, a1, Qaj, [] => (
  pure (Sum.inr ())
 )
 | a0, a1, Qaj, it :: l_ => (
  (pure it >>= fun x24 =>
  (Qbf x24 >>= fun x26 =>
  if x26 = true then (
   ((if (Qaj : Int) = 0 then (
    pure true
   ) else (
    (idx a0.kids (i64.wrap ((Qaj : Int) - 1)) >>= fun x34 =>
    (Qbf x34 >>= fun x36 =>
    pure x36
    )
    )
   ) : Option Bool) >>= fun x37 =>
   if x37 = true then (
    pure (Sum.inl false)
   ) else (
    Qgq a0 a1 (Qaj + 1) l_
   )
   )
  ) else (
   ((if (i64.wrap ((Qaj : Int) + 1)) < (a0.kids.length : Int) then (
    (idx a0.kids (i64.wrap ((Qaj : Int) + 1)) >>= fun x49 =>
    (Qbf x49 >>= fun x51 =>
    pure x51
    )
    )
   ) else (
    pure false
   ) : Option Bool) >>= fun x52 =>
   if x52 = true then (
    (pure it >>= fun x57 =>
    (Qhv a1 x57 >>= fun x59 =>
    ((if (!x59) = true then (
     pure true
    ) else (
     (pure it >>= fun x65 =>
     (Qj4 a1 >>= fun x68 =>
     (Qi8 x65 x68 >>= fun x69 =>
     pure (!x69)
     )
     )
     )
    ) : Option Bool) >>= fun x71 =>
    if x71 = true then (
     pure (Sum.inl false)
    ) else (
     Qgq a0 a1 (Qaj + 1) l_
    )
    )
    )
    )
   ) else (
    (pure it >>= fun x75 =>
    (Qi8 x75 a1 >>= fun x78 =>
    if (!x78) = true then (
     pure (Sum.inl false)
    ) else (
     Qgq a0 a1 (Qaj + 1) l_
    )
    )
    )
   )
   )
  )
  )
  )
 )
theorem Quk (a0 : Fm) (a1 : List Hit) (hl : a0.kids.length < 4611686018427387904) : ∀ (n i : Nat), i + n = a0.kids.length ->  Qfh a0 a1 (i : Int) = Qgq a0 a1 i (a0.kids.drop i) := by
 intro n
 induction n with
 | zero =>
  intro i hi
  obtain rfl : i = a0.kids.length := by omega
  rw [Qfh, if_neg (by omega), List.drop_length]; rfl
 | succ n ih =>
  intro i hi
  have hil : i < a0.kids.length := by omega
  have hw := Qar (i := i) (by omega)
  have ih' := ih (i + 1) (by omega)
  rw [Qfh, if_pos (show (i : Int) < (a0.kids.length : Int) by omega), List.drop_eq_getElem_cons hil, Qgq]
  simp only [Qap _ i hil, Qak, Qae, hw, ih']
  all_goals rfl
theorem Qyd (a0 : Fm) (a1 : List Hit)  (hl : a0.kids.length < 4611686018427387904) : Qfh a0 a1 0 = Qgq a0 a1 0 a0.kids := Quk a0 a1 hl _ 0 (Nat.zero_add _)
def Qic : Fm -> List (List Hit) -> List Fm -> List Int -> List Hit -> Int -> Fm -> Int -> List Hit -> Nat -> List ((List Hit)) -> Option (List Hit)
 | a0, a2, x17, x21, Qac, Qbk, x30, x34, Qd6, Qir, [] => (
  pure Qd6
 )
 | a0, a2, x17, x21, Qac, Qbk, x30, x34, Qd6, Qir, it :: l_ => (
  (pure it >>= fun x48 =>
  (idx x48 Qbk >>= fun x51 =>
  (Qc6 192 Qd6 [x51] >>= fun x54 =>
  Qic a0 a2 x17 x21 Qac Qbk x30 x34 x54 (Qir + 1) l_
  )
  )
  )
 )
theorem Qs0 (a0 : Fm) (a2 : List (List Hit)) (x17 : List Fm) (x21 : List Int) (Qac : List Hit) (Qbk : Int) (x30 : Fm) (x34 : Int) (hl : a2.length < 4611686018427387904) : ∀ (n i : Nat), i + n = a2.length -> ∀ (Qd6 : List Hit), Qef a0 a2 x17 x21 Qac Qbk x30 x34 Qd6 (i : Int) = Qic a0 a2 x17 x21 Qac Qbk x30 x34 Qd6 i (a2.drop i) := by
 intro n
 induction n with
 | zero =>
  intro i hi Qd6
  obtain rfl : i = a2.length := by omega
  rw [Qef, if_neg (by omega), List.drop_length]; rfl
 | succ n ih =>
  intro i hi Qd6
  have hil : i < a2.length := by omega
  have hw := Qar (i := i) (by omega)
  have ih' := ih (i + 1) (by omega)
  rw [Qef, if_pos (show (i : Int) < (a2.length : Int) by omega), List.drop_eq_getElem_cons hil, Qic]
  simp only [Qap _ i hil, Qak, Qae, hw, ih']
  all_goals rfl
theorem Qwo (a0 : Fm) (a2 : List (List Hit)) (x17 : List Fm) (x21 : List Int) (Qac : List Hit) (Qbk : Int) (x30 : Fm) (x34 : Int) (Qd6 : List Hit) (hl : a2.length < 4611686018427387904) : Qef a0 a2 x17 x21 Qac Qbk x30 x34 Qd6 0 = Qic a0 a2 x17 x21 Qac Qbk x30 x34 Qd6 0 a2 := Qs0 a0 a2 x17 x21 Qac Qbk x30 x34 hl _ 0 (Nat.zero_add _) Qd6
def Qib : Fm -> List (List Hit) -> List Fm -> List Int -> List Hit -> Nat -> List Fm -> Option (List Hit)
 | a0, a2, x17, x21, Qac, Qbk, [] => (
  pure Qac
 )
 | a0, a2, x17, x21, Qac, Qbk, it :: l_ => (
  (pure it >>= fun x30 =>
  (idx x21 (Qbk : Int) >>= fun x34 =>
  (Qef a0 a2 x17 x21 Qac (Qbk : Int) x30 x34 [] 0 >>= fun Q42 =>
   (Qc6 192 Qac [Hit.mk x30 (i64.wrap (x34 + 1)) (Fm.mk 0 (ByteArray.mk #[]) 0 [] []) Q42] >>= fun x59 =>
   Qib a0 a2 x17 x21 x59 (Qbk + 1) l_
   )
  )
  )
  )
 )
theorem Qsz (a0 : Fm) (a2 : List (List Hit)) (x17 : List Fm) (x21 : List Int) (hl : x17.length < 4611686018427387904) : ∀ (n i : Nat), i + n = x17.length -> ∀ (Qac : List Hit), Qe5 a0 a2 x17 x21 Qac (i : Int) = Qib a0 a2 x17 x21 Qac i (x17.drop i) := by
 intro n
 induction n with
 | zero =>
  intro i hi Qac
  obtain rfl : i = x17.length := by omega
  rw [Qe5, if_neg (by omega), List.drop_length]; rfl
 | succ n ih =>
  intro i hi Qac
  have hil : i < x17.length := by omega
  have hw := Qar (i := i) (by omega)
  have ih' := ih (i + 1) (by omega)
  rw [Qe5, if_pos (show (i : Int) < (x17.length : Int) by omega), List.drop_eq_getElem_cons hil, Qib]
  simp only [Qap _ i hil, Qak, Qae, hw, ih']
  all_goals rfl
theorem Qwn (a0 : Fm) (a2 : List (List Hit)) (x17 : List Fm) (x21 : List Int) (Qac : List Hit) (hl : x17.length < 4611686018427387904) : Qe5 a0 a2 x17 x21 Qac 0 = Qib a0 a2 x17 x21 Qac 0 x17 := Qsz a0 a2 x17 x21 hl _ 0 (Nat.zero_add _) Qac
def Qdr : List Bnd -> List Fm -> List Fm -> List Fm -> Int -> List Hit -> Int -> Nat -> List Fm -> Option ((List Hit × Bool) ⊕ (List Hit))
 | a0, a1, a2, a3, Qdo, Qep, Qfs, Qf8, [] => (
  pure (Sum.inr Qep)
 )
 | a0, a1, a2, a3, Qdo, Qep, Qfs, Qf8, it :: l_ => (
  (pure it >>= fun x66 =>
  (Qbf x66 >>= fun x68 =>
  if x68 = true then (
   Qdr a0 a1 a2 a3 Qdo Qep Qfs (Qf8 + 1) l_
  ) else (
   if (Qf8 : Int) = Qdo then (
    (Qfg a0 a1 a2 a3 Qdo Qep (Qf8 : Int) [] Qfs (i64.wrap ((a3.length : Int) - (i64.wrap ((a1.length : Int) - 2)))) >>= fun o16 => match o16 with
     | .inl r => pure (Sum.inl r)
     | .inr (Q1p, Qvz) => (
      (pure it >>= fun x131 =>
      (Qkx x131 a2 Q1p >>= fun x135 =>
      (Qc6 192 Qep x135 >>= fun x136 =>
      Qdr a0 a1 a2 a3 Qdo x136 Qvz (Qf8 + 1) l_
      )
      )
      )
     ))
   ) else (
    (pure it >>= fun x76 =>
    (idx a3 Qfs >>= fun x81 =>
    (Qdc a0 x76 a2 x81 >>= fun x83 =>
    if (!x83.2) = true then (
     pure (Sum.inl (Qep, false))
    ) else (
     (Qc6 192 Qep x83.1 >>= fun x91 =>
     Qdr a0 a1 a2 a3 Qdo x91 (i64.wrap (Qfs + 1)) (Qf8 + 1) l_
     )
    )
    )
    )
    )
   )
  )
  )
  )
 )
theorem Qre (a0 : List Bnd) (a1 : List Fm) (a2 : List Fm) (a3 : List Fm) (Qdo : Int) (hl : a1.length < 4611686018427387904) : ∀ (n i : Nat), i + n = a1.length -> ∀ (Qep : List Hit) (Qfs : Int), Qcx a0 a1 a2 a3 Qdo Qep Qfs (i : Int) = Qdr a0 a1 a2 a3 Qdo Qep Qfs i (a1.drop i) := by
 intro n
 induction n with
 | zero =>
  intro i hi Qep Qfs
  obtain rfl : i = a1.length := by omega
  rw [Qcx, if_neg (by omega), List.drop_length]; rfl
 | succ n ih =>
  intro i hi Qep Qfs
  have hil : i < a1.length := by omega
  have hw := Qar (i := i) (by omega)
  have ih' := ih (i + 1) (by omega)
  rw [Qcx, if_pos (show (i : Int) < (a1.length : Int) by omega), List.drop_eq_getElem_cons hil, Qdr]
  simp only [Qap _ i hil, Qak, Qae, hw, ih']
  all_goals rfl
theorem Quf (a0 : List Bnd) (a1 : List Fm) (a2 : List Fm) (a3 : List Fm) (Qdo : Int) (Qep : List Hit) (Qfs : Int) (hl : a1.length < 4611686018427387904) : Qcx a0 a1 a2 a3 Qdo Qep Qfs 0 = Qdr a0 a1 a2 a3 Qdo Qep Qfs 0 a1 := Qre a0 a1 a2 a3 Qdo hl _ 0 (Nat.zero_add _) Qep Qfs
def Qcn : List Bnd -> List Rul -> List Fm -> Fm -> Nat -> List Rul -> Option ((Int × Bool) ⊕ Unit)
 | a0, a1, a2, a3, Qbk, [] => (
  pure (Sum.inr ())
 )
 | a0, a1, a2, a3, Qbk, it :: l_ => (
  (pure it >>= fun x37 =>
  (Qdc a0 x37.pat a2 a3 >>= fun x42 =>
  if x42.2 = true then (
   pure (Sum.inl ((Qbk : Int), true))
  ) else (
   Qcn a0 a1 a2 a3 (Qbk + 1) l_
  )
  )
  )
 )
theorem Qod (a0 : List Bnd) (a1 : List Rul) (a2 : List Fm) (a3 : Fm) (hl : a1.length < 4611686018427387904) : ∀ (n i : Nat), i + n = a1.length ->  Qch a0 a1 a2 a3 (i : Int) = Qcn a0 a1 a2 a3 i (a1.drop i) := by
 intro n
 induction n with
 | zero =>
  intro i hi
  obtain rfl : i = a1.length := by omega
  rw [Qch, if_neg (by omega), List.drop_length]; rfl
 | succ n ih =>
  intro i hi
  have hil : i < a1.length := by omega
  have hw := Qar (i := i) (by omega)
  have ih' := ih (i + 1) (by omega)
  rw [Qch, if_pos (show (i : Int) < (a1.length : Int) by omega), List.drop_eq_getElem_cons hil, Qcn]
  simp only [Qap _ i hil, Qak, Qae, hw, ih']
  all_goals rfl
theorem Qp1 (a0 : List Bnd) (a1 : List Rul) (a2 : List Fm) (a3 : Fm)  (hl : a1.length < 4611686018427387904) : Qch a0 a1 a2 a3 0 = Qcn a0 a1 a2 a3 0 a1 := Qod a0 a1 a2 a3 hl _ 0 (Nat.zero_add _)
def Qci : List Fm -> List Fm -> Nat -> List Fm -> Option (List Fm)
 | a0, Qac, Qbq, [] => (
  pure Qac
 )
 | a0, Qac, Qbq, it :: l_ => (
  (pure it >>= fun x11 =>
  (Qct x11 >>= fun x15 =>
  (Qc6 80 Qac [x15] >>= fun x17 =>
  Qci a0 x17 (Qbq + 1) l_
  )
  )
  )
 )
theorem Qlp (a0 : List Fm) (hl : a0.length < 4611686018427387904) : ∀ (n i : Nat), i + n = a0.length -> ∀ (Qac : List Fm), Qbw a0 Qac (i : Int) = Qci a0 Qac i (a0.drop i) := by
 intro n
 induction n with
 | zero =>
  intro i hi Qac
  obtain rfl : i = a0.length := by omega
  rw [Qbw, if_neg (by omega), List.drop_length]; rfl
 | succ n ih =>
  intro i hi Qac
  have hil : i < a0.length := by omega
  have hw := Qar (i := i) (by omega)
  have ih' := ih (i + 1) (by omega)
  rw [Qbw, if_pos (show (i : Int) < (a0.length : Int) by omega), List.drop_eq_getElem_cons hil, Qci]
  simp only [Qap _ i hil, Qak, Qae, hw, ih']
  all_goals rfl
theorem Qms (a0 : List Fm) (Qac : List Fm) (hl : a0.length < 4611686018427387904) : Qbw a0 Qac 0 = Qci a0 Qac 0 a0 := Qlp a0 hl _ 0 (Nat.zero_add _) Qac
def Qcj : List Rul -> List Rul -> Nat -> List Rul -> Option (List Rul)
 | a0, Qac, Qbq, [] => (
  pure Qac
 )
 | a0, Qac, Qbq, it :: l_ => (
  (pure it >>= fun x11 =>
  (Qik x11 >>= fun x15 =>
  (Qc6 160 Qac [x15] >>= fun x17 =>
  Qcj a0 x17 (Qbq + 1) l_
  )
  )
  )
 )
theorem Qlq (a0 : List Rul) (hl : a0.length < 4611686018427387904) : ∀ (n i : Nat), i + n = a0.length -> ∀ (Qac : List Rul), Qbo a0 Qac (i : Int) = Qcj a0 Qac i (a0.drop i) := by
 intro n
 induction n with
 | zero =>
  intro i hi Qac
  obtain rfl : i = a0.length := by omega
  rw [Qbo, if_neg (by omega), List.drop_length]; rfl
 | succ n ih =>
  intro i hi Qac
  have hil : i < a0.length := by omega
  have hw := Qar (i := i) (by omega)
  have ih' := ih (i + 1) (by omega)
  rw [Qbo, if_pos (show (i : Int) < (a0.length : Int) by omega), List.drop_eq_getElem_cons hil, Qcj]
  simp only [Qap _ i hil, Qak, Qae, hw, ih']
  all_goals rfl
theorem Qmt (a0 : List Rul) (Qac : List Rul) (hl : a0.length < 4611686018427387904) : Qbo a0 Qac 0 = Qcj a0 Qac 0 a0 := Qlq a0 hl _ 0 (Nat.zero_add _) Qac
def Qhe : Fm -> Fm -> Nat -> List Fm -> Option (Bool ⊕ Unit)
 | a0, a1, Qaj, [] => (
  pure (Sum.inr ())
 )
 | a0, a1, Qaj, it :: l_ => (
  (pure it >>= fun x24 =>
  (Qf3 x24 a1 >>= fun x27 =>
  if x27 = true then (
   pure (Sum.inl true)
  ) else (
   Qhe a0 a1 (Qaj + 1) l_
  )
  )
  )
 )
theorem Qrm (a0 : Fm) (a1 : Fm) (hl : a0.kids.length < 4611686018427387904) : ∀ (n i : Nat), i + n = a0.kids.length ->  Qej a0 a1 (i : Int) = Qhe a0 a1 i (a0.kids.drop i) := by
 intro n
 induction n with
 | zero =>
  intro i hi
  obtain rfl : i = a0.kids.length := by omega
  rw [Qej, if_neg (by omega), List.drop_length]; rfl
 | succ n ih =>
  intro i hi
  have hil : i < a0.kids.length := by omega
  have hw := Qar (i := i) (by omega)
  have ih' := ih (i + 1) (by omega)
  rw [Qej, if_pos (show (i : Int) < (a0.kids.length : Int) by omega), List.drop_eq_getElem_cons hil, Qhe]
  simp only [Qap _ i hil, Qak, Qae, hw, ih']
  all_goals rfl
theorem Quo (a0 : Fm) (a1 : Fm)  (hl : a0.kids.length < 4611686018427387904) : Qej a0 a1 0 = Qhe a0 a1 0 a0.kids := Qrm a0 a1 hl _ 0 (Nat.zero_add _)
def Qex : Fm -> List Hit -> Int -> Nat -> List Hit -> Option (Int ⊕ Int)
 | a0, a1, Qaj, Qa7, [] => (
  pure (Sum.inr Qaj)
 )
 | a0, a1, Qaj, Qa7, it :: l_ => (
  (pure it >>= fun x15 =>
  ((if x15.depth = 0 then (
   pure true
  ) else (
   (pure it >>= fun x23 =>
   (Qf3 a0 x23.name >>= fun x26 =>
   pure (!x26)
   )
   )
  ) : Option Bool) >>= fun x28 =>
  if x28 = true then (
   Qex a0 a1 Qaj (Qa7 + 1) l_
  ) else (
   ((if Qaj ≥ 0 then (
    (pure it >>= fun x35 =>
    pure (!decide (Qaj = (x35.many.length : Int)))
    )
   ) else (
    pure false
   ) : Option Bool) >>= fun x40 =>
   if x40 = true then (
    pure (Sum.inl (-1))
   ) else (
    (pure it >>= fun x43 =>
    Qex a0 a1 (x43.many.length : Int) (Qa7 + 1) l_
    )
   )
   )
  )
  )
  )
 )
theorem Qqb (a0 : Fm) (a1 : List Hit) (hl : a1.length < 4611686018427387904) : ∀ (n i : Nat), i + n = a1.length -> ∀ (Qaj : Int), Qcy a0 a1 Qaj (i : Int) = Qex a0 a1 Qaj i (a1.drop i) := by
 intro n
 induction n with
 | zero =>
  intro i hi Qaj
  obtain rfl : i = a1.length := by omega
  rw [Qcy, if_neg (by omega), List.drop_length]; rfl
 | succ n ih =>
  intro i hi Qaj
  have hil : i < a1.length := by omega
  have hw := Qar (i := i) (by omega)
  have ih' := ih (i + 1) (by omega)
  rw [Qcy, if_pos (show (i : Int) < (a1.length : Int) by omega), List.drop_eq_getElem_cons hil, Qex]
  simp only [Qap _ i hil, Qak, Qae, hw, ih']
  all_goals rfl
theorem Qs4 (a0 : Fm) (a1 : List Hit) (Qaj : Int) (hl : a1.length < 4611686018427387904) : Qcy a0 a1 Qaj 0 = Qex a0 a1 Qaj 0 a1 := Qqb a0 a1 hl _ 0 (Nat.zero_add _) Qaj
def Qfi : Fm -> List Hit -> Int -> List Hit -> Nat -> List Hit -> Option (List Hit)
 | a0, a1, a2, Qac, Qby, [] => (
  pure Qac
 )
 | a0, a1, a2, Qac, Qby, it :: l_ => (
  (pure it >>= fun x19 =>
  ((if x19.depth > 0 then (
   (Qf3 a0 x19.name >>= fun x28 =>
   pure x28
   )
  ) else (
   pure false
  ) : Option Bool) >>= fun x29 =>
  ((if x29 = true then (
   (idx x19.many a2 >>= fun x33 =>
   pure (x33.name.kind, x33.name.name, x33.one.kids, x33.many, x33.name.num, x33.name.sc, x33.name.kids, x33.depth, x33.one.kind, x33.one.name, x33.one.num, x33.one.sc)
   )
  ) else (
   pure (x19.name.kind, x19.name.name, x19.one.kids, x19.many, x19.name.num, x19.name.sc, x19.name.kids, x19.depth, x19.one.kind, x19.one.name, x19.one.num, x19.one.sc)
  ) : Option (Int × ByteArray × List Fm × List Hit × Int × List Int × List Fm × Int × Int × ByteArray × Int × List Int)) >>= fun (Qxd, Qxe, Qr3, Qr4, Qxf, Qxg, Qxh, Qxi, Qxj, Qxk, Qxl, Qxm) =>
   (Qc6 192 Qac [Hit.mk (Fm.mk Qxd Qxe Qxf Qxg Qxh) Qxi (Fm.mk Qxj Qxk Qxl Qxm Qr3) Qr4] >>= fun x38 =>
   Qfi a0 a1 a2 x38 (Qby + 1) l_
   )
  )
  )
  )
 )
theorem Qs6 (a0 : Fm) (a1 : List Hit) (a2 : Int) (hl : a1.length < 4611686018427387904) : ∀ (n i : Nat), i + n = a1.length -> ∀ (Qac : List Hit), Qe6 a0 a1 a2 Qac (i : Int) = Qfi a0 a1 a2 Qac i (a1.drop i) := by
 intro n
 induction n with
 | zero =>
  intro i hi Qac
  obtain rfl : i = a1.length := by omega
  rw [Qe6, if_neg (by omega), List.drop_length]; rfl
 | succ n ih =>
  intro i hi Qac
  have hil : i < a1.length := by omega
  have hw := Qar (i := i) (by omega)
  have ih' := ih (i + 1) (by omega)
  rw [Qe6, if_pos (show (i : Int) < (a1.length : Int) by omega), List.drop_eq_getElem_cons hil, Qfi]
  simp only [Qap _ i hil, Qak, Qae, hw, ih']
  all_goals rfl
theorem Qwr (a0 : Fm) (a1 : List Hit) (a2 : Int) (Qac : List Hit) (hl : a1.length < 4611686018427387904) : Qe6 a0 a1 a2 Qac 0 = Qfi a0 a1 a2 Qac 0 a1 := Qs6 a0 a1 a2 hl _ 0 (Nat.zero_add _) Qac
def Qel : Fm -> List Hit -> List Int -> List Fm -> Int -> Nat -> List Fm -> Option ((Fm × Bool) ⊕ (List Fm))
 | a0, a1, x45, Qac, Qby, Qbq, [] => (
  pure (Sum.inr Qac)
 )
 | a0, a1, x45, Qac, Qby, Qbq, it :: l_ => (
  (pure it >>= fun x57 =>
  (Qbf x57 >>= fun x59 =>
  if x59 = true then (
   Qel a0 a1 x45 Qac Qby (Qbq + 1) l_
  ) else (
   ((if (i64.wrap ((Qbq : Int) + 1)) < (a0.kids.length : Int) then (
    (idx a0.kids (i64.wrap ((Qbq : Int) + 1)) >>= fun x71 =>
    (Qbf x71 >>= fun x73 =>
    pure x73
    )
    )
   ) else (
    pure false
   ) : Option Bool) >>= fun x74 =>
   ((if x74 = true then (
    (pure it >>= fun x79 =>
    (Qji x79 a1 >>= fun x82 =>
    pure x82
    )
    )
   ) else (
    pure 1
   ) : Option (Int)) >>= fun Qi0 =>
    if Qi0 < 0 then (
     pure (Sum.inl (a0, false))
    ) else (
     (Qdm a0 a1 x45 (Qbq : Int) x74 Qi0 Qac 0 Qby >>= fun o37 => match o37 with
      | .inl r => pure (Sum.inl r)
      | .inr (Qpg, Qv1) => (
       Qel a0 a1 x45 Qpg Qv1 (Qbq + 1) l_
      ))
    )
   )
   )
  )
  )
  )
 )
theorem Qrh (a0 : Fm) (a1 : List Hit) (x45 : List Int) (hl : a0.kids.length < 4611686018427387904) : ∀ (n i : Nat), i + n = a0.kids.length -> ∀ (Qac : List Fm) (Qby : Int), Qdl a0 a1 x45 Qac Qby (i : Int) = Qel a0 a1 x45 Qac Qby i (a0.kids.drop i) := by
 intro n
 induction n with
 | zero =>
  intro i hi Qac Qby
  obtain rfl : i = a0.kids.length := by omega
  rw [Qdl, if_neg (by omega), List.drop_length]; rfl
 | succ n ih =>
  intro i hi Qac Qby
  have hil : i < a0.kids.length := by omega
  have hw := Qar (i := i) (by omega)
  have ih' := ih (i + 1) (by omega)
  rw [Qdl, if_pos (show (i : Int) < (a0.kids.length : Int) by omega), List.drop_eq_getElem_cons hil, Qel]
  simp only [Qap _ i hil, Qak, Qae, hw, ih']
  all_goals rfl
theorem Quj (a0 : Fm) (a1 : List Hit) (x45 : List Int) (Qac : List Fm) (Qby : Int) (hl : a0.kids.length < 4611686018427387904) : Qdl a0 a1 x45 Qac Qby 0 = Qel a0 a1 x45 Qac Qby 0 a0.kids := Qrh a0 a1 x45 hl _ 0 (Nat.zero_add _) Qac Qby
def Qg1 : List Fm -> Fm -> Int -> List Bnd -> List Mac -> Int -> Int -> Int -> List Int -> Nat -> List Fm -> Option ((Xpn × Cor × Int) ⊕ (List Bnd × List Mac × Int × Int × Int × List Int))
 | a1, a2, a3, Qax, Qay, Qav, Qaz, Qa0, Qac, Qh5, [] => (
  pure (Sum.inr (Qax, Qay, Qav, Qaz, Qa0, Qac))
 )
 | a1, a2, a3, Qax, Qay, Qav, Qaz, Qa0, Qac, Qh5, it :: l_ => (
  (pure it >>= fun x38 =>
  if x38.kind = 1 then (
   (pure it >>= fun x46 =>
   (Qbt x46 Qav 0 >>= fun x50 =>
   (Qa9 x50 >>= fun x52 =>
   if (!x52) = true then (
    pure (Sum.inl (Xpn.mk Qax Qay Qav Qaz Qa0, Cor.mk 0 0 (ByteArray.mk #[]) 0 [] (Fm.mk 0 (ByteArray.mk #[]) 0 [] []) [], 4))
   ) else (
    (Qip (Xpn.mk Qax Qay Qav Qaz Qa0) x50 >>= fun x59 =>
    if x59.2 = 0 then (
     (Qc6 8 Qac [x59.1.id] >>= fun x73 =>
     Qg1 a1 a2 a3 x59.1.binds x59.1.macs x59.1.scope x59.1.id x59.1.steps x73 (Qh5 + 1) l_
     )
    ) else (
     pure (Sum.inl (x59.1, Cor.mk 0 0 (ByteArray.mk #[]) 0 [] (Fm.mk 0 (ByteArray.mk #[]) 0 [] []) [], x59.2))
    )
    )
   )
   )
   )
   )
  ) else (
   pure (Sum.inl (Xpn.mk Qax Qay Qav Qaz Qa0, Cor.mk 0 0 (ByteArray.mk #[]) 0 [] (Fm.mk 0 (ByteArray.mk #[]) 0 [] []) [], 1))
  )
  )
 )
theorem Qtc (a1 : List Fm) (a2 : Fm) (a3 : Int) (hl : a1.length < 4611686018427387904) : ∀ (n i : Nat), i + n = a1.length -> ∀ (Qax : List Bnd) (Qay : List Mac) (Qav : Int) (Qaz : Int) (Qa0 : Int) (Qac : List Int), Qe7 a1 a2 a3 Qax Qay Qav Qaz Qa0 Qac (i : Int) = Qg1 a1 a2 a3 Qax Qay Qav Qaz Qa0 Qac i (a1.drop i) := by
 intro n
 induction n with
 | zero =>
  intro i hi Qax Qay Qav Qaz Qa0 Qac
  obtain rfl : i = a1.length := by omega
  rw [Qe7, if_neg (by omega), List.drop_length]; rfl
 | succ n ih =>
  intro i hi Qax Qay Qav Qaz Qa0 Qac
  have hil : i < a1.length := by omega
  have hw := Qar (i := i) (by omega)
  have ih' := ih (i + 1) (by omega)
  rw [Qe7, if_pos (show (i : Int) < (a1.length : Int) by omega), List.drop_eq_getElem_cons hil, Qg1]
  simp only [Qap _ i hil, Qak, Qae, hw, ih']
  all_goals rfl
theorem Qww (a1 : List Fm) (a2 : Fm) (a3 : Int) (Qax : List Bnd) (Qay : List Mac) (Qav : Int) (Qaz : Int) (Qa0 : Int) (Qac : List Int) (hl : a1.length < 4611686018427387904) : Qe7 a1 a2 a3 Qax Qay Qav Qaz Qa0 Qac 0 = Qg1 a1 a2 a3 Qax Qay Qav Qaz Qa0 Qac 0 a1 := Qtc a1 a2 a3 hl _ 0 (Nat.zero_add _) Qax Qay Qav Qaz Qa0 Qac
def Qd5 : List Fm -> List Fm -> Fm -> Int -> List Bnd -> List Mac -> Int -> Int -> Int -> Nat -> List Fm -> Option ((Xpn × Cor × Int) ⊕ (List Bnd × List Mac × Int × Int × Int))
 | a1, a2, a3, a4, Qax, Qay, Qav, Qaz, Qa0, Qkp, [] => (
  pure (Sum.inr (Qax, Qay, Qav, Qaz, Qa0))
 )
 | a1, a2, a3, a4, Qax, Qay, Qav, Qaz, Qa0, Qkp, it :: l_ => (
  (pure it >>= fun x40 =>
  (Qbt x40 Qav 0 >>= fun x44 =>
  (idx a2 (Qkp : Int) >>= fun x47 =>
  (Qbt x47 Qav 0 >>= fun x51 =>
  (pure it >>= fun x54 =>
  if x54.kind = 1 then (
   (Qa9 x44 >>= fun x61 =>
   ((if (!x61) = true then (
    pure true
   ) else (
    (Qa9 x51 >>= fun x65 =>
    pure (!x65)
    )
   ) : Option Bool) >>= fun x67 =>
   if x67 = true then (
    pure (Sum.inl (Xpn.mk Qax Qay Qav Qaz Qa0, Cor.mk 0 0 (ByteArray.mk #[]) 0 [] (Fm.mk 0 (ByteArray.mk #[]) 0 [] []) [], 4))
   ) else (
    (Qg7 x51 >>= fun x72 =>
    if (!x72.2.2) = true then (
     pure (Sum.inl (Xpn.mk Qax Qay Qav Qaz Qa0, Cor.mk 0 0 (ByteArray.mk #[]) 0 [] (Fm.mk 0 (ByteArray.mk #[]) 0 [] []) [], 1))
    ) else (
     (Qip (Xpn.mk Qax Qay Qav Qaz Qa0) x44 >>= fun x83 =>
     if x83.2 = 0 then (
      (Qc6 56 [] x83.1.macs >>= fun x95 =>
      (Qc6 56 x95 [Mac.mk x83.1.id x72.1 x72.2.1] >>= fun x102 =>
      Qd5 a1 a2 a3 a4 x83.1.binds x102 x83.1.scope x83.1.id x83.1.steps (Qkp + 1) l_
      )
      )
     ) else (
      pure (Sum.inl (x83.1, Cor.mk 0 0 (ByteArray.mk #[]) 0 [] (Fm.mk 0 (ByteArray.mk #[]) 0 [] []) [], x83.2))
     )
     )
    )
    )
   )
   )
   )
  ) else (
   pure (Sum.inl (Xpn.mk Qax Qay Qav Qaz Qa0, Cor.mk 0 0 (ByteArray.mk #[]) 0 [] (Fm.mk 0 (ByteArray.mk #[]) 0 [] []) [], 1))
  )
  )
  )
  )
  )
  )
 )
theorem Qpe (a1 : List Fm) (a2 : List Fm) (a3 : Fm) (a4 : Int) (hl : a1.length < 4611686018427387904) : ∀ (n i : Nat), i + n = a1.length -> ∀ (Qax : List Bnd) (Qay : List Mac) (Qav : Int) (Qaz : Int) (Qa0 : Int), Qc3 a1 a2 a3 a4 Qax Qay Qav Qaz Qa0 (i : Int) = Qd5 a1 a2 a3 a4 Qax Qay Qav Qaz Qa0 i (a1.drop i) := by
 intro n
 induction n with
 | zero =>
  intro i hi Qax Qay Qav Qaz Qa0
  obtain rfl : i = a1.length := by omega
  rw [Qc3, if_neg (by omega), List.drop_length]; rfl
 | succ n ih =>
  intro i hi Qax Qay Qav Qaz Qa0
  have hil : i < a1.length := by omega
  have hw := Qar (i := i) (by omega)
  have ih' := ih (i + 1) (by omega)
  rw [Qc3, if_pos (show (i : Int) < (a1.length : Int) by omega), List.drop_eq_getElem_cons hil, Qd5]
  simp only [Qap _ i hil, Qak, Qae, hw, ih']
  all_goals rfl
theorem Qrp (a1 : List Fm) (a2 : List Fm) (a3 : Fm) (a4 : Int) (Qax : List Bnd) (Qay : List Mac) (Qav : Int) (Qaz : Int) (Qa0 : Int) (hl : a1.length < 4611686018427387904) : Qc3 a1 a2 a3 a4 Qax Qay Qav Qaz Qa0 0 = Qd5 a1 a2 a3 a4 Qax Qay Qav Qaz Qa0 0 a1 := Qpe a1 a2 a3 a4 hl _ 0 (Nat.zero_add _) Qax Qay Qav Qaz Qa0
def Qg0 : List Fm -> Int -> List Bnd -> List Mac -> Int -> Int -> Int -> List Cor -> Nat -> List Fm -> Option ((Xpn × List Cor × Int) ⊕ (List Bnd × List Mac × Int × Int × Int × List Cor))
 | a1, a2, Qax, Qay, Qav, Qaz, Qa0, Qac, Qbk, [] => (
  pure (Sum.inr (Qax, Qay, Qav, Qaz, Qa0, Qac))
 )
 | a1, a2, Qax, Qay, Qav, Qaz, Qa0, Qac, Qbk, it :: l_ => (
  (pure it >>= fun x25 =>
  (Qbp (Xpn.mk Qax Qay Qav Qaz Qa0) x25 a2 >>= fun x28 =>
  if x28.2.2 = 0 then (
   (Qc6 168 Qac [x28.2.1] >>= fun x41 =>
   Qg0 a1 a2 x28.1.binds x28.1.macs x28.1.scope x28.1.id x28.1.steps x41 (Qbk + 1) l_
   )
  ) else (
   pure (Sum.inl (x28.1, Qac, x28.2.2))
  )
  )
  )
 )
theorem Qta (a1 : List Fm) (a2 : Int) (hl : a1.length < 4611686018427387904) : ∀ (n i : Nat), i + n = a1.length -> ∀ (Qax : List Bnd) (Qay : List Mac) (Qav : Int) (Qaz : Int) (Qa0 : Int) (Qac : List Cor), Qgt a1 a2 Qax Qay Qav Qaz Qa0 Qac (i : Int) = Qg0 a1 a2 Qax Qay Qav Qaz Qa0 Qac i (a1.drop i) := by
 intro n
 induction n with
 | zero =>
  intro i hi Qax Qay Qav Qaz Qa0 Qac
  obtain rfl : i = a1.length := by omega
  rw [Qgt, if_neg (by omega), List.drop_length]; rfl
 | succ n ih =>
  intro i hi Qax Qay Qav Qaz Qa0 Qac
  have hil : i < a1.length := by omega
  have hw := Qar (i := i) (by omega)
  have ih' := ih (i + 1) (by omega)
  rw [Qgt, if_pos (show (i : Int) < (a1.length : Int) by omega), List.drop_eq_getElem_cons hil, Qg0]
  simp only [Qap _ i hil, Qak, Qae, hw, ih']
  all_goals rfl
theorem Qwv (a1 : List Fm) (a2 : Int) (Qax : List Bnd) (Qay : List Mac) (Qav : Int) (Qaz : Int) (Qa0 : Int) (Qac : List Cor) (hl : a1.length < 4611686018427387904) : Qgt a1 a2 Qax Qay Qav Qaz Qa0 Qac 0 = Qg0 a1 a2 Qax Qay Qav Qaz Qa0 Qac 0 a1 := Qta a1 a2 hl _ 0 (Nat.zero_add _) Qax Qay Qav Qaz Qa0 Qac
def Qhw : Cor -> Int -> List Int -> Nat -> List Int -> Option (Bool ⊕ (List Int))
 | a0, a2, Qa2, Qby, [] => (
  pure (Sum.inr Qa2)
 )
 | a0, a2, Qa2, Qby, it :: l_ => (
  (pure it >>= fun x49 =>
  ((if x49 < 1 then (
   pure true
  ) else (
   (pure it >>= fun x56 =>
   pure (decide (x56 > 999))
   )
  ) : Option Bool) >>= fun x59 =>
  ((if x59 = true then (
   pure true
  ) else (
   (pure it >>= fun x65 =>
   (Qfv Qa2 x65 >>= fun x67 =>
   pure x67
   )
   )
  ) : Option Bool) >>= fun x68 =>
  if x68 = true then (
   pure (Sum.inl false)
  ) else (
   (pure it >>= fun x75 =>
   (Qc6 8 [] Qa2 >>= fun x71 =>
   (Qc6 8 x71 [x75] >>= fun x78 =>
   Qhw a0 a2 x78 (Qby + 1) l_
   )
   )
   )
  )
  )
  )
  )
 )
theorem Qur (a0 : Cor) (a2 : Int) (hl : a0.ids.length < 4611686018427387904) : ∀ (n i : Nat), i + n = a0.ids.length -> ∀ (Qa2 : List Int), Qgr a0 a2 Qa2 (i : Int) = Qhw a0 a2 Qa2 i (a0.ids.drop i) := by
 intro n
 induction n with
 | zero =>
  intro i hi Qa2
  obtain rfl : i = a0.ids.length := by omega
  rw [Qgr, if_neg (by omega), List.drop_length]; rfl
 | succ n ih =>
  intro i hi Qa2
  have hil : i < a0.ids.length := by omega
  have hw := Qar (i := i) (by omega)
  have ih' := ih (i + 1) (by omega)
  rw [Qgr, if_pos (show (i : Int) < (a0.ids.length : Int) by omega), List.drop_eq_getElem_cons hil, Qhw]
  simp only [Qap _ i hil, Qak, Qae, hw, ih']
  all_goals rfl
theorem Qyh (a0 : Cor) (a2 : Int) (Qa2 : List Int) (hl : a0.ids.length < 4611686018427387904) : Qgr a0 a2 Qa2 0 = Qhw a0 a2 Qa2 0 a0.ids := Qur a0 a2 hl _ 0 (Nat.zero_add _) Qa2
def Qhx : Cor -> Int -> List Int -> Nat -> List Cor -> Option (Bool ⊕ Unit)
 | a0, a2, Qiy, Qif, [] => (
  pure (Sum.inr ())
 )
 | a0, a2, Qiy, Qif, it :: l_ => (
  (pure it >>= fun x89 =>
  (Qjv x89 Qiy (i64.wrap (a2 - 1)) >>= fun x94 =>
  if (!x94) = true then (
   pure (Sum.inl false)
  ) else (
   Qhx a0 a2 Qiy (Qif + 1) l_
  )
  )
  )
 )
theorem Qus (a0 : Cor) (a2 : Int) (Qiy : List Int) (hl : a0.kids.length < 4611686018427387904) : ∀ (n i : Nat), i + n = a0.kids.length ->  Qhp a0 a2 Qiy (i : Int) = Qhx a0 a2 Qiy i (a0.kids.drop i) := by
 intro n
 induction n with
 | zero =>
  intro i hi
  obtain rfl : i = a0.kids.length := by omega
  rw [Qhp, if_neg (by omega), List.drop_length]; rfl
 | succ n ih =>
  intro i hi
  have hil : i < a0.kids.length := by omega
  have hw := Qar (i := i) (by omega)
  have ih' := ih (i + 1) (by omega)
  rw [Qhp, if_pos (show (i : Int) < (a0.kids.length : Int) by omega), List.drop_eq_getElem_cons hil, Qhx]
  simp only [Qap _ i hil, Qak, Qae, hw, ih']
  all_goals rfl
theorem Qyi (a0 : Cor) (a2 : Int) (Qiy : List Int)  (hl : a0.kids.length < 4611686018427387904) : Qhp a0 a2 Qiy 0 = Qhx a0 a2 Qiy 0 a0.kids := Qus a0 a2 Qiy hl _ 0 (Nat.zero_add _)
def Qez : Cor -> Int -> Nat -> List Cor -> Option (Int)
 | a0, Qa1, Qba, [] => (
  pure Qa1
 )
 | a0, Qa1, Qba, it :: l_ => (
  (pure it >>= fun x16 =>
  (Qho x16 >>= fun x18 =>
  Qez a0 (i64.wrap (Qa1 + x18)) (Qba + 1) l_
  )
  )
 )
theorem Qqd (a0 : Cor) (hl : a0.kids.length < 4611686018427387904) : ∀ (n i : Nat), i + n = a0.kids.length -> ∀ (Qa1 : Int), Qen a0 Qa1 (i : Int) = Qez a0 Qa1 i (a0.kids.drop i) := by
 intro n
 induction n with
 | zero =>
  intro i hi Qa1
  obtain rfl : i = a0.kids.length := by omega
  rw [Qen, if_neg (by omega), List.drop_length]; rfl
 | succ n ih =>
  intro i hi Qa1
  have hil : i < a0.kids.length := by omega
  have hw := Qar (i := i) (by omega)
  have ih' := ih (i + 1) (by omega)
  rw [Qen, if_pos (show (i : Int) < (a0.kids.length : Int) by omega), List.drop_eq_getElem_cons hil, Qez]
  simp only [Qap _ i hil, Qak, Qae, hw, ih']
  all_goals rfl
theorem Qs8 (a0 : Cor) (Qa1 : Int) (hl : a0.kids.length < 4611686018427387904) : Qen a0 Qa1 0 = Qez a0 Qa1 0 a0.kids := Qqd a0 hl _ 0 (Nat.zero_add _) Qa1
def Qhj : Fm -> List Val -> Nat -> List Fm -> Option (List Val)
 | a0, Qac, Qba, [] => (
  pure Qac
 )
 | a0, Qac, Qba, it :: l_ => (
  (pure it >>= fun x30 =>
  (Qf6 x30 >>= fun x32 =>
  (Qc6 248 Qac [x32] >>= fun x34 =>
  Qhj a0 x34 (Qba + 1) l_
  )
  )
  )
 )
theorem Qru (a0 : Fm) (hl : a0.kids.length < 4611686018427387904) : ∀ (n i : Nat), i + n = a0.kids.length -> ∀ (Qac : List Val), Qfo a0 Qac (i : Int) = Qhj a0 Qac i (a0.kids.drop i) := by
 intro n
 induction n with
 | zero =>
  intro i hi Qac
  obtain rfl : i = a0.kids.length := by omega
  rw [Qfo, if_neg (by omega), List.drop_length]; rfl
 | succ n ih =>
  intro i hi Qac
  have hil : i < a0.kids.length := by omega
  have hw := Qar (i := i) (by omega)
  have ih' := ih (i + 1) (by omega)
  rw [Qfo, if_pos (show (i : Int) < (a0.kids.length : Int) by omega), List.drop_eq_getElem_cons hil, Qhj]
  simp only [Qap _ i hil, Qak, Qae, hw, ih']
  all_goals rfl
theorem Quy (a0 : Fm) (Qac : List Val) (hl : a0.kids.length < 4611686018427387904) : Qfo a0 Qac 0 = Qhj a0 Qac 0 a0.kids := Qru a0 hl _ 0 (Nat.zero_add _) Qac
def Qit : List ByteArray -> ByteArray -> Nat -> List ByteArray -> Option (Bool ⊕ Unit)
 | a0, a1, Qaj, [] => (
  pure (Sum.inr ())
 )
 | a0, a1, Qaj, it :: l_ => (
  (pure it >>= fun x14 =>
  if x14 = a1 then (
   pure (Sum.inl true)
  ) else (
   Qit a0 a1 (Qaj + 1) l_
  )
  )
 )
theorem Qt3 (a0 : List ByteArray) (a1 : ByteArray) (hl : a0.length < 4611686018427387904) : ∀ (n i : Nat), i + n = a0.length ->  Qgl a0 a1 (i : Int) = Qit a0 a1 i (a0.drop i) := by
 intro n
 induction n with
 | zero =>
  intro i hi
  obtain rfl : i = a0.length := by omega
  rw [Qgl, if_neg (by omega), List.drop_length]; rfl
 | succ n ih =>
  intro i hi
  have hil : i < a0.length := by omega
  have hw := Qar (i := i) (by omega)
  have ih' := ih (i + 1) (by omega)
  rw [Qgl, if_pos (show (i : Int) < (a0.length : Int) by omega), List.drop_eq_getElem_cons hil, Qit]
  simp only [Qap _ i hil, Qak, Qae, hw, ih']
  all_goals rfl
theorem Qx3 (a0 : List ByteArray) (a1 : ByteArray)  (hl : a0.length < 4611686018427387904) : Qgl a0 a1 0 = Qit a0 a1 0 a0 := Qt3 a0 a1 hl _ 0 (Nat.zero_add _)
def Qie : List Val -> Int -> Nat -> List Val -> Option ((Val × Int) ⊕ Int)
 | a0, Qgg, Qaj, [] => (
  pure (Sum.inr Qgg)
 )
 | a0, Qgg, Qaj, it :: l_ => (
  (pure it >>= fun x15 =>
  if x15.kind = 1 then (
   (pure it >>= fun x24 =>
   Qie a0 ((i64.wrap (Qgg + x24.num)).tmod 1000) (Qaj + 1) l_
   )
  ) else (
   pure (Sum.inl (Val.mk 0 0 (ByteArray.mk #[]) [] (Cor.mk 0 0 (ByteArray.mk #[]) 0 [] (Fm.mk 0 (ByteArray.mk #[]) 0 [] []) []) [], 3))
  )
  )
 )
theorem Qth (a0 : List Val) (hl : a0.length < 4611686018427387904) : ∀ (n i : Nat), i + n = a0.length -> ∀ (Qgg : Int), Qe8 a0 Qgg (i : Int) = Qie a0 Qgg i (a0.drop i) := by
 intro n
 induction n with
 | zero =>
  intro i hi Qgg
  obtain rfl : i = a0.length := by omega
  rw [Qe8, if_neg (by omega), List.drop_length]; rfl
 | succ n ih =>
  intro i hi Qgg
  have hil : i < a0.length := by omega
  have hw := Qar (i := i) (by omega)
  have ih' := ih (i + 1) (by omega)
  rw [Qe8, if_pos (show (i : Int) < (a0.length : Int) by omega), List.drop_eq_getElem_cons hil, Qie]
  simp only [Qap _ i hil, Qak, Qae, hw, ih']
  all_goals rfl
theorem Qw3 (a0 : List Val) (Qgg : Int) (hl : a0.length < 4611686018427387904) : Qe8 a0 Qgg 0 = Qie a0 Qgg 0 a0 := Qth a0 hl _ 0 (Nat.zero_add _) Qgg
def Qf5 : Val -> List Val -> Int -> List Slt -> Nat -> List Val -> Option (List Slt)
 | a0, a1, a2, Qac, Qde, [] => (
  pure Qac
 )
 | a0, a1, a2, Qac, Qde, it :: l_ => (
  (idx a0.fn.ids (Qde : Int) >>= fun x55 =>
  (pure it >>= fun x59 =>
  (Qc6 256 Qac [Slt.mk x55 x59] >>= fun x63 =>
  Qf5 a0 a1 a2 x63 (Qde + 1) l_
  )
  )
  )
 )
theorem Qrr (a0 : Val) (a1 : List Val) (a2 : Int) (hl : a1.length < 4611686018427387904) : ∀ (n i : Nat), i + n = a1.length -> ∀ (Qac : List Slt), Qdn a0 a1 a2 Qac (i : Int) = Qf5 a0 a1 a2 Qac i (a1.drop i) := by
 intro n
 induction n with
 | zero =>
  intro i hi Qac
  obtain rfl : i = a1.length := by omega
  rw [Qdn, if_neg (by omega), List.drop_length]; rfl
 | succ n ih =>
  intro i hi Qac
  have hil : i < a1.length := by omega
  have hw := Qar (i := i) (by omega)
  have ih' := ih (i + 1) (by omega)
  rw [Qdn, if_pos (show (i : Int) < (a1.length : Int) by omega), List.drop_eq_getElem_cons hil, Qf5]
  simp only [Qap _ i hil, Qak, Qae, hw, ih']
  all_goals rfl
theorem Quv (a0 : Val) (a1 : List Val) (a2 : Int) (Qac : List Slt) (hl : a1.length < 4611686018427387904) : Qdn a0 a1 a2 Qac 0 = Qf5 a0 a1 a2 Qac 0 a1 := Qrr a0 a1 a2 hl _ 0 (Nat.zero_add _) Qac
def Qeo : Cor -> List Slt -> List Val -> Int -> Nat -> List Cor -> Option ((Val × Int × Int) ⊕ (List Val × Int))
 | a0, a1, Qac, Qnk, Qh5, [] => (
  pure (Sum.inr (Qac, Qnk))
 )
 | a0, a1, Qac, Qnk, Qh5, it :: l_ => (
  (pure it >>= fun x119 =>
  (Qce x119 a1 Qnk >>= fun x123 =>
  if x123.2.1 = 0 then (
   (Qc6 248 Qac [x123.1] >>= fun x136 =>
   Qeo a0 a1 x136 x123.2.2 (Qh5 + 1) l_
   )
  ) else (
   pure (Sum.inl (Val.mk 0 0 (ByteArray.mk #[]) [] (Cor.mk 0 0 (ByteArray.mk #[]) 0 [] (Fm.mk 0 (ByteArray.mk #[]) 0 [] []) []) [], x123.2.1, x123.2.2))
  )
  )
  )
 )
theorem Qrv (a0 : Cor) (a1 : List Slt) (hl : a0.kids.length < 4611686018427387904) : ∀ (n i : Nat), i + n = a0.kids.length -> ∀ (Qac : List Val) (Qnk : Int), Qfp a0 a1 Qac (i : Int) Qnk = Qeo a0 a1 Qac Qnk i (a0.kids.drop i) := by
 intro n
 induction n with
 | zero =>
  intro i hi Qac Qnk
  obtain rfl : i = a0.kids.length := by omega
  rw [Qfp, if_neg (by omega), List.drop_length]; rfl
 | succ n ih =>
  intro i hi Qac Qnk
  have hil : i < a0.kids.length := by omega
  have hw := Qar (i := i) (by omega)
  have ih' := ih (i + 1) (by omega)
  rw [Qfp, if_pos (show (i : Int) < (a0.kids.length : Int) by omega), List.drop_eq_getElem_cons hil, Qeo]
  simp only [Qap _ i hil, Qak, Qae, hw, ih']
  all_goals rfl
theorem Quz (a0 : Cor) (a1 : List Slt) (Qac : List Val) (Qnk : Int) (hl : a0.kids.length < 4611686018427387904) : Qfp a0 a1 Qac 0 Qnk = Qeo a0 a1 Qac Qnk 0 a0.kids := Qrv a0 a1 hl _ 0 (Nat.zero_add _) Qac Qnk
def Qhh : Val -> Cor -> List Val -> Nat -> List Val -> Option (List Val)
 | a0, x14, Qac, Qba, [] => (
  pure Qac
 )
 | a0, x14, Qac, Qba, it :: l_ => (
  (pure it >>= fun x28 =>
  (Qe1 x28 >>= fun x30 =>
  (Qc6 248 Qac [x30] >>= fun x32 =>
  Qhh a0 x14 x32 (Qba + 1) l_
  )
  )
  )
 )
theorem Qrs (a0 : Val) (x14 : Cor) (hl : a0.items.length < 4611686018427387904) : ∀ (n i : Nat), i + n = a0.items.length -> ∀ (Qac : List Val), Qfm a0 x14 Qac (i : Int) = Qhh a0 x14 Qac i (a0.items.drop i) := by
 intro n
 induction n with
 | zero =>
  intro i hi Qac
  obtain rfl : i = a0.items.length := by omega
  rw [Qfm, if_neg (by omega), List.drop_length]; rfl
 | succ n ih =>
  intro i hi Qac
  have hil : i < a0.items.length := by omega
  have hw := Qar (i := i) (by omega)
  have ih' := ih (i + 1) (by omega)
  rw [Qfm, if_pos (show (i : Int) < (a0.items.length : Int) by omega), List.drop_eq_getElem_cons hil, Qhh]
  simp only [Qap _ i hil, Qak, Qae, hw, ih']
  all_goals rfl
theorem Quw (a0 : Val) (x14 : Cor) (Qac : List Val) (hl : a0.items.length < 4611686018427387904) : Qfm a0 x14 Qac 0 = Qhh a0 x14 Qac 0 a0.items := Qrs a0 x14 hl _ 0 (Nat.zero_add _) Qac
def Qhi : Val -> Cor -> List Val -> List Slt -> Nat -> List Slt -> Option (List Slt)
 | a0, x14, Qga, Qd6, Qm0, [] => (
  pure Qd6
 )
 | a0, x14, Qga, Qd6, Qm0, it :: l_ => (
  (pure it >>= fun x46 =>
  (Qe1 x46.val >>= fun x55 =>
  (Qc6 256 Qd6 [Slt.mk x46.id x55] >>= fun x58 =>
  Qhi a0 x14 Qga x58 (Qm0 + 1) l_
  )
  )
  )
 )
theorem Qrt (a0 : Val) (x14 : Cor) (Qga : List Val) (hl : a0.env.length < 4611686018427387904) : ∀ (n i : Nat), i + n = a0.env.length -> ∀ (Qd6 : List Slt), Qfn a0 x14 Qga Qd6 (i : Int) = Qhi a0 x14 Qga Qd6 i (a0.env.drop i) := by
 intro n
 induction n with
 | zero =>
  intro i hi Qd6
  obtain rfl : i = a0.env.length := by omega
  rw [Qfn, if_neg (by omega), List.drop_length]; rfl
 | succ n ih =>
  intro i hi Qd6
  have hil : i < a0.env.length := by omega
  have hw := Qar (i := i) (by omega)
  have ih' := ih (i + 1) (by omega)
  rw [Qfn, if_pos (show (i : Int) < (a0.env.length : Int) by omega), List.drop_eq_getElem_cons hil, Qhi]
  simp only [Qap _ i hil, Qak, Qae, hw, ih']
  all_goals rfl
theorem Qux (a0 : Val) (x14 : Cor) (Qga : List Val) (Qd6 : List Slt) (hl : a0.env.length < 4611686018427387904) : Qfn a0 x14 Qga Qd6 0 = Qhi a0 x14 Qga Qd6 0 a0.env := Qrt a0 x14 Qga hl _ 0 (Nat.zero_add _) Qd6
def Qeq : Val -> Int -> List ByteArray -> Nat -> List Val -> Option (List ByteArray)
 | a0, a1, Qac, Qpr, [] => (
  pure Qac
 )
 | a0, a1, Qac, Qpr, it :: l_ => (
  (pure it >>= fun x38 =>
  (Qd8 x38 (i64.wrap (a1 + 1)) >>= fun x44 =>
  (Qc6 16 Qac [x44] >>= fun x46 =>
  Qeq a0 a1 x46 (Qpr + 1) l_
  )
  )
  )
 )
theorem Qn4 (a0 : Val) (a1 : Int) (hl : a0.items.length < 4611686018427387904) : ∀ (n i : Nat), i + n = a0.items.length -> ∀ (Qac : List ByteArray), Qc5 a0 a1 Qac (i : Int) = Qeq a0 a1 Qac i (a0.items.drop i) := by
 intro n
 induction n with
 | zero =>
  intro i hi Qac
  obtain rfl : i = a0.items.length := by omega
  rw [Qc5, if_neg (by omega), List.drop_length]; rfl
 | succ n ih =>
  intro i hi Qac
  have hil : i < a0.items.length := by omega
  have hw := Qar (i := i) (by omega)
  have ih' := ih (i + 1) (by omega)
  rw [Qc5, if_pos (show (i : Int) < (a0.items.length : Int) by omega), List.drop_eq_getElem_cons hil, Qeq]
  simp only [Qap _ i hil, Qak, Qae, hw, ih']
  all_goals rfl
theorem Qpv (a0 : Val) (a1 : Int) (Qac : List ByteArray) (hl : a0.items.length < 4611686018427387904) : Qc5 a0 a1 Qac 0 = Qeq a0 a1 Qac 0 a0.items := Qn4 a0 a1 hl _ 0 (Nat.zero_add _) Qac
def Qas : List Val -> List Val -> Nat -> List Val -> Option (Bool ⊕ Unit)
 | a0, a1, Qns, [] => (
  pure (Sum.inr ())
 )
 | a0, a1, Qns, it :: l_ => (
  (pure it >>= fun x20 =>
  (idx a1 (Qns : Int) >>= fun x24 =>
  (Qcs x20 x24 >>= fun x29 =>
  if (!x29) = true then (
   pure (Sum.inl false)
  ) else (
   Qas a0 a1 (Qns + 1) l_
  )
  )
  )
  )
 )
theorem Qdp (a0 : List Val) (a1 : List Val) (hl : a0.length < 4611686018427387904) : ∀ (n i : Nat), i + n = a0.length ->  Qao a0 a1 (i : Int) = Qas a0 a1 i (a0.drop i) := by
 intro n
 induction n with
 | zero =>
  intro i hi
  obtain rfl : i = a0.length := by omega
  rw [Qao, if_neg (by omega), List.drop_length]; rfl
 | succ n ih =>
  intro i hi
  have hil : i < a0.length := by omega
  have hw := Qar (i := i) (by omega)
  have ih' := ih (i + 1) (by omega)
  rw [Qao, if_pos (show (i : Int) < (a0.length : Int) by omega), List.drop_eq_getElem_cons hil, Qas]
  simp only [Qap _ i hil, Qak, Qae, hw, ih']
  all_goals rfl
theorem Qd1 (a0 : List Val) (a1 : List Val)  (hl : a0.length < 4611686018427387904) : Qao a0 a1 0 = Qas a0 a1 0 a0 := Qdp a0 a1 hl _ 0 (Nat.zero_add _)
def Qhk : Val -> Int -> ByteArray -> Nat -> List Val -> Option (ByteArray)
 | a0, a1, Qaj, Qa7, [] => (
  pure Qaj
 )
 | a0, a1, Qaj, Qa7, it :: l_ => (
  ((if (Qa7 : Int) > 0 then (
   (Q23 Qaj (ByteArray.mk #[32]) >>= fun x41 =>
   pure x41
   )
  ) else (
   pure Qaj
  ) : Option (ByteArray)) >>= fun Kcc =>
   (pure it >>= fun x46 =>
   (Qhz x46 (i64.wrap (a1 - 1)) >>= fun x50 =>
   (Q23 Kcc x50 >>= fun x51 =>
   Qhk a0 a1 x51 (Qa7 + 1) l_
   )
   )
   )
  )
 )
theorem Qrw (a0 : Val) (a1 : Int) (hl : a0.items.length < 4611686018427387904) : ∀ (n i : Nat), i + n = a0.items.length -> ∀ (Qaj : ByteArray), Qfr a0 a1 Qaj (i : Int) = Qhk a0 a1 Qaj i (a0.items.drop i) := by
 intro n
 induction n with
 | zero =>
  intro i hi Qaj
  obtain rfl : i = a0.items.length := by omega
  rw [Qfr, if_neg (by omega), List.drop_length]; rfl
 | succ n ih =>
  intro i hi Qaj
  have hil : i < a0.items.length := by omega
  have hw := Qar (i := i) (by omega)
  have ih' := ih (i + 1) (by omega)
  rw [Qfr, if_pos (show (i : Int) < (a0.items.length : Int) by omega), List.drop_eq_getElem_cons hil, Qhk]
  simp only [Qap _ i hil, Qak, Qae, hw, ih']
  all_goals rfl
theorem Qu1 (a0 : Val) (a1 : Int) (Qaj : ByteArray) (hl : a0.items.length < 4611686018427387904) : Qfr a0 a1 Qaj 0 = Qhk a0 a1 Qaj 0 a0.items := Qrw a0 a1 hl _ 0 (Nat.zero_add _) Qaj
def Qes : Val -> Val -> Nat -> List Val -> Option (Bool ⊕ Unit)
 | a0, a1, Qaj, [] => (
  pure (Sum.inr ())
 )
 | a0, a1, Qaj, it :: l_ => (
  (pure it >>= fun x44 =>
  (idx a1.items (Qaj : Int) >>= fun x49 =>
  (Qe9 x44 x49 >>= fun x51 =>
  if (!x51) = true then (
   pure (Sum.inl false)
  ) else (
   Qes a0 a1 (Qaj + 1) l_
  )
  )
  )
  )
 )
theorem Qoh (a0 : Val) (a1 : Val) (hl : a0.items.length < 4611686018427387904) : ∀ (n i : Nat), i + n = a0.items.length ->  Qda a0 a1 (i : Int) = Qes a0 a1 i (a0.items.drop i) := by
 intro n
 induction n with
 | zero =>
  intro i hi
  obtain rfl : i = a0.items.length := by omega
  rw [Qda, if_neg (by omega), List.drop_length]; rfl
 | succ n ih =>
  intro i hi
  have hil : i < a0.items.length := by omega
  have hw := Qar (i := i) (by omega)
  have ih' := ih (i + 1) (by omega)
  rw [Qda, if_pos (show (i : Int) < (a0.items.length : Int) by omega), List.drop_eq_getElem_cons hil, Qes]
  simp only [Qap _ i hil, Qak, Qae, hw, ih']
  all_goals rfl
theorem Qp3 (a0 : Val) (a1 : Val)  (hl : a0.items.length < 4611686018427387904) : Qda a0 a1 0 = Qes a0 a1 0 a0.items := Qoh a0 a1 hl _ 0 (Nat.zero_add _)
end Go.Proofs.SA
