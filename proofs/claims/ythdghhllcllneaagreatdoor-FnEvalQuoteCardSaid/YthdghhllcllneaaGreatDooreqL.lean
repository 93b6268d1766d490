/- The printed loops over lists, as functions on the lists: printed by a program of mine. -/
import Derived.Test.YthdghhllcllneaaGreatDooreqD
import Derived.Test.YthdghhllcllneaaGreatDoorPa
set_option linter.unusedVariables false
set_option linter.unusedSimpArgs false
set_option maxRecDepth 100000
open Go Go.Proofs Go.Proofs.Shadow
namespace Go.Proofs.SA
def Qhl : Fm -> List Int -> List Fm -> Nat -> List Fm -> Option (List Fm)
 | a0, x14, Qag, Qc0, [] => (
  pure Qag
 )
 | a0, x14, Qag, Qc0, it :: l_ => (
  (pure it >>= fun x28 =>
  (Qed x28 >>= fun x30 =>
  (Qhd 80 Qag [x30] >>= fun x32 =>
  Qhl a0 x14 x32 (Qc0 + 1) l_
  )
  )
  )
 )
theorem Qr1 (a0 : Fm) (x14 : List Int) (hl : a0.kids.length < 4611686018427387904) : ∀ (n i : Nat), i + n = a0.kids.length -> ∀ (Qag : List Fm), Qbx a0 x14 Qag (i : Int) = Qhl a0 x14 Qag i (a0.kids.drop i) := by
 intro n
 induction n with
 | zero =>
  intro i hi Qag
  obtain rfl : i = a0.kids.length := by omega
  rw [Qbx, if_neg (by omega), List.drop_length]; rfl
 | succ n ih =>
  intro i hi Qag
  have hil : i < a0.kids.length := by omega
  have hw := Qbn (i := i) (by omega)
  have ih' := ih (i + 1) (by omega)
  rw [Qbx, if_pos (show (i : Int) < (a0.kids.length : Int) by omega), List.drop_eq_getElem_cons hil, Qhl]
  simp only [Qb6 _ i hil, Qby, Qau, hw, ih']
  all_goals rfl
def Qcg : Fm -> List Int -> List Fm -> Nat -> List Fm -> Option (List Fm)
 | a0, x14, Qag, Qc0, [] => (
  pure Qag
 )
 | a0, x14, Qag, Qc0, it :: l_ => (
  (pure it >>= fun x28 =>
  (Qed x28 >>= fun x30 =>
  (Qhd 80 Qag [x30] >>= fun x32 =>
  Qcg a0 x14 x32 (Qc0 + 1) l_
  )
  )
  )
 )
theorem Qil (a0 : Fm) (x14 : List Int) (hl : a0.kids.length < 4611686018427387904) : ∀ (n i : Nat), i + n = a0.kids.length -> ∀ (Qag : List Fm), Qbf a0 x14 Qag (i : Int) = Qcg a0 x14 Qag i (a0.kids.drop i) := by
 intro n
 induction n with
 | zero =>
  intro i hi Qag
  obtain rfl : i = a0.kids.length := by omega
  rw [Qbf, if_neg (by omega), List.drop_length]; rfl
 | succ n ih =>
  intro i hi Qag
  have hil : i < a0.kids.length := by omega
  have hw := Qbn (i := i) (by omega)
  have ih' := ih (i + 1) (by omega)
  rw [Qbf, if_pos (show (i : Int) < (a0.kids.length : Int) by omega), List.drop_eq_getElem_cons hil, Qcg]
  simp only [Qb6 _ i hil, Qby, Qau, hw, ih']
  all_goals rfl
theorem Qi5 (a0 : Fm) (x14 : List Int) (Qag : List Fm) (hl : a0.kids.length < 4611686018427387904) : Qbf a0 x14 Qag 0 = Qcg a0 x14 Qag 0 a0.kids := Qil a0 x14 hl _ 0 (Nat.zero_add _) Qag
def Qgn : List Int -> Nat -> List Int -> Option (Bool ⊕ Unit)
 | a0, Qd8, [] => (
  pure (Sum.inr ())
 )
 | a0, Qd8, it :: l_ => (
  (pure it >>= fun x10 =>
  (Qcb x10 1 99 >>= fun x13 =>
  ((if (!x13) = true then (
   pure true
  ) else (
   ((if (Qd8 : Int) > 0 then (
    (idx a0 (IntKind.i64.wrap ((Qd8 : Int) - 1)) >>= fun x22 =>
    pure (decide (x22 ≥ x10))
    )
   ) else (
    pure false
   ) : Option Bool) >>= fun x26 =>
   pure x26
   )
  ) : Option Bool) >>= fun x27 =>
  if x27 = true then (
   pure (Sum.inl false)
  ) else (
   Qgn a0 (Qd8 + 1) l_
  )
  )
  )
  )
 )
theorem Qp7 (a0 : List Int) (hl : a0.length < 4611686018427387904) : ∀ (n i : Nat), i + n = a0.length ->  Qbh a0 (i : Int) = Qgn a0 i (a0.drop i) := by
 intro n
 induction n with
 | zero =>
  intro i hi
  obtain rfl : i = a0.length := by omega
  rw [Qbh, if_neg (by omega), List.drop_length]; rfl
 | succ n ih =>
  intro i hi
  have hil : i < a0.length := by omega
  have hw := Qbn (i := i) (by omega)
  have ih' := ih (i + 1) (by omega)
  rw [Qbh, if_pos (show (i : Int) < (a0.length : Int) by omega), List.drop_eq_getElem_cons hil, Qgn]
  simp only [Qb6 _ i hil, Qby, Qau, hw, ih']
  all_goals rfl
def Qc9 : Fm -> List Val -> Nat -> List Fm -> Option (List Val)
 | a0, Qag, Qjs, [] => (
  pure Qag
 )
 | a0, Qag, Qjs, it :: l_ => (
  (pure it >>= fun x24 =>
  (Qcu x24 >>= fun x29 =>
  (Qhd 248 Qag [x29] >>= fun x31 =>
  Qc9 a0 x31 (Qjs + 1) l_
  )
  )
  )
 )
theorem Qiz (a0 : Fm) (hl : a0.kids.length < 4611686018427387904) : ∀ (n i : Nat), i + n = a0.kids.length -> ∀ (Qag : List Val), Qb2 a0 Qag (i : Int) = Qc9 a0 Qag i (a0.kids.drop i) := by
 intro n
 induction n with
 | zero =>
  intro i hi Qag
  obtain rfl : i = a0.kids.length := by omega
  rw [Qb2, if_neg (by omega), List.drop_length]; rfl
 | succ n ih =>
  intro i hi Qag
  have hil : i < a0.kids.length := by omega
  have hw := Qbn (i := i) (by omega)
  have ih' := ih (i + 1) (by omega)
  rw [Qb2, if_pos (show (i : Int) < (a0.kids.length : Int) by omega), List.drop_eq_getElem_cons hil, Qc9]
  simp only [Qb6 _ i hil, Qby, Qau, hw, ih']
  all_goals rfl
theorem Qj9 (a0 : Fm) (Qag : List Val) (hl : a0.kids.length < 4611686018427387904) : Qb2 a0 Qag 0 = Qc9 a0 Qag 0 a0.kids := Qiz a0 hl _ 0 (Nat.zero_add _) Qag
def Qek : Fm -> List Val -> Nat -> List Fm -> Option (List Val)
 | a0, Qag, Qc0, [] => (
  pure Qag
 )
 | a0, Qag, Qc0, it :: l_ => (
  (pure it >>= fun x30 =>
  (Qe8 x30 >>= fun x32 =>
  (Qhd 248 Qag [x32] >>= fun x34 =>
  Qek a0 x34 (Qc0 + 1) l_
  )
  )
  )
 )
theorem Qk2 (a0 : Fm) (hl : a0.kids.length < 4611686018427387904) : ∀ (n i : Nat), i + n = a0.kids.length -> ∀ (Qag : List Val), Qdp a0 Qag (i : Int) = Qek a0 Qag i (a0.kids.drop i) := by
 intro n
 induction n with
 | zero =>
  intro i hi Qag
  obtain rfl : i = a0.kids.length := by omega
  rw [Qdp, if_neg (by omega), List.drop_length]; rfl
 | succ n ih =>
  intro i hi Qag
  have hil : i < a0.kids.length := by omega
  have hw := Qbn (i := i) (by omega)
  have ih' := ih (i + 1) (by omega)
  rw [Qdp, if_pos (show (i : Int) < (a0.kids.length : Int) by omega), List.drop_eq_getElem_cons hil, Qek]
  simp only [Qb6 _ i hil, Qby, Qau, hw, ih']
  all_goals rfl
theorem Qmh (a0 : Fm) (Qag : List Val) (hl : a0.kids.length < 4611686018427387904) : Qdp a0 Qag 0 = Qek a0 Qag 0 a0.kids := Qk2 a0 hl _ 0 (Nat.zero_add _) Qag
def Qda : Val -> Int -> List ByteArray -> Nat -> List Val -> Option (List ByteArray)
 | a0, a1, Qag, Qjv, [] => (
  pure Qag
 )
 | a0, a1, Qag, Qjv, it :: l_ => (
  (pure it >>= fun x38 =>
  (Qcv x38 (IntKind.i64.wrap (a1 + 1)) >>= fun x44 =>
  (Qhd 16 Qag [x44] >>= fun x46 =>
  Qda a0 a1 x46 (Qjv + 1) l_
  )
  )
  )
 )
theorem Qi0 (a0 : Val) (a1 : Int) (hl : a0.items.length < 4611686018427387904) : ∀ (n i : Nat), i + n = a0.items.length -> ∀ (Qag : List ByteArray), Qb3 a0 a1 Qag (i : Int) = Qda a0 a1 Qag i (a0.items.drop i) := by
 intro n
 induction n with
 | zero =>
  intro i hi Qag
  obtain rfl : i = a0.items.length := by omega
  rw [Qb3, if_neg (by omega), List.drop_length]; rfl
 | succ n ih =>
  intro i hi Qag
  have hil : i < a0.items.length := by omega
  have hw := Qbn (i := i) (by omega)
  have ih' := ih (i + 1) (by omega)
  rw [Qb3, if_pos (show (i : Int) < (a0.items.length : Int) by omega), List.drop_eq_getElem_cons hil, Qda]
  simp only [Qb6 _ i hil, Qby, Qau, hw, ih']
  all_goals rfl
theorem Qkc (a0 : Val) (a1 : Int) (Qag : List ByteArray) (hl : a0.items.length < 4611686018427387904) : Qb3 a0 a1 Qag 0 = Qda a0 a1 Qag 0 a0.items := Qi0 a0 a1 hl _ 0 (Nat.zero_add _) Qag
def Qae : List Val -> List Val -> Nat -> List Val -> Option (Bool ⊕ Unit)
 | a0, a1, Qdc, [] => (
  pure (Sum.inr ())
 )
 | a0, a1, Qdc, it :: l_ => (
  (pure it >>= fun x20 =>
  (idx a1 (Qdc : Int) >>= fun x24 =>
  (Qbo x20 x24 >>= fun x29 =>
  if (!x29) = true then (
   pure (Sum.inl false)
  ) else (
   Qae a0 a1 (Qdc + 1) l_
  )
  )
  )
  )
 )
theorem Qcc (a0 : List Val) (a1 : List Val) (hl : a0.length < 4611686018427387904) : ∀ (n i : Nat), i + n = a0.length ->  Qaf a0 a1 (i : Int) = Qae a0 a1 i (a0.drop i) := by
 intro n
 induction n with
 | zero =>
  intro i hi
  obtain rfl : i = a0.length := by omega
  rw [Qaf, if_neg (by omega), List.drop_length]; rfl
 | succ n ih =>
  intro i hi
  have hil : i < a0.length := by omega
  have hw := Qbn (i := i) (by omega)
  have ih' := ih (i + 1) (by omega)
  rw [Qaf, if_pos (show (i : Int) < (a0.length : Int) by omega), List.drop_eq_getElem_cons hil, Qae]
  simp only [Qb6 _ i hil, Qby, Qau, hw, ih']
  all_goals rfl
theorem Qcn (a0 : List Val) (a1 : List Val)  (hl : a0.length < 4611686018427387904) : Qaf a0 a1 0 = Qae a0 a1 0 a0 := Qcc a0 a1 hl _ 0 (Nat.zero_add _)
def Qc6 : Fm -> List Fm -> Nat -> List Fm -> Option (List Fm)
 | a0, Qag, Qjq, [] => (
  pure Qag
 )
 | a0, Qag, Qjq, it :: l_ => (
  (pure it >>= fun x18 =>
  (Qct x18 >>= fun x23 =>
  (Qhd 80 Qag [x23] >>= fun x25 =>
  Qc6 a0 x25 (Qjq + 1) l_
  )
  )
  )
 )
theorem Qiw (a0 : Fm) (hl : a0.kids.length < 4611686018427387904) : ∀ (n i : Nat), i + n = a0.kids.length -> ∀ (Qag : List Fm), Qbz a0 Qag (i : Int) = Qc6 a0 Qag i (a0.kids.drop i) := by
 intro n
 induction n with
 | zero =>
  intro i hi Qag
  obtain rfl : i = a0.kids.length := by omega
  rw [Qbz, if_neg (by omega), List.drop_length]; rfl
 | succ n ih =>
  intro i hi Qag
  have hil : i < a0.kids.length := by omega
  have hw := Qbn (i := i) (by omega)
  have ih' := ih (i + 1) (by omega)
  rw [Qbz, if_pos (show (i : Int) < (a0.kids.length : Int) by omega), List.drop_eq_getElem_cons hil, Qc6]
  simp only [Qb6 _ i hil, Qby, Qau, hw, ih']
  all_goals rfl
theorem Qj6 (a0 : Fm) (Qag : List Fm) (hl : a0.kids.length < 4611686018427387904) : Qbz a0 Qag 0 = Qc6 a0 Qag 0 a0.kids := Qiw a0 hl _ 0 (Nat.zero_add _) Qag
def Qbm : List Int -> List Int -> Nat -> List Int -> Option (Bool ⊕ Unit)
 | a0, a1, Qhp, [] => (
  pure (Sum.inr ())
 )
 | a0, a1, Qhp, it :: l_ => (
  (pure it >>= fun x18 =>
  (idx a1 (Qhp : Int) >>= fun x22 =>
  if x18 = x22 then (
   Qbm a0 a1 (Qhp + 1) l_
  ) else (
   pure (Sum.inl false)
  )
  )
  )
 )
theorem Qhk (a0 : List Int) (a1 : List Int) (hl : a0.length < 4611686018427387904) : ∀ (n i : Nat), i + n = a0.length ->  Qa5 a0 a1 (i : Int) = Qbm a0 a1 i (a0.drop i) := by
 intro n
 induction n with
 | zero =>
  intro i hi
  obtain rfl : i = a0.length := by omega
  rw [Qa5, if_neg (by omega), List.drop_length]; rfl
 | succ n ih =>
  intro i hi
  have hil : i < a0.length := by omega
  have hw := Qbn (i := i) (by omega)
  have ih' := ih (i + 1) (by omega)
  rw [Qa5, if_pos (show (i : Int) < (a0.length : Int) by omega), List.drop_eq_getElem_cons hil, Qbm]
  simp only [Qb6 _ i hil, Qby, Qau, hw, ih']
  all_goals rfl
theorem Qh3 (a0 : List Int) (a1 : List Int)  (hl : a0.length < 4611686018427387904) : Qa5 a0 a1 0 = Qbm a0 a1 0 a0 := Qhk a0 a1 hl _ 0 (Nat.zero_add _)
def Qai : List Fm -> List Fm -> Nat -> List Fm -> Option (Bool ⊕ Unit)
 | a0, a1, Qdc, [] => (
  pure (Sum.inr ())
 )
 | a0, a1, Qdc, it :: l_ => (
  (pure it >>= fun x20 =>
  (idx a1 (Qdc : Int) >>= fun x24 =>
  (Qdl x20 x24 >>= fun x29 =>
  if (!x29) = true then (
   pure (Sum.inl false)
  ) else (
   Qai a0 a1 (Qdc + 1) l_
  )
  )
  )
  )
 )
theorem Qcw (a0 : List Fm) (a1 : List Fm) (hl : a0.length < 4611686018427387904) : ∀ (n i : Nat), i + n = a0.length ->  Qah a0 a1 (i : Int) = Qai a0 a1 i (a0.drop i) := by
 intro n
 induction n with
 | zero =>
  intro i hi
  obtain rfl : i = a0.length := by omega
  rw [Qah, if_neg (by omega), List.drop_length]; rfl
 | succ n ih =>
  intro i hi
  have hil : i < a0.length := by omega
  have hw := Qbn (i := i) (by omega)
  have ih' := ih (i + 1) (by omega)
  rw [Qah, if_pos (show (i : Int) < (a0.length : Int) by omega), List.drop_eq_getElem_cons hil, Qai]
  simp only [Qb6 _ i hil, Qby, Qau, hw, ih']
  all_goals rfl
theorem Qbg (a0 : List Fm) (a1 : List Fm)  (hl : a0.length < 4611686018427387904) : Qah a0 a1 0 = Qai a0 a1 0 a0 := Qcw a0 a1 hl _ 0 (Nat.zero_add _)
def Qaw : Fm -> List Int -> Nat -> List Fm -> Option (List Int)
 | a0, Qag, Qjp, [] => (
  pure Qag
 )
 | a0, Qag, Qjp, it :: l_ => (
  (pure it >>= fun x14 =>
  (Qax x14 Qag >>= fun x18 =>
  Qaw a0 x18 (Qjp + 1) l_
  )
  )
 )
theorem Qfc (a0 : Fm) (hl : a0.kids.length < 4611686018427387904) : ∀ (n i : Nat), i + n = a0.kids.length -> ∀ (Qag : List Int), Qat a0 Qag (i : Int) = Qaw a0 Qag i (a0.kids.drop i) := by
 intro n
 induction n with
 | zero =>
  intro i hi Qag
  obtain rfl : i = a0.kids.length := by omega
  rw [Qat, if_neg (by omega), List.drop_length]; rfl
 | succ n ih =>
  intro i hi Qag
  have hil : i < a0.kids.length := by omega
  have hw := Qbn (i := i) (by omega)
  have ih' := ih (i + 1) (by omega)
  rw [Qat, if_pos (show (i : Int) < (a0.kids.length : Int) by omega), List.drop_eq_getElem_cons hil, Qaw]
  simp only [Qb6 _ i hil, Qby, Qau, hw, ih']
  all_goals rfl
theorem Qfp (a0 : Fm) (Qag : List Int) (hl : a0.kids.length < 4611686018427387904) : Qat a0 Qag 0 = Qaw a0 Qag 0 a0.kids := Qfc a0 hl _ 0 (Nat.zero_add _) Qag
def Qhh : Cor -> List Int -> Int -> Int -> Nat -> List Cor -> Option ((Bool × Int) ⊕ Int)
 | a0, a1, a2, Qal, Qay, [] => (
  pure (Sum.inr Qal)
 )
 | a0, a1, a2, Qal, Qay, it :: l_ => (
  (pure it >>= fun x138 =>
  (Qbe x138 a1 (IntKind.i64.wrap (a2 + 1)) Qal >>= fun x145 =>
  if (!x145.1) = true then (
   pure (Sum.inl (false, x145.2))
  ) else (
   Qhh a0 a1 a2 x145.2 (Qay + 1) l_
  )
  )
  )
 )
theorem Qrv (a0 : Cor) (a1 : List Int) (a2 : Int) (hl : a0.kids.length < 4611686018427387904) : ∀ (n i : Nat), i + n = a0.kids.length -> ∀ (Qal : Int), Qd9 a0 a1 a2 (i : Int) Qal = Qhh a0 a1 a2 Qal i (a0.kids.drop i) := by
 intro n
 induction n with
 | zero =>
  intro i hi Qal
  obtain rfl : i = a0.kids.length := by omega
  rw [Qd9, if_neg (by omega), List.drop_length]; rfl
 | succ n ih =>
  intro i hi Qal
  have hil : i < a0.kids.length := by omega
  have hw := Qbn (i := i) (by omega)
  have ih' := ih (i + 1) (by omega)
  rw [Qd9, if_pos (show (i : Int) < (a0.kids.length : Int) by omega), List.drop_eq_getElem_cons hil, Qhh]
  simp only [Qb6 _ i hil, Qby, Qau, hw, ih']
  all_goals rfl
def Qb9 : Val -> Int -> Nat -> List Val -> Option ((Bool × Int) ⊕ Int)
 | a0, Qbd, Qfs, [] => (
  pure (Sum.inr Qbd)
 )
 | a0, Qbd, Qfs, it :: l_ => (
  (pure it >>= fun x23 =>
  (Qdf x23 Qbd >>= fun x27 =>
  if (!x27.1) = true then (
   pure (Sum.inl (false, x27.2))
  ) else (
   Qb9 a0 x27.2 (Qfs + 1) l_
  )
  )
  )
 )
theorem Qku (a0 : Val) (hl : a0.items.length < 4611686018427387904) : ∀ (n i : Nat), i + n = a0.items.length -> ∀ (Qbd : Int), Qdn a0 (i : Int) Qbd = Qb9 a0 Qbd i (a0.items.drop i) := by
 intro n
 induction n with
 | zero =>
  intro i hi Qbd
  obtain rfl : i = a0.items.length := by omega
  rw [Qdn, if_neg (by omega), List.drop_length]; rfl
 | succ n ih =>
  intro i hi Qbd
  have hil : i < a0.items.length := by omega
  have hw := Qbn (i := i) (by omega)
  have ih' := ih (i + 1) (by omega)
  rw [Qdn, if_pos (show (i : Int) < (a0.items.length : Int) by omega), List.drop_eq_getElem_cons hil, Qb9]
  simp only [Qb6 _ i hil, Qby, Qau, hw, ih']
  all_goals rfl
theorem Qmc (a0 : Val) (Qbd : Int) (hl : a0.items.length < 4611686018427387904) : Qdn a0 0 Qbd = Qb9 a0 Qbd 0 a0.items := Qku a0 hl _ 0 (Nat.zero_add _) Qbd
def Qca : Val -> Int -> Nat -> List Slt -> Option ((Bool × Int) ⊕ Int)
 | a0, Qal, Qjy, [] => (
  pure (Sum.inr Qal)
 )
 | a0, Qal, Qjy, it :: l_ => (
  (pure it >>= fun x35 =>
  (Qdf x35.val Qal >>= fun x40 =>
  if (!x40.1) = true then (
   pure (Sum.inl (false, x40.2))
  ) else (
   Qca a0 x40.2 (Qjy + 1) l_
  )
  )
  )
 )
theorem Qkv (a0 : Val) (hl : a0.env.length < 4611686018427387904) : ∀ (n i : Nat), i + n = a0.env.length -> ∀ (Qal : Int), Qdo a0 (i : Int) Qal = Qca a0 Qal i (a0.env.drop i) := by
 intro n
 induction n with
 | zero =>
  intro i hi Qal
  obtain rfl : i = a0.env.length := by omega
  rw [Qdo, if_neg (by omega), List.drop_length]; rfl
 | succ n ih =>
  intro i hi Qal
  have hil : i < a0.env.length := by omega
  have hw := Qbn (i := i) (by omega)
  have ih' := ih (i + 1) (by omega)
  rw [Qdo, if_pos (show (i : Int) < (a0.env.length : Int) by omega), List.drop_eq_getElem_cons hil, Qca]
  simp only [Qb6 _ i hil, Qby, Qau, hw, ih']
  all_goals rfl
theorem Qmd (a0 : Val) (Qal : Int) (hl : a0.env.length < 4611686018427387904) : Qdo a0 0 Qal = Qca a0 Qal 0 a0.env := Qkv a0 hl _ 0 (Nat.zero_add _) Qal
def Qdr : Fm -> List Int -> List Fm -> Nat -> List Fm -> Option (List Fm)
 | a0, x14, Qag, Qjr, [] => (
  pure Qag
 )
 | a0, x14, Qag, Qjr, it :: l_ => (
  (pure it >>= fun x21 =>
  (Qd3 x21 >>= fun x26 =>
  (Qhd 80 Qag [x26] >>= fun x28 =>
  Qdr a0 x14 x28 (Qjr + 1) l_
  )
  )
  )
 )
theorem Qjh (a0 : Fm) (x14 : List Int) (hl : a0.kids.length < 4611686018427387904) : ∀ (n i : Nat), i + n = a0.kids.length -> ∀ (Qag : List Fm), Qci a0 x14 Qag (i : Int) = Qdr a0 x14 Qag i (a0.kids.drop i) := by
 intro n
 induction n with
 | zero =>
  intro i hi Qag
  obtain rfl : i = a0.kids.length := by omega
  rw [Qci, if_neg (by omega), List.drop_length]; rfl
 | succ n ih =>
  intro i hi Qag
  have hil : i < a0.kids.length := by omega
  have hw := Qbn (i := i) (by omega)
  have ih' := ih (i + 1) (by omega)
  rw [Qci, if_pos (show (i : Int) < (a0.kids.length : Int) by omega), List.drop_eq_getElem_cons hil, Qdr]
  simp only [Qb6 _ i hil, Qby, Qau, hw, ih']
  all_goals rfl
theorem Qks (a0 : Fm) (x14 : List Int) (Qag : List Fm) (hl : a0.kids.length < 4611686018427387904) : Qci a0 x14 Qag 0 = Qdr a0 x14 Qag 0 a0.kids := Qjh a0 x14 hl _ 0 (Nat.zero_add _) Qag
def Qdq : Cor -> List Int -> Fm -> List Cor -> Nat -> List Cor -> Option (List Cor)
 | a0, x16, x19, Qag, Qju, [] => (
  pure Qag
 )
 | a0, x16, x19, Qag, Qju, it :: l_ => (
  (pure it >>= fun x26 =>
  (Qd2 x26 >>= fun x31 =>
  (Qhd 168 Qag [x31] >>= fun x33 =>
  Qdq a0 x16 x19 x33 (Qju + 1) l_
  )
  )
  )
 )
theorem Qjg (a0 : Cor) (x16 : List Int) (x19 : Fm) (hl : a0.kids.length < 4611686018427387904) : ∀ (n i : Nat), i + n = a0.kids.length -> ∀ (Qag : List Cor), Qch a0 x16 x19 Qag (i : Int) = Qdq a0 x16 x19 Qag i (a0.kids.drop i) := by
 intro n
 induction n with
 | zero =>
  intro i hi Qag
  obtain rfl : i = a0.kids.length := by omega
  rw [Qch, if_neg (by omega), List.drop_length]; rfl
 | succ n ih =>
  intro i hi Qag
  have hil : i < a0.kids.length := by omega
  have hw := Qbn (i := i) (by omega)
  have ih' := ih (i + 1) (by omega)
  rw [Qch, if_pos (show (i : Int) < (a0.kids.length : Int) by omega), List.drop_eq_getElem_cons hil, Qdq]
  simp only [Qb6 _ i hil, Qby, Qau, hw, ih']
  all_goals rfl
theorem Qkr (a0 : Cor) (x16 : List Int) (x19 : Fm) (Qag : List Cor) (hl : a0.kids.length < 4611686018427387904) : Qch a0 x16 x19 Qag 0 = Qdq a0 x16 x19 Qag 0 a0.kids := Qjg a0 x16 x19 hl _ 0 (Nat.zero_add _) Qag
def Qc7 : Val -> Cor -> List Val -> Nat -> List Val -> Option (List Val)
 | a0, x16, Qag, Qfs, [] => (
  pure Qag
 )
 | a0, x16, Qag, Qfs, it :: l_ => (
  (pure it >>= fun x23 =>
  (Qbt x23 >>= fun x28 =>
  (Qhd 248 Qag [x28] >>= fun x30 =>
  Qc7 a0 x16 x30 (Qfs + 1) l_
  )
  )
  )
 )
theorem Qix (a0 : Val) (x16 : Cor) (hl : a0.items.length < 4611686018427387904) : ∀ (n i : Nat), i + n = a0.items.length -> ∀ (Qag : List Val), Qb0 a0 x16 Qag (i : Int) = Qc7 a0 x16 Qag i (a0.items.drop i) := by
 intro n
 induction n with
 | zero =>
  intro i hi Qag
  obtain rfl : i = a0.items.length := by omega
  rw [Qb0, if_neg (by omega), List.drop_length]; rfl
 | succ n ih =>
  intro i hi Qag
  have hil : i < a0.items.length := by omega
  have hw := Qbn (i := i) (by omega)
  have ih' := ih (i + 1) (by omega)
  rw [Qb0, if_pos (show (i : Int) < (a0.items.length : Int) by omega), List.drop_eq_getElem_cons hil, Qc7]
  simp only [Qb6 _ i hil, Qby, Qau, hw, ih']
  all_goals rfl
theorem Qj7 (a0 : Val) (x16 : Cor) (Qag : List Val) (hl : a0.items.length < 4611686018427387904) : Qb0 a0 x16 Qag 0 = Qc7 a0 x16 Qag 0 a0.items := Qix a0 x16 hl _ 0 (Nat.zero_add _) Qag
def Qc8 : Val -> Cor -> List Val -> List Slt -> Nat -> List Slt -> Option (List Slt)
 | a0, x16, Qdh, Qit, Qjz, [] => (
  pure Qit
 )
 | a0, x16, Qdh, Qit, Qjz, it :: l_ => (
  (pure it >>= fun x38 =>
  (Qbt x38.val >>= fun x46 =>
  (Qhd 256 Qit [Slt.mk x38.id x46] >>= fun x49 =>
  Qc8 a0 x16 Qdh x49 (Qjz + 1) l_
  )
  )
  )
 )
theorem Qiy (a0 : Val) (x16 : Cor) (Qdh : List Val) (hl : a0.env.length < 4611686018427387904) : ∀ (n i : Nat), i + n = a0.env.length -> ∀ (Qit : List Slt), Qb1 a0 x16 Qdh Qit (i : Int) = Qc8 a0 x16 Qdh Qit i (a0.env.drop i) := by
 intro n
 induction n with
 | zero =>
  intro i hi Qit
  obtain rfl : i = a0.env.length := by omega
  rw [Qb1, if_neg (by omega), List.drop_length]; rfl
 | succ n ih =>
  intro i hi Qit
  have hil : i < a0.env.length := by omega
  have hw := Qbn (i := i) (by omega)
  have ih' := ih (i + 1) (by omega)
  rw [Qb1, if_pos (show (i : Int) < (a0.env.length : Int) by omega), List.drop_eq_getElem_cons hil, Qc8]
  simp only [Qb6 _ i hil, Qby, Qau, hw, ih']
  all_goals rfl
theorem Qj8 (a0 : Val) (x16 : Cor) (Qdh : List Val) (Qit : List Slt) (hl : a0.env.length < 4611686018427387904) : Qb1 a0 x16 Qdh Qit 0 = Qc8 a0 x16 Qdh Qit 0 a0.env := Qiy a0 x16 Qdh hl _ 0 (Nat.zero_add _) Qit
def Qds : Fm -> List ByteArray -> Nat -> List Fm -> Option (List ByteArray)
 | a0, Qha, Qj0, [] => (
  pure Qha
 )
 | a0, Qha, Qj0, it :: l_ => (
  (pure it >>= fun x51 =>
  (Qd4 x51 >>= fun x55 =>
  (Qhd 16 Qha [x55] >>= fun x57 =>
  Qds a0 x57 (Qj0 + 1) l_
  )
  )
  )
 )
theorem Qji (a0 : Fm) (hl : a0.kids.length < 4611686018427387904) : ∀ (n i : Nat), i + n = a0.kids.length -> ∀ (Qha : List ByteArray), Qcj a0 Qha (i : Int) = Qds a0 Qha i (a0.kids.drop i) := by
 intro n
 induction n with
 | zero =>
  intro i hi Qha
  obtain rfl : i = a0.kids.length := by omega
  rw [Qcj, if_neg (by omega), List.drop_length]; rfl
 | succ n ih =>
  intro i hi Qha
  have hil : i < a0.kids.length := by omega
  have hw := Qbn (i := i) (by omega)
  have ih' := ih (i + 1) (by omega)
  rw [Qcj, if_pos (show (i : Int) < (a0.kids.length : Int) by omega), List.drop_eq_getElem_cons hil, Qds]
  simp only [Qb6 _ i hil, Qby, Qau, hw, ih']
  all_goals rfl
theorem Qkt (a0 : Fm) (Qha : List ByteArray) (hl : a0.kids.length < 4611686018427387904) : Qcj a0 Qha 0 = Qds a0 Qha 0 a0.kids := Qji a0 hl _ 0 (Nat.zero_add _) Qha
end Go.Proofs.SA
