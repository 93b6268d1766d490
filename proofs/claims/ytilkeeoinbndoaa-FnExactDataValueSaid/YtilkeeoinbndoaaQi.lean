/- StepsText: the program's and the reference's. -/
import Derived.Test.YtilkeeoinbndoaaQg
import Derived.Test.YtilkeeoinbndoaaQv
set_option linter.unusedVariables false
set_option linter.unusedSimpArgs false
set_option maxRecDepth 100000
open Go Go.Proofs Go.Proofs.Shadow
namespace Go.Proofs.Shadow
theorem app_loop {α β : Type} (F : List β → Nat → List α → Option (List β)) (T : α → β) (hn : ∀ z i, F z i [] = some z) : ∀ (l : List α) (z : List β) (i : Nat), (∀ x ∈ l, ∀ z i r, z.length ≤ 1073741824 → F z i (x :: r) = F (z ++ [T x]) (i + 1) r) → z.length + l.length ≤ 1073741824 → F z i l = some (z ++ l.map T) := by
  intro l
  induction l with
  | nil => intro z i _ _; rw [hn]; simp
  | cons x l ih =>
    intro z i hc hz
    simp only [List.length_cons] at hz
    rw [hc x (List.mem_cons_self ..) z i l (by omega), ih _ _ (fun y hy => hc y (List.mem_cons_of_mem _ hy)) (by simp; omega), List.map_cons, List.append_assoc]; rfl
mutual
def Fm.strip : Fm → Fm
  | .mk k s n _ ks => .mk k s n [] (Fm.stripL ks)
def Fm.stripL : List Fm → List Fm
  | [] => []
  | f :: fs => f.strip :: Fm.stripL fs
end
/-- The text of a form without scopes, d deep. -/
def FT : Nat → Fm → List UInt8
  | 0, _ => []
  | d + 1, f => if f.kind = 2 then Lib.itoa f.num else if f.kind = 1 then f.name.data.toList else [40] ++ Lib.join (f.kids.map (FT d)) [32] ++ [41]
end Go.Proofs.Shadow
namespace Go.Proofs.SA
open Classical in
/-- The text of a form, stripped. -/
noncomputable def FF (f : Fm) : List UInt8 := if FV f.strip then FT 40 f.strip else []
noncomputable def TT (s : Stp) : List UInt8 := FF s.use ++ [32, 45, 62, 32] ++ FF s.res ++ [10]
end Go.Proofs.SA

