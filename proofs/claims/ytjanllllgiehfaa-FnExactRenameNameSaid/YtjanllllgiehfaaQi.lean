/- StepsText: the program's and the reference's. -/
import Derived.Test.YtjanllllgiehfaaQg
import Derived.Test.YtjanllllgiehfaaQv
set_option linter.unusedVariables false
set_option linter.unusedSimpArgs false
set_option maxRecDepth 100000
open Go Go.Proofs Go.Proofs.Shadow
namespace Go.Proofs.Shadow
mutual
def Fm.strip : Fm → Fm
  | .mk k s n _ ks => .mk k s n [] (Fm.stripL ks)
def Fm.stripL : List Fm → List Fm
  | [] => []
  | f :: fs => f.strip :: Fm.stripL fs
end
theorem sumL_map {α β : Type} (g : β → Nat) (h : α → β) : ∀ l : List α, sumL g (l.map h) = sumL (fun x => g (h x)) l
  | [] => rfl
  | x :: l => by rw [List.map_cons, sumL, sumL, sumL_map g h l]
/-- The text of a form without scopes, d deep. -/
def FT : Nat → Fm → List UInt8
  | 0, _ => []
  | d + 1, f => if f.kind = 2 then Lib.itoa f.num else if f.kind = 1 then f.name.data.toList else [40] ++ Lib.join (f.kids.map (FT d)) [32] ++ [41]
end Go.Proofs.Shadow
namespace Go.Proofs.SA
open Classical in
/-- The text of a form, stripped. -/
noncomputable def FF (f : Fm) : List UInt8 := if FV f.strip then FT 40 f.strip else []
noncomputable def TT (s : Stp) : List UInt8 := FF s.use ++ [32, 45, 62, 32] ++ FF s.res ++ [10]
end Go.Proofs.SA
