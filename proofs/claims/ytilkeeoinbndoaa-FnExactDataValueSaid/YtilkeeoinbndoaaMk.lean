/- Marks: what marking a list of numbers and a form leaves (plain). -/
import Derived.Test.YtilkeeoinbndoaadvD
set_option linter.unusedVariables false
set_option linter.unusedSimpArgs false
set_option maxRecDepth 100000
open Go Go.Proofs Go.Proofs.Shadow
namespace Go.Proofs.SA
/-- A list of numbers, marked from k on; the number behind. -/
def markI : List Int → Int → List Int × Int
  | [], k => ([], k)
  | _ :: l, k => (k :: (markI l (IntKind.i64.wrap (k + 1))).1, (markI l (IntKind.i64.wrap (k + 1))).2)
mutual
/-- A form whose slices are marked from k on (its own fields stay); the number behind. -/
def markF : Fm → Int → Option (Fm × Int)
  | .mk kk s n sc ks, k => do
    let r ← markL ks (markI sc k).2
    pure (.mk kk s n (markI sc k).1 r.1, r.2)
def markL : List Fm → Int → Option (List Fm × Int)
  | [], k => some ([], k)
  | f :: l, k => do
    let t ← laws_markText (IntKind.i64.wrap (k + 1))
    let a ← markF f (IntKind.i64.wrap (IntKind.i64.wrap (IntKind.i64.wrap (k + 1) + 1) + 1))
    let r ← markL l a.2
    pure (.mk k t (IntKind.i64.wrap (IntKind.i64.wrap (k + 1) + 1)) a.1.sc a.1.kids :: r.1, r.2)
end
end Go.Proofs.SA

