/- The tables out of a row's condition. -/
import Derived.Test.YtmacemmkocjkaaaDoorFmE
import Derived.Lib.LaidTab
import Derived.Stop.LaidErr
set_option linter.unusedVariables false
namespace Go.Proofs.Shadow
open Go Go.RowKit
theorem Tb.of_laid {P : Program} {W : World} {rest : List (String × DataW Unit)} {g : Nat} {t e : TypeId} {n : Nat} (hg : P.globalNamed "internal/strconv.uint64pow10" = some g) (hty : (P.globals[g]?).map (·.type) = some t) (ht : P.underlying t = some (.array n e)) (he : P.underlying e = some (.int .u64)) (hce : P.cellsOf e = 1) (hct : P.cellsOf t = n)
    (h : laidMet P (("internal/strconv.uint64pow10", Lib.tabData .u64 Lib.pow10Tab) :: rest) W) : Tb P sto0 W := fun x hx g' hg' => by
  obtain rfl := List.mem_singleton.1 hx
  exact ⟨sto0_dead _, Lib.tabIs_of_head hg hty ht he hce hct h⟩
end Go.Proofs.Shadow
