/- Decimal numbers: the program's and the reference's. -/
import Derived.Test.YtilkeeoinbndoaaQa
import Derived.Test.YtilkeeoinbndoaaGy
import Derived.Lib.Join
import Derived.Lib.AppendIntMem
import Derived.Laws.BitsAllLaws
set_option linter.unusedVariables false
set_option linter.unusedSimpArgs false
set_option maxRecDepth 100000
open Go Go.Proofs Go.Proofs.Shadow
namespace Go.Proofs.Shadow
/-- The bytes of a list. -/
def bs (l : List UInt8) : ByteArray := ⟨l.toArray⟩
end Go.Proofs.Shadow
namespace Go.Proofs.SA
end Go.Proofs.SA

