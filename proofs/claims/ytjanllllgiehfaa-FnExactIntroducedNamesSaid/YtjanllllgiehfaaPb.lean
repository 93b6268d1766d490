/- The draws yield something: the reader, copies, mutations, drawn forms. Imports the plain functions of a seat (gen2). -/
import Derived.Test.YtjanllllgiehfaaPa
import Derived.Test.YtjanllllgiehfaaxiD
set_option linter.unusedVariables false
set_option linter.unusedSimpArgs false
set_option maxRecDepth 100000
open Go Go.Proofs Go.Proofs.Shadow
namespace Go.Proofs.SA
def RdI (c : Rdr) (k : Nat) : Prop := c.b.length ≤ 2000 ∧ (∀ x ∈ c.b, 0 ≤ x ∧ x < 256) ∧ 0 ≤ c.p ∧ c.p ≤ k
theorem RdI.mono {c : Rdr} {k k' : Nat} (h : RdI c k) (hk : k ≤ k') : RdI c k' := ⟨h.1, h.2.1, h.2.2.1, by have := h.2.2.2; omega⟩
end Go.Proofs.SA

