/- The reference's draws of core programs. -/
import Derived.Test.YthdghhllcllneaaGreatDoorRn
set_option linter.unusedVariables false
set_option linter.unusedSimpArgs false
set_option maxRecDepth 100000
open Go Go.Proofs Go.Proofs.Shadow
namespace Go.Proofs.SA
inductive Q1z (m : Nat) : Cor -> Prop
 | mk {k i : Int} {s : ByteArray} {n : Int} {l : List Int} {d : Fm} {ks : List Cor} (hl : l.length <= m) (hd : d.sz <= 1000) (hs : s.size <= 1000) (hk : ks.length <= 1000) (h : ∀ x ∈ ks, Q1z m x) : Q1z m (.mk k i s n l d ks)
theorem Q1z.mono {m n : Nat} (hmn : m <= n) {c : Cor} (h : Q1z m c) : Q1z n c := by
 induction h with
 | mk hl hd hs hk _ ih => exact .mk (by omega) hd hs hk ih
end Go.Proofs.SA
