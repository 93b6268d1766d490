/- The reference's templates filled; the first rule; rules applied. -/
import Derived.Test.YthdghhllcllneaaGreatDoorRa
import Derived.Test.YthdghhllcllneaaGreatDoorPb
set_option linter.unusedVariables false
set_option linter.unusedSimpArgs false
set_option maxRecDepth 100000
open Go Go.Proofs Go.Proofs.Shadow
namespace Go.Proofs.SA
def LN : Nat -> Fm -> Prop
 | 0, _ => False
 | d + 1, f => f.name.size <= 12 /\ f.sc.length <= 24 /\ ∀ k ∈ f.kids, LN d k
theorem LN.mono : ∀ (d e : Nat) (f : Fm), LN d f -> d <= e -> LN e f
 | 0, _, _, h, _ => h.elim
 | d + 1, 0, _, _, h => by omega
 | d + 1, e + 1, f, h, hde => ⟨h.1, h.2.1, fun k hk => LN.mono d e k (h.2.2 k hk) (by omega)⟩
theorem NV.size {s : ByteArray} (h : NV s) : s.size <= 12 := by
 rcases h with h | h | h
 ·rw [h]; decide
 ·rw [h]; decide
 ·exact h.2.1
end Go.Proofs.SA
namespace Go.Proofs.Shadow
mutual
def Cor.nodes : Cor -> Nat
 | .mk _ _ _ _ _ _ ks => 1 + Cor.Qga ks
def Cor.Qga : List Cor -> Nat
 | [] => 0
 | f :: fs => f.nodes + Cor.Qga fs
end
theorem Cor.Qe2 : ∀ ks, Cor.Qga ks = Qc4 Cor.nodes ks
 | [] => rfl
 | f :: fs => by rw [Cor.Qga, Qc4, Cor.Qe2 fs]
theorem Cor.Qbl (c : Cor) : c.nodes = 1 + Qc4 Cor.nodes c.kids := by cases c; rw [Cor.nodes, Cor.Qe2]; rfl
instance : Inhabited Mac := ⟨⟨0, [], []⟩⟩
end Go.Proofs.Shadow
namespace Go.Proofs.SA
end Go.Proofs.SA
