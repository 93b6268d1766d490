/- The frame of the exact laws, over core programs and values. -/
import Derived.Test.YtjanllllgiehfaaQc
import Derived.Test.YtjanllllgiehfaaFmH
set_option linter.unusedVariables false
set_option linter.unusedSimpArgs false
set_option maxRecDepth 100000
open Go Go.Proofs Go.Proofs.Shadow
namespace Go.Proofs.Shadow
mutual
def Cor.sz : Cor → Nat
  | .mk _ _ s _ l d ks => s.size + l.length + d.sz + ks.length + Cor.szL ks
def Cor.szL : List Cor → Nat
  | [] => 0
  | f :: fs => f.sz + Cor.szL fs
end
mutual
def Val.sz : Val → Nat
  | .mk _ _ s l f e => s.size + l.length + Val.szL l + f.sz + e.length + Slt.szL e
def Val.szL : List Val → Nat
  | [] => 0
  | f :: fs => f.sz + Val.szL fs
def Slt.sz : Slt → Nat
  | .mk _ v => v.sz
def Slt.szL : List Slt → Nat
  | [] => 0
  | f :: fs => f.sz + Slt.szL fs
end
theorem Cor.szL_eq : ∀ ks, Cor.szL ks = sumL Cor.sz ks
  | [] => rfl
  | f :: fs => by rw [Cor.szL, Cor.szL_eq fs]; rfl
theorem Val.szL_eq : ∀ ks, Val.szL ks = sumL Val.sz ks
  | [] => rfl
  | f :: fs => by rw [Val.szL, Val.szL_eq fs]; rfl
theorem Slt.szL_eq : ∀ ks, Slt.szL ks = sumL Slt.sz ks
  | [] => rfl
  | f :: fs => by rw [Slt.szL, Slt.szL_eq fs]; rfl
end Go.Proofs.Shadow
namespace Go.Proofs.SA
end Go.Proofs.SA

