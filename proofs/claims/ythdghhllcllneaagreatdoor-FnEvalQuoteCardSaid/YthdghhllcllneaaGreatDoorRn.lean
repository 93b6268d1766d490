/- Core programs checked; the reference's expansion from the beginning. -/
import Derived.Test.YthdghhllcllneaaGreatDoorRj
set_option linter.unusedVariables false
set_option linter.unusedSimpArgs false
set_option maxRecDepth 100000
open Go Go.Proofs Go.Proofs.Shadow
namespace Go.Proofs.SA
inductive Qwl : Cor -> Prop
 | mk {k i : Int} {s : ByteArray} {n : Int} {l : List Int} {d : Fm} {ks : List Cor} (hl : l.length <= 1000000) (hd : d.sz <= 1000000) (hk : ks.length <= 1000000) (h : ∀ x ∈ ks, Qwl x) : Qwl (.mk k i s n l d ks)
theorem Qwl.out {c : Cor} (h : Qwl c) : c.ids.length <= 1000000 /\ c.data.sz <= 1000000 /\ c.kids.length <= 1000000 /\ ∀ x ∈ c.kids, Qwl x := by
 cases h; exact ⟨by assumption, by assumption, by assumption, by assumption⟩
def arity (k : Int) (n : Nat) : Prop := ((k = 1 ∨ k = 2 ∨ k = 3 ∨ k = 4) /\ n = 0) ∨ (k = 5 /\ n = 1) ∨ (k = 6 /\ 1 <= n) ∨ (k = 7 /\ n = 3)
def zF : Fm := Fm.mk 0 (ByteArray.mk #[]) 0 [] []
end Go.Proofs.SA
