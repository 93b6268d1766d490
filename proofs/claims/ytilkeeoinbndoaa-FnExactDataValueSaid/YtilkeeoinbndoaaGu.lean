/- Open regions that hold a call and allocs in either order. -/
import Derived.Test.YtilkeeoinbndoaaGw
set_option linter.unusedVariables false
set_option linter.unusedSimpArgs false
namespace Go.Proofs.Shadow
open Go
section
variable {P : Program} {E : Nat → Prop} {n : Nat} {σ0 : Sto} {w0 : World}
/-- The form of nothing but zeros, as a constant. -/
theorem aev_zF (T : Nat → AV) : aev T (.const (Value.agg #[Value.int IntKind.i64 0, Value.string (ByteArray.mk #[]), Value.int IntKind.i64 0, Value.slice none 0 0, Value.slice none 0 0])) = AV.agg [AV.int IntKind.i64 0, AV.str (ByteArray.mk #[]), AV.int IntKind.i64 0, AV.nilsl, AV.nilsl] := by rfl
end
section
variable {P : Program} {E : Nat → Prop} {τ σ : Sto} {bs : List (Nat × Ent)} {ms : List OwnR}
variable {α β : Type} {g : α → List AV} {xs ys : List α} {r : β} {v y : AV} {e : TypeId} {sz by_ : Nat} {T : Nat → AV} {d : Tmp} {K : AS → Prop} {kk : List α → Option β}
end
end Go.Proofs.Shadow

