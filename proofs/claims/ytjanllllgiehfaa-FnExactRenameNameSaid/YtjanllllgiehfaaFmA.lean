/- Forms as data; small laws of rows and numbers for the walks. -/
import Derived.Test.YtjanllllgiehfaaShN
import Derived.Laws.BitsLemmas
set_option linter.unusedVariables false
set_option linter.unusedSimpArgs false
namespace Go.Proofs.Shadow
open Go Go.RowKit
inductive Fm where
  | mk (kind : Int) (name : ByteArray) (n : Int) (sc : List Int) (kids : List Fm)
def ints (l : List Int) : List (List AV) := l.map fun x => [.int .i64 x]
def strs (l : List ByteArray) : List (List AV) := l.map fun x => [.str x]
mutual
def Fm.cells : Fm → List AV
  | .mk k s n sc ks => [.int .i64 k, .str s, .int .i64 n, .sl false (ints sc), .sl false (Fm.rows ks)]
def Fm.rows : List Fm → List (List AV)
  | [] => []
  | f :: fs => f.cells :: Fm.rows fs
end
def Fm.kind : Fm → Int | .mk k _ _ _ _ => k
def Fm.name : Fm → ByteArray | .mk _ s _ _ _ => s
def Fm.num : Fm → Int | .mk _ _ n _ _ => n
def Fm.sc : Fm → List Int | .mk _ _ _ c _ => c
def Fm.kids : Fm → List Fm | .mk _ _ _ _ ks => ks
def Fm.zero : Fm := .mk 0 (ByteArray.mk #[]) 0 [] []
instance : Inhabited Fm := ⟨Fm.zero⟩
theorem Fm.cells_len (f : Fm) : f.cells.length = 5 := by cases f; simp [Fm.cells]
theorem Fm.rows_eq : ∀ fs : List Fm, Fm.rows fs = fs.map Fm.cells
  | [] => rfl
  | f :: fs => by rw [Fm.rows, Fm.rows_eq fs]; rfl
theorem Fm.rows_len (fs : List Fm) : (Fm.rows fs).length = fs.length := by rw [Fm.rows_eq]; simp
theorem ints_len (l : List Int) : (ints l).length = l.length := by simp [ints]
theorem strs_len (l : List ByteArray) : (strs l).length = l.length := by simp [strs]
theorem aidx_rows {xs : List (List AV)} {i : Nat} {sz by_ : Nat} {e : TypeId} {c : Bool} {k : IntKind} {σ : Sto} (hi : i < xs.length) (hs : (xs[i]).length = sz) : aidx σ (some (e, sz, by_)) (.sl c xs) (.int k (i : Int)) = some (.ept xs[i]) := by
  have h1 : xs.getD i [] = xs[i] := by simp [hi]
  simp only [aidx, Int.toNat_natCast, h1]
  rw [if_pos ⟨by omega, by omega, hs⟩]
theorem wrap_id {a : Int} (h1 : -9223372036854775808 ≤ a) (h2 : a < 9223372036854775808) : IntKind.wrap .i64 a = a := by
  rw [IntKind.wrap_i64]; omega
theorem wrap_succ {i : Nat} (h : i < 4611686018427387904) : IntKind.wrap .i64 ((i : Int) + 1) = ((i + 1 : Nat) : Int) := by rw [wrap_id (by omega) (by omega)]; omega
section
variable (k : Int) (s : ByteArray) (n : Int) (sc : List Int) (ks : List Fm)
theorem Fm.kind_mk : (Fm.mk k s n sc ks).kind = k := (rfl)
theorem Fm.name_mk : (Fm.mk k s n sc ks).name = s := (rfl)
theorem Fm.num_mk : (Fm.mk k s n sc ks).num = n := (rfl)
theorem Fm.sc_mk : (Fm.mk k s n sc ks).sc = sc := (rfl)
theorem Fm.kids_mk : (Fm.mk k s n sc ks).kids = ks := (rfl)
end
attribute [go_sem] Fm.rows_len ints_len strs_len Fm.kind_mk Fm.name_mk Fm.num_mk Fm.sc_mk Fm.kids_mk Option.isSome_some Option.isSome_none Bool.or_true Bool.or_false Bool.true_or Bool.false_or
end Go.Proofs.Shadow
