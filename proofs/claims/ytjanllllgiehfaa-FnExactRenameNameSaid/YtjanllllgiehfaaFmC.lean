/- Forms: sizes, counts; closers. -/
import Derived.Test.YtjanllllgiehfaaFmB
set_option linter.unusedVariables false
set_option linter.unusedSimpArgs false
namespace Go.Proofs.Shadow
open Go Go.RowKit
theorem agree_updR {lo d e : Nat} {T T' : Nat → AV} {v : AV} (h : (decide (lo ≤ e) || e == d) = true) (k : ∀ i, i < lo → i ≠ d → T' i = T i) : ∀ i, i < lo → i ≠ d → T' i = upd T e v i := fun i h1 h2 => (agree_upd h (fun i h1 h2 => (k i h1 h2).symm) i h1 h2).symm
theorem agree_lowR {lo lo' d : Nat} {T T' J : Nat → AV} (h : lo ≤ lo') (k : ∀ i, i < lo → i ≠ d → T' i = T i) : ∀ i, i < lo → i ≠ d → T' i = low lo' J T i := fun i h1 h2 => (agree_low h (fun i h1 h2 => (k i h1 h2).symm) i h1 h2).symm
theorem packed_one (v : AV) : packed [v] = v := (rfl)
theorem packed_two (a b : AV) : packed [a, b] = .tup [a, b] := (rfl)
theorem packed_three (a b c : AV) : packed [a, b, c] = .tup [a, b, c] := (rfl)
theorem packed_nil : packed [] = .tup [] := (rfl)
mutual
def Fm.sz : Fm → Nat
  | .mk _ s _ sc ks => s.size + sc.length + ks.length + Fm.szL ks
def Fm.szL : List Fm → Nat
  | [] => 0
  | f :: fs => f.sz + Fm.szL fs
end
/-- 1 for the name x. -/
def hit (x : ByteArray) (k : Int) (s : ByteArray) : Nat := if k = 1 ∧ s = x then 1 else 0
/-- Sums over lists. -/
def sumL {α : Type} (g : α → Nat) : List α → Nat
  | [] => 0
  | a :: as => g a + sumL g as
theorem sumL_app {α : Type} (g : α → Nat) : ∀ a b, sumL g (a ++ b) = sumL g a + sumL g b
  | [], b => by simp [sumL]
  | f :: a, b => by simp [sumL, sumL_app g a b]; omega
theorem sumL_take {α : Type} (g : α → Nat) (ks : List α) (i : Nat) (h : i < ks.length) : sumL g (ks.take (i + 1)) = sumL g (ks.take i) + g ks[i] := by
  rw [List.take_succ_eq_append_getElem h, sumL_app]; simp [sumL]
theorem sumL_le {α : Type} (g : α → Nat) (ks : List α) (i : Nat) : sumL g (ks.take i) ≤ sumL g ks := by
  conv => rhs; rw [← List.take_append_drop i ks, sumL_app]
  omega
theorem sumL_mem {α : Type} (g : α → Nat) : ∀ (ks : List α) (a : α), a ∈ ks → g a ≤ sumL g ks
  | [], _, h => by simp at h
  | k :: ks, a, h => by
    simp only [sumL]
    rcases List.mem_cons.1 h with rfl | h
    · omega
    · have := sumL_mem g ks a h; omega
theorem sumL_mono {α : Type} (g g' : α → Nat) : ∀ (ks : List α), (∀ a ∈ ks, g a ≤ g' a) → sumL g ks ≤ sumL g' ks
  | [], _ => Nat.le_refl _
  | k :: ks, h => by
    simp only [sumL]
    have := sumL_mono g g' ks (fun a ha => h a (by simp [ha]))
    have := h k (by simp)
    omega
mutual
/-- How many forms. -/
def Fm.nodes : Fm → Nat
  | .mk _ _ _ _ ks => 1 + Fm.nodesL ks
def Fm.nodesL : List Fm → Nat
  | [] => 0
  | f :: fs => f.nodes + Fm.nodesL fs
end
theorem Fm.nodesL_eq : ∀ ks, Fm.nodesL ks = sumL Fm.nodes ks
  | [] => rfl
  | f :: fs => by rw [Fm.nodesL, Fm.nodesL_eq fs]; rfl
theorem Fm.nodes_eq (f : Fm) : f.nodes = 1 + sumL Fm.nodes f.kids := by cases f; simp [Fm.nodes, Fm.nodesL_eq, Fm.kids]
theorem Fm.szL_eq : ∀ ks, Fm.szL ks = sumL Fm.sz ks
  | [] => rfl
  | f :: fs => by rw [Fm.szL, Fm.szL_eq fs]; rfl
theorem Fm.sz_eq (f : Fm) : f.sz = f.name.size + f.sc.length + f.kids.length + sumL Fm.sz f.kids := by cases f; simp [Fm.sz, Fm.szL_eq, Fm.name, Fm.sc, Fm.kids]
theorem Fm.sz_kid {f g : Fm} (h : g ∈ f.kids) : g.sz ≤ f.sz := by
  have := sumL_mem Fm.sz f.kids g h
  rw [Fm.sz_eq f]; omega
theorem sumL_le_len {α : Type} (g g' : α → Nat) : ∀ (ks : List α), (∀ a ∈ ks, g a ≤ g' a + 1) → sumL g ks ≤ sumL g' ks + ks.length
  | [], _ => by simp [sumL]
  | k :: ks, h => by
    simp only [sumL, List.length_cons]
    have := sumL_le_len g g' ks (fun a ha => h a (by simp [ha]))
    have := h k (by simp)
    omega
theorem Fm.take5 (f : Fm) : f.cells.take 5 = f.cells := List.take_of_length_le (by rw [f.cells_len]; exact Nat.le_refl _)
theorem Fm.drop5 (f : Fm) : f.cells.drop 5 = [] := List.drop_eq_nil_of_le (by rw [f.cells_len]; exact Nat.le_refl _)
theorem Fm.nodes_le (f : Fm) : f.nodes ≤ f.sz + 1 := by
  induction f using Fm.ind with
  | h f ih =>
  rw [Fm.nodes_eq, Fm.sz_eq]
  have := sumL_le_len Fm.nodes Fm.sz f.kids ih
  omega
noncomputable instance : DecidableEq Fm := fun _ _ => Classical.propDecidable _
mutual
/-- A form and all below it, in the order of the text. -/
def Fm.all : Fm → List Fm
  | .mk k s n sc ks => .mk k s n sc ks :: Fm.allL ks
def Fm.allL : List Fm → List Fm
  | [] => []
  | f :: fs => f.all ++ Fm.allL fs
end
theorem Fm.allL_mem : ∀ (ks : List Fm) (g h : Fm), g ∈ ks → h ∈ g.all → h ∈ Fm.allL ks
  | [], _, _, h, _ => by simp at h
  | k :: ks, g, h, h1, h2 => by
    simp only [Fm.allL, List.mem_append]
    rcases List.mem_cons.1 h1 with rfl | h1
    · exact .inl h2
    · exact .inr (Fm.allL_mem ks g h h1 h2)
/-- Lengths that the machine can hold. -/
def Fm.Ok (f : Fm) : Prop := ∀ g ∈ f.all, g.name.size ≤ 4611686018427387904 ∧ g.sc.length ≤ 4611686018427387904 ∧ g.kids.length ≤ 4611686018427387904
theorem Fm.Ok.kid {f g : Fm} (h : f.Ok) (hg : g ∈ f.kids) : g.Ok := fun x hx => h x (by
  obtain ⟨k, s, n, sc, ks⟩ := f
  simp only [Fm.all, List.mem_cons]
  exact .inr (Fm.allL_mem ks g x hg hx))
theorem Fm.Ok.self {f : Fm} (h : f.Ok) : f.name.size ≤ 4611686018427387904 ∧ f.sc.length ≤ 4611686018427387904 ∧ f.kids.length ≤ 4611686018427387904 := h f (by obtain ⟨k, s, n, sc, ks⟩ := f; simp [Fm.all])
attribute [go_sem] Fm.take5 Fm.drop5 Fm.cells_len aresL ares1 packed_one packed_two packed_three packed_nil
end Go.Proofs.Shadow
