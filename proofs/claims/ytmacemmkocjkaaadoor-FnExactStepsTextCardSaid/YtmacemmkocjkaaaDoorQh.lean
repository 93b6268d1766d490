/- FormatValue, ValueSame: the program's and the reference's. -/
import Derived.Test.YtmacemmkocjkaaaDoorQg
set_option linter.unusedVariables false
set_option linter.unusedSimpArgs false
set_option maxRecDepth 100000
open Go Go.Proofs Go.Proofs.Shadow
namespace Go.Proofs.Shadow
theorem sep_loop {α : Type} (F : ByteArray → Nat → List α → Option ByteArray) (T : α → List UInt8) (sep : List UInt8) (hn : ∀ z i, F z i [] = some z) : ∀ (l : List α) (z : List UInt8) (i : Nat), (∀ x ∈ l, ∀ (z : List UInt8) i r, z.length + sep.length + (T x).length ≤ 4611686018427387904 → F (bs z) i (x :: r) = F (bs (z ++ (if i = 0 then T x else sep ++ T x))) (i + 1) r) → z.length + Lib.lens (l.map T) + sep.length * l.length ≤ 4611686018427387904 → F (bs z) i l = some (bs (z ++ (if i = 0 then Lib.join (l.map T) sep else Lib.joinTail sep (l.map T)))) := by
  intro l
  induction l with
  | nil =>
    intro z i _ _
    rw [hn]
    simp [Lib.join, Lib.joinTail, List.intercalate]
  | cons x l ih =>
    intro z i hc hz
    simp only [List.map_cons, Lib.lens, List.sum_cons, List.length_cons, Nat.mul_succ] at hz
    rw [hc x (List.mem_cons_self ..) z i l (by omega), ih _ _ (fun y hy => hc y (List.mem_cons_of_mem _ hy)) (by
      simp only [Lib.lens, List.length_append]
      by_cases h : i = 0
      · rw [if_pos h]; omega
      · rw [if_neg h, List.length_append]; omega)]
    rw [if_neg (Nat.succ_ne_zero i), List.map_cons]
    by_cases h : i = 0
    · rw [if_pos h, if_pos h, Lib.join_cons, List.append_assoc]
    · rw [if_neg h, if_neg h]; simp [Lib.joinTail, List.append_assoc]
theorem coll_loop {α : Type} (F : List ByteArray → Nat → List α → Option (List ByteArray)) (T : α → List UInt8) (hn : ∀ z i, F z i [] = some z) : ∀ (l : List α) (z : List ByteArray) (i : Nat), (∀ x ∈ l, ∀ z i r, z.length ≤ 1099511627776 → F z i (x :: r) = F (z ++ [bs (T x)]) (i + 1) r) → z.length + l.length ≤ 1099511627776 → F z i l = some (z ++ l.map fun x => bs (T x)) := by
  intro l
  induction l with
  | nil => intro z i _ _; rw [hn]; simp
  | cons x l ih =>
    intro z i hc hz
    simp only [List.length_cons] at hz
    rw [hc x (List.mem_cons_self ..) z i l (by omega), ih _ _ (fun y hy => hc y (List.mem_cons_of_mem _ hy)) (by simp; omega), List.map_cons, List.append_assoc]; rfl
theorem join_le (l : List (List UInt8)) (s : List UInt8) : (Lib.join l s).length ≤ Lib.lens l + s.length * l.length := by
  cases l with
  | nil => simp [Lib.join_nil]
  | cons x r => rw [Lib.join_length, List.length_cons, Nat.mul_succ]; omega
theorem joinF_eq {α : Type} {T : α → List UInt8} {l : List α} {s : List UInt8} (h : l.length ≤ 140737488355328) (h1 : Lib.lens (l.map T) + s.length * l.length ≤ 140737488355328) : joinF (l.map fun x => bs (T x)) (bs s) = some (bs (Lib.join (l.map T) s)) := by
  have := join_le (l.map T) s
  rw [List.length_map] at this
  unfold joinF
  rw [List.map_map, show ((fun x : ByteArray => x.data.toList) ∘ fun x => bs (T x)) = T from rfl, List.length_map, if_pos ⟨h, by show (Lib.join (l.map T) s).length ≤ _; omega⟩]
  rfl
theorem lens_sum {α : Type} (T : α → List UInt8) (g : α → Nat) : ∀ l : List α, (∀ x ∈ l, (T x).length ≤ 30 + 31 * g x) → Lib.lens (l.map T) ≤ 30 * l.length + 31 * sumL g l
  | [], _ => by simp [Lib.lens]
  | x :: l, h => by
    have h1 := lens_sum T g l (fun y hy => h y (List.mem_cons_of_mem _ hy))
    have h2 := h x (List.mem_cons_self ..)
    simp only [Lib.lens, List.map_cons, List.sum_cons, List.length_cons, sumL] at h1 ⊢
    omega
end Go.Proofs.Shadow
namespace Go.Proofs.SA
end Go.Proofs.SA
