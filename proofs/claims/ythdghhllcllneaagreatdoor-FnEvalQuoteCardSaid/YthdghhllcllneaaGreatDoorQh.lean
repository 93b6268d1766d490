/- FormatValue, ValueSame: the program's and the reference's. -/
import Derived.Test.YthdghhllcllneaaGreatDoorQg
set_option linter.unusedVariables false
set_option linter.unusedSimpArgs false
set_option maxRecDepth 100000
open Go Go.Proofs Go.Proofs.Shadow
namespace Go.Proofs.Shadow
theorem Qpb {α : Type} (F : List ByteArray -> Nat -> List α -> Option (List ByteArray)) (T : α -> List UInt8) (hn : ∀ z i, F z i [] = some z) : ∀ (l : List α) (z : List ByteArray) (i : Nat), (∀ x ∈ l, ∀ z i r, z.length <= 1099511627776 -> F z i (x :: r) = F (z ++ [bs (T x)]) (i + 1) r) -> z.length + l.length <= 1099511627776 -> F z i l = some (z ++ l.map fun x => bs (T x)) := by
 intro l
 induction l with
 | nil => intro z i _ _; rw [hn]; simp
 | cons x l ih =>
  intro z i hc hz
  simp only [List.length_cons] at hz
  rw [hc x (List.mem_cons_self ..) z i l (by omega), ih _ _ (fun y hy => hc y (List.mem_cons_of_mem _ hy)) (by simp; omega), List.map_cons, List.append_assoc]; rfl
theorem Qms (l : List (List UInt8)) (s : List UInt8) : (Lib.join l s).length <= Lib.lens l + s.length * l.length := by
 cases l with
 | nil => simp [Lib.join_nil]
 | cons x r => rw [Lib.join_length, List.length_cons, Nat.mul_succ]; omega
theorem Qrx {α : Type} {T : α -> List UInt8} {l : List α} {s : List UInt8} (h : l.length <= 140737488355328) (h1 : Lib.lens (l.map T) + s.length * l.length <= 140737488355328) : Qvq (l.map fun x => bs (T x)) (bs s) = some (bs (Lib.join (l.map T) s)) := by
 have := Qms (l.map T) s
 rw [List.length_map] at this
 unfold Qvq
 rw [List.map_map, show ((fun x : ByteArray => x.data.toList) ∘ fun x => bs (T x)) = T from rfl, List.length_map, if_pos ⟨h, by show (Lib.join (l.map T) s).length <= _; omega⟩]
 rfl
def VT : Nat -> Val -> List UInt8
 | 0, _ => [46, 46]
 | d + 1, v => if v.kind = 1 then Lib.itoa v.num else if v.kind = 2 ∨ v.kind = 5 then v.name.data.toList else if v.kind = 4 then [35, 102, 117, 110] ++ Lib.itoa (v.fn.ids.length : Int) else if v.kind = 3 then [40] ++ Lib.join (v.items.map (VT d)) [32] ++ [41] else [63]
theorem Qky {α : Type} (T : α -> List UInt8) (g : α -> Nat) : ∀ l : List α, (∀ x ∈ l, (T x).length <= 30 + 31 * g x) -> Lib.lens (l.map T) <= 30 * l.length + 31 * Qc4 g l
 | [], _ => by simp [Lib.lens]
 | x :: l, h => by
  have h1 := Qky T g l (fun y hy => h y (List.mem_cons_of_mem _ hy))
  have h2 := h x (List.mem_cons_self ..)
  simp only [Lib.lens, List.map_cons, List.sum_cons, List.length_cons, Qc4] at h1 ⊢
  omega
theorem Q14 : ∀ (d : Nat) (v : Val), v.Ok -> (VT d v).length <= 30 + 31 * v.sz := by
 intro d
 induction d with
 | zero => intro v _; simp [VT]; omega
 | succ d ih =>
  intro v hv
  obtain ⟨g0, g1, g2, g3, g4, g5, g6⟩ := hv.out
  obtain ⟨k1, k2, k3, k4, k5⟩ := g3.out
  have hz := Val.Qff v
  rw [VT]
  split
  ·have := Qkx g0.1 g0.2; omega
  split
  ·have : v.name.data.toList.length = v.name.size := rfl
   omega
  split
  ·have := Qkx (n := (v.fn.ids.length : Int)) (by omega) (by omega); simp only [List.length_append, List.length_cons, List.length_nil]; omega
  split
  ·have h1 := Qky (VT d) Val.sz v.items (fun x hx => ih x (g5 x hx))
   have h2 := Qms (v.items.map (VT d)) [32]
   simp only [List.length_append, List.length_cons, List.length_nil, List.length_map] at h2 ⊢
   omega
  ·simp; omega
end Go.Proofs.Shadow
namespace Go.Proofs.SA
theorem Qqr : ∀ (d : Nat) (v : Val), d <= 40 -> v.Ok -> v.sz <= 1099511627776 -> Qcv v (40 - (d : Int)) = some (bs (VT d v)) := by
 intro d
 induction d with
 | zero => intro v _ _ _; rw [Qcv]; rfl
 | succ d ih =>
  intro v hd hv hs
  obtain ⟨g0, g1, g2, g3, g4, g5, g6⟩ := hv.out
  obtain ⟨k1, k2, k3, k4, k5⟩ := g3.out
  have hz := Val.Qff v
  rw [Qcv, VT, if_neg (by omega)]
  by_cases h1 : v.kind = 1
  ·rw [if_pos h1, if_pos h1, Qc1, Qog g0.1 g0.2]; rfl
  rw [if_neg h1, if_neg h1]
  by_cases h2 : v.kind = 2 ∨ v.kind = 5
  ·rw [if_pos h2, Qu0]
   rcases h2 with h2 | h2
   ·simp [h2, Qby]
   ·simp [h2, Qby]
  obtain ⟨h3, h5⟩ := not_or.1 h2
  rw [if_neg h2]
  simp only [h3, h5, if_false, Qby, Qau, decide_false, Bool.false_eq_true]
  by_cases h4 : v.kind = 4
  ·have := Qkx (n := (v.fn.ids.length : Int)) (by omega) (by omega)
   rw [if_pos h4, if_pos h4, Qc1, Qog (by omega) (by omega), Qau, show (ByteArray.mk #[35, 102, 117, 110]) = bs [35, 102, 117, 110] from rfl, Qm7 (by rw [Qhz, Qhz]; simp; omega), Qau, Qo8]
  rw [if_neg h4, if_neg h4]
  by_cases h6 : v.kind = 3
  rotate_left
  ·rw [if_neg h6, if_neg h6]; rfl
  have hl := Qky (VT d) Val.sz v.items (fun x hx => Q14 d x (g5 x hx))
  have hj := Qms (v.items.map (VT d)) [32]
  simp only [List.length_append, List.length_cons, List.length_nil, List.length_map] at hj
  rw [if_pos h6, if_pos h6, Qkc _ _ _ (by omega),
   Qpb (Qda v (40 - ((d + 1 : Nat) : Int))) (VT d) (fun _ _ => rfl) v.items [] 0 (fun x hx z i r hzb => by
    have hxs := Qg8 Val.sz _ _ hx
    rw [Qda, Qce (by omega) (by omega), show 40 - ((d + 1 : Nat) : Int) + 1 = 40 - (d : Int) by omega, Qby, Qau, ih x (by omega) (g5 x hx) (by omega), Qau, Qem (by simp; omega), Qau]) (by simp; omega), Qau,
   List.nil_append, Qd1, show (ByteArray.mk #[32]) = bs [32] from rfl, Qrx (by omega) (by simp only [List.length_cons, List.length_nil]; omega), Qau,
   show (ByteArray.mk #[40]) = bs [40] from rfl, Qm7 (by rw [Qhz, Qhz]; simp only [List.length_cons, List.length_nil]; omega), Qau, Qo8,
   show (ByteArray.mk #[41]) = bs [41] from rfl, Qm7 (by rw [Qhz, Qhz]; simp only [List.length_append, List.length_cons, List.length_nil]; omega), Qau, Qo8]
theorem Qko (v : Val) (h : v.Ok) (hs : v.sz <= 1099511627776) : Qdd v = some (bs (VT 40 v)) := by
 rw [Qdd, show (0 : Int) = 40 - ((40 : Nat) : Int) from rfl, Qqr 40 v (by omega) h hs]; rfl
end Go.Proofs.SA
