/- Plain functions: small laws. -/
import Derived.Test.YtilkeeoinbndoaaGt
set_option linter.unusedVariables false
set_option linter.unusedSimpArgs false
namespace Go.Proofs.Shadow
open Go
abbrev W (x : Int) : Int := IntKind.wrap .i64 x
theorem bsome {α β : Type} (a : α) (f : α → Option β) : ((some a : Option α) >>= f) = f a := rfl
theorem psome {α : Type} (a : α) : (pure a : Option α) = some a := rfl
theorem idx_nat {α : Type} (l : List α) (i : Nat) (h : i < l.length) : idx l (i : Int) = some l[i] := by
  simp [idx, h]
theorem wrap_nat {i : Nat} (h : i < 4611686018427387904) : IntKind.wrap .i64 ((i : Int) + 1) = ((i + 1 : Nat) : Int) := wrap_succ h
theorem sidx_nat (s : ByteArray) (i : Nat) (h : i < s.size) : sidx s (i : Int) = some (byt s i) := by
  simp only [sidx, Int.toNat_natCast]
  rw [if_pos ⟨by omega, by omega⟩]
theorem lcat_ok {α : Type} {n : Nat} {xs ys : List α} (h : (xs.length + ys.length) * n ≤ 140737488355328) : lcat n xs ys = some (xs ++ ys) := if_pos h
theorem scat_ok {x y : ByteArray} (h : x.size + y.size ≤ 4611686018427387904) : scat x y = some (x ++ y) := if_pos h
/-- A loop over a list that hands a state on. -/
theorem loop_fold {α S : Type} (l : List α) (step : S → α → Option S) (F : S → Int → Option S) (hl : l.length < 4611686018427387904)
    (hF : ∀ s (i : Nat), i < l.length → ∀ x, l[i]? = some x → F s i = (step s x).bind fun s' => F s' (IntKind.i64.wrap ((i : Int) + 1))) (hE : ∀ s, F s l.length = some s) : ∀ s, F s 0 = l.foldlM step s := by
  have key : ∀ n (i : Nat), i + n = l.length → ∀ s, F s i = (l.drop i).foldlM step s := by
    intro n
    induction n with
    | zero =>
      intro i hi s
      have : i = l.length := by omega
      subst this
      rw [hE, List.drop_length]
      rfl
    | succ n ih =>
      intro i hi s
      have hil : i < l.length := by omega
      rw [hF s i hil l[i] (List.getElem?_eq_getElem hil), wrap_succ (by omega), List.drop_eq_getElem_cons hil, List.foldlM_cons]
      show (step s l[i]).bind _ = (step s l[i]).bind _
      congr 1
      funext s'
      exact ih (i + 1) (by omega) s'
  intro s
  have := key l.length 0 (by omega) s
  simpa using this
/-! ### It yields something -/
def Tot {α : Type} (o : Option α) (p : α → Prop) : Prop := ∃ a, o = some a ∧ p a
theorem Tot.bind {α β : Type} {o : Option α} {p : α → Prop} {k : α → Option β} {q : β → Prop} (h : Tot o p) (hk : ∀ a, p a → Tot (k a) q) : Tot (o >>= k) q := by
  obtain ⟨a, rfl, ha⟩ := h
  exact hk a ha
theorem Tot.pure {α : Type} {a : α} {p : α → Prop} (h : p a) : Tot (pure a : Option α) p := ⟨a, rfl, h⟩
theorem Tot.mono {α : Type} {o : Option α} {p q : α → Prop} (h : Tot o p) (hk : ∀ a, p a → q a) : Tot o q := by
  obtain ⟨a, h1, h2⟩ := h; exact ⟨a, h1, hk a h2⟩
theorem Tot.ite {α : Type} {c : Prop} [Decidable c] {x y : Option α} {p : α → Prop} (h1 : c → Tot x p) (h2 : ¬ c → Tot y p) : Tot (if c then x else y) p := by
  split
  · exact h1 (by assumption)
  · exact h2 (by assumption)
/-! ### Loops over lists: an index that goes up, and the list itself -/
theorem lsl0 {α β : Type} {xs : List α} (hl : xs.length < 4611686018427387904) (F : Int → Option β) (G : Nat → List α → Option β) (h0 : ∀ (i : Nat), ¬ (i : Int) < (xs.length : Int) → F (i : Int) = G i [])
    (hs : ∀ (i : Nat) (h : i < xs.length), (i : Int) < (xs.length : Int) → IntKind.i64.wrap ((i : Int) + 1) = ((i + 1 : Nat) : Int) → (F ((i + 1 : Nat) : Int) = G (i + 1) (xs.drop (i + 1))) → F (i : Int) = G i (xs[i] :: xs.drop (i + 1))) : F 0 = G 0 xs := by
  have key : ∀ (n i : Nat), i + n = xs.length → F (i : Int) = G i (xs.drop i) := by
    intro n
    induction n with
    | zero => intro i hi; rw [h0  i (by omega), List.drop_of_length_le (by omega)]
    | succ n ih =>
      intro i hi
      rw [List.drop_eq_getElem_cons (show i < xs.length by omega)]
      exact hs  i (by omega) (by omega) (wrap_succ (by omega)) (ih (i + 1) (by omega))
  exact key xs.length 0 (Nat.zero_add _) 
theorem lsl1 {α β s0 : Type} {xs : List α} (hl : xs.length < 4611686018427387904) (F : s0 → Int → Option β) (G : s0 → Nat → List α → Option β) (h0 : ∀ (a0 : s0) (i : Nat), ¬ (i : Int) < (xs.length : Int) → F a0 (i : Int) = G a0 i [])
    (hs : ∀ (a0 : s0) (i : Nat) (h : i < xs.length), (i : Int) < (xs.length : Int) → IntKind.i64.wrap ((i : Int) + 1) = ((i + 1 : Nat) : Int) → (∀ a0, F a0 ((i + 1 : Nat) : Int) = G a0 (i + 1) (xs.drop (i + 1))) → F a0 (i : Int) = G a0 i (xs[i] :: xs.drop (i + 1))) (a0 : s0) : F a0 0 = G a0 0 xs := by
  have key : ∀ (n i : Nat), i + n = xs.length → ∀ a0, F a0 (i : Int) = G a0 i (xs.drop i) := by
    intro n
    induction n with
    | zero => intro i hi a0; rw [h0 a0 i (by omega), List.drop_of_length_le (by omega)]
    | succ n ih =>
      intro i hi a0
      rw [List.drop_eq_getElem_cons (show i < xs.length by omega)]
      exact hs a0 i (by omega) (by omega) (wrap_succ (by omega)) (ih (i + 1) (by omega))
  exact key xs.length 0 (Nat.zero_add _) a0
end Go.Proofs.Shadow

