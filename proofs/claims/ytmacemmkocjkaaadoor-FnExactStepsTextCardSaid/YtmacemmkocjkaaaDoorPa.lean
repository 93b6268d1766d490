/- Plain functions: small laws. -/
import Derived.Test.YtmacemmkocjkaaaDoorGt
set_option linter.unusedVariables false
set_option linter.unusedSimpArgs false
namespace Go.Proofs.Shadow
open Go
abbrev W (x : Int) : Int := IntKind.wrap .i64 x
theorem bsome {α β : Type} (a : α) (f : α → Option β) : ((some a : Option α) >>= f) = f a := rfl
theorem psome {α : Type} (a : α) : (pure a : Option α) = some a := rfl
theorem idx_nat {α : Type} (l : List α) (i : Nat) (h : i < l.length) : idx l (i : Int) = some l[i] := by
  simp [idx, h]
theorem idx_int {α : Type} (l : List α) (i : Int) (h0 : 0 ≤ i) (h : i < l.length) : idx l i = some (l[i.toNat]'(by omega)) := by
  have := idx_nat l i.toNat (by omega)
  rwa [Int.toNat_of_nonneg h0] at this
theorem wrap_nat {i : Nat} (h : i < 4611686018427387904) : IntKind.wrap .i64 ((i : Int) + 1) = ((i + 1 : Nat) : Int) := wrap_succ h
theorem sidx_nat (s : ByteArray) (i : Nat) (h : i < s.size) : sidx s (i : Int) = some (byt s i) := by
  simp only [sidx, Int.toNat_natCast]
  rw [if_pos ⟨by omega, by omega⟩]
theorem lcat_ok {α : Type} {n : Nat} {xs ys : List α} (h : (xs.length + ys.length) * n ≤ 140737488355328) : lcat n xs ys = some (xs ++ ys) := if_pos h
theorem scat_ok {x y : ByteArray} (h : x.size + y.size ≤ 4611686018427387904) : scat x y = some (x ++ y) := if_pos h
/-- A loop over a list that hands a state on. -/
theorem loop_fold {α S : Type} (l : List α) (step : S → α → Option S) (F : S → Int → Option S) (hl : l.length < 4611686018427387904)
    (hF : ∀ s (i : Nat), i < l.length → ∀ x, l[i]? = some x → F s i = (step s x).bind fun s' => F s' (IntKind.i64.wrap ((i : Int) + 1))) (hE : ∀ s, F s l.length = some s) : ∀ s, F s 0 = l.foldlM step s := by
  have key : ∀ n (i : Nat), i + n = l.length → ∀ s, F s i = (l.drop i).foldlM step s := by
    intro n
    induction n with
    | zero =>
      intro i hi s
      have : i = l.length := by omega
      subst this
      rw [hE, List.drop_length]
      rfl
    | succ n ih =>
      intro i hi s
      have hil : i < l.length := by omega
      rw [hF s i hil l[i] (List.getElem?_eq_getElem hil), wrap_succ (by omega), List.drop_eq_getElem_cons hil, List.foldlM_cons]
      show (step s l[i]).bind _ = (step s l[i]).bind _
      congr 1
      funext s'
      exact ih (i + 1) (by omega) s'
  intro s
  have := key l.length 0 (by omega) s
  simpa using this
/-- .. that may end early: inl. -/
def scan {α S R : Type} (step : S → α → Option (R ⊕ S)) : List α → S → Option (R ⊕ S)
  | [], s => some (.inr s)
  | x :: xs, s => (step s x).bind fun o => match o with | .inl r => some (.inl r) | .inr s' => scan step xs s'
theorem loop_scan {α S R : Type} (l : List α) (step : S → α → Option (R ⊕ S)) (F : S → Int → Option (R ⊕ S)) (hl : l.length < 4611686018427387904)
    (hF : ∀ s (i : Nat), i < l.length → ∀ x, l[i]? = some x → F s i = (step s x).bind fun o => match o with | .inl r => some (.inl r) | .inr s' => F s' (IntKind.i64.wrap ((i : Int) + 1))) (hE : ∀ s, F s l.length = some (.inr s)) : ∀ s, F s 0 = scan step l s := by
  have key : ∀ n (i : Nat), i + n = l.length → ∀ s, F s i = scan step (l.drop i) s := by
    intro n
    induction n with
    | zero =>
      intro i hi s
      have : i = l.length := by omega
      subst this
      rw [hE, List.drop_length]
      rfl
    | succ n ih =>
      intro i hi s
      have hil : i < l.length := by omega
      rw [hF s i hil l[i] (List.getElem?_eq_getElem hil), wrap_succ (by omega), List.drop_eq_getElem_cons hil, scan]
      congr 1
      funext o
      cases o with
      | inl r => rfl
      | inr s' => exact ih (i + 1) (by omega) s'
  intro s
  have := key l.length 0 (by omega) s
  simpa using this

/-! ### It yields something -/
def Tot {α : Type} (o : Option α) (p : α → Prop) : Prop := ∃ a, o = some a ∧ p a
theorem Tot.bind {α β : Type} {o : Option α} {p : α → Prop} {k : α → Option β} {q : β → Prop} (h : Tot o p) (hk : ∀ a, p a → Tot (k a) q) : Tot (o >>= k) q := by
  obtain ⟨a, rfl, ha⟩ := h
  exact hk a ha
theorem Tot.pure {α : Type} {a : α} {p : α → Prop} (h : p a) : Tot (pure a : Option α) p := ⟨a, rfl, h⟩
theorem Tot.mono {α : Type} {o : Option α} {p q : α → Prop} (h : Tot o p) (hk : ∀ a, p a → q a) : Tot o q := by
  obtain ⟨a, h1, h2⟩ := h; exact ⟨a, h1, hk a h2⟩
theorem Tot.ite {α : Type} {c : Prop} [Decidable c] {x y : Option α} {p : α → Prop} (h1 : c → Tot x p) (h2 : ¬ c → Tot y p) : Tot (if c then x else y) p := by
  split
  · exact h1 (by assumption)
  · exact h2 (by assumption)
theorem Tot.true {α : Type} {o : Option α} {p : α → Prop} (h : Tot o p) : Tot o fun _ => True := h.mono fun _ _ => trivial
theorem idx_tot {α : Type} {l : List α} {i : Int} (h0 : 0 ≤ i) (h : i < l.length) : Tot (idx l i) fun x => x ∈ l := by
  rw [idx_int l i h0 h]; exact ⟨_, rfl, List.getElem_mem _⟩
theorem sidx_tot {s : ByteArray} {i : Int} (h0 : 0 ≤ i) (h : i < s.size) : Tot (sidx s i) fun x => 0 ≤ x ∧ x < 256 := by
  simp only [sidx]; rw [if_pos ⟨h0, h⟩]; exact ⟨_, rfl, byt_ge s _⟩
theorem lcat_tot {α : Type} {n : Nat} {xs ys : List α} (h : (xs.length + ys.length) * n ≤ 140737488355328) : Tot (lcat n xs ys) fun z => z = xs ++ ys := ⟨_, lcat_ok h, rfl⟩
theorem ssub_tot {s : ByteArray} {lo hi : Int} (h0 : 0 ≤ lo) (h1 : lo ≤ hi) (h2 : hi ≤ s.size) : Tot (ssub s lo hi) fun z => (z.size : Int) = hi - lo := by
  simp only [ssub]; rw [if_pos ⟨h0, h1, h2⟩]; exact ⟨_, rfl, by simp only [ByteArray.size_extract]; omega⟩
theorem lsub_tot {α : Type} {l : List α} {lo hi : Int} (h0 : 0 ≤ lo) (h1 : lo ≤ hi) (h2 : hi ≤ l.length) : Tot (lsub l lo hi) fun z => (z.length : Int) = hi - lo ∧ ∀ x ∈ z, x ∈ l := by
  simp only [lsub]; rw [if_pos ⟨h0, h1, h2⟩]; exact ⟨_, rfl, by simp only [List.length_take, List.length_drop]; omega, fun x hx => List.mem_of_mem_drop (List.mem_of_mem_take hx)⟩
theorem irem_tot {a b : Int} (h : 0 ≤ a) (hb : 1 ≤ b) : Tot (irem a b) fun r => 0 ≤ r ∧ r < b := by
  simp only [irem]; rw [if_neg (by omega)]; exact ⟨_, rfl, Int.tmod_nonneg _ h, Int.tmod_lt_of_pos _ (by omega)⟩
theorem iquo_tot {a b : Int} (h : 0 ≤ a) (ha : a < 4611686018427387904) (hb : 1 ≤ b) : Tot (iquo a b) fun r => 0 ≤ r ∧ r ≤ a := by
  have h1 : 0 ≤ a.tdiv b := Int.tdiv_nonneg h (by omega)
  have h2 : a.tdiv b ≤ a := Int.tdiv_le_self _ h
  simp only [iquo]; rw [if_neg (by omega), wrap_id (by omega) (by omega)]; exact ⟨_, rfl, h1, h2⟩
theorem bits_xor {a b : Int} (ha : 0 ≤ a) (ha2 : a < 4611686018427387904) (hb : 0 ≤ b) (hb2 : b < 4611686018427387904) : 0 ≤ bits .xor .i64 a b ∧ bits .xor .i64 a b < 4611686018427387904 := by
  obtain ⟨x, rfl⟩ := Int.eq_ofNat_of_zero_le ha
  obtain ⟨y, rfl⟩ := Int.eq_ofNat_of_zero_le hb
  have := i64_xor x y (by omega) (by omega)
  rw [this.1]
  omega
end Go.Proofs.Shadow
