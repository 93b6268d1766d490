/- More steps for the walks: rows that are made and written, data handed back, closers. -/
import Derived.Test.YtmacemmkocjkaaaDoorFmA
set_option linter.unusedVariables false
set_option linter.unusedSimpArgs false
namespace Go.Proofs.Shadow
open Go Go.RowKit
section
variable {P : Program}
theorem aMake_intro {n sz by_ : Nat} {e : TypeId} {z : List AV} {k1 k2 : IntKind} {T : Nat → AV} {σ : Sto} {d : Tmp} {K : AS → Prop} (hn : n * by_ ≤ 140737488355328) (hn2 : n ≤ 140737488355328) (hz : z.length = sz)
    (h : ∀ b, σ.dead b → K ⟨upd T d (.ref b n n), σ.setOwn b ⟨e, n * sz, (List.replicate n z).flatten⟩⟩) : aMake (some (e, sz, by_)) (some z) (.int k1 (n : Int)) (.int k2 (n : Int)) ⟨T, σ⟩ (some d) K := by
  simp only [aMake, Int.toNat_natCast]
  exact ⟨trivial, by omega, by omega, by omega, hz, z, WkC.refl z, h⟩
theorem aidx_ref {σ : Sto} {e : TypeId} {sz by_ : Nat} {b l c i : Nat} {k : IntKind} (hi : i < l) : aidx σ (some (e, sz, by_)) (.ref b l c) (.int k (i : Int)) = some (.optr b (i * sz)) := by
  simp only [aidx, Int.toNat_natCast]
  rw [if_pos ⟨by omega, by omega⟩]
theorem alenT_ref (b n c : Nat) : alenT false (.ref b n c) = some (.int .i64 (n : Int)) := (rfl)
theorem set_rows {α : Type} {sz : Nat} (r : List α) (hr : r.length = sz) : ∀ (rows : List (List α)) (i : Nat), (∀ x ∈ rows, x.length = sz) → i < rows.length → rows.flatten.take (i * sz) ++ r ++ rows.flatten.drop (i * sz + r.length) = (rows.set i r).flatten
  | [], i, _, h => by simp at h
  | x :: rows, 0, hx, h => by
    have hl : x.length = sz := hx x (by simp)
    simp [hr, ← hl]
  | x :: rows, i + 1, hx, h => by
    have hl : x.length = sz := hx x (by simp)
    have ih := set_rows r hr rows i (fun y hy => hx y (by simp [hy])) (by simpa using h)
    simp only [List.flatten_cons, List.set_cons_succ, Nat.add_mul, Nat.one_mul]
    rw [← ih, Nat.add_comm (i * sz) sz, ← hl, List.take_length_add_append, Nat.add_assoc, List.drop_length_add_append]
    simp
theorem astore_own {σ : Sto} {ag : Bool} {k b i s : Nat} {e : TypeId} {rows : List (List AV)} {v : AV} {cs : List AV} (ho : σ.own b = some ⟨e, s, rows.flatten⟩) (hc : avCells v = some cs) (hl : cs.length = k) (hr : ∀ x ∈ rows, x.length = k) (hi : i < rows.length) :
    astore (some (ag, k)) σ (.optr b (i * k)) v = some (σ.setOwn b ⟨e, s, (rows.set i cs).flatten⟩) := by
  have hf := flatten_length rows hr
  have hle : i * k + k ≤ rows.length * k := by
    have : (i + 1) * k ≤ rows.length * k := Nat.mul_le_mul_right k hi
    rw [Nat.add_mul, Nat.one_mul] at this
    exact this
  simp only [astore, hc, ho, Option.bind_some]
  rw [if_pos hl, if_pos (by rw [hf]; exact hle), splice_eq, set_rows cs hl rows i hr hi]
theorem setOwn_setOwn (σ : Sto) (b : Nat) (e e' : Ent) : (σ.setOwn b e).setOwn b e' = σ.setOwn b e' := by
  simp only [Sto.setOwn]
  congr 1
  funext i
  split <;> rfl
theorem Sub.set_own {σ σ' : Sto} (h : Sub σ σ') {b : Nat} (hb : σ.dead b) (e : Ent) : Sub σ (σ'.setOwn b e) := h.setOwn hb.2 e
theorem Sub.set_var {σ σ' : Sto} (h : Sub σ σ') {b : Nat} (hb : σ.dead b) (e : Ent) : Sub σ (σ'.setVar b e) := h.setVar hb.1 e
theorem dead_setOwn {σ : Sto} {b b' : Nat} {e : Ent} (h : (σ.setOwn b e).dead b') : b' ≠ b ∧ σ.dead b' := by
  obtain ⟨h1, h2⟩ := h
  simp only [Sto.setOwn] at h1 h2
  split at h2
  · cases h2
  · rename_i hne; exact ⟨hne, h1, h2⟩
theorem dead_setVar {σ : Sto} {b b' : Nat} {e : Ent} (h : (σ.setVar b e).dead b') : b' ≠ b ∧ σ.dead b' := (dead_set σ b b' e).1 h
/-- Rows of ours, handed back as data. -/
theorem Wk.mine {σ0 σ : Sto} {e : TypeId} {sz : Nat} {v : AV} {xs : List (List AV)} (h : Mine σ0 σ e sz v xs) (hs : Sub σ0 σ) : Wk σ v σ0 (.sl false xs) := by
  obtain ⟨σ1, h1, h2, _, _, h5⟩ := h.freeze hs
  exact h5.trans (Wk.sub h1 _)
theorem Mine.made {σ0 σ : Sto} {e : TypeId} {sz b cap : Nat} {xs : List (List AV)} {n : Nat} (hn : xs.length = n) (hx : ∀ x ∈ xs, x.length = sz) (hb : σ0.dead b) (ho : σ.own b = some ⟨e, cap * sz, xs.flatten⟩) : Mine σ0 σ e sz (.ref b n cap) xs := by
  subst hn
  exact ⟨⟨hx, .inr (.inr ⟨b, cap, rfl, ho⟩)⟩, fun b' hb' => by cases hb'; exact hb.2⟩
/-- .. a pure value and a store with more in it. -/
theorem aRet_sub {rs : List ResultVar} {s : AS} {vs : List AV} {σ : Sto} {v : AV} (h : aresL P s rs = some vs) (hs : Sub σ s.σ) (hv : packed vs = v) : aRet P rs (fun r σ' => r = v ∧ σ' = σ) s := by
  subst hv
  exact ⟨vs, h, _, σ, Wk.sub hs _, rfl, rfl⟩
theorem aRet_wk {rs : List ResultVar} {s : AS} {vs : List AV} {σ : Sto} {v : AV} (h : aresL P s rs = some vs) (hw : Wk s.σ (packed vs) σ v) : aRet P rs (fun r σ' => r = v ∧ σ' = σ) s := ⟨vs, h, v, σ, hw, rfl, rfl⟩
theorem agree_upd {lo d e : Nat} {T T' : Nat → AV} {v : AV} (h : (decide (lo ≤ e) || e == d) = true) (k : ∀ i, i < lo → i ≠ d → T' i = T i) : ∀ i, i < lo → i ≠ d → upd T' e v i = T i := fun i h1 h2 => by
  simp only [upd]
  rw [if_neg (fun he => by
    subst he
    simp only [Bool.or_eq_true, decide_eq_true_eq, beq_iff_eq] at h
    rcases h with h | h
    · omega
    · exact h2 h)]
  exact k i h1 h2
theorem agree_low {lo lo' d : Nat} {T T' J : Nat → AV} (h : lo ≤ lo') (k : ∀ i, i < lo → i ≠ d → T' i = T i) : ∀ i, i < lo → i ≠ d → low lo' J T' i = T i := fun i h1 h2 => by
  simp only [low]
  rw [if_pos (by omega)]
  exact k i h1 h2
end
theorem Fm.ind {p : Fm → Prop} (h : ∀ f, (∀ g ∈ f.kids, p g) → p f) (f : Fm) : p f := by
  have : ∀ n (f : Fm), SizeOf.sizeOf f ≤ n → p f := by
    intro n
    induction n with
    | zero => intro f hf; cases f; simp at hf
    | succ n ih =>
      intro f hf
      refine h f (fun g hg => ih g ?_)
      cases f with
      | mk k s m sc ks =>
        have := List.sizeOf_lt_of_mem (show g ∈ ks from hg)
        simp at hf
        omega
  exact this _ f (Nat.le_refl _)
attribute [go_sem] alenT_ref setOwn_setOwn
end Go.Proofs.Shadow
