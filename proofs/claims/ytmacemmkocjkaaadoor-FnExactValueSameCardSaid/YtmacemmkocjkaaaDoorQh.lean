/- FormatValue, ValueSame: the program's and the reference's. -/
import Derived.Test.YtmacemmkocjkaaaDoorQg
set_option linter.unusedVariables false
set_option linter.unusedSimpArgs false
set_option maxRecDepth 100000
open Go Go.Proofs Go.Proofs.Shadow
namespace Go.Proofs.Shadow
theorem sep_loop {α : Type} (F : ByteArray → Nat → List α → Option ByteArray) (T : α → List UInt8) (sep : List UInt8) (hn : ∀ z i, F z i [] = some z) : ∀ (l : List α) (z : List UInt8) (i : Nat), (∀ x ∈ l, ∀ (z : List UInt8) i r, z.length + sep.length + (T x).length ≤ 4611686018427387904 → F (bs z) i (x :: r) = F (bs (z ++ (if i = 0 then T x else sep ++ T x))) (i + 1) r) → z.length + Lib.lens (l.map T) + sep.length * l.length ≤ 4611686018427387904 → F (bs z) i l = some (bs (z ++ (if i = 0 then Lib.join (l.map T) sep else Lib.joinTail sep (l.map T)))) := by
  intro l
  induction l with
  | nil =>
    intro z i _ _
    rw [hn]
    simp [Lib.join, Lib.joinTail, List.intercalate]
  | cons x l ih =>
    intro z i hc hz
    simp only [List.map_cons, Lib.lens, List.sum_cons, List.length_cons, Nat.mul_succ] at hz
    rw [hc x (List.mem_cons_self ..) z i l (by omega), ih _ _ (fun y hy => hc y (List.mem_cons_of_mem _ hy)) (by
      simp only [Lib.lens, List.length_append]
      by_cases h : i = 0
      · rw [if_pos h]; omega
      · rw [if_neg h, List.length_append]; omega)]
    rw [if_neg (Nat.succ_ne_zero i), List.map_cons]
    by_cases h : i = 0
    · rw [if_pos h, if_pos h, Lib.join_cons, List.append_assoc]
    · rw [if_neg h, if_neg h]; simp [Lib.joinTail, List.append_assoc]
theorem coll_loop {α : Type} (F : List ByteArray → Nat → List α → Option (List ByteArray)) (T : α → List UInt8) (hn : ∀ z i, F z i [] = some z) : ∀ (l : List α) (z : List ByteArray) (i : Nat), (∀ x ∈ l, ∀ z i r, z.length ≤ 1099511627776 → F z i (x :: r) = F (z ++ [bs (T x)]) (i + 1) r) → z.length + l.length ≤ 1099511627776 → F z i l = some (z ++ l.map fun x => bs (T x)) := by
  intro l
  induction l with
  | nil => intro z i _ _; rw [hn]; simp
  | cons x l ih =>
    intro z i hc hz
    simp only [List.length_cons] at hz
    rw [hc x (List.mem_cons_self ..) z i l (by omega), ih _ _ (fun y hy => hc y (List.mem_cons_of_mem _ hy)) (by simp; omega), List.map_cons, List.append_assoc]; rfl
theorem join_le (l : List (List UInt8)) (s : List UInt8) : (Lib.join l s).length ≤ Lib.lens l + s.length * l.length := by
  cases l with
  | nil => simp [Lib.join_nil]
  | cons x r => rw [Lib.join_length, List.length_cons, Nat.mul_succ]; omega
theorem joinF_eq {α : Type} {T : α → List UInt8} {l : List α} {s : List UInt8} (h : l.length ≤ 140737488355328) (h1 : Lib.lens (l.map T) + s.length * l.length ≤ 140737488355328) : joinF (l.map fun x => bs (T x)) (bs s) = some (bs (Lib.join (l.map T) s)) := by
  have := join_le (l.map T) s
  rw [List.length_map] at this
  unfold joinF
  rw [List.map_map, show ((fun x : ByteArray => x.data.toList) ∘ fun x => bs (T x)) = T from rfl, List.length_map, if_pos ⟨h, by show (Lib.join (l.map T) s).length ≤ _; omega⟩]
  rfl
/-- The text of a value, d deep. -/
def VT : Nat → Val → List UInt8
  | 0, _ => [46, 46]
  | d + 1, v => if v.kind = 1 then Lib.itoa v.num else if v.kind = 2 ∨ v.kind = 5 then v.name.data.toList else if v.kind = 4 then [35, 102, 117, 110] ++ Lib.itoa (v.fn.ids.length : Int) else if v.kind = 3 then [40] ++ Lib.join (v.items.map (VT d)) [32] ++ [41] else [63]
theorem lens_sum {α : Type} (T : α → List UInt8) (g : α → Nat) : ∀ l : List α, (∀ x ∈ l, (T x).length ≤ 30 + 31 * g x) → Lib.lens (l.map T) ≤ 30 * l.length + 31 * sumL g l
  | [], _ => by simp [Lib.lens]
  | x :: l, h => by
    have h1 := lens_sum T g l (fun y hy => h y (List.mem_cons_of_mem _ hy))
    have h2 := h x (List.mem_cons_self ..)
    simp only [Lib.lens, List.map_cons, List.sum_cons, List.length_cons, sumL] at h1 ⊢
    omega
theorem VT_len : ∀ (d : Nat) (v : Val), v.Ok → (VT d v).length ≤ 30 + 31 * v.sz := by
  intro d
  induction d with
  | zero => intro v _; simp [VT]; omega
  | succ d ih =>
    intro v hv
    obtain ⟨g0, g1, g2, g3, g4, g5, g6⟩ := hv.out
    obtain ⟨k1, k2, k3, k4, k5⟩ := g3.out
    have hz := Val.sz_eq v
    rw [VT]
    split
    · have := itoa_len g0.1 g0.2; omega
    split
    · have : v.name.data.toList.length = v.name.size := rfl
      omega
    split
    · have := itoa_len (n := (v.fn.ids.length : Int)) (by omega) (by omega); simp only [List.length_append, List.length_cons, List.length_nil]; omega
    split
    · have h1 := lens_sum (VT d) Val.sz v.items (fun x hx => ih x (g5 x hx))
      have h2 := join_le (v.items.map (VT d)) [32]
      simp only [List.length_append, List.length_cons, List.length_nil, List.length_map] at h2 ⊢
      omega
    · simp; omega
end Go.Proofs.Shadow
namespace Go.Proofs.SA
theorem specText_eq : ∀ (d : Nat) (v : Val), d ≤ 40 → v.Ok → v.sz ≤ 1048576 → spec_l8Text v (d : Int) = some (bs (VT d v)) := by
  intro d
  induction d with
  | zero => intro v _ _ _; rw [spec_l8Text]; rfl
  | succ d ih =>
    intro v hd hv hs
    obtain ⟨g0, g1, g2, g3, g4, g5, g6⟩ := hv.out
    obtain ⟨k1, k2, k3, k4, k5⟩ := g3.out
    have hz := Val.sz_eq v
    rw [spec_l8Text, VT, if_neg (by omega)]
    by_cases h1 : v.kind = 1
    · rw [if_pos h1, if_pos h1, dec_eq g0.1 g0.2]; rfl
    rw [if_neg h1, if_neg h1]
    by_cases h2 : v.kind = 2 ∨ v.kind = 5
    · rw [if_pos h2, bs_data]
      rcases h2 with h2 | h2
      · simp [h2, psome]
      · simp [h2, psome]
    obtain ⟨h3, h5⟩ := not_or.1 h2
    rw [if_neg h2]
    simp only [h3, h5, if_false, psome, bsome, decide_false, Bool.false_eq_true]
    by_cases h4 : v.kind = 4
    · have := itoa_len (n := (v.fn.ids.length : Int)) (by omega) (by omega)
      rw [if_pos h4, if_pos h4, dec_eq (by omega) (by omega), bsome, show (ByteArray.mk #[35, 102, 117, 110]) = bs [35, 102, 117, 110] from rfl, scat_ok (by rw [bs_size, bs_size]; simp; omega), bsome, bs_app]
    rw [if_neg h4, if_neg h4]
    by_cases h6 : v.kind = 3
    rotate_left
    · rw [if_neg h6, if_neg h6]; rfl
    have hl := lens_sum (VT d) Val.sz v.items (fun x hx => VT_len d x (g5 x hx))
    have hj := join_le (v.items.map (VT d)) [32]
    simp only [List.length_append, List.length_cons, List.length_nil, List.length_map] at hj
    rw [if_pos h6, if_pos h6, spec_l8Text_l0L0 _ _ _ (by omega), show (ByteArray.mk #[40]) = bs [40] from rfl,
      sep_loop (spec_l8Text_l0L v ((d + 1 : Nat) : Int)) (VT d) [32] (fun _ _ => rfl) v.items [40] 0 (fun x hx z i r hzb => by
        have hxs := sumL_mem Val.sz _ _ hx
        simp only [List.length_cons, List.length_nil] at hzb
        rw [spec_l8Text_l0L, wrap_id (by omega) (by omega), show ((d + 1 : Nat) : Int) - 1 = (d : Int) by omega]
        by_cases hi : i = 0
        · subst hi
          rw [if_neg (by omega), if_pos rfl, psome, bsome, psome, bsome, ih x (by omega) (g5 x hx) (by omega), bsome, scat_ok (by rw [bs_size, bs_size]; omega), bsome, bs_app]
        · rw [if_pos (by omega), if_neg hi, show (ByteArray.mk #[32]) = bs [32] from rfl, scat_ok (by rw [bs_size, bs_size]; simp; omega), bsome, psome, bsome, psome, bsome, ih x (by omega) (g5 x hx) (by omega), bsome, bs_app, scat_ok (by rw [bs_size, bs_size]; simp; omega), bsome, bs_app, List.append_assoc]) (by simp only [List.length_cons, List.length_nil]; omega), bsome, if_pos rfl,
      show (ByteArray.mk #[41]) = bs [41] from rfl, scat_ok (by rw [bs_size, bs_size]; simp only [List.length_append, List.length_cons, List.length_nil]; omega), bsome, bs_app]
theorem implText_eq : ∀ (d : Nat) (v : Val), d ≤ 40 → v.Ok → v.sz ≤ 1048576 → impl_valueText v (40 - (d : Int)) = some (bs (VT d v)) := by
  intro d
  induction d with
  | zero => intro v _ _ _; rw [impl_valueText]; rfl
  | succ d ih =>
    intro v hd hv hs
    obtain ⟨g0, g1, g2, g3, g4, g5, g6⟩ := hv.out
    obtain ⟨k1, k2, k3, k4, k5⟩ := g3.out
    have hz := Val.sz_eq v
    rw [impl_valueText, VT, if_neg (by omega)]
    by_cases h1 : v.kind = 1
    · rw [if_pos h1, if_pos h1, strconv_Itoa, itoaF_eq g0.1 g0.2]; rfl
    rw [if_neg h1, if_neg h1]
    by_cases h2 : v.kind = 2 ∨ v.kind = 5
    · rw [if_pos h2, bs_data]
      rcases h2 with h2 | h2
      · simp [h2, psome]
      · simp [h2, psome]
    obtain ⟨h3, h5⟩ := not_or.1 h2
    rw [if_neg h2]
    simp only [h3, h5, if_false, psome, bsome, decide_false, Bool.false_eq_true]
    by_cases h4 : v.kind = 4
    · have := itoa_len (n := (v.fn.ids.length : Int)) (by omega) (by omega)
      rw [if_pos h4, if_pos h4, strconv_Itoa, itoaF_eq (by omega) (by omega), bsome, show (ByteArray.mk #[35, 102, 117, 110]) = bs [35, 102, 117, 110] from rfl, scat_ok (by rw [bs_size, bs_size]; simp; omega), bsome, bs_app]
    rw [if_neg h4, if_neg h4]
    by_cases h6 : v.kind = 3
    rotate_left
    · rw [if_neg h6, if_neg h6]; rfl
    have hl := lens_sum (VT d) Val.sz v.items (fun x hx => VT_len d x (g5 x hx))
    have hj := join_le (v.items.map (VT d)) [32]
    simp only [List.length_append, List.length_cons, List.length_nil, List.length_map] at hj
    rw [if_pos h6, if_pos h6, impl_valueText_l0L0 _ _ _ (by omega),
      coll_loop (impl_valueText_l0L v (40 - ((d + 1 : Nat) : Int))) (VT d) (fun _ _ => rfl) v.items [] 0 (fun x hx z i r hzb => by
        have hxs := sumL_mem Val.sz _ _ hx
        rw [impl_valueText_l0L, wrap_id (by omega) (by omega), show 40 - ((d + 1 : Nat) : Int) + 1 = 40 - (d : Int) by omega, psome, bsome, ih x (by omega) (g5 x hx) (by omega), bsome, lcat_ok (by simp; omega), bsome]) (by simp; omega), bsome,
      List.nil_append, strings_Join, show (ByteArray.mk #[32]) = bs [32] from rfl, joinF_eq (by omega) (by simp only [List.length_cons, List.length_nil]; omega), bsome,
      show (ByteArray.mk #[40]) = bs [40] from rfl, scat_ok (by rw [bs_size, bs_size]; simp only [List.length_cons, List.length_nil]; omega), bsome, bs_app,
      show (ByteArray.mk #[41]) = bs [41] from rfl, scat_ok (by rw [bs_size, bs_size]; simp only [List.length_append, List.length_cons, List.length_nil]; omega), bsome, bs_app]
theorem specFormat_eq (v : Val) (h : v.Ok) (hs : v.sz ≤ 1048576) : spec_FormatValue v = some (bs (VT 40 v)) := by
  rw [spec_FormatValue, show (40 : Int) = ((40 : Nat) : Int) from rfl, specText_eq 40 v (by omega) h hs]; rfl
theorem implFormat_eq (v : Val) (h : v.Ok) (hs : v.sz ≤ 1048576) : impl_FormatValue v = some (bs (VT 40 v)) := by
  rw [impl_FormatValue, show (0 : Int) = 40 - ((40 : Nat) : Int) from rfl, implText_eq 40 v (by omega) h hs]; rfl
theorem same_eq : ∀ v : Val, v.Ok → v.sz ≤ 1048576 → ∀ w : Val, w.Ok → w.sz ≤ 1048576 → ∃ b, spec_ValueSame v w = some b ∧ impl_ValueSame v w = some b := by
  intro v
  induction v using Val.ind with
  | h v ih _ =>
    intro hv hs w hw hws
    obtain ⟨g0, g1, g2, g3, g4, g5, g6⟩ := hv.out
    obtain ⟨q0, q1, q2, q3, q4, q5, q6⟩ := hw.out
    have hz := Val.sz_eq v
    have hzw := Val.sz_eq w
    have loop : v.items.length = w.items.length → ∀ (l : List Val) (i : Nat), v.items.drop i = l → ∃ o, spec_ValueSame_l0L v w i l = some o ∧ slices_EqualFunc_Value_Value_Value_Value__impl_ValueSame_l0L v.items w.items i l = some o ∧ (∀ b, o = .inl b → b = false) := by
      intro hlen l
      induction l with
      | nil => intro i _; exact ⟨.inr (), rfl, rfl, fun b hb => by cases hb⟩
      | cons x l ihl =>
        intro i hd
        have hi : i < v.items.length := by
          rcases Nat.lt_or_ge i v.items.length with h | h
          · exact h
          · rw [List.drop_of_length_le h] at hd; cases hd
        rw [List.drop_eq_getElem_cons hi] at hd
        injection hd with e1 e2
        have m1 : x ∈ v.items := e1 ▸ List.getElem_mem hi
        have m2 := List.getElem_mem (show i < w.items.length by omega)
        have s1 := sumL_mem Val.sz _ _ m1
        have s2 := sumL_mem Val.sz _ _ m2
        obtain ⟨b, hb1, hb2⟩ := ih x m1 (g5 x m1) (by omega) _ (q5 _ m2) (by omega)
        obtain ⟨o, ho1, ho2, ho3⟩ := ihl (i + 1) e2
        rw [spec_ValueSame_l0L, slices_EqualFunc_Value_Value_Value_Value__impl_ValueSame_l0L, idx_nat _ _ (by omega)]
        simp only [psome, bsome, hb1, hb2, ho1, ho2]
        cases b
        · exact ⟨.inl false, rfl, rfl, fun b hb => by injection hb with hb; exact hb.symm⟩
        · exact ⟨o, rfl, rfl, ho3⟩
    rw [spec_ValueSame, impl_ValueSame]
    by_cases h1 : v.kind = w.kind
    rotate_left
    · simp [h1, psome]
    by_cases h2 : v.num = w.num
    rotate_left
    · simp [h1, h2, psome]
    by_cases h3 : v.name = w.name
    rotate_left
    · simp [h1, h2, h3, psome]
    by_cases h4 : v.items.length = w.items.length
    rotate_left
    · have h5 : ¬ (v.items.length : Int) = (w.items.length : Int) := by omega
      rw [slices_EqualFunc_Value_Value_Value_Value__impl_ValueSame]
      simp [h1, h2, h3, h4, h5, psome]
    obtain ⟨o, ho1, ho2, ho3⟩ := loop h4 v.items 0 (List.drop_zero ..)
    rw [slices_EqualFunc_Value_Value_Value_Value__impl_ValueSame, slices_EqualFunc_Value_Value_Value_Value__impl_ValueSame_l0L0 _ _ (by omega), spec_ValueSame_l0L0 _ _ (by omega), ho1, ho2, specFormat_eq v hv hs, specFormat_eq w hw hws, implFormat_eq v hv hs, implFormat_eq w hw hws]
    have h5 : (v.items.length : Int) = (w.items.length : Int) := by omega
    simp only [h1, h2, h3, h5, psome, bsome, decide_true, Bool.not_true, Bool.or_false, Bool.and_true, Bool.false_eq_true, if_true, if_false]
    cases o with
    | inl b => obtain rfl := ho3 b rfl; exact ⟨false, rfl, rfl⟩
    | inr u => exact ⟨_, rfl, rfl⟩
theorem exactValueSame_true (v w : Val) (h : v.Ok) (hw : w.Ok) : laws_FnExactValueSame v w = some true := by
  rw [laws_FnExactValueSame, szValue_eq v h _ (by omega) (by omega), bsome]
  by_cases hs : (v.sz : Int) ≤ 1048576
  rotate_left
  · rw [if_neg hs, if_pos (by omega)]; rfl
  rw [if_pos hs, if_neg (by omega), szValue_eq w hw _ (by omega) (by omega), bsome]
  by_cases hws : (w.sz : Int) ≤ 1048576 - v.sz
  rotate_left
  · rw [if_neg hws, if_pos (by omega)]; rfl
  obtain ⟨b, hb1, hb2⟩ := same_eq v h (by omega) w hw (by omega)
  rw [if_pos hws, if_neg (by omega)]
  simp only [toValue_eq v (by omega), toValue_eq w (by omega), bsome, hb1, hb2, eqValue_self v (by omega), eqValue_self w (by omega)]
  cases b <;> rfl
end Go.Proofs.SA
