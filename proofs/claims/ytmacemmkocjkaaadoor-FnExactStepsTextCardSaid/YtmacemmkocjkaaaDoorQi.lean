/- StepsText: the program's and the reference's. -/
import Derived.Test.YtmacemmkocjkaaaDoorQh
import Derived.Test.YtmacemmkocjkaaaDoorQv
set_option linter.unusedVariables false
set_option linter.unusedSimpArgs false
set_option maxRecDepth 100000
open Go Go.Proofs Go.Proofs.Shadow
namespace Go.Proofs.Shadow
theorem app_loop {α β : Type} (F : List β → Nat → List α → Option (List β)) (T : α → β) (hn : ∀ z i, F z i [] = some z) : ∀ (l : List α) (z : List β) (i : Nat), (∀ x ∈ l, ∀ z i r, z.length ≤ 1073741824 → F z i (x :: r) = F (z ++ [T x]) (i + 1) r) → z.length + l.length ≤ 1073741824 → F z i l = some (z ++ l.map T) := by
  intro l
  induction l with
  | nil => intro z i _ _; rw [hn]; simp
  | cons x l ih =>
    intro z i hc hz
    simp only [List.length_cons] at hz
    rw [hc x (List.mem_cons_self ..) z i l (by omega), ih _ _ (fun y hy => hc y (List.mem_cons_of_mem _ hy)) (by simp; omega), List.map_cons, List.append_assoc]; rfl
mutual
def Fm.strip : Fm → Fm
  | .mk k s n _ ks => .mk k s n [] (Fm.stripL ks)
def Fm.stripL : List Fm → List Fm
  | [] => []
  | f :: fs => f.strip :: Fm.stripL fs
end
theorem Fm.stripL_eq : ∀ l, Fm.stripL l = l.map Fm.strip
  | [] => rfl
  | f :: fs => by rw [Fm.stripL, Fm.stripL_eq fs]; rfl
theorem Fm.strip_eq (f : Fm) : f.strip = .mk f.kind f.name f.num [] (f.kids.map Fm.strip) := by cases f; rw [Fm.strip, Fm.stripL_eq]; rfl
theorem sumL_map {α β : Type} (g : β → Nat) (h : α → β) : ∀ l : List α, sumL g (l.map h) = sumL (fun x => g (h x)) l
  | [] => rfl
  | x :: l => by rw [List.map_cons, sumL, sumL, sumL_map g h l]
theorem Fm.strip_sz (f : Fm) : f.strip.sz ≤ f.sz := by
  induction f using Fm.ind with
  | h f ih =>
    rw [Fm.sz_eq, Fm.sz_eq f, Fm.strip_eq]
    have := sumL_mono (fun x => Fm.sz (Fm.strip x)) Fm.sz f.kids ih
    simp only [Fm.name, Fm.sc, Fm.kids, sumL_map, List.length_map, List.length_nil] at this ⊢
    omega
/-- The text of a form without scopes, d deep. -/
def FT : Nat → Fm → List UInt8
  | 0, _ => []
  | d + 1, f => if f.kind = 2 then Lib.itoa f.num else if f.kind = 1 then f.name.data.toList else [40] ++ Lib.join (f.kids.map (FT d)) [32] ++ [41]
end Go.Proofs.Shadow
namespace Go.Proofs.SA
theorem FT_len : ∀ (d : Nat) (f : Fm), FIs d f → (FT d f).length ≤ 30 + 31 * f.sz := by
  intro d
  induction d with
  | zero => intro f h; exact h.elim
  | succ d ih =>
    intro f hf
    have hz := Fm.sz_eq f
    rw [FT]
    rcases hf with h | h | h
    · rw [if_neg (by omega), if_pos h.1]
      have : f.name.data.toList.length = f.name.size := rfl
      omega
    · rw [if_pos h.1]
      have := itoa_len (n := f.num) (by omega) (by omega)
      omega
    · rw [if_neg (by omega), if_neg (by omega)]
      have h1 := lens_sum (FT d) Fm.sz f.kids (fun x hx => ih x (h.2.2.2.2 x hx))
      have h2 := join_le (f.kids.map (FT d)) [32]
      simp only [List.length_append, List.length_cons, List.length_nil, List.length_map] at h2 ⊢
      omega
theorem specStrip_eq : ∀ f : Fm, f.sz ≤ 1048576 → spec_StripForm f = some f.strip := by
  intro f
  induction f using Fm.ind with
  | h f ih =>
    intro hf
    have hz := Fm.sz_eq f
    rw [spec_StripForm, spec_StripForm_l0L0 _ _ (by omega), app_loop (spec_StripForm_l0L f) Fm.strip (fun _ _ => rfl) f.kids [] 0 (fun x hx z i r hzb => by
      have := Fm.sz_kid hx
      rw [spec_StripForm_l0L, psome, bsome, ih x hx (by omega), bsome, lcat_ok (by simp; omega), bsome]) (by simp; omega), bsome, psome, Fm.strip_eq, List.nil_append]
theorem implStrip_eq : ∀ f : Fm, f.sz ≤ 1048576 → impl_StripForm f = some f.strip := by
  intro f
  induction f using Fm.ind with
  | h f ih =>
    intro hf
    have hz := Fm.sz_eq f
    rw [impl_StripForm, impl_StripForm_l0L0 _ _ (by omega), app_loop (impl_StripForm_l0L f) Fm.strip (fun _ _ => rfl) f.kids [] 0 (fun x hx z i r hzb => by
      have := Fm.sz_kid hx
      rw [impl_StripForm_l0L, psome, bsome, ih x hx (by omega), bsome, lcat_ok (by simp; omega), bsome]) (by simp; omega), bsome, psome, Fm.strip_eq, List.nil_append]
theorem strip_kid {g x : Fm} (h : x ∈ g.strip.kids) : ∃ y : Fm, x = y.strip := by
  rw [Fm.strip_eq] at h
  obtain ⟨y, _, e⟩ := List.mem_map.1 h
  exact ⟨y, e.symm⟩
theorem specFText_eq : ∀ (d : Nat) (g : Fm), FIs d g.strip → g.strip.sz ≤ 1048576 → spec_l1Text g.strip = some (bs (FT d g.strip)) := by
  intro d
  induction d with
  | zero => intro g h; exact h.elim
  | succ d ih =>
    intro g hf hs
    have hz := Fm.sz_eq g.strip
    have hsc : g.strip.sc = [] := by rw [Fm.strip_eq]; rfl
    have hkid := fun x => @strip_kid g x
    generalize g.strip = f at hf hs hz hsc hkid
    rw [spec_l1Text, FT]
    rcases hf with h | h | h
    · rw [if_neg (show ¬ f.kind = 2 by omega), if_neg (show ¬ f.kind = 2 by omega), if_pos h.1, if_pos h.1, spec_l1Text_l0L0 _ _ (by omega), hsc, spec_l1Text_l0L, psome, bsome, if_neg (by simp), bs_data]; rfl
    · rw [if_pos h.1, if_pos h.1, dec_eq (by omega) (by omega)]; rfl
    · have hl := lens_sum (FT d) Fm.sz f.kids (fun x hx => FT_len d x (h.2.2.2.2 x hx))
      have hj := join_le (f.kids.map (FT d)) [32]
      simp only [List.length_append, List.length_cons, List.length_nil, List.length_map] at hj
      rw [if_neg (by omega), if_neg (by omega), if_neg (by omega), if_neg (by omega), spec_l1Text_l1L0 _ _ (by omega), show (ByteArray.mk #[40]) = bs [40] from rfl,
        sep_loop (spec_l1Text_l1L f) (FT d) [32] (fun _ _ => rfl) f.kids [40] 0 (fun x hx z i r hzb => by
          have hxs := sumL_mem Fm.sz _ _ hx
          obtain ⟨y, rfl⟩ := hkid x hx
          simp only [List.length_cons, List.length_nil] at hzb
          rw [spec_l1Text_l1L]
          by_cases hi : i = 0
          · subst hi
            rw [if_neg (by omega), if_pos rfl, psome, bsome, psome, bsome, ih y (h.2.2.2.2 _ hx) (by omega), bsome, scat_ok (by rw [bs_size, bs_size]; omega), bsome, bs_app]
          · rw [if_pos (by omega), if_neg hi, show (ByteArray.mk #[32]) = bs [32] from rfl, scat_ok (by rw [bs_size, bs_size]; simp; omega), bsome, psome, bsome, psome, bsome, ih y (h.2.2.2.2 _ hx) (by omega), bsome, bs_app, scat_ok (by rw [bs_size, bs_size]; simp; omega), bsome, bs_app, List.append_assoc]) (by simp only [List.length_cons, List.length_nil]; omega), bsome, if_pos rfl,
        show (ByteArray.mk #[41]) = bs [41] from rfl, scat_ok (by rw [bs_size, bs_size]; simp only [List.length_append, List.length_cons, List.length_nil]; omega), bsome, bs_app]
      rfl
theorem implFText_eq : ∀ (d : Nat) (g : Fm), FIs d g.strip → g.strip.sz ≤ 1048576 → impl_formText g.strip = some (bs (FT d g.strip)) := by
  intro d
  induction d with
  | zero => intro g h; exact h.elim
  | succ d ih =>
    intro g hf hs
    have hz := Fm.sz_eq g.strip
    have hsc : g.strip.sc = [] := by rw [Fm.strip_eq]; rfl
    have hkid := fun x => @strip_kid g x
    generalize g.strip = f at hf hs hz hsc hkid
    rw [impl_formText, FT]
    rcases hf with h | h | h
    · rw [if_pos h.1, if_neg (show ¬ f.kind = 2 by omega), if_pos h.1, if_pos (by rw [hsc]; rfl), bs_data]; rfl
    · rw [if_neg (by omega), if_pos h.1, if_pos h.1, strconv_Itoa, itoaF_eq (by omega) (by omega)]; rfl
    · have hl := lens_sum (FT d) Fm.sz f.kids (fun x hx => FT_len d x (h.2.2.2.2 x hx))
      have hj := join_le (f.kids.map (FT d)) [32]
      simp only [List.length_append, List.length_cons, List.length_nil, List.length_map] at hj
      rw [if_neg (by omega), if_neg (by omega), if_neg (by omega), if_neg (by omega), impl_formText_l1L0 _ _ (by omega),
        coll_loop (impl_formText_l1L f) (FT d) (fun _ _ => rfl) f.kids [] 0 (fun x hx z i r hzb => by
          have hxs := sumL_mem Fm.sz _ _ hx
          obtain ⟨y, rfl⟩ := hkid x hx
          rw [impl_formText_l1L, psome, bsome, ih y (h.2.2.2.2 _ hx) (by omega), bsome, lcat_ok (by simp; omega), bsome]) (by simp; omega), bsome,
        List.nil_append, strings_Join, show (ByteArray.mk #[32]) = bs [32] from rfl, joinF_eq (by omega) (by simp only [List.length_cons, List.length_nil]; omega), bsome,
        show (ByteArray.mk #[40]) = bs [40] from rfl, scat_ok (by rw [bs_size, bs_size]; simp only [List.length_cons, List.length_nil]; omega), bsome, bs_app,
        show (ByteArray.mk #[41]) = bs [41] from rfl, scat_ok (by rw [bs_size, bs_size]; simp only [List.length_append, List.length_cons, List.length_nil]; omega), bsome, bs_app]
      rfl
open Classical in
/-- The text of a form, stripped. -/
noncomputable def FF (f : Fm) : List UInt8 := if FV f.strip then FT 40 f.strip else []
theorem FF_len (f : Fm) : (FF f).length ≤ 30 + 31 * f.sz := by
  unfold FF
  split
  · rename_i h
    have := FT_len 40 _ h.1
    have := Fm.strip_sz f
    omega
  · simp
theorem specFF {f : Fm} (hf : f.sz ≤ 1048576) : spec_FormatForm f.strip = some (bs (FF f)) := by
  have hs := Fm.strip_sz f
  obtain ⟨b, hb, hv⟩ := fv_spec (f := f.strip) (by omega)
  rw [spec_FormatForm, hb, bsome, FF]
  cases b
  · rw [if_pos (show (!false) = true from rfl), if_neg (fun h => by cases hv.2 h)]; rfl
  · rw [if_neg (by decide), if_pos (hv.1 rfl), specFText_eq 40 f (hv.1 rfl).1 (by omega)]; rfl
theorem implFF {f : Fm} (hf : f.sz ≤ 1048576) : impl_FormatForm f.strip = some (bs (FF f)) := by
  have hs := Fm.strip_sz f
  obtain ⟨b, hb, hv⟩ := fv_impl (f := f.strip) (by omega)
  rw [impl_FormatForm, hb, bsome, FF]
  cases b
  · rw [if_pos (show (!false) = true from rfl), if_neg (fun h => by cases hv.2 h)]; rfl
  · rw [if_neg (by decide), if_pos (hv.1 rfl), implFText_eq 40 f (hv.1 rfl).1 (by omega)]; rfl
def stSz (s : Stp) : Nat := s.use.sz + s.res.sz
noncomputable def TT (s : Stp) : List UInt8 := FF s.use ++ [32, 45, 62, 32] ++ FF s.res ++ [10]
theorem TT_size (x : Stp) : (TT x).length = (FF x.use).length + 4 + (FF x.res).length + 1 := by unfold TT; simp only [List.length_append, List.length_cons, List.length_nil]
theorem stSz_eq (s : Stp) : stSz s = s.use.sz + s.res.sz := rfl
theorem TT_len (s : Stp) : (TT s).length ≤ 65 + 31 * stSz s := by
  have h1 := FF_len s.use
  have h2 := FF_len s.res
  unfold TT stSz
  simp only [List.length_append, List.length_cons, List.length_nil]
  omega
theorem TT_sum : ∀ l : List Stp, Lib.lens (l.map TT) ≤ 65 * l.length + 31 * sumL stSz l
  | [] => by simp [Lib.lens]
  | x :: l => by
    have h1 := TT_sum l
    have h2 := TT_len x
    simp only [Lib.lens, List.map_cons, List.sum_cons, List.length_cons, sumL] at h1 ⊢
    omega
theorem specSteps_eq (l : List Stp) (h : l.length + sumL stSz l ≤ 1048576) : spec_StepsText l = some (bs (Lib.join (l.map TT) [])) := by
  have hl := TT_sum l
  rw [spec_StepsText, spec_StepsText_l0L0 _ _ (by omega), show (ByteArray.mk #[]) = bs [] from rfl,
    sep_loop (spec_StepsText_l0L l) TT [] (fun _ _ => rfl) l [] 0 (fun x hx z i r hzb => by
      have hxs := sumL_mem stSz _ _ hx
      have := TT_size x
      have hst := stSz_eq x
      have e : (if i = 0 then TT x else [] ++ TT x) = TT x := by split <;> rfl
      simp only [List.length_nil] at hzb
      rw [spec_StepsText_l0L, e, psome, bsome, specStrip_eq _ (by omega), bsome, specFF (by omega), bsome, scat_ok (by rw [bs_size, bs_size]; omega), bsome, bs_app, show (ByteArray.mk #[32, 45, 62, 32]) = bs [32, 45, 62, 32] from rfl, scat_ok (by rw [bs_size, bs_size]; simp; omega), bsome, bs_app]
      rw [bsome]
      rw [specStrip_eq _ (by omega), bsome, specFF (by omega), bsome, scat_ok (by rw [bs_size, bs_size]; simp; omega), bsome, bs_app, show (ByteArray.mk #[10]) = bs [10] from rfl, scat_ok (by rw [bs_size, bs_size]; simp; omega), bsome, bs_app]
      simp only [TT, List.append_assoc]) (by simp; omega), bsome, psome, if_pos rfl, List.nil_append]
theorem implSteps_eq (l : List Stp) (h : l.length + sumL stSz l ≤ 1048576) : impl_StepsText l = some (bs (Lib.join (l.map TT) [])) := by
  have hl := TT_sum l
  rw [impl_StepsText, impl_StepsText_l0L0 _ _ (by omega), show (ByteArray.mk #[]) = bs [] from rfl,
    sep_loop (impl_StepsText_l0L l) TT [] (fun _ _ => rfl) l [] 0 (fun x hx z i r hzb => by
      have hxs := sumL_mem stSz _ _ hx
      have := TT_size x
      have hst := stSz_eq x
      have e : (if i = 0 then TT x else [] ++ TT x) = TT x := by split <;> rfl
      simp only [List.length_nil] at hzb
      rw [impl_StepsText_l0L, e, psome, bsome, implStrip_eq _ (by omega), bsome, implFF (by omega), bsome, show (ByteArray.mk #[32, 45, 62, 32]) = bs [32, 45, 62, 32] from rfl, scat_ok (by rw [bs_size, bs_size]; simp; omega), bsome, bs_app,
        implStrip_eq _ (by omega), bsome, implFF (by omega), bsome, scat_ok (by rw [bs_size, bs_size]; simp; omega), bsome, bs_app, show (ByteArray.mk #[10]) = bs [10] from rfl, scat_ok (by rw [bs_size, bs_size]; simp; omega), bsome, bs_app, scat_ok (by rw [bs_size, bs_size]; simp; omega), bsome, bs_app]
      simp only [TT, List.append_assoc]) (by simp; omega), bsome, psome, if_pos rfl, List.nil_append]
theorem szStep_eq {s : Stp} (h : s.Ok) {m : Int} (h0 : 0 ≤ m) (h1 : m ≤ 1099511627776) : laws_szStep s m = some (if (stSz s : Int) ≤ m then m - stSz s else -1) := by
  unfold stSz
  rw [laws_szStep, szForm_eq _ h.use _ h0 h1, bsome]
  by_cases c1 : (s.use.sz : Int) ≤ m
  rotate_left
  · rw [if_neg c1, if_pos (by omega), if_neg (by omega)]; rfl
  rw [if_pos c1, if_neg (by omega), szForm_eq _ h.res _ (by omega) (by omega), bsome]
  by_cases c2 : (s.res.sz : Int) ≤ m - s.use.sz
  · rw [if_pos c2, if_neg (by omega), if_pos (by omega), psome]; congr 1; omega
  · rw [if_neg c2, if_pos (by omega), if_neg (by omega)]; rfl
theorem exactSteps_true (l : List Stp) (h : ∀ x ∈ l, Stp.Ok x) (hl : l.length ≤ 140737488355328) : laws_FnExactStepsText l = some true := by
  rw [laws_FnExactStepsText, laws_szStepS, wsub (by omega) (by omega) (by omega) (by omega)]
  by_cases c1 : (1048576 : Int) - (l.length : Int) < 0
  · rw [if_pos c1]; rfl
  rw [if_neg c1, laws_szStepS_l0L0 _ _ (by omega), sz_loop (fun m i t => laws_szStepS_l0L l m i t) stSz (fun _ _ => rfl) _ _ _ (fun x hx m i r hm hm1 => by
    show laws_szStepS_l0L _ _ _ _ = _
    rw [laws_szStepS_l0L, psome, bsome, szStep_eq (h x hx) hm hm1, bsome]
    by_cases hd : (stSz x : Int) ≤ m
    · rw [if_pos hd, if_neg (by omega), if_pos hd]
    · rw [if_neg hd, if_pos (by omega), if_neg hd]; rfl) (by omega) (by omega), bsome]
  by_cases c2 : (sumL stSz l : Int) ≤ 1048576 - (l.length : Int)
  rotate_left
  · rw [if_neg c2]; rfl
  rw [if_pos c2]
  simp only [psome, bsome]
  rw [if_neg (by omega)]
  have ht : laws_toStepS l = some l := by
    rw [laws_toStepS, lmake_ok (by omega) (by omega), bsome, laws_toStepS_l0L0 _ _ (by omega),
      fill_loop (laws_toStepS_l0L l) id (fun _ _ => rfl) l _ 0 (fun z i x r hx hi => by
        obtain ⟨y, hy⟩ := idx_some hi
        have := sumL_mem stSz _ _ hx
        have hst := stSz_eq x
        rw [laws_toStepS_l0L, psome, bsome, laws_toStep, toForm_eq _ (Fm.fit_of_sz (by omega)), bsome, toForm_eq _ (Fm.fit_of_sz (by omega)), bsome, psome, bsome, hy, bsome, Int.toNat_natCast]; rfl) (by simp)]
    simp only [bsome, psome, List.take_zero, List.nil_append, List.map_id]
  have he : laws_eqStepS l l = some true := by
    rw [laws_eqStepS, if_pos rfl, laws_eqStepS_l0L0 _ _ (by omega), eq_loop (laws_eqStepS_l0L l l) l (fun _ => rfl) (fun i hi r => by
      have := sumL_mem stSz _ _ (List.getElem_mem hi)
      have hst := stSz_eq l[i]
      rw [laws_eqStepS_l0L, psome, bsome, idx_nat _ _ hi, bsome, laws_eqStep, if_pos rfl, if_pos rfl, if_pos rfl, eqForm_self _ (Fm.fit_of_sz (by omega)), bsome, eqForm_self _ (Fm.fit_of_sz (by omega)), bsome]; rfl)]
    rfl
  simp only [ht, he, bsome, specSteps_eq l (by omega), implSteps_eq l (by omega), if_true, Bool.not_true, Bool.false_eq_true, if_false]
end Go.Proofs.SA
