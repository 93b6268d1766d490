/- The law FnExactDataValue, told of plain functions: what it asks holds. -/
import Derived.Test.YtilkeeoinbndoaaMg
import Derived.Test.YtilkeeoinbndoaaQa
import Derived.Test.YtilkeeoinbndoaaQv
import Derived.Test.YtilkeeoinbndoaaQi
set_option linter.unusedVariables false
set_option linter.unusedSimpArgs false
set_option maxRecDepth 100000
open Go Go.Proofs Go.Proofs.Shadow
namespace Go.Proofs.SA
def dC : Cor := Cor.mk 0 0 (ByteArray.mk #[]) 0 [] (Fm.mk 0 (ByteArray.mk #[]) 0 [] []) []
mutual
/-- A form as data. -/
def datV : Fm → Val
  | .mk k s n _ ks => if k = 2 then .mk 1 n (ByteArray.mk #[]) [] dC [] else if k = 1 then .mk 2 0 s [] dC [] else .mk 3 0 (ByteArray.mk #[]) (datVL ks) dC []
def datVL : List Fm → List Val
  | [] => []
  | f :: fs => datV f :: datVL fs
end
theorem datVL_eq : ∀ l, datVL l = l.map datV
  | [] => rfl
  | f :: fs => by rw [datVL, datVL_eq fs]; rfl
theorem datV_eq (f : Fm) : datV f = if f.kind = 2 then .mk 1 f.num (ByteArray.mk #[]) [] dC [] else if f.kind = 1 then .mk 2 0 f.name [] dC [] else .mk 3 0 (ByteArray.mk #[]) (f.kids.map datV) dC [] := by cases f; rw [datV, datVL_eq]; rfl
theorem specDat_eq : ∀ f : Fm, f.sz ≤ 1100000 → spec_l8Data f = some (datV f) := by
  intro f
  induction f using Fm.ind with
  | h f ih =>
    intro hf
    have hz := Fm.sz_eq f
    rw [spec_l8Data, datV_eq]
    by_cases h2 : f.kind = 2
    · rw [if_pos h2, if_pos h2]; rfl
    · rw [if_neg h2, if_neg h2]
      by_cases h1 : f.kind = 1
      · rw [if_pos h1, if_pos h1]; rfl
      · rw [if_neg h1, if_neg h1, spec_l8Data_l0L0 _ _ (by omega), app_loop (spec_l8Data_l0L f) datV (fun _ _ => rfl) f.kids [] 0 (fun x hx z i r hz => by
          have := Fm.sz_kid hx
          rw [spec_l8Data_l0L, psome, bsome, ih x hx (by omega), bsome, lcat_ok (by simp; omega), bsome]) (by simp; omega)]
        rfl
theorem implDat_eq : ∀ f : Fm, f.sz ≤ 1100000 → impl_dataValue f = some (datV f) := by
  intro f
  induction f using Fm.ind with
  | h f ih =>
    intro hf
    have hz := Fm.sz_eq f
    rw [impl_dataValue, datV_eq]
    by_cases h2 : f.kind = 2
    · rw [if_pos h2, if_pos h2]; rfl
    · rw [if_neg h2, if_neg h2]
      by_cases h1 : f.kind = 1
      · rw [if_pos h1, if_pos h1]; rfl
      · rw [if_neg h1, if_neg h1, impl_dataValue_l0L0 _ _ (by omega), app_loop (impl_dataValue_l0L f) datV (fun _ _ => rfl) f.kids [] 0 (fun x hx z i r hz => by
          have := Fm.sz_kid hx
          rw [impl_dataValue_l0L, psome, bsome, ih x hx (by omega), bsome, lcat_ok (by simp; omega), bsome]) (by simp; omega)]
        rfl
theorem dC_sz : dC.sz = 0 := by decide
theorem vsz_mk (k n : Int) (s : ByteArray) (l : List Val) : (Val.mk k n s l dC []).sz = s.size + l.length + sumL Val.sz l := by
  have := Val.sz_eq (Val.mk k n s l dC [])
  simp only [Val.name, Val.items, Val.fn, Val.env, List.length_nil, sumL, dC_sz] at this
  omega
theorem datV_sz : ∀ f : Fm, (datV f).sz ≤ f.sz := by
  intro f
  induction f using Fm.ind with
  | h f ih =>
    have hz := Fm.sz_eq f
    rw [datV_eq]
    by_cases h2 : f.kind = 2
    · rw [if_pos h2, vsz_mk]; simp [sumL, ByteArray.size]
    · rw [if_neg h2]
      by_cases h1 : f.kind = 1
      · rw [if_pos h1, vsz_mk]; simp [sumL]; omega
      · rw [if_neg h1, vsz_mk, List.length_map]
        have : ∀ l : List Fm, (∀ g ∈ l, (datV g).sz ≤ g.sz) → sumL Val.sz (l.map datV) ≤ sumL Fm.sz l := by
          intro l
          induction l with
          | nil => intro _; simp [sumL]
          | cons x l ihl => intro h; rw [List.map_cons, sumL, sumL]; have := h x (List.mem_cons_self ..); have := ihl fun g hg => h g (List.mem_cons_of_mem _ hg); omega
        have := this f.kids ih
        have h0 : (ByteArray.mk #[]).size = 0 := rfl
        omega
theorem Thin.dat (k n : Int) (s : ByteArray) (l : List Val) (h : ∀ x ∈ l, Thin x) : Thin (.mk k n s l dC []) := .mk h
theorem datV_thin : ∀ f : Fm, Thin (datV f) := by
  intro f
  induction f using Fm.ind with
  | h f ih =>
    rw [datV_eq]
    by_cases h2 : f.kind = 2
    · rw [if_pos h2]; exact Thin.dat _ _ _ _ (fun x h => by cases h)
    · rw [if_neg h2]
      by_cases h1 : f.kind = 1
      · rw [if_pos h1]; exact Thin.dat _ _ _ _ (fun x h => by cases h)
      · rw [if_neg h1]
        refine Thin.dat _ _ _ _ fun x h => ?_
        obtain ⟨y, hy, rfl⟩ := List.mem_map.1 h
        exact ih y hy
/-- What both sides give. -/
noncomputable def dvR (f : Fm) : Val × Bool := @ite _ (FV f) (Classical.propDecidable _) (datV f, true) (.mk 0 0 (ByteArray.mk #[]) [] dC [], false)
theorem dv_spec {f : Fm} (hf : f.sz ≤ 1100000) : spec_DataValue f = some (dvR f) := by
  obtain ⟨b, e, hb⟩ := fv_spec (f := f) (by omega)
  rw [spec_DataValue, e, bsome, specDat_eq f hf]
  unfold dvR
  cases b
  · have : ¬ FV f := fun h => by have := hb.2 h; cases this
    rw [if_neg this]; rfl
  · rw [if_pos (hb.1 rfl)]; rfl
theorem dv_impl {f : Fm} (hf : f.sz ≤ 1100000) : impl_DataValue f = some (dvR f) := by
  obtain ⟨b, e, hb⟩ := fv_impl (f := f) (by omega)
  rw [impl_DataValue, e, bsome, implDat_eq f hf]
  unfold dvR
  cases b
  · have : ¬ FV f := fun h => by have := hb.2 h; cases this
    rw [if_neg this]; rfl
  · rw [if_pos (hb.1 rfl)]; rfl
theorem dvR_thin (f : Fm) : Thin (dvR f).1 := by
  by_cases h : FV f
  · unfold dvR; rw [if_pos h]; exact datV_thin f
  · unfold dvR; rw [if_neg h]; exact Thin.dat _ _ _ _ (fun x h => by cases h)
theorem dvR_sz (f : Fm) : (dvR f).1.sz ≤ f.sz := by
  by_cases h : FV f
  · unfold dvR; rw [if_pos h]; exact datV_sz f
  · unfold dvR; rw [if_neg h]; show (Val.mk 0 0 (ByteArray.mk #[]) [] dC []).sz ≤ _; rw [vsz_mk]; simp [sumL, ByteArray.size]
/-- What the law's ways come to. -/
structure DVok (f : Fm) : Prop where
  sz : ∃ left, laws_szForm f 1048576 = some left ∧ (¬ left < 0 → ∃ w r s, laws_toForm f = some f ∧ spec_DataValue f = some w ∧ impl_DataValue f = some w ∧ laws_eqValue w.1 w.1 = some true ∧ laws_eqForm f f = some true ∧ markF f 1 = some r ∧ 0 ≤ r.2 ∧ markV w.1 1 = some s ∧ laws_heldValue (remark w.1 s.1) 1 = some s.2 ∧ 0 ≤ s.2 ∧ Thin w.1 ∧ f.sz ≤ 1048576 ∧ f.nodes ≤ 1048577 ∧ w.1.sz ≤ 1048576)
theorem dvOk (f : Fm) (hf : f.Ok) : DVok f := by
  refine ⟨⟨_, szForm_eq f hf 1048576 (by omega) (by omega), fun h => ?_⟩⟩
  have hz : f.sz ≤ 1048576 := by
    by_cases hc : (f.sz : Int) ≤ 1048576
    · omega
    · rw [if_neg hc] at h; omega
  have hn := Fm.nodes_le f
  have hw := dvR_sz f
  have bound : ∀ g : Fm, g.sz ≤ 100000000 → ∀ k : Int, 0 ≤ k → k ≤ 1 → MarkOk g k := fun g hg k h0 h1 => by
    have := mks_eq g
    have := Fm.nodes_le g
    refine markF_ok g (by omega) k h0 ?_
    unfold mks at *
    omega
  obtain ⟨r, r1, r2, r3⟩ := heldForm_of (by omega) (bound f (by omega) 1 (by omega) (by omega))
  obtain ⟨s, s1, s2, s3⟩ := heldValue_of (dvR_thin f) (k := 1) (by omega) (markV_ok (dvR f).1 (by omega) 1 (by omega) (by omega))
  exact ⟨dvR f, r, s, toForm_eq f (Fm.fit_of_sz (by omega)), dv_spec (by omega), dv_impl (by omega), eqValue_self _ (by omega), eqForm_self _ (Fm.fit_of_sz (by omega)), r1, r2, s1, s3, s2, dvR_thin f, hz, by omega, by omega⟩
end Go.Proofs.SA

