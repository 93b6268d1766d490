/- FnMeaningOfSaid holds: for every input the law returns true, and its arguments read afterwards as before. No condition. -/
import Derived.Test.YtiiamkelehfnoaaGreatFctme
import Derived.Test.YtiiamkelehfnoaaGreatUa
import Derived.Test.YtiiamkelehfnoaaGreatmeW2
import Derived.Test.YtiiamkelehfnoaaGreatFmA
import Derived.Test.YtiiamkelehfnoaaGreatFmH
import Derived.Test.YtiiamkelehfnoaaGreatRows
import Derived.OpenShut
import Derived.ShutString
set_option maxRecDepth 100000
namespace Go.Proofs.YtiiamkelehfnoaaGreat
open Go Go.Proofs Go.Proofs.Shadow
open Go.ChangeShapes Go.WideShapes Go.ChangeAt Go.RowKit
theorem own : ownKnob Tryz.prog.godebug = none := by kernel_rfl
theorem laidOut : laidOutB Tryz.prog = true := by kernel_rfl
theorem u8_range {n : Int} (h : (Lit.int .u8 n).wf = true) : 0 ≤ n ∧ n < 256 := by
 have h1 : IntKind.u8.min = 0 := rfl
 have h2 : IntKind.u8.max = 255 := rfl
 simp [Lit.wf] at h
 omega
theorem lifted (os : Os) (started : os.Started) (H : Type) (enc : TypeId × Value → H) :
  ReturnsInHanded {} Tryz.checked os 5 .any (Rows.fnMeaningOfSpec.pre6 enc Tryz.prog Tryz.f5 Rows.fnMeaningOfRow.domain false) (Rows.fnMeaningOfSpec.post enc Tryz.prog Tryz.f5 false true false false) := by
 refine returnsInHanded_of_change_sized (C := Tryz.checked) own started (by kernel_rfl) Tryz.func5
  (ChangeSpec.witness6 (enc := enc) (C := Tryz.checked) false ⟨#[], #[.slice none 0 0], []⟩ 8 (by kernel_rfl) (by kernel_rfl) (by kernel_rfl) (by kernel_rfl)) ?_
 intro W base args ds gs before hval0 hW hcnd hsz0 _
 have hval : ∀ (j : Nat) t v, Tryz.f5.params[j]? = some t → args[j]? = some v → Value.okWide Tryz.prog W .any base t v := hval0
 have hsz : (DataW.weightsEach Tryz.prog (Tryz.f5.params.toList ++ Rows.fnMeaningOfSpec.plain.varTypes Tryz.prog) (ds ++ gs)).all (· ≤ reachBytes) = true := hsz0
 have hW' := hW
 obtain ⟨p, q, hA0, hV, rfl, hfz, hnd⟩ := hW
 have hA : DataW.TrodAll enc Tryz.prog W 0 (fun _ => true) true Tryz.f5.params.toList args.toList ds p := hA0
 rw [Tryz.params5] at hA hval hsz
 obtain ⟨v0, vs0, d0, ds0, p0, q0, ha0, rfl, rfl, t0, r0⟩ := trodAll_cons hA
 obtain ⟨rfl, rfl, rfl⟩ := trodAll_nil r0
 obtain rfl : args = #[v0] := by cases args; simp_all
 obtain ⟨rfl, rfl⟩ := trodVars_none hV
 have lt0 : ∀ x ∈ p0, x.block < W.heap.size := by obtain ⟨m, hm⟩ := t0; exact DataW.trod_lt m _ _ _ hm
 obtain ⟨x0, b0, h0, hf0⟩ := PO (k := 1) (e := 5) (cells := cU) (Q := fun n => (Lit.int .u8 n).wf = true) (by omega) (by kernel_rfl) (fun n => A8 Tryz.underlying5 n) (hval 0 22 v0 rfl rfl) t0 hsz (j := 0) rfl rfl
 clear hA0 hval0
 refine ((SA.FN x0 true (SA.PN fun x h => u8_range (h0 x h))).Qtf (Tb.none (by kernel_rfl)) (vs := [v0]) rfl (fun i a ha => ?_)).mono fun e W' ⟨he, bel⟩ => ?_
 ·match i, ha with
  | 0, ha => simp at ha; subst ha; exact hf0
  | i + 1, ha => simp at ha
 subst he
 exact ⟨_, rfl, _, _, _, [], _, [], hW', trodAll_mk1 (shut_bool Tryz.underlying4 _), (trodAll_cons_mk (Below.trod laidOut (by kernel_rfl) (of_decide_eq_true (by kernel_rfl)) t0 bel lt0) trodAll_mk0), rfl, bel.frame _, fun h => by cases h⟩
theorem over : Rows.fnMeaningOfRow.holds Tryz.pinned (OpenSpec.ofChange Rows.fnMeaningOfSpec) :=
 OpenClaim.holds_of_wide 5 Tryz.f5 rfl rfl rfl rfl rfl rfl rfl ⟨rfl, rfl, rfl, rfl, rfl⟩ rfl rfl rfl rfl rfl cfn Tryz.func5 closed
  (of_decide_eq_true (by kernel_rfl)) (by unfold Func.isWrapper; first | (rw [if_pos (by decide +kernel)]; kernel_rfl) | (rw [if_neg (by decide +kernel)]; exact ⟨rfl, rfl⟩))
  (fun os started H enc _ => lifted os started H enc)
theorem proved : Rows.FnMeaningOfSaid := over
end Go.Proofs.YtiiamkelehfnoaaGreat
