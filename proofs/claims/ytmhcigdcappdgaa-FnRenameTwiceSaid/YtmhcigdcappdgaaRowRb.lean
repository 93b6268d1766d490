/- FnRenameName and FnRenameTwice hold: for every input the law returns true, and its argument reads afterwards as before. No condition. -/
import Derived.Test.YtmhcigdcappdgaaPl
import Derived.Test.YtmhcigdcappdgaaRnW2
import Derived.Test.YtmhcigdcappdgaaFmE
import Derived.Test.YtmhcigdcappdgaaRows
import Derived.OpenShut
import Derived.ShutString
set_option linter.unusedVariables false
namespace Go.Proofs.Ytmhcigdcappdgaa
open Go Go.Proofs Go.Proofs.Shadow
open Go.ChangeShapes Go.WideShapes Go.ChangeAt Go.RowKit
theorem own : ownKnob Try.prog.godebug = none := by kernel_rfl
theorem laidOut : laidOutB Try.prog = true := by kernel_rfl
theorem u8_range {n : Int} (h : (Lit.int .u8 n).wf = true) : 0 ≤ n ∧ n < 256 := by
  have h1 : IntKind.u8.min = 0 := rfl
  have h2 : IntKind.u8.max = 255 := rfl
  simp [Lit.wf] at h
  omega
theorem lifted (os : Os) (started : os.Started) (H : Type) (enc : TypeId × Value → H) :
    ReturnsInHanded {} Try.checked os 4 .any (Rows.fnRenameTwiceSpec.pre6 enc Try.prog Try.f4 Rows.fnRenameTwiceRow.domain false) (Rows.fnRenameTwiceSpec.post enc Try.prog Try.f4 false true false false) := by
  refine returnsInHanded_of_change_sized (C := Try.checked) own started (by kernel_rfl) Try.func4
    (ChangeSpec.witness6 (enc := enc) (C := Try.checked) false ⟨#[], #[.slice none 0 0], []⟩ 8 (by kernel_rfl) (by kernel_rfl) (by kernel_rfl) (by kernel_rfl)) ?_
  intro W base args ds gs before hval0 hW hcnd hsz0 _
  have hval : ∀ (j : Nat) t v, Try.f4.params[j]? = some t → args[j]? = some v → Value.okWide Try.prog W .any base t v := hval0
  have hsz : (DataW.weightsEach Try.prog (Try.f4.params.toList ++ Rows.fnRenameTwiceSpec.plain.varTypes Try.prog) (ds ++ gs)).all (· ≤ reachBytes) = true := hsz0
  have hW' := hW
  obtain ⟨p, q, hA0, hV, rfl, hfz, hnd⟩ := hW
  have hA : DataW.TrodAll enc Try.prog W 0 (fun _ => true) true Try.f4.params.toList args.toList ds p := hA0
  rw [Try.params4] at hA hval hsz
  obtain ⟨v0, vs0, d0, ds0, p0, q0, hargs, rfl, rfl, h0, r0⟩ := trodAll_cons hA
  obtain ⟨rfl, rfl, rfl⟩ := trodAll_nil r0
  obtain rfl : args = #[v0] := by cases args; simp_all
  obtain ⟨rfl, rfl⟩ := trodVars_none hV
  have lt0 : ∀ x ∈ p0, x.block < W.heap.size := by obtain ⟨m, hm⟩ := h0; exact DataW.trod_lt m _ _ _ hm
  obtain ⟨xs, _, hx, hf⟩ := open_slice_arg (k := 1) (e := 5) (cells := cU) (Q := fun n => (Lit.int .u8 n).wf = true) (by omega) (by kernel_rfl) (fun n => opn_int Try.underlying5 n) (hval 0 22 v0 rfl rfl) h0 hsz (j := 0) rfl rfl
  clear hA0 hval0
  refine ((SA.laws_FnRenameTwice_ok xs true (SA.fnRenameTwice_true fun x h => u8_range (hx x h))).door (vs := [v0]) rfl (fun i a ha => ?_)).mono fun e W' ⟨he, bel⟩ => ?_
  · match i, ha with
    | 0, ha => simp at ha; subst ha; exact hf
    | i + 1, ha => simp at ha
  subst he
  exact ⟨_, rfl, _, _, _, [], _, [], hW', trodAll_mk1 (shut_bool Try.underlying4 _), (trodAll_cons_mk (Below.trod laidOut (by kernel_rfl) (of_decide_eq_true (by kernel_rfl)) h0 bel lt0) trodAll_mk0), rfl, bel.frame _, fun h => by cases h⟩
theorem over : Rows.fnRenameTwiceRow.holds Try.pinned (OpenSpec.ofChange Rows.fnRenameTwiceSpec) :=
  OpenClaim.holds_of_wide 4 Try.f4 rfl rfl rfl rfl rfl rfl rfl ⟨rfl, rfl, rfl, rfl, rfl⟩ rfl rfl rfl rfl rfl (by kernel_rfl) Try.func4 (by kernel_rfl)
    (of_decide_eq_true (by kernel_rfl)) (by unfold Func.isWrapper; first | (rw [if_pos (by decide +kernel)]; kernel_rfl) | (rw [if_neg (by decide +kernel)]; exact ⟨rfl, rfl⟩))
    (fun os started H enc _ => lifted os started H enc)
theorem proved : Rows.FnRenameTwiceSaid := over
end Go.Proofs.Ytmhcigdcappdgaa
