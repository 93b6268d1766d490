/- FnStartExpansionCardSaid holds: for every input the law returns true, and its arguments read afterwards as before. -/
import Derived.Test.YtiiamkelehfnoaaGreatDoorFctse
import Derived.Test.YtiiamkelehfnoaaGreatDoorUa
import Derived.Test.YtiiamkelehfnoaaGreatDoorseW2
import Derived.Test.YtiiamkelehfnoaaGreatDoorFmA
import Derived.Test.YtiiamkelehfnoaaGreatDoorFmH
import Derived.Test.YtiiamkelehfnoaaGreatDoorRows
import Derived.OpenShut
import Derived.ShutString
import Derived.ChangeVars
import Derived.OpenVars
import Derived.Test.YtiiamkelehfnoaaGreatDoorCards
import Derived.Test.YtiiamkelehfnoaaGreatDoorTie
set_option maxRecDepth 100000
namespace Go.Proofs.YtiiamkelehfnoaaGreatDoor
open Go Go.Proofs Go.Proofs.Shadow
open Go.ChangeShapes Go.WideShapes Go.ChangeAt Go.RowKit
theorem own : ownKnob Tryz.prog.godebug = none := by kernel_rfl
theorem laidOut : laidOutB Tryz.prog = true := by kernel_rfl
theorem u8_range {n : Int} (h : (Lit.int .u8 n).wf = true) : 0 ≤ n ∧ n < 256 := by
 have h1 : IntKind.u8.min = 0 := rfl
 have h2 : IntKind.u8.max = 255 := rfl
 simp [Lit.wf] at h
 omega
theorem door_met (os : Os) (args : Array Value) : laidMetH Tryz.prog Rows.fnStartExpansionRow.laid ((World.doorLaid Tryz.prog 29 os).forCall (fun _ _ => 0) ⟨#[], args, []⟩).memory :=
 laidMetH_of_parts3 (fuel := 8) (laidMet_of_run' 8 (by kernel_rfl) (by kernel_rfl)) (by kernel_rfl) (by kernel_rfl)
theorem tab_of {W : World} (h : laidMetH Tryz.prog Rows.fnStartExpansionRow.laid W) : Tb Tryz.prog SD W := by
 have hL : laidMet Tryz.prog Rows.fnStartExpansionRow.laid W := by rw [MakeChecks.laidMetH_plain _ _ _ (by kernel_rfl)] at h; exact h
 exact Tb.Qnv (P := Tryz.prog) (g := (Tryz.prog.globalNamed "loop.example/macroexpander/impl.coreForms").getD 0) (by kernel_rfl) (by kernel_rfl) (Tryz.underlying57) (Tryz.underlying9) (by kernel_rfl) (by kernel_rfl) (hL)
theorem lifted (os : Os) (started : os.Started) (H : Type) (enc : TypeId × Value → H) :
  ReturnsInHanded {} Tryz.checked os 5 .any (fun w args => (Rows.fnStartExpansionSpec.pre enc Tryz.prog Tryz.f5 [] false w args ∧ laidMetH Tryz.prog Rows.fnStartExpansionRow.laid w) ∧ sizedMet enc Tryz.prog Tryz.f5 (OpenSpec.ofChange Rows.fnStartExpansionSpec) false w args)
   (Rows.fnStartExpansionSpec.post enc Tryz.prog Tryz.f5 false true false false) := by
 refine returnsInHanded_of_change_and (C := Tryz.checked) (X := (fun w _ => laidMetH Tryz.prog Rows.fnStartExpansionRow.laid w)) (fun _ _ _ hh h => h.of_heap hh) own started (by kernel_rfl) Tryz.func5
  (ChangeSpec.witness_shaped (enc := enc) (C := Tryz.checked) (os := os) (X := (fun w _ => laidMetH Tryz.prog Rows.fnStartExpansionRow.laid w)) false (World.doorLaid Tryz.prog 29 os) #[.slice none 0 0] 8 rfl (World.shaped_of_RefB (by kernel_rfl) (by kernel_rfl)) (by kernel_rfl) (by kernel_rfl) (by kernel_rfl) (door_met os _)) ?_
 intro W base args ds gs before hval0 hW _ hsz0 hL _
 have hval : ∀ (j : Nat) t v, Tryz.f5.params[j]? = some t → args[j]? = some v → Value.okWide Tryz.prog W .any base t v := hval0
 have hsz : (DataW.weightsEach Tryz.prog (Tryz.f5.params.toList ++ Rows.fnStartExpansionSpec.plain.varTypes Tryz.prog) (ds ++ gs)).all (· ≤ reachBytes) = true := hsz0
 have hW' := hW
 obtain ⟨p, q, hA0, hV, rfl, hfz, hnd⟩ := hW
 have hA : DataW.TrodAll enc Tryz.prog W 0 (fun _ => true) true Tryz.f5.params.toList args.toList ds p := hA0
 rw [Tryz.params5] at hA hval hsz
 obtain ⟨v0, vs0, d0, ds0, p0, q0, ha0, rfl, rfl, t0, r0⟩ := trodAll_cons hA
 obtain ⟨rfl, rfl, rfl⟩ := trodAll_nil r0
 obtain rfl : args = #[v0] := by cases args; simp_all
 have hV0 := hV
 obtain ⟨gv, tv, cv, fv, dv, pv, rfl, _, _, _, _, rfl⟩ := trodVars_one hV
 have lt0 : ∀ x ∈ p0, x.block < W.heap.size := by obtain ⟨m, hm⟩ := t0; exact DataW.trod_lt m _ _ _ hm
 obtain ⟨x0, b0, h0, hf0⟩ := Pz (k := 1) (e := 5) (cells := cU) (Q := fun n => (Lit.int .u8 n).wf = true) (by omega) (by kernel_rfl) (fun n => AY Tryz.underlying5 n) (hval 0 22 v0 rfl rfl) t0 hsz (j := 0) rfl rfl
 clear hA0 hval0
 refine ((SA.Dn x0 true (SA.FM fun x h => u8_range (h0 x h))).Qtm (tab_of hL) (vs := [v0]) rfl (fun i a ha => ?_)).mono fun e W' ⟨he, bel⟩ => ?_
 ·match i, ha with
  | 0, ha => simp at ha; subst ha; exact hf0
  | i + 1, ha => simp at ha
 subst he
 exact ⟨_, rfl, _, _, _, [], _, _, hW', trodAll_mk1 (shut_bool Tryz.underlying4 _), (trodAll_cons_mk (Below.trod laidOut (by kernel_rfl) (of_decide_eq_true (by kernel_rfl)) t0 bel lt0) trodAll_mk0), Below.trodVars laidOut bel (by kernel_rfl) hV0, bel.frame _, fun h => by cases h⟩
theorem over : Rows.fnStartExpansionRow.holds Tryz.pinned (OpenSpec.ofChange Rows.fnStartExpansionSpec) :=
 OpenClaim.holds_of_wide 5 Tryz.f5 rfl rfl rfl rfl rfl rfl rfl ⟨rfl, rfl, rfl, rfl, rfl⟩ rfl rfl rfl rfl rfl cfn Tryz.func5 closed
  (of_decide_eq_true (by kernel_rfl)) (by unfold Func.isWrapper; first | (rw [if_pos (by decide +kernel)]; kernel_rfl) | (rw [if_neg (by decide +kernel)]; exact ⟨rfl, rfl⟩))
  (fun os started H enc _ => lifted os started H enc)
theorem proved : Rows.FnStartExpansionCardSaid :=
 Claim7.holds_tied_plain_at .later [] [.widerDeep] true (true, "423c2c7d68afba0ffc7a0a6a7d6deb34709c7d0ca110e35cb9337ed3a02ea184") false
  over (fun _ h => by cases h) cwf (fun _ h => by cases h) fnStartExpansion_row_tie rfl ⟨rfl, rfl⟩ Qrv rfl
  (fun f fn hf hfn => by
   obtain rfl : f = 5 := Option.some.inj (cfn.symm.trans hf) |>.symm
   obtain rfl : fn = Tryz.f5 := (Option.some.inj (Tryz.func5.symm.trans hfn)).symm
   exact ⟨Qru, fun j t ht => by
    rw [Tryz.params5] at ht
    have hm : t ∈ [22] := by simpa using Array.mem_of_getElem? ht
    have hall : ([22].all fun u => !Tryz.prog.wantsStandIn u) = true := Qrw
    exact (show Tryz.prog.wantsStandIn t = false by simpa using List.all_eq_true.1 hall t hm)⟩)
  cgo
end Go.Proofs.YtiiamkelehfnoaaGreatDoor
