/- Closed facts of the row of FnEvalFun, one by one: whole in one they outgrow the memory. -/
import Derived.Test.YthdghhllcllneaaGreatDoorRows
import Derived.Test.YthdghhllcllneaaGreatDoorChecked
import Derived.ProofKit
import Derived.LaidMore
import Derived.Stop.Joined
import Derived.SevenTiedAt
set_option maxRecDepth 100000
namespace Go.Proofs.YthdghhllcllneaaGreatDoor
open Go Go.Proofs
open Go.ChangeShapes Go.WideShapes Go.ChangeAt Go.RowKit
theorem jf0 : (Rows.fnEvalFunRow.wf (OpenSpec.ofChange Rows.fnEvalFunSpec)) = true := by kernel_rfl
theorem jf1 : (laidOutB Tryz.prog) = true := by kernel_rfl
theorem jf2 : (mapsRowed Tryz.prog) = true := by kernel_rfl
theorem jf3 : (Tryz.f4.params.all (Tryz.prog.readableRec ·)) = true := by kernel_rfl
theorem jf4 : (namedTie Tryz.prog Rows.fnEvalFunRow.named Rows.fnEvalFunSpec.vars) = true := by kernel_rfl
theorem jf5 : ((Rows.fnEvalFunRow.stops == [])) = true := by kernel_rfl
theorem jf6 : ((Tryz.prog.stops == [])) = true := by kernel_rfl
theorem jf7 : ((Rows.fnEvalFunRow.knobs == [])) = true := by kernel_rfl
theorem jf8 : ((Tryz.prog.stopKnobs == [])) = true := by kernel_rfl
theorem jf9 : ((Rows.fnEvalFunRow.inPlace == Tryz.prog.inPlace 4)) = true := by kernel_rfl
theorem Qva : ((Rows.fnEvalFunRow.unfollowed == Tryz.prog.unfollowed 4)) = true := by kernel_rfl
theorem Qvb : ((Rows.fnEvalFunRow.recurses == Tryz.prog.recurses 4)) = true := by kernel_rfl
theorem Qvc : ((Rows.fnEvalFunRow.named == Tryz.prog.varsNamed 4)) = true := by kernel_rfl
theorem Qvd : ((Rows.fnEvalFunRow.maps == (Tryz.f4.params.toList ++ Rows.fnEvalFunSpec.plain.varTypes Tryz.prog).any (Tryz.prog.mapsRec ·))) = true := by kernel_rfl
theorem Qve : ((Rows.fnEvalFunRow.ifaces == (Tryz.f4.params.toList ++ Rows.fnEvalFunSpec.plain.varTypes Tryz.prog).any (Tryz.prog.ifacesRec ·))) = true := by kernel_rfl
theorem Qvf : ((Rows.fnEvalFunRow.mapsOut == Tryz.prog.mapsAmong Tryz.f4.resultTypes.toList)) = true := by kernel_rfl
theorem Qvg : ((Rows.fnEvalFunRow.loops == (Tryz.f4.params.toList ++ Rows.fnEvalFunSpec.plain.varTypes Tryz.prog).any (Tryz.prog.loopsFrom ·))) = true := by kernel_rfl
theorem Qvh : ((Rows.fnEvalFunRow.wideKeys == (Tryz.f4.params.toList ++ Rows.fnEvalFunSpec.plain.varTypes Tryz.prog ++ Tryz.f4.resultTypes.toList).any (Tryz.prog.wideKeysFrom ·))) = true := by kernel_rfl
theorem Qvi : (Rows.fnEvalFunSpec.vars.all (Tryz.prog.varReadable ·)) = true := by kernel_rfl
theorem Qvj : (Tryz.f4.resultTypes.all (fun t => Tryz.prog.readableRec t && decide (t < Tryz.prog.types.size))) = true := by kernel_rfl
theorem Qvk : ((Rows.fnEvalFunRow.ifacesOut == Tryz.f4.resultTypes.toList.any (Tryz.prog.ifacesRec ·))) = true := by kernel_rfl
theorem Qvl : ((Rows.fnEvalFunRow.loopsOut == Tryz.f4.resultTypes.toList.any (Tryz.prog.loopsFrom ·))) = true := by kernel_rfl
theorem Qvm : ((Rows.fnEvalFunRow.plainKeys == Tryz.prog.plainKeys)) = true := by kernel_rfl
theorem Qvn : (Rows.fnEvalFunRow.shortTexts.isNone) = true := by kernel_rfl
theorem Qvo : (Tryz.prog.stopsHeard) = true := by kernel_rfl
theorem Qvp : (Tryz.prog.mayEnter) = true := by kernel_rfl
theorem Qvq : ((Rows.fnEvalFunRow.lifted == Tryz.prog.liftsFinal)) = true := by kernel_rfl
theorem Qvr : ((Tryz.prog.make == some Rows.fnEvalFunRow.make)) = true := by kernel_rfl
theorem Qvs : ((Rows.fnEvalFunRow.kinds == (if Rows.fnEvalFunRow.domain.isEmpty then [] else Tryz.f4.params.toList.map fun t => match Tryz.prog.underlying t with | some (.int k) => some k | _ => none))) = true := by kernel_rfl
theorem Qvt : ((Rows.fnEvalFunRow.pinned == Rows.fnEvalFunRow.pinnedBy)) = true := by kernel_rfl
theorem Qvu : ((Rows.fnEvalFunRow.veiled == (Tryz.f4.params.toList ++ Rows.fnEvalFunSpec.plain.varTypes Tryz.prog ++ Tryz.f4.resultTypes.toList).any (Tryz.prog.veiledRec ·))) = true := by kernel_rfl
theorem Qvv : (Rows.fnEvalFunRow.veiledFits Tryz.prog Tryz.f4.params.toList (Tryz.f4.params.toList ++ Rows.fnEvalFunSpec.plain.varTypes Tryz.prog ++ Tryz.f4.resultTypes.toList)) = true := by kernel_rfl
theorem GL {a b : Bool} (h : a = true) (h2 : b = true) : (a && b) = true := by rw [h, h2]; rfl
theorem closed : joinedFacts Tryz.prog 4 Tryz.f4 Rows.fnEvalFunSpec Rows.fnEvalFunRow = true := GL (GL (GL (GL (GL (GL (GL (GL (GL (GL (GL (GL (GL (GL (GL (GL (GL (GL (GL (GL (GL (GL (GL (GL (GL (GL (GL (GL (GL (GL (GL (jf0) jf1) jf2) jf3) jf4) jf5) jf6) jf7) jf8) jf9) Qva) Qvb) Qvc) Qvd) Qve) Qvf) Qvg) Qvh) Qvi) Qvj) Qvk) Qvl) Qvm) Qvn) Qvo) Qvp) Qvq) Qvr) Qvs) Qvt) Qvu) Qvv
theorem cfn : Tryz.pinned.checked.prog.funcNamed "loop.example/macroexpander/laws.FnEvalFun" = some 4 := by kernel_rfl
theorem cwf : Rows.fnEvalFunRow.wfByText (OpenSpec.ofChange Rows.fnEvalFunSpec) = true := by kernel_rfl
theorem Qs1 : Tryz.pinned.checked.prog.mainIs = some (true, "02d19772fd0d586253e4d51e133b5ed99c31dcb745055deca724cd1ab88338b7".toList) := by kernel_rfl
theorem Qs0 : false = Tryz.pinned.checked.prog.looks [] := by kernel_rfl
theorem Qs3 : ([22].all fun u => !Tryz.prog.wantsStandIn u) = true := by kernel_rfl
theorem cgo : false = Rows.fnEvalFunRow.goesBy Tryz.pinned.checked.prog := by kernel_rfl
end Go.Proofs.YthdghhllcllneaaGreatDoor
