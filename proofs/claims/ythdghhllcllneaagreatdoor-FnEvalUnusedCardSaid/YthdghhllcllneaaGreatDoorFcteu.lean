/- Closed facts of the row of FnEvalUnused, one by one: whole in one they outgrow the memory. -/
import Derived.Test.YthdghhllcllneaaGreatDoorRows
import Derived.Test.YthdghhllcllneaaGreatDoorChecked
import Derived.ProofKit
import Derived.LaidMore
import Derived.Stop.Joined
import Derived.SevenTiedAt
set_option maxRecDepth 100000
namespace Go.Proofs.YthdghhllcllneaaGreatDoor
open Go Go.Proofs
open Go.ChangeShapes Go.WideShapes Go.ChangeAt Go.RowKit
theorem jf0 : (Rows.fnEvalUnusedRow.wf (OpenSpec.ofChange Rows.fnEvalUnusedSpec)) = true := by kernel_rfl
theorem jf1 : (laidOutB Tryz.prog) = true := by kernel_rfl
theorem jf2 : (mapsRowed Tryz.prog) = true := by kernel_rfl
theorem jf3 : (Tryz.f8.params.all (Tryz.prog.readableRec ·)) = true := by kernel_rfl
theorem jf4 : (namedTie Tryz.prog Rows.fnEvalUnusedRow.named Rows.fnEvalUnusedSpec.vars) = true := by kernel_rfl
theorem jf5 : ((Rows.fnEvalUnusedRow.stops == [])) = true := by kernel_rfl
theorem jf6 : ((Tryz.prog.stops == [])) = true := by kernel_rfl
theorem jf7 : ((Rows.fnEvalUnusedRow.knobs == [])) = true := by kernel_rfl
theorem jf8 : ((Tryz.prog.stopKnobs == [])) = true := by kernel_rfl
theorem jf9 : ((Rows.fnEvalUnusedRow.inPlace == Tryz.prog.inPlace 8)) = true := by kernel_rfl
theorem Qv3 : ((Rows.fnEvalUnusedRow.unfollowed == Tryz.prog.unfollowed 8)) = true := by kernel_rfl
theorem Qv4 : ((Rows.fnEvalUnusedRow.recurses == Tryz.prog.recurses 8)) = true := by kernel_rfl
theorem Qv5 : ((Rows.fnEvalUnusedRow.named == Tryz.prog.varsNamed 8)) = true := by kernel_rfl
theorem Qv6 : ((Rows.fnEvalUnusedRow.maps == (Tryz.f8.params.toList ++ Rows.fnEvalUnusedSpec.plain.varTypes Tryz.prog).any (Tryz.prog.mapsRec ·))) = true := by kernel_rfl
theorem Qv7 : ((Rows.fnEvalUnusedRow.ifaces == (Tryz.f8.params.toList ++ Rows.fnEvalUnusedSpec.plain.varTypes Tryz.prog).any (Tryz.prog.ifacesRec ·))) = true := by kernel_rfl
theorem Qv8 : ((Rows.fnEvalUnusedRow.mapsOut == Tryz.prog.mapsAmong Tryz.f8.resultTypes.toList)) = true := by kernel_rfl
theorem Qv9 : ((Rows.fnEvalUnusedRow.loops == (Tryz.f8.params.toList ++ Rows.fnEvalUnusedSpec.plain.varTypes Tryz.prog).any (Tryz.prog.loopsFrom ·))) = true := by kernel_rfl
theorem Qwa : ((Rows.fnEvalUnusedRow.wideKeys == (Tryz.f8.params.toList ++ Rows.fnEvalUnusedSpec.plain.varTypes Tryz.prog ++ Tryz.f8.resultTypes.toList).any (Tryz.prog.wideKeysFrom ·))) = true := by kernel_rfl
theorem Qwb : (Rows.fnEvalUnusedSpec.vars.all (Tryz.prog.varReadable ·)) = true := by kernel_rfl
theorem Qwc : (Tryz.f8.resultTypes.all (fun t => Tryz.prog.readableRec t && decide (t < Tryz.prog.types.size))) = true := by kernel_rfl
theorem Qwd : ((Rows.fnEvalUnusedRow.ifacesOut == Tryz.f8.resultTypes.toList.any (Tryz.prog.ifacesRec ·))) = true := by kernel_rfl
theorem Qwe : ((Rows.fnEvalUnusedRow.loopsOut == Tryz.f8.resultTypes.toList.any (Tryz.prog.loopsFrom ·))) = true := by kernel_rfl
theorem Qwf : ((Rows.fnEvalUnusedRow.plainKeys == Tryz.prog.plainKeys)) = true := by kernel_rfl
theorem Qwg : (Rows.fnEvalUnusedRow.shortTexts.isNone) = true := by kernel_rfl
theorem Qwh : (Tryz.prog.stopsHeard) = true := by kernel_rfl
theorem Qwi : (Tryz.prog.mayEnter) = true := by kernel_rfl
theorem Qwj : ((Rows.fnEvalUnusedRow.lifted == Tryz.prog.liftsFinal)) = true := by kernel_rfl
theorem Qwk : ((Tryz.prog.make == some Rows.fnEvalUnusedRow.make)) = true := by kernel_rfl
theorem Qwl : ((Rows.fnEvalUnusedRow.kinds == (if Rows.fnEvalUnusedRow.domain.isEmpty then [] else Tryz.f8.params.toList.map fun t => match Tryz.prog.underlying t with | some (.int k) => some k | _ => none))) = true := by kernel_rfl
theorem Qwm : ((Rows.fnEvalUnusedRow.pinned == Rows.fnEvalUnusedRow.pinnedBy)) = true := by kernel_rfl
theorem Qwn : ((Rows.fnEvalUnusedRow.veiled == (Tryz.f8.params.toList ++ Rows.fnEvalUnusedSpec.plain.varTypes Tryz.prog ++ Tryz.f8.resultTypes.toList).any (Tryz.prog.veiledRec ·))) = true := by kernel_rfl
theorem Qwo : (Rows.fnEvalUnusedRow.veiledFits Tryz.prog Tryz.f8.params.toList (Tryz.f8.params.toList ++ Rows.fnEvalUnusedSpec.plain.varTypes Tryz.prog ++ Tryz.f8.resultTypes.toList)) = true := by kernel_rfl
theorem GW {a b : Bool} (h : a = true) (h2 : b = true) : (a && b) = true := by rw [h, h2]; rfl
theorem closed : joinedFacts Tryz.prog 8 Tryz.f8 Rows.fnEvalUnusedSpec Rows.fnEvalUnusedRow = true := GW (GW (GW (GW (GW (GW (GW (GW (GW (GW (GW (GW (GW (GW (GW (GW (GW (GW (GW (GW (GW (GW (GW (GW (GW (GW (GW (GW (GW (GW (GW (jf0) jf1) jf2) jf3) jf4) jf5) jf6) jf7) jf8) jf9) Qv3) Qv4) Qv5) Qv6) Qv7) Qv8) Qv9) Qwa) Qwb) Qwc) Qwd) Qwe) Qwf) Qwg) Qwh) Qwi) Qwj) Qwk) Qwl) Qwm) Qwn) Qwo
theorem cfn : Tryz.pinned.checked.prog.funcNamed "loop.example/macroexpander/laws.FnEvalUnused" = some 8 := by kernel_rfl
theorem cwf : Rows.fnEvalUnusedRow.wfByText (OpenSpec.ofChange Rows.fnEvalUnusedSpec) = true := by kernel_rfl
theorem Qtr : Tryz.pinned.checked.prog.mainIs = some (true, "02d19772fd0d586253e4d51e133b5ed99c31dcb745055deca724cd1ab88338b7".toList) := by kernel_rfl
theorem Qtq : false = Tryz.pinned.checked.prog.looks [] := by kernel_rfl
theorem Qts : ([22].all fun u => !Tryz.prog.wantsStandIn u) = true := by kernel_rfl
theorem cgo : false = Rows.fnEvalUnusedRow.goesBy Tryz.pinned.checked.prog := by kernel_rfl
end Go.Proofs.YthdghhllcllneaaGreatDoor
