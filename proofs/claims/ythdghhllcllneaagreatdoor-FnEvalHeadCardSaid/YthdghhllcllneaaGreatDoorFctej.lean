/- Closed facts of the row of FnEvalHead, one by one: whole in one they outgrow the memory. -/
import Derived.Test.YthdghhllcllneaaGreatDoorRows
import Derived.Test.YthdghhllcllneaaGreatDoorChecked
import Derived.ProofKit
import Derived.LaidMore
import Derived.Stop.Joined
import Derived.SevenTiedAt
set_option maxRecDepth 100000
namespace Go.Proofs.YthdghhllcllneaaGreatDoor
open Go Go.Proofs
open Go.ChangeShapes Go.WideShapes Go.ChangeAt Go.RowKit
theorem jf0 : (Rows.fnEvalHeadRow.wf (OpenSpec.ofChange Rows.fnEvalHeadSpec)) = true := by kernel_rfl
theorem jf1 : (laidOutB Tryz.prog) = true := by kernel_rfl
theorem jf2 : (mapsRowed Tryz.prog) = true := by kernel_rfl
theorem jf3 : (Tryz.f6.params.all (Tryz.prog.readableRec ·)) = true := by kernel_rfl
theorem jf4 : (namedTie Tryz.prog Rows.fnEvalHeadRow.named Rows.fnEvalHeadSpec.vars) = true := by kernel_rfl
theorem jf5 : ((Rows.fnEvalHeadRow.stops == [])) = true := by kernel_rfl
theorem jf6 : ((Tryz.prog.stops == [])) = true := by kernel_rfl
theorem jf7 : ((Rows.fnEvalHeadRow.knobs == [])) = true := by kernel_rfl
theorem jf8 : ((Tryz.prog.stopKnobs == [])) = true := by kernel_rfl
theorem jf9 : ((Rows.fnEvalHeadRow.inPlace == Tryz.prog.inPlace 6)) = true := by kernel_rfl
theorem Qvx : ((Rows.fnEvalHeadRow.unfollowed == Tryz.prog.unfollowed 6)) = true := by kernel_rfl
theorem Qvy : ((Rows.fnEvalHeadRow.recurses == Tryz.prog.recurses 6)) = true := by kernel_rfl
theorem Qvz : ((Rows.fnEvalHeadRow.named == Tryz.prog.varsNamed 6)) = true := by kernel_rfl
theorem Qv0 : ((Rows.fnEvalHeadRow.maps == (Tryz.f6.params.toList ++ Rows.fnEvalHeadSpec.plain.varTypes Tryz.prog).any (Tryz.prog.mapsRec ·))) = true := by kernel_rfl
theorem Qv1 : ((Rows.fnEvalHeadRow.ifaces == (Tryz.f6.params.toList ++ Rows.fnEvalHeadSpec.plain.varTypes Tryz.prog).any (Tryz.prog.ifacesRec ·))) = true := by kernel_rfl
theorem Qv2 : ((Rows.fnEvalHeadRow.mapsOut == Tryz.prog.mapsAmong Tryz.f6.resultTypes.toList)) = true := by kernel_rfl
theorem Qv3 : ((Rows.fnEvalHeadRow.loops == (Tryz.f6.params.toList ++ Rows.fnEvalHeadSpec.plain.varTypes Tryz.prog).any (Tryz.prog.loopsFrom ·))) = true := by kernel_rfl
theorem Qv4 : ((Rows.fnEvalHeadRow.wideKeys == (Tryz.f6.params.toList ++ Rows.fnEvalHeadSpec.plain.varTypes Tryz.prog ++ Tryz.f6.resultTypes.toList).any (Tryz.prog.wideKeysFrom ·))) = true := by kernel_rfl
theorem Qv5 : (Rows.fnEvalHeadSpec.vars.all (Tryz.prog.varReadable ·)) = true := by kernel_rfl
theorem Qv6 : (Tryz.f6.resultTypes.all (fun t => Tryz.prog.readableRec t && decide (t < Tryz.prog.types.size))) = true := by kernel_rfl
theorem Qv7 : ((Rows.fnEvalHeadRow.ifacesOut == Tryz.f6.resultTypes.toList.any (Tryz.prog.ifacesRec ·))) = true := by kernel_rfl
theorem Qv8 : ((Rows.fnEvalHeadRow.loopsOut == Tryz.f6.resultTypes.toList.any (Tryz.prog.loopsFrom ·))) = true := by kernel_rfl
theorem Qv9 : ((Rows.fnEvalHeadRow.plainKeys == Tryz.prog.plainKeys)) = true := by kernel_rfl
theorem Qwa : (Rows.fnEvalHeadRow.shortTexts.isNone) = true := by kernel_rfl
theorem Qwb : (Tryz.prog.stopsHeard) = true := by kernel_rfl
theorem Qwc : (Tryz.prog.mayEnter) = true := by kernel_rfl
theorem Qwd : ((Rows.fnEvalHeadRow.lifted == Tryz.prog.liftsFinal)) = true := by kernel_rfl
theorem Qwe : ((Tryz.prog.make == some Rows.fnEvalHeadRow.make)) = true := by kernel_rfl
theorem Qwf : ((Rows.fnEvalHeadRow.kinds == (if Rows.fnEvalHeadRow.domain.isEmpty then [] else Tryz.f6.params.toList.map fun t => match Tryz.prog.underlying t with | some (.int k) => some k | _ => none))) = true := by kernel_rfl
theorem Qwg : ((Rows.fnEvalHeadRow.pinned == Rows.fnEvalHeadRow.pinnedBy)) = true := by kernel_rfl
theorem Qwh : ((Rows.fnEvalHeadRow.veiled == (Tryz.f6.params.toList ++ Rows.fnEvalHeadSpec.plain.varTypes Tryz.prog ++ Tryz.f6.resultTypes.toList).any (Tryz.prog.veiledRec ·))) = true := by kernel_rfl
theorem Qwi : (Rows.fnEvalHeadRow.veiledFits Tryz.prog Tryz.f6.params.toList (Tryz.f6.params.toList ++ Rows.fnEvalHeadSpec.plain.varTypes Tryz.prog ++ Tryz.f6.resultTypes.toList)) = true := by kernel_rfl
theorem GS {a b : Bool} (h : a = true) (h2 : b = true) : (a && b) = true := by rw [h, h2]; rfl
theorem closed : joinedFacts Tryz.prog 6 Tryz.f6 Rows.fnEvalHeadSpec Rows.fnEvalHeadRow = true := GS (GS (GS (GS (GS (GS (GS (GS (GS (GS (GS (GS (GS (GS (GS (GS (GS (GS (GS (GS (GS (GS (GS (GS (GS (GS (GS (GS (GS (GS (GS (jf0) jf1) jf2) jf3) jf4) jf5) jf6) jf7) jf8) jf9) Qvx) Qvy) Qvz) Qv0) Qv1) Qv2) Qv3) Qv4) Qv5) Qv6) Qv7) Qv8) Qv9) Qwa) Qwb) Qwc) Qwd) Qwe) Qwf) Qwg) Qwh) Qwi
theorem cfn : Tryz.pinned.checked.prog.funcNamed "loop.example/macroexpander/laws.FnEvalHead" = some 6 := by kernel_rfl
theorem cwf : Rows.fnEvalHeadRow.wfByText (OpenSpec.ofChange Rows.fnEvalHeadSpec) = true := by kernel_rfl
theorem Qto : Tryz.pinned.checked.prog.mainIs = some (true, "02d19772fd0d586253e4d51e133b5ed99c31dcb745055deca724cd1ab88338b7".toList) := by kernel_rfl
theorem Qtn : false = Tryz.pinned.checked.prog.looks [] := by kernel_rfl
theorem Qtp : ([22].all fun u => !Tryz.prog.wantsStandIn u) = true := by kernel_rfl
theorem cgo : false = Rows.fnEvalHeadRow.goesBy Tryz.pinned.checked.prog := by kernel_rfl
end Go.Proofs.YthdghhllcllneaaGreatDoor
