/- Closed facts of the row of FnEvalList, one by one: whole in one they outgrow the memory. -/
import Derived.Test.YthdghhllcllneaaGreatDoorRows
import Derived.Test.YthdghhllcllneaaGreatDoorChecked
import Derived.ProofKit
import Derived.LaidMore
import Derived.Stop.Joined
import Derived.SevenTiedAt
set_option maxRecDepth 100000
namespace Go.Proofs.YthdghhllcllneaaGreatDoor
open Go Go.Proofs
open Go.ChangeShapes Go.WideShapes Go.ChangeAt Go.RowKit
theorem jf0 : (Rows.fnEvalListRow.wf (OpenSpec.ofChange Rows.fnEvalListSpec)) = true := by kernel_rfl
theorem jf1 : (laidOutB Tryz.prog) = true := by kernel_rfl
theorem jf2 : (mapsRowed Tryz.prog) = true := by kernel_rfl
theorem jf3 : (Tryz.f7.params.all (Tryz.prog.readableRec ·)) = true := by kernel_rfl
theorem jf4 : (namedTie Tryz.prog Rows.fnEvalListRow.named Rows.fnEvalListSpec.vars) = true := by kernel_rfl
theorem jf5 : ((Rows.fnEvalListRow.stops == [])) = true := by kernel_rfl
theorem jf6 : ((Tryz.prog.stops == [])) = true := by kernel_rfl
theorem jf7 : ((Rows.fnEvalListRow.knobs == [])) = true := by kernel_rfl
theorem jf8 : ((Tryz.prog.stopKnobs == [])) = true := by kernel_rfl
theorem jf9 : ((Rows.fnEvalListRow.inPlace == Tryz.prog.inPlace 7)) = true := by kernel_rfl
theorem Qvw : ((Rows.fnEvalListRow.unfollowed == Tryz.prog.unfollowed 7)) = true := by kernel_rfl
theorem Qvx : ((Rows.fnEvalListRow.recurses == Tryz.prog.recurses 7)) = true := by kernel_rfl
theorem Qvy : ((Rows.fnEvalListRow.named == Tryz.prog.varsNamed 7)) = true := by kernel_rfl
theorem Qvz : ((Rows.fnEvalListRow.maps == (Tryz.f7.params.toList ++ Rows.fnEvalListSpec.plain.varTypes Tryz.prog).any (Tryz.prog.mapsRec ·))) = true := by kernel_rfl
theorem Qv0 : ((Rows.fnEvalListRow.ifaces == (Tryz.f7.params.toList ++ Rows.fnEvalListSpec.plain.varTypes Tryz.prog).any (Tryz.prog.ifacesRec ·))) = true := by kernel_rfl
theorem Qv1 : ((Rows.fnEvalListRow.mapsOut == Tryz.prog.mapsAmong Tryz.f7.resultTypes.toList)) = true := by kernel_rfl
theorem Qv2 : ((Rows.fnEvalListRow.loops == (Tryz.f7.params.toList ++ Rows.fnEvalListSpec.plain.varTypes Tryz.prog).any (Tryz.prog.loopsFrom ·))) = true := by kernel_rfl
theorem Qv3 : ((Rows.fnEvalListRow.wideKeys == (Tryz.f7.params.toList ++ Rows.fnEvalListSpec.plain.varTypes Tryz.prog ++ Tryz.f7.resultTypes.toList).any (Tryz.prog.wideKeysFrom ·))) = true := by kernel_rfl
theorem Qv4 : (Rows.fnEvalListSpec.vars.all (Tryz.prog.varReadable ·)) = true := by kernel_rfl
theorem Qv5 : (Tryz.f7.resultTypes.all (fun t => Tryz.prog.readableRec t && decide (t < Tryz.prog.types.size))) = true := by kernel_rfl
theorem Qv6 : ((Rows.fnEvalListRow.ifacesOut == Tryz.f7.resultTypes.toList.any (Tryz.prog.ifacesRec ·))) = true := by kernel_rfl
theorem Qv7 : ((Rows.fnEvalListRow.loopsOut == Tryz.f7.resultTypes.toList.any (Tryz.prog.loopsFrom ·))) = true := by kernel_rfl
theorem Qv8 : ((Rows.fnEvalListRow.plainKeys == Tryz.prog.plainKeys)) = true := by kernel_rfl
theorem Qv9 : (Rows.fnEvalListRow.shortTexts.isNone) = true := by kernel_rfl
theorem Qwa : (Tryz.prog.stopsHeard) = true := by kernel_rfl
theorem Qwb : (Tryz.prog.mayEnter) = true := by kernel_rfl
theorem Qwc : ((Rows.fnEvalListRow.lifted == Tryz.prog.liftsFinal)) = true := by kernel_rfl
theorem Qwd : ((Tryz.prog.make == some Rows.fnEvalListRow.make)) = true := by kernel_rfl
theorem Qwe : ((Rows.fnEvalListRow.kinds == (if Rows.fnEvalListRow.domain.isEmpty then [] else Tryz.f7.params.toList.map fun t => match Tryz.prog.underlying t with | some (.int k) => some k | _ => none))) = true := by kernel_rfl
theorem Qwf : ((Rows.fnEvalListRow.pinned == Rows.fnEvalListRow.pinnedBy)) = true := by kernel_rfl
theorem Qwg : ((Rows.fnEvalListRow.veiled == (Tryz.f7.params.toList ++ Rows.fnEvalListSpec.plain.varTypes Tryz.prog ++ Tryz.f7.resultTypes.toList).any (Tryz.prog.veiledRec ·))) = true := by kernel_rfl
theorem Qwh : (Rows.fnEvalListRow.veiledFits Tryz.prog Tryz.f7.params.toList (Tryz.f7.params.toList ++ Rows.fnEvalListSpec.plain.varTypes Tryz.prog ++ Tryz.f7.resultTypes.toList)) = true := by kernel_rfl
theorem GS {a b : Bool} (h : a = true) (h2 : b = true) : (a && b) = true := by rw [h, h2]; rfl
theorem closed : joinedFacts Tryz.prog 7 Tryz.f7 Rows.fnEvalListSpec Rows.fnEvalListRow = true := GS (GS (GS (GS (GS (GS (GS (GS (GS (GS (GS (GS (GS (GS (GS (GS (GS (GS (GS (GS (GS (GS (GS (GS (GS (GS (GS (GS (GS (GS (GS (jf0) jf1) jf2) jf3) jf4) jf5) jf6) jf7) jf8) jf9) Qvw) Qvx) Qvy) Qvz) Qv0) Qv1) Qv2) Qv3) Qv4) Qv5) Qv6) Qv7) Qv8) Qv9) Qwa) Qwb) Qwc) Qwd) Qwe) Qwf) Qwg) Qwh
theorem cfn : Tryz.pinned.checked.prog.funcNamed "loop.example/macroexpander/laws.FnEvalList" = some 7 := by kernel_rfl
theorem cwf : Rows.fnEvalListRow.wfByText (OpenSpec.ofChange Rows.fnEvalListSpec) = true := by kernel_rfl
theorem Qtn : Tryz.pinned.checked.prog.mainIs = some (true, "02d19772fd0d586253e4d51e133b5ed99c31dcb745055deca724cd1ab88338b7".toList) := by kernel_rfl
theorem Qtm : false = Tryz.pinned.checked.prog.looks [] := by kernel_rfl
theorem Qto : ([22].all fun u => !Tryz.prog.wantsStandIn u) = true := by kernel_rfl
theorem cgo : false = Rows.fnEvalListRow.goesBy Tryz.pinned.checked.prog := by kernel_rfl
end Go.Proofs.YthdghhllcllneaaGreatDoor
