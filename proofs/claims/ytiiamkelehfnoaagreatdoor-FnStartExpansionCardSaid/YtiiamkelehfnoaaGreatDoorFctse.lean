/- Closed facts of the row of FnStartExpansion, one by one: whole in one they outgrow the memory. -/
import Derived.Test.YtiiamkelehfnoaaGreatDoorRows
import Derived.Test.YtiiamkelehfnoaaGreatDoorChecked
import Derived.ProofKit
import Derived.LaidMore
import Derived.Stop.Joined
import Derived.SevenTiedAt
set_option maxRecDepth 100000
namespace Go.Proofs.YtiiamkelehfnoaaGreatDoor
open Go Go.Proofs
open Go.ChangeShapes Go.WideShapes Go.ChangeAt Go.RowKit
theorem jf0 : (Rows.fnStartExpansionRow.wf (OpenSpec.ofChange Rows.fnStartExpansionSpec)) = true := by kernel_rfl
theorem jf1 : (laidOutB Tryz.prog) = true := by kernel_rfl
theorem jf2 : (mapsRowed Tryz.prog) = true := by kernel_rfl
theorem jf3 : (Tryz.f5.params.all (Tryz.prog.readableRec ·)) = true := by kernel_rfl
theorem jf4 : (namedTie Tryz.prog Rows.fnStartExpansionRow.named Rows.fnStartExpansionSpec.vars) = true := by kernel_rfl
theorem jf5 : ((Rows.fnStartExpansionRow.stops == [])) = true := by kernel_rfl
theorem jf6 : ((Tryz.prog.stops == [])) = true := by kernel_rfl
theorem jf7 : ((Rows.fnStartExpansionRow.knobs == [])) = true := by kernel_rfl
theorem jf8 : ((Tryz.prog.stopKnobs == [])) = true := by kernel_rfl
theorem jf9 : ((Rows.fnStartExpansionRow.inPlace == Tryz.prog.inPlace 5)) = true := by kernel_rfl
theorem Qtu : ((Rows.fnStartExpansionRow.unfollowed == Tryz.prog.unfollowed 5)) = true := by kernel_rfl
theorem Qtv : ((Rows.fnStartExpansionRow.recurses == Tryz.prog.recurses 5)) = true := by kernel_rfl
theorem Qtw : ((Rows.fnStartExpansionRow.named == Tryz.prog.varsNamed 5)) = true := by kernel_rfl
theorem Qtx : ((Rows.fnStartExpansionRow.maps == (Tryz.f5.params.toList ++ Rows.fnStartExpansionSpec.plain.varTypes Tryz.prog).any (Tryz.prog.mapsRec ·))) = true := by kernel_rfl
theorem Qty : ((Rows.fnStartExpansionRow.ifaces == (Tryz.f5.params.toList ++ Rows.fnStartExpansionSpec.plain.varTypes Tryz.prog).any (Tryz.prog.ifacesRec ·))) = true := by kernel_rfl
theorem Qtz : ((Rows.fnStartExpansionRow.mapsOut == Tryz.prog.mapsAmong Tryz.f5.resultTypes.toList)) = true := by kernel_rfl
theorem Qt0 : ((Rows.fnStartExpansionRow.loops == (Tryz.f5.params.toList ++ Rows.fnStartExpansionSpec.plain.varTypes Tryz.prog).any (Tryz.prog.loopsFrom ·))) = true := by kernel_rfl
theorem Qt1 : ((Rows.fnStartExpansionRow.wideKeys == (Tryz.f5.params.toList ++ Rows.fnStartExpansionSpec.plain.varTypes Tryz.prog ++ Tryz.f5.resultTypes.toList).any (Tryz.prog.wideKeysFrom ·))) = true := by kernel_rfl
theorem Qt2 : (Rows.fnStartExpansionSpec.vars.all (Tryz.prog.varReadable ·)) = true := by kernel_rfl
theorem Qt3 : (Tryz.f5.resultTypes.all (fun t => Tryz.prog.readableRec t && decide (t < Tryz.prog.types.size))) = true := by kernel_rfl
theorem Qt4 : ((Rows.fnStartExpansionRow.ifacesOut == Tryz.f5.resultTypes.toList.any (Tryz.prog.ifacesRec ·))) = true := by kernel_rfl
theorem Qt5 : ((Rows.fnStartExpansionRow.loopsOut == Tryz.f5.resultTypes.toList.any (Tryz.prog.loopsFrom ·))) = true := by kernel_rfl
theorem Qt6 : ((Rows.fnStartExpansionRow.plainKeys == Tryz.prog.plainKeys)) = true := by kernel_rfl
theorem Qt7 : (Rows.fnStartExpansionRow.shortTexts.isNone) = true := by kernel_rfl
theorem Qt8 : (Tryz.prog.stopsHeard) = true := by kernel_rfl
theorem Qt9 : (Tryz.prog.mayEnter) = true := by kernel_rfl
theorem Qua : ((Rows.fnStartExpansionRow.lifted == Tryz.prog.liftsFinal)) = true := by kernel_rfl
theorem Qub : ((Tryz.prog.make == some Rows.fnStartExpansionRow.make)) = true := by kernel_rfl
theorem Quc : ((Rows.fnStartExpansionRow.kinds == (if Rows.fnStartExpansionRow.domain.isEmpty then [] else Tryz.f5.params.toList.map fun t => match Tryz.prog.underlying t with | some (.int k) => some k | _ => none))) = true := by kernel_rfl
theorem Qud : ((Rows.fnStartExpansionRow.pinned == Rows.fnStartExpansionRow.pinnedBy)) = true := by kernel_rfl
theorem Que : ((Rows.fnStartExpansionRow.veiled == (Tryz.f5.params.toList ++ Rows.fnStartExpansionSpec.plain.varTypes Tryz.prog ++ Tryz.f5.resultTypes.toList).any (Tryz.prog.veiledRec ·))) = true := by kernel_rfl
theorem Quf : (Rows.fnStartExpansionRow.veiledFits Tryz.prog Tryz.f5.params.toList (Tryz.f5.params.toList ++ Rows.fnStartExpansionSpec.plain.varTypes Tryz.prog ++ Tryz.f5.resultTypes.toList)) = true := by kernel_rfl
theorem GI {a b : Bool} (h : a = true) (h2 : b = true) : (a && b) = true := by rw [h, h2]; rfl
theorem closed : joinedFacts Tryz.prog 5 Tryz.f5 Rows.fnStartExpansionSpec Rows.fnStartExpansionRow = true := GI (GI (GI (GI (GI (GI (GI (GI (GI (GI (GI (GI (GI (GI (GI (GI (GI (GI (GI (GI (GI (GI (GI (GI (GI (GI (GI (GI (GI (GI (GI (jf0) jf1) jf2) jf3) jf4) jf5) jf6) jf7) jf8) jf9) Qtu) Qtv) Qtw) Qtx) Qty) Qtz) Qt0) Qt1) Qt2) Qt3) Qt4) Qt5) Qt6) Qt7) Qt8) Qt9) Qua) Qub) Quc) Qud) Que) Quf
theorem cfn : Tryz.pinned.checked.prog.funcNamed "loop.example/macroexpander/laws.FnStartExpansion" = some 5 := by kernel_rfl
theorem cwf : Rows.fnStartExpansionRow.wfByText (OpenSpec.ofChange Rows.fnStartExpansionSpec) = true := by kernel_rfl
theorem Qrv : Tryz.pinned.checked.prog.mainIs = some (true, "423c2c7d68afba0ffc7a0a6a7d6deb34709c7d0ca110e35cb9337ed3a02ea184".toList) := by kernel_rfl
theorem Qru : false = Tryz.pinned.checked.prog.looks [] := by kernel_rfl
theorem Qrw : ([22].all fun u => !Tryz.prog.wantsStandIn u) = true := by kernel_rfl
theorem cgo : false = Rows.fnStartExpansionRow.goesBy Tryz.pinned.checked.prog := by kernel_rfl
end Go.Proofs.YtiiamkelehfnoaaGreatDoor
