/- Closed facts of the row of FnStepsJoin, one by one: whole in one they outgrow the memory. -/
import Derived.Test.YtiiamkelehfnoaaGreatDoorRows
import Derived.Test.YtiiamkelehfnoaaGreatDoorChecked
import Derived.ProofKit
import Derived.LaidMore
import Derived.Stop.Joined
import Derived.SevenTiedAt
set_option maxRecDepth 100000
namespace Go.Proofs.YtiiamkelehfnoaaGreatDoor
open Go Go.Proofs
open Go.ChangeShapes Go.WideShapes Go.ChangeAt Go.RowKit
theorem jf0 : (Rows.fnStepsJoinRow.wf (OpenSpec.ofChange Rows.fnStepsJoinSpec)) = true := by kernel_rfl
theorem jf1 : (laidOutB Tryz.prog) = true := by kernel_rfl
theorem jf2 : (mapsRowed Tryz.prog) = true := by kernel_rfl
theorem jf3 : (Tryz.f4.params.all (Tryz.prog.readableRec ·)) = true := by kernel_rfl
theorem jf4 : (namedTie Tryz.prog Rows.fnStepsJoinRow.named Rows.fnStepsJoinSpec.vars) = true := by kernel_rfl
theorem jf5 : ((Rows.fnStepsJoinRow.stops == [])) = true := by kernel_rfl
theorem jf6 : ((Tryz.prog.stops == [])) = true := by kernel_rfl
theorem jf7 : ((Rows.fnStepsJoinRow.knobs == [])) = true := by kernel_rfl
theorem jf8 : ((Tryz.prog.stopKnobs == [])) = true := by kernel_rfl
theorem jf9 : ((Rows.fnStepsJoinRow.inPlace == Tryz.prog.inPlace 4)) = true := by kernel_rfl
theorem Qnq : ((Rows.fnStepsJoinRow.unfollowed == Tryz.prog.unfollowed 4)) = true := by kernel_rfl
theorem Qnr : ((Rows.fnStepsJoinRow.recurses == Tryz.prog.recurses 4)) = true := by kernel_rfl
theorem Qns : ((Rows.fnStepsJoinRow.named == Tryz.prog.varsNamed 4)) = true := by kernel_rfl
theorem Qnt : ((Rows.fnStepsJoinRow.maps == (Tryz.f4.params.toList ++ Rows.fnStepsJoinSpec.plain.varTypes Tryz.prog).any (Tryz.prog.mapsRec ·))) = true := by kernel_rfl
theorem Qnu : ((Rows.fnStepsJoinRow.ifaces == (Tryz.f4.params.toList ++ Rows.fnStepsJoinSpec.plain.varTypes Tryz.prog).any (Tryz.prog.ifacesRec ·))) = true := by kernel_rfl
theorem Qnv : ((Rows.fnStepsJoinRow.mapsOut == Tryz.prog.mapsAmong Tryz.f4.resultTypes.toList)) = true := by kernel_rfl
theorem Qnw : ((Rows.fnStepsJoinRow.loops == (Tryz.f4.params.toList ++ Rows.fnStepsJoinSpec.plain.varTypes Tryz.prog).any (Tryz.prog.loopsFrom ·))) = true := by kernel_rfl
theorem Qnx : ((Rows.fnStepsJoinRow.wideKeys == (Tryz.f4.params.toList ++ Rows.fnStepsJoinSpec.plain.varTypes Tryz.prog ++ Tryz.f4.resultTypes.toList).any (Tryz.prog.wideKeysFrom ·))) = true := by kernel_rfl
theorem Qny : (Rows.fnStepsJoinSpec.vars.all (Tryz.prog.varReadable ·)) = true := by kernel_rfl
theorem Qnz : (Tryz.f4.resultTypes.all (fun t => Tryz.prog.readableRec t && decide (t < Tryz.prog.types.size))) = true := by kernel_rfl
theorem Qn0 : ((Rows.fnStepsJoinRow.ifacesOut == Tryz.f4.resultTypes.toList.any (Tryz.prog.ifacesRec ·))) = true := by kernel_rfl
theorem Qn1 : ((Rows.fnStepsJoinRow.loopsOut == Tryz.f4.resultTypes.toList.any (Tryz.prog.loopsFrom ·))) = true := by kernel_rfl
theorem Qn2 : ((Rows.fnStepsJoinRow.plainKeys == Tryz.prog.plainKeys)) = true := by kernel_rfl
theorem Qn3 : (Rows.fnStepsJoinRow.shortTexts.isNone) = true := by kernel_rfl
theorem Qn4 : (Tryz.prog.stopsHeard) = true := by kernel_rfl
theorem Qn5 : (Tryz.prog.mayEnter) = true := by kernel_rfl
theorem Qn6 : ((Rows.fnStepsJoinRow.lifted == Tryz.prog.liftsFinal)) = true := by kernel_rfl
theorem Qn7 : ((Tryz.prog.make == some Rows.fnStepsJoinRow.make)) = true := by kernel_rfl
theorem Qn8 : ((Rows.fnStepsJoinRow.kinds == (if Rows.fnStepsJoinRow.domain.isEmpty then [] else Tryz.f4.params.toList.map fun t => match Tryz.prog.underlying t with | some (.int k) => some k | _ => none))) = true := by kernel_rfl
theorem Qn9 : ((Rows.fnStepsJoinRow.pinned == Rows.fnStepsJoinRow.pinnedBy)) = true := by kernel_rfl
theorem Qoa : ((Rows.fnStepsJoinRow.veiled == (Tryz.f4.params.toList ++ Rows.fnStepsJoinSpec.plain.varTypes Tryz.prog ++ Tryz.f4.resultTypes.toList).any (Tryz.prog.veiledRec ·))) = true := by kernel_rfl
theorem Qob : (Rows.fnStepsJoinRow.veiledFits Tryz.prog Tryz.f4.params.toList (Tryz.f4.params.toList ++ Rows.fnStepsJoinSpec.plain.varTypes Tryz.prog ++ Tryz.f4.resultTypes.toList)) = true := by kernel_rfl
theorem Js {a b : Bool} (h : a = true) (h2 : b = true) : (a && b) = true := by rw [h, h2]; rfl
theorem closed : joinedFacts Tryz.prog 4 Tryz.f4 Rows.fnStepsJoinSpec Rows.fnStepsJoinRow = true := Js (Js (Js (Js (Js (Js (Js (Js (Js (Js (Js (Js (Js (Js (Js (Js (Js (Js (Js (Js (Js (Js (Js (Js (Js (Js (Js (Js (Js (Js (Js (jf0) jf1) jf2) jf3) jf4) jf5) jf6) jf7) jf8) jf9) Qnq) Qnr) Qns) Qnt) Qnu) Qnv) Qnw) Qnx) Qny) Qnz) Qn0) Qn1) Qn2) Qn3) Qn4) Qn5) Qn6) Qn7) Qn8) Qn9) Qoa) Qob
theorem cfn : Tryz.pinned.checked.prog.funcNamed "loop.example/macroexpander/laws.FnStepsJoin" = some 4 := by kernel_rfl
theorem cwf : Rows.fnStepsJoinRow.wfByText (OpenSpec.ofChange Rows.fnStepsJoinSpec) = true := by kernel_rfl
theorem Qlr : Tryz.pinned.checked.prog.mainIs = some (true, "423c2c7d68afba0ffc7a0a6a7d6deb34709c7d0ca110e35cb9337ed3a02ea184".toList) := by kernel_rfl
theorem Qlq : false = Tryz.pinned.checked.prog.looks [] := by kernel_rfl
theorem Qls : ([22].all fun u => !Tryz.prog.wantsStandIn u) = true := by kernel_rfl
theorem cgo : false = Rows.fnStepsJoinRow.goesBy Tryz.pinned.checked.prog := by kernel_rfl
end Go.Proofs.YtiiamkelehfnoaaGreatDoor
