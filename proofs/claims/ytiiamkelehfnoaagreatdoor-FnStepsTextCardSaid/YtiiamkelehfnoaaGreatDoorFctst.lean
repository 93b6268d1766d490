/- Closed facts of the row of FnStepsText, one by one: whole in one they outgrow the memory. -/
import Derived.Test.YtiiamkelehfnoaaGreatDoorRows
import Derived.Test.YtiiamkelehfnoaaGreatDoorChecked
import Derived.ProofKit
import Derived.LaidMore
import Derived.Stop.Joined
import Derived.SevenTiedAt
set_option maxRecDepth 100000
namespace Go.Proofs.YtiiamkelehfnoaaGreatDoor
open Go Go.Proofs
open Go.ChangeShapes Go.WideShapes Go.ChangeAt Go.RowKit
theorem jf0 : (Rows.fnStepsTextRow.wf (OpenSpec.ofChange Rows.fnStepsTextSpec)) = true := by kernel_rfl
theorem jf1 : (laidOutB Tryz.prog) = true := by kernel_rfl
theorem jf2 : (mapsRowed Tryz.prog) = true := by kernel_rfl
theorem jf3 : (Tryz.f3.params.all (Tryz.prog.readableRec ·)) = true := by kernel_rfl
theorem jf4 : (namedTie Tryz.prog Rows.fnStepsTextRow.named Rows.fnStepsTextSpec.vars) = true := by kernel_rfl
theorem jf5 : ((Rows.fnStepsTextRow.stops == [])) = true := by kernel_rfl
theorem jf6 : ((Tryz.prog.stops == [])) = true := by kernel_rfl
theorem jf7 : ((Rows.fnStepsTextRow.knobs == [])) = true := by kernel_rfl
theorem jf8 : ((Tryz.prog.stopKnobs == [])) = true := by kernel_rfl
theorem jf9 : ((Rows.fnStepsTextRow.inPlace == Tryz.prog.inPlace 3)) = true := by kernel_rfl
theorem Qnm : ((Rows.fnStepsTextRow.unfollowed == Tryz.prog.unfollowed 3)) = true := by kernel_rfl
theorem Qnn : ((Rows.fnStepsTextRow.recurses == Tryz.prog.recurses 3)) = true := by kernel_rfl
theorem Qno : ((Rows.fnStepsTextRow.named == Tryz.prog.varsNamed 3)) = true := by kernel_rfl
theorem Qnp : ((Rows.fnStepsTextRow.maps == (Tryz.f3.params.toList ++ Rows.fnStepsTextSpec.plain.varTypes Tryz.prog).any (Tryz.prog.mapsRec ·))) = true := by kernel_rfl
theorem Qnq : ((Rows.fnStepsTextRow.ifaces == (Tryz.f3.params.toList ++ Rows.fnStepsTextSpec.plain.varTypes Tryz.prog).any (Tryz.prog.ifacesRec ·))) = true := by kernel_rfl
theorem Qnr : ((Rows.fnStepsTextRow.mapsOut == Tryz.prog.mapsAmong Tryz.f3.resultTypes.toList)) = true := by kernel_rfl
theorem Qns : ((Rows.fnStepsTextRow.loops == (Tryz.f3.params.toList ++ Rows.fnStepsTextSpec.plain.varTypes Tryz.prog).any (Tryz.prog.loopsFrom ·))) = true := by kernel_rfl
theorem Qnt : ((Rows.fnStepsTextRow.wideKeys == (Tryz.f3.params.toList ++ Rows.fnStepsTextSpec.plain.varTypes Tryz.prog ++ Tryz.f3.resultTypes.toList).any (Tryz.prog.wideKeysFrom ·))) = true := by kernel_rfl
theorem Qnu : (Rows.fnStepsTextSpec.vars.all (Tryz.prog.varReadable ·)) = true := by kernel_rfl
theorem Qnv : (Tryz.f3.resultTypes.all (fun t => Tryz.prog.readableRec t && decide (t < Tryz.prog.types.size))) = true := by kernel_rfl
theorem Qnw : ((Rows.fnStepsTextRow.ifacesOut == Tryz.f3.resultTypes.toList.any (Tryz.prog.ifacesRec ·))) = true := by kernel_rfl
theorem Qnx : ((Rows.fnStepsTextRow.loopsOut == Tryz.f3.resultTypes.toList.any (Tryz.prog.loopsFrom ·))) = true := by kernel_rfl
theorem Qny : ((Rows.fnStepsTextRow.plainKeys == Tryz.prog.plainKeys)) = true := by kernel_rfl
theorem Qnz : (Rows.fnStepsTextRow.shortTexts.isNone) = true := by kernel_rfl
theorem Qn0 : (Tryz.prog.stopsHeard) = true := by kernel_rfl
theorem Qn1 : (Tryz.prog.mayEnter) = true := by kernel_rfl
theorem Qn2 : ((Rows.fnStepsTextRow.lifted == Tryz.prog.liftsFinal)) = true := by kernel_rfl
theorem Qn3 : ((Tryz.prog.make == some Rows.fnStepsTextRow.make)) = true := by kernel_rfl
theorem Qn4 : ((Rows.fnStepsTextRow.kinds == (if Rows.fnStepsTextRow.domain.isEmpty then [] else Tryz.f3.params.toList.map fun t => match Tryz.prog.underlying t with | some (.int k) => some k | _ => none))) = true := by kernel_rfl
theorem Qn5 : ((Rows.fnStepsTextRow.pinned == Rows.fnStepsTextRow.pinnedBy)) = true := by kernel_rfl
theorem Qn6 : ((Rows.fnStepsTextRow.veiled == (Tryz.f3.params.toList ++ Rows.fnStepsTextSpec.plain.varTypes Tryz.prog ++ Tryz.f3.resultTypes.toList).any (Tryz.prog.veiledRec ·))) = true := by kernel_rfl
theorem Qn7 : (Rows.fnStepsTextRow.veiledFits Tryz.prog Tryz.f3.params.toList (Tryz.f3.params.toList ++ Rows.fnStepsTextSpec.plain.varTypes Tryz.prog ++ Tryz.f3.resultTypes.toList)) = true := by kernel_rfl
theorem Jq {a b : Bool} (h : a = true) (h2 : b = true) : (a && b) = true := by rw [h, h2]; rfl
theorem closed : joinedFacts Tryz.prog 3 Tryz.f3 Rows.fnStepsTextSpec Rows.fnStepsTextRow = true := Jq (Jq (Jq (Jq (Jq (Jq (Jq (Jq (Jq (Jq (Jq (Jq (Jq (Jq (Jq (Jq (Jq (Jq (Jq (Jq (Jq (Jq (Jq (Jq (Jq (Jq (Jq (Jq (Jq (Jq (Jq (jf0) jf1) jf2) jf3) jf4) jf5) jf6) jf7) jf8) jf9) Qnm) Qnn) Qno) Qnp) Qnq) Qnr) Qns) Qnt) Qnu) Qnv) Qnw) Qnx) Qny) Qnz) Qn0) Qn1) Qn2) Qn3) Qn4) Qn5) Qn6) Qn7
theorem cfn : Tryz.pinned.checked.prog.funcNamed "loop.example/macroexpander/laws.FnStepsText" = some 3 := by kernel_rfl
theorem cwf : Rows.fnStepsTextRow.wfByText (OpenSpec.ofChange Rows.fnStepsTextSpec) = true := by kernel_rfl
theorem Qlm : Tryz.pinned.checked.prog.mainIs = some (true, "423c2c7d68afba0ffc7a0a6a7d6deb34709c7d0ca110e35cb9337ed3a02ea184".toList) := by kernel_rfl
theorem Qll : false = Tryz.pinned.checked.prog.looks [] := by kernel_rfl
theorem Qln : ([22].all fun u => !Tryz.prog.wantsStandIn u) = true := by kernel_rfl
theorem cgo : false = Rows.fnStepsTextRow.goesBy Tryz.pinned.checked.prog := by kernel_rfl
end Go.Proofs.YtiiamkelehfnoaaGreatDoor
