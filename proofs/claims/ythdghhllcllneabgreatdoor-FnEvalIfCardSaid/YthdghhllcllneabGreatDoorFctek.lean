/- Closed facts of the row of FnEvalIf, one by one: whole in one they outgrow the memory. -/
import Derived.Test.YthdghhllcllneabGreatDoorRows
import Derived.Test.YthdghhllcllneabGreatDoorChecked
import Derived.ProofKit
import Derived.LaidMore
import Derived.Stop.Joined
import Derived.SevenTiedAt
set_option maxRecDepth 100000
namespace Go.Proofs.YthdghhllcllneabGreatDoor
open Go Go.Proofs
open Go.ChangeShapes Go.WideShapes Go.ChangeAt Go.RowKit
theorem jf0 : (Rows.fnEvalIfRow.wf (OpenSpec.ofChange Rows.fnEvalIfSpec)) = true := by kernel_rfl
theorem jf1 : (laidOutB Tryz.prog) = true := by kernel_rfl
theorem jf2 : (mapsRowed Tryz.prog) = true := by kernel_rfl
theorem jf3 : (Tryz.f3.params.all (Tryz.prog.readableRec ·)) = true := by kernel_rfl
theorem jf4 : (namedTie Tryz.prog Rows.fnEvalIfRow.named Rows.fnEvalIfSpec.vars) = true := by kernel_rfl
theorem jf5 : ((Rows.fnEvalIfRow.stops == [])) = true := by kernel_rfl
theorem jf6 : ((Tryz.prog.stops == [])) = true := by kernel_rfl
theorem jf7 : ((Rows.fnEvalIfRow.knobs == [])) = true := by kernel_rfl
theorem jf8 : ((Tryz.prog.stopKnobs == [])) = true := by kernel_rfl
theorem jf9 : ((Rows.fnEvalIfRow.inPlace == Tryz.prog.inPlace 3)) = true := by kernel_rfl
theorem Qv4 : ((Rows.fnEvalIfRow.unfollowed == Tryz.prog.unfollowed 3)) = true := by kernel_rfl
theorem Qv5 : ((Rows.fnEvalIfRow.recurses == Tryz.prog.recurses 3)) = true := by kernel_rfl
theorem Qv6 : ((Rows.fnEvalIfRow.named == Tryz.prog.varsNamed 3)) = true := by kernel_rfl
theorem Qv7 : ((Rows.fnEvalIfRow.maps == (Tryz.f3.params.toList ++ Rows.fnEvalIfSpec.plain.varTypes Tryz.prog).any (Tryz.prog.mapsRec ·))) = true := by kernel_rfl
theorem Qv8 : ((Rows.fnEvalIfRow.ifaces == (Tryz.f3.params.toList ++ Rows.fnEvalIfSpec.plain.varTypes Tryz.prog).any (Tryz.prog.ifacesRec ·))) = true := by kernel_rfl
theorem Qv9 : ((Rows.fnEvalIfRow.mapsOut == Tryz.prog.mapsAmong Tryz.f3.resultTypes.toList)) = true := by kernel_rfl
theorem Qwa : ((Rows.fnEvalIfRow.loops == (Tryz.f3.params.toList ++ Rows.fnEvalIfSpec.plain.varTypes Tryz.prog).any (Tryz.prog.loopsFrom ·))) = true := by kernel_rfl
theorem Qwb : ((Rows.fnEvalIfRow.wideKeys == (Tryz.f3.params.toList ++ Rows.fnEvalIfSpec.plain.varTypes Tryz.prog ++ Tryz.f3.resultTypes.toList).any (Tryz.prog.wideKeysFrom ·))) = true := by kernel_rfl
theorem Qwc : (Rows.fnEvalIfSpec.vars.all (Tryz.prog.varReadable ·)) = true := by kernel_rfl
theorem Qwd : (Tryz.f3.resultTypes.all (fun t => Tryz.prog.readableRec t && decide (t < Tryz.prog.types.size))) = true := by kernel_rfl
theorem Qwe : ((Rows.fnEvalIfRow.ifacesOut == Tryz.f3.resultTypes.toList.any (Tryz.prog.ifacesRec ·))) = true := by kernel_rfl
theorem Qwf : ((Rows.fnEvalIfRow.loopsOut == Tryz.f3.resultTypes.toList.any (Tryz.prog.loopsFrom ·))) = true := by kernel_rfl
theorem Qwg : ((Rows.fnEvalIfRow.plainKeys == Tryz.prog.plainKeys)) = true := by kernel_rfl
theorem Qwh : (Rows.fnEvalIfRow.shortTexts.isNone) = true := by kernel_rfl
theorem Qwi : (Tryz.prog.stopsHeard) = true := by kernel_rfl
theorem Qwj : (Tryz.prog.mayEnter) = true := by kernel_rfl
theorem Qwk : ((Rows.fnEvalIfRow.lifted == Tryz.prog.liftsFinal)) = true := by kernel_rfl
theorem Qwl : ((Tryz.prog.make == some Rows.fnEvalIfRow.make)) = true := by kernel_rfl
theorem Qwm : ((Rows.fnEvalIfRow.kinds == (if Rows.fnEvalIfRow.domain.isEmpty then [] else Tryz.f3.params.toList.map fun t => match Tryz.prog.underlying t with | some (.int k) => some k | _ => none))) = true := by kernel_rfl
theorem Qwn : ((Rows.fnEvalIfRow.pinned == Rows.fnEvalIfRow.pinnedBy)) = true := by kernel_rfl
theorem Qwo : ((Rows.fnEvalIfRow.veiled == (Tryz.f3.params.toList ++ Rows.fnEvalIfSpec.plain.varTypes Tryz.prog ++ Tryz.f3.resultTypes.toList).any (Tryz.prog.veiledRec ·))) = true := by kernel_rfl
theorem Qwp : (Rows.fnEvalIfRow.veiledFits Tryz.prog Tryz.f3.params.toList (Tryz.f3.params.toList ++ Rows.fnEvalIfSpec.plain.varTypes Tryz.prog ++ Tryz.f3.resultTypes.toList)) = true := by kernel_rfl
theorem GX {a b : Bool} (h : a = true) (h2 : b = true) : (a && b) = true := by rw [h, h2]; rfl
theorem closed : joinedFacts Tryz.prog 3 Tryz.f3 Rows.fnEvalIfSpec Rows.fnEvalIfRow = true := GX (GX (GX (GX (GX (GX (GX (GX (GX (GX (GX (GX (GX (GX (GX (GX (GX (GX (GX (GX (GX (GX (GX (GX (GX (GX (GX (GX (GX (GX (GX (jf0) jf1) jf2) jf3) jf4) jf5) jf6) jf7) jf8) jf9) Qv4) Qv5) Qv6) Qv7) Qv8) Qv9) Qwa) Qwb) Qwc) Qwd) Qwe) Qwf) Qwg) Qwh) Qwi) Qwj) Qwk) Qwl) Qwm) Qwn) Qwo) Qwp
theorem cfn : Tryz.pinned.checked.prog.funcNamed "loop.example/macroexpander/laws.FnEvalIf" = some 3 := by kernel_rfl
theorem cwf : Rows.fnEvalIfRow.wfByText (OpenSpec.ofChange Rows.fnEvalIfSpec) = true := by kernel_rfl
theorem Qtv : Tryz.pinned.checked.prog.mainIs = some (true, "daf132c624264ee97340ba860feaf8d1492f3a0c5640391e26fe05a92de9538c".toList) := by kernel_rfl
theorem Qtu : false = Tryz.pinned.checked.prog.looks [] := by kernel_rfl
theorem Qtw : ([22, 22].all fun u => !Tryz.prog.wantsStandIn u) = true := by kernel_rfl
theorem cgo : false = Rows.fnEvalIfRow.goesBy Tryz.pinned.checked.prog := by kernel_rfl
end Go.Proofs.YthdghhllcllneabGreatDoor
