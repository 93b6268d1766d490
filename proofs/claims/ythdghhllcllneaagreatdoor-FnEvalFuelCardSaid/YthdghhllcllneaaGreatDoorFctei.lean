/- Closed facts of the row of FnEvalFuel, one by one: whole in one they outgrow the memory. -/
import Derived.Test.YthdghhllcllneaaGreatDoorRows
import Derived.Test.YthdghhllcllneaaGreatDoorChecked
import Derived.ProofKit
import Derived.LaidMore
import Derived.Stop.Joined
import Derived.SevenTiedAt
set_option maxRecDepth 100000
namespace Go.Proofs.YthdghhllcllneaaGreatDoor
open Go Go.Proofs
open Go.ChangeShapes Go.WideShapes Go.ChangeAt Go.RowKit
theorem jf0 : (Rows.fnEvalFuelRow.wf (OpenSpec.ofChange Rows.fnEvalFuelSpec)) = true := by kernel_rfl
theorem jf1 : (laidOutB Tryz.prog) = true := by kernel_rfl
theorem jf2 : (mapsRowed Tryz.prog) = true := by kernel_rfl
theorem jf3 : (Tryz.f5.params.all (Tryz.prog.readableRec ·)) = true := by kernel_rfl
theorem jf4 : (namedTie Tryz.prog Rows.fnEvalFuelRow.named Rows.fnEvalFuelSpec.vars) = true := by kernel_rfl
theorem jf5 : ((Rows.fnEvalFuelRow.stops == [])) = true := by kernel_rfl
theorem jf6 : ((Tryz.prog.stops == [])) = true := by kernel_rfl
theorem jf7 : ((Rows.fnEvalFuelRow.knobs == [])) = true := by kernel_rfl
theorem jf8 : ((Tryz.prog.stopKnobs == [])) = true := by kernel_rfl
theorem jf9 : ((Rows.fnEvalFuelRow.inPlace == Tryz.prog.inPlace 5)) = true := by kernel_rfl
theorem Qvn : ((Rows.fnEvalFuelRow.unfollowed == Tryz.prog.unfollowed 5)) = true := by kernel_rfl
theorem Qvo : ((Rows.fnEvalFuelRow.recurses == Tryz.prog.recurses 5)) = true := by kernel_rfl
theorem Qvp : ((Rows.fnEvalFuelRow.named == Tryz.prog.varsNamed 5)) = true := by kernel_rfl
theorem Qvq : ((Rows.fnEvalFuelRow.maps == (Tryz.f5.params.toList ++ Rows.fnEvalFuelSpec.plain.varTypes Tryz.prog).any (Tryz.prog.mapsRec ·))) = true := by kernel_rfl
theorem Qvr : ((Rows.fnEvalFuelRow.ifaces == (Tryz.f5.params.toList ++ Rows.fnEvalFuelSpec.plain.varTypes Tryz.prog).any (Tryz.prog.ifacesRec ·))) = true := by kernel_rfl
theorem Qvs : ((Rows.fnEvalFuelRow.mapsOut == Tryz.prog.mapsAmong Tryz.f5.resultTypes.toList)) = true := by kernel_rfl
theorem Qvt : ((Rows.fnEvalFuelRow.loops == (Tryz.f5.params.toList ++ Rows.fnEvalFuelSpec.plain.varTypes Tryz.prog).any (Tryz.prog.loopsFrom ·))) = true := by kernel_rfl
theorem Qvu : ((Rows.fnEvalFuelRow.wideKeys == (Tryz.f5.params.toList ++ Rows.fnEvalFuelSpec.plain.varTypes Tryz.prog ++ Tryz.f5.resultTypes.toList).any (Tryz.prog.wideKeysFrom ·))) = true := by kernel_rfl
theorem Qvv : (Rows.fnEvalFuelSpec.vars.all (Tryz.prog.varReadable ·)) = true := by kernel_rfl
theorem Qvw : (Tryz.f5.resultTypes.all (fun t => Tryz.prog.readableRec t && decide (t < Tryz.prog.types.size))) = true := by kernel_rfl
theorem Qvx : ((Rows.fnEvalFuelRow.ifacesOut == Tryz.f5.resultTypes.toList.any (Tryz.prog.ifacesRec ·))) = true := by kernel_rfl
theorem Qvy : ((Rows.fnEvalFuelRow.loopsOut == Tryz.f5.resultTypes.toList.any (Tryz.prog.loopsFrom ·))) = true := by kernel_rfl
theorem Qvz : ((Rows.fnEvalFuelRow.plainKeys == Tryz.prog.plainKeys)) = true := by kernel_rfl
theorem Qv0 : (Rows.fnEvalFuelRow.shortTexts.isNone) = true := by kernel_rfl
theorem Qv1 : (Tryz.prog.stopsHeard) = true := by kernel_rfl
theorem Qv2 : (Tryz.prog.mayEnter) = true := by kernel_rfl
theorem Qv3 : ((Rows.fnEvalFuelRow.lifted == Tryz.prog.liftsFinal)) = true := by kernel_rfl
theorem Qv4 : ((Tryz.prog.make == some Rows.fnEvalFuelRow.make)) = true := by kernel_rfl
theorem Qv5 : ((Rows.fnEvalFuelRow.kinds == (if Rows.fnEvalFuelRow.domain.isEmpty then [] else Tryz.f5.params.toList.map fun t => match Tryz.prog.underlying t with | some (.int k) => some k | _ => none))) = true := by kernel_rfl
theorem Qv6 : ((Rows.fnEvalFuelRow.pinned == Rows.fnEvalFuelRow.pinnedBy)) = true := by kernel_rfl
theorem Qv7 : ((Rows.fnEvalFuelRow.veiled == (Tryz.f5.params.toList ++ Rows.fnEvalFuelSpec.plain.varTypes Tryz.prog ++ Tryz.f5.resultTypes.toList).any (Tryz.prog.veiledRec ·))) = true := by kernel_rfl
theorem Qv8 : (Rows.fnEvalFuelRow.veiledFits Tryz.prog Tryz.f5.params.toList (Tryz.f5.params.toList ++ Rows.fnEvalFuelSpec.plain.varTypes Tryz.prog ++ Tryz.f5.resultTypes.toList)) = true := by kernel_rfl
theorem GS {a b : Bool} (h : a = true) (h2 : b = true) : (a && b) = true := by rw [h, h2]; rfl
theorem closed : joinedFacts Tryz.prog 5 Tryz.f5 Rows.fnEvalFuelSpec Rows.fnEvalFuelRow = true := GS (GS (GS (GS (GS (GS (GS (GS (GS (GS (GS (GS (GS (GS (GS (GS (GS (GS (GS (GS (GS (GS (GS (GS (GS (GS (GS (GS (GS (GS (GS (jf0) jf1) jf2) jf3) jf4) jf5) jf6) jf7) jf8) jf9) Qvn) Qvo) Qvp) Qvq) Qvr) Qvs) Qvt) Qvu) Qvv) Qvw) Qvx) Qvy) Qvz) Qv0) Qv1) Qv2) Qv3) Qv4) Qv5) Qv6) Qv7) Qv8
theorem cfn : Tryz.pinned.checked.prog.funcNamed "loop.example/macroexpander/laws.FnEvalFuel" = some 5 := by kernel_rfl
theorem cwf : Rows.fnEvalFuelRow.wfByText (OpenSpec.ofChange Rows.fnEvalFuelSpec) = true := by kernel_rfl
theorem Qtf : Tryz.pinned.checked.prog.mainIs = some (true, "02d19772fd0d586253e4d51e133b5ed99c31dcb745055deca724cd1ab88338b7".toList) := by kernel_rfl
theorem Qte : false = Tryz.pinned.checked.prog.looks [] := by kernel_rfl
theorem Qtg : ([22].all fun u => !Tryz.prog.wantsStandIn u) = true := by kernel_rfl
theorem cgo : false = Rows.fnEvalFuelRow.goesBy Tryz.pinned.checked.prog := by kernel_rfl
end Go.Proofs.YthdghhllcllneaaGreatDoor
