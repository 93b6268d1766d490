/- Closed facts of the row of FnEvalQuote, one by one: whole in one they outgrow the memory. -/
import Derived.Test.YthdghhllcllneaaGreatDoorRows
import Derived.Test.YthdghhllcllneaaGreatDoorChecked
import Derived.ProofKit
import Derived.LaidMore
import Derived.Stop.Joined
import Derived.SevenTiedAt
set_option maxRecDepth 100000
namespace Go.Proofs.YthdghhllcllneaaGreatDoor
open Go Go.Proofs
open Go.ChangeShapes Go.WideShapes Go.ChangeAt Go.RowKit
theorem jf0 : (Rows.fnEvalQuoteRow.wf (OpenSpec.ofChange Rows.fnEvalQuoteSpec)) = true := by kernel_rfl
theorem jf1 : (laidOutB Tryz.prog) = true := by kernel_rfl
theorem jf2 : (mapsRowed Tryz.prog) = true := by kernel_rfl
theorem jf3 : (Tryz.f3.params.all (Tryz.prog.readableRec ·)) = true := by kernel_rfl
theorem jf4 : (namedTie Tryz.prog Rows.fnEvalQuoteRow.named Rows.fnEvalQuoteSpec.vars) = true := by kernel_rfl
theorem jf5 : ((Rows.fnEvalQuoteRow.stops == [])) = true := by kernel_rfl
theorem jf6 : ((Tryz.prog.stops == [])) = true := by kernel_rfl
theorem jf7 : ((Rows.fnEvalQuoteRow.knobs == [])) = true := by kernel_rfl
theorem jf8 : ((Tryz.prog.stopKnobs == [])) = true := by kernel_rfl
theorem jf9 : ((Rows.fnEvalQuoteRow.inPlace == Tryz.prog.inPlace 3)) = true := by kernel_rfl
theorem Q5x : ((Rows.fnEvalQuoteRow.unfollowed == Tryz.prog.unfollowed 3)) = true := by kernel_rfl
theorem Q5y : ((Rows.fnEvalQuoteRow.recurses == Tryz.prog.recurses 3)) = true := by kernel_rfl
theorem Q5z : ((Rows.fnEvalQuoteRow.named == Tryz.prog.varsNamed 3)) = true := by kernel_rfl
theorem Q50 : ((Rows.fnEvalQuoteRow.maps == (Tryz.f3.params.toList ++ Rows.fnEvalQuoteSpec.plain.varTypes Tryz.prog).any (Tryz.prog.mapsRec ·))) = true := by kernel_rfl
theorem Q51 : ((Rows.fnEvalQuoteRow.ifaces == (Tryz.f3.params.toList ++ Rows.fnEvalQuoteSpec.plain.varTypes Tryz.prog).any (Tryz.prog.ifacesRec ·))) = true := by kernel_rfl
theorem Q52 : ((Rows.fnEvalQuoteRow.mapsOut == Tryz.prog.mapsAmong Tryz.f3.resultTypes.toList)) = true := by kernel_rfl
theorem Q53 : ((Rows.fnEvalQuoteRow.loops == (Tryz.f3.params.toList ++ Rows.fnEvalQuoteSpec.plain.varTypes Tryz.prog).any (Tryz.prog.loopsFrom ·))) = true := by kernel_rfl
theorem Q54 : ((Rows.fnEvalQuoteRow.wideKeys == (Tryz.f3.params.toList ++ Rows.fnEvalQuoteSpec.plain.varTypes Tryz.prog ++ Tryz.f3.resultTypes.toList).any (Tryz.prog.wideKeysFrom ·))) = true := by kernel_rfl
theorem Q55 : (Rows.fnEvalQuoteSpec.vars.all (Tryz.prog.varReadable ·)) = true := by kernel_rfl
theorem Q56 : (Tryz.f3.resultTypes.all (fun t => Tryz.prog.readableRec t && decide (t < Tryz.prog.types.size))) = true := by kernel_rfl
theorem Q57 : ((Rows.fnEvalQuoteRow.ifacesOut == Tryz.f3.resultTypes.toList.any (Tryz.prog.ifacesRec ·))) = true := by kernel_rfl
theorem Q58 : ((Rows.fnEvalQuoteRow.loopsOut == Tryz.f3.resultTypes.toList.any (Tryz.prog.loopsFrom ·))) = true := by kernel_rfl
theorem Q59 : ((Rows.fnEvalQuoteRow.plainKeys == Tryz.prog.plainKeys)) = true := by kernel_rfl
theorem Q6a : (Rows.fnEvalQuoteRow.shortTexts.isNone) = true := by kernel_rfl
theorem Q6b : (Tryz.prog.stopsHeard) = true := by kernel_rfl
theorem Q6c : (Tryz.prog.mayEnter) = true := by kernel_rfl
theorem Q6d : ((Rows.fnEvalQuoteRow.lifted == Tryz.prog.liftsFinal)) = true := by kernel_rfl
theorem Q6e : ((Tryz.prog.make == some Rows.fnEvalQuoteRow.make)) = true := by kernel_rfl
theorem Q6f : ((Rows.fnEvalQuoteRow.kinds == (if Rows.fnEvalQuoteRow.domain.isEmpty then [] else Tryz.f3.params.toList.map fun t => match Tryz.prog.underlying t with | some (.int k) => some k | _ => none))) = true := by kernel_rfl
theorem Q6g : ((Rows.fnEvalQuoteRow.pinned == Rows.fnEvalQuoteRow.pinnedBy)) = true := by kernel_rfl
theorem Q6h : ((Rows.fnEvalQuoteRow.veiled == (Tryz.f3.params.toList ++ Rows.fnEvalQuoteSpec.plain.varTypes Tryz.prog ++ Tryz.f3.resultTypes.toList).any (Tryz.prog.veiledRec ·))) = true := by kernel_rfl
theorem Q6i : (Rows.fnEvalQuoteRow.veiledFits Tryz.prog Tryz.f3.params.toList (Tryz.f3.params.toList ++ Rows.fnEvalQuoteSpec.plain.varTypes Tryz.prog ++ Tryz.f3.resultTypes.toList)) = true := by kernel_rfl
theorem Qdu {a b : Bool} (h : a = true) (h2 : b = true) : (a && b) = true := by rw [h, h2]; rfl
theorem closed : joinedFacts Tryz.prog 3 Tryz.f3 Rows.fnEvalQuoteSpec Rows.fnEvalQuoteRow = true := Qdu (Qdu (Qdu (Qdu (Qdu (Qdu (Qdu (Qdu (Qdu (Qdu (Qdu (Qdu (Qdu (Qdu (Qdu (Qdu (Qdu (Qdu (Qdu (Qdu (Qdu (Qdu (Qdu (Qdu (Qdu (Qdu (Qdu (Qdu (Qdu (Qdu (Qdu (jf0) jf1) jf2) jf3) jf4) jf5) jf6) jf7) jf8) jf9) Q5x) Q5y) Q5z) Q50) Q51) Q52) Q53) Q54) Q55) Q56) Q57) Q58) Q59) Q6a) Q6b) Q6c) Q6d) Q6e) Q6f) Q6g) Q6h) Q6i
theorem cfn : Tryz.pinned.checked.prog.funcNamed "loop.example/macroexpander/laws.FnEvalQuote" = some 3 := by kernel_rfl
theorem cwf : Rows.fnEvalQuoteRow.wfByText (OpenSpec.ofChange Rows.fnEvalQuoteSpec) = true := by kernel_rfl
theorem Q4f : Tryz.pinned.checked.prog.mainIs = some (true, "02d19772fd0d586253e4d51e133b5ed99c31dcb745055deca724cd1ab88338b7".toList) := by kernel_rfl
theorem Q4e : false = Tryz.pinned.checked.prog.looks [] := by kernel_rfl
theorem Q4g : ([22].all fun u => !Tryz.prog.wantsStandIn u) = true := by kernel_rfl
theorem cgo : false = Rows.fnEvalQuoteRow.goesBy Tryz.pinned.checked.prog := by kernel_rfl
end Go.Proofs.YthdghhllcllneaaGreatDoor
