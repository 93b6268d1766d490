/- Closed facts of the row of FnMeaningOf, one by one: whole in one they outgrow the memory. -/
import Derived.Test.YtiiamkelehfnoaaGreatRows
import Derived.Test.YtiiamkelehfnoaaGreatChecked
import Derived.ProofKit
import Derived.LaidMore
import Derived.Stop.Joined
import Derived.SevenTiedAt
set_option maxRecDepth 100000
namespace Go.Proofs.YtiiamkelehfnoaaGreat
open Go Go.Proofs
open Go.ChangeShapes Go.WideShapes Go.ChangeAt Go.RowKit
theorem jf0 : (Rows.fnMeaningOfRow.wf (OpenSpec.ofChange Rows.fnMeaningOfSpec)) = true := by kernel_rfl
theorem jf1 : (laidOutB Tryz.prog) = true := by kernel_rfl
theorem jf2 : (mapsRowed Tryz.prog) = true := by kernel_rfl
theorem jf3 : (Tryz.f5.params.all (Tryz.prog.readableRec ·)) = true := by kernel_rfl
theorem jf4 : (namedTie Tryz.prog Rows.fnMeaningOfRow.named Rows.fnMeaningOfSpec.vars) = true := by kernel_rfl
theorem jf5 : ((Rows.fnMeaningOfRow.stops == [])) = true := by kernel_rfl
theorem jf6 : ((Tryz.prog.stops == [])) = true := by kernel_rfl
theorem jf7 : ((Rows.fnMeaningOfRow.knobs == [])) = true := by kernel_rfl
theorem jf8 : ((Tryz.prog.stopKnobs == [])) = true := by kernel_rfl
theorem jf9 : ((Rows.fnMeaningOfRow.inPlace == Tryz.prog.inPlace 5)) = true := by kernel_rfl
theorem Qtn : ((Rows.fnMeaningOfRow.unfollowed == Tryz.prog.unfollowed 5)) = true := by kernel_rfl
theorem Qto : ((Rows.fnMeaningOfRow.recurses == Tryz.prog.recurses 5)) = true := by kernel_rfl
theorem Qtp : ((Rows.fnMeaningOfRow.named == Tryz.prog.varsNamed 5)) = true := by kernel_rfl
theorem Qtq : ((Rows.fnMeaningOfRow.maps == (Tryz.f5.params.toList ++ Rows.fnMeaningOfSpec.plain.varTypes Tryz.prog).any (Tryz.prog.mapsRec ·))) = true := by kernel_rfl
theorem Qtr : ((Rows.fnMeaningOfRow.ifaces == (Tryz.f5.params.toList ++ Rows.fnMeaningOfSpec.plain.varTypes Tryz.prog).any (Tryz.prog.ifacesRec ·))) = true := by kernel_rfl
theorem Qts : ((Rows.fnMeaningOfRow.mapsOut == Tryz.prog.mapsAmong Tryz.f5.resultTypes.toList)) = true := by kernel_rfl
theorem Qtt : ((Rows.fnMeaningOfRow.loops == (Tryz.f5.params.toList ++ Rows.fnMeaningOfSpec.plain.varTypes Tryz.prog).any (Tryz.prog.loopsFrom ·))) = true := by kernel_rfl
theorem Qtu : ((Rows.fnMeaningOfRow.wideKeys == (Tryz.f5.params.toList ++ Rows.fnMeaningOfSpec.plain.varTypes Tryz.prog ++ Tryz.f5.resultTypes.toList).any (Tryz.prog.wideKeysFrom ·))) = true := by kernel_rfl
theorem Qtv : (Rows.fnMeaningOfSpec.vars.all (Tryz.prog.varReadable ·)) = true := by kernel_rfl
theorem Qtw : (Tryz.f5.resultTypes.all (fun t => Tryz.prog.readableRec t && decide (t < Tryz.prog.types.size))) = true := by kernel_rfl
theorem Qtx : ((Rows.fnMeaningOfRow.ifacesOut == Tryz.f5.resultTypes.toList.any (Tryz.prog.ifacesRec ·))) = true := by kernel_rfl
theorem Qty : ((Rows.fnMeaningOfRow.loopsOut == Tryz.f5.resultTypes.toList.any (Tryz.prog.loopsFrom ·))) = true := by kernel_rfl
theorem Qtz : ((Rows.fnMeaningOfRow.plainKeys == Tryz.prog.plainKeys)) = true := by kernel_rfl
theorem Qt0 : (Rows.fnMeaningOfRow.shortTexts.isNone) = true := by kernel_rfl
theorem Qt1 : (Tryz.prog.stopsHeard) = true := by kernel_rfl
theorem Qt2 : (Tryz.prog.mayEnter) = true := by kernel_rfl
theorem Qt3 : ((Rows.fnMeaningOfRow.lifted == Tryz.prog.liftsFinal)) = true := by kernel_rfl
theorem Qt4 : ((Tryz.prog.make == some Rows.fnMeaningOfRow.make)) = true := by kernel_rfl
theorem Qt5 : ((Rows.fnMeaningOfRow.kinds == (if Rows.fnMeaningOfRow.domain.isEmpty then [] else Tryz.f5.params.toList.map fun t => match Tryz.prog.underlying t with | some (.int k) => some k | _ => none))) = true := by kernel_rfl
theorem Qt6 : ((Rows.fnMeaningOfRow.pinned == Rows.fnMeaningOfRow.pinnedBy)) = true := by kernel_rfl
theorem Qt7 : ((Rows.fnMeaningOfRow.veiled == (Tryz.f5.params.toList ++ Rows.fnMeaningOfSpec.plain.varTypes Tryz.prog ++ Tryz.f5.resultTypes.toList).any (Tryz.prog.veiledRec ·))) = true := by kernel_rfl
theorem Qt8 : (Rows.fnMeaningOfRow.veiledFits Tryz.prog Tryz.f5.params.toList (Tryz.f5.params.toList ++ Rows.fnMeaningOfSpec.plain.varTypes Tryz.prog ++ Tryz.f5.resultTypes.toList)) = true := by kernel_rfl
theorem GR {a b : Bool} (h : a = true) (h2 : b = true) : (a && b) = true := by rw [h, h2]; rfl
theorem closed : joinedFacts Tryz.prog 5 Tryz.f5 Rows.fnMeaningOfSpec Rows.fnMeaningOfRow = true := GR (GR (GR (GR (GR (GR (GR (GR (GR (GR (GR (GR (GR (GR (GR (GR (GR (GR (GR (GR (GR (GR (GR (GR (GR (GR (GR (GR (GR (GR (GR (jf0) jf1) jf2) jf3) jf4) jf5) jf6) jf7) jf8) jf9) Qtn) Qto) Qtp) Qtq) Qtr) Qts) Qtt) Qtu) Qtv) Qtw) Qtx) Qty) Qtz) Qt0) Qt1) Qt2) Qt3) Qt4) Qt5) Qt6) Qt7) Qt8
theorem cfn : Tryz.pinned.checked.prog.funcNamed "loop.example/macroexpander/laws.FnMeaningOf" = some 5 := by kernel_rfl
end Go.Proofs.YtiiamkelehfnoaaGreat
