/- Closed facts of the row of FnIntroducedNames, one by one: whole in one they outgrow the memory. -/
import Derived.Test.YtiiamkelehfnoaaGreatRows
import Derived.Test.YtiiamkelehfnoaaGreatChecked
import Derived.ProofKit
import Derived.LaidMore
import Derived.Stop.Joined
import Derived.SevenTiedAt
set_option maxRecDepth 100000
namespace Go.Proofs.YtiiamkelehfnoaaGreat
open Go Go.Proofs
open Go.ChangeShapes Go.WideShapes Go.ChangeAt Go.RowKit
theorem jf0 : (Rows.fnIntroducedNamesRow.wf (OpenSpec.ofChange Rows.fnIntroducedNamesSpec)) = true := by kernel_rfl
theorem jf1 : (laidOutB Tryz.prog) = true := by kernel_rfl
theorem jf2 : (mapsRowed Tryz.prog) = true := by kernel_rfl
theorem jf3 : (Tryz.f3.params.all (Tryz.prog.readableRec ·)) = true := by kernel_rfl
theorem jf4 : (namedTie Tryz.prog Rows.fnIntroducedNamesRow.named Rows.fnIntroducedNamesSpec.vars) = true := by kernel_rfl
theorem jf5 : ((Rows.fnIntroducedNamesRow.stops == [])) = true := by kernel_rfl
theorem jf6 : ((Tryz.prog.stops == [])) = true := by kernel_rfl
theorem jf7 : ((Rows.fnIntroducedNamesRow.knobs == [])) = true := by kernel_rfl
theorem jf8 : ((Tryz.prog.stopKnobs == [])) = true := by kernel_rfl
theorem jf9 : ((Rows.fnIntroducedNamesRow.inPlace == Tryz.prog.inPlace 3)) = true := by kernel_rfl
theorem Qn0 : ((Rows.fnIntroducedNamesRow.unfollowed == Tryz.prog.unfollowed 3)) = true := by kernel_rfl
theorem Qn1 : ((Rows.fnIntroducedNamesRow.recurses == Tryz.prog.recurses 3)) = true := by kernel_rfl
theorem Qn2 : ((Rows.fnIntroducedNamesRow.named == Tryz.prog.varsNamed 3)) = true := by kernel_rfl
theorem Qn3 : ((Rows.fnIntroducedNamesRow.maps == (Tryz.f3.params.toList ++ Rows.fnIntroducedNamesSpec.plain.varTypes Tryz.prog).any (Tryz.prog.mapsRec ·))) = true := by kernel_rfl
theorem Qn4 : ((Rows.fnIntroducedNamesRow.ifaces == (Tryz.f3.params.toList ++ Rows.fnIntroducedNamesSpec.plain.varTypes Tryz.prog).any (Tryz.prog.ifacesRec ·))) = true := by kernel_rfl
theorem Qn5 : ((Rows.fnIntroducedNamesRow.mapsOut == Tryz.prog.mapsAmong Tryz.f3.resultTypes.toList)) = true := by kernel_rfl
theorem Qn6 : ((Rows.fnIntroducedNamesRow.loops == (Tryz.f3.params.toList ++ Rows.fnIntroducedNamesSpec.plain.varTypes Tryz.prog).any (Tryz.prog.loopsFrom ·))) = true := by kernel_rfl
theorem Qn7 : ((Rows.fnIntroducedNamesRow.wideKeys == (Tryz.f3.params.toList ++ Rows.fnIntroducedNamesSpec.plain.varTypes Tryz.prog ++ Tryz.f3.resultTypes.toList).any (Tryz.prog.wideKeysFrom ·))) = true := by kernel_rfl
theorem Qn8 : (Rows.fnIntroducedNamesSpec.vars.all (Tryz.prog.varReadable ·)) = true := by kernel_rfl
theorem Qn9 : (Tryz.f3.resultTypes.all (fun t => Tryz.prog.readableRec t && decide (t < Tryz.prog.types.size))) = true := by kernel_rfl
theorem Qoa : ((Rows.fnIntroducedNamesRow.ifacesOut == Tryz.f3.resultTypes.toList.any (Tryz.prog.ifacesRec ·))) = true := by kernel_rfl
theorem Qob : ((Rows.fnIntroducedNamesRow.loopsOut == Tryz.f3.resultTypes.toList.any (Tryz.prog.loopsFrom ·))) = true := by kernel_rfl
theorem Qoc : ((Rows.fnIntroducedNamesRow.plainKeys == Tryz.prog.plainKeys)) = true := by kernel_rfl
theorem Qod : (Rows.fnIntroducedNamesRow.shortTexts.isNone) = true := by kernel_rfl
theorem Qoe : (Tryz.prog.stopsHeard) = true := by kernel_rfl
theorem Qof : (Tryz.prog.mayEnter) = true := by kernel_rfl
theorem Qog : ((Rows.fnIntroducedNamesRow.lifted == Tryz.prog.liftsFinal)) = true := by kernel_rfl
theorem Qoh : ((Tryz.prog.make == some Rows.fnIntroducedNamesRow.make)) = true := by kernel_rfl
theorem Qoi : ((Rows.fnIntroducedNamesRow.kinds == (if Rows.fnIntroducedNamesRow.domain.isEmpty then [] else Tryz.f3.params.toList.map fun t => match Tryz.prog.underlying t with | some (.int k) => some k | _ => none))) = true := by kernel_rfl
theorem Qoj : ((Rows.fnIntroducedNamesRow.pinned == Rows.fnIntroducedNamesRow.pinnedBy)) = true := by kernel_rfl
theorem Qok : ((Rows.fnIntroducedNamesRow.veiled == (Tryz.f3.params.toList ++ Rows.fnIntroducedNamesSpec.plain.varTypes Tryz.prog ++ Tryz.f3.resultTypes.toList).any (Tryz.prog.veiledRec ·))) = true := by kernel_rfl
theorem Qol : (Rows.fnIntroducedNamesRow.veiledFits Tryz.prog Tryz.f3.params.toList (Tryz.f3.params.toList ++ Rows.fnIntroducedNamesSpec.plain.varTypes Tryz.prog ++ Tryz.f3.resultTypes.toList)) = true := by kernel_rfl
theorem JN {a b : Bool} (h : a = true) (h2 : b = true) : (a && b) = true := by rw [h, h2]; rfl
theorem closed : joinedFacts Tryz.prog 3 Tryz.f3 Rows.fnIntroducedNamesSpec Rows.fnIntroducedNamesRow = true := JN (JN (JN (JN (JN (JN (JN (JN (JN (JN (JN (JN (JN (JN (JN (JN (JN (JN (JN (JN (JN (JN (JN (JN (JN (JN (JN (JN (JN (JN (JN (jf0) jf1) jf2) jf3) jf4) jf5) jf6) jf7) jf8) jf9) Qn0) Qn1) Qn2) Qn3) Qn4) Qn5) Qn6) Qn7) Qn8) Qn9) Qoa) Qob) Qoc) Qod) Qoe) Qof) Qog) Qoh) Qoi) Qoj) Qok) Qol
theorem cfn : Tryz.pinned.checked.prog.funcNamed "loop.example/macroexpander/laws.FnIntroducedNames" = some 3 := by kernel_rfl
end Go.Proofs.YtiiamkelehfnoaaGreat
