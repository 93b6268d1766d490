/- Closed facts of the row of FnIntroducedBare, one by one: whole in one they outgrow the memory. -/
import Derived.Test.YtiiamkelehfnoaaGreatRows
import Derived.Test.YtiiamkelehfnoaaGreatChecked
import Derived.ProofKit
import Derived.LaidMore
import Derived.Stop.Joined
import Derived.SevenTiedAt
set_option maxRecDepth 100000
namespace Go.Proofs.YtiiamkelehfnoaaGreat
open Go Go.Proofs
open Go.ChangeShapes Go.WideShapes Go.ChangeAt Go.RowKit
theorem jf0 : (Rows.fnIntroducedBareRow.wf (OpenSpec.ofChange Rows.fnIntroducedBareSpec)) = true := by kernel_rfl
theorem jf1 : (laidOutB Tryz.prog) = true := by kernel_rfl
theorem jf2 : (mapsRowed Tryz.prog) = true := by kernel_rfl
theorem jf3 : (Tryz.f4.params.all (Tryz.prog.readableRec ·)) = true := by kernel_rfl
theorem jf4 : (namedTie Tryz.prog Rows.fnIntroducedBareRow.named Rows.fnIntroducedBareSpec.vars) = true := by kernel_rfl
theorem jf5 : ((Rows.fnIntroducedBareRow.stops == [])) = true := by kernel_rfl
theorem jf6 : ((Tryz.prog.stops == [])) = true := by kernel_rfl
theorem jf7 : ((Rows.fnIntroducedBareRow.knobs == [])) = true := by kernel_rfl
theorem jf8 : ((Tryz.prog.stopKnobs == [])) = true := by kernel_rfl
theorem jf9 : ((Rows.fnIntroducedBareRow.inPlace == Tryz.prog.inPlace 4)) = true := by kernel_rfl
theorem Qqa : ((Rows.fnIntroducedBareRow.unfollowed == Tryz.prog.unfollowed 4)) = true := by kernel_rfl
theorem Qqb : ((Rows.fnIntroducedBareRow.recurses == Tryz.prog.recurses 4)) = true := by kernel_rfl
theorem Qqc : ((Rows.fnIntroducedBareRow.named == Tryz.prog.varsNamed 4)) = true := by kernel_rfl
theorem Qqd : ((Rows.fnIntroducedBareRow.maps == (Tryz.f4.params.toList ++ Rows.fnIntroducedBareSpec.plain.varTypes Tryz.prog).any (Tryz.prog.mapsRec ·))) = true := by kernel_rfl
theorem Qqe : ((Rows.fnIntroducedBareRow.ifaces == (Tryz.f4.params.toList ++ Rows.fnIntroducedBareSpec.plain.varTypes Tryz.prog).any (Tryz.prog.ifacesRec ·))) = true := by kernel_rfl
theorem Qqf : ((Rows.fnIntroducedBareRow.mapsOut == Tryz.prog.mapsAmong Tryz.f4.resultTypes.toList)) = true := by kernel_rfl
theorem Qqg : ((Rows.fnIntroducedBareRow.loops == (Tryz.f4.params.toList ++ Rows.fnIntroducedBareSpec.plain.varTypes Tryz.prog).any (Tryz.prog.loopsFrom ·))) = true := by kernel_rfl
theorem Qqh : ((Rows.fnIntroducedBareRow.wideKeys == (Tryz.f4.params.toList ++ Rows.fnIntroducedBareSpec.plain.varTypes Tryz.prog ++ Tryz.f4.resultTypes.toList).any (Tryz.prog.wideKeysFrom ·))) = true := by kernel_rfl
theorem Qqi : (Rows.fnIntroducedBareSpec.vars.all (Tryz.prog.varReadable ·)) = true := by kernel_rfl
theorem Qqj : (Tryz.f4.resultTypes.all (fun t => Tryz.prog.readableRec t && decide (t < Tryz.prog.types.size))) = true := by kernel_rfl
theorem Qqk : ((Rows.fnIntroducedBareRow.ifacesOut == Tryz.f4.resultTypes.toList.any (Tryz.prog.ifacesRec ·))) = true := by kernel_rfl
theorem Qql : ((Rows.fnIntroducedBareRow.loopsOut == Tryz.f4.resultTypes.toList.any (Tryz.prog.loopsFrom ·))) = true := by kernel_rfl
theorem Qqm : ((Rows.fnIntroducedBareRow.plainKeys == Tryz.prog.plainKeys)) = true := by kernel_rfl
theorem Qqn : (Rows.fnIntroducedBareRow.shortTexts.isNone) = true := by kernel_rfl
theorem Qqo : (Tryz.prog.stopsHeard) = true := by kernel_rfl
theorem Qqp : (Tryz.prog.mayEnter) = true := by kernel_rfl
theorem Qqq : ((Rows.fnIntroducedBareRow.lifted == Tryz.prog.liftsFinal)) = true := by kernel_rfl
theorem Qqr : ((Tryz.prog.make == some Rows.fnIntroducedBareRow.make)) = true := by kernel_rfl
theorem Qqs : ((Rows.fnIntroducedBareRow.kinds == (if Rows.fnIntroducedBareRow.domain.isEmpty then [] else Tryz.f4.params.toList.map fun t => match Tryz.prog.underlying t with | some (.int k) => some k | _ => none))) = true := by kernel_rfl
theorem Qqt : ((Rows.fnIntroducedBareRow.pinned == Rows.fnIntroducedBareRow.pinnedBy)) = true := by kernel_rfl
theorem Qqu : ((Rows.fnIntroducedBareRow.veiled == (Tryz.f4.params.toList ++ Rows.fnIntroducedBareSpec.plain.varTypes Tryz.prog ++ Tryz.f4.resultTypes.toList).any (Tryz.prog.veiledRec ·))) = true := by kernel_rfl
theorem Qqv : (Rows.fnIntroducedBareRow.veiledFits Tryz.prog Tryz.f4.params.toList (Tryz.f4.params.toList ++ Rows.fnIntroducedBareSpec.plain.varTypes Tryz.prog ++ Tryz.f4.resultTypes.toList)) = true := by kernel_rfl
theorem JX {a b : Bool} (h : a = true) (h2 : b = true) : (a && b) = true := by rw [h, h2]; rfl
theorem closed : joinedFacts Tryz.prog 4 Tryz.f4 Rows.fnIntroducedBareSpec Rows.fnIntroducedBareRow = true := JX (JX (JX (JX (JX (JX (JX (JX (JX (JX (JX (JX (JX (JX (JX (JX (JX (JX (JX (JX (JX (JX (JX (JX (JX (JX (JX (JX (JX (JX (JX (jf0) jf1) jf2) jf3) jf4) jf5) jf6) jf7) jf8) jf9) Qqa) Qqb) Qqc) Qqd) Qqe) Qqf) Qqg) Qqh) Qqi) Qqj) Qqk) Qql) Qqm) Qqn) Qqo) Qqp) Qqq) Qqr) Qqs) Qqt) Qqu) Qqv
theorem cfn : Tryz.pinned.checked.prog.funcNamed "loop.example/macroexpander/laws.FnIntroducedBare" = some 4 := by kernel_rfl
end Go.Proofs.YtiiamkelehfnoaaGreat
