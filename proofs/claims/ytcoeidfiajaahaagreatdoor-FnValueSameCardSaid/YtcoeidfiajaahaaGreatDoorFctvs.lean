/- Closed facts of the row of FnValueSame, one by one: whole in one they outgrow the memory. -/
import Derived.Test.YtcoeidfiajaahaaGreatDoorRows
import Derived.Test.YtcoeidfiajaahaaGreatDoorChecked
import Derived.ProofKit
import Derived.LaidMore
import Derived.Stop.Joined
import Derived.SevenTiedAt
set_option maxRecDepth 100000
namespace Go.Proofs.YtcoeidfiajaahaaGreatDoor
open Go Go.Proofs
open Go.ChangeShapes Go.WideShapes Go.ChangeAt Go.RowKit
theorem jf0 : (Rows.fnValueSameRow.wf (OpenSpec.ofChange Rows.fnValueSameSpec)) = true := by kernel_rfl
theorem jf1 : (laidOutB Tryz.prog) = true := by kernel_rfl
theorem jf2 : (mapsRowed Tryz.prog) = true := by kernel_rfl
theorem jf3 : (Tryz.f6.params.all (Tryz.prog.readableRec ·)) = true := by kernel_rfl
theorem jf4 : (namedTie Tryz.prog Rows.fnValueSameRow.named Rows.fnValueSameSpec.vars) = true := by kernel_rfl
theorem jf5 : ((Rows.fnValueSameRow.stops == [])) = true := by kernel_rfl
theorem jf6 : ((Tryz.prog.stops == [])) = true := by kernel_rfl
theorem jf7 : ((Rows.fnValueSameRow.knobs == [])) = true := by kernel_rfl
theorem jf8 : ((Tryz.prog.stopKnobs == [])) = true := by kernel_rfl
theorem jf9 : ((Rows.fnValueSameRow.inPlace == Tryz.prog.inPlace 6)) = true := by kernel_rfl
theorem Kod : ((Rows.fnValueSameRow.unfollowed == Tryz.prog.unfollowed 6)) = true := by kernel_rfl
theorem Koe : ((Rows.fnValueSameRow.recurses == Tryz.prog.recurses 6)) = true := by kernel_rfl
theorem Kof : ((Rows.fnValueSameRow.named == Tryz.prog.varsNamed 6)) = true := by kernel_rfl
theorem Kog : ((Rows.fnValueSameRow.maps == (Tryz.f6.params.toList ++ Rows.fnValueSameSpec.plain.varTypes Tryz.prog).any (Tryz.prog.mapsRec ·))) = true := by kernel_rfl
theorem Koh : ((Rows.fnValueSameRow.ifaces == (Tryz.f6.params.toList ++ Rows.fnValueSameSpec.plain.varTypes Tryz.prog).any (Tryz.prog.ifacesRec ·))) = true := by kernel_rfl
theorem Koi : ((Rows.fnValueSameRow.mapsOut == Tryz.prog.mapsAmong Tryz.f6.resultTypes.toList)) = true := by kernel_rfl
theorem Koj : ((Rows.fnValueSameRow.loops == (Tryz.f6.params.toList ++ Rows.fnValueSameSpec.plain.varTypes Tryz.prog).any (Tryz.prog.loopsFrom ·))) = true := by kernel_rfl
theorem Kok : ((Rows.fnValueSameRow.wideKeys == (Tryz.f6.params.toList ++ Rows.fnValueSameSpec.plain.varTypes Tryz.prog ++ Tryz.f6.resultTypes.toList).any (Tryz.prog.wideKeysFrom ·))) = true := by kernel_rfl
theorem Kol : (Rows.fnValueSameSpec.vars.all (Tryz.prog.varReadable ·)) = true := by kernel_rfl
theorem Kom : (Tryz.f6.resultTypes.all (fun t => Tryz.prog.readableRec t && decide (t < Tryz.prog.types.size))) = true := by kernel_rfl
theorem Kon : ((Rows.fnValueSameRow.ifacesOut == Tryz.f6.resultTypes.toList.any (Tryz.prog.ifacesRec ·))) = true := by kernel_rfl
theorem Koo : ((Rows.fnValueSameRow.loopsOut == Tryz.f6.resultTypes.toList.any (Tryz.prog.loopsFrom ·))) = true := by kernel_rfl
theorem Kop : ((Rows.fnValueSameRow.plainKeys == Tryz.prog.plainKeys)) = true := by kernel_rfl
theorem Koq : (Rows.fnValueSameRow.shortTexts.isNone) = true := by kernel_rfl
theorem Kor : (Tryz.prog.stopsHeard) = true := by kernel_rfl
theorem Kos : (Tryz.prog.mayEnter) = true := by kernel_rfl
theorem Kot : ((Rows.fnValueSameRow.lifted == Tryz.prog.liftsFinal)) = true := by kernel_rfl
theorem Kou : ((Tryz.prog.make == some Rows.fnValueSameRow.make)) = true := by kernel_rfl
theorem Kov : ((Rows.fnValueSameRow.kinds == (if Rows.fnValueSameRow.domain.isEmpty then [] else Tryz.f6.params.toList.map fun t => match Tryz.prog.underlying t with | some (.int k) => some k | _ => none))) = true := by kernel_rfl
theorem Kow : ((Rows.fnValueSameRow.pinned == Rows.fnValueSameRow.pinnedBy)) = true := by kernel_rfl
theorem Kox : ((Rows.fnValueSameRow.veiled == (Tryz.f6.params.toList ++ Rows.fnValueSameSpec.plain.varTypes Tryz.prog ++ Tryz.f6.resultTypes.toList).any (Tryz.prog.veiledRec ·))) = true := by kernel_rfl
theorem Koy : (Rows.fnValueSameRow.veiledFits Tryz.prog Tryz.f6.params.toList (Tryz.f6.params.toList ++ Rows.fnValueSameSpec.plain.varTypes Tryz.prog ++ Tryz.f6.resultTypes.toList)) = true := by kernel_rfl
theorem Qfw {a b : Bool} (h : a = true) (h2 : b = true) : (a && b) = true := by rw [h, h2]; rfl
theorem closed : joinedFacts Tryz.prog 6 Tryz.f6 Rows.fnValueSameSpec Rows.fnValueSameRow = true := Qfw (Qfw (Qfw (Qfw (Qfw (Qfw (Qfw (Qfw (Qfw (Qfw (Qfw (Qfw (Qfw (Qfw (Qfw (Qfw (Qfw (Qfw (Qfw (Qfw (Qfw (Qfw (Qfw (Qfw (Qfw (Qfw (Qfw (Qfw (Qfw (Qfw (Qfw (jf0) jf1) jf2) jf3) jf4) jf5) jf6) jf7) jf8) jf9) Kod) Koe) Kof) Kog) Koh) Koi) Koj) Kok) Kol) Kom) Kon) Koo) Kop) Koq) Kor) Kos) Kot) Kou) Kov) Kow) Kox) Koy
theorem cfn : Tryz.pinned.checked.prog.funcNamed "loop.example/macroexpander/laws.FnValueSame" = some 6 := by kernel_rfl
theorem cwf : Rows.fnValueSameRow.wfByText (OpenSpec.ofChange Rows.fnValueSameSpec) = true := by kernel_rfl
theorem Kme : Tryz.pinned.checked.prog.mainIs = some (true, "fa057f95424cb042e65f7f54436fdc79576032aeddf680375e7ff57fcf0b42a4".toList) := by kernel_rfl
theorem Kmd : true = Tryz.pinned.checked.prog.looks [] := by kernel_rfl
theorem Kmf : ([22].all fun u => !Tryz.prog.wantsStandIn u) = true := by kernel_rfl
theorem cgo : false = Rows.fnValueSameRow.goesBy Tryz.pinned.checked.prog := by kernel_rfl
end Go.Proofs.YtcoeidfiajaahaaGreatDoor
