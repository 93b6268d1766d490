/- The closed facts of the types of Tryz. -/
import Derived.Test.YtiiamkelehfnoaaGreatShM
import Derived.Test.YtiiamkelehfnoaaGreatProg
namespace Go.Proofs.SA
open Go Go.Proofs Go.Proofs.Shadow
theorem mixed : Tryz.prog.follows .mixedOrders = true := by kernel_rfl
theorem tk3 : tk Tryz.prog 3 = some (false, 1) := by kernel_rfl
theorem tz3 : tz Tryz.prog 3 = some [(.int .i64 0)] := by kernel_rfl
theorem ik3 : ik Tryz.prog 3 = some .i64 := by kernel_rfl
theorem Qp4 : isB Tryz.prog 3 = false := by kernel_rfl
theorem Qp8 : isS Tryz.prog 3 = false := by kernel_rfl
theorem Qp5 : isB Tryz.prog 4 = true := by kernel_rfl
theorem tk5 : tk Tryz.prog 5 = some (false, 1) := by kernel_rfl
theorem Qp6 : isB Tryz.prog 5 = false := by kernel_rfl
theorem Qm0 : Sl Tryz.prog 5 = false := by kernel_rfl
theorem Qol : Qmp Tryz.prog 5 = true := by kernel_rfl
theorem tk9 : tk Tryz.prog 9 = some (false, 1) := by kernel_rfl
theorem tz9 : tz Tryz.prog 9 = some [(.str (ByteArray.mk #[]))] := by kernel_rfl
theorem Qp7 : isB Tryz.prog 9 = false := by kernel_rfl
theorem Qp9 : isS Tryz.prog 9 = true := by kernel_rfl
theorem Qra : tk Tryz.prog 22 = some (false, 1) := by kernel_rfl
theorem Qq0 : se Tryz.prog 22 = some (5, (1, 1)) := by kernel_rfl
theorem Qor : isS Tryz.prog 22 = false := by kernel_rfl
theorem Qrb : tk Tryz.prog 23 = some (false, 1) := by kernel_rfl
theorem Qq1 : se Tryz.prog 23 = some (3, (1, 8)) := by kernel_rfl
theorem Qrl : tz Tryz.prog 23 = some [.Ya] := by kernel_rfl
theorem Qop : isB Tryz.prog 23 = false := by kernel_rfl
theorem Qos : isS Tryz.prog 23 = false := by kernel_rfl
theorem Qrc : tk Tryz.prog 24 = some (false, 1) := by kernel_rfl
theorem Qq2 : se Tryz.prog 24 = some (26, (5, 80)) := by kernel_rfl
theorem Qrm : tz Tryz.prog 24 = some [.Ya] := by kernel_rfl
theorem Qot : isS Tryz.prog 24 = false := by kernel_rfl
theorem Qrd : tk Tryz.prog 26 = some (true, 5) := by kernel_rfl
theorem Qrn : tz Tryz.prog 26 = some [(.int .i64 0), (.str (ByteArray.mk #[])), (.int .i64 0), .Ya, .Ya] := by kernel_rfl
theorem Qob : fps Tryz.prog 26 = some [(0, 1), (1, 1), (2, 1), (3, 1), (4, 1)] := by kernel_rfl
theorem Qly : fo Tryz.prog 26 0 = some 0 := by kernel_rfl
theorem Qlz : fo Tryz.prog 26 1 = some 1 := by kernel_rfl
theorem Ql0 : fo Tryz.prog 26 2 = some 2 := by kernel_rfl
theorem Ql1 : fo Tryz.prog 26 3 = some 3 := by kernel_rfl
theorem Ql2 : fo Tryz.prog 26 4 = some 4 := by kernel_rfl
theorem Qre : tk Tryz.prog 28 = some (true, 13) := by kernel_rfl
theorem Qro : tz Tryz.prog 28 = some [(.int .i64 0), (.int .i64 0), (.int .i64 0), (.int .i64 0), (.str (ByteArray.mk #[])), (.int .i64 0), .Ya, .Ya, (.int .i64 0), (.str (ByteArray.mk #[])), (.int .i64 0), .Ya, .Ya] := by kernel_rfl
theorem Qoc : fps Tryz.prog 28 = some [(0, 1), (1, 1), (2, 1), (3, 5), (8, 5)] := by kernel_rfl
theorem Ql3 : fo Tryz.prog 28 2 = some 2 := by kernel_rfl
theorem Ql4 : fo Tryz.prog 28 3 = some 3 := by kernel_rfl
theorem Ql5 : fo Tryz.prog 28 4 = some 8 := by kernel_rfl
theorem Qrf : tk Tryz.prog 39 = some (false, 1) := by kernel_rfl
theorem Qq3 : se Tryz.prog 39 = some (75, (3, 48)) := by kernel_rfl
theorem Qou : isS Tryz.prog 39 = false := by kernel_rfl
theorem Qrg : tk Tryz.prog 40 = some (false, 1) := by kernel_rfl
theorem Qq4 : se Tryz.prog 40 = some (49, (3, 56)) := by kernel_rfl
theorem Qov : isS Tryz.prog 40 = false := by kernel_rfl
theorem Qrh : tk Tryz.prog 42 = some (true, 5) := by kernel_rfl
theorem Qrp : tz Tryz.prog 42 = some [.Ya, .Ya, (.int .i64 0), (.int .i64 0), (.int .i64 0)] := by kernel_rfl
theorem Qod : fps Tryz.prog 42 = some [(0, 1), (1, 1), (2, 1), (3, 1), (4, 1)] := by kernel_rfl
theorem Ql6 : fo Tryz.prog 42 0 = some 0 := by kernel_rfl
theorem Ql7 : fo Tryz.prog 42 1 = some 1 := by kernel_rfl
theorem Ql8 : fo Tryz.prog 42 2 = some 2 := by kernel_rfl
theorem Ql9 : fo Tryz.prog 42 3 = some 3 := by kernel_rfl
theorem Qma : fo Tryz.prog 42 4 = some 4 := by kernel_rfl
theorem Qri : tk Tryz.prog 47 = some (false, 1) := by kernel_rfl
theorem Qq5 : se Tryz.prog 47 = some (116, (10, 160)) := by kernel_rfl
theorem Qow : isS Tryz.prog 47 = false := by kernel_rfl
theorem Qrj : tk Tryz.prog 49 = some (true, 3) := by kernel_rfl
theorem Qrq : tz Tryz.prog 49 = some [(.int .i64 0), .Ya, .Ya] := by kernel_rfl
theorem Qoe : fps Tryz.prog 49 = some [(0, 1), (1, 1), (2, 1)] := by kernel_rfl
theorem Qmb : fo Tryz.prog 49 0 = some 0 := by kernel_rfl
theorem Qmc : fo Tryz.prog 49 1 = some 1 := by kernel_rfl
theorem Qmd : fo Tryz.prog 49 2 = some 2 := by kernel_rfl
theorem Qq6 : se Tryz.prog 52 = some (28, (13, 184)) := by kernel_rfl
theorem Qox : isS Tryz.prog 52 = false := by kernel_rfl
theorem Qrk : tk Tryz.prog 75 = some (true, 3) := by kernel_rfl
theorem Qrr : tz Tryz.prog 75 = some [(.str (ByteArray.mk #[])), .Ya, (.int .i64 0)] := by kernel_rfl
theorem Qof : fps Tryz.prog 75 = some [(0, 1), (1, 1), (2, 1)] := by kernel_rfl
theorem Qme : fo Tryz.prog 75 0 = some 0 := by kernel_rfl
theorem Qmf : fo Tryz.prog 75 1 = some 1 := by kernel_rfl
theorem Qmg : fo Tryz.prog 75 2 = some 2 := by kernel_rfl
theorem Qq7 : se Tryz.prog 78 = some (9, (1, 16)) := by kernel_rfl
theorem Qoy : isS Tryz.prog 78 = false := by kernel_rfl
theorem Qq8 : se Tryz.prog 87 = some (23, (1, 24)) := by kernel_rfl
theorem Qoz : isS Tryz.prog 87 = false := by kernel_rfl
theorem Qrs : tz Tryz.prog 89 = some [.Ya, (.int .i64 0)] := by kernel_rfl
theorem Qog : fps Tryz.prog 89 = some [(0, 1), (1, 1)] := by kernel_rfl
theorem Qmh : fo Tryz.prog 89 0 = some 0 := by kernel_rfl
theorem Qmi : fo Tryz.prog 89 1 = some 1 := by kernel_rfl
theorem Qph : tk Tryz.prog 116 = some (true, 10) := by kernel_rfl
theorem Qpm : tz Tryz.prog 116 = some [(.int .i64 0), (.str (ByteArray.mk #[])), (.int .i64 0), .Ya, .Ya, (.int .i64 0), (.str (ByteArray.mk #[])), (.int .i64 0), .Ya, .Ya] := by kernel_rfl
theorem Qmk : fps Tryz.prog 116 = some [(0, 5), (5, 5)] := by kernel_rfl
theorem Qi1 : fo Tryz.prog 116 0 = some 0 := by kernel_rfl
theorem Qi2 : fo Tryz.prog 116 1 = some 5 := by kernel_rfl
theorem Qpi : tk Tryz.prog 134 = some (false, 1) := by kernel_rfl
theorem Qpa : se Tryz.prog 134 = some (136, (11, 168)) := by kernel_rfl
theorem Qmx : isS Tryz.prog 134 = false := by kernel_rfl
theorem Qpj : tk Tryz.prog 136 = some (true, 11) := by kernel_rfl
theorem Qpn : tz Tryz.prog 136 = some [(.int .i64 0), (.int .i64 0), (.str (ByteArray.mk #[])), (.int .i64 0), .Ya, (.int .i64 0), (.str (ByteArray.mk #[])), (.int .i64 0), .Ya, .Ya, .Ya] := by kernel_rfl
theorem Qml : fps Tryz.prog 136 = some [(0, 1), (1, 1), (2, 1), (3, 1), (4, 1), (5, 5), (10, 1)] := by kernel_rfl
theorem Qi3 : fo Tryz.prog 136 0 = some 0 := by kernel_rfl
theorem Qi4 : fo Tryz.prog 136 1 = some 1 := by kernel_rfl
theorem Qi5 : fo Tryz.prog 136 2 = some 2 := by kernel_rfl
theorem Qi6 : fo Tryz.prog 136 3 = some 3 := by kernel_rfl
theorem Qi7 : fo Tryz.prog 136 4 = some 4 := by kernel_rfl
theorem Qi8 : fo Tryz.prog 136 5 = some 5 := by kernel_rfl
theorem Qi9 : fo Tryz.prog 136 6 = some 10 := by kernel_rfl
theorem Qpk : tk Tryz.prog 169 = some (false, 1) := by kernel_rfl
theorem Qpb : se Tryz.prog 169 = some (195, (12, 192)) := by kernel_rfl
theorem Qpo : tz Tryz.prog 169 = some [.Ya] := by kernel_rfl
theorem Qmy : isS Tryz.prog 169 = false := by kernel_rfl
theorem Qpl : tk Tryz.prog 195 = some (true, 12) := by kernel_rfl
theorem Qpp : tz Tryz.prog 195 = some [(.int .i64 0), (.str (ByteArray.mk #[])), (.int .i64 0), .Ya, .Ya, (.int .i64 0), (.int .i64 0), (.str (ByteArray.mk #[])), (.int .i64 0), .Ya, .Ya, .Ya] := by kernel_rfl
theorem Qmm : fps Tryz.prog 195 = some [(0, 5), (5, 1), (6, 5), (11, 1)] := by kernel_rfl
theorem Qja : fo Tryz.prog 195 0 = some 0 := by kernel_rfl
theorem Qjb : fo Tryz.prog 195 1 = some 5 := by kernel_rfl
theorem Qjc : fo Tryz.prog 195 2 = some 6 := by kernel_rfl
theorem Qjd : fo Tryz.prog 195 3 = some 11 := by kernel_rfl
theorem Qpc : se Tryz.prog 231 = some (169, (1, 24)) := by kernel_rfl
theorem Qmz : isS Tryz.prog 231 = false := by kernel_rfl
attribute [go_sem] tk3 tz3 ik3 Qp4 Qp8 Qp5 tk5 Qp6 Qm0 Qol
attribute [go_sem] tk9 tz9 Qp7 Qp9
attribute [go_sem] Qra Qq0 Qor Qrb Qq1 Qrl Qop Qos Qrc Qq2 Qrm Qot Qrd Qrn Qob
attribute [go_sem] Qly Qlz Ql0 Ql1 Ql2 Qre Qro Qoc Ql3 Ql4 Ql5
attribute [go_sem] Qrf Qq3 Qou Qrg Qq4 Qov Qrh Qrp Qod
attribute [go_sem] Ql6 Ql7 Ql8 Ql9 Qma Qri Qq5 Qow
attribute [go_sem] Qrj Qrq Qoe Qmb Qmc Qmd Qq6 Qox
attribute [go_sem] Qrk Qrr Qof Qme Qmf Qmg Qq7 Qoy
attribute [go_sem] Qq8 Qoz Qrs Qog Qmh Qmi
attribute [go_sem] Qph Qpm Qmk Qi1 Qi2
attribute [go_sem] Qpi Qpa Qmx
attribute [go_sem] Qpj Qpn Qml Qi3 Qi4 Qi5 Qi6 Qi7 Qi8 Qi9
attribute [go_sem] Qpk Qpb Qpo Qmy
attribute [go_sem] Qpl Qpp Qmm Qja Qjb Qjc Qjd
attribute [go_sem] Qpc Qmz
end Go.Proofs.SA
