/- The closed facts of the types of Tryz. -/
import Derived.Test.YtiiamkelehfnoaaGreatShM
import Derived.Test.YtiiamkelehfnoaaGreatProg
namespace Go.Proofs.SA
open Go Go.Proofs Go.Proofs.Shadow
theorem mixed : Tryz.prog.follows .mixedOrders = true := by kernel_rfl
theorem tk3 : tk Tryz.prog 3 = some (false, 1) := by kernel_rfl
theorem tz3 : tz Tryz.prog 3 = some [(.int .i64 0)] := by kernel_rfl
theorem ik3 : ik Tryz.prog 3 = some .i64 := by kernel_rfl
theorem Qti : isB Tryz.prog 3 = false := by kernel_rfl
theorem Qtl : isS Tryz.prog 3 = false := by kernel_rfl
theorem tk4 : tk Tryz.prog 4 = some (false, 1) := by kernel_rfl
theorem tz4 : tz Tryz.prog 4 = some [(.bool false)] := by kernel_rfl
theorem tk5 : tk Tryz.prog 5 = some (false, 1) := by kernel_rfl
theorem Qtj : isB Tryz.prog 5 = false := by kernel_rfl
theorem Qql : UU Tryz.prog 5 = false := by kernel_rfl
theorem Qry : Qqb Tryz.prog 5 = true := by kernel_rfl
theorem tk9 : tk Tryz.prog 9 = some (false, 1) := by kernel_rfl
theorem tz9 : tz Tryz.prog 9 = some [(.str (ByteArray.mk #[]))] := by kernel_rfl
theorem Qtk : isB Tryz.prog 9 = false := by kernel_rfl
theorem Qtm : isS Tryz.prog 9 = true := by kernel_rfl
theorem Qum : tk Tryz.prog 22 = some (false, 1) := by kernel_rfl
theorem Qud : se Tryz.prog 22 = some (5, (1, 1)) := by kernel_rfl
theorem Qr4 : isS Tryz.prog 22 = false := by kernel_rfl
theorem Qun : tk Tryz.prog 23 = some (false, 1) := by kernel_rfl
theorem Que : se Tryz.prog 23 = some (3, (1, 8)) := by kernel_rfl
theorem Quw : tz Tryz.prog 23 = some [.Yd] := by kernel_rfl
theorem Qr2 : isB Tryz.prog 23 = false := by kernel_rfl
theorem Qr5 : isS Tryz.prog 23 = false := by kernel_rfl
theorem Quo : tk Tryz.prog 24 = some (false, 1) := by kernel_rfl
theorem Quf : se Tryz.prog 24 = some (26, (5, 80)) := by kernel_rfl
theorem Qux : tz Tryz.prog 24 = some [.Yd] := by kernel_rfl
theorem Qr6 : isS Tryz.prog 24 = false := by kernel_rfl
theorem Qup : tk Tryz.prog 26 = some (true, 5) := by kernel_rfl
theorem Quy : tz Tryz.prog 26 = some [(.int .i64 0), (.str (ByteArray.mk #[])), (.int .i64 0), .Yd, .Yd] := by kernel_rfl
theorem Qrq : fps Tryz.prog 26 = some [(0, 1), (1, 1), (2, 1), (3, 1), (4, 1)] := by kernel_rfl
theorem Qpp : fo Tryz.prog 26 0 = some 0 := by kernel_rfl
theorem Qpq : fo Tryz.prog 26 1 = some 1 := by kernel_rfl
theorem Qpr : fo Tryz.prog 26 2 = some 2 := by kernel_rfl
theorem Qps : fo Tryz.prog 26 3 = some 3 := by kernel_rfl
theorem Qpt : fo Tryz.prog 26 4 = some 4 := by kernel_rfl
theorem Quq : tk Tryz.prog 39 = some (false, 1) := by kernel_rfl
theorem Qug : se Tryz.prog 39 = some (75, (3, 48)) := by kernel_rfl
theorem Qr7 : isS Tryz.prog 39 = false := by kernel_rfl
theorem Qur : tk Tryz.prog 40 = some (false, 1) := by kernel_rfl
theorem Quh : se Tryz.prog 40 = some (49, (3, 56)) := by kernel_rfl
theorem Qr8 : isS Tryz.prog 40 = false := by kernel_rfl
theorem Qus : tk Tryz.prog 42 = some (true, 5) := by kernel_rfl
theorem Quz : tz Tryz.prog 42 = some [.Yd, .Yd, (.int .i64 0), (.int .i64 0), (.int .i64 0)] := by kernel_rfl
theorem Qrr : fps Tryz.prog 42 = some [(0, 1), (1, 1), (2, 1), (3, 1), (4, 1)] := by kernel_rfl
theorem Qpu : fo Tryz.prog 42 0 = some 0 := by kernel_rfl
theorem Qpv : fo Tryz.prog 42 1 = some 1 := by kernel_rfl
theorem Qpw : fo Tryz.prog 42 2 = some 2 := by kernel_rfl
theorem Qpx : fo Tryz.prog 42 3 = some 3 := by kernel_rfl
theorem Qpy : fo Tryz.prog 42 4 = some 4 := by kernel_rfl
theorem Qut : tk Tryz.prog 47 = some (false, 1) := by kernel_rfl
theorem Qui : se Tryz.prog 47 = some (116, (10, 160)) := by kernel_rfl
theorem Qr9 : isS Tryz.prog 47 = false := by kernel_rfl
theorem Quu : tk Tryz.prog 49 = some (true, 3) := by kernel_rfl
theorem Qu0 : tz Tryz.prog 49 = some [(.int .i64 0), .Yd, .Yd] := by kernel_rfl
theorem Qrs : fps Tryz.prog 49 = some [(0, 1), (1, 1), (2, 1)] := by kernel_rfl
theorem Qpz : fo Tryz.prog 49 0 = some 0 := by kernel_rfl
theorem Qp0 : fo Tryz.prog 49 1 = some 1 := by kernel_rfl
theorem Qp1 : fo Tryz.prog 49 2 = some 2 := by kernel_rfl
theorem Quv : tk Tryz.prog 75 = some (true, 3) := by kernel_rfl
theorem Qu1 : tz Tryz.prog 75 = some [(.str (ByteArray.mk #[])), .Yd, (.int .i64 0)] := by kernel_rfl
theorem Qrt : fps Tryz.prog 75 = some [(0, 1), (1, 1), (2, 1)] := by kernel_rfl
theorem Qp2 : fo Tryz.prog 75 0 = some 0 := by kernel_rfl
theorem Qp3 : fo Tryz.prog 75 1 = some 1 := by kernel_rfl
theorem Qp4 : fo Tryz.prog 75 2 = some 2 := by kernel_rfl
theorem Quj : se Tryz.prog 78 = some (9, (1, 16)) := by kernel_rfl
theorem Qsa : isS Tryz.prog 78 = false := by kernel_rfl
theorem Quk : se Tryz.prog 87 = some (23, (1, 24)) := by kernel_rfl
theorem Qsb : isS Tryz.prog 87 = false := by kernel_rfl
theorem Qu2 : tz Tryz.prog 89 = some [.Yd, (.int .i64 0)] := by kernel_rfl
theorem Qru : fps Tryz.prog 89 = some [(0, 1), (1, 1)] := by kernel_rfl
theorem Qp5 : fo Tryz.prog 89 0 = some 0 := by kernel_rfl
theorem Qp6 : fo Tryz.prog 89 1 = some 1 := by kernel_rfl
theorem Qst : tk Tryz.prog 116 = some (true, 10) := by kernel_rfl
theorem Qsy : tz Tryz.prog 116 = some [(.int .i64 0), (.str (ByteArray.mk #[])), (.int .i64 0), .Yd, .Yd, (.int .i64 0), (.str (ByteArray.mk #[])), (.int .i64 0), .Yd, .Yd] := by kernel_rfl
theorem Qp7 : fps Tryz.prog 116 = some [(0, 5), (5, 5)] := by kernel_rfl
theorem Qmy : fo Tryz.prog 116 0 = some 0 := by kernel_rfl
theorem Qmz : fo Tryz.prog 116 1 = some 5 := by kernel_rfl
theorem Qsu : tk Tryz.prog 134 = some (false, 1) := by kernel_rfl
theorem Qsm : se Tryz.prog 134 = some (136, (11, 168)) := by kernel_rfl
theorem Qqi : isS Tryz.prog 134 = false := by kernel_rfl
theorem Qsv : tk Tryz.prog 136 = some (true, 11) := by kernel_rfl
theorem Qsz : tz Tryz.prog 136 = some [(.int .i64 0), (.int .i64 0), (.str (ByteArray.mk #[])), (.int .i64 0), .Yd, (.int .i64 0), (.str (ByteArray.mk #[])), (.int .i64 0), .Yd, .Yd, .Yd] := by kernel_rfl
theorem Qp8 : fps Tryz.prog 136 = some [(0, 1), (1, 1), (2, 1), (3, 1), (4, 1), (5, 5), (10, 1)] := by kernel_rfl
theorem Qm0 : fo Tryz.prog 136 0 = some 0 := by kernel_rfl
theorem Qm1 : fo Tryz.prog 136 1 = some 1 := by kernel_rfl
theorem Qm2 : fo Tryz.prog 136 2 = some 2 := by kernel_rfl
theorem Qm3 : fo Tryz.prog 136 3 = some 3 := by kernel_rfl
theorem Qm4 : fo Tryz.prog 136 4 = some 4 := by kernel_rfl
theorem Qm5 : fo Tryz.prog 136 5 = some 5 := by kernel_rfl
theorem Qm6 : fo Tryz.prog 136 6 = some 10 := by kernel_rfl
theorem Qsw : tk Tryz.prog 169 = some (false, 1) := by kernel_rfl
theorem Qsn : se Tryz.prog 169 = some (195, (12, 192)) := by kernel_rfl
theorem Qs0 : tz Tryz.prog 169 = some [.Yd] := by kernel_rfl
theorem Qqj : isS Tryz.prog 169 = false := by kernel_rfl
theorem Qsx : tk Tryz.prog 195 = some (true, 12) := by kernel_rfl
theorem Qs1 : tz Tryz.prog 195 = some [(.int .i64 0), (.str (ByteArray.mk #[])), (.int .i64 0), .Yd, .Yd, (.int .i64 0), (.int .i64 0), (.str (ByteArray.mk #[])), (.int .i64 0), .Yd, .Yd, .Yd] := by kernel_rfl
theorem Qp9 : fps Tryz.prog 195 = some [(0, 5), (5, 1), (6, 5), (11, 1)] := by kernel_rfl
theorem Qm7 : fo Tryz.prog 195 0 = some 0 := by kernel_rfl
theorem Qm8 : fo Tryz.prog 195 1 = some 5 := by kernel_rfl
theorem Qm9 : fo Tryz.prog 195 2 = some 6 := by kernel_rfl
theorem Qna : fo Tryz.prog 195 3 = some 11 := by kernel_rfl
theorem Qso : se Tryz.prog 231 = some (169, (1, 24)) := by kernel_rfl
theorem Qqk : isS Tryz.prog 231 = false := by kernel_rfl
attribute [go_sem] tk3 tz3 ik3 Qti Qtl tk4 tz4 tk5 Qtj Qql Qry
attribute [go_sem] tk9 tz9 Qtk Qtm
attribute [go_sem] Qum Qud Qr4 Qun Que Quw Qr2 Qr5 Quo Quf Qux Qr6 Qup Quy Qrq
attribute [go_sem] Qpp Qpq Qpr Qps Qpt
attribute [go_sem] Quq Qug Qr7 Qur Quh Qr8 Qus Quz Qrr
attribute [go_sem] Qpu Qpv Qpw Qpx Qpy Qut Qui Qr9
attribute [go_sem] Quu Qu0 Qrs Qpz Qp0 Qp1
attribute [go_sem] Quv Qu1 Qrt Qp2 Qp3 Qp4 Quj Qsa
attribute [go_sem] Quk Qsb Qu2 Qru Qp5 Qp6
attribute [go_sem] Qst Qsy Qp7 Qmy Qmz
attribute [go_sem] Qsu Qsm Qqi
attribute [go_sem] Qsv Qsz Qp8 Qm0 Qm1 Qm2 Qm3 Qm4 Qm5 Qm6
attribute [go_sem] Qsw Qsn Qs0 Qqj
attribute [go_sem] Qsx Qs1 Qp9 Qm7 Qm8 Qm9 Qna
attribute [go_sem] Qso Qqk
end Go.Proofs.SA
