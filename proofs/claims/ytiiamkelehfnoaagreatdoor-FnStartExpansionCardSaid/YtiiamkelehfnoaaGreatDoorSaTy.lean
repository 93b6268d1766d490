/- The closed facts of the types of Tryz. -/
import Derived.Test.YtiiamkelehfnoaaGreatDoorShM
import Derived.Test.YtiiamkelehfnoaaGreatDoorProg
namespace Go.Proofs.SA
open Go Go.Proofs Go.Proofs.Shadow
theorem mixed : Tryz.prog.follows .mixedOrders = true := by kernel_rfl
theorem tk3 : tk Tryz.prog 3 = some (false, 1) := by kernel_rfl
theorem tz3 : tz Tryz.prog 3 = some [(.int .i64 0)] := by kernel_rfl
theorem ik3 : ik Tryz.prog 3 = some .i64 := by kernel_rfl
theorem Qtp : isB Tryz.prog 3 = false := by kernel_rfl
theorem Qts : isS Tryz.prog 3 = false := by kernel_rfl
theorem tk4 : tk Tryz.prog 4 = some (false, 1) := by kernel_rfl
theorem tz4 : tz Tryz.prog 4 = some [(.bool false)] := by kernel_rfl
theorem tk5 : tk Tryz.prog 5 = some (false, 1) := by kernel_rfl
theorem Qtq : isB Tryz.prog 5 = false := by kernel_rfl
theorem Qqr : UN Tryz.prog 5 = false := by kernel_rfl
theorem Qr8 : Qqg Tryz.prog 5 = true := by kernel_rfl
theorem tk9 : tk Tryz.prog 9 = some (false, 1) := by kernel_rfl
theorem tz9 : tz Tryz.prog 9 = some [(.str (ByteArray.mk #[]))] := by kernel_rfl
theorem Qtr : isB Tryz.prog 9 = false := by kernel_rfl
theorem Qtt : isS Tryz.prog 9 = true := by kernel_rfl
theorem Qut : tk Tryz.prog 22 = some (false, 1) := by kernel_rfl
theorem Quk : se Tryz.prog 22 = some (5, (1, 1)) := by kernel_rfl
theorem Qsd : isS Tryz.prog 22 = false := by kernel_rfl
theorem Quu : tk Tryz.prog 27 = some (false, 1) := by kernel_rfl
theorem Qul : se Tryz.prog 27 = some (53, (3, 48)) := by kernel_rfl
theorem Qse : isS Tryz.prog 27 = false := by kernel_rfl
theorem Quv : tk Tryz.prog 28 = some (false, 1) := by kernel_rfl
theorem Qum : se Tryz.prog 28 = some (62, (3, 56)) := by kernel_rfl
theorem Qsf : isS Tryz.prog 28 = false := by kernel_rfl
theorem Quw : tk Tryz.prog 30 = some (true, 5) := by kernel_rfl
theorem Qu4 : tz Tryz.prog 30 = some [.Yd, .Yd, (.int .i64 0), (.int .i64 0), (.int .i64 0)] := by kernel_rfl
theorem Qrz : fps Tryz.prog 30 = some [(0, 1), (1, 1), (2, 1), (3, 1), (4, 1)] := by kernel_rfl
theorem Qps : fo Tryz.prog 30 0 = some 0 := by kernel_rfl
theorem Qpt : fo Tryz.prog 30 1 = some 1 := by kernel_rfl
theorem Qpu : fo Tryz.prog 30 2 = some 2 := by kernel_rfl
theorem Qpv : fo Tryz.prog 30 3 = some 3 := by kernel_rfl
theorem Qpw : fo Tryz.prog 30 4 = some 4 := by kernel_rfl
theorem Qux : tk Tryz.prog 31 = some (false, 1) := by kernel_rfl
theorem Qun : se Tryz.prog 31 = some (3, (1, 8)) := by kernel_rfl
theorem Qu5 : tz Tryz.prog 31 = some [.Yd] := by kernel_rfl
theorem Qsg : isS Tryz.prog 31 = false := by kernel_rfl
theorem Quy : tk Tryz.prog 32 = some (false, 1) := by kernel_rfl
theorem Quo : se Tryz.prog 32 = some (34, (5, 80)) := by kernel_rfl
theorem Qu6 : tz Tryz.prog 32 = some [.Yd] := by kernel_rfl
theorem Qsh : isS Tryz.prog 32 = false := by kernel_rfl
theorem Quz : tk Tryz.prog 34 = some (true, 5) := by kernel_rfl
theorem Qu7 : tz Tryz.prog 34 = some [(.int .i64 0), (.str (ByteArray.mk #[])), (.int .i64 0), .Yd, .Yd] := by kernel_rfl
theorem Qr0 : fps Tryz.prog 34 = some [(0, 1), (1, 1), (2, 1), (3, 1), (4, 1)] := by kernel_rfl
theorem Qpx : fo Tryz.prog 34 0 = some 0 := by kernel_rfl
theorem Qpy : fo Tryz.prog 34 1 = some 1 := by kernel_rfl
theorem Qpz : fo Tryz.prog 34 2 = some 2 := by kernel_rfl
theorem Qp0 : fo Tryz.prog 34 3 = some 3 := by kernel_rfl
theorem Qp1 : fo Tryz.prog 34 4 = some 4 := by kernel_rfl
theorem Qup : se Tryz.prog 43 = some (9, (1, 16)) := by kernel_rfl
theorem Qsi : isS Tryz.prog 43 = false := by kernel_rfl
theorem Qu0 : tk Tryz.prog 53 = some (true, 3) := by kernel_rfl
theorem Qu8 : tz Tryz.prog 53 = some [(.str (ByteArray.mk #[])), .Yd, (.int .i64 0)] := by kernel_rfl
theorem Qr1 : fps Tryz.prog 53 = some [(0, 1), (1, 1), (2, 1)] := by kernel_rfl
theorem Qp2 : fo Tryz.prog 53 0 = some 0 := by kernel_rfl
theorem Qp3 : fo Tryz.prog 53 1 = some 1 := by kernel_rfl
theorem Qp4 : fo Tryz.prog 53 2 = some 2 := by kernel_rfl
theorem Qsj : isS Tryz.prog 57 = false := by kernel_rfl
theorem Qu1 : tk Tryz.prog 60 = some (false, 1) := by kernel_rfl
theorem Quq : se Tryz.prog 60 = some (87, (10, 160)) := by kernel_rfl
theorem Qsk : isS Tryz.prog 60 = false := by kernel_rfl
theorem Qu2 : tk Tryz.prog 62 = some (true, 3) := by kernel_rfl
theorem Qu9 : tz Tryz.prog 62 = some [(.int .i64 0), .Yd, .Yd] := by kernel_rfl
theorem Qr2 : fps Tryz.prog 62 = some [(0, 1), (1, 1), (2, 1)] := by kernel_rfl
theorem Qp5 : fo Tryz.prog 62 0 = some 0 := by kernel_rfl
theorem Qp6 : fo Tryz.prog 62 1 = some 1 := by kernel_rfl
theorem Qp7 : fo Tryz.prog 62 2 = some 2 := by kernel_rfl
theorem Qva : tz Tryz.prog 81 = some [.Yd, (.int .i64 0)] := by kernel_rfl
theorem Qr3 : fps Tryz.prog 81 = some [(0, 1), (1, 1)] := by kernel_rfl
theorem Qp8 : fo Tryz.prog 81 0 = some 0 := by kernel_rfl
theorem Qp9 : fo Tryz.prog 81 1 = some 1 := by kernel_rfl
theorem Qur : se Tryz.prog 82 = some (31, (1, 24)) := by kernel_rfl
theorem Qsl : isS Tryz.prog 82 = false := by kernel_rfl
theorem Qu3 : tk Tryz.prog 87 = some (true, 10) := by kernel_rfl
theorem Qvb : tz Tryz.prog 87 = some [(.int .i64 0), (.str (ByteArray.mk #[])), (.int .i64 0), .Yd, .Yd, (.int .i64 0), (.str (ByteArray.mk #[])), (.int .i64 0), .Yd, .Yd] := by kernel_rfl
theorem Qr4 : fps Tryz.prog 87 = some [(0, 5), (5, 5)] := by kernel_rfl
theorem Qqa : fo Tryz.prog 87 0 = some 0 := by kernel_rfl
theorem Qqb : fo Tryz.prog 87 1 = some 5 := by kernel_rfl
theorem Qs2 : tk Tryz.prog 103 = some (false, 1) := by kernel_rfl
theorem Qsv : se Tryz.prog 103 = some (105, (11, 168)) := by kernel_rfl
theorem Qqo : isS Tryz.prog 103 = false := by kernel_rfl
theorem Qs3 : tk Tryz.prog 105 = some (true, 11) := by kernel_rfl
theorem Qs6 : tz Tryz.prog 105 = some [(.int .i64 0), (.int .i64 0), (.str (ByteArray.mk #[])), (.int .i64 0), .Yd, (.int .i64 0), (.str (ByteArray.mk #[])), (.int .i64 0), .Yd, .Yd, .Yd] := by kernel_rfl
theorem Qqc : fps Tryz.prog 105 = some [(0, 1), (1, 1), (2, 1), (3, 1), (4, 1), (5, 5), (10, 1)] := by kernel_rfl
theorem Qmz : fo Tryz.prog 105 0 = some 0 := by kernel_rfl
theorem Qm0 : fo Tryz.prog 105 1 = some 1 := by kernel_rfl
theorem Qm1 : fo Tryz.prog 105 2 = some 2 := by kernel_rfl
theorem Qm2 : fo Tryz.prog 105 3 = some 3 := by kernel_rfl
theorem Qm3 : fo Tryz.prog 105 4 = some 4 := by kernel_rfl
theorem Qm4 : fo Tryz.prog 105 5 = some 5 := by kernel_rfl
theorem Qm5 : fo Tryz.prog 105 6 = some 10 := by kernel_rfl
theorem Qs4 : tk Tryz.prog 199 = some (false, 1) := by kernel_rfl
theorem Qsw : se Tryz.prog 199 = some (217, (12, 192)) := by kernel_rfl
theorem Qs7 : tz Tryz.prog 199 = some [.Yd] := by kernel_rfl
theorem Qqp : isS Tryz.prog 199 = false := by kernel_rfl
theorem Qs5 : tk Tryz.prog 217 = some (true, 12) := by kernel_rfl
theorem Qs8 : tz Tryz.prog 217 = some [(.int .i64 0), (.str (ByteArray.mk #[])), (.int .i64 0), .Yd, .Yd, (.int .i64 0), (.int .i64 0), (.str (ByteArray.mk #[])), (.int .i64 0), .Yd, .Yd, .Yd] := by kernel_rfl
theorem Qqd : fps Tryz.prog 217 = some [(0, 5), (5, 1), (6, 5), (11, 1)] := by kernel_rfl
theorem Qm6 : fo Tryz.prog 217 0 = some 0 := by kernel_rfl
theorem Qm7 : fo Tryz.prog 217 1 = some 5 := by kernel_rfl
theorem Qm8 : fo Tryz.prog 217 2 = some 6 := by kernel_rfl
theorem Qm9 : fo Tryz.prog 217 3 = some 11 := by kernel_rfl
theorem Qsx : se Tryz.prog 227 = some (199, (1, 24)) := by kernel_rfl
theorem Qqq : isS Tryz.prog 227 = false := by kernel_rfl
attribute [go_sem] tk3 tz3 ik3 Qtp Qts tk4 tz4 tk5 Qtq Qqr Qr8
attribute [go_sem] tk9 tz9 Qtr Qtt
attribute [go_sem] Qut Quk Qsd Quu Qul Qse Quv
attribute [go_sem] Qum Qsf Quw Qu4 Qrz Qps Qpt Qpu Qpv Qpw Qux Qun Qu5 Qsg Quy Quo Qu6
attribute [go_sem] Qsh Quz Qu7 Qr0 Qpx Qpy Qpz Qp0 Qp1
attribute [go_sem] Qup Qsi
attribute [go_sem] Qu0 Qu8 Qr1 Qp2 Qp3
attribute [go_sem] Qp4 Qsj Qu1 Quq
attribute [go_sem] Qsk Qu2 Qu9 Qr2 Qp5 Qp6 Qp7
attribute [go_sem] Qva Qr3 Qp8 Qp9 Qur Qsl
attribute [go_sem] Qu3 Qvb Qr4 Qqa Qqb
attribute [go_sem] Qs2 Qsv Qqo
attribute [go_sem] Qs3 Qs6 Qqc Qmz Qm0 Qm1 Qm2 Qm3 Qm4 Qm5
attribute [go_sem] Qs4 Qsw Qs7 Qqp
attribute [go_sem] Qs5 Qs8 Qqd Qm6 Qm7 Qm8 Qm9
attribute [go_sem] Qsx Qqq
end Go.Proofs.SA
