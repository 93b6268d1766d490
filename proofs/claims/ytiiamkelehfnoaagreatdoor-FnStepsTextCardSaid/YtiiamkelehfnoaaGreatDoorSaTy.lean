/- The closed facts of the types of Tryz. -/
import Derived.Test.YtiiamkelehfnoaaGreatDoorShM
import Derived.Test.YtiiamkelehfnoaaGreatDoorProg
namespace Go.Proofs.SA
open Go Go.Proofs Go.Proofs.Shadow
theorem mixed : Tryz.prog.follows .mixedOrders = true := by kernel_rfl
theorem tk3 : tk Tryz.prog 3 = some (false, 1) := by kernel_rfl
theorem tz3 : tz Tryz.prog 3 = some [(.int .i64 0)] := by kernel_rfl
theorem ik3 : ik Tryz.prog 3 = some .i64 := by kernel_rfl
theorem Qng : isB Tryz.prog 3 = false := by kernel_rfl
theorem Qnj : isS Tryz.prog 3 = false := by kernel_rfl
theorem Qkh : Nl Tryz.prog 3 = false := by kernel_rfl
theorem Ql1 : Qgv Tryz.prog 3 = true := by kernel_rfl
theorem tk5 : tk Tryz.prog 5 = some (false, 1) := by kernel_rfl
theorem tz5 : tz Tryz.prog 5 = some [(.int .u8 0)] := by kernel_rfl
theorem ik5 : ik Tryz.prog 5 = some .u8 := by kernel_rfl
theorem Qnh : isB Tryz.prog 5 = false := by kernel_rfl
theorem Qnk : isS Tryz.prog 5 = false := by kernel_rfl
theorem Qki : Nl Tryz.prog 5 = false := by kernel_rfl
theorem Ql2 : Qgv Tryz.prog 5 = true := by kernel_rfl
theorem tk9 : tk Tryz.prog 9 = some (false, 1) := by kernel_rfl
theorem tz9 : tz Tryz.prog 9 = some [(.str (ByteArray.mk #[]))] := by kernel_rfl
theorem ik9 : ik Tryz.prog 9 = none := by kernel_rfl
theorem Qni : isB Tryz.prog 9 = false := by kernel_rfl
theorem Qnl : isS Tryz.prog 9 = true := by kernel_rfl
theorem Qom : tk Tryz.prog 22 = some (false, 1) := by kernel_rfl
theorem Qoc : se Tryz.prog 22 = some (5, (1, 1)) := by kernel_rfl
theorem Ql7 : isS Tryz.prog 22 = false := by kernel_rfl
theorem Qg0 : Nl Tryz.prog 22 = true := by kernel_rfl
theorem Qj6 : Qgv Tryz.prog 22 = true := by kernel_rfl
theorem Qod : se Tryz.prog 23 = some (45, (13, 184)) := by kernel_rfl
theorem Ql8 : isS Tryz.prog 23 = false := by kernel_rfl
theorem Qon : tk Tryz.prog 27 = some (false, 1) := by kernel_rfl
theorem Qoe : se Tryz.prog 27 = some (53, (3, 48)) := by kernel_rfl
theorem Ql9 : isS Tryz.prog 27 = false := by kernel_rfl
theorem Qoo : tk Tryz.prog 28 = some (false, 1) := by kernel_rfl
theorem Qof : se Tryz.prog 28 = some (62, (3, 56)) := by kernel_rfl
theorem Qma : isS Tryz.prog 28 = false := by kernel_rfl
theorem Qop : tk Tryz.prog 30 = some (true, 5) := by kernel_rfl
theorem Qoy : tz Tryz.prog 30 = some [.Yb, .Yb, (.int .i64 0), (.int .i64 0), (.int .i64 0)] := by kernel_rfl
theorem Qlq : fps Tryz.prog 30 = some [(0, 1), (1, 1), (2, 1), (3, 1), (4, 1)] := by kernel_rfl
theorem Qjc : fo Tryz.prog 30 0 = some 0 := by kernel_rfl
theorem Qjd : fo Tryz.prog 30 1 = some 1 := by kernel_rfl
theorem Qje : fo Tryz.prog 30 2 = some 2 := by kernel_rfl
theorem Qjf : fo Tryz.prog 30 3 = some 3 := by kernel_rfl
theorem Qjg : fo Tryz.prog 30 4 = some 4 := by kernel_rfl
theorem Qoq : tk Tryz.prog 31 = some (false, 1) := by kernel_rfl
theorem Qog : se Tryz.prog 31 = some (3, (1, 8)) := by kernel_rfl
theorem Qmb : isS Tryz.prog 31 = false := by kernel_rfl
theorem Qor : tk Tryz.prog 32 = some (false, 1) := by kernel_rfl
theorem Qoh : se Tryz.prog 32 = some (34, (5, 80)) := by kernel_rfl
theorem Qmc : isS Tryz.prog 32 = false := by kernel_rfl
theorem Qos : tk Tryz.prog 34 = some (true, 5) := by kernel_rfl
theorem Qoz : tz Tryz.prog 34 = some [(.int .i64 0), (.str (ByteArray.mk #[])), (.int .i64 0), .Yb, .Yb] := by kernel_rfl
theorem Qlr : fps Tryz.prog 34 = some [(0, 1), (1, 1), (2, 1), (3, 1), (4, 1)] := by kernel_rfl
theorem Qjh : fo Tryz.prog 34 0 = some 0 := by kernel_rfl
theorem Qji : fo Tryz.prog 34 1 = some 1 := by kernel_rfl
theorem Qjj : fo Tryz.prog 34 2 = some 2 := by kernel_rfl
theorem Qjk : fo Tryz.prog 34 3 = some 3 := by kernel_rfl
theorem Qjl : fo Tryz.prog 34 4 = some 4 := by kernel_rfl
theorem Qoi : se Tryz.prog 43 = some (9, (1, 16)) := by kernel_rfl
theorem Qmd : isS Tryz.prog 43 = false := by kernel_rfl
theorem Qot : tk Tryz.prog 45 = some (true, 13) := by kernel_rfl
theorem Qo0 : tz Tryz.prog 45 = some [(.int .i64 0), (.int .i64 0), (.int .i64 0), (.int .i64 0), (.str (ByteArray.mk #[])), (.int .i64 0), .Yb, .Yb, (.int .i64 0), (.str (ByteArray.mk #[])), (.int .i64 0), .Yb, .Yb] := by kernel_rfl
theorem Qls : fps Tryz.prog 45 = some [(0, 1), (1, 1), (2, 1), (3, 5), (8, 5)] := by kernel_rfl
theorem Qjm : fo Tryz.prog 45 2 = some 2 := by kernel_rfl
theorem Qjn : fo Tryz.prog 45 3 = some 3 := by kernel_rfl
theorem Qjo : fo Tryz.prog 45 4 = some 8 := by kernel_rfl
theorem Qou : tk Tryz.prog 53 = some (true, 3) := by kernel_rfl
theorem Qo1 : tz Tryz.prog 53 = some [(.str (ByteArray.mk #[])), .Yb, (.int .i64 0)] := by kernel_rfl
theorem Qlt : fps Tryz.prog 53 = some [(0, 1), (1, 1), (2, 1)] := by kernel_rfl
theorem Qjp : fo Tryz.prog 53 0 = some 0 := by kernel_rfl
theorem Qjq : fo Tryz.prog 53 1 = some 1 := by kernel_rfl
theorem Qjr : fo Tryz.prog 53 2 = some 2 := by kernel_rfl
theorem Qov : tk Tryz.prog 60 = some (false, 1) := by kernel_rfl
theorem Qoj : se Tryz.prog 60 = some (87, (10, 160)) := by kernel_rfl
theorem Qme : isS Tryz.prog 60 = false := by kernel_rfl
theorem Qow : tk Tryz.prog 62 = some (true, 3) := by kernel_rfl
theorem Qo2 : tz Tryz.prog 62 = some [(.int .i64 0), .Yb, .Yb] := by kernel_rfl
theorem Qlu : fps Tryz.prog 62 = some [(0, 1), (1, 1), (2, 1)] := by kernel_rfl
theorem Qjs : fo Tryz.prog 62 0 = some 0 := by kernel_rfl
theorem Qjt : fo Tryz.prog 62 1 = some 1 := by kernel_rfl
theorem Qju : fo Tryz.prog 62 2 = some 2 := by kernel_rfl
theorem Qo3 : tz Tryz.prog 81 = some [.Yb, (.int .i64 0)] := by kernel_rfl
theorem Qlv : fps Tryz.prog 81 = some [(0, 1), (1, 1)] := by kernel_rfl
theorem Qjv : fo Tryz.prog 81 0 = some 0 := by kernel_rfl
theorem Qjw : fo Tryz.prog 81 1 = some 1 := by kernel_rfl
theorem Qox : tk Tryz.prog 87 = some (true, 10) := by kernel_rfl
theorem Qo4 : tz Tryz.prog 87 = some [(.int .i64 0), (.str (ByteArray.mk #[])), (.int .i64 0), .Yb, .Yb, (.int .i64 0), (.str (ByteArray.mk #[])), (.int .i64 0), .Yb, .Yb] := by kernel_rfl
theorem Qlw : fps Tryz.prog 87 = some [(0, 5), (5, 5)] := by kernel_rfl
theorem Qjx : fo Tryz.prog 87 0 = some 0 := by kernel_rfl
theorem Qjy : fo Tryz.prog 87 1 = some 5 := by kernel_rfl
theorem Qmx : tk Tryz.prog 103 = some (false, 1) := by kernel_rfl
theorem Qmq : se Tryz.prog 103 = some (105, (11, 168)) := by kernel_rfl
theorem Qke : isS Tryz.prog 103 = false := by kernel_rfl
theorem Qmy : tk Tryz.prog 105 = some (true, 11) := by kernel_rfl
theorem Qm1 : tz Tryz.prog 105 = some [(.int .i64 0), (.int .i64 0), (.str (ByteArray.mk #[])), (.int .i64 0), .Yb, (.int .i64 0), (.str (ByteArray.mk #[])), (.int .i64 0), .Yb, .Yb, .Yb] := by kernel_rfl
theorem Qj0 : fps Tryz.prog 105 = some [(0, 1), (1, 1), (2, 1), (3, 1), (4, 1), (5, 5), (10, 1)] := by kernel_rfl
theorem Qgf : fo Tryz.prog 105 0 = some 0 := by kernel_rfl
theorem Qgg : fo Tryz.prog 105 1 = some 1 := by kernel_rfl
theorem Qgh : fo Tryz.prog 105 2 = some 2 := by kernel_rfl
theorem Qgi : fo Tryz.prog 105 3 = some 3 := by kernel_rfl
theorem Qgj : fo Tryz.prog 105 4 = some 4 := by kernel_rfl
theorem Qgk : fo Tryz.prog 105 5 = some 5 := by kernel_rfl
theorem Qgl : fo Tryz.prog 105 6 = some 10 := by kernel_rfl
theorem Qmz : tk Tryz.prog 199 = some (false, 1) := by kernel_rfl
theorem Qmr : se Tryz.prog 199 = some (217, (12, 192)) := by kernel_rfl
theorem Qm2 : tz Tryz.prog 199 = some [.Yb] := by kernel_rfl
theorem Qkf : isS Tryz.prog 199 = false := by kernel_rfl
theorem Qm0 : tk Tryz.prog 217 = some (true, 12) := by kernel_rfl
theorem Qm3 : tz Tryz.prog 217 = some [(.int .i64 0), (.str (ByteArray.mk #[])), (.int .i64 0), .Yb, .Yb, (.int .i64 0), (.int .i64 0), (.str (ByteArray.mk #[])), (.int .i64 0), .Yb, .Yb, .Yb] := by kernel_rfl
theorem Qj1 : fps Tryz.prog 217 = some [(0, 5), (5, 1), (6, 5), (11, 1)] := by kernel_rfl
theorem Qgm : fo Tryz.prog 217 0 = some 0 := by kernel_rfl
theorem Qgn : fo Tryz.prog 217 1 = some 5 := by kernel_rfl
theorem Qgo : fo Tryz.prog 217 2 = some 6 := by kernel_rfl
theorem Qgp : fo Tryz.prog 217 3 = some 11 := by kernel_rfl
theorem Qms : se Tryz.prog 227 = some (199, (1, 24)) := by kernel_rfl
theorem Qkg : isS Tryz.prog 227 = false := by kernel_rfl
attribute [go_sem] tk3 tz3 ik3 Qng Qnj Qkh Ql1 tk5 tz5 ik5 Qnh Qnk Qki Ql2
attribute [go_sem] tk9 tz9 ik9 Qni Qnl
attribute [go_sem] Qom Qoc Ql7 Qg0 Qj6 Qod Ql8 Qon Qoe Ql9 Qoo
attribute [go_sem] Qof Qma Qop Qoy Qlq Qjc Qjd Qje Qjf Qjg Qoq Qog Qmb Qor Qoh
attribute [go_sem] Qmc Qos Qoz Qlr Qjh Qji Qjj Qjk Qjl
attribute [go_sem] Qoi Qmd
attribute [go_sem] Qot Qo0 Qls Qjm Qjn Qjo
attribute [go_sem] Qou Qo1 Qlt Qjp Qjq
attribute [go_sem] Qjr Qov Qoj
attribute [go_sem] Qme Qow Qo2 Qlu Qjs Qjt Qju
attribute [go_sem] Qo3 Qlv Qjv Qjw
attribute [go_sem] Qox Qo4 Qlw Qjx Qjy
attribute [go_sem] Qmx Qmq Qke
attribute [go_sem] Qmy Qm1 Qj0 Qgf Qgg Qgh Qgi Qgj Qgk Qgl
attribute [go_sem] Qmz Qmr Qm2 Qkf
attribute [go_sem] Qm0 Qm3 Qj1 Qgm Qgn Qgo Qgp
attribute [go_sem] Qms Qkg
end Go.Proofs.SA
