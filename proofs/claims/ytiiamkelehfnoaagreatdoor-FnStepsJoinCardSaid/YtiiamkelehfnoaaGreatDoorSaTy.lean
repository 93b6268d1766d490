/- The closed facts of the types of Tryz. -/
import Derived.Test.YtiiamkelehfnoaaGreatDoorShM
import Derived.Test.YtiiamkelehfnoaaGreatDoorProg
namespace Go.Proofs.SA
open Go Go.Proofs Go.Proofs.Shadow
theorem mixed : Tryz.prog.follows .mixedOrders = true := by kernel_rfl
theorem tk3 : tk Tryz.prog 3 = some (false, 1) := by kernel_rfl
theorem tz3 : tz Tryz.prog 3 = some [(.int .i64 0)] := by kernel_rfl
theorem ik3 : ik Tryz.prog 3 = some .i64 := by kernel_rfl
theorem Qnk : isB Tryz.prog 3 = false := by kernel_rfl
theorem Qnn : isS Tryz.prog 3 = false := by kernel_rfl
theorem Qkn : Nq Tryz.prog 3 = false := by kernel_rfl
theorem Ql6 : Qg2 Tryz.prog 3 = true := by kernel_rfl
theorem tk5 : tk Tryz.prog 5 = some (false, 1) := by kernel_rfl
theorem tz5 : tz Tryz.prog 5 = some [(.int .u8 0)] := by kernel_rfl
theorem ik5 : ik Tryz.prog 5 = some .u8 := by kernel_rfl
theorem Qnl : isB Tryz.prog 5 = false := by kernel_rfl
theorem Qno : isS Tryz.prog 5 = false := by kernel_rfl
theorem Qko : Nq Tryz.prog 5 = false := by kernel_rfl
theorem Ql7 : Qg2 Tryz.prog 5 = true := by kernel_rfl
theorem tk9 : tk Tryz.prog 9 = some (false, 1) := by kernel_rfl
theorem tz9 : tz Tryz.prog 9 = some [(.str (ByteArray.mk #[]))] := by kernel_rfl
theorem ik9 : ik Tryz.prog 9 = none := by kernel_rfl
theorem Qnm : isB Tryz.prog 9 = false := by kernel_rfl
theorem Qnp : isS Tryz.prog 9 = true := by kernel_rfl
theorem Qoq : tk Tryz.prog 22 = some (false, 1) := by kernel_rfl
theorem Qog : se Tryz.prog 22 = some (5, (1, 1)) := by kernel_rfl
theorem Qmc : isS Tryz.prog 22 = false := by kernel_rfl
theorem Qg7 : Nq Tryz.prog 22 = true := by kernel_rfl
theorem Qkc : Qg2 Tryz.prog 22 = true := by kernel_rfl
theorem Qoh : se Tryz.prog 23 = some (45, (13, 184)) := by kernel_rfl
theorem Qmd : isS Tryz.prog 23 = false := by kernel_rfl
theorem Qor : tk Tryz.prog 27 = some (false, 1) := by kernel_rfl
theorem Qoi : se Tryz.prog 27 = some (53, (3, 48)) := by kernel_rfl
theorem Qme : isS Tryz.prog 27 = false := by kernel_rfl
theorem Qos : tk Tryz.prog 28 = some (false, 1) := by kernel_rfl
theorem Qoj : se Tryz.prog 28 = some (62, (3, 56)) := by kernel_rfl
theorem Qmf : isS Tryz.prog 28 = false := by kernel_rfl
theorem Qot : tk Tryz.prog 30 = some (true, 5) := by kernel_rfl
theorem Qo2 : tz Tryz.prog 30 = some [.Yb, .Yb, (.int .i64 0), (.int .i64 0), (.int .i64 0)] := by kernel_rfl
theorem Qlv : fps Tryz.prog 30 = some [(0, 1), (1, 1), (2, 1), (3, 1), (4, 1)] := by kernel_rfl
theorem Qji : fo Tryz.prog 30 0 = some 0 := by kernel_rfl
theorem Qjj : fo Tryz.prog 30 1 = some 1 := by kernel_rfl
theorem Qjk : fo Tryz.prog 30 2 = some 2 := by kernel_rfl
theorem Qjl : fo Tryz.prog 30 3 = some 3 := by kernel_rfl
theorem Qjm : fo Tryz.prog 30 4 = some 4 := by kernel_rfl
theorem Qou : tk Tryz.prog 31 = some (false, 1) := by kernel_rfl
theorem Qok : se Tryz.prog 31 = some (3, (1, 8)) := by kernel_rfl
theorem Qmg : isS Tryz.prog 31 = false := by kernel_rfl
theorem Qov : tk Tryz.prog 32 = some (false, 1) := by kernel_rfl
theorem Qol : se Tryz.prog 32 = some (34, (5, 80)) := by kernel_rfl
theorem Qmh : isS Tryz.prog 32 = false := by kernel_rfl
theorem Qow : tk Tryz.prog 34 = some (true, 5) := by kernel_rfl
theorem Qo3 : tz Tryz.prog 34 = some [(.int .i64 0), (.str (ByteArray.mk #[])), (.int .i64 0), .Yb, .Yb] := by kernel_rfl
theorem Qlw : fps Tryz.prog 34 = some [(0, 1), (1, 1), (2, 1), (3, 1), (4, 1)] := by kernel_rfl
theorem Qjn : fo Tryz.prog 34 0 = some 0 := by kernel_rfl
theorem Qjo : fo Tryz.prog 34 1 = some 1 := by kernel_rfl
theorem Qjp : fo Tryz.prog 34 2 = some 2 := by kernel_rfl
theorem Qjq : fo Tryz.prog 34 3 = some 3 := by kernel_rfl
theorem Qjr : fo Tryz.prog 34 4 = some 4 := by kernel_rfl
theorem Qom : se Tryz.prog 43 = some (9, (1, 16)) := by kernel_rfl
theorem Qmi : isS Tryz.prog 43 = false := by kernel_rfl
theorem Qox : tk Tryz.prog 45 = some (true, 13) := by kernel_rfl
theorem Qo4 : tz Tryz.prog 45 = some [(.int .i64 0), (.int .i64 0), (.int .i64 0), (.int .i64 0), (.str (ByteArray.mk #[])), (.int .i64 0), .Yb, .Yb, (.int .i64 0), (.str (ByteArray.mk #[])), (.int .i64 0), .Yb, .Yb] := by kernel_rfl
theorem Qlx : fps Tryz.prog 45 = some [(0, 1), (1, 1), (2, 1), (3, 5), (8, 5)] := by kernel_rfl
theorem Qjs : fo Tryz.prog 45 2 = some 2 := by kernel_rfl
theorem Qjt : fo Tryz.prog 45 3 = some 3 := by kernel_rfl
theorem Qju : fo Tryz.prog 45 4 = some 8 := by kernel_rfl
theorem Qoy : tk Tryz.prog 53 = some (true, 3) := by kernel_rfl
theorem Qo5 : tz Tryz.prog 53 = some [(.str (ByteArray.mk #[])), .Yb, (.int .i64 0)] := by kernel_rfl
theorem Qly : fps Tryz.prog 53 = some [(0, 1), (1, 1), (2, 1)] := by kernel_rfl
theorem Qjv : fo Tryz.prog 53 0 = some 0 := by kernel_rfl
theorem Qjw : fo Tryz.prog 53 1 = some 1 := by kernel_rfl
theorem Qjx : fo Tryz.prog 53 2 = some 2 := by kernel_rfl
theorem Qoz : tk Tryz.prog 60 = some (false, 1) := by kernel_rfl
theorem Qon : se Tryz.prog 60 = some (87, (10, 160)) := by kernel_rfl
theorem Qmj : isS Tryz.prog 60 = false := by kernel_rfl
theorem Qo0 : tk Tryz.prog 62 = some (true, 3) := by kernel_rfl
theorem Qo6 : tz Tryz.prog 62 = some [(.int .i64 0), .Yb, .Yb] := by kernel_rfl
theorem Qlz : fps Tryz.prog 62 = some [(0, 1), (1, 1), (2, 1)] := by kernel_rfl
theorem Qjy : fo Tryz.prog 62 0 = some 0 := by kernel_rfl
theorem Qjz : fo Tryz.prog 62 1 = some 1 := by kernel_rfl
theorem Qj0 : fo Tryz.prog 62 2 = some 2 := by kernel_rfl
theorem Qo7 : tz Tryz.prog 81 = some [.Yb, (.int .i64 0)] := by kernel_rfl
theorem Ql0 : fps Tryz.prog 81 = some [(0, 1), (1, 1)] := by kernel_rfl
theorem Qj1 : fo Tryz.prog 81 0 = some 0 := by kernel_rfl
theorem Qj2 : fo Tryz.prog 81 1 = some 1 := by kernel_rfl
theorem Qo1 : tk Tryz.prog 87 = some (true, 10) := by kernel_rfl
theorem Qo8 : tz Tryz.prog 87 = some [(.int .i64 0), (.str (ByteArray.mk #[])), (.int .i64 0), .Yb, .Yb, (.int .i64 0), (.str (ByteArray.mk #[])), (.int .i64 0), .Yb, .Yb] := by kernel_rfl
theorem Ql1 : fps Tryz.prog 87 = some [(0, 5), (5, 5)] := by kernel_rfl
theorem Qj3 : fo Tryz.prog 87 0 = some 0 := by kernel_rfl
theorem Qj4 : fo Tryz.prog 87 1 = some 5 := by kernel_rfl
theorem Qm1 : tk Tryz.prog 103 = some (false, 1) := by kernel_rfl
theorem Qmu : se Tryz.prog 103 = some (105, (11, 168)) := by kernel_rfl
theorem Qkk : isS Tryz.prog 103 = false := by kernel_rfl
theorem Qm2 : tk Tryz.prog 105 = some (true, 11) := by kernel_rfl
theorem Qm5 : tz Tryz.prog 105 = some [(.int .i64 0), (.int .i64 0), (.str (ByteArray.mk #[])), (.int .i64 0), .Yb, (.int .i64 0), (.str (ByteArray.mk #[])), (.int .i64 0), .Yb, .Yb, .Yb] := by kernel_rfl
theorem Qj6 : fps Tryz.prog 105 = some [(0, 1), (1, 1), (2, 1), (3, 1), (4, 1), (5, 5), (10, 1)] := by kernel_rfl
theorem Qgm : fo Tryz.prog 105 0 = some 0 := by kernel_rfl
theorem Qgn : fo Tryz.prog 105 1 = some 1 := by kernel_rfl
theorem Qgo : fo Tryz.prog 105 2 = some 2 := by kernel_rfl
theorem Qgp : fo Tryz.prog 105 3 = some 3 := by kernel_rfl
theorem Qgq : fo Tryz.prog 105 4 = some 4 := by kernel_rfl
theorem Qgr : fo Tryz.prog 105 5 = some 5 := by kernel_rfl
theorem Qgs : fo Tryz.prog 105 6 = some 10 := by kernel_rfl
theorem Qm3 : tk Tryz.prog 199 = some (false, 1) := by kernel_rfl
theorem Qmv : se Tryz.prog 199 = some (217, (12, 192)) := by kernel_rfl
theorem Qm6 : tz Tryz.prog 199 = some [.Yb] := by kernel_rfl
theorem Qkl : isS Tryz.prog 199 = false := by kernel_rfl
theorem Qm4 : tk Tryz.prog 217 = some (true, 12) := by kernel_rfl
theorem Qm7 : tz Tryz.prog 217 = some [(.int .i64 0), (.str (ByteArray.mk #[])), (.int .i64 0), .Yb, .Yb, (.int .i64 0), (.int .i64 0), (.str (ByteArray.mk #[])), (.int .i64 0), .Yb, .Yb, .Yb] := by kernel_rfl
theorem Qj7 : fps Tryz.prog 217 = some [(0, 5), (5, 1), (6, 5), (11, 1)] := by kernel_rfl
theorem Qgt : fo Tryz.prog 217 0 = some 0 := by kernel_rfl
theorem Qgu : fo Tryz.prog 217 1 = some 5 := by kernel_rfl
theorem Qgv : fo Tryz.prog 217 2 = some 6 := by kernel_rfl
theorem Qgw : fo Tryz.prog 217 3 = some 11 := by kernel_rfl
theorem Qmw : se Tryz.prog 227 = some (199, (1, 24)) := by kernel_rfl
theorem Qkm : isS Tryz.prog 227 = false := by kernel_rfl
attribute [go_sem] tk3 tz3 ik3 Qnk Qnn Qkn Ql6 tk5 tz5 ik5 Qnl Qno Qko Ql7
attribute [go_sem] tk9 tz9 ik9 Qnm Qnp
attribute [go_sem] Qoq Qog Qmc Qg7 Qkc Qoh Qmd Qor Qoi Qme Qos
attribute [go_sem] Qoj Qmf Qot Qo2 Qlv Qji Qjj Qjk Qjl Qjm Qou Qok Qmg Qov Qol
attribute [go_sem] Qmh Qow Qo3 Qlw Qjn Qjo Qjp Qjq Qjr
attribute [go_sem] Qom Qmi
attribute [go_sem] Qox Qo4 Qlx Qjs Qjt Qju
attribute [go_sem] Qoy Qo5 Qly Qjv Qjw
attribute [go_sem] Qjx Qoz Qon
attribute [go_sem] Qmj Qo0 Qo6 Qlz Qjy Qjz Qj0
attribute [go_sem] Qo7 Ql0 Qj1 Qj2
attribute [go_sem] Qo1 Qo8 Ql1 Qj3 Qj4
attribute [go_sem] Qm1 Qmu Qkk
attribute [go_sem] Qm2 Qm5 Qj6 Qgm Qgn Qgo Qgp Qgq Qgr Qgs
attribute [go_sem] Qm3 Qmv Qm6 Qkl
attribute [go_sem] Qm4 Qm7 Qj7 Qgt Qgu Qgv Qgw
attribute [go_sem] Qmw Qkm
end Go.Proofs.SA
