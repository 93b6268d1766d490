/- The closed facts of the types of Tryz. -/
import Derived.Test.YthdghhllcllneaaGreatDoorShM
import Derived.Test.YthdghhllcllneaaGreatDoorProg
namespace Go.Proofs.SA
open Go Go.Proofs Go.Proofs.Shadow
theorem mixed : Tryz.prog.follows .mixedOrders = true := by kernel_rfl
theorem tk3 : tk Tryz.prog 3 = some (false, 1) := by kernel_rfl
theorem tz3 : tz Tryz.prog 3 = some [(.int .i64 0)] := by kernel_rfl
theorem ik3 : ik Tryz.prog 3 = some .i64 := by kernel_rfl
theorem Qvq : isB Tryz.prog 3 = false := by kernel_rfl
theorem Qvt : isS Tryz.prog 3 = false := by kernel_rfl
theorem Qsf : R9 Tryz.prog 3 = false := by kernel_rfl
theorem Qt1 : Qoh Tryz.prog 3 = true := by kernel_rfl
theorem tk5 : tk Tryz.prog 5 = some (false, 1) := by kernel_rfl
theorem ik5 : ik Tryz.prog 5 = some .u8 := by kernel_rfl
theorem Qvr : isB Tryz.prog 5 = false := by kernel_rfl
theorem Qvu : isS Tryz.prog 5 = false := by kernel_rfl
theorem Qsg : R9 Tryz.prog 5 = false := by kernel_rfl
theorem Qt2 : Qoh Tryz.prog 5 = true := by kernel_rfl
theorem tk9 : tk Tryz.prog 9 = some (false, 1) := by kernel_rfl
theorem tz9 : tz Tryz.prog 9 = some [(.str (ByteArray.mk #[]))] := by kernel_rfl
theorem Qvs : isB Tryz.prog 9 = false := by kernel_rfl
theorem Qvv : isS Tryz.prog 9 = true := by kernel_rfl
theorem Qwz : tk Tryz.prog 22 = some (false, 1) := by kernel_rfl
theorem Qwo : se Tryz.prog 22 = some (5, (1, 1)) := by kernel_rfl
theorem Qt9 : isS Tryz.prog 22 = false := by kernel_rfl
theorem Qw0 : tk Tryz.prog 23 = some (false, 1) := by kernel_rfl
theorem Qwp : se Tryz.prog 23 = some (3, (1, 8)) := by kernel_rfl
theorem Qxc : tz Tryz.prog 23 = some [.X4] := by kernel_rfl
theorem Qt7 : isB Tryz.prog 23 = false := by kernel_rfl
theorem Qua : isS Tryz.prog 23 = false := by kernel_rfl
theorem Qw1 : tk Tryz.prog 24 = some (false, 1) := by kernel_rfl
theorem Qwq : se Tryz.prog 24 = some (26, (5, 80)) := by kernel_rfl
theorem Qub : isS Tryz.prog 24 = false := by kernel_rfl
theorem Qw2 : tk Tryz.prog 26 = some (true, 5) := by kernel_rfl
theorem Qxd : tz Tryz.prog 26 = some [(.int .i64 0), (.str (ByteArray.mk #[])), (.int .i64 0), .X4, .X4] := by kernel_rfl
theorem Qtr : fps Tryz.prog 26 = some [(0, 1), (1, 1), (2, 1), (3, 1), (4, 1)] := by kernel_rfl
theorem Qq4 : fo Tryz.prog 26 0 = some 0 := by kernel_rfl
theorem Qq5 : fo Tryz.prog 26 1 = some 1 := by kernel_rfl
theorem Qq6 : fo Tryz.prog 26 2 = some 2 := by kernel_rfl
theorem Qq7 : fo Tryz.prog 26 3 = some 3 := by kernel_rfl
theorem Qq8 : fo Tryz.prog 26 4 = some 4 := by kernel_rfl
theorem Qw3 : tk Tryz.prog 28 = some (false, 1) := by kernel_rfl
theorem Qwr : se Tryz.prog 28 = some (34, (16, 248)) := by kernel_rfl
theorem Quc : isS Tryz.prog 28 = false := by kernel_rfl
theorem Qw4 : tk Tryz.prog 29 = some (false, 1) := by kernel_rfl
theorem Qws : se Tryz.prog 29 = some (31, (11, 168)) := by kernel_rfl
theorem Qud : isS Tryz.prog 29 = false := by kernel_rfl
theorem Qw5 : tk Tryz.prog 31 = some (true, 11) := by kernel_rfl
theorem Qxe : tz Tryz.prog 31 = some [(.int .i64 0), (.int .i64 0), (.str (ByteArray.mk #[])), (.int .i64 0), .X4, (.int .i64 0), (.str (ByteArray.mk #[])), (.int .i64 0), .X4, .X4, .X4] := by kernel_rfl
theorem Qts : fps Tryz.prog 31 = some [(0, 1), (1, 1), (2, 1), (3, 1), (4, 1), (5, 5), (10, 1)] := by kernel_rfl
theorem Qq9 : fo Tryz.prog 31 0 = some 0 := by kernel_rfl
theorem Qra : fo Tryz.prog 31 1 = some 1 := by kernel_rfl
theorem Qrb : fo Tryz.prog 31 2 = some 2 := by kernel_rfl
theorem Qrc : fo Tryz.prog 31 3 = some 3 := by kernel_rfl
theorem Qrd : fo Tryz.prog 31 4 = some 4 := by kernel_rfl
theorem Qre : fo Tryz.prog 31 5 = some 5 := by kernel_rfl
theorem Qrf : fo Tryz.prog 31 6 = some 10 := by kernel_rfl
theorem Qw6 : tk Tryz.prog 32 = some (false, 1) := by kernel_rfl
theorem Qwt : se Tryz.prog 32 = some (78, (17, 256)) := by kernel_rfl
theorem Que : isS Tryz.prog 32 = false := by kernel_rfl
theorem Qw7 : tk Tryz.prog 34 = some (true, 16) := by kernel_rfl
theorem Qxf : tz Tryz.prog 34 = some [(.int .i64 0), (.int .i64 0), (.str (ByteArray.mk #[])), .X4, (.int .i64 0), (.int .i64 0), (.str (ByteArray.mk #[])), (.int .i64 0), .X4, (.int .i64 0), (.str (ByteArray.mk #[])), (.int .i64 0), .X4, .X4, .X4, .X4] := by kernel_rfl
theorem Qtt : fps Tryz.prog 34 = some [(0, 1), (1, 1), (2, 1), (3, 1), (4, 11), (15, 1)] := by kernel_rfl
theorem Qrg : fo Tryz.prog 34 0 = some 0 := by kernel_rfl
theorem Qrh : fo Tryz.prog 34 1 = some 1 := by kernel_rfl
theorem Qri : fo Tryz.prog 34 2 = some 2 := by kernel_rfl
theorem Qrj : fo Tryz.prog 34 3 = some 3 := by kernel_rfl
theorem Qrk : fo Tryz.prog 34 4 = some 4 := by kernel_rfl
theorem Qrl : fo Tryz.prog 34 5 = some 15 := by kernel_rfl
theorem Qxg : tz Tryz.prog 55 = some [(.int .i64 0), (.int .i64 0)] := by kernel_rfl
theorem Qtu : fps Tryz.prog 55 = some [(0, 1), (1, 1)] := by kernel_rfl
theorem Qrm : fo Tryz.prog 55 0 = some 0 := by kernel_rfl
theorem Qrn : fo Tryz.prog 55 1 = some 1 := by kernel_rfl
theorem Qw8 : tk Tryz.prog 78 = some (true, 17) := by kernel_rfl
theorem Qxh : tz Tryz.prog 78 = some [(.int .i64 0), (.int .i64 0), (.int .i64 0), (.str (ByteArray.mk #[])), .X4, (.int .i64 0), (.int .i64 0), (.str (ByteArray.mk #[])), (.int .i64 0), .X4, (.int .i64 0), (.str (ByteArray.mk #[])), (.int .i64 0), .X4, .X4, .X4, .X4] := by kernel_rfl
theorem Qtv : fps Tryz.prog 78 = some [(0, 1), (1, 16)] := by kernel_rfl
theorem Qro : fo Tryz.prog 78 0 = some 0 := by kernel_rfl
theorem Qrp : fo Tryz.prog 78 1 = some 1 := by kernel_rfl
theorem Qwu : se Tryz.prog 80 = some (9, (1, 16)) := by kernel_rfl
theorem Quf : isS Tryz.prog 80 = false := by kernel_rfl
theorem Qug : isS Tryz.prog 81 = false := by kernel_rfl
theorem Qxi : tz Tryz.prog 88 = some [.X4, (.int .i64 0)] := by kernel_rfl
theorem Qtw : fps Tryz.prog 88 = some [(0, 1), (1, 1)] := by kernel_rfl
theorem Qrq : fo Tryz.prog 88 0 = some 0 := by kernel_rfl
theorem Qrr : fo Tryz.prog 88 1 = some 1 := by kernel_rfl
theorem Qw9 : tk Tryz.prog 91 = some (false, 1) := by kernel_rfl
theorem Qwv : se Tryz.prog 91 = some (152, (3, 48)) := by kernel_rfl
theorem Quh : isS Tryz.prog 91 = false := by kernel_rfl
theorem Qxa : tk Tryz.prog 92 = some (false, 1) := by kernel_rfl
theorem Qww : se Tryz.prog 92 = some (195, (3, 56)) := by kernel_rfl
theorem Qui : isS Tryz.prog 92 = false := by kernel_rfl
theorem Qxb : tk Tryz.prog 94 = some (true, 5) := by kernel_rfl
theorem Qxj : tz Tryz.prog 94 = some [.X4, .X4, (.int .i64 0), (.int .i64 0), (.int .i64 0)] := by kernel_rfl
theorem Qtx : fps Tryz.prog 94 = some [(0, 1), (1, 1), (2, 1), (3, 1), (4, 1)] := by kernel_rfl
theorem Qrs : fo Tryz.prog 94 0 = some 0 := by kernel_rfl
theorem Qrt : fo Tryz.prog 94 1 = some 1 := by kernel_rfl
theorem Qru : fo Tryz.prog 94 2 = some 2 := by kernel_rfl
theorem Qrv : fo Tryz.prog 94 3 = some 3 := by kernel_rfl
theorem Qrw : fo Tryz.prog 94 4 = some 4 := by kernel_rfl
theorem Quz : tk Tryz.prog 152 = some (true, 3) := by kernel_rfl
theorem Qu5 : tz Tryz.prog 152 = some [(.str (ByteArray.mk #[])), .X4, (.int .i64 0)] := by kernel_rfl
theorem Qrx : fps Tryz.prog 152 = some [(0, 1), (1, 1), (2, 1)] := by kernel_rfl
theorem Qn0 : fo Tryz.prog 152 0 = some 0 := by kernel_rfl
theorem Qn1 : fo Tryz.prog 152 1 = some 1 := by kernel_rfl
theorem Qn2 : fo Tryz.prog 152 2 = some 2 := by kernel_rfl
theorem Qt6 : ik Tryz.prog 159 = some .u64 := by kernel_rfl
theorem Qsb : isS Tryz.prog 159 = false := by kernel_rfl
theorem Qsa : isB Tryz.prog 161 = false := by kernel_rfl
theorem Qki : R9 Tryz.prog 161 = false := by kernel_rfl
theorem Qoi : Qoh Tryz.prog 161 = true := by kernel_rfl
theorem Qu0 : tk Tryz.prog 193 = some (false, 1) := by kernel_rfl
theorem Qur : se Tryz.prog 193 = some (217, (10, 160)) := by kernel_rfl
theorem Qsc : isS Tryz.prog 193 = false := by kernel_rfl
theorem Qu1 : tk Tryz.prog 195 = some (true, 3) := by kernel_rfl
theorem Qu6 : tz Tryz.prog 195 = some [(.int .i64 0), .X4, .X4] := by kernel_rfl
theorem Qry : fps Tryz.prog 195 = some [(0, 1), (1, 1), (2, 1)] := by kernel_rfl
theorem Qn3 : fo Tryz.prog 195 0 = some 0 := by kernel_rfl
theorem Qn4 : fo Tryz.prog 195 1 = some 1 := by kernel_rfl
theorem Qn5 : fo Tryz.prog 195 2 = some 2 := by kernel_rfl
theorem Qu2 : tk Tryz.prog 217 = some (true, 10) := by kernel_rfl
theorem Qu7 : tz Tryz.prog 217 = some [(.int .i64 0), (.str (ByteArray.mk #[])), (.int .i64 0), .X4, .X4, (.int .i64 0), (.str (ByteArray.mk #[])), (.int .i64 0), .X4, .X4] := by kernel_rfl
theorem Qrz : fps Tryz.prog 217 = some [(0, 5), (5, 5)] := by kernel_rfl
theorem Qn6 : fo Tryz.prog 217 0 = some 0 := by kernel_rfl
theorem Qn7 : fo Tryz.prog 217 1 = some 5 := by kernel_rfl
theorem Qu3 : tk Tryz.prog 220 = some (false, 1) := by kernel_rfl
theorem Qus : se Tryz.prog 220 = some (236, (12, 192)) := by kernel_rfl
theorem Qu8 : tz Tryz.prog 220 = some [.X4] := by kernel_rfl
theorem Qsd : isS Tryz.prog 220 = false := by kernel_rfl
theorem Qu4 : tk Tryz.prog 236 = some (true, 12) := by kernel_rfl
theorem Qu9 : tz Tryz.prog 236 = some [(.int .i64 0), (.str (ByteArray.mk #[])), (.int .i64 0), .X4, .X4, (.int .i64 0), (.int .i64 0), (.str (ByteArray.mk #[])), (.int .i64 0), .X4, .X4, .X4] := by kernel_rfl
theorem Qr0 : fps Tryz.prog 236 = some [(0, 5), (5, 1), (6, 5), (11, 1)] := by kernel_rfl
theorem Qn8 : fo Tryz.prog 236 0 = some 0 := by kernel_rfl
theorem Qn9 : fo Tryz.prog 236 1 = some 5 := by kernel_rfl
theorem Qoa : fo Tryz.prog 236 2 = some 6 := by kernel_rfl
theorem Qob : fo Tryz.prog 236 3 = some 11 := by kernel_rfl
theorem Qut : se Tryz.prog 245 = some (220, (1, 24)) := by kernel_rfl
theorem Qse : isS Tryz.prog 245 = false := by kernel_rfl
attribute [go_sem] tk3 tz3 ik3 Qvq Qvt Qsf Qt1 tk5 ik5 Qvr Qvu Qsg Qt2
attribute [go_sem] tk9 tz9 Qvs Qvv
attribute [go_sem] Qwz Qwo Qt9 Qw0 Qwp Qxc Qt7 Qua Qw1 Qwq Qub Qw2 Qxd Qtr
attribute [go_sem] Qq4 Qq5 Qq6 Qq7 Qq8 Qw3 Qwr Quc Qw4 Qws Qud Qw5
attribute [go_sem] Qxe Qts Qq9 Qra Qrb Qrc Qrd Qre Qrf Qw6 Qwt Que Qw7 Qxf Qtt
attribute [go_sem] Qrg Qrh Qri Qrj Qrk Qrl
attribute [go_sem] Qxg Qtu Qrm Qrn
attribute [go_sem] Qw8 Qxh Qtv Qro Qrp
attribute [go_sem] Qwu Quf Qug
attribute [go_sem] Qxi Qtw Qrq Qrr Qw9 Qwv
attribute [go_sem] Quh Qxa Qww Qui Qxb Qxj Qtx Qrs Qrt Qru Qrv Qrw
attribute [go_sem] Quz Qu5 Qrx Qn0 Qn1 Qn2
attribute [go_sem] Qt6 Qsb
attribute [go_sem] Qsa Qki Qoi
attribute [go_sem] Qu0 Qur Qsc
attribute [go_sem] Qu1 Qu6 Qry Qn3 Qn4 Qn5
attribute [go_sem] Qu2 Qu7 Qrz Qn6 Qn7
attribute [go_sem] Qu3 Qus Qu8 Qsd
attribute [go_sem] Qu4 Qu9 Qr0 Qn8 Qn9 Qoa Qob
attribute [go_sem] Qut Qse
end Go.Proofs.SA
