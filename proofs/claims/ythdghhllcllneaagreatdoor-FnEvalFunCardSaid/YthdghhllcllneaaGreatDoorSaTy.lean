/- The closed facts of the types of Tryz. -/
import Derived.Test.YthdghhllcllneaaGreatDoorShM
import Derived.Test.YthdghhllcllneaaGreatDoorProg
namespace Go.Proofs.SA
open Go Go.Proofs Go.Proofs.Shadow
theorem mixed : Tryz.prog.follows .mixedOrders = true := by kernel_rfl
theorem tk3 : tk Tryz.prog 3 = some (false, 1) := by kernel_rfl
theorem tz3 : tz Tryz.prog 3 = some [(.int .i64 0)] := by kernel_rfl
theorem ik3 : ik Tryz.prog 3 = some .i64 := by kernel_rfl
theorem Qu4 : isB Tryz.prog 3 = false := by kernel_rfl
theorem Qu7 : isS Tryz.prog 3 = false := by kernel_rfl
theorem Qrt : RV Tryz.prog 3 = false := by kernel_rfl
theorem Qtg : Qnz Tryz.prog 3 = true := by kernel_rfl
theorem tk5 : tk Tryz.prog 5 = some (false, 1) := by kernel_rfl
theorem ik5 : ik Tryz.prog 5 = some .u8 := by kernel_rfl
theorem Qu5 : isB Tryz.prog 5 = false := by kernel_rfl
theorem Qu8 : isS Tryz.prog 5 = false := by kernel_rfl
theorem Qru : RV Tryz.prog 5 = false := by kernel_rfl
theorem Qth : Qnz Tryz.prog 5 = true := by kernel_rfl
theorem tk9 : tk Tryz.prog 9 = some (false, 1) := by kernel_rfl
theorem tz9 : tz Tryz.prog 9 = some [(.str (ByteArray.mk #[]))] := by kernel_rfl
theorem Qu6 : isB Tryz.prog 9 = false := by kernel_rfl
theorem Qu9 : isS Tryz.prog 9 = true := by kernel_rfl
theorem Qwd : tk Tryz.prog 22 = some (false, 1) := by kernel_rfl
theorem Qv2 : se Tryz.prog 22 = some (5, (1, 1)) := by kernel_rfl
theorem Qto : isS Tryz.prog 22 = false := by kernel_rfl
theorem Qwe : tk Tryz.prog 23 = some (false, 1) := by kernel_rfl
theorem Qv3 : se Tryz.prog 23 = some (3, (1, 8)) := by kernel_rfl
theorem Qwq : tz Tryz.prog 23 = some [.X4] := by kernel_rfl
theorem Qtm : isB Tryz.prog 23 = false := by kernel_rfl
theorem Qtp : isS Tryz.prog 23 = false := by kernel_rfl
theorem Qwf : tk Tryz.prog 24 = some (false, 1) := by kernel_rfl
theorem Qv4 : se Tryz.prog 24 = some (26, (5, 80)) := by kernel_rfl
theorem Qtq : isS Tryz.prog 24 = false := by kernel_rfl
theorem Qwg : tk Tryz.prog 26 = some (true, 5) := by kernel_rfl
theorem Qwr : tz Tryz.prog 26 = some [(.int .i64 0), (.str (ByteArray.mk #[])), (.int .i64 0), .X4, .X4] := by kernel_rfl
theorem Qs6 : fps Tryz.prog 26 = some [(0, 1), (1, 1), (2, 1), (3, 1), (4, 1)] := by kernel_rfl
theorem Qqi : fo Tryz.prog 26 0 = some 0 := by kernel_rfl
theorem Qqj : fo Tryz.prog 26 1 = some 1 := by kernel_rfl
theorem Qqk : fo Tryz.prog 26 2 = some 2 := by kernel_rfl
theorem Qql : fo Tryz.prog 26 3 = some 3 := by kernel_rfl
theorem Qqm : fo Tryz.prog 26 4 = some 4 := by kernel_rfl
theorem Qwh : tk Tryz.prog 28 = some (false, 1) := by kernel_rfl
theorem Qv5 : se Tryz.prog 28 = some (34, (16, 248)) := by kernel_rfl
theorem Qtr : isS Tryz.prog 28 = false := by kernel_rfl
theorem Qwi : tk Tryz.prog 29 = some (false, 1) := by kernel_rfl
theorem Qv6 : se Tryz.prog 29 = some (31, (11, 168)) := by kernel_rfl
theorem Qts : isS Tryz.prog 29 = false := by kernel_rfl
theorem Qwj : tk Tryz.prog 31 = some (true, 11) := by kernel_rfl
theorem Qws : tz Tryz.prog 31 = some [(.int .i64 0), (.int .i64 0), (.str (ByteArray.mk #[])), (.int .i64 0), .X4, (.int .i64 0), (.str (ByteArray.mk #[])), (.int .i64 0), .X4, .X4, .X4] := by kernel_rfl
theorem Qs7 : fps Tryz.prog 31 = some [(0, 1), (1, 1), (2, 1), (3, 1), (4, 1), (5, 5), (10, 1)] := by kernel_rfl
theorem Qqn : fo Tryz.prog 31 0 = some 0 := by kernel_rfl
theorem Qqo : fo Tryz.prog 31 1 = some 1 := by kernel_rfl
theorem Qqp : fo Tryz.prog 31 2 = some 2 := by kernel_rfl
theorem Qqq : fo Tryz.prog 31 3 = some 3 := by kernel_rfl
theorem Qqr : fo Tryz.prog 31 4 = some 4 := by kernel_rfl
theorem Qqs : fo Tryz.prog 31 5 = some 5 := by kernel_rfl
theorem Qqt : fo Tryz.prog 31 6 = some 10 := by kernel_rfl
theorem Qwk : tk Tryz.prog 32 = some (false, 1) := by kernel_rfl
theorem Qv7 : se Tryz.prog 32 = some (78, (17, 256)) := by kernel_rfl
theorem Qtt : isS Tryz.prog 32 = false := by kernel_rfl
theorem Qwl : tk Tryz.prog 34 = some (true, 16) := by kernel_rfl
theorem Qwt : tz Tryz.prog 34 = some [(.int .i64 0), (.int .i64 0), (.str (ByteArray.mk #[])), .X4, (.int .i64 0), (.int .i64 0), (.str (ByteArray.mk #[])), (.int .i64 0), .X4, (.int .i64 0), (.str (ByteArray.mk #[])), (.int .i64 0), .X4, .X4, .X4, .X4] := by kernel_rfl
theorem Qs8 : fps Tryz.prog 34 = some [(0, 1), (1, 1), (2, 1), (3, 1), (4, 11), (15, 1)] := by kernel_rfl
theorem Qqu : fo Tryz.prog 34 0 = some 0 := by kernel_rfl
theorem Qqv : fo Tryz.prog 34 1 = some 1 := by kernel_rfl
theorem Qqw : fo Tryz.prog 34 2 = some 2 := by kernel_rfl
theorem Qqx : fo Tryz.prog 34 3 = some 3 := by kernel_rfl
theorem Qqy : fo Tryz.prog 34 4 = some 4 := by kernel_rfl
theorem Qqz : fo Tryz.prog 34 5 = some 15 := by kernel_rfl
theorem Qwu : tz Tryz.prog 55 = some [(.int .i64 0), (.int .i64 0)] := by kernel_rfl
theorem Qs9 : fps Tryz.prog 55 = some [(0, 1), (1, 1)] := by kernel_rfl
theorem Qq0 : fo Tryz.prog 55 0 = some 0 := by kernel_rfl
theorem Qq1 : fo Tryz.prog 55 1 = some 1 := by kernel_rfl
theorem Qwm : tk Tryz.prog 78 = some (true, 17) := by kernel_rfl
theorem Qwv : tz Tryz.prog 78 = some [(.int .i64 0), (.int .i64 0), (.int .i64 0), (.str (ByteArray.mk #[])), .X4, (.int .i64 0), (.int .i64 0), (.str (ByteArray.mk #[])), (.int .i64 0), .X4, (.int .i64 0), (.str (ByteArray.mk #[])), (.int .i64 0), .X4, .X4, .X4, .X4] := by kernel_rfl
theorem Qta : fps Tryz.prog 78 = some [(0, 1), (1, 16)] := by kernel_rfl
theorem Qq2 : fo Tryz.prog 78 0 = some 0 := by kernel_rfl
theorem Qq3 : fo Tryz.prog 78 1 = some 1 := by kernel_rfl
theorem Qv8 : se Tryz.prog 80 = some (9, (1, 16)) := by kernel_rfl
theorem Qtu : isS Tryz.prog 80 = false := by kernel_rfl
theorem Qtv : isS Tryz.prog 81 = false := by kernel_rfl
theorem Qww : tz Tryz.prog 88 = some [.X4, (.int .i64 0)] := by kernel_rfl
theorem Qtb : fps Tryz.prog 88 = some [(0, 1), (1, 1)] := by kernel_rfl
theorem Qq4 : fo Tryz.prog 88 0 = some 0 := by kernel_rfl
theorem Qq5 : fo Tryz.prog 88 1 = some 1 := by kernel_rfl
theorem Qwn : tk Tryz.prog 91 = some (false, 1) := by kernel_rfl
theorem Qv9 : se Tryz.prog 91 = some (152, (3, 48)) := by kernel_rfl
theorem Qtw : isS Tryz.prog 91 = false := by kernel_rfl
theorem Qwo : tk Tryz.prog 92 = some (false, 1) := by kernel_rfl
theorem Qwa : se Tryz.prog 92 = some (195, (3, 56)) := by kernel_rfl
theorem Qtx : isS Tryz.prog 92 = false := by kernel_rfl
theorem Qwp : tk Tryz.prog 94 = some (true, 5) := by kernel_rfl
theorem Qwx : tz Tryz.prog 94 = some [.X4, .X4, (.int .i64 0), (.int .i64 0), (.int .i64 0)] := by kernel_rfl
theorem Qtc : fps Tryz.prog 94 = some [(0, 1), (1, 1), (2, 1), (3, 1), (4, 1)] := by kernel_rfl
theorem Qq6 : fo Tryz.prog 94 0 = some 0 := by kernel_rfl
theorem Qq7 : fo Tryz.prog 94 1 = some 1 := by kernel_rfl
theorem Qq8 : fo Tryz.prog 94 2 = some 2 := by kernel_rfl
theorem Qq9 : fo Tryz.prog 94 3 = some 3 := by kernel_rfl
theorem Qra : fo Tryz.prog 94 4 = some 4 := by kernel_rfl
theorem Que : tk Tryz.prog 152 = some (true, 3) := by kernel_rfl
theorem Quk : tz Tryz.prog 152 = some [(.str (ByteArray.mk #[])), .X4, (.int .i64 0)] := by kernel_rfl
theorem Qrb : fps Tryz.prog 152 = some [(0, 1), (1, 1), (2, 1)] := by kernel_rfl
theorem Qni : fo Tryz.prog 152 0 = some 0 := by kernel_rfl
theorem Qnj : fo Tryz.prog 152 1 = some 1 := by kernel_rfl
theorem Qnk : fo Tryz.prog 152 2 = some 2 := by kernel_rfl
theorem Qtl : ik Tryz.prog 159 = some .u64 := by kernel_rfl
theorem Qrp : isS Tryz.prog 159 = false := by kernel_rfl
theorem Qro : isB Tryz.prog 161 = false := by kernel_rfl
theorem Qj1 : RV Tryz.prog 161 = false := by kernel_rfl
theorem Qn0 : Qnz Tryz.prog 161 = true := by kernel_rfl
theorem Quf : tk Tryz.prog 193 = some (false, 1) := by kernel_rfl
theorem Qt6 : se Tryz.prog 193 = some (217, (10, 160)) := by kernel_rfl
theorem Qrq : isS Tryz.prog 193 = false := by kernel_rfl
theorem Qug : tk Tryz.prog 195 = some (true, 3) := by kernel_rfl
theorem Qul : tz Tryz.prog 195 = some [(.int .i64 0), .X4, .X4] := by kernel_rfl
theorem Qrc : fps Tryz.prog 195 = some [(0, 1), (1, 1), (2, 1)] := by kernel_rfl
theorem Qnl : fo Tryz.prog 195 0 = some 0 := by kernel_rfl
theorem Qnm : fo Tryz.prog 195 1 = some 1 := by kernel_rfl
theorem Qnn : fo Tryz.prog 195 2 = some 2 := by kernel_rfl
theorem Quh : tk Tryz.prog 217 = some (true, 10) := by kernel_rfl
theorem Qum : tz Tryz.prog 217 = some [(.int .i64 0), (.str (ByteArray.mk #[])), (.int .i64 0), .X4, .X4, (.int .i64 0), (.str (ByteArray.mk #[])), (.int .i64 0), .X4, .X4] := by kernel_rfl
theorem Qrd : fps Tryz.prog 217 = some [(0, 5), (5, 5)] := by kernel_rfl
theorem Qno : fo Tryz.prog 217 0 = some 0 := by kernel_rfl
theorem Qnp : fo Tryz.prog 217 1 = some 5 := by kernel_rfl
theorem Qui : tk Tryz.prog 220 = some (false, 1) := by kernel_rfl
theorem Qt7 : se Tryz.prog 220 = some (236, (12, 192)) := by kernel_rfl
theorem Qun : tz Tryz.prog 220 = some [.X4] := by kernel_rfl
theorem Qrr : isS Tryz.prog 220 = false := by kernel_rfl
theorem Quj : tk Tryz.prog 236 = some (true, 12) := by kernel_rfl
theorem Quo : tz Tryz.prog 236 = some [(.int .i64 0), (.str (ByteArray.mk #[])), (.int .i64 0), .X4, .X4, (.int .i64 0), (.int .i64 0), (.str (ByteArray.mk #[])), (.int .i64 0), .X4, .X4, .X4] := by kernel_rfl
theorem Qre : fps Tryz.prog 236 = some [(0, 5), (5, 1), (6, 5), (11, 1)] := by kernel_rfl
theorem Qnq : fo Tryz.prog 236 0 = some 0 := by kernel_rfl
theorem Qnr : fo Tryz.prog 236 1 = some 5 := by kernel_rfl
theorem Qns : fo Tryz.prog 236 2 = some 6 := by kernel_rfl
theorem Qnt : fo Tryz.prog 236 3 = some 11 := by kernel_rfl
theorem Qt8 : se Tryz.prog 245 = some (220, (1, 24)) := by kernel_rfl
theorem Qrs : isS Tryz.prog 245 = false := by kernel_rfl
attribute [go_sem] tk3 tz3 ik3 Qu4 Qu7 Qrt Qtg tk5 ik5 Qu5 Qu8 Qru Qth
attribute [go_sem] tk9 tz9 Qu6 Qu9
attribute [go_sem] Qwd Qv2 Qto Qwe Qv3 Qwq Qtm Qtp Qwf Qv4 Qtq Qwg Qwr Qs6
attribute [go_sem] Qqi Qqj Qqk Qql Qqm Qwh Qv5 Qtr Qwi Qv6 Qts Qwj
attribute [go_sem] Qws Qs7 Qqn Qqo Qqp Qqq Qqr Qqs Qqt Qwk Qv7 Qtt Qwl Qwt Qs8
attribute [go_sem] Qqu Qqv Qqw Qqx Qqy Qqz
attribute [go_sem] Qwu Qs9 Qq0 Qq1
attribute [go_sem] Qwm Qwv Qta Qq2 Qq3
attribute [go_sem] Qv8 Qtu Qtv
attribute [go_sem] Qww Qtb Qq4 Qq5 Qwn Qv9
attribute [go_sem] Qtw Qwo Qwa Qtx Qwp Qwx Qtc Qq6 Qq7 Qq8 Qq9 Qra
attribute [go_sem] Que Quk Qrb Qni Qnj Qnk
attribute [go_sem] Qtl Qrp
attribute [go_sem] Qro Qj1 Qn0
attribute [go_sem] Quf Qt6 Qrq
attribute [go_sem] Qug Qul Qrc Qnl Qnm Qnn
attribute [go_sem] Quh Qum Qrd Qno Qnp
attribute [go_sem] Qui Qt7 Qun Qrr
attribute [go_sem] Quj Quo Qre Qnq Qnr Qns Qnt
attribute [go_sem] Qt8 Qrs
end Go.Proofs.SA
