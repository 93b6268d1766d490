/- The closed facts of the types of Tryz. -/
import Derived.Test.YthdghhllcllneaaGreatDoorShM
import Derived.Test.YthdghhllcllneaaGreatDoorProg
namespace Go.Proofs.SA
open Go Go.Proofs Go.Proofs.Shadow
theorem mixed : Tryz.prog.follows .mixedOrders = true := by kernel_rfl
theorem tk3 : tk Tryz.prog 3 = some (false, 1) := by kernel_rfl
theorem tz3 : tz Tryz.prog 3 = some [(.int .i64 0)] := by kernel_rfl
theorem ik3 : ik Tryz.prog 3 = some .i64 := by kernel_rfl
theorem Qvh : isB Tryz.prog 3 = false := by kernel_rfl
theorem Qvk : isS Tryz.prog 3 = false := by kernel_rfl
theorem Qr7 : R4 Tryz.prog 3 = false := by kernel_rfl
theorem Qtt : Qoc Tryz.prog 3 = true := by kernel_rfl
theorem tk5 : tk Tryz.prog 5 = some (false, 1) := by kernel_rfl
theorem ik5 : ik Tryz.prog 5 = some .u8 := by kernel_rfl
theorem Qvi : isB Tryz.prog 5 = false := by kernel_rfl
theorem Qvl : isS Tryz.prog 5 = false := by kernel_rfl
theorem Qr8 : R4 Tryz.prog 5 = false := by kernel_rfl
theorem Qtu : Qoc Tryz.prog 5 = true := by kernel_rfl
theorem tk9 : tk Tryz.prog 9 = some (false, 1) := by kernel_rfl
theorem tz9 : tz Tryz.prog 9 = some [(.str (ByteArray.mk #[]))] := by kernel_rfl
theorem Qvj : isB Tryz.prog 9 = false := by kernel_rfl
theorem Qvm : isS Tryz.prog 9 = true := by kernel_rfl
theorem Qwq : tk Tryz.prog 22 = some (false, 1) := by kernel_rfl
theorem Qwf : se Tryz.prog 22 = some (5, (1, 1)) := by kernel_rfl
theorem Qt1 : isS Tryz.prog 22 = false := by kernel_rfl
theorem Qwr : tk Tryz.prog 23 = some (false, 1) := by kernel_rfl
theorem Qwg : se Tryz.prog 23 = some (3, (1, 8)) := by kernel_rfl
theorem Qw3 : tz Tryz.prog 23 = some [.X4] := by kernel_rfl
theorem Qtz : isB Tryz.prog 23 = false := by kernel_rfl
theorem Qt2 : isS Tryz.prog 23 = false := by kernel_rfl
theorem Qws : tk Tryz.prog 24 = some (false, 1) := by kernel_rfl
theorem Qwh : se Tryz.prog 24 = some (26, (5, 80)) := by kernel_rfl
theorem Qt3 : isS Tryz.prog 24 = false := by kernel_rfl
theorem Qwt : tk Tryz.prog 26 = some (true, 5) := by kernel_rfl
theorem Qw4 : tz Tryz.prog 26 = some [(.int .i64 0), (.str (ByteArray.mk #[])), (.int .i64 0), .X4, .X4] := by kernel_rfl
theorem Qtj : fps Tryz.prog 26 = some [(0, 1), (1, 1), (2, 1), (3, 1), (4, 1)] := by kernel_rfl
theorem Qqw : fo Tryz.prog 26 0 = some 0 := by kernel_rfl
theorem Qqx : fo Tryz.prog 26 1 = some 1 := by kernel_rfl
theorem Qqy : fo Tryz.prog 26 2 = some 2 := by kernel_rfl
theorem Qqz : fo Tryz.prog 26 3 = some 3 := by kernel_rfl
theorem Qq0 : fo Tryz.prog 26 4 = some 4 := by kernel_rfl
theorem Qwu : tk Tryz.prog 28 = some (false, 1) := by kernel_rfl
theorem Qwi : se Tryz.prog 28 = some (34, (16, 248)) := by kernel_rfl
theorem Qt4 : isS Tryz.prog 28 = false := by kernel_rfl
theorem Qwv : tk Tryz.prog 29 = some (false, 1) := by kernel_rfl
theorem Qwj : se Tryz.prog 29 = some (31, (11, 168)) := by kernel_rfl
theorem Qt5 : isS Tryz.prog 29 = false := by kernel_rfl
theorem Qww : tk Tryz.prog 31 = some (true, 11) := by kernel_rfl
theorem Qw5 : tz Tryz.prog 31 = some [(.int .i64 0), (.int .i64 0), (.str (ByteArray.mk #[])), (.int .i64 0), .X4, (.int .i64 0), (.str (ByteArray.mk #[])), (.int .i64 0), .X4, .X4, .X4] := by kernel_rfl
theorem Qtk : fps Tryz.prog 31 = some [(0, 1), (1, 1), (2, 1), (3, 1), (4, 1), (5, 5), (10, 1)] := by kernel_rfl
theorem Qq1 : fo Tryz.prog 31 0 = some 0 := by kernel_rfl
theorem Qq2 : fo Tryz.prog 31 1 = some 1 := by kernel_rfl
theorem Qq3 : fo Tryz.prog 31 2 = some 2 := by kernel_rfl
theorem Qq4 : fo Tryz.prog 31 3 = some 3 := by kernel_rfl
theorem Qq5 : fo Tryz.prog 31 4 = some 4 := by kernel_rfl
theorem Qq6 : fo Tryz.prog 31 5 = some 5 := by kernel_rfl
theorem Qq7 : fo Tryz.prog 31 6 = some 10 := by kernel_rfl
theorem Qwx : tk Tryz.prog 32 = some (false, 1) := by kernel_rfl
theorem Qwk : se Tryz.prog 32 = some (78, (17, 256)) := by kernel_rfl
theorem Qt6 : isS Tryz.prog 32 = false := by kernel_rfl
theorem Qwy : tk Tryz.prog 34 = some (true, 16) := by kernel_rfl
theorem Qw6 : tz Tryz.prog 34 = some [(.int .i64 0), (.int .i64 0), (.str (ByteArray.mk #[])), .X4, (.int .i64 0), (.int .i64 0), (.str (ByteArray.mk #[])), (.int .i64 0), .X4, (.int .i64 0), (.str (ByteArray.mk #[])), (.int .i64 0), .X4, .X4, .X4, .X4] := by kernel_rfl
theorem Qtl : fps Tryz.prog 34 = some [(0, 1), (1, 1), (2, 1), (3, 1), (4, 11), (15, 1)] := by kernel_rfl
theorem Qq8 : fo Tryz.prog 34 0 = some 0 := by kernel_rfl
theorem Qq9 : fo Tryz.prog 34 1 = some 1 := by kernel_rfl
theorem Qra : fo Tryz.prog 34 2 = some 2 := by kernel_rfl
theorem Qrb : fo Tryz.prog 34 3 = some 3 := by kernel_rfl
theorem Qrc : fo Tryz.prog 34 4 = some 4 := by kernel_rfl
theorem Qrd : fo Tryz.prog 34 5 = some 15 := by kernel_rfl
theorem Qw7 : tz Tryz.prog 55 = some [(.int .i64 0), (.int .i64 0)] := by kernel_rfl
theorem Qtm : fps Tryz.prog 55 = some [(0, 1), (1, 1)] := by kernel_rfl
theorem Qre : fo Tryz.prog 55 0 = some 0 := by kernel_rfl
theorem Qrf : fo Tryz.prog 55 1 = some 1 := by kernel_rfl
theorem Qwz : tk Tryz.prog 78 = some (true, 17) := by kernel_rfl
theorem Qw8 : tz Tryz.prog 78 = some [(.int .i64 0), (.int .i64 0), (.int .i64 0), (.str (ByteArray.mk #[])), .X4, (.int .i64 0), (.int .i64 0), (.str (ByteArray.mk #[])), (.int .i64 0), .X4, (.int .i64 0), (.str (ByteArray.mk #[])), (.int .i64 0), .X4, .X4, .X4, .X4] := by kernel_rfl
theorem Qtn : fps Tryz.prog 78 = some [(0, 1), (1, 16)] := by kernel_rfl
theorem Qrg : fo Tryz.prog 78 0 = some 0 := by kernel_rfl
theorem Qrh : fo Tryz.prog 78 1 = some 1 := by kernel_rfl
theorem Qwl : se Tryz.prog 80 = some (9, (1, 16)) := by kernel_rfl
theorem Qt7 : isS Tryz.prog 80 = false := by kernel_rfl
theorem Qt8 : isS Tryz.prog 81 = false := by kernel_rfl
theorem Qw9 : tz Tryz.prog 88 = some [.X4, (.int .i64 0)] := by kernel_rfl
theorem Qto : fps Tryz.prog 88 = some [(0, 1), (1, 1)] := by kernel_rfl
theorem Qri : fo Tryz.prog 88 0 = some 0 := by kernel_rfl
theorem Qrj : fo Tryz.prog 88 1 = some 1 := by kernel_rfl
theorem Qw0 : tk Tryz.prog 91 = some (false, 1) := by kernel_rfl
theorem Qwm : se Tryz.prog 91 = some (152, (3, 48)) := by kernel_rfl
theorem Qt9 : isS Tryz.prog 91 = false := by kernel_rfl
theorem Qw1 : tk Tryz.prog 92 = some (false, 1) := by kernel_rfl
theorem Qwn : se Tryz.prog 92 = some (195, (3, 56)) := by kernel_rfl
theorem Qua : isS Tryz.prog 92 = false := by kernel_rfl
theorem Qw2 : tk Tryz.prog 94 = some (true, 5) := by kernel_rfl
theorem Qxa : tz Tryz.prog 94 = some [.X4, .X4, (.int .i64 0), (.int .i64 0), (.int .i64 0)] := by kernel_rfl
theorem Qtp : fps Tryz.prog 94 = some [(0, 1), (1, 1), (2, 1), (3, 1), (4, 1)] := by kernel_rfl
theorem Qrk : fo Tryz.prog 94 0 = some 0 := by kernel_rfl
theorem Qrl : fo Tryz.prog 94 1 = some 1 := by kernel_rfl
theorem Qrm : fo Tryz.prog 94 2 = some 2 := by kernel_rfl
theorem Qrn : fo Tryz.prog 94 3 = some 3 := by kernel_rfl
theorem Qro : fo Tryz.prog 94 4 = some 4 := by kernel_rfl
theorem Qur : tk Tryz.prog 152 = some (true, 3) := by kernel_rfl
theorem Qux : tz Tryz.prog 152 = some [(.str (ByteArray.mk #[])), .X4, (.int .i64 0)] := by kernel_rfl
theorem Qrp : fps Tryz.prog 152 = some [(0, 1), (1, 1), (2, 1)] := by kernel_rfl
theorem Qnv : fo Tryz.prog 152 0 = some 0 := by kernel_rfl
theorem Qnw : fo Tryz.prog 152 1 = some 1 := by kernel_rfl
theorem Qnx : fo Tryz.prog 152 2 = some 2 := by kernel_rfl
theorem Qty : ik Tryz.prog 159 = some .u64 := by kernel_rfl
theorem Qr3 : isS Tryz.prog 159 = false := by kernel_rfl
theorem Qr2 : isB Tryz.prog 161 = false := by kernel_rfl
theorem Qkd : R4 Tryz.prog 161 = false := by kernel_rfl
theorem Qod : Qoc Tryz.prog 161 = true := by kernel_rfl
theorem Qus : tk Tryz.prog 193 = some (false, 1) := by kernel_rfl
theorem Quj : se Tryz.prog 193 = some (217, (10, 160)) := by kernel_rfl
theorem Qr4 : isS Tryz.prog 193 = false := by kernel_rfl
theorem Qut : tk Tryz.prog 195 = some (true, 3) := by kernel_rfl
theorem Quy : tz Tryz.prog 195 = some [(.int .i64 0), .X4, .X4] := by kernel_rfl
theorem Qrq : fps Tryz.prog 195 = some [(0, 1), (1, 1), (2, 1)] := by kernel_rfl
theorem Qny : fo Tryz.prog 195 0 = some 0 := by kernel_rfl
theorem Qnz : fo Tryz.prog 195 1 = some 1 := by kernel_rfl
theorem Qn0 : fo Tryz.prog 195 2 = some 2 := by kernel_rfl
theorem Quu : tk Tryz.prog 217 = some (true, 10) := by kernel_rfl
theorem Quz : tz Tryz.prog 217 = some [(.int .i64 0), (.str (ByteArray.mk #[])), (.int .i64 0), .X4, .X4, (.int .i64 0), (.str (ByteArray.mk #[])), (.int .i64 0), .X4, .X4] := by kernel_rfl
theorem Qrr : fps Tryz.prog 217 = some [(0, 5), (5, 5)] := by kernel_rfl
theorem Qn1 : fo Tryz.prog 217 0 = some 0 := by kernel_rfl
theorem Qn2 : fo Tryz.prog 217 1 = some 5 := by kernel_rfl
theorem Quv : tk Tryz.prog 220 = some (false, 1) := by kernel_rfl
theorem Quk : se Tryz.prog 220 = some (236, (12, 192)) := by kernel_rfl
theorem Qu0 : tz Tryz.prog 220 = some [.X4] := by kernel_rfl
theorem Qr5 : isS Tryz.prog 220 = false := by kernel_rfl
theorem Quw : tk Tryz.prog 236 = some (true, 12) := by kernel_rfl
theorem Qu1 : tz Tryz.prog 236 = some [(.int .i64 0), (.str (ByteArray.mk #[])), (.int .i64 0), .X4, .X4, (.int .i64 0), (.int .i64 0), (.str (ByteArray.mk #[])), (.int .i64 0), .X4, .X4, .X4] := by kernel_rfl
theorem Qrs : fps Tryz.prog 236 = some [(0, 5), (5, 1), (6, 5), (11, 1)] := by kernel_rfl
theorem Qn3 : fo Tryz.prog 236 0 = some 0 := by kernel_rfl
theorem Qn4 : fo Tryz.prog 236 1 = some 5 := by kernel_rfl
theorem Qn5 : fo Tryz.prog 236 2 = some 6 := by kernel_rfl
theorem Qn6 : fo Tryz.prog 236 3 = some 11 := by kernel_rfl
theorem Qul : se Tryz.prog 245 = some (220, (1, 24)) := by kernel_rfl
theorem Qr6 : isS Tryz.prog 245 = false := by kernel_rfl
attribute [go_sem] tk3 tz3 ik3 Qvh Qvk Qr7 Qtt tk5 ik5 Qvi Qvl Qr8 Qtu
attribute [go_sem] tk9 tz9 Qvj Qvm
attribute [go_sem] Qwq Qwf Qt1 Qwr Qwg Qw3 Qtz Qt2 Qws Qwh Qt3 Qwt Qw4 Qtj
attribute [go_sem] Qqw Qqx Qqy Qqz Qq0 Qwu Qwi Qt4 Qwv Qwj Qt5 Qww
attribute [go_sem] Qw5 Qtk Qq1 Qq2 Qq3 Qq4 Qq5 Qq6 Qq7 Qwx Qwk Qt6 Qwy Qw6 Qtl
attribute [go_sem] Qq8 Qq9 Qra Qrb Qrc Qrd
attribute [go_sem] Qw7 Qtm Qre Qrf
attribute [go_sem] Qwz Qw8 Qtn Qrg Qrh
attribute [go_sem] Qwl Qt7 Qt8
attribute [go_sem] Qw9 Qto Qri Qrj Qw0 Qwm
attribute [go_sem] Qt9 Qw1 Qwn Qua Qw2 Qxa Qtp Qrk Qrl Qrm Qrn Qro
attribute [go_sem] Qur Qux Qrp Qnv Qnw Qnx
attribute [go_sem] Qty Qr3
attribute [go_sem] Qr2 Qkd Qod
attribute [go_sem] Qus Quj Qr4
attribute [go_sem] Qut Quy Qrq Qny Qnz Qn0
attribute [go_sem] Quu Quz Qrr Qn1 Qn2
attribute [go_sem] Quv Quk Qu0 Qr5
attribute [go_sem] Quw Qu1 Qrs Qn3 Qn4 Qn5 Qn6
attribute [go_sem] Qul Qr6
end Go.Proofs.SA
