/- The closed facts of the types of Tryz. -/
import Derived.Test.YthdghhllcllneabGreatDoorShM
import Derived.Test.YthdghhllcllneabGreatDoorProg
namespace Go.Proofs.SA
open Go Go.Proofs Go.Proofs.Shadow
theorem mixed : Tryz.prog.follows .mixedOrders = true := by kernel_rfl
theorem tk3 : tk Tryz.prog 3 = some (false, 1) := by kernel_rfl
theorem tz3 : tz Tryz.prog 3 = some [(.int .i64 0)] := by kernel_rfl
theorem ik3 : ik Tryz.prog 3 = some .i64 := by kernel_rfl
theorem Qvy : isB Tryz.prog 3 = false := by kernel_rfl
theorem Qv1 : isS Tryz.prog 3 = false := by kernel_rfl
theorem Qsm : Sh Tryz.prog 3 = false := by kernel_rfl
theorem Qt9 : Qoq Tryz.prog 3 = true := by kernel_rfl
theorem tk5 : tk Tryz.prog 5 = some (false, 1) := by kernel_rfl
theorem ik5 : ik Tryz.prog 5 = some .u8 := by kernel_rfl
theorem Qvz : isB Tryz.prog 5 = false := by kernel_rfl
theorem Qv2 : isS Tryz.prog 5 = false := by kernel_rfl
theorem Qsn : Sh Tryz.prog 5 = false := by kernel_rfl
theorem Qua : Qoq Tryz.prog 5 = true := by kernel_rfl
theorem tk9 : tk Tryz.prog 9 = some (false, 1) := by kernel_rfl
theorem tz9 : tz Tryz.prog 9 = some [(.str (ByteArray.mk #[]))] := by kernel_rfl
theorem Qv0 : isB Tryz.prog 9 = false := by kernel_rfl
theorem Qv3 : isS Tryz.prog 9 = true := by kernel_rfl
theorem Qw7 : tk Tryz.prog 22 = some (false, 1) := by kernel_rfl
theorem Qww : se Tryz.prog 22 = some (5, (1, 1)) := by kernel_rfl
theorem Quh : isS Tryz.prog 22 = false := by kernel_rfl
theorem Qw8 : tk Tryz.prog 23 = some (false, 1) := by kernel_rfl
theorem Qwx : se Tryz.prog 23 = some (3, (1, 8)) := by kernel_rfl
theorem Qxk : tz Tryz.prog 23 = some [.X4] := by kernel_rfl
theorem Quf : isB Tryz.prog 23 = false := by kernel_rfl
theorem Qui : isS Tryz.prog 23 = false := by kernel_rfl
theorem Qw9 : tk Tryz.prog 24 = some (false, 1) := by kernel_rfl
theorem Qwy : se Tryz.prog 24 = some (26, (5, 80)) := by kernel_rfl
theorem Quj : isS Tryz.prog 24 = false := by kernel_rfl
theorem Qxa : tk Tryz.prog 26 = some (true, 5) := by kernel_rfl
theorem Qxl : tz Tryz.prog 26 = some [(.int .i64 0), (.str (ByteArray.mk #[])), (.int .i64 0), .X4, .X4] := by kernel_rfl
theorem Qtz : fps Tryz.prog 26 = some [(0, 1), (1, 1), (2, 1), (3, 1), (4, 1)] := by kernel_rfl
theorem Qrb : fo Tryz.prog 26 0 = some 0 := by kernel_rfl
theorem Qrc : fo Tryz.prog 26 1 = some 1 := by kernel_rfl
theorem Qrd : fo Tryz.prog 26 2 = some 2 := by kernel_rfl
theorem Qre : fo Tryz.prog 26 3 = some 3 := by kernel_rfl
theorem Qrf : fo Tryz.prog 26 4 = some 4 := by kernel_rfl
theorem Qxb : tk Tryz.prog 27 = some (false, 1) := by kernel_rfl
theorem Qwz : se Tryz.prog 27 = some (29, (11, 168)) := by kernel_rfl
theorem Quk : isS Tryz.prog 27 = false := by kernel_rfl
theorem Qxc : tk Tryz.prog 29 = some (true, 11) := by kernel_rfl
theorem Qxm : tz Tryz.prog 29 = some [(.int .i64 0), (.int .i64 0), (.str (ByteArray.mk #[])), (.int .i64 0), .X4, (.int .i64 0), (.str (ByteArray.mk #[])), (.int .i64 0), .X4, .X4, .X4] := by kernel_rfl
theorem Qt0 : fps Tryz.prog 29 = some [(0, 1), (1, 1), (2, 1), (3, 1), (4, 1), (5, 5), (10, 1)] := by kernel_rfl
theorem Qrg : fo Tryz.prog 29 0 = some 0 := by kernel_rfl
theorem Qrh : fo Tryz.prog 29 1 = some 1 := by kernel_rfl
theorem Qri : fo Tryz.prog 29 2 = some 2 := by kernel_rfl
theorem Qrj : fo Tryz.prog 29 3 = some 3 := by kernel_rfl
theorem Qrk : fo Tryz.prog 29 4 = some 4 := by kernel_rfl
theorem Qrl : fo Tryz.prog 29 5 = some 5 := by kernel_rfl
theorem Qrm : fo Tryz.prog 29 6 = some 10 := by kernel_rfl
theorem Qxd : tk Tryz.prog 32 = some (false, 1) := by kernel_rfl
theorem Qw0 : se Tryz.prog 32 = some (35, (16, 248)) := by kernel_rfl
theorem Qul : isS Tryz.prog 32 = false := by kernel_rfl
theorem Qxe : tk Tryz.prog 33 = some (false, 1) := by kernel_rfl
theorem Qw1 : se Tryz.prog 33 = some (83, (17, 256)) := by kernel_rfl
theorem Qum : isS Tryz.prog 33 = false := by kernel_rfl
theorem Qxf : tk Tryz.prog 35 = some (true, 16) := by kernel_rfl
theorem Qxn : tz Tryz.prog 35 = some [(.int .i64 0), (.int .i64 0), (.str (ByteArray.mk #[])), .X4, (.int .i64 0), (.int .i64 0), (.str (ByteArray.mk #[])), (.int .i64 0), .X4, (.int .i64 0), (.str (ByteArray.mk #[])), (.int .i64 0), .X4, .X4, .X4, .X4] := by kernel_rfl
theorem Qt1 : fps Tryz.prog 35 = some [(0, 1), (1, 1), (2, 1), (3, 1), (4, 11), (15, 1)] := by kernel_rfl
theorem Qrn : fo Tryz.prog 35 0 = some 0 := by kernel_rfl
theorem Qro : fo Tryz.prog 35 1 = some 1 := by kernel_rfl
theorem Qrp : fo Tryz.prog 35 2 = some 2 := by kernel_rfl
theorem Qrq : fo Tryz.prog 35 3 = some 3 := by kernel_rfl
theorem Qrr : fo Tryz.prog 35 4 = some 4 := by kernel_rfl
theorem Qrs : fo Tryz.prog 35 5 = some 15 := by kernel_rfl
theorem Qxo : tz Tryz.prog 55 = some [(.int .i64 0), (.int .i64 0)] := by kernel_rfl
theorem Qt2 : fps Tryz.prog 55 = some [(0, 1), (1, 1)] := by kernel_rfl
theorem Qrt : fo Tryz.prog 55 0 = some 0 := by kernel_rfl
theorem Qru : fo Tryz.prog 55 1 = some 1 := by kernel_rfl
theorem Qxp : tz Tryz.prog 68 = some [.X4, (.int .i64 0)] := by kernel_rfl
theorem Qt3 : fps Tryz.prog 68 = some [(0, 1), (1, 1)] := by kernel_rfl
theorem Qrv : fo Tryz.prog 68 0 = some 0 := by kernel_rfl
theorem Qrw : fo Tryz.prog 68 1 = some 1 := by kernel_rfl
theorem Qxg : tk Tryz.prog 71 = some (false, 1) := by kernel_rfl
theorem Qw2 : se Tryz.prog 71 = some (136, (3, 48)) := by kernel_rfl
theorem Qun : isS Tryz.prog 71 = false := by kernel_rfl
theorem Qxh : tk Tryz.prog 72 = some (false, 1) := by kernel_rfl
theorem Qw3 : se Tryz.prog 72 = some (183, (3, 56)) := by kernel_rfl
theorem Quo : isS Tryz.prog 72 = false := by kernel_rfl
theorem Qxi : tk Tryz.prog 74 = some (true, 5) := by kernel_rfl
theorem Qxq : tz Tryz.prog 74 = some [.X4, .X4, (.int .i64 0), (.int .i64 0), (.int .i64 0)] := by kernel_rfl
theorem Qt4 : fps Tryz.prog 74 = some [(0, 1), (1, 1), (2, 1), (3, 1), (4, 1)] := by kernel_rfl
theorem Qrx : fo Tryz.prog 74 0 = some 0 := by kernel_rfl
theorem Qry : fo Tryz.prog 74 1 = some 1 := by kernel_rfl
theorem Qrz : fo Tryz.prog 74 2 = some 2 := by kernel_rfl
theorem Qr0 : fo Tryz.prog 74 3 = some 3 := by kernel_rfl
theorem Qr1 : fo Tryz.prog 74 4 = some 4 := by kernel_rfl
theorem Qw4 : se Tryz.prog 78 = some (9, (1, 16)) := by kernel_rfl
theorem Qup : isS Tryz.prog 78 = false := by kernel_rfl
theorem Qxj : tk Tryz.prog 83 = some (true, 17) := by kernel_rfl
theorem Qxr : tz Tryz.prog 83 = some [(.int .i64 0), (.int .i64 0), (.int .i64 0), (.str (ByteArray.mk #[])), .X4, (.int .i64 0), (.int .i64 0), (.str (ByteArray.mk #[])), (.int .i64 0), .X4, (.int .i64 0), (.str (ByteArray.mk #[])), (.int .i64 0), .X4, .X4, .X4, .X4] := by kernel_rfl
theorem Qt5 : fps Tryz.prog 83 = some [(0, 1), (1, 16)] := by kernel_rfl
theorem Qr2 : fo Tryz.prog 83 0 = some 0 := by kernel_rfl
theorem Qr3 : fo Tryz.prog 83 1 = some 1 := by kernel_rfl
theorem Quq : isS Tryz.prog 86 = false := by kernel_rfl
theorem Qu7 : tk Tryz.prog 136 = some (true, 3) := by kernel_rfl
theorem Qvd : tz Tryz.prog 136 = some [(.str (ByteArray.mk #[])), .X4, (.int .i64 0)] := by kernel_rfl
theorem Qr4 : fps Tryz.prog 136 = some [(0, 1), (1, 1), (2, 1)] := by kernel_rfl
theorem Qn9 : fo Tryz.prog 136 0 = some 0 := by kernel_rfl
theorem Qoa : fo Tryz.prog 136 1 = some 1 := by kernel_rfl
theorem Qob : fo Tryz.prog 136 2 = some 2 := by kernel_rfl
theorem Que : ik Tryz.prog 154 = some .u64 := by kernel_rfl
theorem Qsi : isS Tryz.prog 154 = false := by kernel_rfl
theorem Qsh : isB Tryz.prog 179 = false := by kernel_rfl
theorem Qkn : Sh Tryz.prog 179 = false := by kernel_rfl
theorem Qor : Qoq Tryz.prog 179 = true := by kernel_rfl
theorem Qu8 : tk Tryz.prog 181 = some (false, 1) := by kernel_rfl
theorem Quz : se Tryz.prog 181 = some (213, (10, 160)) := by kernel_rfl
theorem Qsj : isS Tryz.prog 181 = false := by kernel_rfl
theorem Qu9 : tk Tryz.prog 183 = some (true, 3) := by kernel_rfl
theorem Qve : tz Tryz.prog 183 = some [(.int .i64 0), .X4, .X4] := by kernel_rfl
theorem Qr5 : fps Tryz.prog 183 = some [(0, 1), (1, 1), (2, 1)] := by kernel_rfl
theorem Qoc : fo Tryz.prog 183 0 = some 0 := by kernel_rfl
theorem Qod : fo Tryz.prog 183 1 = some 1 := by kernel_rfl
theorem Qoe : fo Tryz.prog 183 2 = some 2 := by kernel_rfl
theorem Qva : tk Tryz.prog 213 = some (true, 10) := by kernel_rfl
theorem Qvf : tz Tryz.prog 213 = some [(.int .i64 0), (.str (ByteArray.mk #[])), (.int .i64 0), .X4, .X4, (.int .i64 0), (.str (ByteArray.mk #[])), (.int .i64 0), .X4, .X4] := by kernel_rfl
theorem Qr6 : fps Tryz.prog 213 = some [(0, 5), (5, 5)] := by kernel_rfl
theorem Qof : fo Tryz.prog 213 0 = some 0 := by kernel_rfl
theorem Qog : fo Tryz.prog 213 1 = some 5 := by kernel_rfl
theorem Qvb : tk Tryz.prog 216 = some (false, 1) := by kernel_rfl
theorem Qu0 : se Tryz.prog 216 = some (233, (12, 192)) := by kernel_rfl
theorem Qvg : tz Tryz.prog 216 = some [.X4] := by kernel_rfl
theorem Qsk : isS Tryz.prog 216 = false := by kernel_rfl
theorem Qvc : tk Tryz.prog 233 = some (true, 12) := by kernel_rfl
theorem Qvh : tz Tryz.prog 233 = some [(.int .i64 0), (.str (ByteArray.mk #[])), (.int .i64 0), .X4, .X4, (.int .i64 0), (.int .i64 0), (.str (ByteArray.mk #[])), (.int .i64 0), .X4, .X4, .X4] := by kernel_rfl
theorem Qr7 : fps Tryz.prog 233 = some [(0, 5), (5, 1), (6, 5), (11, 1)] := by kernel_rfl
theorem Qoh : fo Tryz.prog 233 0 = some 0 := by kernel_rfl
theorem Qoi : fo Tryz.prog 233 1 = some 5 := by kernel_rfl
theorem Qoj : fo Tryz.prog 233 2 = some 6 := by kernel_rfl
theorem Qok : fo Tryz.prog 233 3 = some 11 := by kernel_rfl
theorem Qu1 : se Tryz.prog 242 = some (216, (1, 24)) := by kernel_rfl
theorem Qsl : isS Tryz.prog 242 = false := by kernel_rfl
attribute [go_sem] tk3 tz3 ik3 Qvy Qv1 Qsm Qt9 tk5 ik5 Qvz Qv2 Qsn Qua
attribute [go_sem] tk9 tz9 Qv0 Qv3
attribute [go_sem] Qw7 Qww Quh Qw8 Qwx Qxk Quf Qui Qw9 Qwy Quj Qxa Qxl Qtz
attribute [go_sem] Qrb Qrc Qrd Qre Qrf Qxb Qwz Quk Qxc Qxm Qt0 Qrg Qrh Qri Qrj Qrk Qrl Qrm
attribute [go_sem] Qxd Qw0 Qul Qxe Qw1 Qum Qxf Qxn
attribute [go_sem] Qt1 Qrn Qro Qrp Qrq Qrr Qrs
attribute [go_sem] Qxo Qt2 Qrt Qru
attribute [go_sem] Qxp Qt3 Qrv Qrw Qxg Qw2 Qun Qxh Qw3
attribute [go_sem] Quo Qxi Qxq Qt4 Qrx Qry Qrz Qr0 Qr1
attribute [go_sem] Qw4 Qup Qxj
attribute [go_sem] Qxr Qt5 Qr2 Qr3 Quq
attribute [go_sem] Qu7 Qvd Qr4 Qn9 Qoa Qob
attribute [go_sem] Que
attribute [go_sem] Qsi
attribute [go_sem] Qsh Qkn Qor Qu8
attribute [go_sem] Quz Qsj Qu9 Qve Qr5 Qoc Qod Qoe
attribute [go_sem] Qva Qvf
attribute [go_sem] Qr6 Qof Qog Qvb Qu0 Qvg Qsk
attribute [go_sem] Qvc Qvh Qr7 Qoh Qoi Qoj Qok
attribute [go_sem] Qu1 Qsl
end Go.Proofs.SA
