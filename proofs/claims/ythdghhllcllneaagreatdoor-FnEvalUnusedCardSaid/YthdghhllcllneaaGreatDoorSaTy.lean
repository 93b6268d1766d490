/- The closed facts of the types of Tryz. -/
import Derived.Test.YthdghhllcllneaaGreatDoorShM
import Derived.Test.YthdghhllcllneaaGreatDoorProg
namespace Go.Proofs.SA
open Go Go.Proofs Go.Proofs.Shadow
theorem mixed : Tryz.prog.follows .mixedOrders = true := by kernel_rfl
theorem tk3 : tk Tryz.prog 3 = some (false, 1) := by kernel_rfl
theorem tz3 : tz Tryz.prog 3 = some [(.int .i64 0)] := by kernel_rfl
theorem ik3 : ik Tryz.prog 3 = some .i64 := by kernel_rfl
theorem Qvx : isB Tryz.prog 3 = false := by kernel_rfl
theorem Qv0 : isS Tryz.prog 3 = false := by kernel_rfl
theorem Qsi : Sh Tryz.prog 3 = false := by kernel_rfl
theorem Qt6 : Qoj Tryz.prog 3 = true := by kernel_rfl
theorem tk5 : tk Tryz.prog 5 = some (false, 1) := by kernel_rfl
theorem ik5 : ik Tryz.prog 5 = some .u8 := by kernel_rfl
theorem Qvy : isB Tryz.prog 5 = false := by kernel_rfl
theorem Qv1 : isS Tryz.prog 5 = false := by kernel_rfl
theorem Qsj : Sh Tryz.prog 5 = false := by kernel_rfl
theorem Qt7 : Qoj Tryz.prog 5 = true := by kernel_rfl
theorem tk9 : tk Tryz.prog 9 = some (false, 1) := by kernel_rfl
theorem tz9 : tz Tryz.prog 9 = some [(.str (ByteArray.mk #[]))] := by kernel_rfl
theorem Qvz : isB Tryz.prog 9 = false := by kernel_rfl
theorem Qv2 : isS Tryz.prog 9 = true := by kernel_rfl
theorem Qw6 : tk Tryz.prog 22 = some (false, 1) := by kernel_rfl
theorem Qwv : se Tryz.prog 22 = some (5, (1, 1)) := by kernel_rfl
theorem Que : isS Tryz.prog 22 = false := by kernel_rfl
theorem Qw7 : tk Tryz.prog 23 = some (false, 1) := by kernel_rfl
theorem Qww : se Tryz.prog 23 = some (3, (1, 8)) := by kernel_rfl
theorem Qxj : tz Tryz.prog 23 = some [.X4] := by kernel_rfl
theorem Quc : isB Tryz.prog 23 = false := by kernel_rfl
theorem Quf : isS Tryz.prog 23 = false := by kernel_rfl
theorem Qw8 : tk Tryz.prog 24 = some (false, 1) := by kernel_rfl
theorem Qwx : se Tryz.prog 24 = some (26, (5, 80)) := by kernel_rfl
theorem Qug : isS Tryz.prog 24 = false := by kernel_rfl
theorem Qw9 : tk Tryz.prog 26 = some (true, 5) := by kernel_rfl
theorem Qxk : tz Tryz.prog 26 = some [(.int .i64 0), (.str (ByteArray.mk #[])), (.int .i64 0), .X4, .X4] := by kernel_rfl
theorem Qtw : fps Tryz.prog 26 = some [(0, 1), (1, 1), (2, 1), (3, 1), (4, 1)] := by kernel_rfl
theorem Qq7 : fo Tryz.prog 26 0 = some 0 := by kernel_rfl
theorem Qq8 : fo Tryz.prog 26 1 = some 1 := by kernel_rfl
theorem Qq9 : fo Tryz.prog 26 2 = some 2 := by kernel_rfl
theorem Qra : fo Tryz.prog 26 3 = some 3 := by kernel_rfl
theorem Qrb : fo Tryz.prog 26 4 = some 4 := by kernel_rfl
theorem Qxa : tk Tryz.prog 28 = some (false, 1) := by kernel_rfl
theorem Qwy : se Tryz.prog 28 = some (34, (16, 248)) := by kernel_rfl
theorem Quh : isS Tryz.prog 28 = false := by kernel_rfl
theorem Qxb : tk Tryz.prog 29 = some (false, 1) := by kernel_rfl
theorem Qwz : se Tryz.prog 29 = some (31, (11, 168)) := by kernel_rfl
theorem Qui : isS Tryz.prog 29 = false := by kernel_rfl
theorem Qxc : tk Tryz.prog 31 = some (true, 11) := by kernel_rfl
theorem Qxl : tz Tryz.prog 31 = some [(.int .i64 0), (.int .i64 0), (.str (ByteArray.mk #[])), (.int .i64 0), .X4, (.int .i64 0), (.str (ByteArray.mk #[])), (.int .i64 0), .X4, .X4, .X4] := by kernel_rfl
theorem Qtx : fps Tryz.prog 31 = some [(0, 1), (1, 1), (2, 1), (3, 1), (4, 1), (5, 5), (10, 1)] := by kernel_rfl
theorem Qrc : fo Tryz.prog 31 0 = some 0 := by kernel_rfl
theorem Qrd : fo Tryz.prog 31 1 = some 1 := by kernel_rfl
theorem Qre : fo Tryz.prog 31 2 = some 2 := by kernel_rfl
theorem Qrf : fo Tryz.prog 31 3 = some 3 := by kernel_rfl
theorem Qrg : fo Tryz.prog 31 4 = some 4 := by kernel_rfl
theorem Qrh : fo Tryz.prog 31 5 = some 5 := by kernel_rfl
theorem Qri : fo Tryz.prog 31 6 = some 10 := by kernel_rfl
theorem Qxd : tk Tryz.prog 32 = some (false, 1) := by kernel_rfl
theorem Qw0 : se Tryz.prog 32 = some (78, (17, 256)) := by kernel_rfl
theorem Quj : isS Tryz.prog 32 = false := by kernel_rfl
theorem Qxe : tk Tryz.prog 34 = some (true, 16) := by kernel_rfl
theorem Qxm : tz Tryz.prog 34 = some [(.int .i64 0), (.int .i64 0), (.str (ByteArray.mk #[])), .X4, (.int .i64 0), (.int .i64 0), (.str (ByteArray.mk #[])), (.int .i64 0), .X4, (.int .i64 0), (.str (ByteArray.mk #[])), (.int .i64 0), .X4, .X4, .X4, .X4] := by kernel_rfl
theorem Qty : fps Tryz.prog 34 = some [(0, 1), (1, 1), (2, 1), (3, 1), (4, 11), (15, 1)] := by kernel_rfl
theorem Qrj : fo Tryz.prog 34 0 = some 0 := by kernel_rfl
theorem Qrk : fo Tryz.prog 34 1 = some 1 := by kernel_rfl
theorem Qrl : fo Tryz.prog 34 2 = some 2 := by kernel_rfl
theorem Qrm : fo Tryz.prog 34 3 = some 3 := by kernel_rfl
theorem Qrn : fo Tryz.prog 34 4 = some 4 := by kernel_rfl
theorem Qro : fo Tryz.prog 34 5 = some 15 := by kernel_rfl
theorem Qxn : tz Tryz.prog 55 = some [(.int .i64 0), (.int .i64 0)] := by kernel_rfl
theorem Qtz : fps Tryz.prog 55 = some [(0, 1), (1, 1)] := by kernel_rfl
theorem Qrp : fo Tryz.prog 55 0 = some 0 := by kernel_rfl
theorem Qrq : fo Tryz.prog 55 1 = some 1 := by kernel_rfl
theorem Qxf : tk Tryz.prog 78 = some (true, 17) := by kernel_rfl
theorem Qxo : tz Tryz.prog 78 = some [(.int .i64 0), (.int .i64 0), (.int .i64 0), (.str (ByteArray.mk #[])), .X4, (.int .i64 0), (.int .i64 0), (.str (ByteArray.mk #[])), (.int .i64 0), .X4, (.int .i64 0), (.str (ByteArray.mk #[])), (.int .i64 0), .X4, .X4, .X4, .X4] := by kernel_rfl
theorem Qt0 : fps Tryz.prog 78 = some [(0, 1), (1, 16)] := by kernel_rfl
theorem Qrr : fo Tryz.prog 78 0 = some 0 := by kernel_rfl
theorem Qrs : fo Tryz.prog 78 1 = some 1 := by kernel_rfl
theorem Qw1 : se Tryz.prog 80 = some (9, (1, 16)) := by kernel_rfl
theorem Quk : isS Tryz.prog 80 = false := by kernel_rfl
theorem Qul : isS Tryz.prog 81 = false := by kernel_rfl
theorem Qxp : tz Tryz.prog 88 = some [.X4, (.int .i64 0)] := by kernel_rfl
theorem Qt1 : fps Tryz.prog 88 = some [(0, 1), (1, 1)] := by kernel_rfl
theorem Qrt : fo Tryz.prog 88 0 = some 0 := by kernel_rfl
theorem Qru : fo Tryz.prog 88 1 = some 1 := by kernel_rfl
theorem Qxg : tk Tryz.prog 91 = some (false, 1) := by kernel_rfl
theorem Qw2 : se Tryz.prog 91 = some (152, (3, 48)) := by kernel_rfl
theorem Qum : isS Tryz.prog 91 = false := by kernel_rfl
theorem Qxh : tk Tryz.prog 92 = some (false, 1) := by kernel_rfl
theorem Qw3 : se Tryz.prog 92 = some (195, (3, 56)) := by kernel_rfl
theorem Qun : isS Tryz.prog 92 = false := by kernel_rfl
theorem Qxi : tk Tryz.prog 94 = some (true, 5) := by kernel_rfl
theorem Qxq : tz Tryz.prog 94 = some [.X4, .X4, (.int .i64 0), (.int .i64 0), (.int .i64 0)] := by kernel_rfl
theorem Qt2 : fps Tryz.prog 94 = some [(0, 1), (1, 1), (2, 1), (3, 1), (4, 1)] := by kernel_rfl
theorem Qrv : fo Tryz.prog 94 0 = some 0 := by kernel_rfl
theorem Qrw : fo Tryz.prog 94 1 = some 1 := by kernel_rfl
theorem Qrx : fo Tryz.prog 94 2 = some 2 := by kernel_rfl
theorem Qry : fo Tryz.prog 94 3 = some 3 := by kernel_rfl
theorem Qrz : fo Tryz.prog 94 4 = some 4 := by kernel_rfl
theorem Qu5 : tk Tryz.prog 152 = some (true, 3) := by kernel_rfl
theorem Qvb : tz Tryz.prog 152 = some [(.str (ByteArray.mk #[])), .X4, (.int .i64 0)] := by kernel_rfl
theorem Qr0 : fps Tryz.prog 152 = some [(0, 1), (1, 1), (2, 1)] := by kernel_rfl
theorem Qn2 : fo Tryz.prog 152 0 = some 0 := by kernel_rfl
theorem Qn3 : fo Tryz.prog 152 1 = some 1 := by kernel_rfl
theorem Qn4 : fo Tryz.prog 152 2 = some 2 := by kernel_rfl
theorem Qub : ik Tryz.prog 159 = some .u64 := by kernel_rfl
theorem Qse : isS Tryz.prog 159 = false := by kernel_rfl
theorem Qsd : isB Tryz.prog 161 = false := by kernel_rfl
theorem Qkj : Sh Tryz.prog 161 = false := by kernel_rfl
theorem Qok : Qoj Tryz.prog 161 = true := by kernel_rfl
theorem Qu6 : tk Tryz.prog 193 = some (false, 1) := by kernel_rfl
theorem Qux : se Tryz.prog 193 = some (217, (10, 160)) := by kernel_rfl
theorem Qsf : isS Tryz.prog 193 = false := by kernel_rfl
theorem Qu7 : tk Tryz.prog 195 = some (true, 3) := by kernel_rfl
theorem Qvc : tz Tryz.prog 195 = some [(.int .i64 0), .X4, .X4] := by kernel_rfl
theorem Qr1 : fps Tryz.prog 195 = some [(0, 1), (1, 1), (2, 1)] := by kernel_rfl
theorem Qn5 : fo Tryz.prog 195 0 = some 0 := by kernel_rfl
theorem Qn6 : fo Tryz.prog 195 1 = some 1 := by kernel_rfl
theorem Qn7 : fo Tryz.prog 195 2 = some 2 := by kernel_rfl
theorem Qu8 : tk Tryz.prog 217 = some (true, 10) := by kernel_rfl
theorem Qvd : tz Tryz.prog 217 = some [(.int .i64 0), (.str (ByteArray.mk #[])), (.int .i64 0), .X4, .X4, (.int .i64 0), (.str (ByteArray.mk #[])), (.int .i64 0), .X4, .X4] := by kernel_rfl
theorem Qr2 : fps Tryz.prog 217 = some [(0, 5), (5, 5)] := by kernel_rfl
theorem Qn8 : fo Tryz.prog 217 0 = some 0 := by kernel_rfl
theorem Qn9 : fo Tryz.prog 217 1 = some 5 := by kernel_rfl
theorem Qu9 : tk Tryz.prog 220 = some (false, 1) := by kernel_rfl
theorem Quy : se Tryz.prog 220 = some (236, (12, 192)) := by kernel_rfl
theorem Qve : tz Tryz.prog 220 = some [.X4] := by kernel_rfl
theorem Qsg : isS Tryz.prog 220 = false := by kernel_rfl
theorem Qva : tk Tryz.prog 236 = some (true, 12) := by kernel_rfl
theorem Qvf : tz Tryz.prog 236 = some [(.int .i64 0), (.str (ByteArray.mk #[])), (.int .i64 0), .X4, .X4, (.int .i64 0), (.int .i64 0), (.str (ByteArray.mk #[])), (.int .i64 0), .X4, .X4, .X4] := by kernel_rfl
theorem Qr3 : fps Tryz.prog 236 = some [(0, 5), (5, 1), (6, 5), (11, 1)] := by kernel_rfl
theorem Qoa : fo Tryz.prog 236 0 = some 0 := by kernel_rfl
theorem Qob : fo Tryz.prog 236 1 = some 5 := by kernel_rfl
theorem Qoc : fo Tryz.prog 236 2 = some 6 := by kernel_rfl
theorem Qod : fo Tryz.prog 236 3 = some 11 := by kernel_rfl
theorem Quz : se Tryz.prog 245 = some (220, (1, 24)) := by kernel_rfl
theorem Qsh : isS Tryz.prog 245 = false := by kernel_rfl
attribute [go_sem] tk3 tz3 ik3 Qvx Qv0 Qsi Qt6 tk5 ik5 Qvy Qv1 Qsj Qt7
attribute [go_sem] tk9 tz9 Qvz Qv2
attribute [go_sem] Qw6 Qwv Que Qw7 Qww Qxj Quc Quf Qw8 Qwx Qug Qw9 Qxk Qtw
attribute [go_sem] Qq7 Qq8 Qq9 Qra Qrb Qxa Qwy Quh Qxb Qwz Qui Qxc
attribute [go_sem] Qxl Qtx Qrc Qrd Qre Qrf Qrg Qrh Qri Qxd Qw0 Quj Qxe Qxm Qty
attribute [go_sem] Qrj Qrk Qrl Qrm Qrn Qro
attribute [go_sem] Qxn Qtz Qrp Qrq
attribute [go_sem] Qxf Qxo Qt0 Qrr Qrs
attribute [go_sem] Qw1 Quk Qul
attribute [go_sem] Qxp Qt1 Qrt Qru Qxg Qw2
attribute [go_sem] Qum Qxh Qw3 Qun Qxi Qxq Qt2 Qrv Qrw Qrx Qry Qrz
attribute [go_sem] Qu5 Qvb Qr0 Qn2 Qn3 Qn4
attribute [go_sem] Qub Qse
attribute [go_sem] Qsd Qkj Qok
attribute [go_sem] Qu6 Qux Qsf
attribute [go_sem] Qu7 Qvc Qr1 Qn5 Qn6 Qn7
attribute [go_sem] Qu8 Qvd Qr2 Qn8 Qn9
attribute [go_sem] Qu9 Quy Qve Qsg
attribute [go_sem] Qva Qvf Qr3 Qoa Qob Qoc Qod
attribute [go_sem] Quz Qsh
end Go.Proofs.SA
