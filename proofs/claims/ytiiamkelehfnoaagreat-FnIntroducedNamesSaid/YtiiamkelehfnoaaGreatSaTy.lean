/- The closed facts of the types of Tryz. -/
import Derived.Test.YtiiamkelehfnoaaGreatShM
import Derived.Test.YtiiamkelehfnoaaGreatProg
namespace Go.Proofs.SA
open Go Go.Proofs Go.Proofs.Shadow
theorem mixed : Tryz.prog.follows .mixedOrders = true := by kernel_rfl
theorem tk3 : tk Tryz.prog 3 = some (false, 1) := by kernel_rfl
theorem tz3 : tz Tryz.prog 3 = some [(.int .i64 0)] := by kernel_rfl
theorem ik3 : ik Tryz.prog 3 = some .i64 := by kernel_rfl
theorem Qnv : isB Tryz.prog 3 = false := by kernel_rfl
theorem Qny : isS Tryz.prog 3 = false := by kernel_rfl
theorem tk5 : tk Tryz.prog 5 = some (false, 1) := by kernel_rfl
theorem Qnw : isB Tryz.prog 5 = false := by kernel_rfl
theorem Qkz : RD Tryz.prog 5 = false := by kernel_rfl
theorem Qmb : Qkn Tryz.prog 5 = true := by kernel_rfl
theorem tk9 : tk Tryz.prog 9 = some (false, 1) := by kernel_rfl
theorem tz9 : tz Tryz.prog 9 = some [(.str (ByteArray.mk #[]))] := by kernel_rfl
theorem Qnx : isB Tryz.prog 9 = false := by kernel_rfl
theorem Qnz : isS Tryz.prog 9 = true := by kernel_rfl
theorem Qo0 : tk Tryz.prog 22 = some (false, 1) := by kernel_rfl
theorem Qoq : se Tryz.prog 22 = some (5, (1, 1)) := by kernel_rfl
theorem Qmh : isS Tryz.prog 22 = false := by kernel_rfl
theorem Qo1 : tk Tryz.prog 23 = some (false, 1) := by kernel_rfl
theorem Qor : se Tryz.prog 23 = some (3, (1, 8)) := by kernel_rfl
theorem Qpb : tz Tryz.prog 23 = some [.Yb] := by kernel_rfl
theorem Qmf : isB Tryz.prog 23 = false := by kernel_rfl
theorem Qmi : isS Tryz.prog 23 = false := by kernel_rfl
theorem Qo2 : tk Tryz.prog 24 = some (false, 1) := by kernel_rfl
theorem Qos : se Tryz.prog 24 = some (26, (5, 80)) := by kernel_rfl
theorem Qpc : tz Tryz.prog 24 = some [.Yb] := by kernel_rfl
theorem Qmj : isS Tryz.prog 24 = false := by kernel_rfl
theorem Qo3 : tk Tryz.prog 26 = some (true, 5) := by kernel_rfl
theorem Qpd : tz Tryz.prog 26 = some [(.int .i64 0), (.str (ByteArray.mk #[])), (.int .i64 0), .Yb, .Yb] := by kernel_rfl
theorem Ql1 : fps Tryz.prog 26 = some [(0, 1), (1, 1), (2, 1), (3, 1), (4, 1)] := by kernel_rfl
theorem Qjw : fo Tryz.prog 26 0 = some 0 := by kernel_rfl
theorem Qjx : fo Tryz.prog 26 1 = some 1 := by kernel_rfl
theorem Qjy : fo Tryz.prog 26 2 = some 2 := by kernel_rfl
theorem Qjz : fo Tryz.prog 26 3 = some 3 := by kernel_rfl
theorem Qj0 : fo Tryz.prog 26 4 = some 4 := by kernel_rfl
theorem Qo4 : tk Tryz.prog 28 = some (true, 13) := by kernel_rfl
theorem Qpe : tz Tryz.prog 28 = some [(.int .i64 0), (.int .i64 0), (.int .i64 0), (.int .i64 0), (.str (ByteArray.mk #[])), (.int .i64 0), .Yb, .Yb, (.int .i64 0), (.str (ByteArray.mk #[])), (.int .i64 0), .Yb, .Yb] := by kernel_rfl
theorem Ql2 : fps Tryz.prog 28 = some [(0, 1), (1, 1), (2, 1), (3, 5), (8, 5)] := by kernel_rfl
theorem Qj1 : fo Tryz.prog 28 2 = some 2 := by kernel_rfl
theorem Qj2 : fo Tryz.prog 28 3 = some 3 := by kernel_rfl
theorem Qj3 : fo Tryz.prog 28 4 = some 8 := by kernel_rfl
theorem Qo5 : tk Tryz.prog 39 = some (false, 1) := by kernel_rfl
theorem Qot : se Tryz.prog 39 = some (75, (3, 48)) := by kernel_rfl
theorem Qmk : isS Tryz.prog 39 = false := by kernel_rfl
theorem Qo6 : tk Tryz.prog 40 = some (false, 1) := by kernel_rfl
theorem Qou : se Tryz.prog 40 = some (49, (3, 56)) := by kernel_rfl
theorem Qml : isS Tryz.prog 40 = false := by kernel_rfl
theorem Qo7 : tk Tryz.prog 42 = some (true, 5) := by kernel_rfl
theorem Qpf : tz Tryz.prog 42 = some [.Yb, .Yb, (.int .i64 0), (.int .i64 0), (.int .i64 0)] := by kernel_rfl
theorem Ql3 : fps Tryz.prog 42 = some [(0, 1), (1, 1), (2, 1), (3, 1), (4, 1)] := by kernel_rfl
theorem Qj4 : fo Tryz.prog 42 0 = some 0 := by kernel_rfl
theorem Qj5 : fo Tryz.prog 42 1 = some 1 := by kernel_rfl
theorem Qj6 : fo Tryz.prog 42 2 = some 2 := by kernel_rfl
theorem Qj7 : fo Tryz.prog 42 3 = some 3 := by kernel_rfl
theorem Qj8 : fo Tryz.prog 42 4 = some 4 := by kernel_rfl
theorem Qo8 : tk Tryz.prog 47 = some (false, 1) := by kernel_rfl
theorem Qov : se Tryz.prog 47 = some (116, (10, 160)) := by kernel_rfl
theorem Qmm : isS Tryz.prog 47 = false := by kernel_rfl
theorem Qo9 : tk Tryz.prog 49 = some (true, 3) := by kernel_rfl
theorem Qpg : tz Tryz.prog 49 = some [(.int .i64 0), .Yb, .Yb] := by kernel_rfl
theorem Ql4 : fps Tryz.prog 49 = some [(0, 1), (1, 1), (2, 1)] := by kernel_rfl
theorem Qj9 : fo Tryz.prog 49 0 = some 0 := by kernel_rfl
theorem Qka : fo Tryz.prog 49 1 = some 1 := by kernel_rfl
theorem Qkb : fo Tryz.prog 49 2 = some 2 := by kernel_rfl
theorem Qow : se Tryz.prog 52 = some (28, (13, 184)) := by kernel_rfl
theorem Qmn : isS Tryz.prog 52 = false := by kernel_rfl
theorem Qpa : tk Tryz.prog 75 = some (true, 3) := by kernel_rfl
theorem Qph : tz Tryz.prog 75 = some [(.str (ByteArray.mk #[])), .Yb, (.int .i64 0)] := by kernel_rfl
theorem Ql5 : fps Tryz.prog 75 = some [(0, 1), (1, 1), (2, 1)] := by kernel_rfl
theorem Qkc : fo Tryz.prog 75 0 = some 0 := by kernel_rfl
theorem Qkd : fo Tryz.prog 75 1 = some 1 := by kernel_rfl
theorem Qke : fo Tryz.prog 75 2 = some 2 := by kernel_rfl
theorem Qox : se Tryz.prog 78 = some (9, (1, 16)) := by kernel_rfl
theorem Qmo : isS Tryz.prog 78 = false := by kernel_rfl
theorem Qoy : se Tryz.prog 87 = some (23, (1, 24)) := by kernel_rfl
theorem Qmp : isS Tryz.prog 87 = false := by kernel_rfl
theorem Qpi : tz Tryz.prog 89 = some [.Yb, (.int .i64 0)] := by kernel_rfl
theorem Ql6 : fps Tryz.prog 89 = some [(0, 1), (1, 1)] := by kernel_rfl
theorem Qkf : fo Tryz.prog 89 0 = some 0 := by kernel_rfl
theorem Qkg : fo Tryz.prog 89 1 = some 1 := by kernel_rfl
theorem Qm8 : tk Tryz.prog 116 = some (true, 10) := by kernel_rfl
theorem Qnd : tz Tryz.prog 116 = some [(.int .i64 0), (.str (ByteArray.mk #[])), (.int .i64 0), .Yb, .Yb, (.int .i64 0), (.str (ByteArray.mk #[])), (.int .i64 0), .Yb, .Yb] := by kernel_rfl
theorem Qki : fps Tryz.prog 116 = some [(0, 5), (5, 5)] := by kernel_rfl
theorem Qg2 : fo Tryz.prog 116 0 = some 0 := by kernel_rfl
theorem Qg3 : fo Tryz.prog 116 1 = some 5 := by kernel_rfl
theorem Qm9 : tk Tryz.prog 134 = some (false, 1) := by kernel_rfl
theorem Qm1 : se Tryz.prog 134 = some (136, (11, 168)) := by kernel_rfl
theorem Qkw : isS Tryz.prog 134 = false := by kernel_rfl
theorem Qna : tk Tryz.prog 136 = some (true, 11) := by kernel_rfl
theorem Qne : tz Tryz.prog 136 = some [(.int .i64 0), (.int .i64 0), (.str (ByteArray.mk #[])), (.int .i64 0), .Yb, (.int .i64 0), (.str (ByteArray.mk #[])), (.int .i64 0), .Yb, .Yb, .Yb] := by kernel_rfl
theorem Qkj : fps Tryz.prog 136 = some [(0, 1), (1, 1), (2, 1), (3, 1), (4, 1), (5, 5), (10, 1)] := by kernel_rfl
theorem Qg4 : fo Tryz.prog 136 0 = some 0 := by kernel_rfl
theorem Qg5 : fo Tryz.prog 136 1 = some 1 := by kernel_rfl
theorem Qg6 : fo Tryz.prog 136 2 = some 2 := by kernel_rfl
theorem Qg7 : fo Tryz.prog 136 3 = some 3 := by kernel_rfl
theorem Qg8 : fo Tryz.prog 136 4 = some 4 := by kernel_rfl
theorem Qg9 : fo Tryz.prog 136 5 = some 5 := by kernel_rfl
theorem Qha : fo Tryz.prog 136 6 = some 10 := by kernel_rfl
theorem Qnb : tk Tryz.prog 169 = some (false, 1) := by kernel_rfl
theorem Qm2 : se Tryz.prog 169 = some (195, (12, 192)) := by kernel_rfl
theorem Qnf : tz Tryz.prog 169 = some [.Yb] := by kernel_rfl
theorem Qkx : isS Tryz.prog 169 = false := by kernel_rfl
theorem Qnc : tk Tryz.prog 195 = some (true, 12) := by kernel_rfl
theorem Qng : tz Tryz.prog 195 = some [(.int .i64 0), (.str (ByteArray.mk #[])), (.int .i64 0), .Yb, .Yb, (.int .i64 0), (.int .i64 0), (.str (ByteArray.mk #[])), (.int .i64 0), .Yb, .Yb, .Yb] := by kernel_rfl
theorem Qkk : fps Tryz.prog 195 = some [(0, 5), (5, 1), (6, 5), (11, 1)] := by kernel_rfl
theorem Qhb : fo Tryz.prog 195 0 = some 0 := by kernel_rfl
theorem Qhc : fo Tryz.prog 195 1 = some 5 := by kernel_rfl
theorem Qhd : fo Tryz.prog 195 2 = some 6 := by kernel_rfl
theorem Qhe : fo Tryz.prog 195 3 = some 11 := by kernel_rfl
theorem Qm3 : se Tryz.prog 231 = some (169, (1, 24)) := by kernel_rfl
theorem Qky : isS Tryz.prog 231 = false := by kernel_rfl
attribute [go_sem] tk3 tz3 ik3 Qnv Qny tk5 Qnw Qkz Qmb
attribute [go_sem] tk9 tz9 Qnx Qnz
attribute [go_sem] Qo0 Qoq Qmh Qo1 Qor Qpb Qmf Qmi Qo2 Qos Qpc Qmj Qo3 Qpd Ql1
attribute [go_sem] Qjw Qjx Qjy Qjz Qj0 Qo4 Qpe Ql2 Qj1 Qj2 Qj3
attribute [go_sem] Qo5 Qot Qmk Qo6 Qou Qml Qo7 Qpf Ql3
attribute [go_sem] Qj4 Qj5 Qj6 Qj7 Qj8 Qo8 Qov Qmm
attribute [go_sem] Qo9 Qpg Ql4 Qj9 Qka Qkb Qow Qmn
attribute [go_sem] Qpa Qph Ql5 Qkc Qkd Qke Qox Qmo
attribute [go_sem] Qoy Qmp Qpi Ql6 Qkf Qkg
attribute [go_sem] Qm8 Qnd Qki Qg2 Qg3
attribute [go_sem] Qm9 Qm1 Qkw
attribute [go_sem] Qna Qne Qkj Qg4 Qg5 Qg6 Qg7 Qg8 Qg9 Qha
attribute [go_sem] Qnb Qm2 Qnf Qkx
attribute [go_sem] Qnc Qng Qkk Qhb Qhc Qhd Qhe
attribute [go_sem] Qm3 Qky
end Go.Proofs.SA
