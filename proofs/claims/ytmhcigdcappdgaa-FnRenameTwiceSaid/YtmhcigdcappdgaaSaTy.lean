/- The closed facts of the types of Try. -/
import Derived.Test.YtmhcigdcappdgaaShM
import Derived.Test.YtmhcigdcappdgaaProg
namespace Go.Proofs.SA
open Go Go.Proofs Go.Proofs.Shadow
theorem mixed : Try.prog.follows .mixedOrders = true := by kernel_rfl
theorem tk0 : tk Try.prog 0 = some (false, 1) := by kernel_rfl
theorem isB0 : isB Try.prog 0 = false := by kernel_rfl
theorem isS0 : isS Try.prog 0 = false := by kernel_rfl
theorem isU8s0 : isU8s Try.prog 0 = false := by kernel_rfl
theorem hasU0 : hasU Try.prog 0 = true := by kernel_rfl
theorem tk1 : tk Try.prog 1 = some (false, 1) := by kernel_rfl
theorem tz1 : tz Try.prog 1 = some [.nilfn] := by kernel_rfl
theorem isB1 : isB Try.prog 1 = false := by kernel_rfl
theorem isS1 : isS Try.prog 1 = false := by kernel_rfl
theorem isU8s1 : isU8s Try.prog 1 = false := by kernel_rfl
theorem hasU1 : hasU Try.prog 1 = true := by kernel_rfl
theorem tk2 : tk Try.prog 2 = some (false, 1) := by kernel_rfl
theorem tz2 : tz Try.prog 2 = some [(.int .i64 0)] := by kernel_rfl
theorem ik2 : ik Try.prog 2 = some .i64 := by kernel_rfl
theorem isB2 : isB Try.prog 2 = false := by kernel_rfl
theorem isS2 : isS Try.prog 2 = false := by kernel_rfl
theorem isU8s2 : isU8s Try.prog 2 = false := by kernel_rfl
theorem hasU2 : hasU Try.prog 2 = true := by kernel_rfl
theorem tk3 : tk Try.prog 3 = some (false, 1) := by kernel_rfl
theorem tz3 : tz Try.prog 3 = some [(.int .i64 0)] := by kernel_rfl
theorem ik3 : ik Try.prog 3 = some .i64 := by kernel_rfl
theorem isB3 : isB Try.prog 3 = false := by kernel_rfl
theorem isS3 : isS Try.prog 3 = false := by kernel_rfl
theorem isU8s3 : isU8s Try.prog 3 = false := by kernel_rfl
theorem hasU3 : hasU Try.prog 3 = true := by kernel_rfl
theorem tk4 : tk Try.prog 4 = some (false, 1) := by kernel_rfl
theorem tz4 : tz Try.prog 4 = some [(.bool false)] := by kernel_rfl
theorem isB4 : isB Try.prog 4 = true := by kernel_rfl
theorem isS4 : isS Try.prog 4 = false := by kernel_rfl
theorem isU8s4 : isU8s Try.prog 4 = false := by kernel_rfl
theorem hasU4 : hasU Try.prog 4 = true := by kernel_rfl
theorem tk5 : tk Try.prog 5 = some (false, 1) := by kernel_rfl
theorem tz5 : tz Try.prog 5 = some [(.int .u8 0)] := by kernel_rfl
theorem ik5 : ik Try.prog 5 = some .u8 := by kernel_rfl
theorem isB5 : isB Try.prog 5 = false := by kernel_rfl
theorem isS5 : isS Try.prog 5 = false := by kernel_rfl
theorem isU8s5 : isU8s Try.prog 5 = false := by kernel_rfl
theorem hasU5 : hasU Try.prog 5 = true := by kernel_rfl
theorem tk6 : tk Try.prog 6 = some (false, 1) := by kernel_rfl
theorem tz6 : tz Try.prog 6 = some [(.int .u8 0)] := by kernel_rfl
theorem ik6 : ik Try.prog 6 = some .u8 := by kernel_rfl
theorem isB6 : isB Try.prog 6 = false := by kernel_rfl
theorem isS6 : isS Try.prog 6 = false := by kernel_rfl
theorem isU8s6 : isU8s Try.prog 6 = false := by kernel_rfl
theorem hasU6 : hasU Try.prog 6 = true := by kernel_rfl
theorem tk7 : tk Try.prog 7 = some (true, 4) := by kernel_rfl
theorem tz7 : tz Try.prog 7 = some [(.int .i64 0), (.int .i64 0), (.bool false), (.int .u8 0)] := by kernel_rfl
theorem fps7 : fps Try.prog 7 = some [(0, 1), (1, 1), (2, 1), (3, 1)] := by kernel_rfl
theorem isB7 : isB Try.prog 7 = false := by kernel_rfl
theorem isS7 : isS Try.prog 7 = false := by kernel_rfl
theorem isU8s7 : isU8s Try.prog 7 = false := by kernel_rfl
theorem hasU7 : hasU Try.prog 7 = true := by kernel_rfl
theorem fo7_0 : fo Try.prog 7 0 = some 0 := by kernel_rfl
theorem fo7_1 : fo Try.prog 7 1 = some 1 := by kernel_rfl
theorem fo7_2 : fo Try.prog 7 2 = some 2 := by kernel_rfl
theorem fo7_3 : fo Try.prog 7 3 = some 3 := by kernel_rfl
theorem tk8 : tk Try.prog 8 = some (true, 4) := by kernel_rfl
theorem tz8 : tz Try.prog 8 = some [(.int .i64 0), (.int .i64 0), (.bool false), (.int .u8 0)] := by kernel_rfl
theorem fps8 : fps Try.prog 8 = some [(0, 1), (1, 1), (2, 1), (3, 1)] := by kernel_rfl
theorem isB8 : isB Try.prog 8 = false := by kernel_rfl
theorem isS8 : isS Try.prog 8 = false := by kernel_rfl
theorem isU8s8 : isU8s Try.prog 8 = false := by kernel_rfl
theorem hasU8 : hasU Try.prog 8 = true := by kernel_rfl
theorem fo8_0 : fo Try.prog 8 0 = some 0 := by kernel_rfl
theorem fo8_1 : fo Try.prog 8 1 = some 1 := by kernel_rfl
theorem fo8_2 : fo Try.prog 8 2 = some 2 := by kernel_rfl
theorem fo8_3 : fo Try.prog 8 3 = some 3 := by kernel_rfl
theorem tk9 : tk Try.prog 9 = some (false, 1) := by kernel_rfl
theorem tz9 : tz Try.prog 9 = some [(.str (ByteArray.mk #[]))] := by kernel_rfl
theorem isB9 : isB Try.prog 9 = false := by kernel_rfl
theorem isS9 : isS Try.prog 9 = true := by kernel_rfl
theorem isU8s9 : isU8s Try.prog 9 = false := by kernel_rfl
theorem hasU9 : hasU Try.prog 9 = true := by kernel_rfl
theorem tk10 : tk Try.prog 10 = some (false, 1) := by kernel_rfl
theorem tz10 : tz Try.prog 10 = some [(.str (ByteArray.mk #[]))] := by kernel_rfl
theorem isB10 : isB Try.prog 10 = false := by kernel_rfl
theorem isS10 : isS Try.prog 10 = true := by kernel_rfl
theorem isU8s10 : isU8s Try.prog 10 = false := by kernel_rfl
theorem hasU10 : hasU Try.prog 10 = true := by kernel_rfl
theorem tk11 : tk Try.prog 11 = some (false, 1) := by kernel_rfl
theorem tz11 : tz Try.prog 11 = some [(.str (ByteArray.mk #[]))] := by kernel_rfl
theorem isB11 : isB Try.prog 11 = false := by kernel_rfl
theorem isS11 : isS Try.prog 11 = true := by kernel_rfl
theorem isU8s11 : isU8s Try.prog 11 = false := by kernel_rfl
theorem hasU11 : hasU Try.prog 11 = true := by kernel_rfl
theorem tk12 : tk Try.prog 12 = some (false, 1) := by kernel_rfl
theorem tz12 : tz Try.prog 12 = some [(.int .u64 0)] := by kernel_rfl
theorem ik12 : ik Try.prog 12 = some .u64 := by kernel_rfl
theorem isB12 : isB Try.prog 12 = false := by kernel_rfl
theorem isS12 : isS Try.prog 12 = false := by kernel_rfl
theorem isU8s12 : isU8s Try.prog 12 = false := by kernel_rfl
theorem hasU12 : hasU Try.prog 12 = true := by kernel_rfl
theorem tk13 : tk Try.prog 13 = some (true, 2) := by kernel_rfl
theorem tz13 : tz Try.prog 13 = some [(.str (ByteArray.mk #[])), (.int .u64 0)] := by kernel_rfl
theorem fps13 : fps Try.prog 13 = some [(0, 1), (1, 1)] := by kernel_rfl
theorem isB13 : isB Try.prog 13 = false := by kernel_rfl
theorem isS13 : isS Try.prog 13 = false := by kernel_rfl
theorem isU8s13 : isU8s Try.prog 13 = false := by kernel_rfl
theorem hasU13 : hasU Try.prog 13 = true := by kernel_rfl
theorem fo13_0 : fo Try.prog 13 0 = some 0 := by kernel_rfl
theorem fo13_1 : fo Try.prog 13 1 = some 1 := by kernel_rfl
theorem tk14 : tk Try.prog 14 = some (true, 2) := by kernel_rfl
theorem tz14 : tz Try.prog 14 = some [(.str (ByteArray.mk #[])), (.int .u64 0)] := by kernel_rfl
theorem fps14 : fps Try.prog 14 = some [(0, 1), (1, 1)] := by kernel_rfl
theorem isB14 : isB Try.prog 14 = false := by kernel_rfl
theorem isS14 : isS Try.prog 14 = false := by kernel_rfl
theorem isU8s14 : isU8s Try.prog 14 = false := by kernel_rfl
theorem hasU14 : hasU Try.prog 14 = true := by kernel_rfl
theorem fo14_0 : fo Try.prog 14 0 = some 0 := by kernel_rfl
theorem fo14_1 : fo Try.prog 14 1 = some 1 := by kernel_rfl
theorem tk15 : tk Try.prog 15 = some (false, 1) := by kernel_rfl
theorem tz15 : tz Try.prog 15 = some [.nilp] := by kernel_rfl
theorem isB15 : isB Try.prog 15 = false := by kernel_rfl
theorem isS15 : isS Try.prog 15 = false := by kernel_rfl
theorem isU8s15 : isU8s Try.prog 15 = false := by kernel_rfl
theorem hasU15 : hasU Try.prog 15 = true := by kernel_rfl
theorem tk16 : tk Try.prog 16 = some (false, 1) := by kernel_rfl
theorem tz16 : tz Try.prog 16 = some [.nilp] := by kernel_rfl
theorem isB16 : isB Try.prog 16 = false := by kernel_rfl
theorem isS16 : isS Try.prog 16 = false := by kernel_rfl
theorem isU8s16 : isU8s Try.prog 16 = false := by kernel_rfl
theorem hasU16 : hasU Try.prog 16 = true := by kernel_rfl
theorem tk17 : tk Try.prog 17 = some (false, 1) := by kernel_rfl
theorem tz17 : tz Try.prog 17 = some [.nilp] := by kernel_rfl
theorem isB17 : isB Try.prog 17 = false := by kernel_rfl
theorem isS17 : isS Try.prog 17 = false := by kernel_rfl
theorem isU8s17 : isU8s Try.prog 17 = false := by kernel_rfl
theorem hasU17 : hasU Try.prog 17 = true := by kernel_rfl
theorem tk18 : tk Try.prog 18 = some (true, 1) := by kernel_rfl
theorem tz18 : tz Try.prog 18 = some [.nilp] := by kernel_rfl
theorem fps18 : fps Try.prog 18 = some [(0, 1)] := by kernel_rfl
theorem isB18 : isB Try.prog 18 = false := by kernel_rfl
theorem isS18 : isS Try.prog 18 = false := by kernel_rfl
theorem isU8s18 : isU8s Try.prog 18 = false := by kernel_rfl
theorem hasU18 : hasU Try.prog 18 = true := by kernel_rfl
theorem fo18_0 : fo Try.prog 18 0 = some 0 := by kernel_rfl
theorem tk19 : tk Try.prog 19 = some (true, 1) := by kernel_rfl
theorem tz19 : tz Try.prog 19 = some [.nilp] := by kernel_rfl
theorem fps19 : fps Try.prog 19 = some [(0, 1)] := by kernel_rfl
theorem isB19 : isB Try.prog 19 = false := by kernel_rfl
theorem isS19 : isS Try.prog 19 = false := by kernel_rfl
theorem isU8s19 : isU8s Try.prog 19 = false := by kernel_rfl
theorem hasU19 : hasU Try.prog 19 = true := by kernel_rfl
theorem fo19_0 : fo Try.prog 19 0 = some 0 := by kernel_rfl
theorem tk20 : tk Try.prog 20 = some (false, 1) := by kernel_rfl
theorem tz20 : tz Try.prog 20 = some [(.opq .nilIface)] := by kernel_rfl
theorem isB20 : isB Try.prog 20 = false := by kernel_rfl
theorem isS20 : isS Try.prog 20 = false := by kernel_rfl
theorem isU8s20 : isU8s Try.prog 20 = false := by kernel_rfl
theorem hasU20 : hasU Try.prog 20 = true := by kernel_rfl
theorem tk21 : tk Try.prog 21 = some (false, 1) := by kernel_rfl
theorem tz21 : tz Try.prog 21 = some [(.int .i32 0)] := by kernel_rfl
theorem ik21 : ik Try.prog 21 = some .i32 := by kernel_rfl
theorem isB21 : isB Try.prog 21 = false := by kernel_rfl
theorem isS21 : isS Try.prog 21 = false := by kernel_rfl
theorem isU8s21 : isU8s Try.prog 21 = false := by kernel_rfl
theorem hasU21 : hasU Try.prog 21 = true := by kernel_rfl
theorem tk22 : tk Try.prog 22 = some (false, 1) := by kernel_rfl
theorem se22 : se Try.prog 22 = some (5, (1, 1)) := by kernel_rfl
theorem tz22 : tz Try.prog 22 = some [.nilsl] := by kernel_rfl
theorem isB22 : isB Try.prog 22 = false := by kernel_rfl
theorem isS22 : isS Try.prog 22 = false := by kernel_rfl
theorem isU8s22 : isU8s Try.prog 22 = true := by kernel_rfl
theorem hasU22 : hasU Try.prog 22 = true := by kernel_rfl
theorem tk23 : tk Try.prog 23 = some (false, 1) := by kernel_rfl
theorem se23 : se Try.prog 23 = some (3, (1, 8)) := by kernel_rfl
theorem tz23 : tz Try.prog 23 = some [.nilsl] := by kernel_rfl
theorem isB23 : isB Try.prog 23 = false := by kernel_rfl
theorem isS23 : isS Try.prog 23 = false := by kernel_rfl
theorem isU8s23 : isU8s Try.prog 23 = false := by kernel_rfl
theorem hasU23 : hasU Try.prog 23 = true := by kernel_rfl
theorem tk24 : tk Try.prog 24 = some (false, 1) := by kernel_rfl
theorem se24 : se Try.prog 24 = some (26, (5, 80)) := by kernel_rfl
theorem tz24 : tz Try.prog 24 = some [.nilsl] := by kernel_rfl
theorem isB24 : isB Try.prog 24 = false := by kernel_rfl
theorem isS24 : isS Try.prog 24 = false := by kernel_rfl
theorem isU8s24 : isU8s Try.prog 24 = false := by kernel_rfl
theorem hasU24 : hasU Try.prog 24 = true := by kernel_rfl
theorem tk25 : tk Try.prog 25 = some (true, 5) := by kernel_rfl
theorem tz25 : tz Try.prog 25 = some [(.int .i64 0), (.str (ByteArray.mk #[])), (.int .i64 0), .nilsl, .nilsl] := by kernel_rfl
theorem fps25 : fps Try.prog 25 = some [(0, 1), (1, 1), (2, 1), (3, 1), (4, 1)] := by kernel_rfl
theorem isB25 : isB Try.prog 25 = false := by kernel_rfl
theorem isS25 : isS Try.prog 25 = false := by kernel_rfl
theorem isU8s25 : isU8s Try.prog 25 = false := by kernel_rfl
theorem hasU25 : hasU Try.prog 25 = true := by kernel_rfl
theorem fo25_0 : fo Try.prog 25 0 = some 0 := by kernel_rfl
theorem fo25_1 : fo Try.prog 25 1 = some 1 := by kernel_rfl
theorem fo25_2 : fo Try.prog 25 2 = some 2 := by kernel_rfl
theorem fo25_3 : fo Try.prog 25 3 = some 3 := by kernel_rfl
theorem fo25_4 : fo Try.prog 25 4 = some 4 := by kernel_rfl
theorem tk26 : tk Try.prog 26 = some (true, 5) := by kernel_rfl
theorem tz26 : tz Try.prog 26 = some [(.int .i64 0), (.str (ByteArray.mk #[])), (.int .i64 0), .nilsl, .nilsl] := by kernel_rfl
theorem fps26 : fps Try.prog 26 = some [(0, 1), (1, 1), (2, 1), (3, 1), (4, 1)] := by kernel_rfl
theorem isB26 : isB Try.prog 26 = false := by kernel_rfl
theorem isS26 : isS Try.prog 26 = false := by kernel_rfl
theorem isU8s26 : isU8s Try.prog 26 = false := by kernel_rfl
theorem hasU26 : hasU Try.prog 26 = true := by kernel_rfl
theorem fo26_0 : fo Try.prog 26 0 = some 0 := by kernel_rfl
theorem fo26_1 : fo Try.prog 26 1 = some 1 := by kernel_rfl
theorem fo26_2 : fo Try.prog 26 2 = some 2 := by kernel_rfl
theorem fo26_3 : fo Try.prog 26 3 = some 3 := by kernel_rfl
theorem fo26_4 : fo Try.prog 26 4 = some 4 := by kernel_rfl
theorem tk27 : tk Try.prog 27 = some (false, 1) := by kernel_rfl
theorem isB27 : isB Try.prog 27 = false := by kernel_rfl
theorem isS27 : isS Try.prog 27 = false := by kernel_rfl
theorem isU8s27 : isU8s Try.prog 27 = false := by kernel_rfl
theorem hasU27 : hasU Try.prog 27 = true := by kernel_rfl
theorem tk28 : tk Try.prog 28 = some (false, 1) := by kernel_rfl
theorem tz28 : tz Try.prog 28 = some [.nilfn] := by kernel_rfl
theorem isB28 : isB Try.prog 28 = false := by kernel_rfl
theorem isS28 : isS Try.prog 28 = false := by kernel_rfl
theorem isU8s28 : isU8s Try.prog 28 = false := by kernel_rfl
theorem hasU28 : hasU Try.prog 28 = true := by kernel_rfl
theorem tk29 : tk Try.prog 29 = some (false, 1) := by kernel_rfl
theorem tz29 : tz Try.prog 29 = some [.nilfn] := by kernel_rfl
theorem isB29 : isB Try.prog 29 = false := by kernel_rfl
theorem isS29 : isS Try.prog 29 = false := by kernel_rfl
theorem isU8s29 : isU8s Try.prog 29 = false := by kernel_rfl
theorem hasU29 : hasU Try.prog 29 = true := by kernel_rfl
theorem tk30 : tk Try.prog 30 = some (false, 1) := by kernel_rfl
theorem se30 : se Try.prog 30 = some (9, (1, 16)) := by kernel_rfl
theorem tz30 : tz Try.prog 30 = some [.nilsl] := by kernel_rfl
theorem isB30 : isB Try.prog 30 = false := by kernel_rfl
theorem isS30 : isS Try.prog 30 = false := by kernel_rfl
theorem isU8s30 : isU8s Try.prog 30 = false := by kernel_rfl
theorem hasU30 : hasU Try.prog 30 = true := by kernel_rfl
theorem tk31 : tk Try.prog 31 = some (false, 1) := by kernel_rfl
theorem tz31 : tz Try.prog 31 = some [.nilfn] := by kernel_rfl
theorem isB31 : isB Try.prog 31 = false := by kernel_rfl
theorem isS31 : isS Try.prog 31 = false := by kernel_rfl
theorem isU8s31 : isU8s Try.prog 31 = false := by kernel_rfl
theorem hasU31 : hasU Try.prog 31 = true := by kernel_rfl
theorem tk32 : tk Try.prog 32 = some (false, 1) := by kernel_rfl
theorem tz32 : tz Try.prog 32 = some [.nilfn] := by kernel_rfl
theorem isB32 : isB Try.prog 32 = false := by kernel_rfl
theorem isS32 : isS Try.prog 32 = false := by kernel_rfl
theorem isU8s32 : isU8s Try.prog 32 = false := by kernel_rfl
theorem hasU32 : hasU Try.prog 32 = true := by kernel_rfl
theorem tk33 : tk Try.prog 33 = some (false, 1) := by kernel_rfl
theorem tz33 : tz Try.prog 33 = some [.nilfn] := by kernel_rfl
theorem isB33 : isB Try.prog 33 = false := by kernel_rfl
theorem isS33 : isS Try.prog 33 = false := by kernel_rfl
theorem isU8s33 : isU8s Try.prog 33 = false := by kernel_rfl
theorem hasU33 : hasU Try.prog 33 = true := by kernel_rfl
theorem tk34 : tk Try.prog 34 = some (false, 1) := by kernel_rfl
theorem tz34 : tz Try.prog 34 = some [.nilfn] := by kernel_rfl
theorem isB34 : isB Try.prog 34 = false := by kernel_rfl
theorem isS34 : isS Try.prog 34 = false := by kernel_rfl
theorem isU8s34 : isU8s Try.prog 34 = false := by kernel_rfl
theorem hasU34 : hasU Try.prog 34 = true := by kernel_rfl
theorem tk35 : tk Try.prog 35 = some (false, 1) := by kernel_rfl
theorem isB35 : isB Try.prog 35 = false := by kernel_rfl
theorem isS35 : isS Try.prog 35 = false := by kernel_rfl
theorem isU8s35 : isU8s Try.prog 35 = false := by kernel_rfl
theorem hasU35 : hasU Try.prog 35 = true := by kernel_rfl
theorem tk36 : tk Try.prog 36 = some (false, 1) := by kernel_rfl
theorem tz36 : tz Try.prog 36 = some [.nilfn] := by kernel_rfl
theorem isB36 : isB Try.prog 36 = false := by kernel_rfl
theorem isS36 : isS Try.prog 36 = false := by kernel_rfl
theorem isU8s36 : isU8s Try.prog 36 = false := by kernel_rfl
theorem hasU36 : hasU Try.prog 36 = true := by kernel_rfl
theorem tk37 : tk Try.prog 37 = some (false, 1) := by kernel_rfl
theorem isB37 : isB Try.prog 37 = false := by kernel_rfl
theorem isS37 : isS Try.prog 37 = false := by kernel_rfl
theorem isU8s37 : isU8s Try.prog 37 = false := by kernel_rfl
theorem hasU37 : hasU Try.prog 37 = true := by kernel_rfl
theorem tk38 : tk Try.prog 38 = some (false, 1) := by kernel_rfl
theorem tz38 : tz Try.prog 38 = some [.nilfn] := by kernel_rfl
theorem isB38 : isB Try.prog 38 = false := by kernel_rfl
theorem isS38 : isS Try.prog 38 = false := by kernel_rfl
theorem isU8s38 : isU8s Try.prog 38 = false := by kernel_rfl
theorem hasU38 : hasU Try.prog 38 = true := by kernel_rfl
theorem tk39 : tk Try.prog 39 = some (false, 1) := by kernel_rfl
theorem tz39 : tz Try.prog 39 = some [.nilfn] := by kernel_rfl
theorem isB39 : isB Try.prog 39 = false := by kernel_rfl
theorem isS39 : isS Try.prog 39 = false := by kernel_rfl
theorem isU8s39 : isU8s Try.prog 39 = false := by kernel_rfl
theorem hasU39 : hasU Try.prog 39 = true := by kernel_rfl
theorem tk40 : tk Try.prog 40 = some (false, 1) := by kernel_rfl
theorem isB40 : isB Try.prog 40 = false := by kernel_rfl
theorem isS40 : isS Try.prog 40 = false := by kernel_rfl
theorem isU8s40 : isU8s Try.prog 40 = false := by kernel_rfl
theorem hasU40 : hasU Try.prog 40 = true := by kernel_rfl
theorem tk41 : tk Try.prog 41 = some (false, 1) := by kernel_rfl
theorem tz41 : tz Try.prog 41 = some [.nilfn] := by kernel_rfl
theorem isB41 : isB Try.prog 41 = false := by kernel_rfl
theorem isS41 : isS Try.prog 41 = false := by kernel_rfl
theorem isU8s41 : isU8s Try.prog 41 = false := by kernel_rfl
theorem hasU41 : hasU Try.prog 41 = true := by kernel_rfl
theorem tk42 : tk Try.prog 42 = some (false, 1) := by kernel_rfl
theorem tz42 : tz Try.prog 42 = some [.nilp] := by kernel_rfl
theorem isB42 : isB Try.prog 42 = false := by kernel_rfl
theorem isS42 : isS Try.prog 42 = false := by kernel_rfl
theorem isU8s42 : isU8s Try.prog 42 = false := by kernel_rfl
theorem hasU42 : hasU Try.prog 42 = true := by kernel_rfl
theorem tk43 : tk Try.prog 43 = some (false, 1) := by kernel_rfl
theorem tz43 : tz Try.prog 43 = some [.nilfn] := by kernel_rfl
theorem isB43 : isB Try.prog 43 = false := by kernel_rfl
theorem isS43 : isS Try.prog 43 = false := by kernel_rfl
theorem isU8s43 : isU8s Try.prog 43 = false := by kernel_rfl
theorem hasU43 : hasU Try.prog 43 = true := by kernel_rfl
theorem tk44 : tk Try.prog 44 = some (false, 1) := by kernel_rfl
theorem tz44 : tz Try.prog 44 = some [.nilfn] := by kernel_rfl
theorem isB44 : isB Try.prog 44 = false := by kernel_rfl
theorem isS44 : isS Try.prog 44 = false := by kernel_rfl
theorem isU8s44 : isU8s Try.prog 44 = false := by kernel_rfl
theorem hasU44 : hasU Try.prog 44 = true := by kernel_rfl
theorem tk45 : tk Try.prog 45 = some (false, 1) := by kernel_rfl
theorem tz45 : tz Try.prog 45 = some [.nilfn] := by kernel_rfl
theorem isB45 : isB Try.prog 45 = false := by kernel_rfl
theorem isS45 : isS Try.prog 45 = false := by kernel_rfl
theorem isU8s45 : isU8s Try.prog 45 = false := by kernel_rfl
theorem hasU45 : hasU Try.prog 45 = true := by kernel_rfl
theorem tk46 : tk Try.prog 46 = some (false, 1) := by kernel_rfl
theorem tz46 : tz Try.prog 46 = some [.nilfn] := by kernel_rfl
theorem isB46 : isB Try.prog 46 = false := by kernel_rfl
theorem isS46 : isS Try.prog 46 = false := by kernel_rfl
theorem isU8s46 : isU8s Try.prog 46 = false := by kernel_rfl
theorem hasU46 : hasU Try.prog 46 = true := by kernel_rfl
theorem tk47 : tk Try.prog 47 = some (false, 1) := by kernel_rfl
theorem tz47 : tz Try.prog 47 = some [.nilfn] := by kernel_rfl
theorem isB47 : isB Try.prog 47 = false := by kernel_rfl
theorem isS47 : isS Try.prog 47 = false := by kernel_rfl
theorem isU8s47 : isU8s Try.prog 47 = false := by kernel_rfl
theorem hasU47 : hasU Try.prog 47 = true := by kernel_rfl
theorem tk48 : tk Try.prog 48 = some (false, 1) := by kernel_rfl
theorem tz48 : tz Try.prog 48 = some [.nilfn] := by kernel_rfl
theorem isB48 : isB Try.prog 48 = false := by kernel_rfl
theorem isS48 : isS Try.prog 48 = false := by kernel_rfl
theorem isU8s48 : isU8s Try.prog 48 = false := by kernel_rfl
theorem hasU48 : hasU Try.prog 48 = true := by kernel_rfl
theorem tk49 : tk Try.prog 49 = some (false, 1) := by kernel_rfl
theorem tz49 : tz Try.prog 49 = some [.nilfn] := by kernel_rfl
theorem isB49 : isB Try.prog 49 = false := by kernel_rfl
theorem isS49 : isS Try.prog 49 = false := by kernel_rfl
theorem isU8s49 : isU8s Try.prog 49 = false := by kernel_rfl
theorem hasU49 : hasU Try.prog 49 = true := by kernel_rfl
theorem tk50 : tk Try.prog 50 = some (false, 1) := by kernel_rfl
theorem tz50 : tz Try.prog 50 = some [.nilfn] := by kernel_rfl
theorem isB50 : isB Try.prog 50 = false := by kernel_rfl
theorem isS50 : isS Try.prog 50 = false := by kernel_rfl
theorem isU8s50 : isU8s Try.prog 50 = false := by kernel_rfl
theorem hasU50 : hasU Try.prog 50 = true := by kernel_rfl
theorem tk51 : tk Try.prog 51 = some (false, 1) := by kernel_rfl
theorem tz51 : tz Try.prog 51 = some [.nilfn] := by kernel_rfl
theorem isB51 : isB Try.prog 51 = false := by kernel_rfl
theorem isS51 : isS Try.prog 51 = false := by kernel_rfl
theorem isU8s51 : isU8s Try.prog 51 = false := by kernel_rfl
theorem hasU51 : hasU Try.prog 51 = true := by kernel_rfl
theorem tk52 : tk Try.prog 52 = some (false, 1) := by kernel_rfl
theorem tz52 : tz Try.prog 52 = some [.nilfn] := by kernel_rfl
theorem isB52 : isB Try.prog 52 = false := by kernel_rfl
theorem isS52 : isS Try.prog 52 = false := by kernel_rfl
theorem isU8s52 : isU8s Try.prog 52 = false := by kernel_rfl
theorem hasU52 : hasU Try.prog 52 = true := by kernel_rfl
theorem tk53 : tk Try.prog 53 = some (false, 1) := by kernel_rfl
theorem tz53 : tz Try.prog 53 = some [.nilfn] := by kernel_rfl
theorem isB53 : isB Try.prog 53 = false := by kernel_rfl
theorem isS53 : isS Try.prog 53 = false := by kernel_rfl
theorem isU8s53 : isU8s Try.prog 53 = false := by kernel_rfl
theorem hasU53 : hasU Try.prog 53 = true := by kernel_rfl
theorem tk54 : tk Try.prog 54 = some (false, 1) := by kernel_rfl
theorem tz54 : tz Try.prog 54 = some [.nilfn] := by kernel_rfl
theorem isB54 : isB Try.prog 54 = false := by kernel_rfl
theorem isS54 : isS Try.prog 54 = false := by kernel_rfl
theorem isU8s54 : isU8s Try.prog 54 = false := by kernel_rfl
theorem hasU54 : hasU Try.prog 54 = true := by kernel_rfl
theorem tk55 : tk Try.prog 55 = some (false, 1) := by kernel_rfl
theorem tz55 : tz Try.prog 55 = some [.nilfn] := by kernel_rfl
theorem isB55 : isB Try.prog 55 = false := by kernel_rfl
theorem isS55 : isS Try.prog 55 = false := by kernel_rfl
theorem isU8s55 : isU8s Try.prog 55 = false := by kernel_rfl
theorem hasU55 : hasU Try.prog 55 = true := by kernel_rfl
theorem tk56 : tk Try.prog 56 = some (false, 1) := by kernel_rfl
theorem tz56 : tz Try.prog 56 = some [.nilfn] := by kernel_rfl
theorem isB56 : isB Try.prog 56 = false := by kernel_rfl
theorem isS56 : isS Try.prog 56 = false := by kernel_rfl
theorem isU8s56 : isU8s Try.prog 56 = false := by kernel_rfl
theorem hasU56 : hasU Try.prog 56 = true := by kernel_rfl
theorem tk57 : tk Try.prog 57 = some (false, 1) := by kernel_rfl
theorem tz57 : tz Try.prog 57 = some [.nilfn] := by kernel_rfl
theorem isB57 : isB Try.prog 57 = false := by kernel_rfl
theorem isS57 : isS Try.prog 57 = false := by kernel_rfl
theorem isU8s57 : isU8s Try.prog 57 = false := by kernel_rfl
theorem hasU57 : hasU Try.prog 57 = true := by kernel_rfl
theorem tk58 : tk Try.prog 58 = some (true, 2) := by kernel_rfl
theorem tz58 : tz Try.prog 58 = some [.nilsl, (.int .i64 0)] := by kernel_rfl
theorem fps58 : fps Try.prog 58 = some [(0, 1), (1, 1)] := by kernel_rfl
theorem isB58 : isB Try.prog 58 = false := by kernel_rfl
theorem isS58 : isS Try.prog 58 = false := by kernel_rfl
theorem isU8s58 : isU8s Try.prog 58 = false := by kernel_rfl
theorem hasU58 : hasU Try.prog 58 = true := by kernel_rfl
theorem fo58_0 : fo Try.prog 58 0 = some 0 := by kernel_rfl
theorem fo58_1 : fo Try.prog 58 1 = some 1 := by kernel_rfl
theorem tk59 : tk Try.prog 59 = some (true, 2) := by kernel_rfl
theorem tz59 : tz Try.prog 59 = some [.nilsl, (.int .i64 0)] := by kernel_rfl
theorem fps59 : fps Try.prog 59 = some [(0, 1), (1, 1)] := by kernel_rfl
theorem isB59 : isB Try.prog 59 = false := by kernel_rfl
theorem isS59 : isS Try.prog 59 = false := by kernel_rfl
theorem isU8s59 : isU8s Try.prog 59 = false := by kernel_rfl
theorem hasU59 : hasU Try.prog 59 = true := by kernel_rfl
theorem fo59_0 : fo Try.prog 59 0 = some 0 := by kernel_rfl
theorem fo59_1 : fo Try.prog 59 1 = some 1 := by kernel_rfl
theorem tk60 : tk Try.prog 60 = some (false, 1) := by kernel_rfl
theorem tz60 : tz Try.prog 60 = some [.nilfn] := by kernel_rfl
theorem isB60 : isB Try.prog 60 = false := by kernel_rfl
theorem isS60 : isS Try.prog 60 = false := by kernel_rfl
theorem isU8s60 : isU8s Try.prog 60 = false := by kernel_rfl
theorem hasU60 : hasU Try.prog 60 = true := by kernel_rfl
theorem tk61 : tk Try.prog 61 = some (false, 1) := by kernel_rfl
theorem tz61 : tz Try.prog 61 = some [.nilfn] := by kernel_rfl
theorem isB61 : isB Try.prog 61 = false := by kernel_rfl
theorem isS61 : isS Try.prog 61 = false := by kernel_rfl
theorem isU8s61 : isU8s Try.prog 61 = false := by kernel_rfl
theorem hasU61 : hasU Try.prog 61 = true := by kernel_rfl
theorem tk62 : tk Try.prog 62 = some (false, 1) := by kernel_rfl
theorem tz62 : tz Try.prog 62 = some [.nilp] := by kernel_rfl
theorem isB62 : isB Try.prog 62 = false := by kernel_rfl
theorem isS62 : isS Try.prog 62 = false := by kernel_rfl
theorem isU8s62 : isU8s Try.prog 62 = false := by kernel_rfl
theorem hasU62 : hasU Try.prog 62 = true := by kernel_rfl
theorem tk63 : tk Try.prog 63 = some (false, 1) := by kernel_rfl
theorem tz63 : tz Try.prog 63 = some [.nilfn] := by kernel_rfl
theorem isB63 : isB Try.prog 63 = false := by kernel_rfl
theorem isS63 : isS Try.prog 63 = false := by kernel_rfl
theorem isU8s63 : isU8s Try.prog 63 = false := by kernel_rfl
theorem hasU63 : hasU Try.prog 63 = true := by kernel_rfl
theorem tk64 : tk Try.prog 64 = some (false, 1) := by kernel_rfl
theorem tz64 : tz Try.prog 64 = some [.nilfn] := by kernel_rfl
theorem isB64 : isB Try.prog 64 = false := by kernel_rfl
theorem isS64 : isS Try.prog 64 = false := by kernel_rfl
theorem isU8s64 : isU8s Try.prog 64 = false := by kernel_rfl
theorem hasU64 : hasU Try.prog 64 = true := by kernel_rfl
theorem tk65 : tk Try.prog 65 = some (false, 1) := by kernel_rfl
theorem tz65 : tz Try.prog 65 = some [.nilfn] := by kernel_rfl
theorem isB65 : isB Try.prog 65 = false := by kernel_rfl
theorem isS65 : isS Try.prog 65 = false := by kernel_rfl
theorem isU8s65 : isU8s Try.prog 65 = false := by kernel_rfl
theorem hasU65 : hasU Try.prog 65 = true := by kernel_rfl
theorem tk66 : tk Try.prog 66 = some (false, 1) := by kernel_rfl
theorem tz66 : tz Try.prog 66 = some [.nilfn] := by kernel_rfl
theorem isB66 : isB Try.prog 66 = false := by kernel_rfl
theorem isS66 : isS Try.prog 66 = false := by kernel_rfl
theorem isU8s66 : isU8s Try.prog 66 = false := by kernel_rfl
theorem hasU66 : hasU Try.prog 66 = true := by kernel_rfl
theorem tk67 : tk Try.prog 67 = some (false, 1) := by kernel_rfl
theorem tz67 : tz Try.prog 67 = some [.nilfn] := by kernel_rfl
theorem isB67 : isB Try.prog 67 = false := by kernel_rfl
theorem isS67 : isS Try.prog 67 = false := by kernel_rfl
theorem isU8s67 : isU8s Try.prog 67 = false := by kernel_rfl
theorem hasU67 : hasU Try.prog 67 = true := by kernel_rfl
theorem tk68 : tk Try.prog 68 = some (false, 1) := by kernel_rfl
theorem tz68 : tz Try.prog 68 = some [.nilfn] := by kernel_rfl
theorem isB68 : isB Try.prog 68 = false := by kernel_rfl
theorem isS68 : isS Try.prog 68 = false := by kernel_rfl
theorem isU8s68 : isU8s Try.prog 68 = false := by kernel_rfl
theorem hasU68 : hasU Try.prog 68 = true := by kernel_rfl
theorem tk69 : tk Try.prog 69 = some (false, 1) := by kernel_rfl
theorem tz69 : tz Try.prog 69 = some [.nilfn] := by kernel_rfl
theorem isB69 : isB Try.prog 69 = false := by kernel_rfl
theorem isS69 : isS Try.prog 69 = false := by kernel_rfl
theorem isU8s69 : isU8s Try.prog 69 = false := by kernel_rfl
theorem hasU69 : hasU Try.prog 69 = true := by kernel_rfl
theorem tk70 : tk Try.prog 70 = some (false, 1) := by kernel_rfl
theorem tz70 : tz Try.prog 70 = some [.nilfn] := by kernel_rfl
theorem isB70 : isB Try.prog 70 = false := by kernel_rfl
theorem isS70 : isS Try.prog 70 = false := by kernel_rfl
theorem isU8s70 : isU8s Try.prog 70 = false := by kernel_rfl
theorem hasU70 : hasU Try.prog 70 = true := by kernel_rfl
theorem tk71 : tk Try.prog 71 = some (false, 1) := by kernel_rfl
theorem tz71 : tz Try.prog 71 = some [.nilfn] := by kernel_rfl
theorem isB71 : isB Try.prog 71 = false := by kernel_rfl
theorem isS71 : isS Try.prog 71 = false := by kernel_rfl
theorem isU8s71 : isU8s Try.prog 71 = false := by kernel_rfl
theorem hasU71 : hasU Try.prog 71 = true := by kernel_rfl
theorem tk72 : tk Try.prog 72 = some (false, 1) := by kernel_rfl
theorem tz72 : tz Try.prog 72 = some [.nilfn] := by kernel_rfl
theorem isB72 : isB Try.prog 72 = false := by kernel_rfl
theorem isS72 : isS Try.prog 72 = false := by kernel_rfl
theorem isU8s72 : isU8s Try.prog 72 = false := by kernel_rfl
theorem hasU72 : hasU Try.prog 72 = true := by kernel_rfl
theorem tk73 : tk Try.prog 73 = some (false, 1) := by kernel_rfl
theorem tz73 : tz Try.prog 73 = some [.nilfn] := by kernel_rfl
theorem isB73 : isB Try.prog 73 = false := by kernel_rfl
theorem isS73 : isS Try.prog 73 = false := by kernel_rfl
theorem isU8s73 : isU8s Try.prog 73 = false := by kernel_rfl
theorem hasU73 : hasU Try.prog 73 = true := by kernel_rfl
theorem tk74 : tk Try.prog 74 = some (false, 1) := by kernel_rfl
theorem tz74 : tz Try.prog 74 = some [.nilfn] := by kernel_rfl
theorem isB74 : isB Try.prog 74 = false := by kernel_rfl
theorem isS74 : isS Try.prog 74 = false := by kernel_rfl
theorem isU8s74 : isU8s Try.prog 74 = false := by kernel_rfl
theorem hasU74 : hasU Try.prog 74 = true := by kernel_rfl
theorem tk75 : tk Try.prog 75 = some (false, 1) := by kernel_rfl
theorem tz75 : tz Try.prog 75 = some [.nilfn] := by kernel_rfl
theorem isB75 : isB Try.prog 75 = false := by kernel_rfl
theorem isS75 : isS Try.prog 75 = false := by kernel_rfl
theorem isU8s75 : isU8s Try.prog 75 = false := by kernel_rfl
theorem hasU75 : hasU Try.prog 75 = true := by kernel_rfl
theorem tk76 : tk Try.prog 76 = some (false, 1) := by kernel_rfl
theorem tz76 : tz Try.prog 76 = some [.nilfn] := by kernel_rfl
theorem isB76 : isB Try.prog 76 = false := by kernel_rfl
theorem isS76 : isS Try.prog 76 = false := by kernel_rfl
theorem isU8s76 : isU8s Try.prog 76 = false := by kernel_rfl
theorem hasU76 : hasU Try.prog 76 = true := by kernel_rfl
theorem tk77 : tk Try.prog 77 = some (false, 1) := by kernel_rfl
theorem tz77 : tz Try.prog 77 = some [.nilfn] := by kernel_rfl
theorem isB77 : isB Try.prog 77 = false := by kernel_rfl
theorem isS77 : isS Try.prog 77 = false := by kernel_rfl
theorem isU8s77 : isU8s Try.prog 77 = false := by kernel_rfl
theorem hasU77 : hasU Try.prog 77 = true := by kernel_rfl
theorem tk78 : tk Try.prog 78 = some (false, 1) := by kernel_rfl
theorem tz78 : tz Try.prog 78 = some [.nilfn] := by kernel_rfl
theorem isB78 : isB Try.prog 78 = false := by kernel_rfl
theorem isS78 : isS Try.prog 78 = false := by kernel_rfl
theorem isU8s78 : isU8s Try.prog 78 = false := by kernel_rfl
theorem hasU78 : hasU Try.prog 78 = true := by kernel_rfl
theorem tk79 : tk Try.prog 79 = some (false, 1) := by kernel_rfl
theorem isB79 : isB Try.prog 79 = false := by kernel_rfl
theorem isS79 : isS Try.prog 79 = false := by kernel_rfl
theorem isU8s79 : isU8s Try.prog 79 = false := by kernel_rfl
theorem hasU79 : hasU Try.prog 79 = true := by kernel_rfl
theorem tk80 : tk Try.prog 80 = some (false, 1) := by kernel_rfl
theorem tz80 : tz Try.prog 80 = some [.nilfn] := by kernel_rfl
theorem isB80 : isB Try.prog 80 = false := by kernel_rfl
theorem isS80 : isS Try.prog 80 = false := by kernel_rfl
theorem isU8s80 : isU8s Try.prog 80 = false := by kernel_rfl
theorem hasU80 : hasU Try.prog 80 = true := by kernel_rfl
theorem tk81 : tk Try.prog 81 = some (false, 1) := by kernel_rfl
theorem isB81 : isB Try.prog 81 = false := by kernel_rfl
theorem isS81 : isS Try.prog 81 = false := by kernel_rfl
theorem isU8s81 : isU8s Try.prog 81 = false := by kernel_rfl
theorem hasU81 : hasU Try.prog 81 = true := by kernel_rfl
theorem tk82 : tk Try.prog 82 = some (false, 1) := by kernel_rfl
theorem tz82 : tz Try.prog 82 = some [.nilfn] := by kernel_rfl
theorem isB82 : isB Try.prog 82 = false := by kernel_rfl
theorem isS82 : isS Try.prog 82 = false := by kernel_rfl
theorem isU8s82 : isU8s Try.prog 82 = false := by kernel_rfl
theorem hasU82 : hasU Try.prog 82 = true := by kernel_rfl
theorem tk83 : tk Try.prog 83 = some (false, 1) := by kernel_rfl
theorem tz83 : tz Try.prog 83 = some [.nilfn] := by kernel_rfl
theorem isB83 : isB Try.prog 83 = false := by kernel_rfl
theorem isS83 : isS Try.prog 83 = false := by kernel_rfl
theorem isU8s83 : isU8s Try.prog 83 = false := by kernel_rfl
theorem hasU83 : hasU Try.prog 83 = true := by kernel_rfl
theorem tk84 : tk Try.prog 84 = some (false, 1) := by kernel_rfl
theorem tz84 : tz Try.prog 84 = some [.nilfn] := by kernel_rfl
theorem isB84 : isB Try.prog 84 = false := by kernel_rfl
theorem isS84 : isS Try.prog 84 = false := by kernel_rfl
theorem isU8s84 : isU8s Try.prog 84 = false := by kernel_rfl
theorem hasU84 : hasU Try.prog 84 = true := by kernel_rfl
theorem tk85 : tk Try.prog 85 = some (true, 4) := by kernel_rfl
theorem tz85 : tz Try.prog 85 = some [.nilp, .nilp, .nilp, (.str (ByteArray.mk #[]))] := by kernel_rfl
theorem fps85 : fps Try.prog 85 = some [(0, 1), (1, 1), (2, 1), (3, 1)] := by kernel_rfl
theorem isB85 : isB Try.prog 85 = false := by kernel_rfl
theorem isS85 : isS Try.prog 85 = false := by kernel_rfl
theorem isU8s85 : isU8s Try.prog 85 = false := by kernel_rfl
theorem hasU85 : hasU Try.prog 85 = true := by kernel_rfl
theorem fo85_0 : fo Try.prog 85 0 = some 0 := by kernel_rfl
theorem fo85_1 : fo Try.prog 85 1 = some 1 := by kernel_rfl
theorem fo85_2 : fo Try.prog 85 2 = some 2 := by kernel_rfl
theorem fo85_3 : fo Try.prog 85 3 = some 3 := by kernel_rfl
theorem tk86 : tk Try.prog 86 = some (true, 4) := by kernel_rfl
theorem tz86 : tz Try.prog 86 = some [.nilp, .nilp, .nilp, (.str (ByteArray.mk #[]))] := by kernel_rfl
theorem fps86 : fps Try.prog 86 = some [(0, 1), (1, 1), (2, 1), (3, 1)] := by kernel_rfl
theorem isB86 : isB Try.prog 86 = false := by kernel_rfl
theorem isS86 : isS Try.prog 86 = false := by kernel_rfl
theorem isU8s86 : isU8s Try.prog 86 = false := by kernel_rfl
theorem hasU86 : hasU Try.prog 86 = true := by kernel_rfl
theorem fo86_0 : fo Try.prog 86 0 = some 0 := by kernel_rfl
theorem fo86_1 : fo Try.prog 86 1 = some 1 := by kernel_rfl
theorem fo86_2 : fo Try.prog 86 2 = some 2 := by kernel_rfl
theorem fo86_3 : fo Try.prog 86 3 = some 3 := by kernel_rfl
theorem tk87 : tk Try.prog 87 = some (true, 0) := by kernel_rfl
theorem tz87 : tz Try.prog 87 = some [] := by kernel_rfl
theorem isB87 : isB Try.prog 87 = false := by kernel_rfl
theorem isS87 : isS Try.prog 87 = false := by kernel_rfl
theorem isU8s87 : isU8s Try.prog 87 = false := by kernel_rfl
theorem hasU87 : hasU Try.prog 87 = true := by kernel_rfl
theorem tk88 : tk Try.prog 88 = some (true, 0) := by kernel_rfl
theorem tz88 : tz Try.prog 88 = some [] := by kernel_rfl
theorem fps88 : fps Try.prog 88 = some [(0, 0)] := by kernel_rfl
theorem isB88 : isB Try.prog 88 = false := by kernel_rfl
theorem isS88 : isS Try.prog 88 = false := by kernel_rfl
theorem isU8s88 : isU8s Try.prog 88 = false := by kernel_rfl
theorem hasU88 : hasU Try.prog 88 = true := by kernel_rfl
theorem tk89 : tk Try.prog 89 = some (true, 0) := by kernel_rfl
theorem tz89 : tz Try.prog 89 = some [] := by kernel_rfl
theorem fps89 : fps Try.prog 89 = some [(0, 0)] := by kernel_rfl
theorem isB89 : isB Try.prog 89 = false := by kernel_rfl
theorem isS89 : isS Try.prog 89 = false := by kernel_rfl
theorem isU8s89 : isU8s Try.prog 89 = false := by kernel_rfl
theorem hasU89 : hasU Try.prog 89 = true := by kernel_rfl
theorem tk90 : tk Try.prog 90 = some (false, 1) := by kernel_rfl
theorem tz90 : tz Try.prog 90 = some [.nilfn] := by kernel_rfl
theorem isB90 : isB Try.prog 90 = false := by kernel_rfl
theorem isS90 : isS Try.prog 90 = false := by kernel_rfl
theorem isU8s90 : isU8s Try.prog 90 = false := by kernel_rfl
theorem hasU90 : hasU Try.prog 90 = true := by kernel_rfl
theorem tk91 : tk Try.prog 91 = some (false, 1) := by kernel_rfl
theorem tz91 : tz Try.prog 91 = some [(.int .u32 0)] := by kernel_rfl
theorem ik91 : ik Try.prog 91 = some .u32 := by kernel_rfl
theorem isB91 : isB Try.prog 91 = false := by kernel_rfl
theorem isS91 : isS Try.prog 91 = false := by kernel_rfl
theorem isU8s91 : isU8s Try.prog 91 = false := by kernel_rfl
theorem hasU91 : hasU Try.prog 91 = true := by kernel_rfl
theorem tk92 : tk Try.prog 92 = some (false, 1) := by kernel_rfl
theorem tz92 : tz Try.prog 92 = some [(.int .u8 0)] := by kernel_rfl
theorem ik92 : ik Try.prog 92 = some .u8 := by kernel_rfl
theorem isB92 : isB Try.prog 92 = false := by kernel_rfl
theorem isS92 : isS Try.prog 92 = false := by kernel_rfl
theorem isU8s92 : isU8s Try.prog 92 = false := by kernel_rfl
theorem hasU92 : hasU Try.prog 92 = true := by kernel_rfl
theorem tk93 : tk Try.prog 93 = some (false, 1) := by kernel_rfl
theorem tz93 : tz Try.prog 93 = some [(.int .u8 0)] := by kernel_rfl
theorem ik93 : ik Try.prog 93 = some .u8 := by kernel_rfl
theorem isB93 : isB Try.prog 93 = false := by kernel_rfl
theorem isS93 : isS Try.prog 93 = false := by kernel_rfl
theorem isU8s93 : isU8s Try.prog 93 = false := by kernel_rfl
theorem hasU93 : hasU Try.prog 93 = true := by kernel_rfl
theorem tk94 : tk Try.prog 94 = some (false, 1) := by kernel_rfl
theorem tz94 : tz Try.prog 94 = some [.nilfn] := by kernel_rfl
theorem isB94 : isB Try.prog 94 = false := by kernel_rfl
theorem isS94 : isS Try.prog 94 = false := by kernel_rfl
theorem isU8s94 : isU8s Try.prog 94 = false := by kernel_rfl
theorem hasU94 : hasU Try.prog 94 = true := by kernel_rfl
theorem tk95 : tk Try.prog 95 = some (false, 1) := by kernel_rfl
theorem tz95 : tz Try.prog 95 = some [.nilp] := by kernel_rfl
theorem isB95 : isB Try.prog 95 = false := by kernel_rfl
theorem isS95 : isS Try.prog 95 = false := by kernel_rfl
theorem isU8s95 : isU8s Try.prog 95 = false := by kernel_rfl
theorem hasU95 : hasU Try.prog 95 = true := by kernel_rfl
theorem tk96 : tk Try.prog 96 = some (false, 1) := by kernel_rfl
theorem tz96 : tz Try.prog 96 = some [(.int .i32 0)] := by kernel_rfl
theorem ik96 : ik Try.prog 96 = some .i32 := by kernel_rfl
theorem isB96 : isB Try.prog 96 = false := by kernel_rfl
theorem isS96 : isS Try.prog 96 = false := by kernel_rfl
theorem isU8s96 : isU8s Try.prog 96 = false := by kernel_rfl
theorem hasU96 : hasU Try.prog 96 = true := by kernel_rfl
theorem tk97 : tk Try.prog 97 = some (false, 1) := by kernel_rfl
theorem tz97 : tz Try.prog 97 = some [(.int .i32 0)] := by kernel_rfl
theorem ik97 : ik Try.prog 97 = some .i32 := by kernel_rfl
theorem isB97 : isB Try.prog 97 = false := by kernel_rfl
theorem isS97 : isS Try.prog 97 = false := by kernel_rfl
theorem isU8s97 : isU8s Try.prog 97 = false := by kernel_rfl
theorem hasU97 : hasU Try.prog 97 = true := by kernel_rfl
theorem tk98 : tk Try.prog 98 = some (true, 11) := by kernel_rfl
theorem tz98 : tz Try.prog 98 = some [(.int .u64 0), (.int .u64 0), (.int .u32 0), (.int .u8 0), (.int .u8 0), (.int .u8 0), (.int .u8 0), .nilfn, .nilp, (.int .i32 0), (.int .i32 0)] := by kernel_rfl
theorem fps98 : fps Try.prog 98 = some [(0, 1), (1, 1), (2, 1), (3, 1), (4, 1), (5, 1), (6, 1), (7, 1), (8, 1), (9, 1), (10, 1)] := by kernel_rfl
theorem isB98 : isB Try.prog 98 = false := by kernel_rfl
theorem isS98 : isS Try.prog 98 = false := by kernel_rfl
theorem isU8s98 : isU8s Try.prog 98 = false := by kernel_rfl
theorem hasU98 : hasU Try.prog 98 = true := by kernel_rfl
theorem fo98_0 : fo Try.prog 98 0 = some 0 := by kernel_rfl
theorem fo98_1 : fo Try.prog 98 1 = some 1 := by kernel_rfl
theorem fo98_2 : fo Try.prog 98 2 = some 2 := by kernel_rfl
theorem fo98_3 : fo Try.prog 98 3 = some 3 := by kernel_rfl
theorem fo98_4 : fo Try.prog 98 4 = some 4 := by kernel_rfl
theorem fo98_5 : fo Try.prog 98 5 = some 5 := by kernel_rfl
theorem fo98_6 : fo Try.prog 98 6 = some 6 := by kernel_rfl
theorem fo98_7 : fo Try.prog 98 7 = some 7 := by kernel_rfl
theorem fo98_8 : fo Try.prog 98 8 = some 8 := by kernel_rfl
theorem fo98_9 : fo Try.prog 98 9 = some 9 := by kernel_rfl
theorem fo98_10 : fo Try.prog 98 10 = some 10 := by kernel_rfl
theorem tk99 : tk Try.prog 99 = some (true, 11) := by kernel_rfl
theorem tz99 : tz Try.prog 99 = some [(.int .u64 0), (.int .u64 0), (.int .u32 0), (.int .u8 0), (.int .u8 0), (.int .u8 0), (.int .u8 0), .nilfn, .nilp, (.int .i32 0), (.int .i32 0)] := by kernel_rfl
theorem fps99 : fps Try.prog 99 = some [(0, 1), (1, 1), (2, 1), (3, 1), (4, 1), (5, 1), (6, 1), (7, 1), (8, 1), (9, 1), (10, 1)] := by kernel_rfl
theorem isB99 : isB Try.prog 99 = false := by kernel_rfl
theorem isS99 : isS Try.prog 99 = false := by kernel_rfl
theorem isU8s99 : isU8s Try.prog 99 = false := by kernel_rfl
theorem hasU99 : hasU Try.prog 99 = true := by kernel_rfl
theorem fo99_0 : fo Try.prog 99 0 = some 0 := by kernel_rfl
theorem fo99_1 : fo Try.prog 99 1 = some 1 := by kernel_rfl
theorem fo99_2 : fo Try.prog 99 2 = some 2 := by kernel_rfl
theorem fo99_3 : fo Try.prog 99 3 = some 3 := by kernel_rfl
theorem fo99_4 : fo Try.prog 99 4 = some 4 := by kernel_rfl
theorem fo99_5 : fo Try.prog 99 5 = some 5 := by kernel_rfl
theorem fo99_6 : fo Try.prog 99 6 = some 6 := by kernel_rfl
theorem fo99_7 : fo Try.prog 99 7 = some 7 := by kernel_rfl
theorem fo99_8 : fo Try.prog 99 8 = some 8 := by kernel_rfl
theorem fo99_9 : fo Try.prog 99 9 = some 9 := by kernel_rfl
theorem fo99_10 : fo Try.prog 99 10 = some 10 := by kernel_rfl
theorem tk100 : tk Try.prog 100 = some (false, 1) := by kernel_rfl
theorem tz100 : tz Try.prog 100 = some [.nilfn] := by kernel_rfl
theorem isB100 : isB Try.prog 100 = false := by kernel_rfl
theorem isS100 : isS Try.prog 100 = false := by kernel_rfl
theorem isU8s100 : isU8s Try.prog 100 = false := by kernel_rfl
theorem hasU100 : hasU Try.prog 100 = true := by kernel_rfl
theorem tk101 : tk Try.prog 101 = some (false, 1) := by kernel_rfl
theorem tz101 : tz Try.prog 101 = some [.nilp] := by kernel_rfl
theorem isB101 : isB Try.prog 101 = false := by kernel_rfl
theorem isS101 : isS Try.prog 101 = false := by kernel_rfl
theorem isU8s101 : isU8s Try.prog 101 = false := by kernel_rfl
theorem hasU101 : hasU Try.prog 101 = true := by kernel_rfl
theorem tk102 : tk Try.prog 102 = some (false, 1) := by kernel_rfl
theorem tz102 : tz Try.prog 102 = some [(.int .u64 0)] := by kernel_rfl
theorem ik102 : ik Try.prog 102 = some .u64 := by kernel_rfl
theorem isB102 : isB Try.prog 102 = false := by kernel_rfl
theorem isS102 : isS Try.prog 102 = false := by kernel_rfl
theorem isU8s102 : isU8s Try.prog 102 = false := by kernel_rfl
theorem hasU102 : hasU Try.prog 102 = true := by kernel_rfl
attribute [go_sem] tk0 isB0 isS0 isU8s0 hasU0 tk1 tz1 isB1 isS1 isU8s1 hasU1 tk2 tz2 ik2 isB2 isS2 isU8s2 hasU2 tk3 tz3 ik3 isB3 isS3 isU8s3 hasU3 tk4 tz4 isB4 isS4 isU8s4 hasU4 tk5 tz5 ik5 isB5 isS5 isU8s5 hasU5 tk6 tz6
attribute [go_sem] ik6 isB6 isS6 isU8s6 hasU6 tk7 tz7 fps7 isB7 isS7 isU8s7 hasU7 fo7_0 fo7_1 fo7_2 fo7_3 tk8 tz8 fps8 isB8 isS8 isU8s8 hasU8 fo8_0 fo8_1 fo8_2 fo8_3 tk9 tz9 isB9 isS9 isU8s9 hasU9 tk10 tz10 isB10 isS10 isU8s10 hasU10 tk11
attribute [go_sem] tz11 isB11 isS11 isU8s11 hasU11 tk12 tz12 ik12 isB12 isS12 isU8s12 hasU12 tk13 tz13 fps13 isB13 isS13 isU8s13 hasU13 fo13_0 fo13_1 tk14 tz14 fps14 isB14 isS14 isU8s14 hasU14 fo14_0 fo14_1 tk15 tz15 isB15 isS15 isU8s15 hasU15 tk16 tz16 isB16 isS16
attribute [go_sem] isU8s16 hasU16 tk17 tz17 isB17 isS17 isU8s17 hasU17 tk18 tz18 fps18 isB18 isS18 isU8s18 hasU18 fo18_0 tk19 tz19 fps19 isB19 isS19 isU8s19 hasU19 fo19_0 tk20 tz20 isB20 isS20 isU8s20 hasU20 tk21 tz21 ik21 isB21 isS21 isU8s21 hasU21 tk22 se22 tz22
attribute [go_sem] isB22 isS22 isU8s22 hasU22 tk23 se23 tz23 isB23 isS23 isU8s23 hasU23 tk24 se24 tz24 isB24 isS24 isU8s24 hasU24 tk25 tz25 fps25 isB25 isS25 isU8s25 hasU25 fo25_0 fo25_1 fo25_2 fo25_3 fo25_4 tk26 tz26 fps26 isB26 isS26 isU8s26 hasU26 fo26_0 fo26_1 fo26_2
attribute [go_sem] fo26_3 fo26_4 tk27 isB27 isS27 isU8s27 hasU27 tk28 tz28 isB28 isS28 isU8s28 hasU28 tk29 tz29 isB29 isS29 isU8s29 hasU29 tk30 se30 tz30 isB30 isS30 isU8s30 hasU30 tk31 tz31 isB31 isS31 isU8s31 hasU31 tk32 tz32 isB32 isS32 isU8s32 hasU32 tk33 tz33
attribute [go_sem] isB33 isS33 isU8s33 hasU33 tk34 tz34 isB34 isS34 isU8s34 hasU34 tk35 isB35 isS35 isU8s35 hasU35 tk36 tz36 isB36 isS36 isU8s36 hasU36 tk37 isB37 isS37 isU8s37 hasU37 tk38 tz38 isB38 isS38 isU8s38 hasU38 tk39 tz39 isB39 isS39 isU8s39 hasU39 tk40 isB40
attribute [go_sem] isS40 isU8s40 hasU40 tk41 tz41 isB41 isS41 isU8s41 hasU41 tk42 tz42 isB42 isS42 isU8s42 hasU42 tk43 tz43 isB43 isS43 isU8s43 hasU43 tk44 tz44 isB44 isS44 isU8s44 hasU44 tk45 tz45 isB45 isS45 isU8s45 hasU45 tk46 tz46 isB46 isS46 isU8s46 hasU46 tk47
attribute [go_sem] tz47 isB47 isS47 isU8s47 hasU47 tk48 tz48 isB48 isS48 isU8s48 hasU48 tk49 tz49 isB49 isS49 isU8s49 hasU49 tk50 tz50 isB50 isS50 isU8s50 hasU50 tk51 tz51 isB51 isS51 isU8s51 hasU51 tk52 tz52 isB52 isS52 isU8s52 hasU52 tk53 tz53 isB53 isS53 isU8s53
attribute [go_sem] hasU53 tk54 tz54 isB54 isS54 isU8s54 hasU54 tk55 tz55 isB55 isS55 isU8s55 hasU55 tk56 tz56 isB56 isS56 isU8s56 hasU56 tk57 tz57 isB57 isS57 isU8s57 hasU57 tk58 tz58 fps58 isB58 isS58 isU8s58 hasU58 fo58_0 fo58_1 tk59 tz59 fps59 isB59 isS59 isU8s59
attribute [go_sem] hasU59 fo59_0 fo59_1 tk60 tz60 isB60 isS60 isU8s60 hasU60 tk61 tz61 isB61 isS61 isU8s61 hasU61 tk62 tz62 isB62 isS62 isU8s62 hasU62 tk63 tz63 isB63 isS63 isU8s63 hasU63 tk64 tz64 isB64 isS64 isU8s64 hasU64 tk65 tz65 isB65 isS65 isU8s65 hasU65 tk66
attribute [go_sem] tz66 isB66 isS66 isU8s66 hasU66 tk67 tz67 isB67 isS67 isU8s67 hasU67 tk68 tz68 isB68 isS68 isU8s68 hasU68 tk69 tz69 isB69 isS69 isU8s69 hasU69 tk70 tz70 isB70 isS70 isU8s70 hasU70 tk71 tz71 isB71 isS71 isU8s71 hasU71 tk72 tz72 isB72 isS72 isU8s72
attribute [go_sem] hasU72 tk73 tz73 isB73 isS73 isU8s73 hasU73 tk74 tz74 isB74 isS74 isU8s74 hasU74 tk75 tz75 isB75 isS75 isU8s75 hasU75 tk76 tz76 isB76 isS76 isU8s76 hasU76 tk77 tz77 isB77 isS77 isU8s77 hasU77 tk78 tz78 isB78 isS78 isU8s78 hasU78 tk79 isB79 isS79
attribute [go_sem] isU8s79 hasU79 tk80 tz80 isB80 isS80 isU8s80 hasU80 tk81 isB81 isS81 isU8s81 hasU81 tk82 tz82 isB82 isS82 isU8s82 hasU82 tk83 tz83 isB83 isS83 isU8s83 hasU83 tk84 tz84 isB84 isS84 isU8s84 hasU84 tk85 tz85 fps85 isB85 isS85 isU8s85 hasU85 fo85_0 fo85_1
attribute [go_sem] fo85_2 fo85_3 tk86 tz86 fps86 isB86 isS86 isU8s86 hasU86 fo86_0 fo86_1 fo86_2 fo86_3 tk87 tz87 isB87 isS87 isU8s87 hasU87 tk88 tz88 fps88 isB88 isS88 isU8s88 hasU88 tk89 tz89 fps89 isB89 isS89 isU8s89 hasU89 tk90 tz90 isB90 isS90 isU8s90 hasU90 tk91
attribute [go_sem] tz91 ik91 isB91 isS91 isU8s91 hasU91 tk92 tz92 ik92 isB92 isS92 isU8s92 hasU92 tk93 tz93 ik93 isB93 isS93 isU8s93 hasU93 tk94 tz94 isB94 isS94 isU8s94 hasU94 tk95 tz95 isB95 isS95 isU8s95 hasU95 tk96 tz96 ik96 isB96 isS96 isU8s96 hasU96 tk97
attribute [go_sem] tz97 ik97 isB97 isS97 isU8s97 hasU97 tk98 tz98 fps98 isB98 isS98 isU8s98 hasU98 fo98_0 fo98_1 fo98_2 fo98_3 fo98_4 fo98_5 fo98_6 fo98_7 fo98_8 fo98_9 fo98_10 tk99 tz99 fps99 isB99 isS99 isU8s99 hasU99 fo99_0 fo99_1 fo99_2 fo99_3 fo99_4 fo99_5 fo99_6 fo99_7 fo99_8
attribute [go_sem] fo99_9 fo99_10 tk100 tz100 isB100 isS100 isU8s100 hasU100 tk101 tz101 isB101 isS101 isU8s101 hasU101 tk102 tz102 ik102 isB102 isS102 isU8s102 hasU102
end Go.Proofs.SA
