/- The closed facts of the types of Try. -/
import Derived.Test.YtblnlnckbocddaaShM
import Derived.Test.YtblnlnckbocddaaProg
namespace Go.Proofs.SA
open Go Go.Proofs Go.Proofs.Shadow
theorem mixed : Try.prog.follows .mixedOrders = true := by kernel_rfl
theorem tk0 : tk Try.prog 0 = some (false, 1) := by kernel_rfl
theorem isB0 : isB Try.prog 0 = false := by kernel_rfl
theorem isS0 : isS Try.prog 0 = false := by kernel_rfl
theorem isU8s0 : isU8s Try.prog 0 = false := by kernel_rfl
theorem hasU0 : hasU Try.prog 0 = true := by kernel_rfl
theorem tk1 : tk Try.prog 1 = some (false, 1) := by kernel_rfl
theorem tz1 : tz Try.prog 1 = some [.nilfn] := by kernel_rfl
theorem isB1 : isB Try.prog 1 = false := by kernel_rfl
theorem isS1 : isS Try.prog 1 = false := by kernel_rfl
theorem isU8s1 : isU8s Try.prog 1 = false := by kernel_rfl
theorem hasU1 : hasU Try.prog 1 = true := by kernel_rfl
theorem tk2 : tk Try.prog 2 = some (false, 1) := by kernel_rfl
theorem tz2 : tz Try.prog 2 = some [(.int .i64 0)] := by kernel_rfl
theorem ik2 : ik Try.prog 2 = some .i64 := by kernel_rfl
theorem isB2 : isB Try.prog 2 = false := by kernel_rfl
theorem isS2 : isS Try.prog 2 = false := by kernel_rfl
theorem isU8s2 : isU8s Try.prog 2 = false := by kernel_rfl
theorem hasU2 : hasU Try.prog 2 = true := by kernel_rfl
theorem tk3 : tk Try.prog 3 = some (false, 1) := by kernel_rfl
theorem tz3 : tz Try.prog 3 = some [(.int .i64 0)] := by kernel_rfl
theorem ik3 : ik Try.prog 3 = some .i64 := by kernel_rfl
theorem isB3 : isB Try.prog 3 = false := by kernel_rfl
theorem isS3 : isS Try.prog 3 = false := by kernel_rfl
theorem isU8s3 : isU8s Try.prog 3 = false := by kernel_rfl
theorem hasU3 : hasU Try.prog 3 = true := by kernel_rfl
theorem tk4 : tk Try.prog 4 = some (false, 1) := by kernel_rfl
theorem tz4 : tz Try.prog 4 = some [(.bool false)] := by kernel_rfl
theorem isB4 : isB Try.prog 4 = true := by kernel_rfl
theorem isS4 : isS Try.prog 4 = false := by kernel_rfl
theorem isU8s4 : isU8s Try.prog 4 = false := by kernel_rfl
theorem hasU4 : hasU Try.prog 4 = true := by kernel_rfl
theorem tk5 : tk Try.prog 5 = some (false, 1) := by kernel_rfl
theorem tz5 : tz Try.prog 5 = some [(.int .u8 0)] := by kernel_rfl
theorem ik5 : ik Try.prog 5 = some .u8 := by kernel_rfl
theorem isB5 : isB Try.prog 5 = false := by kernel_rfl
theorem isS5 : isS Try.prog 5 = false := by kernel_rfl
theorem isU8s5 : isU8s Try.prog 5 = false := by kernel_rfl
theorem hasU5 : hasU Try.prog 5 = true := by kernel_rfl
theorem tk6 : tk Try.prog 6 = some (false, 1) := by kernel_rfl
theorem tz6 : tz Try.prog 6 = some [(.int .u8 0)] := by kernel_rfl
theorem ik6 : ik Try.prog 6 = some .u8 := by kernel_rfl
theorem isB6 : isB Try.prog 6 = false := by kernel_rfl
theorem isS6 : isS Try.prog 6 = false := by kernel_rfl
theorem isU8s6 : isU8s Try.prog 6 = false := by kernel_rfl
theorem hasU6 : hasU Try.prog 6 = true := by kernel_rfl
theorem tk7 : tk Try.prog 7 = some (true, 4) := by kernel_rfl
theorem tz7 : tz Try.prog 7 = some [(.int .i64 0), (.int .i64 0), (.bool false), (.int .u8 0)] := by kernel_rfl
theorem fps7 : fps Try.prog 7 = some [(0, 1), (1, 1), (2, 1), (3, 1)] := by kernel_rfl
theorem isB7 : isB Try.prog 7 = false := by kernel_rfl
theorem isS7 : isS Try.prog 7 = false := by kernel_rfl
theorem isU8s7 : isU8s Try.prog 7 = false := by kernel_rfl
theorem hasU7 : hasU Try.prog 7 = true := by kernel_rfl
theorem fo7_0 : fo Try.prog 7 0 = some 0 := by kernel_rfl
theorem fo7_1 : fo Try.prog 7 1 = some 1 := by kernel_rfl
theorem fo7_2 : fo Try.prog 7 2 = some 2 := by kernel_rfl
theorem fo7_3 : fo Try.prog 7 3 = some 3 := by kernel_rfl
theorem tk8 : tk Try.prog 8 = some (true, 4) := by kernel_rfl
theorem tz8 : tz Try.prog 8 = some [(.int .i64 0), (.int .i64 0), (.bool false), (.int .u8 0)] := by kernel_rfl
theorem fps8 : fps Try.prog 8 = some [(0, 1), (1, 1), (2, 1), (3, 1)] := by kernel_rfl
theorem isB8 : isB Try.prog 8 = false := by kernel_rfl
theorem isS8 : isS Try.prog 8 = false := by kernel_rfl
theorem isU8s8 : isU8s Try.prog 8 = false := by kernel_rfl
theorem hasU8 : hasU Try.prog 8 = true := by kernel_rfl
theorem fo8_0 : fo Try.prog 8 0 = some 0 := by kernel_rfl
theorem fo8_1 : fo Try.prog 8 1 = some 1 := by kernel_rfl
theorem fo8_2 : fo Try.prog 8 2 = some 2 := by kernel_rfl
theorem fo8_3 : fo Try.prog 8 3 = some 3 := by kernel_rfl
theorem tk9 : tk Try.prog 9 = some (false, 1) := by kernel_rfl
theorem tz9 : tz Try.prog 9 = some [(.str (ByteArray.mk #[]))] := by kernel_rfl
theorem isB9 : isB Try.prog 9 = false := by kernel_rfl
theorem isS9 : isS Try.prog 9 = true := by kernel_rfl
theorem isU8s9 : isU8s Try.prog 9 = false := by kernel_rfl
theorem hasU9 : hasU Try.prog 9 = true := by kernel_rfl
theorem tk10 : tk Try.prog 10 = some (false, 1) := by kernel_rfl
theorem tz10 : tz Try.prog 10 = some [(.str (ByteArray.mk #[]))] := by kernel_rfl
theorem isB10 : isB Try.prog 10 = false := by kernel_rfl
theorem isS10 : isS Try.prog 10 = true := by kernel_rfl
theorem isU8s10 : isU8s Try.prog 10 = false := by kernel_rfl
theorem hasU10 : hasU Try.prog 10 = true := by kernel_rfl
theorem tk11 : tk Try.prog 11 = some (false, 1) := by kernel_rfl
theorem tz11 : tz Try.prog 11 = some [(.str (ByteArray.mk #[]))] := by kernel_rfl
theorem isB11 : isB Try.prog 11 = false := by kernel_rfl
theorem isS11 : isS Try.prog 11 = true := by kernel_rfl
theorem isU8s11 : isU8s Try.prog 11 = false := by kernel_rfl
theorem hasU11 : hasU Try.prog 11 = true := by kernel_rfl
theorem tk12 : tk Try.prog 12 = some (false, 1) := by kernel_rfl
theorem tz12 : tz Try.prog 12 = some [(.int .u64 0)] := by kernel_rfl
theorem ik12 : ik Try.prog 12 = some .u64 := by kernel_rfl
theorem isB12 : isB Try.prog 12 = false := by kernel_rfl
theorem isS12 : isS Try.prog 12 = false := by kernel_rfl
theorem isU8s12 : isU8s Try.prog 12 = false := by kernel_rfl
theorem hasU12 : hasU Try.prog 12 = true := by kernel_rfl
theorem tk13 : tk Try.prog 13 = some (true, 2) := by kernel_rfl
theorem tz13 : tz Try.prog 13 = some [(.str (ByteArray.mk #[])), (.int .u64 0)] := by kernel_rfl
theorem fps13 : fps Try.prog 13 = some [(0, 1), (1, 1)] := by kernel_rfl
theorem isB13 : isB Try.prog 13 = false := by kernel_rfl
theorem isS13 : isS Try.prog 13 = false := by kernel_rfl
theorem isU8s13 : isU8s Try.prog 13 = false := by kernel_rfl
theorem hasU13 : hasU Try.prog 13 = true := by kernel_rfl
theorem fo13_0 : fo Try.prog 13 0 = some 0 := by kernel_rfl
theorem fo13_1 : fo Try.prog 13 1 = some 1 := by kernel_rfl
theorem tk14 : tk Try.prog 14 = some (true, 2) := by kernel_rfl
theorem tz14 : tz Try.prog 14 = some [(.str (ByteArray.mk #[])), (.int .u64 0)] := by kernel_rfl
theorem fps14 : fps Try.prog 14 = some [(0, 1), (1, 1)] := by kernel_rfl
theorem isB14 : isB Try.prog 14 = false := by kernel_rfl
theorem isS14 : isS Try.prog 14 = false := by kernel_rfl
theorem isU8s14 : isU8s Try.prog 14 = false := by kernel_rfl
theorem hasU14 : hasU Try.prog 14 = true := by kernel_rfl
theorem fo14_0 : fo Try.prog 14 0 = some 0 := by kernel_rfl
theorem fo14_1 : fo Try.prog 14 1 = some 1 := by kernel_rfl
theorem tk15 : tk Try.prog 15 = some (false, 1) := by kernel_rfl
theorem tz15 : tz Try.prog 15 = some [.nilp] := by kernel_rfl
theorem isB15 : isB Try.prog 15 = false := by kernel_rfl
theorem isS15 : isS Try.prog 15 = false := by kernel_rfl
theorem isU8s15 : isU8s Try.prog 15 = false := by kernel_rfl
theorem hasU15 : hasU Try.prog 15 = true := by kernel_rfl
theorem tk16 : tk Try.prog 16 = some (false, 1) := by kernel_rfl
theorem tz16 : tz Try.prog 16 = some [.nilp] := by kernel_rfl
theorem isB16 : isB Try.prog 16 = false := by kernel_rfl
theorem isS16 : isS Try.prog 16 = false := by kernel_rfl
theorem isU8s16 : isU8s Try.prog 16 = false := by kernel_rfl
theorem hasU16 : hasU Try.prog 16 = true := by kernel_rfl
theorem tk17 : tk Try.prog 17 = some (false, 1) := by kernel_rfl
theorem tz17 : tz Try.prog 17 = some [.nilp] := by kernel_rfl
theorem isB17 : isB Try.prog 17 = false := by kernel_rfl
theorem isS17 : isS Try.prog 17 = false := by kernel_rfl
theorem isU8s17 : isU8s Try.prog 17 = false := by kernel_rfl
theorem hasU17 : hasU Try.prog 17 = true := by kernel_rfl
theorem tk18 : tk Try.prog 18 = some (true, 1) := by kernel_rfl
theorem tz18 : tz Try.prog 18 = some [.nilp] := by kernel_rfl
theorem fps18 : fps Try.prog 18 = some [(0, 1)] := by kernel_rfl
theorem isB18 : isB Try.prog 18 = false := by kernel_rfl
theorem isS18 : isS Try.prog 18 = false := by kernel_rfl
theorem isU8s18 : isU8s Try.prog 18 = false := by kernel_rfl
theorem hasU18 : hasU Try.prog 18 = true := by kernel_rfl
theorem fo18_0 : fo Try.prog 18 0 = some 0 := by kernel_rfl
theorem tk19 : tk Try.prog 19 = some (true, 1) := by kernel_rfl
theorem tz19 : tz Try.prog 19 = some [.nilp] := by kernel_rfl
theorem fps19 : fps Try.prog 19 = some [(0, 1)] := by kernel_rfl
theorem isB19 : isB Try.prog 19 = false := by kernel_rfl
theorem isS19 : isS Try.prog 19 = false := by kernel_rfl
theorem isU8s19 : isU8s Try.prog 19 = false := by kernel_rfl
theorem hasU19 : hasU Try.prog 19 = true := by kernel_rfl
theorem fo19_0 : fo Try.prog 19 0 = some 0 := by kernel_rfl
theorem tk20 : tk Try.prog 20 = some (false, 1) := by kernel_rfl
theorem tz20 : tz Try.prog 20 = some [(.opq .nilIface)] := by kernel_rfl
theorem isB20 : isB Try.prog 20 = false := by kernel_rfl
theorem isS20 : isS Try.prog 20 = false := by kernel_rfl
theorem isU8s20 : isU8s Try.prog 20 = false := by kernel_rfl
theorem hasU20 : hasU Try.prog 20 = true := by kernel_rfl
theorem tk21 : tk Try.prog 21 = some (false, 1) := by kernel_rfl
theorem tz21 : tz Try.prog 21 = some [(.int .i32 0)] := by kernel_rfl
theorem ik21 : ik Try.prog 21 = some .i32 := by kernel_rfl
theorem isB21 : isB Try.prog 21 = false := by kernel_rfl
theorem isS21 : isS Try.prog 21 = false := by kernel_rfl
theorem isU8s21 : isU8s Try.prog 21 = false := by kernel_rfl
theorem hasU21 : hasU Try.prog 21 = true := by kernel_rfl
theorem tk22 : tk Try.prog 22 = some (false, 1) := by kernel_rfl
theorem se22 : se Try.prog 22 = some (3, (1, 8)) := by kernel_rfl
theorem tz22 : tz Try.prog 22 = some [.nilsl] := by kernel_rfl
theorem isB22 : isB Try.prog 22 = false := by kernel_rfl
theorem isS22 : isS Try.prog 22 = false := by kernel_rfl
theorem isU8s22 : isU8s Try.prog 22 = false := by kernel_rfl
theorem hasU22 : hasU Try.prog 22 = true := by kernel_rfl
theorem tk23 : tk Try.prog 23 = some (false, 1) := by kernel_rfl
theorem se23 : se Try.prog 23 = some (25, (5, 80)) := by kernel_rfl
theorem tz23 : tz Try.prog 23 = some [.nilsl] := by kernel_rfl
theorem isB23 : isB Try.prog 23 = false := by kernel_rfl
theorem isS23 : isS Try.prog 23 = false := by kernel_rfl
theorem isU8s23 : isU8s Try.prog 23 = false := by kernel_rfl
theorem hasU23 : hasU Try.prog 23 = true := by kernel_rfl
theorem tk24 : tk Try.prog 24 = some (true, 5) := by kernel_rfl
theorem tz24 : tz Try.prog 24 = some [(.int .i64 0), (.str (ByteArray.mk #[])), (.int .i64 0), .nilsl, .nilsl] := by kernel_rfl
theorem fps24 : fps Try.prog 24 = some [(0, 1), (1, 1), (2, 1), (3, 1), (4, 1)] := by kernel_rfl
theorem isB24 : isB Try.prog 24 = false := by kernel_rfl
theorem isS24 : isS Try.prog 24 = false := by kernel_rfl
theorem isU8s24 : isU8s Try.prog 24 = false := by kernel_rfl
theorem hasU24 : hasU Try.prog 24 = true := by kernel_rfl
theorem fo24_0 : fo Try.prog 24 0 = some 0 := by kernel_rfl
theorem fo24_1 : fo Try.prog 24 1 = some 1 := by kernel_rfl
theorem fo24_2 : fo Try.prog 24 2 = some 2 := by kernel_rfl
theorem fo24_3 : fo Try.prog 24 3 = some 3 := by kernel_rfl
theorem fo24_4 : fo Try.prog 24 4 = some 4 := by kernel_rfl
theorem tk25 : tk Try.prog 25 = some (true, 5) := by kernel_rfl
theorem tz25 : tz Try.prog 25 = some [(.int .i64 0), (.str (ByteArray.mk #[])), (.int .i64 0), .nilsl, .nilsl] := by kernel_rfl
theorem fps25 : fps Try.prog 25 = some [(0, 1), (1, 1), (2, 1), (3, 1), (4, 1)] := by kernel_rfl
theorem isB25 : isB Try.prog 25 = false := by kernel_rfl
theorem isS25 : isS Try.prog 25 = false := by kernel_rfl
theorem isU8s25 : isU8s Try.prog 25 = false := by kernel_rfl
theorem hasU25 : hasU Try.prog 25 = true := by kernel_rfl
theorem fo25_0 : fo Try.prog 25 0 = some 0 := by kernel_rfl
theorem fo25_1 : fo Try.prog 25 1 = some 1 := by kernel_rfl
theorem fo25_2 : fo Try.prog 25 2 = some 2 := by kernel_rfl
theorem fo25_3 : fo Try.prog 25 3 = some 3 := by kernel_rfl
theorem fo25_4 : fo Try.prog 25 4 = some 4 := by kernel_rfl
theorem tk26 : tk Try.prog 26 = some (false, 1) := by kernel_rfl
theorem tz26 : tz Try.prog 26 = some [.nilfn] := by kernel_rfl
theorem isB26 : isB Try.prog 26 = false := by kernel_rfl
theorem isS26 : isS Try.prog 26 = false := by kernel_rfl
theorem isU8s26 : isU8s Try.prog 26 = false := by kernel_rfl
theorem hasU26 : hasU Try.prog 26 = true := by kernel_rfl
theorem tk27 : tk Try.prog 27 = some (false, 1) := by kernel_rfl
theorem tz27 : tz Try.prog 27 = some [.nilfn] := by kernel_rfl
theorem isB27 : isB Try.prog 27 = false := by kernel_rfl
theorem isS27 : isS Try.prog 27 = false := by kernel_rfl
theorem isU8s27 : isU8s Try.prog 27 = false := by kernel_rfl
theorem hasU27 : hasU Try.prog 27 = true := by kernel_rfl
theorem tk28 : tk Try.prog 28 = some (false, 1) := by kernel_rfl
theorem se28 : se Try.prog 28 = some (30, (5, 80)) := by kernel_rfl
theorem tz28 : tz Try.prog 28 = some [.nilsl] := by kernel_rfl
theorem isB28 : isB Try.prog 28 = false := by kernel_rfl
theorem isS28 : isS Try.prog 28 = false := by kernel_rfl
theorem isU8s28 : isU8s Try.prog 28 = false := by kernel_rfl
theorem hasU28 : hasU Try.prog 28 = true := by kernel_rfl
theorem tk29 : tk Try.prog 29 = some (true, 5) := by kernel_rfl
theorem tz29 : tz Try.prog 29 = some [(.int .i64 0), (.str (ByteArray.mk #[])), (.int .i64 0), .nilsl, .nilsl] := by kernel_rfl
theorem fps29 : fps Try.prog 29 = some [(0, 1), (1, 1), (2, 1), (3, 1), (4, 1)] := by kernel_rfl
theorem isB29 : isB Try.prog 29 = false := by kernel_rfl
theorem isS29 : isS Try.prog 29 = false := by kernel_rfl
theorem isU8s29 : isU8s Try.prog 29 = false := by kernel_rfl
theorem hasU29 : hasU Try.prog 29 = true := by kernel_rfl
theorem fo29_0 : fo Try.prog 29 0 = some 0 := by kernel_rfl
theorem fo29_1 : fo Try.prog 29 1 = some 1 := by kernel_rfl
theorem fo29_2 : fo Try.prog 29 2 = some 2 := by kernel_rfl
theorem fo29_3 : fo Try.prog 29 3 = some 3 := by kernel_rfl
theorem fo29_4 : fo Try.prog 29 4 = some 4 := by kernel_rfl
theorem tk30 : tk Try.prog 30 = some (true, 5) := by kernel_rfl
theorem tz30 : tz Try.prog 30 = some [(.int .i64 0), (.str (ByteArray.mk #[])), (.int .i64 0), .nilsl, .nilsl] := by kernel_rfl
theorem fps30 : fps Try.prog 30 = some [(0, 1), (1, 1), (2, 1), (3, 1), (4, 1)] := by kernel_rfl
theorem isB30 : isB Try.prog 30 = false := by kernel_rfl
theorem isS30 : isS Try.prog 30 = false := by kernel_rfl
theorem isU8s30 : isU8s Try.prog 30 = false := by kernel_rfl
theorem hasU30 : hasU Try.prog 30 = true := by kernel_rfl
theorem fo30_0 : fo Try.prog 30 0 = some 0 := by kernel_rfl
theorem fo30_1 : fo Try.prog 30 1 = some 1 := by kernel_rfl
theorem fo30_2 : fo Try.prog 30 2 = some 2 := by kernel_rfl
theorem fo30_3 : fo Try.prog 30 3 = some 3 := by kernel_rfl
theorem fo30_4 : fo Try.prog 30 4 = some 4 := by kernel_rfl
theorem tk31 : tk Try.prog 31 = some (false, 1) := by kernel_rfl
theorem tz31 : tz Try.prog 31 = some [.nilfn] := by kernel_rfl
theorem isB31 : isB Try.prog 31 = false := by kernel_rfl
theorem isS31 : isS Try.prog 31 = false := by kernel_rfl
theorem isU8s31 : isU8s Try.prog 31 = false := by kernel_rfl
theorem hasU31 : hasU Try.prog 31 = true := by kernel_rfl
theorem tk32 : tk Try.prog 32 = some (false, 1) := by kernel_rfl
theorem tz32 : tz Try.prog 32 = some [.nilfn] := by kernel_rfl
theorem isB32 : isB Try.prog 32 = false := by kernel_rfl
theorem isS32 : isS Try.prog 32 = false := by kernel_rfl
theorem isU8s32 : isU8s Try.prog 32 = false := by kernel_rfl
theorem hasU32 : hasU Try.prog 32 = true := by kernel_rfl
theorem tk33 : tk Try.prog 33 = some (false, 1) := by kernel_rfl
theorem tz33 : tz Try.prog 33 = some [.nilfn] := by kernel_rfl
theorem isB33 : isB Try.prog 33 = false := by kernel_rfl
theorem isS33 : isS Try.prog 33 = false := by kernel_rfl
theorem isU8s33 : isU8s Try.prog 33 = false := by kernel_rfl
theorem hasU33 : hasU Try.prog 33 = true := by kernel_rfl
theorem tk34 : tk Try.prog 34 = some (false, 1) := by kernel_rfl
theorem isB34 : isB Try.prog 34 = false := by kernel_rfl
theorem isS34 : isS Try.prog 34 = false := by kernel_rfl
theorem isU8s34 : isU8s Try.prog 34 = false := by kernel_rfl
theorem hasU34 : hasU Try.prog 34 = true := by kernel_rfl
theorem tk35 : tk Try.prog 35 = some (false, 1) := by kernel_rfl
theorem tz35 : tz Try.prog 35 = some [.nilfn] := by kernel_rfl
theorem isB35 : isB Try.prog 35 = false := by kernel_rfl
theorem isS35 : isS Try.prog 35 = false := by kernel_rfl
theorem isU8s35 : isU8s Try.prog 35 = false := by kernel_rfl
theorem hasU35 : hasU Try.prog 35 = true := by kernel_rfl
theorem tk36 : tk Try.prog 36 = some (false, 1) := by kernel_rfl
theorem tz36 : tz Try.prog 36 = some [.nilfn] := by kernel_rfl
theorem isB36 : isB Try.prog 36 = false := by kernel_rfl
theorem isS36 : isS Try.prog 36 = false := by kernel_rfl
theorem isU8s36 : isU8s Try.prog 36 = false := by kernel_rfl
theorem hasU36 : hasU Try.prog 36 = true := by kernel_rfl
theorem tk37 : tk Try.prog 37 = some (false, 1) := by kernel_rfl
theorem tz37 : tz Try.prog 37 = some [.nilfn] := by kernel_rfl
theorem isB37 : isB Try.prog 37 = false := by kernel_rfl
theorem isS37 : isS Try.prog 37 = false := by kernel_rfl
theorem isU8s37 : isU8s Try.prog 37 = false := by kernel_rfl
theorem hasU37 : hasU Try.prog 37 = true := by kernel_rfl
theorem tk38 : tk Try.prog 38 = some (false, 1) := by kernel_rfl
theorem se38 : se Try.prog 38 = some (5, (1, 1)) := by kernel_rfl
theorem tz38 : tz Try.prog 38 = some [.nilsl] := by kernel_rfl
theorem isB38 : isB Try.prog 38 = false := by kernel_rfl
theorem isS38 : isS Try.prog 38 = false := by kernel_rfl
theorem isU8s38 : isU8s Try.prog 38 = true := by kernel_rfl
theorem hasU38 : hasU Try.prog 38 = true := by kernel_rfl
theorem tk39 : tk Try.prog 39 = some (false, 1) := by kernel_rfl
theorem isB39 : isB Try.prog 39 = false := by kernel_rfl
theorem isS39 : isS Try.prog 39 = false := by kernel_rfl
theorem isU8s39 : isU8s Try.prog 39 = false := by kernel_rfl
theorem hasU39 : hasU Try.prog 39 = true := by kernel_rfl
theorem tk40 : tk Try.prog 40 = some (false, 1) := by kernel_rfl
theorem tz40 : tz Try.prog 40 = some [.nilfn] := by kernel_rfl
theorem isB40 : isB Try.prog 40 = false := by kernel_rfl
theorem isS40 : isS Try.prog 40 = false := by kernel_rfl
theorem isU8s40 : isU8s Try.prog 40 = false := by kernel_rfl
theorem hasU40 : hasU Try.prog 40 = true := by kernel_rfl
theorem tk41 : tk Try.prog 41 = some (false, 1) := by kernel_rfl
theorem se41 : se Try.prog 41 = some (9, (1, 16)) := by kernel_rfl
theorem tz41 : tz Try.prog 41 = some [.nilsl] := by kernel_rfl
theorem isB41 : isB Try.prog 41 = false := by kernel_rfl
theorem isS41 : isS Try.prog 41 = false := by kernel_rfl
theorem isU8s41 : isU8s Try.prog 41 = false := by kernel_rfl
theorem hasU41 : hasU Try.prog 41 = true := by kernel_rfl
theorem tk42 : tk Try.prog 42 = some (false, 1) := by kernel_rfl
theorem tz42 : tz Try.prog 42 = some [.nilfn] := by kernel_rfl
theorem isB42 : isB Try.prog 42 = false := by kernel_rfl
theorem isS42 : isS Try.prog 42 = false := by kernel_rfl
theorem isU8s42 : isU8s Try.prog 42 = false := by kernel_rfl
theorem hasU42 : hasU Try.prog 42 = true := by kernel_rfl
theorem tk43 : tk Try.prog 43 = some (false, 1) := by kernel_rfl
theorem tz43 : tz Try.prog 43 = some [.nilfn] := by kernel_rfl
theorem isB43 : isB Try.prog 43 = false := by kernel_rfl
theorem isS43 : isS Try.prog 43 = false := by kernel_rfl
theorem isU8s43 : isU8s Try.prog 43 = false := by kernel_rfl
theorem hasU43 : hasU Try.prog 43 = true := by kernel_rfl
theorem tk44 : tk Try.prog 44 = some (false, 1) := by kernel_rfl
theorem tz44 : tz Try.prog 44 = some [.nilfn] := by kernel_rfl
theorem isB44 : isB Try.prog 44 = false := by kernel_rfl
theorem isS44 : isS Try.prog 44 = false := by kernel_rfl
theorem isU8s44 : isU8s Try.prog 44 = false := by kernel_rfl
theorem hasU44 : hasU Try.prog 44 = true := by kernel_rfl
theorem tk45 : tk Try.prog 45 = some (false, 1) := by kernel_rfl
theorem tz45 : tz Try.prog 45 = some [.nilfn] := by kernel_rfl
theorem isB45 : isB Try.prog 45 = false := by kernel_rfl
theorem isS45 : isS Try.prog 45 = false := by kernel_rfl
theorem isU8s45 : isU8s Try.prog 45 = false := by kernel_rfl
theorem hasU45 : hasU Try.prog 45 = true := by kernel_rfl
theorem tk46 : tk Try.prog 46 = some (false, 1) := by kernel_rfl
theorem isB46 : isB Try.prog 46 = false := by kernel_rfl
theorem isS46 : isS Try.prog 46 = false := by kernel_rfl
theorem isU8s46 : isU8s Try.prog 46 = false := by kernel_rfl
theorem hasU46 : hasU Try.prog 46 = true := by kernel_rfl
theorem tk47 : tk Try.prog 47 = some (false, 1) := by kernel_rfl
theorem tz47 : tz Try.prog 47 = some [.nilfn] := by kernel_rfl
theorem isB47 : isB Try.prog 47 = false := by kernel_rfl
theorem isS47 : isS Try.prog 47 = false := by kernel_rfl
theorem isU8s47 : isU8s Try.prog 47 = false := by kernel_rfl
theorem hasU47 : hasU Try.prog 47 = true := by kernel_rfl
theorem tk48 : tk Try.prog 48 = some (false, 1) := by kernel_rfl
theorem tz48 : tz Try.prog 48 = some [.nilfn] := by kernel_rfl
theorem isB48 : isB Try.prog 48 = false := by kernel_rfl
theorem isS48 : isS Try.prog 48 = false := by kernel_rfl
theorem isU8s48 : isU8s Try.prog 48 = false := by kernel_rfl
theorem hasU48 : hasU Try.prog 48 = true := by kernel_rfl
theorem tk49 : tk Try.prog 49 = some (false, 1) := by kernel_rfl
theorem tz49 : tz Try.prog 49 = some [.nilfn] := by kernel_rfl
theorem isB49 : isB Try.prog 49 = false := by kernel_rfl
theorem isS49 : isS Try.prog 49 = false := by kernel_rfl
theorem isU8s49 : isU8s Try.prog 49 = false := by kernel_rfl
theorem hasU49 : hasU Try.prog 49 = true := by kernel_rfl
theorem tk50 : tk Try.prog 50 = some (false, 1) := by kernel_rfl
theorem tz50 : tz Try.prog 50 = some [.nilfn] := by kernel_rfl
theorem isB50 : isB Try.prog 50 = false := by kernel_rfl
theorem isS50 : isS Try.prog 50 = false := by kernel_rfl
theorem isU8s50 : isU8s Try.prog 50 = false := by kernel_rfl
theorem hasU50 : hasU Try.prog 50 = true := by kernel_rfl
theorem tk51 : tk Try.prog 51 = some (false, 1) := by kernel_rfl
theorem tz51 : tz Try.prog 51 = some [.nilfn] := by kernel_rfl
theorem isB51 : isB Try.prog 51 = false := by kernel_rfl
theorem isS51 : isS Try.prog 51 = false := by kernel_rfl
theorem isU8s51 : isU8s Try.prog 51 = false := by kernel_rfl
theorem hasU51 : hasU Try.prog 51 = true := by kernel_rfl
theorem tk52 : tk Try.prog 52 = some (false, 1) := by kernel_rfl
theorem tz52 : tz Try.prog 52 = some [.nilfn] := by kernel_rfl
theorem isB52 : isB Try.prog 52 = false := by kernel_rfl
theorem isS52 : isS Try.prog 52 = false := by kernel_rfl
theorem isU8s52 : isU8s Try.prog 52 = false := by kernel_rfl
theorem hasU52 : hasU Try.prog 52 = true := by kernel_rfl
theorem tk53 : tk Try.prog 53 = some (false, 1) := by kernel_rfl
theorem tz53 : tz Try.prog 53 = some [.nilfn] := by kernel_rfl
theorem isB53 : isB Try.prog 53 = false := by kernel_rfl
theorem isS53 : isS Try.prog 53 = false := by kernel_rfl
theorem isU8s53 : isU8s Try.prog 53 = false := by kernel_rfl
theorem hasU53 : hasU Try.prog 53 = true := by kernel_rfl
theorem tk54 : tk Try.prog 54 = some (false, 1) := by kernel_rfl
theorem tz54 : tz Try.prog 54 = some [.nilfn] := by kernel_rfl
theorem isB54 : isB Try.prog 54 = false := by kernel_rfl
theorem isS54 : isS Try.prog 54 = false := by kernel_rfl
theorem isU8s54 : isU8s Try.prog 54 = false := by kernel_rfl
theorem hasU54 : hasU Try.prog 54 = true := by kernel_rfl
theorem tk55 : tk Try.prog 55 = some (false, 1) := by kernel_rfl
theorem tz55 : tz Try.prog 55 = some [.nilfn] := by kernel_rfl
theorem isB55 : isB Try.prog 55 = false := by kernel_rfl
theorem isS55 : isS Try.prog 55 = false := by kernel_rfl
theorem isU8s55 : isU8s Try.prog 55 = false := by kernel_rfl
theorem hasU55 : hasU Try.prog 55 = true := by kernel_rfl
theorem tk56 : tk Try.prog 56 = some (false, 1) := by kernel_rfl
theorem tz56 : tz Try.prog 56 = some [.nilfn] := by kernel_rfl
theorem isB56 : isB Try.prog 56 = false := by kernel_rfl
theorem isS56 : isS Try.prog 56 = false := by kernel_rfl
theorem isU8s56 : isU8s Try.prog 56 = false := by kernel_rfl
theorem hasU56 : hasU Try.prog 56 = true := by kernel_rfl
theorem tk57 : tk Try.prog 57 = some (false, 1) := by kernel_rfl
theorem tz57 : tz Try.prog 57 = some [.nilfn] := by kernel_rfl
theorem isB57 : isB Try.prog 57 = false := by kernel_rfl
theorem isS57 : isS Try.prog 57 = false := by kernel_rfl
theorem isU8s57 : isU8s Try.prog 57 = false := by kernel_rfl
theorem hasU57 : hasU Try.prog 57 = true := by kernel_rfl
theorem tk58 : tk Try.prog 58 = some (false, 1) := by kernel_rfl
theorem tz58 : tz Try.prog 58 = some [.nilfn] := by kernel_rfl
theorem isB58 : isB Try.prog 58 = false := by kernel_rfl
theorem isS58 : isS Try.prog 58 = false := by kernel_rfl
theorem isU8s58 : isU8s Try.prog 58 = false := by kernel_rfl
theorem hasU58 : hasU Try.prog 58 = true := by kernel_rfl
theorem tk59 : tk Try.prog 59 = some (false, 1) := by kernel_rfl
theorem tz59 : tz Try.prog 59 = some [.nilfn] := by kernel_rfl
theorem isB59 : isB Try.prog 59 = false := by kernel_rfl
theorem isS59 : isS Try.prog 59 = false := by kernel_rfl
theorem isU8s59 : isU8s Try.prog 59 = false := by kernel_rfl
theorem hasU59 : hasU Try.prog 59 = true := by kernel_rfl
theorem tk60 : tk Try.prog 60 = some (false, 1) := by kernel_rfl
theorem tz60 : tz Try.prog 60 = some [.nilfn] := by kernel_rfl
theorem isB60 : isB Try.prog 60 = false := by kernel_rfl
theorem isS60 : isS Try.prog 60 = false := by kernel_rfl
theorem isU8s60 : isU8s Try.prog 60 = false := by kernel_rfl
theorem hasU60 : hasU Try.prog 60 = true := by kernel_rfl
theorem tk61 : tk Try.prog 61 = some (false, 1) := by kernel_rfl
theorem tz61 : tz Try.prog 61 = some [.nilfn] := by kernel_rfl
theorem isB61 : isB Try.prog 61 = false := by kernel_rfl
theorem isS61 : isS Try.prog 61 = false := by kernel_rfl
theorem isU8s61 : isU8s Try.prog 61 = false := by kernel_rfl
theorem hasU61 : hasU Try.prog 61 = true := by kernel_rfl
theorem tk62 : tk Try.prog 62 = some (false, 1) := by kernel_rfl
theorem isB62 : isB Try.prog 62 = false := by kernel_rfl
theorem isS62 : isS Try.prog 62 = false := by kernel_rfl
theorem isU8s62 : isU8s Try.prog 62 = false := by kernel_rfl
theorem hasU62 : hasU Try.prog 62 = true := by kernel_rfl
theorem tk63 : tk Try.prog 63 = some (false, 1) := by kernel_rfl
theorem tz63 : tz Try.prog 63 = some [.nilfn] := by kernel_rfl
theorem isB63 : isB Try.prog 63 = false := by kernel_rfl
theorem isS63 : isS Try.prog 63 = false := by kernel_rfl
theorem isU8s63 : isU8s Try.prog 63 = false := by kernel_rfl
theorem hasU63 : hasU Try.prog 63 = true := by kernel_rfl
theorem tk64 : tk Try.prog 64 = some (false, 1) := by kernel_rfl
theorem tz64 : tz Try.prog 64 = some [.nilp] := by kernel_rfl
theorem isB64 : isB Try.prog 64 = false := by kernel_rfl
theorem isS64 : isS Try.prog 64 = false := by kernel_rfl
theorem isU8s64 : isU8s Try.prog 64 = false := by kernel_rfl
theorem hasU64 : hasU Try.prog 64 = true := by kernel_rfl
theorem tk65 : tk Try.prog 65 = some (false, 1) := by kernel_rfl
theorem tz65 : tz Try.prog 65 = some [.nilfn] := by kernel_rfl
theorem isB65 : isB Try.prog 65 = false := by kernel_rfl
theorem isS65 : isS Try.prog 65 = false := by kernel_rfl
theorem isU8s65 : isU8s Try.prog 65 = false := by kernel_rfl
theorem hasU65 : hasU Try.prog 65 = true := by kernel_rfl
theorem tk66 : tk Try.prog 66 = some (false, 1) := by kernel_rfl
theorem tz66 : tz Try.prog 66 = some [.nilfn] := by kernel_rfl
theorem isB66 : isB Try.prog 66 = false := by kernel_rfl
theorem isS66 : isS Try.prog 66 = false := by kernel_rfl
theorem isU8s66 : isU8s Try.prog 66 = false := by kernel_rfl
theorem hasU66 : hasU Try.prog 66 = true := by kernel_rfl
theorem tk67 : tk Try.prog 67 = some (false, 1) := by kernel_rfl
theorem tz67 : tz Try.prog 67 = some [.nilfn] := by kernel_rfl
theorem isB67 : isB Try.prog 67 = false := by kernel_rfl
theorem isS67 : isS Try.prog 67 = false := by kernel_rfl
theorem isU8s67 : isU8s Try.prog 67 = false := by kernel_rfl
theorem hasU67 : hasU Try.prog 67 = true := by kernel_rfl
theorem tk68 : tk Try.prog 68 = some (false, 1) := by kernel_rfl
theorem tz68 : tz Try.prog 68 = some [.nilfn] := by kernel_rfl
theorem isB68 : isB Try.prog 68 = false := by kernel_rfl
theorem isS68 : isS Try.prog 68 = false := by kernel_rfl
theorem isU8s68 : isU8s Try.prog 68 = false := by kernel_rfl
theorem hasU68 : hasU Try.prog 68 = true := by kernel_rfl
theorem tk69 : tk Try.prog 69 = some (false, 1) := by kernel_rfl
theorem tz69 : tz Try.prog 69 = some [.nilfn] := by kernel_rfl
theorem isB69 : isB Try.prog 69 = false := by kernel_rfl
theorem isS69 : isS Try.prog 69 = false := by kernel_rfl
theorem isU8s69 : isU8s Try.prog 69 = false := by kernel_rfl
theorem hasU69 : hasU Try.prog 69 = true := by kernel_rfl
theorem tk70 : tk Try.prog 70 = some (false, 1) := by kernel_rfl
theorem tz70 : tz Try.prog 70 = some [.nilfn] := by kernel_rfl
theorem isB70 : isB Try.prog 70 = false := by kernel_rfl
theorem isS70 : isS Try.prog 70 = false := by kernel_rfl
theorem isU8s70 : isU8s Try.prog 70 = false := by kernel_rfl
theorem hasU70 : hasU Try.prog 70 = true := by kernel_rfl
theorem tk71 : tk Try.prog 71 = some (false, 1) := by kernel_rfl
theorem tz71 : tz Try.prog 71 = some [.nilp] := by kernel_rfl
theorem isB71 : isB Try.prog 71 = false := by kernel_rfl
theorem isS71 : isS Try.prog 71 = false := by kernel_rfl
theorem isU8s71 : isU8s Try.prog 71 = false := by kernel_rfl
theorem hasU71 : hasU Try.prog 71 = true := by kernel_rfl
theorem tk72 : tk Try.prog 72 = some (false, 1) := by kernel_rfl
theorem tz72 : tz Try.prog 72 = some [.nilfn] := by kernel_rfl
theorem isB72 : isB Try.prog 72 = false := by kernel_rfl
theorem isS72 : isS Try.prog 72 = false := by kernel_rfl
theorem isU8s72 : isU8s Try.prog 72 = false := by kernel_rfl
theorem hasU72 : hasU Try.prog 72 = true := by kernel_rfl
attribute [go_sem] tk0 isB0 isS0 isU8s0 hasU0 tk1 tz1 isB1 isS1 isU8s1 hasU1 tk2 tz2 ik2 isB2 isS2 isU8s2 hasU2 tk3 tz3 ik3 isB3 isS3 isU8s3 hasU3 tk4 tz4 isB4 isS4 isU8s4 hasU4 tk5 tz5 ik5 isB5 isS5 isU8s5 hasU5 tk6 tz6
attribute [go_sem] ik6 isB6 isS6 isU8s6 hasU6 tk7 tz7 fps7 isB7 isS7 isU8s7 hasU7 fo7_0 fo7_1 fo7_2 fo7_3 tk8 tz8 fps8 isB8 isS8 isU8s8 hasU8 fo8_0 fo8_1 fo8_2 fo8_3 tk9 tz9 isB9 isS9 isU8s9 hasU9 tk10 tz10 isB10 isS10 isU8s10 hasU10 tk11
attribute [go_sem] tz11 isB11 isS11 isU8s11 hasU11 tk12 tz12 ik12 isB12 isS12 isU8s12 hasU12 tk13 tz13 fps13 isB13 isS13 isU8s13 hasU13 fo13_0 fo13_1 tk14 tz14 fps14 isB14 isS14 isU8s14 hasU14 fo14_0 fo14_1 tk15 tz15 isB15 isS15 isU8s15 hasU15 tk16 tz16 isB16 isS16
attribute [go_sem] isU8s16 hasU16 tk17 tz17 isB17 isS17 isU8s17 hasU17 tk18 tz18 fps18 isB18 isS18 isU8s18 hasU18 fo18_0 tk19 tz19 fps19 isB19 isS19 isU8s19 hasU19 fo19_0 tk20 tz20 isB20 isS20 isU8s20 hasU20 tk21 tz21 ik21 isB21 isS21 isU8s21 hasU21 tk22 se22 tz22
attribute [go_sem] isB22 isS22 isU8s22 hasU22 tk23 se23 tz23 isB23 isS23 isU8s23 hasU23 tk24 tz24 fps24 isB24 isS24 isU8s24 hasU24 fo24_0 fo24_1 fo24_2 fo24_3 fo24_4 tk25 tz25 fps25 isB25 isS25 isU8s25 hasU25 fo25_0 fo25_1 fo25_2 fo25_3 fo25_4 tk26 tz26 isB26 isS26 isU8s26
attribute [go_sem] hasU26 tk27 tz27 isB27 isS27 isU8s27 hasU27 tk28 se28 tz28 isB28 isS28 isU8s28 hasU28 tk29 tz29 fps29 isB29 isS29 isU8s29 hasU29 fo29_0 fo29_1 fo29_2 fo29_3 fo29_4 tk30 tz30 fps30 isB30 isS30 isU8s30 hasU30 fo30_0 fo30_1 fo30_2 fo30_3 fo30_4 tk31 tz31
attribute [go_sem] isB31 isS31 isU8s31 hasU31 tk32 tz32 isB32 isS32 isU8s32 hasU32 tk33 tz33 isB33 isS33 isU8s33 hasU33 tk34 isB34 isS34 isU8s34 hasU34 tk35 tz35 isB35 isS35 isU8s35 hasU35 tk36 tz36 isB36 isS36 isU8s36 hasU36 tk37 tz37 isB37 isS37 isU8s37 hasU37 tk38
attribute [go_sem] se38 tz38 isB38 isS38 isU8s38 hasU38 tk39 isB39 isS39 isU8s39 hasU39 tk40 tz40 isB40 isS40 isU8s40 hasU40 tk41 se41 tz41 isB41 isS41 isU8s41 hasU41 tk42 tz42 isB42 isS42 isU8s42 hasU42 tk43 tz43 isB43 isS43 isU8s43 hasU43 tk44 tz44 isB44 isS44
attribute [go_sem] isU8s44 hasU44 tk45 tz45 isB45 isS45 isU8s45 hasU45 tk46 isB46 isS46 isU8s46 hasU46 tk47 tz47 isB47 isS47 isU8s47 hasU47 tk48 tz48 isB48 isS48 isU8s48 hasU48 tk49 tz49 isB49 isS49 isU8s49 hasU49 tk50 tz50 isB50 isS50 isU8s50 hasU50 tk51 tz51 isB51
attribute [go_sem] isS51 isU8s51 hasU51 tk52 tz52 isB52 isS52 isU8s52 hasU52 tk53 tz53 isB53 isS53 isU8s53 hasU53 tk54 tz54 isB54 isS54 isU8s54 hasU54 tk55 tz55 isB55 isS55 isU8s55 hasU55 tk56 tz56 isB56 isS56 isU8s56 hasU56 tk57 tz57 isB57 isS57 isU8s57 hasU57 tk58
attribute [go_sem] tz58 isB58 isS58 isU8s58 hasU58 tk59 tz59 isB59 isS59 isU8s59 hasU59 tk60 tz60 isB60 isS60 isU8s60 hasU60 tk61 tz61 isB61 isS61 isU8s61 hasU61 tk62 isB62 isS62 isU8s62 hasU62 tk63 tz63 isB63 isS63 isU8s63 hasU63 tk64 tz64 isB64 isS64 isU8s64 hasU64
attribute [go_sem] tk65 tz65 isB65 isS65 isU8s65 hasU65 tk66 tz66 isB66 isS66 isU8s66 hasU66 tk67 tz67 isB67 isS67 isU8s67 hasU67 tk68 tz68 isB68 isS68 isU8s68 hasU68 tk69 tz69 isB69 isS69 isU8s69 hasU69 tk70 tz70 isB70 isS70 isU8s70 hasU70 tk71 tz71 isB71 isS71
attribute [go_sem] isU8s71 hasU71 tk72 tz72 isB72 isS72 isU8s72 hasU72
end Go.Proofs.SA
