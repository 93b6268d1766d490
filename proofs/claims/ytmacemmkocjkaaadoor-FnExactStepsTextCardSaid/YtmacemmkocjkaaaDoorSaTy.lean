/- The closed facts of the types of Tryd. -/
import Derived.Test.YtmacemmkocjkaaaDoorShM
import Derived.Test.YtmacemmkocjkaaaDoorProg
namespace Go.Proofs.SA
open Go Go.Proofs Go.Proofs.Shadow
theorem mixed : Tryd.prog.follows .mixedOrders = true := by kernel_rfl
theorem tk0 : tk Tryd.prog 0 = some (false, 1) := by kernel_rfl
theorem isB0 : isB Tryd.prog 0 = false := by kernel_rfl
theorem isS0 : isS Tryd.prog 0 = false := by kernel_rfl
theorem isU8s0 : isU8s Tryd.prog 0 = false := by kernel_rfl
theorem hasU0 : hasU Tryd.prog 0 = true := by kernel_rfl
theorem tk1 : tk Tryd.prog 1 = some (false, 1) := by kernel_rfl
theorem tz1 : tz Tryd.prog 1 = some [.nilfn] := by kernel_rfl
theorem isB1 : isB Tryd.prog 1 = false := by kernel_rfl
theorem isS1 : isS Tryd.prog 1 = false := by kernel_rfl
theorem isU8s1 : isU8s Tryd.prog 1 = false := by kernel_rfl
theorem hasU1 : hasU Tryd.prog 1 = true := by kernel_rfl
theorem tk2 : tk Tryd.prog 2 = some (false, 1) := by kernel_rfl
theorem tz2 : tz Tryd.prog 2 = some [(.int .i64 0)] := by kernel_rfl
theorem ik2 : ik Tryd.prog 2 = some .i64 := by kernel_rfl
theorem isB2 : isB Tryd.prog 2 = false := by kernel_rfl
theorem isS2 : isS Tryd.prog 2 = false := by kernel_rfl
theorem isU8s2 : isU8s Tryd.prog 2 = false := by kernel_rfl
theorem hasU2 : hasU Tryd.prog 2 = true := by kernel_rfl
theorem tk3 : tk Tryd.prog 3 = some (false, 1) := by kernel_rfl
theorem tz3 : tz Tryd.prog 3 = some [(.int .i64 0)] := by kernel_rfl
theorem ik3 : ik Tryd.prog 3 = some .i64 := by kernel_rfl
theorem isB3 : isB Tryd.prog 3 = false := by kernel_rfl
theorem isS3 : isS Tryd.prog 3 = false := by kernel_rfl
theorem isU8s3 : isU8s Tryd.prog 3 = false := by kernel_rfl
theorem hasU3 : hasU Tryd.prog 3 = true := by kernel_rfl
theorem tk4 : tk Tryd.prog 4 = some (false, 1) := by kernel_rfl
theorem tz4 : tz Tryd.prog 4 = some [(.bool false)] := by kernel_rfl
theorem isB4 : isB Tryd.prog 4 = true := by kernel_rfl
theorem isS4 : isS Tryd.prog 4 = false := by kernel_rfl
theorem isU8s4 : isU8s Tryd.prog 4 = false := by kernel_rfl
theorem hasU4 : hasU Tryd.prog 4 = true := by kernel_rfl
theorem tk5 : tk Tryd.prog 5 = some (false, 1) := by kernel_rfl
theorem tz5 : tz Tryd.prog 5 = some [(.int .u8 0)] := by kernel_rfl
theorem ik5 : ik Tryd.prog 5 = some .u8 := by kernel_rfl
theorem isB5 : isB Tryd.prog 5 = false := by kernel_rfl
theorem isS5 : isS Tryd.prog 5 = false := by kernel_rfl
theorem isU8s5 : isU8s Tryd.prog 5 = false := by kernel_rfl
theorem hasU5 : hasU Tryd.prog 5 = true := by kernel_rfl
theorem tk6 : tk Tryd.prog 6 = some (false, 1) := by kernel_rfl
theorem tz6 : tz Tryd.prog 6 = some [(.int .u8 0)] := by kernel_rfl
theorem ik6 : ik Tryd.prog 6 = some .u8 := by kernel_rfl
theorem isB6 : isB Tryd.prog 6 = false := by kernel_rfl
theorem isS6 : isS Tryd.prog 6 = false := by kernel_rfl
theorem isU8s6 : isU8s Tryd.prog 6 = false := by kernel_rfl
theorem hasU6 : hasU Tryd.prog 6 = true := by kernel_rfl
theorem tk7 : tk Tryd.prog 7 = some (true, 4) := by kernel_rfl
theorem tz7 : tz Tryd.prog 7 = some [(.int .i64 0), (.int .i64 0), (.bool false), (.int .u8 0)] := by kernel_rfl
theorem fps7 : fps Tryd.prog 7 = some [(0, 1), (1, 1), (2, 1), (3, 1)] := by kernel_rfl
theorem isB7 : isB Tryd.prog 7 = false := by kernel_rfl
theorem isS7 : isS Tryd.prog 7 = false := by kernel_rfl
theorem isU8s7 : isU8s Tryd.prog 7 = false := by kernel_rfl
theorem hasU7 : hasU Tryd.prog 7 = true := by kernel_rfl
theorem fo7_0 : fo Tryd.prog 7 0 = some 0 := by kernel_rfl
theorem fo7_1 : fo Tryd.prog 7 1 = some 1 := by kernel_rfl
theorem fo7_2 : fo Tryd.prog 7 2 = some 2 := by kernel_rfl
theorem fo7_3 : fo Tryd.prog 7 3 = some 3 := by kernel_rfl
theorem tk8 : tk Tryd.prog 8 = some (true, 4) := by kernel_rfl
theorem tz8 : tz Tryd.prog 8 = some [(.int .i64 0), (.int .i64 0), (.bool false), (.int .u8 0)] := by kernel_rfl
theorem fps8 : fps Tryd.prog 8 = some [(0, 1), (1, 1), (2, 1), (3, 1)] := by kernel_rfl
theorem isB8 : isB Tryd.prog 8 = false := by kernel_rfl
theorem isS8 : isS Tryd.prog 8 = false := by kernel_rfl
theorem isU8s8 : isU8s Tryd.prog 8 = false := by kernel_rfl
theorem hasU8 : hasU Tryd.prog 8 = true := by kernel_rfl
theorem fo8_0 : fo Tryd.prog 8 0 = some 0 := by kernel_rfl
theorem fo8_1 : fo Tryd.prog 8 1 = some 1 := by kernel_rfl
theorem fo8_2 : fo Tryd.prog 8 2 = some 2 := by kernel_rfl
theorem fo8_3 : fo Tryd.prog 8 3 = some 3 := by kernel_rfl
theorem tk9 : tk Tryd.prog 9 = some (false, 1) := by kernel_rfl
theorem tz9 : tz Tryd.prog 9 = some [(.str (ByteArray.mk #[]))] := by kernel_rfl
theorem ik9 : ik Tryd.prog 9 = none := by kernel_rfl
theorem isB9 : isB Tryd.prog 9 = false := by kernel_rfl
theorem isS9 : isS Tryd.prog 9 = true := by kernel_rfl
theorem isU8s9 : isU8s Tryd.prog 9 = false := by kernel_rfl
theorem hasU9 : hasU Tryd.prog 9 = true := by kernel_rfl
theorem tk10 : tk Tryd.prog 10 = some (false, 1) := by kernel_rfl
theorem tz10 : tz Tryd.prog 10 = some [(.str (ByteArray.mk #[]))] := by kernel_rfl
theorem ik10 : ik Tryd.prog 10 = none := by kernel_rfl
theorem isB10 : isB Tryd.prog 10 = false := by kernel_rfl
theorem isS10 : isS Tryd.prog 10 = true := by kernel_rfl
theorem isU8s10 : isU8s Tryd.prog 10 = false := by kernel_rfl
theorem hasU10 : hasU Tryd.prog 10 = true := by kernel_rfl
theorem tk11 : tk Tryd.prog 11 = some (false, 1) := by kernel_rfl
theorem tz11 : tz Tryd.prog 11 = some [(.str (ByteArray.mk #[]))] := by kernel_rfl
theorem ik11 : ik Tryd.prog 11 = none := by kernel_rfl
theorem isB11 : isB Tryd.prog 11 = false := by kernel_rfl
theorem isS11 : isS Tryd.prog 11 = true := by kernel_rfl
theorem isU8s11 : isU8s Tryd.prog 11 = false := by kernel_rfl
theorem hasU11 : hasU Tryd.prog 11 = true := by kernel_rfl
theorem tk12 : tk Tryd.prog 12 = some (false, 1) := by kernel_rfl
theorem tz12 : tz Tryd.prog 12 = some [(.int .u64 0)] := by kernel_rfl
theorem ik12 : ik Tryd.prog 12 = some .u64 := by kernel_rfl
theorem isB12 : isB Tryd.prog 12 = false := by kernel_rfl
theorem isS12 : isS Tryd.prog 12 = false := by kernel_rfl
theorem isU8s12 : isU8s Tryd.prog 12 = false := by kernel_rfl
theorem hasU12 : hasU Tryd.prog 12 = true := by kernel_rfl
theorem tk13 : tk Tryd.prog 13 = some (true, 2) := by kernel_rfl
theorem tz13 : tz Tryd.prog 13 = some [(.str (ByteArray.mk #[])), (.int .u64 0)] := by kernel_rfl
theorem fps13 : fps Tryd.prog 13 = some [(0, 1), (1, 1)] := by kernel_rfl
theorem isB13 : isB Tryd.prog 13 = false := by kernel_rfl
theorem isS13 : isS Tryd.prog 13 = false := by kernel_rfl
theorem isU8s13 : isU8s Tryd.prog 13 = false := by kernel_rfl
theorem hasU13 : hasU Tryd.prog 13 = true := by kernel_rfl
theorem fo13_0 : fo Tryd.prog 13 0 = some 0 := by kernel_rfl
theorem fo13_1 : fo Tryd.prog 13 1 = some 1 := by kernel_rfl
theorem tk14 : tk Tryd.prog 14 = some (true, 2) := by kernel_rfl
theorem tz14 : tz Tryd.prog 14 = some [(.str (ByteArray.mk #[])), (.int .u64 0)] := by kernel_rfl
theorem fps14 : fps Tryd.prog 14 = some [(0, 1), (1, 1)] := by kernel_rfl
theorem isB14 : isB Tryd.prog 14 = false := by kernel_rfl
theorem isS14 : isS Tryd.prog 14 = false := by kernel_rfl
theorem isU8s14 : isU8s Tryd.prog 14 = false := by kernel_rfl
theorem hasU14 : hasU Tryd.prog 14 = true := by kernel_rfl
theorem fo14_0 : fo Tryd.prog 14 0 = some 0 := by kernel_rfl
theorem fo14_1 : fo Tryd.prog 14 1 = some 1 := by kernel_rfl
theorem tk15 : tk Tryd.prog 15 = some (false, 1) := by kernel_rfl
theorem tz15 : tz Tryd.prog 15 = some [.nilp] := by kernel_rfl
theorem isB15 : isB Tryd.prog 15 = false := by kernel_rfl
theorem isS15 : isS Tryd.prog 15 = false := by kernel_rfl
theorem isU8s15 : isU8s Tryd.prog 15 = false := by kernel_rfl
theorem hasU15 : hasU Tryd.prog 15 = true := by kernel_rfl
theorem tk16 : tk Tryd.prog 16 = some (false, 1) := by kernel_rfl
theorem tz16 : tz Tryd.prog 16 = some [.nilp] := by kernel_rfl
theorem isB16 : isB Tryd.prog 16 = false := by kernel_rfl
theorem isS16 : isS Tryd.prog 16 = false := by kernel_rfl
theorem isU8s16 : isU8s Tryd.prog 16 = false := by kernel_rfl
theorem hasU16 : hasU Tryd.prog 16 = true := by kernel_rfl
theorem tk17 : tk Tryd.prog 17 = some (false, 1) := by kernel_rfl
theorem tz17 : tz Tryd.prog 17 = some [.nilp] := by kernel_rfl
theorem isB17 : isB Tryd.prog 17 = false := by kernel_rfl
theorem isS17 : isS Tryd.prog 17 = false := by kernel_rfl
theorem isU8s17 : isU8s Tryd.prog 17 = false := by kernel_rfl
theorem hasU17 : hasU Tryd.prog 17 = true := by kernel_rfl
theorem tk18 : tk Tryd.prog 18 = some (true, 1) := by kernel_rfl
theorem tz18 : tz Tryd.prog 18 = some [.nilp] := by kernel_rfl
theorem fps18 : fps Tryd.prog 18 = some [(0, 1)] := by kernel_rfl
theorem isB18 : isB Tryd.prog 18 = false := by kernel_rfl
theorem isS18 : isS Tryd.prog 18 = false := by kernel_rfl
theorem isU8s18 : isU8s Tryd.prog 18 = false := by kernel_rfl
theorem hasU18 : hasU Tryd.prog 18 = true := by kernel_rfl
theorem fo18_0 : fo Tryd.prog 18 0 = some 0 := by kernel_rfl
theorem tk19 : tk Tryd.prog 19 = some (true, 1) := by kernel_rfl
theorem tz19 : tz Tryd.prog 19 = some [.nilp] := by kernel_rfl
theorem fps19 : fps Tryd.prog 19 = some [(0, 1)] := by kernel_rfl
theorem isB19 : isB Tryd.prog 19 = false := by kernel_rfl
theorem isS19 : isS Tryd.prog 19 = false := by kernel_rfl
theorem isU8s19 : isU8s Tryd.prog 19 = false := by kernel_rfl
theorem hasU19 : hasU Tryd.prog 19 = true := by kernel_rfl
theorem fo19_0 : fo Tryd.prog 19 0 = some 0 := by kernel_rfl
theorem tk20 : tk Tryd.prog 20 = some (false, 1) := by kernel_rfl
theorem tz20 : tz Tryd.prog 20 = some [(.opq .nilIface)] := by kernel_rfl
theorem isB20 : isB Tryd.prog 20 = false := by kernel_rfl
theorem isS20 : isS Tryd.prog 20 = false := by kernel_rfl
theorem isU8s20 : isU8s Tryd.prog 20 = false := by kernel_rfl
theorem hasU20 : hasU Tryd.prog 20 = true := by kernel_rfl
theorem tk21 : tk Tryd.prog 21 = some (false, 1) := by kernel_rfl
theorem tz21 : tz Tryd.prog 21 = some [(.int .i32 0)] := by kernel_rfl
theorem ik21 : ik Tryd.prog 21 = some .i32 := by kernel_rfl
theorem isB21 : isB Tryd.prog 21 = false := by kernel_rfl
theorem isS21 : isS Tryd.prog 21 = false := by kernel_rfl
theorem isU8s21 : isU8s Tryd.prog 21 = false := by kernel_rfl
theorem hasU21 : hasU Tryd.prog 21 = true := by kernel_rfl
theorem tk22 : tk Tryd.prog 22 = some (false, 1) := by kernel_rfl
theorem se22 : se Tryd.prog 22 = some (3, (1, 8)) := by kernel_rfl
theorem tz22 : tz Tryd.prog 22 = some [.nilsl] := by kernel_rfl
theorem isB22 : isB Tryd.prog 22 = false := by kernel_rfl
theorem isS22 : isS Tryd.prog 22 = false := by kernel_rfl
theorem isU8s22 : isU8s Tryd.prog 22 = false := by kernel_rfl
theorem hasU22 : hasU Tryd.prog 22 = true := by kernel_rfl
theorem tk23 : tk Tryd.prog 23 = some (false, 1) := by kernel_rfl
theorem se23 : se Tryd.prog 23 = some (25, (5, 80)) := by kernel_rfl
theorem tz23 : tz Tryd.prog 23 = some [.nilsl] := by kernel_rfl
theorem isB23 : isB Tryd.prog 23 = false := by kernel_rfl
theorem isS23 : isS Tryd.prog 23 = false := by kernel_rfl
theorem isU8s23 : isU8s Tryd.prog 23 = false := by kernel_rfl
theorem hasU23 : hasU Tryd.prog 23 = true := by kernel_rfl
theorem tk24 : tk Tryd.prog 24 = some (true, 5) := by kernel_rfl
theorem tz24 : tz Tryd.prog 24 = some [(.int .i64 0), (.str (ByteArray.mk #[])), (.int .i64 0), .nilsl, .nilsl] := by kernel_rfl
theorem fps24 : fps Tryd.prog 24 = some [(0, 1), (1, 1), (2, 1), (3, 1), (4, 1)] := by kernel_rfl
theorem isB24 : isB Tryd.prog 24 = false := by kernel_rfl
theorem isS24 : isS Tryd.prog 24 = false := by kernel_rfl
theorem isU8s24 : isU8s Tryd.prog 24 = false := by kernel_rfl
theorem hasU24 : hasU Tryd.prog 24 = true := by kernel_rfl
theorem fo24_0 : fo Tryd.prog 24 0 = some 0 := by kernel_rfl
theorem fo24_1 : fo Tryd.prog 24 1 = some 1 := by kernel_rfl
theorem fo24_2 : fo Tryd.prog 24 2 = some 2 := by kernel_rfl
theorem fo24_3 : fo Tryd.prog 24 3 = some 3 := by kernel_rfl
theorem fo24_4 : fo Tryd.prog 24 4 = some 4 := by kernel_rfl
theorem tk25 : tk Tryd.prog 25 = some (true, 5) := by kernel_rfl
theorem tz25 : tz Tryd.prog 25 = some [(.int .i64 0), (.str (ByteArray.mk #[])), (.int .i64 0), .nilsl, .nilsl] := by kernel_rfl
theorem fps25 : fps Tryd.prog 25 = some [(0, 1), (1, 1), (2, 1), (3, 1), (4, 1)] := by kernel_rfl
theorem isB25 : isB Tryd.prog 25 = false := by kernel_rfl
theorem isS25 : isS Tryd.prog 25 = false := by kernel_rfl
theorem isU8s25 : isU8s Tryd.prog 25 = false := by kernel_rfl
theorem hasU25 : hasU Tryd.prog 25 = true := by kernel_rfl
theorem fo25_0 : fo Tryd.prog 25 0 = some 0 := by kernel_rfl
theorem fo25_1 : fo Tryd.prog 25 1 = some 1 := by kernel_rfl
theorem fo25_2 : fo Tryd.prog 25 2 = some 2 := by kernel_rfl
theorem fo25_3 : fo Tryd.prog 25 3 = some 3 := by kernel_rfl
theorem fo25_4 : fo Tryd.prog 25 4 = some 4 := by kernel_rfl
theorem tk26 : tk Tryd.prog 26 = some (false, 1) := by kernel_rfl
theorem tz26 : tz Tryd.prog 26 = some [.nilfn] := by kernel_rfl
theorem isB26 : isB Tryd.prog 26 = false := by kernel_rfl
theorem isS26 : isS Tryd.prog 26 = false := by kernel_rfl
theorem isU8s26 : isU8s Tryd.prog 26 = false := by kernel_rfl
theorem hasU26 : hasU Tryd.prog 26 = true := by kernel_rfl
theorem tk27 : tk Tryd.prog 27 = some (false, 1) := by kernel_rfl
theorem tz27 : tz Tryd.prog 27 = some [.nilfn] := by kernel_rfl
theorem isB27 : isB Tryd.prog 27 = false := by kernel_rfl
theorem isS27 : isS Tryd.prog 27 = false := by kernel_rfl
theorem isU8s27 : isU8s Tryd.prog 27 = false := by kernel_rfl
theorem hasU27 : hasU Tryd.prog 27 = true := by kernel_rfl
theorem tk28 : tk Tryd.prog 28 = some (false, 1) := by kernel_rfl
theorem se28 : se Tryd.prog 28 = some (30, (5, 80)) := by kernel_rfl
theorem tz28 : tz Tryd.prog 28 = some [.nilsl] := by kernel_rfl
theorem isB28 : isB Tryd.prog 28 = false := by kernel_rfl
theorem isS28 : isS Tryd.prog 28 = false := by kernel_rfl
theorem isU8s28 : isU8s Tryd.prog 28 = false := by kernel_rfl
theorem hasU28 : hasU Tryd.prog 28 = true := by kernel_rfl
theorem tk29 : tk Tryd.prog 29 = some (true, 5) := by kernel_rfl
theorem tz29 : tz Tryd.prog 29 = some [(.int .i64 0), (.str (ByteArray.mk #[])), (.int .i64 0), .nilsl, .nilsl] := by kernel_rfl
theorem fps29 : fps Tryd.prog 29 = some [(0, 1), (1, 1), (2, 1), (3, 1), (4, 1)] := by kernel_rfl
theorem isB29 : isB Tryd.prog 29 = false := by kernel_rfl
theorem isS29 : isS Tryd.prog 29 = false := by kernel_rfl
theorem isU8s29 : isU8s Tryd.prog 29 = false := by kernel_rfl
theorem hasU29 : hasU Tryd.prog 29 = true := by kernel_rfl
theorem fo29_0 : fo Tryd.prog 29 0 = some 0 := by kernel_rfl
theorem fo29_1 : fo Tryd.prog 29 1 = some 1 := by kernel_rfl
theorem fo29_2 : fo Tryd.prog 29 2 = some 2 := by kernel_rfl
theorem fo29_3 : fo Tryd.prog 29 3 = some 3 := by kernel_rfl
theorem fo29_4 : fo Tryd.prog 29 4 = some 4 := by kernel_rfl
theorem tk30 : tk Tryd.prog 30 = some (true, 5) := by kernel_rfl
theorem tz30 : tz Tryd.prog 30 = some [(.int .i64 0), (.str (ByteArray.mk #[])), (.int .i64 0), .nilsl, .nilsl] := by kernel_rfl
theorem fps30 : fps Tryd.prog 30 = some [(0, 1), (1, 1), (2, 1), (3, 1), (4, 1)] := by kernel_rfl
theorem isB30 : isB Tryd.prog 30 = false := by kernel_rfl
theorem isS30 : isS Tryd.prog 30 = false := by kernel_rfl
theorem isU8s30 : isU8s Tryd.prog 30 = false := by kernel_rfl
theorem hasU30 : hasU Tryd.prog 30 = true := by kernel_rfl
theorem fo30_0 : fo Tryd.prog 30 0 = some 0 := by kernel_rfl
theorem fo30_1 : fo Tryd.prog 30 1 = some 1 := by kernel_rfl
theorem fo30_2 : fo Tryd.prog 30 2 = some 2 := by kernel_rfl
theorem fo30_3 : fo Tryd.prog 30 3 = some 3 := by kernel_rfl
theorem fo30_4 : fo Tryd.prog 30 4 = some 4 := by kernel_rfl
theorem tk31 : tk Tryd.prog 31 = some (false, 1) := by kernel_rfl
theorem tz31 : tz Tryd.prog 31 = some [.nilfn] := by kernel_rfl
theorem isB31 : isB Tryd.prog 31 = false := by kernel_rfl
theorem isS31 : isS Tryd.prog 31 = false := by kernel_rfl
theorem isU8s31 : isU8s Tryd.prog 31 = false := by kernel_rfl
theorem hasU31 : hasU Tryd.prog 31 = true := by kernel_rfl
theorem tk32 : tk Tryd.prog 32 = some (false, 1) := by kernel_rfl
theorem tz32 : tz Tryd.prog 32 = some [.nilfn] := by kernel_rfl
theorem isB32 : isB Tryd.prog 32 = false := by kernel_rfl
theorem isS32 : isS Tryd.prog 32 = false := by kernel_rfl
theorem isU8s32 : isU8s Tryd.prog 32 = false := by kernel_rfl
theorem hasU32 : hasU Tryd.prog 32 = true := by kernel_rfl
theorem tk33 : tk Tryd.prog 33 = some (false, 1) := by kernel_rfl
theorem tz33 : tz Tryd.prog 33 = some [.nilfn] := by kernel_rfl
theorem isB33 : isB Tryd.prog 33 = false := by kernel_rfl
theorem isS33 : isS Tryd.prog 33 = false := by kernel_rfl
theorem isU8s33 : isU8s Tryd.prog 33 = false := by kernel_rfl
theorem hasU33 : hasU Tryd.prog 33 = true := by kernel_rfl
theorem tk34 : tk Tryd.prog 34 = some (false, 1) := by kernel_rfl
theorem se34 : se Tryd.prog 34 = some (40, (16, 248)) := by kernel_rfl
theorem tz34 : tz Tryd.prog 34 = some [.nilsl] := by kernel_rfl
theorem isB34 : isB Tryd.prog 34 = false := by kernel_rfl
theorem isS34 : isS Tryd.prog 34 = false := by kernel_rfl
theorem isU8s34 : isU8s Tryd.prog 34 = false := by kernel_rfl
theorem hasU34 : hasU Tryd.prog 34 = true := by kernel_rfl
theorem tk35 : tk Tryd.prog 35 = some (false, 1) := by kernel_rfl
theorem se35 : se Tryd.prog 35 = some (37, (11, 168)) := by kernel_rfl
theorem tz35 : tz Tryd.prog 35 = some [.nilsl] := by kernel_rfl
theorem isB35 : isB Tryd.prog 35 = false := by kernel_rfl
theorem isS35 : isS Tryd.prog 35 = false := by kernel_rfl
theorem isU8s35 : isU8s Tryd.prog 35 = false := by kernel_rfl
theorem hasU35 : hasU Tryd.prog 35 = true := by kernel_rfl
theorem tk36 : tk Tryd.prog 36 = some (true, 11) := by kernel_rfl
theorem tz36 : tz Tryd.prog 36 = some [(.int .i64 0), (.int .i64 0), (.str (ByteArray.mk #[])), (.int .i64 0), .nilsl, (.int .i64 0), (.str (ByteArray.mk #[])), (.int .i64 0), .nilsl, .nilsl, .nilsl] := by kernel_rfl
theorem fps36 : fps Tryd.prog 36 = some [(0, 1), (1, 1), (2, 1), (3, 1), (4, 1), (5, 5), (10, 1)] := by kernel_rfl
theorem isB36 : isB Tryd.prog 36 = false := by kernel_rfl
theorem isS36 : isS Tryd.prog 36 = false := by kernel_rfl
theorem isU8s36 : isU8s Tryd.prog 36 = false := by kernel_rfl
theorem hasU36 : hasU Tryd.prog 36 = true := by kernel_rfl
theorem fo36_0 : fo Tryd.prog 36 0 = some 0 := by kernel_rfl
theorem fo36_1 : fo Tryd.prog 36 1 = some 1 := by kernel_rfl
theorem fo36_2 : fo Tryd.prog 36 2 = some 2 := by kernel_rfl
theorem fo36_3 : fo Tryd.prog 36 3 = some 3 := by kernel_rfl
theorem fo36_4 : fo Tryd.prog 36 4 = some 4 := by kernel_rfl
theorem fo36_5 : fo Tryd.prog 36 5 = some 5 := by kernel_rfl
theorem fo36_6 : fo Tryd.prog 36 6 = some 10 := by kernel_rfl
theorem tk37 : tk Tryd.prog 37 = some (true, 11) := by kernel_rfl
theorem tz37 : tz Tryd.prog 37 = some [(.int .i64 0), (.int .i64 0), (.str (ByteArray.mk #[])), (.int .i64 0), .nilsl, (.int .i64 0), (.str (ByteArray.mk #[])), (.int .i64 0), .nilsl, .nilsl, .nilsl] := by kernel_rfl
theorem fps37 : fps Tryd.prog 37 = some [(0, 1), (1, 1), (2, 1), (3, 1), (4, 1), (5, 5), (10, 1)] := by kernel_rfl
theorem isB37 : isB Tryd.prog 37 = false := by kernel_rfl
theorem isS37 : isS Tryd.prog 37 = false := by kernel_rfl
theorem isU8s37 : isU8s Tryd.prog 37 = false := by kernel_rfl
theorem hasU37 : hasU Tryd.prog 37 = true := by kernel_rfl
theorem fo37_0 : fo Tryd.prog 37 0 = some 0 := by kernel_rfl
theorem fo37_1 : fo Tryd.prog 37 1 = some 1 := by kernel_rfl
theorem fo37_2 : fo Tryd.prog 37 2 = some 2 := by kernel_rfl
theorem fo37_3 : fo Tryd.prog 37 3 = some 3 := by kernel_rfl
theorem fo37_4 : fo Tryd.prog 37 4 = some 4 := by kernel_rfl
theorem fo37_5 : fo Tryd.prog 37 5 = some 5 := by kernel_rfl
theorem fo37_6 : fo Tryd.prog 37 6 = some 10 := by kernel_rfl
theorem tk38 : tk Tryd.prog 38 = some (false, 1) := by kernel_rfl
theorem se38 : se Tryd.prog 38 = some (113, (17, 256)) := by kernel_rfl
theorem tz38 : tz Tryd.prog 38 = some [.nilsl] := by kernel_rfl
theorem isB38 : isB Tryd.prog 38 = false := by kernel_rfl
theorem isS38 : isS Tryd.prog 38 = false := by kernel_rfl
theorem isU8s38 : isU8s Tryd.prog 38 = false := by kernel_rfl
theorem hasU38 : hasU Tryd.prog 38 = true := by kernel_rfl
theorem tk39 : tk Tryd.prog 39 = some (true, 16) := by kernel_rfl
theorem tz39 : tz Tryd.prog 39 = some [(.int .i64 0), (.int .i64 0), (.str (ByteArray.mk #[])), .nilsl, (.int .i64 0), (.int .i64 0), (.str (ByteArray.mk #[])), (.int .i64 0), .nilsl, (.int .i64 0), (.str (ByteArray.mk #[])), (.int .i64 0), .nilsl, .nilsl, .nilsl, .nilsl] := by kernel_rfl
theorem fps39 : fps Tryd.prog 39 = some [(0, 1), (1, 1), (2, 1), (3, 1), (4, 11), (15, 1)] := by kernel_rfl
theorem isB39 : isB Tryd.prog 39 = false := by kernel_rfl
theorem isS39 : isS Tryd.prog 39 = false := by kernel_rfl
theorem isU8s39 : isU8s Tryd.prog 39 = false := by kernel_rfl
theorem hasU39 : hasU Tryd.prog 39 = true := by kernel_rfl
theorem fo39_0 : fo Tryd.prog 39 0 = some 0 := by kernel_rfl
theorem fo39_1 : fo Tryd.prog 39 1 = some 1 := by kernel_rfl
theorem fo39_2 : fo Tryd.prog 39 2 = some 2 := by kernel_rfl
theorem fo39_3 : fo Tryd.prog 39 3 = some 3 := by kernel_rfl
theorem fo39_4 : fo Tryd.prog 39 4 = some 4 := by kernel_rfl
theorem fo39_5 : fo Tryd.prog 39 5 = some 15 := by kernel_rfl
theorem tk40 : tk Tryd.prog 40 = some (true, 16) := by kernel_rfl
theorem tz40 : tz Tryd.prog 40 = some [(.int .i64 0), (.int .i64 0), (.str (ByteArray.mk #[])), .nilsl, (.int .i64 0), (.int .i64 0), (.str (ByteArray.mk #[])), (.int .i64 0), .nilsl, (.int .i64 0), (.str (ByteArray.mk #[])), (.int .i64 0), .nilsl, .nilsl, .nilsl, .nilsl] := by kernel_rfl
theorem fps40 : fps Tryd.prog 40 = some [(0, 1), (1, 1), (2, 1), (3, 1), (4, 11), (15, 1)] := by kernel_rfl
theorem isB40 : isB Tryd.prog 40 = false := by kernel_rfl
theorem isS40 : isS Tryd.prog 40 = false := by kernel_rfl
theorem isU8s40 : isU8s Tryd.prog 40 = false := by kernel_rfl
theorem hasU40 : hasU Tryd.prog 40 = true := by kernel_rfl
theorem fo40_0 : fo Tryd.prog 40 0 = some 0 := by kernel_rfl
theorem fo40_1 : fo Tryd.prog 40 1 = some 1 := by kernel_rfl
theorem fo40_2 : fo Tryd.prog 40 2 = some 2 := by kernel_rfl
theorem fo40_3 : fo Tryd.prog 40 3 = some 3 := by kernel_rfl
theorem fo40_4 : fo Tryd.prog 40 4 = some 4 := by kernel_rfl
theorem fo40_5 : fo Tryd.prog 40 5 = some 15 := by kernel_rfl
theorem tk41 : tk Tryd.prog 41 = some (false, 1) := by kernel_rfl
theorem tz41 : tz Tryd.prog 41 = some [.nilfn] := by kernel_rfl
theorem isB41 : isB Tryd.prog 41 = false := by kernel_rfl
theorem isS41 : isS Tryd.prog 41 = false := by kernel_rfl
theorem isU8s41 : isU8s Tryd.prog 41 = false := by kernel_rfl
theorem hasU41 : hasU Tryd.prog 41 = true := by kernel_rfl
theorem tk42 : tk Tryd.prog 42 = some (false, 1) := by kernel_rfl
theorem tz42 : tz Tryd.prog 42 = some [.nilfn] := by kernel_rfl
theorem isB42 : isB Tryd.prog 42 = false := by kernel_rfl
theorem isS42 : isS Tryd.prog 42 = false := by kernel_rfl
theorem isU8s42 : isU8s Tryd.prog 42 = false := by kernel_rfl
theorem hasU42 : hasU Tryd.prog 42 = true := by kernel_rfl
theorem tk43 : tk Tryd.prog 43 = some (false, 1) := by kernel_rfl
theorem se43 : se Tryd.prog 43 = some (49, (16, 248)) := by kernel_rfl
theorem tz43 : tz Tryd.prog 43 = some [.nilsl] := by kernel_rfl
theorem isB43 : isB Tryd.prog 43 = false := by kernel_rfl
theorem isS43 : isS Tryd.prog 43 = false := by kernel_rfl
theorem isU8s43 : isU8s Tryd.prog 43 = false := by kernel_rfl
theorem hasU43 : hasU Tryd.prog 43 = true := by kernel_rfl
theorem tk44 : tk Tryd.prog 44 = some (false, 1) := by kernel_rfl
theorem se44 : se Tryd.prog 44 = some (46, (11, 168)) := by kernel_rfl
theorem tz44 : tz Tryd.prog 44 = some [.nilsl] := by kernel_rfl
theorem isB44 : isB Tryd.prog 44 = false := by kernel_rfl
theorem isS44 : isS Tryd.prog 44 = false := by kernel_rfl
theorem isU8s44 : isU8s Tryd.prog 44 = false := by kernel_rfl
theorem hasU44 : hasU Tryd.prog 44 = true := by kernel_rfl
theorem tk45 : tk Tryd.prog 45 = some (true, 11) := by kernel_rfl
theorem tz45 : tz Tryd.prog 45 = some [(.int .i64 0), (.int .i64 0), (.str (ByteArray.mk #[])), (.int .i64 0), .nilsl, (.int .i64 0), (.str (ByteArray.mk #[])), (.int .i64 0), .nilsl, .nilsl, .nilsl] := by kernel_rfl
theorem fps45 : fps Tryd.prog 45 = some [(0, 1), (1, 1), (2, 1), (3, 1), (4, 1), (5, 5), (10, 1)] := by kernel_rfl
theorem isB45 : isB Tryd.prog 45 = false := by kernel_rfl
theorem isS45 : isS Tryd.prog 45 = false := by kernel_rfl
theorem isU8s45 : isU8s Tryd.prog 45 = false := by kernel_rfl
theorem hasU45 : hasU Tryd.prog 45 = true := by kernel_rfl
theorem fo45_0 : fo Tryd.prog 45 0 = some 0 := by kernel_rfl
theorem fo45_1 : fo Tryd.prog 45 1 = some 1 := by kernel_rfl
theorem fo45_2 : fo Tryd.prog 45 2 = some 2 := by kernel_rfl
theorem fo45_3 : fo Tryd.prog 45 3 = some 3 := by kernel_rfl
theorem fo45_4 : fo Tryd.prog 45 4 = some 4 := by kernel_rfl
theorem fo45_5 : fo Tryd.prog 45 5 = some 5 := by kernel_rfl
theorem fo45_6 : fo Tryd.prog 45 6 = some 10 := by kernel_rfl
theorem tk46 : tk Tryd.prog 46 = some (true, 11) := by kernel_rfl
theorem tz46 : tz Tryd.prog 46 = some [(.int .i64 0), (.int .i64 0), (.str (ByteArray.mk #[])), (.int .i64 0), .nilsl, (.int .i64 0), (.str (ByteArray.mk #[])), (.int .i64 0), .nilsl, .nilsl, .nilsl] := by kernel_rfl
theorem fps46 : fps Tryd.prog 46 = some [(0, 1), (1, 1), (2, 1), (3, 1), (4, 1), (5, 5), (10, 1)] := by kernel_rfl
theorem isB46 : isB Tryd.prog 46 = false := by kernel_rfl
theorem isS46 : isS Tryd.prog 46 = false := by kernel_rfl
theorem isU8s46 : isU8s Tryd.prog 46 = false := by kernel_rfl
theorem hasU46 : hasU Tryd.prog 46 = true := by kernel_rfl
theorem fo46_0 : fo Tryd.prog 46 0 = some 0 := by kernel_rfl
theorem fo46_1 : fo Tryd.prog 46 1 = some 1 := by kernel_rfl
theorem fo46_2 : fo Tryd.prog 46 2 = some 2 := by kernel_rfl
theorem fo46_3 : fo Tryd.prog 46 3 = some 3 := by kernel_rfl
theorem fo46_4 : fo Tryd.prog 46 4 = some 4 := by kernel_rfl
theorem fo46_5 : fo Tryd.prog 46 5 = some 5 := by kernel_rfl
theorem fo46_6 : fo Tryd.prog 46 6 = some 10 := by kernel_rfl
theorem tk47 : tk Tryd.prog 47 = some (false, 1) := by kernel_rfl
theorem se47 : se Tryd.prog 47 = some (116, (17, 256)) := by kernel_rfl
theorem tz47 : tz Tryd.prog 47 = some [.nilsl] := by kernel_rfl
theorem isB47 : isB Tryd.prog 47 = false := by kernel_rfl
theorem isS47 : isS Tryd.prog 47 = false := by kernel_rfl
theorem isU8s47 : isU8s Tryd.prog 47 = false := by kernel_rfl
theorem hasU47 : hasU Tryd.prog 47 = true := by kernel_rfl
theorem tk48 : tk Tryd.prog 48 = some (true, 16) := by kernel_rfl
theorem tz48 : tz Tryd.prog 48 = some [(.int .i64 0), (.int .i64 0), (.str (ByteArray.mk #[])), .nilsl, (.int .i64 0), (.int .i64 0), (.str (ByteArray.mk #[])), (.int .i64 0), .nilsl, (.int .i64 0), (.str (ByteArray.mk #[])), (.int .i64 0), .nilsl, .nilsl, .nilsl, .nilsl] := by kernel_rfl
theorem fps48 : fps Tryd.prog 48 = some [(0, 1), (1, 1), (2, 1), (3, 1), (4, 11), (15, 1)] := by kernel_rfl
theorem isB48 : isB Tryd.prog 48 = false := by kernel_rfl
theorem isS48 : isS Tryd.prog 48 = false := by kernel_rfl
theorem isU8s48 : isU8s Tryd.prog 48 = false := by kernel_rfl
theorem hasU48 : hasU Tryd.prog 48 = true := by kernel_rfl
theorem fo48_0 : fo Tryd.prog 48 0 = some 0 := by kernel_rfl
theorem fo48_1 : fo Tryd.prog 48 1 = some 1 := by kernel_rfl
theorem fo48_2 : fo Tryd.prog 48 2 = some 2 := by kernel_rfl
theorem fo48_3 : fo Tryd.prog 48 3 = some 3 := by kernel_rfl
theorem fo48_4 : fo Tryd.prog 48 4 = some 4 := by kernel_rfl
theorem fo48_5 : fo Tryd.prog 48 5 = some 15 := by kernel_rfl
theorem tk49 : tk Tryd.prog 49 = some (true, 16) := by kernel_rfl
theorem tz49 : tz Tryd.prog 49 = some [(.int .i64 0), (.int .i64 0), (.str (ByteArray.mk #[])), .nilsl, (.int .i64 0), (.int .i64 0), (.str (ByteArray.mk #[])), (.int .i64 0), .nilsl, (.int .i64 0), (.str (ByteArray.mk #[])), (.int .i64 0), .nilsl, .nilsl, .nilsl, .nilsl] := by kernel_rfl
theorem fps49 : fps Tryd.prog 49 = some [(0, 1), (1, 1), (2, 1), (3, 1), (4, 11), (15, 1)] := by kernel_rfl
theorem isB49 : isB Tryd.prog 49 = false := by kernel_rfl
theorem isS49 : isS Tryd.prog 49 = false := by kernel_rfl
theorem isU8s49 : isU8s Tryd.prog 49 = false := by kernel_rfl
theorem hasU49 : hasU Tryd.prog 49 = true := by kernel_rfl
theorem fo49_0 : fo Tryd.prog 49 0 = some 0 := by kernel_rfl
theorem fo49_1 : fo Tryd.prog 49 1 = some 1 := by kernel_rfl
theorem fo49_2 : fo Tryd.prog 49 2 = some 2 := by kernel_rfl
theorem fo49_3 : fo Tryd.prog 49 3 = some 3 := by kernel_rfl
theorem fo49_4 : fo Tryd.prog 49 4 = some 4 := by kernel_rfl
theorem fo49_5 : fo Tryd.prog 49 5 = some 15 := by kernel_rfl
theorem tk50 : tk Tryd.prog 50 = some (false, 1) := by kernel_rfl
theorem tz50 : tz Tryd.prog 50 = some [.nilfn] := by kernel_rfl
theorem isB50 : isB Tryd.prog 50 = false := by kernel_rfl
theorem isS50 : isS Tryd.prog 50 = false := by kernel_rfl
theorem isU8s50 : isU8s Tryd.prog 50 = false := by kernel_rfl
theorem hasU50 : hasU Tryd.prog 50 = true := by kernel_rfl
theorem tk51 : tk Tryd.prog 51 = some (false, 1) := by kernel_rfl
theorem tz51 : tz Tryd.prog 51 = some [.nilfn] := by kernel_rfl
theorem isB51 : isB Tryd.prog 51 = false := by kernel_rfl
theorem isS51 : isS Tryd.prog 51 = false := by kernel_rfl
theorem isU8s51 : isU8s Tryd.prog 51 = false := by kernel_rfl
theorem hasU51 : hasU Tryd.prog 51 = true := by kernel_rfl
theorem tk52 : tk Tryd.prog 52 = some (false, 1) := by kernel_rfl
theorem tz52 : tz Tryd.prog 52 = some [.nilfn] := by kernel_rfl
theorem isB52 : isB Tryd.prog 52 = false := by kernel_rfl
theorem isS52 : isS Tryd.prog 52 = false := by kernel_rfl
theorem isU8s52 : isU8s Tryd.prog 52 = false := by kernel_rfl
theorem hasU52 : hasU Tryd.prog 52 = true := by kernel_rfl
theorem tk53 : tk Tryd.prog 53 = some (false, 1) := by kernel_rfl
theorem se53 : se Tryd.prog 53 = some (89, (13, 184)) := by kernel_rfl
theorem tz53 : tz Tryd.prog 53 = some [.nilsl] := by kernel_rfl
theorem isB53 : isB Tryd.prog 53 = false := by kernel_rfl
theorem isS53 : isS Tryd.prog 53 = false := by kernel_rfl
theorem isU8s53 : isU8s Tryd.prog 53 = false := by kernel_rfl
theorem hasU53 : hasU Tryd.prog 53 = true := by kernel_rfl
theorem tk54 : tk Tryd.prog 54 = some (false, 1) := by kernel_rfl
theorem tz54 : tz Tryd.prog 54 = some [.nilfn] := by kernel_rfl
theorem isB54 : isB Tryd.prog 54 = false := by kernel_rfl
theorem isS54 : isS Tryd.prog 54 = false := by kernel_rfl
theorem isU8s54 : isU8s Tryd.prog 54 = false := by kernel_rfl
theorem hasU54 : hasU Tryd.prog 54 = true := by kernel_rfl
theorem tk55 : tk Tryd.prog 55 = some (false, 1) := by kernel_rfl
theorem tz55 : tz Tryd.prog 55 = some [.nilfn] := by kernel_rfl
theorem isB55 : isB Tryd.prog 55 = false := by kernel_rfl
theorem isS55 : isS Tryd.prog 55 = false := by kernel_rfl
theorem isU8s55 : isU8s Tryd.prog 55 = false := by kernel_rfl
theorem hasU55 : hasU Tryd.prog 55 = true := by kernel_rfl
theorem tk56 : tk Tryd.prog 56 = some (false, 1) := by kernel_rfl
theorem se56 : se Tryd.prog 56 = some (92, (13, 184)) := by kernel_rfl
theorem tz56 : tz Tryd.prog 56 = some [.nilsl] := by kernel_rfl
theorem isB56 : isB Tryd.prog 56 = false := by kernel_rfl
theorem isS56 : isS Tryd.prog 56 = false := by kernel_rfl
theorem isU8s56 : isU8s Tryd.prog 56 = false := by kernel_rfl
theorem hasU56 : hasU Tryd.prog 56 = true := by kernel_rfl
theorem tk57 : tk Tryd.prog 57 = some (false, 1) := by kernel_rfl
theorem tz57 : tz Tryd.prog 57 = some [.nilfn] := by kernel_rfl
theorem isB57 : isB Tryd.prog 57 = false := by kernel_rfl
theorem isS57 : isS Tryd.prog 57 = false := by kernel_rfl
theorem isU8s57 : isU8s Tryd.prog 57 = false := by kernel_rfl
theorem hasU57 : hasU Tryd.prog 57 = true := by kernel_rfl
theorem tk58 : tk Tryd.prog 58 = some (false, 1) := by kernel_rfl
theorem tz58 : tz Tryd.prog 58 = some [.nilfn] := by kernel_rfl
theorem isB58 : isB Tryd.prog 58 = false := by kernel_rfl
theorem isS58 : isS Tryd.prog 58 = false := by kernel_rfl
theorem isU8s58 : isU8s Tryd.prog 58 = false := by kernel_rfl
theorem hasU58 : hasU Tryd.prog 58 = true := by kernel_rfl
theorem tk59 : tk Tryd.prog 59 = some (false, 1) := by kernel_rfl
theorem tz59 : tz Tryd.prog 59 = some [.nilfn] := by kernel_rfl
theorem isB59 : isB Tryd.prog 59 = false := by kernel_rfl
theorem isS59 : isS Tryd.prog 59 = false := by kernel_rfl
theorem isU8s59 : isU8s Tryd.prog 59 = false := by kernel_rfl
theorem hasU59 : hasU Tryd.prog 59 = true := by kernel_rfl
theorem tk60 : tk Tryd.prog 60 = some (false, 1) := by kernel_rfl
theorem tz60 : tz Tryd.prog 60 = some [.nilfn] := by kernel_rfl
theorem isB60 : isB Tryd.prog 60 = false := by kernel_rfl
theorem isS60 : isS Tryd.prog 60 = false := by kernel_rfl
theorem isU8s60 : isU8s Tryd.prog 60 = false := by kernel_rfl
theorem hasU60 : hasU Tryd.prog 60 = true := by kernel_rfl
theorem tk61 : tk Tryd.prog 61 = some (false, 1) := by kernel_rfl
theorem se61 : se Tryd.prog 61 = some (5, (1, 1)) := by kernel_rfl
theorem tz61 : tz Tryd.prog 61 = some [.nilsl] := by kernel_rfl
theorem isB61 : isB Tryd.prog 61 = false := by kernel_rfl
theorem isS61 : isS Tryd.prog 61 = false := by kernel_rfl
theorem isU8s61 : isU8s Tryd.prog 61 = true := by kernel_rfl
theorem hasU61 : hasU Tryd.prog 61 = true := by kernel_rfl
theorem tk62 : tk Tryd.prog 62 = some (false, 1) := by kernel_rfl
theorem tz62 : tz Tryd.prog 62 = some [.nilfn] := by kernel_rfl
theorem isB62 : isB Tryd.prog 62 = false := by kernel_rfl
theorem isS62 : isS Tryd.prog 62 = false := by kernel_rfl
theorem isU8s62 : isU8s Tryd.prog 62 = false := by kernel_rfl
theorem hasU62 : hasU Tryd.prog 62 = true := by kernel_rfl
theorem tk63 : tk Tryd.prog 63 = some (false, 1) := by kernel_rfl
theorem tz63 : tz Tryd.prog 63 = some [.nilfn] := by kernel_rfl
theorem isB63 : isB Tryd.prog 63 = false := by kernel_rfl
theorem isS63 : isS Tryd.prog 63 = false := by kernel_rfl
theorem isU8s63 : isU8s Tryd.prog 63 = false := by kernel_rfl
theorem hasU63 : hasU Tryd.prog 63 = true := by kernel_rfl
theorem tk64 : tk Tryd.prog 64 = some (false, 1) := by kernel_rfl
theorem tz64 : tz Tryd.prog 64 = some [.nilfn] := by kernel_rfl
theorem isB64 : isB Tryd.prog 64 = false := by kernel_rfl
theorem isS64 : isS Tryd.prog 64 = false := by kernel_rfl
theorem isU8s64 : isU8s Tryd.prog 64 = false := by kernel_rfl
theorem hasU64 : hasU Tryd.prog 64 = true := by kernel_rfl
theorem tk65 : tk Tryd.prog 65 = some (false, 1) := by kernel_rfl
theorem tz65 : tz Tryd.prog 65 = some [.nilfn] := by kernel_rfl
theorem isB65 : isB Tryd.prog 65 = false := by kernel_rfl
theorem isS65 : isS Tryd.prog 65 = false := by kernel_rfl
theorem isU8s65 : isU8s Tryd.prog 65 = false := by kernel_rfl
theorem hasU65 : hasU Tryd.prog 65 = true := by kernel_rfl
theorem tk66 : tk Tryd.prog 66 = some (false, 1) := by kernel_rfl
theorem se66 : se Tryd.prog 66 = some (9, (1, 16)) := by kernel_rfl
theorem tz66 : tz Tryd.prog 66 = some [.nilsl] := by kernel_rfl
theorem isB66 : isB Tryd.prog 66 = false := by kernel_rfl
theorem isS66 : isS Tryd.prog 66 = false := by kernel_rfl
theorem isU8s66 : isU8s Tryd.prog 66 = false := by kernel_rfl
theorem hasU66 : hasU Tryd.prog 66 = true := by kernel_rfl
theorem tk67 : tk Tryd.prog 67 = some (false, 1) := by kernel_rfl
theorem tz67 : tz Tryd.prog 67 = some [.nilfn] := by kernel_rfl
theorem isB67 : isB Tryd.prog 67 = false := by kernel_rfl
theorem isS67 : isS Tryd.prog 67 = false := by kernel_rfl
theorem isU8s67 : isU8s Tryd.prog 67 = false := by kernel_rfl
theorem hasU67 : hasU Tryd.prog 67 = true := by kernel_rfl
theorem tk68 : tk Tryd.prog 68 = some (false, 1) := by kernel_rfl
theorem tz68 : tz Tryd.prog 68 = some [.nilfn] := by kernel_rfl
theorem isB68 : isB Tryd.prog 68 = false := by kernel_rfl
theorem isS68 : isS Tryd.prog 68 = false := by kernel_rfl
theorem isU8s68 : isU8s Tryd.prog 68 = false := by kernel_rfl
theorem hasU68 : hasU Tryd.prog 68 = true := by kernel_rfl
theorem tk69 : tk Tryd.prog 69 = some (false, 1) := by kernel_rfl
theorem tz69 : tz Tryd.prog 69 = some [.nilfn] := by kernel_rfl
theorem isB69 : isB Tryd.prog 69 = false := by kernel_rfl
theorem isS69 : isS Tryd.prog 69 = false := by kernel_rfl
theorem isU8s69 : isU8s Tryd.prog 69 = false := by kernel_rfl
theorem hasU69 : hasU Tryd.prog 69 = true := by kernel_rfl
theorem tk70 : tk Tryd.prog 70 = some (false, 1) := by kernel_rfl
theorem tz70 : tz Tryd.prog 70 = some [.nilfn] := by kernel_rfl
theorem isB70 : isB Tryd.prog 70 = false := by kernel_rfl
theorem isS70 : isS Tryd.prog 70 = false := by kernel_rfl
theorem isU8s70 : isU8s Tryd.prog 70 = false := by kernel_rfl
theorem hasU70 : hasU Tryd.prog 70 = true := by kernel_rfl
theorem tk71 : tk Tryd.prog 71 = some (false, 1) := by kernel_rfl
theorem tz71 : tz Tryd.prog 71 = some [.nilfn] := by kernel_rfl
theorem isB71 : isB Tryd.prog 71 = false := by kernel_rfl
theorem isS71 : isS Tryd.prog 71 = false := by kernel_rfl
theorem isU8s71 : isU8s Tryd.prog 71 = false := by kernel_rfl
theorem hasU71 : hasU Tryd.prog 71 = true := by kernel_rfl
theorem tk72 : tk Tryd.prog 72 = some (false, 1) := by kernel_rfl
theorem tz72 : tz Tryd.prog 72 = some [.nilfn] := by kernel_rfl
theorem isB72 : isB Tryd.prog 72 = false := by kernel_rfl
theorem isS72 : isS Tryd.prog 72 = false := by kernel_rfl
theorem isU8s72 : isU8s Tryd.prog 72 = false := by kernel_rfl
theorem hasU72 : hasU Tryd.prog 72 = true := by kernel_rfl
theorem tk73 : tk Tryd.prog 73 = some (false, 1) := by kernel_rfl
theorem tz73 : tz Tryd.prog 73 = some [.nilfn] := by kernel_rfl
theorem isB73 : isB Tryd.prog 73 = false := by kernel_rfl
theorem isS73 : isS Tryd.prog 73 = false := by kernel_rfl
theorem isU8s73 : isU8s Tryd.prog 73 = false := by kernel_rfl
theorem hasU73 : hasU Tryd.prog 73 = true := by kernel_rfl
theorem tk74 : tk Tryd.prog 74 = some (false, 1) := by kernel_rfl
theorem tz74 : tz Tryd.prog 74 = some [.nilfn] := by kernel_rfl
theorem isB74 : isB Tryd.prog 74 = false := by kernel_rfl
theorem isS74 : isS Tryd.prog 74 = false := by kernel_rfl
theorem isU8s74 : isU8s Tryd.prog 74 = false := by kernel_rfl
theorem hasU74 : hasU Tryd.prog 74 = true := by kernel_rfl
theorem tk75 : tk Tryd.prog 75 = some (false, 1) := by kernel_rfl
theorem tz75 : tz Tryd.prog 75 = some [.nilfn] := by kernel_rfl
theorem isB75 : isB Tryd.prog 75 = false := by kernel_rfl
theorem isS75 : isS Tryd.prog 75 = false := by kernel_rfl
theorem isU8s75 : isU8s Tryd.prog 75 = false := by kernel_rfl
theorem hasU75 : hasU Tryd.prog 75 = true := by kernel_rfl
theorem tk76 : tk Tryd.prog 76 = some (false, 1) := by kernel_rfl
theorem tz76 : tz Tryd.prog 76 = some [.nilfn] := by kernel_rfl
theorem isB76 : isB Tryd.prog 76 = false := by kernel_rfl
theorem isS76 : isS Tryd.prog 76 = false := by kernel_rfl
theorem isU8s76 : isU8s Tryd.prog 76 = false := by kernel_rfl
theorem hasU76 : hasU Tryd.prog 76 = true := by kernel_rfl
theorem tk77 : tk Tryd.prog 77 = some (false, 1) := by kernel_rfl
theorem tz77 : tz Tryd.prog 77 = some [.nilfn] := by kernel_rfl
theorem isB77 : isB Tryd.prog 77 = false := by kernel_rfl
theorem isS77 : isS Tryd.prog 77 = false := by kernel_rfl
theorem isU8s77 : isU8s Tryd.prog 77 = false := by kernel_rfl
theorem hasU77 : hasU Tryd.prog 77 = true := by kernel_rfl
theorem tk78 : tk Tryd.prog 78 = some (false, 1) := by kernel_rfl
theorem tz78 : tz Tryd.prog 78 = some [.nilfn] := by kernel_rfl
theorem isB78 : isB Tryd.prog 78 = false := by kernel_rfl
theorem isS78 : isS Tryd.prog 78 = false := by kernel_rfl
theorem isU8s78 : isU8s Tryd.prog 78 = false := by kernel_rfl
theorem hasU78 : hasU Tryd.prog 78 = true := by kernel_rfl
theorem tk79 : tk Tryd.prog 79 = some (false, 1) := by kernel_rfl
theorem tz79 : tz Tryd.prog 79 = some [.nilfn] := by kernel_rfl
theorem isB79 : isB Tryd.prog 79 = false := by kernel_rfl
theorem isS79 : isS Tryd.prog 79 = false := by kernel_rfl
theorem isU8s79 : isU8s Tryd.prog 79 = false := by kernel_rfl
theorem hasU79 : hasU Tryd.prog 79 = true := by kernel_rfl
theorem tk80 : tk Tryd.prog 80 = some (false, 1) := by kernel_rfl
theorem tz80 : tz Tryd.prog 80 = some [.nilfn] := by kernel_rfl
theorem isB80 : isB Tryd.prog 80 = false := by kernel_rfl
theorem isS80 : isS Tryd.prog 80 = false := by kernel_rfl
theorem isU8s80 : isU8s Tryd.prog 80 = false := by kernel_rfl
theorem hasU80 : hasU Tryd.prog 80 = true := by kernel_rfl
theorem tk81 : tk Tryd.prog 81 = some (false, 1) := by kernel_rfl
theorem tz81 : tz Tryd.prog 81 = some [.nilfn] := by kernel_rfl
theorem isB81 : isB Tryd.prog 81 = false := by kernel_rfl
theorem isS81 : isS Tryd.prog 81 = false := by kernel_rfl
theorem isU8s81 : isU8s Tryd.prog 81 = false := by kernel_rfl
theorem hasU81 : hasU Tryd.prog 81 = true := by kernel_rfl
theorem tk82 : tk Tryd.prog 82 = some (false, 1) := by kernel_rfl
theorem tz82 : tz Tryd.prog 82 = some [.nilfn] := by kernel_rfl
theorem isB82 : isB Tryd.prog 82 = false := by kernel_rfl
theorem isS82 : isS Tryd.prog 82 = false := by kernel_rfl
theorem isU8s82 : isU8s Tryd.prog 82 = false := by kernel_rfl
theorem hasU82 : hasU Tryd.prog 82 = true := by kernel_rfl
theorem tk83 : tk Tryd.prog 83 = some (false, 1) := by kernel_rfl
theorem tz83 : tz Tryd.prog 83 = some [.nilfn] := by kernel_rfl
theorem isB83 : isB Tryd.prog 83 = false := by kernel_rfl
theorem isS83 : isS Tryd.prog 83 = false := by kernel_rfl
theorem isU8s83 : isU8s Tryd.prog 83 = false := by kernel_rfl
theorem hasU83 : hasU Tryd.prog 83 = true := by kernel_rfl
theorem tk84 : tk Tryd.prog 84 = some (false, 1) := by kernel_rfl
theorem tz84 : tz Tryd.prog 84 = some [.nilfn] := by kernel_rfl
theorem isB84 : isB Tryd.prog 84 = false := by kernel_rfl
theorem isS84 : isS Tryd.prog 84 = false := by kernel_rfl
theorem isU8s84 : isU8s Tryd.prog 84 = false := by kernel_rfl
theorem hasU84 : hasU Tryd.prog 84 = true := by kernel_rfl
theorem tk85 : tk Tryd.prog 85 = some (false, 1) := by kernel_rfl
theorem tz85 : tz Tryd.prog 85 = some [.nilfn] := by kernel_rfl
theorem isB85 : isB Tryd.prog 85 = false := by kernel_rfl
theorem isS85 : isS Tryd.prog 85 = false := by kernel_rfl
theorem isU8s85 : isU8s Tryd.prog 85 = false := by kernel_rfl
theorem hasU85 : hasU Tryd.prog 85 = true := by kernel_rfl
theorem tk86 : tk Tryd.prog 86 = some (false, 1) := by kernel_rfl
theorem tz86 : tz Tryd.prog 86 = some [.nilfn] := by kernel_rfl
theorem isB86 : isB Tryd.prog 86 = false := by kernel_rfl
theorem isS86 : isS Tryd.prog 86 = false := by kernel_rfl
theorem isU8s86 : isU8s Tryd.prog 86 = false := by kernel_rfl
theorem hasU86 : hasU Tryd.prog 86 = true := by kernel_rfl
theorem tk87 : tk Tryd.prog 87 = some (false, 1) := by kernel_rfl
theorem tz87 : tz Tryd.prog 87 = some [.nilfn] := by kernel_rfl
theorem isB87 : isB Tryd.prog 87 = false := by kernel_rfl
theorem isS87 : isS Tryd.prog 87 = false := by kernel_rfl
theorem isU8s87 : isU8s Tryd.prog 87 = false := by kernel_rfl
theorem hasU87 : hasU Tryd.prog 87 = true := by kernel_rfl
theorem tk88 : tk Tryd.prog 88 = some (true, 13) := by kernel_rfl
theorem tz88 : tz Tryd.prog 88 = some [(.int .i64 0), (.int .i64 0), (.int .i64 0), (.int .i64 0), (.str (ByteArray.mk #[])), (.int .i64 0), .nilsl, .nilsl, (.int .i64 0), (.str (ByteArray.mk #[])), (.int .i64 0), .nilsl, .nilsl] := by kernel_rfl
theorem fps88 : fps Tryd.prog 88 = some [(0, 1), (1, 1), (2, 1), (3, 5), (8, 5)] := by kernel_rfl
theorem isB88 : isB Tryd.prog 88 = false := by kernel_rfl
theorem isS88 : isS Tryd.prog 88 = false := by kernel_rfl
theorem isU8s88 : isU8s Tryd.prog 88 = false := by kernel_rfl
theorem hasU88 : hasU Tryd.prog 88 = true := by kernel_rfl
theorem fo88_0 : fo Tryd.prog 88 0 = some 0 := by kernel_rfl
theorem fo88_1 : fo Tryd.prog 88 1 = some 1 := by kernel_rfl
theorem fo88_2 : fo Tryd.prog 88 2 = some 2 := by kernel_rfl
theorem fo88_3 : fo Tryd.prog 88 3 = some 3 := by kernel_rfl
theorem fo88_4 : fo Tryd.prog 88 4 = some 8 := by kernel_rfl
theorem tk89 : tk Tryd.prog 89 = some (true, 13) := by kernel_rfl
theorem tz89 : tz Tryd.prog 89 = some [(.int .i64 0), (.int .i64 0), (.int .i64 0), (.int .i64 0), (.str (ByteArray.mk #[])), (.int .i64 0), .nilsl, .nilsl, (.int .i64 0), (.str (ByteArray.mk #[])), (.int .i64 0), .nilsl, .nilsl] := by kernel_rfl
theorem fps89 : fps Tryd.prog 89 = some [(0, 1), (1, 1), (2, 1), (3, 5), (8, 5)] := by kernel_rfl
theorem isB89 : isB Tryd.prog 89 = false := by kernel_rfl
theorem isS89 : isS Tryd.prog 89 = false := by kernel_rfl
theorem isU8s89 : isU8s Tryd.prog 89 = false := by kernel_rfl
theorem hasU89 : hasU Tryd.prog 89 = true := by kernel_rfl
theorem fo89_0 : fo Tryd.prog 89 0 = some 0 := by kernel_rfl
theorem fo89_1 : fo Tryd.prog 89 1 = some 1 := by kernel_rfl
theorem fo89_2 : fo Tryd.prog 89 2 = some 2 := by kernel_rfl
theorem fo89_3 : fo Tryd.prog 89 3 = some 3 := by kernel_rfl
theorem fo89_4 : fo Tryd.prog 89 4 = some 8 := by kernel_rfl
theorem tk90 : tk Tryd.prog 90 = some (false, 1) := by kernel_rfl
theorem tz90 : tz Tryd.prog 90 = some [.nilfn] := by kernel_rfl
theorem isB90 : isB Tryd.prog 90 = false := by kernel_rfl
theorem isS90 : isS Tryd.prog 90 = false := by kernel_rfl
theorem isU8s90 : isU8s Tryd.prog 90 = false := by kernel_rfl
theorem hasU90 : hasU Tryd.prog 90 = true := by kernel_rfl
theorem tk91 : tk Tryd.prog 91 = some (true, 13) := by kernel_rfl
theorem tz91 : tz Tryd.prog 91 = some [(.int .i64 0), (.int .i64 0), (.int .i64 0), (.int .i64 0), (.str (ByteArray.mk #[])), (.int .i64 0), .nilsl, .nilsl, (.int .i64 0), (.str (ByteArray.mk #[])), (.int .i64 0), .nilsl, .nilsl] := by kernel_rfl
theorem fps91 : fps Tryd.prog 91 = some [(0, 1), (1, 1), (2, 1), (3, 5), (8, 5)] := by kernel_rfl
theorem isB91 : isB Tryd.prog 91 = false := by kernel_rfl
theorem isS91 : isS Tryd.prog 91 = false := by kernel_rfl
theorem isU8s91 : isU8s Tryd.prog 91 = false := by kernel_rfl
theorem hasU91 : hasU Tryd.prog 91 = true := by kernel_rfl
theorem fo91_0 : fo Tryd.prog 91 0 = some 0 := by kernel_rfl
theorem fo91_1 : fo Tryd.prog 91 1 = some 1 := by kernel_rfl
theorem fo91_2 : fo Tryd.prog 91 2 = some 2 := by kernel_rfl
theorem fo91_3 : fo Tryd.prog 91 3 = some 3 := by kernel_rfl
theorem fo91_4 : fo Tryd.prog 91 4 = some 8 := by kernel_rfl
theorem tk92 : tk Tryd.prog 92 = some (true, 13) := by kernel_rfl
theorem tz92 : tz Tryd.prog 92 = some [(.int .i64 0), (.int .i64 0), (.int .i64 0), (.int .i64 0), (.str (ByteArray.mk #[])), (.int .i64 0), .nilsl, .nilsl, (.int .i64 0), (.str (ByteArray.mk #[])), (.int .i64 0), .nilsl, .nilsl] := by kernel_rfl
theorem fps92 : fps Tryd.prog 92 = some [(0, 1), (1, 1), (2, 1), (3, 5), (8, 5)] := by kernel_rfl
theorem isB92 : isB Tryd.prog 92 = false := by kernel_rfl
theorem isS92 : isS Tryd.prog 92 = false := by kernel_rfl
theorem isU8s92 : isU8s Tryd.prog 92 = false := by kernel_rfl
theorem hasU92 : hasU Tryd.prog 92 = true := by kernel_rfl
theorem fo92_0 : fo Tryd.prog 92 0 = some 0 := by kernel_rfl
theorem fo92_1 : fo Tryd.prog 92 1 = some 1 := by kernel_rfl
theorem fo92_2 : fo Tryd.prog 92 2 = some 2 := by kernel_rfl
theorem fo92_3 : fo Tryd.prog 92 3 = some 3 := by kernel_rfl
theorem fo92_4 : fo Tryd.prog 92 4 = some 8 := by kernel_rfl
theorem tk93 : tk Tryd.prog 93 = some (false, 1) := by kernel_rfl
theorem tz93 : tz Tryd.prog 93 = some [.nilfn] := by kernel_rfl
theorem isB93 : isB Tryd.prog 93 = false := by kernel_rfl
theorem isS93 : isS Tryd.prog 93 = false := by kernel_rfl
theorem isU8s93 : isU8s Tryd.prog 93 = false := by kernel_rfl
theorem hasU93 : hasU Tryd.prog 93 = true := by kernel_rfl
theorem tk94 : tk Tryd.prog 94 = some (false, 1) := by kernel_rfl
theorem tz94 : tz Tryd.prog 94 = some [.nilfn] := by kernel_rfl
theorem isB94 : isB Tryd.prog 94 = false := by kernel_rfl
theorem isS94 : isS Tryd.prog 94 = false := by kernel_rfl
theorem isU8s94 : isU8s Tryd.prog 94 = false := by kernel_rfl
theorem hasU94 : hasU Tryd.prog 94 = true := by kernel_rfl
theorem tk95 : tk Tryd.prog 95 = some (false, 1) := by kernel_rfl
theorem tz95 : tz Tryd.prog 95 = some [.nilfn] := by kernel_rfl
theorem isB95 : isB Tryd.prog 95 = false := by kernel_rfl
theorem isS95 : isS Tryd.prog 95 = false := by kernel_rfl
theorem isU8s95 : isU8s Tryd.prog 95 = false := by kernel_rfl
theorem hasU95 : hasU Tryd.prog 95 = true := by kernel_rfl
theorem tk96 : tk Tryd.prog 96 = some (false, 1) := by kernel_rfl
theorem tz96 : tz Tryd.prog 96 = some [.nilp] := by kernel_rfl
theorem isB96 : isB Tryd.prog 96 = false := by kernel_rfl
theorem isS96 : isS Tryd.prog 96 = false := by kernel_rfl
theorem isU8s96 : isU8s Tryd.prog 96 = false := by kernel_rfl
theorem hasU96 : hasU Tryd.prog 96 = true := by kernel_rfl
theorem tk97 : tk Tryd.prog 97 = some (false, 1) := by kernel_rfl
theorem tz97 : tz Tryd.prog 97 = some [.nilfn] := by kernel_rfl
theorem isB97 : isB Tryd.prog 97 = false := by kernel_rfl
theorem isS97 : isS Tryd.prog 97 = false := by kernel_rfl
theorem isU8s97 : isU8s Tryd.prog 97 = false := by kernel_rfl
theorem hasU97 : hasU Tryd.prog 97 = true := by kernel_rfl
theorem tk98 : tk Tryd.prog 98 = some (false, 1) := by kernel_rfl
theorem isB98 : isB Tryd.prog 98 = false := by kernel_rfl
theorem isS98 : isS Tryd.prog 98 = false := by kernel_rfl
theorem isU8s98 : isU8s Tryd.prog 98 = false := by kernel_rfl
theorem hasU98 : hasU Tryd.prog 98 = true := by kernel_rfl
theorem tk99 : tk Tryd.prog 99 = some (false, 1) := by kernel_rfl
theorem tz99 : tz Tryd.prog 99 = some [.nilfn] := by kernel_rfl
theorem isB99 : isB Tryd.prog 99 = false := by kernel_rfl
theorem isS99 : isS Tryd.prog 99 = false := by kernel_rfl
theorem isU8s99 : isU8s Tryd.prog 99 = false := by kernel_rfl
theorem hasU99 : hasU Tryd.prog 99 = true := by kernel_rfl
theorem tk100 : tk Tryd.prog 100 = some (false, 1) := by kernel_rfl
theorem tz100 : tz Tryd.prog 100 = some [.nilfn] := by kernel_rfl
theorem isB100 : isB Tryd.prog 100 = false := by kernel_rfl
theorem isS100 : isS Tryd.prog 100 = false := by kernel_rfl
theorem isU8s100 : isU8s Tryd.prog 100 = false := by kernel_rfl
theorem hasU100 : hasU Tryd.prog 100 = true := by kernel_rfl
theorem tk101 : tk Tryd.prog 101 = some (false, 1) := by kernel_rfl
theorem tz101 : tz Tryd.prog 101 = some [.nilfn] := by kernel_rfl
theorem isB101 : isB Tryd.prog 101 = false := by kernel_rfl
theorem isS101 : isS Tryd.prog 101 = false := by kernel_rfl
theorem isU8s101 : isU8s Tryd.prog 101 = false := by kernel_rfl
theorem hasU101 : hasU Tryd.prog 101 = true := by kernel_rfl
theorem tk102 : tk Tryd.prog 102 = some (false, 1) := by kernel_rfl
theorem tz102 : tz Tryd.prog 102 = some [.nilfn] := by kernel_rfl
theorem isB102 : isB Tryd.prog 102 = false := by kernel_rfl
theorem isS102 : isS Tryd.prog 102 = false := by kernel_rfl
theorem isU8s102 : isU8s Tryd.prog 102 = false := by kernel_rfl
theorem hasU102 : hasU Tryd.prog 102 = true := by kernel_rfl
theorem tk103 : tk Tryd.prog 103 = some (false, 1) := by kernel_rfl
theorem tz103 : tz Tryd.prog 103 = some [.nilfn] := by kernel_rfl
theorem isB103 : isB Tryd.prog 103 = false := by kernel_rfl
theorem isS103 : isS Tryd.prog 103 = false := by kernel_rfl
theorem isU8s103 : isU8s Tryd.prog 103 = false := by kernel_rfl
theorem hasU103 : hasU Tryd.prog 103 = true := by kernel_rfl
theorem tk104 : tk Tryd.prog 104 = some (false, 1) := by kernel_rfl
theorem tz104 : tz Tryd.prog 104 = some [.nilfn] := by kernel_rfl
theorem isB104 : isB Tryd.prog 104 = false := by kernel_rfl
theorem isS104 : isS Tryd.prog 104 = false := by kernel_rfl
theorem isU8s104 : isU8s Tryd.prog 104 = false := by kernel_rfl
theorem hasU104 : hasU Tryd.prog 104 = true := by kernel_rfl
theorem tk105 : tk Tryd.prog 105 = some (false, 1) := by kernel_rfl
theorem tz105 : tz Tryd.prog 105 = some [.nilfn] := by kernel_rfl
theorem isB105 : isB Tryd.prog 105 = false := by kernel_rfl
theorem isS105 : isS Tryd.prog 105 = false := by kernel_rfl
theorem isU8s105 : isU8s Tryd.prog 105 = false := by kernel_rfl
theorem hasU105 : hasU Tryd.prog 105 = true := by kernel_rfl
theorem tk106 : tk Tryd.prog 106 = some (false, 1) := by kernel_rfl
theorem tz106 : tz Tryd.prog 106 = some [.nilfn] := by kernel_rfl
theorem isB106 : isB Tryd.prog 106 = false := by kernel_rfl
theorem isS106 : isS Tryd.prog 106 = false := by kernel_rfl
theorem isU8s106 : isU8s Tryd.prog 106 = false := by kernel_rfl
theorem hasU106 : hasU Tryd.prog 106 = true := by kernel_rfl
theorem tk107 : tk Tryd.prog 107 = some (false, 1) := by kernel_rfl
theorem tz107 : tz Tryd.prog 107 = some [.nilfn] := by kernel_rfl
theorem isB107 : isB Tryd.prog 107 = false := by kernel_rfl
theorem isS107 : isS Tryd.prog 107 = false := by kernel_rfl
theorem isU8s107 : isU8s Tryd.prog 107 = false := by kernel_rfl
theorem hasU107 : hasU Tryd.prog 107 = true := by kernel_rfl
theorem tk108 : tk Tryd.prog 108 = some (false, 1) := by kernel_rfl
theorem tz108 : tz Tryd.prog 108 = some [.nilfn] := by kernel_rfl
theorem isB108 : isB Tryd.prog 108 = false := by kernel_rfl
theorem isS108 : isS Tryd.prog 108 = false := by kernel_rfl
theorem isU8s108 : isU8s Tryd.prog 108 = false := by kernel_rfl
theorem hasU108 : hasU Tryd.prog 108 = true := by kernel_rfl
theorem tk109 : tk Tryd.prog 109 = some (false, 1) := by kernel_rfl
theorem tz109 : tz Tryd.prog 109 = some [.nilfn] := by kernel_rfl
theorem isB109 : isB Tryd.prog 109 = false := by kernel_rfl
theorem isS109 : isS Tryd.prog 109 = false := by kernel_rfl
theorem isU8s109 : isU8s Tryd.prog 109 = false := by kernel_rfl
theorem hasU109 : hasU Tryd.prog 109 = true := by kernel_rfl
theorem tk110 : tk Tryd.prog 110 = some (false, 1) := by kernel_rfl
theorem tz110 : tz Tryd.prog 110 = some [.nilfn] := by kernel_rfl
theorem isB110 : isB Tryd.prog 110 = false := by kernel_rfl
theorem isS110 : isS Tryd.prog 110 = false := by kernel_rfl
theorem isU8s110 : isU8s Tryd.prog 110 = false := by kernel_rfl
theorem hasU110 : hasU Tryd.prog 110 = true := by kernel_rfl
theorem tk111 : tk Tryd.prog 111 = some (false, 1) := by kernel_rfl
theorem tz111 : tz Tryd.prog 111 = some [.nilfn] := by kernel_rfl
theorem isB111 : isB Tryd.prog 111 = false := by kernel_rfl
theorem isS111 : isS Tryd.prog 111 = false := by kernel_rfl
theorem isU8s111 : isU8s Tryd.prog 111 = false := by kernel_rfl
theorem hasU111 : hasU Tryd.prog 111 = true := by kernel_rfl
theorem tk112 : tk Tryd.prog 112 = some (true, 17) := by kernel_rfl
theorem tz112 : tz Tryd.prog 112 = some [(.int .i64 0), (.int .i64 0), (.int .i64 0), (.str (ByteArray.mk #[])), .nilsl, (.int .i64 0), (.int .i64 0), (.str (ByteArray.mk #[])), (.int .i64 0), .nilsl, (.int .i64 0), (.str (ByteArray.mk #[])), (.int .i64 0), .nilsl, .nilsl, .nilsl, .nilsl] := by kernel_rfl
theorem fps112 : fps Tryd.prog 112 = some [(0, 1), (1, 16)] := by kernel_rfl
theorem isB112 : isB Tryd.prog 112 = false := by kernel_rfl
theorem isS112 : isS Tryd.prog 112 = false := by kernel_rfl
theorem isU8s112 : isU8s Tryd.prog 112 = false := by kernel_rfl
theorem hasU112 : hasU Tryd.prog 112 = true := by kernel_rfl
theorem fo112_0 : fo Tryd.prog 112 0 = some 0 := by kernel_rfl
theorem fo112_1 : fo Tryd.prog 112 1 = some 1 := by kernel_rfl
theorem tk113 : tk Tryd.prog 113 = some (true, 17) := by kernel_rfl
theorem tz113 : tz Tryd.prog 113 = some [(.int .i64 0), (.int .i64 0), (.int .i64 0), (.str (ByteArray.mk #[])), .nilsl, (.int .i64 0), (.int .i64 0), (.str (ByteArray.mk #[])), (.int .i64 0), .nilsl, (.int .i64 0), (.str (ByteArray.mk #[])), (.int .i64 0), .nilsl, .nilsl, .nilsl, .nilsl] := by kernel_rfl
theorem fps113 : fps Tryd.prog 113 = some [(0, 1), (1, 16)] := by kernel_rfl
theorem isB113 : isB Tryd.prog 113 = false := by kernel_rfl
theorem isS113 : isS Tryd.prog 113 = false := by kernel_rfl
theorem isU8s113 : isU8s Tryd.prog 113 = false := by kernel_rfl
theorem hasU113 : hasU Tryd.prog 113 = true := by kernel_rfl
theorem fo113_0 : fo Tryd.prog 113 0 = some 0 := by kernel_rfl
theorem fo113_1 : fo Tryd.prog 113 1 = some 1 := by kernel_rfl
theorem tk114 : tk Tryd.prog 114 = some (false, 1) := by kernel_rfl
theorem tz114 : tz Tryd.prog 114 = some [.nilfn] := by kernel_rfl
theorem isB114 : isB Tryd.prog 114 = false := by kernel_rfl
theorem isS114 : isS Tryd.prog 114 = false := by kernel_rfl
theorem isU8s114 : isU8s Tryd.prog 114 = false := by kernel_rfl
theorem hasU114 : hasU Tryd.prog 114 = true := by kernel_rfl
theorem tk115 : tk Tryd.prog 115 = some (true, 17) := by kernel_rfl
theorem tz115 : tz Tryd.prog 115 = some [(.int .i64 0), (.int .i64 0), (.int .i64 0), (.str (ByteArray.mk #[])), .nilsl, (.int .i64 0), (.int .i64 0), (.str (ByteArray.mk #[])), (.int .i64 0), .nilsl, (.int .i64 0), (.str (ByteArray.mk #[])), (.int .i64 0), .nilsl, .nilsl, .nilsl, .nilsl] := by kernel_rfl
theorem fps115 : fps Tryd.prog 115 = some [(0, 1), (1, 16)] := by kernel_rfl
theorem isB115 : isB Tryd.prog 115 = false := by kernel_rfl
theorem isS115 : isS Tryd.prog 115 = false := by kernel_rfl
theorem isU8s115 : isU8s Tryd.prog 115 = false := by kernel_rfl
theorem hasU115 : hasU Tryd.prog 115 = true := by kernel_rfl
theorem fo115_0 : fo Tryd.prog 115 0 = some 0 := by kernel_rfl
theorem fo115_1 : fo Tryd.prog 115 1 = some 1 := by kernel_rfl
theorem tk116 : tk Tryd.prog 116 = some (true, 17) := by kernel_rfl
theorem tz116 : tz Tryd.prog 116 = some [(.int .i64 0), (.int .i64 0), (.int .i64 0), (.str (ByteArray.mk #[])), .nilsl, (.int .i64 0), (.int .i64 0), (.str (ByteArray.mk #[])), (.int .i64 0), .nilsl, (.int .i64 0), (.str (ByteArray.mk #[])), (.int .i64 0), .nilsl, .nilsl, .nilsl, .nilsl] := by kernel_rfl
theorem fps116 : fps Tryd.prog 116 = some [(0, 1), (1, 16)] := by kernel_rfl
theorem isB116 : isB Tryd.prog 116 = false := by kernel_rfl
theorem isS116 : isS Tryd.prog 116 = false := by kernel_rfl
theorem isU8s116 : isU8s Tryd.prog 116 = false := by kernel_rfl
theorem hasU116 : hasU Tryd.prog 116 = true := by kernel_rfl
theorem fo116_0 : fo Tryd.prog 116 0 = some 0 := by kernel_rfl
theorem fo116_1 : fo Tryd.prog 116 1 = some 1 := by kernel_rfl
theorem tk117 : tk Tryd.prog 117 = some (false, 1) := by kernel_rfl
theorem tz117 : tz Tryd.prog 117 = some [.nilfn] := by kernel_rfl
theorem isB117 : isB Tryd.prog 117 = false := by kernel_rfl
theorem isS117 : isS Tryd.prog 117 = false := by kernel_rfl
theorem isU8s117 : isU8s Tryd.prog 117 = false := by kernel_rfl
theorem hasU117 : hasU Tryd.prog 117 = true := by kernel_rfl
theorem tk118 : tk Tryd.prog 118 = some (false, 1) := by kernel_rfl
theorem tz118 : tz Tryd.prog 118 = some [.nilfn] := by kernel_rfl
theorem isB118 : isB Tryd.prog 118 = false := by kernel_rfl
theorem isS118 : isS Tryd.prog 118 = false := by kernel_rfl
theorem isU8s118 : isU8s Tryd.prog 118 = false := by kernel_rfl
theorem hasU118 : hasU Tryd.prog 118 = true := by kernel_rfl
theorem tk119 : tk Tryd.prog 119 = some (false, 1) := by kernel_rfl
theorem tz119 : tz Tryd.prog 119 = some [.nilfn] := by kernel_rfl
theorem isB119 : isB Tryd.prog 119 = false := by kernel_rfl
theorem isS119 : isS Tryd.prog 119 = false := by kernel_rfl
theorem isU8s119 : isU8s Tryd.prog 119 = false := by kernel_rfl
theorem hasU119 : hasU Tryd.prog 119 = true := by kernel_rfl
theorem tk120 : tk Tryd.prog 120 = some (false, 1) := by kernel_rfl
theorem tz120 : tz Tryd.prog 120 = some [.nilfn] := by kernel_rfl
theorem isB120 : isB Tryd.prog 120 = false := by kernel_rfl
theorem isS120 : isS Tryd.prog 120 = false := by kernel_rfl
theorem isU8s120 : isU8s Tryd.prog 120 = false := by kernel_rfl
theorem hasU120 : hasU Tryd.prog 120 = true := by kernel_rfl
theorem tk121 : tk Tryd.prog 121 = some (false, 1) := by kernel_rfl
theorem tz121 : tz Tryd.prog 121 = some [.nilfn] := by kernel_rfl
theorem isB121 : isB Tryd.prog 121 = false := by kernel_rfl
theorem isS121 : isS Tryd.prog 121 = false := by kernel_rfl
theorem isU8s121 : isU8s Tryd.prog 121 = false := by kernel_rfl
theorem hasU121 : hasU Tryd.prog 121 = true := by kernel_rfl
theorem tk122 : tk Tryd.prog 122 = some (true, 2) := by kernel_rfl
theorem tz122 : tz Tryd.prog 122 = some [.nilsl, (.int .i64 0)] := by kernel_rfl
theorem fps122 : fps Tryd.prog 122 = some [(0, 1), (1, 1)] := by kernel_rfl
theorem isB122 : isB Tryd.prog 122 = false := by kernel_rfl
theorem isS122 : isS Tryd.prog 122 = false := by kernel_rfl
theorem isU8s122 : isU8s Tryd.prog 122 = false := by kernel_rfl
theorem hasU122 : hasU Tryd.prog 122 = true := by kernel_rfl
theorem fo122_0 : fo Tryd.prog 122 0 = some 0 := by kernel_rfl
theorem fo122_1 : fo Tryd.prog 122 1 = some 1 := by kernel_rfl
theorem tk123 : tk Tryd.prog 123 = some (true, 2) := by kernel_rfl
theorem tz123 : tz Tryd.prog 123 = some [.nilsl, (.int .i64 0)] := by kernel_rfl
theorem fps123 : fps Tryd.prog 123 = some [(0, 1), (1, 1)] := by kernel_rfl
theorem isB123 : isB Tryd.prog 123 = false := by kernel_rfl
theorem isS123 : isS Tryd.prog 123 = false := by kernel_rfl
theorem isU8s123 : isU8s Tryd.prog 123 = false := by kernel_rfl
theorem hasU123 : hasU Tryd.prog 123 = true := by kernel_rfl
theorem fo123_0 : fo Tryd.prog 123 0 = some 0 := by kernel_rfl
theorem fo123_1 : fo Tryd.prog 123 1 = some 1 := by kernel_rfl
theorem tk124 : tk Tryd.prog 124 = some (false, 1) := by kernel_rfl
theorem tz124 : tz Tryd.prog 124 = some [.nilfn] := by kernel_rfl
theorem isB124 : isB Tryd.prog 124 = false := by kernel_rfl
theorem isS124 : isS Tryd.prog 124 = false := by kernel_rfl
theorem isU8s124 : isU8s Tryd.prog 124 = false := by kernel_rfl
theorem hasU124 : hasU Tryd.prog 124 = true := by kernel_rfl
theorem tk125 : tk Tryd.prog 125 = some (false, 1) := by kernel_rfl
theorem tz125 : tz Tryd.prog 125 = some [.nilfn] := by kernel_rfl
theorem isB125 : isB Tryd.prog 125 = false := by kernel_rfl
theorem isS125 : isS Tryd.prog 125 = false := by kernel_rfl
theorem isU8s125 : isU8s Tryd.prog 125 = false := by kernel_rfl
theorem hasU125 : hasU Tryd.prog 125 = true := by kernel_rfl
theorem tk126 : tk Tryd.prog 126 = some (false, 1) := by kernel_rfl
theorem tz126 : tz Tryd.prog 126 = some [.nilfn] := by kernel_rfl
theorem isB126 : isB Tryd.prog 126 = false := by kernel_rfl
theorem isS126 : isS Tryd.prog 126 = false := by kernel_rfl
theorem isU8s126 : isU8s Tryd.prog 126 = false := by kernel_rfl
theorem hasU126 : hasU Tryd.prog 126 = true := by kernel_rfl
theorem tk127 : tk Tryd.prog 127 = some (false, 1) := by kernel_rfl
theorem tz127 : tz Tryd.prog 127 = some [.nilfn] := by kernel_rfl
theorem isB127 : isB Tryd.prog 127 = false := by kernel_rfl
theorem isS127 : isS Tryd.prog 127 = false := by kernel_rfl
theorem isU8s127 : isU8s Tryd.prog 127 = false := by kernel_rfl
theorem hasU127 : hasU Tryd.prog 127 = true := by kernel_rfl
theorem tk128 : tk Tryd.prog 128 = some (false, 1) := by kernel_rfl
theorem tz128 : tz Tryd.prog 128 = some [.nilp] := by kernel_rfl
theorem isB128 : isB Tryd.prog 128 = false := by kernel_rfl
theorem isS128 : isS Tryd.prog 128 = false := by kernel_rfl
theorem isU8s128 : isU8s Tryd.prog 128 = false := by kernel_rfl
theorem hasU128 : hasU Tryd.prog 128 = true := by kernel_rfl
theorem tk129 : tk Tryd.prog 129 = some (true, 2) := by kernel_rfl
theorem tz129 : tz Tryd.prog 129 = some [.nilp, .nilsl] := by kernel_rfl
theorem fps129 : fps Tryd.prog 129 = some [(0, 1), (1, 1)] := by kernel_rfl
theorem isB129 : isB Tryd.prog 129 = false := by kernel_rfl
theorem isS129 : isS Tryd.prog 129 = false := by kernel_rfl
theorem isU8s129 : isU8s Tryd.prog 129 = false := by kernel_rfl
theorem hasU129 : hasU Tryd.prog 129 = true := by kernel_rfl
theorem fo129_0 : fo Tryd.prog 129 0 = some 0 := by kernel_rfl
theorem fo129_1 : fo Tryd.prog 129 1 = some 1 := by kernel_rfl
theorem tk130 : tk Tryd.prog 130 = some (true, 2) := by kernel_rfl
theorem tz130 : tz Tryd.prog 130 = some [.nilp, .nilsl] := by kernel_rfl
theorem fps130 : fps Tryd.prog 130 = some [(0, 1), (1, 1)] := by kernel_rfl
theorem isB130 : isB Tryd.prog 130 = false := by kernel_rfl
theorem isS130 : isS Tryd.prog 130 = false := by kernel_rfl
theorem isU8s130 : isU8s Tryd.prog 130 = false := by kernel_rfl
theorem hasU130 : hasU Tryd.prog 130 = true := by kernel_rfl
theorem fo130_0 : fo Tryd.prog 130 0 = some 0 := by kernel_rfl
theorem fo130_1 : fo Tryd.prog 130 1 = some 1 := by kernel_rfl
theorem tk131 : tk Tryd.prog 131 = some (false, 1) := by kernel_rfl
theorem tz131 : tz Tryd.prog 131 = some [.nilfn] := by kernel_rfl
theorem isB131 : isB Tryd.prog 131 = false := by kernel_rfl
theorem isS131 : isS Tryd.prog 131 = false := by kernel_rfl
theorem isU8s131 : isU8s Tryd.prog 131 = false := by kernel_rfl
theorem hasU131 : hasU Tryd.prog 131 = true := by kernel_rfl
theorem tk132 : tk Tryd.prog 132 = some (false, 1) := by kernel_rfl
theorem tz132 : tz Tryd.prog 132 = some [(.opq .nilIface)] := by kernel_rfl
theorem isB132 : isB Tryd.prog 132 = false := by kernel_rfl
theorem isS132 : isS Tryd.prog 132 = false := by kernel_rfl
theorem isU8s132 : isU8s Tryd.prog 132 = false := by kernel_rfl
theorem hasU132 : hasU Tryd.prog 132 = true := by kernel_rfl
theorem tk133 : tk Tryd.prog 133 = some (false, 1) := by kernel_rfl
theorem tz133 : tz Tryd.prog 133 = some [(.opq .nilIface)] := by kernel_rfl
theorem isB133 : isB Tryd.prog 133 = false := by kernel_rfl
theorem isS133 : isS Tryd.prog 133 = false := by kernel_rfl
theorem isU8s133 : isU8s Tryd.prog 133 = false := by kernel_rfl
theorem hasU133 : hasU Tryd.prog 133 = true := by kernel_rfl
theorem tk134 : tk Tryd.prog 134 = some (false, 1) := by kernel_rfl
theorem isB134 : isB Tryd.prog 134 = false := by kernel_rfl
theorem isS134 : isS Tryd.prog 134 = false := by kernel_rfl
theorem isU8s134 : isU8s Tryd.prog 134 = false := by kernel_rfl
theorem hasU134 : hasU Tryd.prog 134 = true := by kernel_rfl
theorem tk135 : tk Tryd.prog 135 = some (false, 1) := by kernel_rfl
theorem tz135 : tz Tryd.prog 135 = some [.nilfn] := by kernel_rfl
theorem isB135 : isB Tryd.prog 135 = false := by kernel_rfl
theorem isS135 : isS Tryd.prog 135 = false := by kernel_rfl
theorem isU8s135 : isU8s Tryd.prog 135 = false := by kernel_rfl
theorem hasU135 : hasU Tryd.prog 135 = true := by kernel_rfl
theorem tk136 : tk Tryd.prog 136 = some (false, 1) := by kernel_rfl
theorem tz136 : tz Tryd.prog 136 = some [.nilfn] := by kernel_rfl
theorem isB136 : isB Tryd.prog 136 = false := by kernel_rfl
theorem isS136 : isS Tryd.prog 136 = false := by kernel_rfl
theorem isU8s136 : isU8s Tryd.prog 136 = false := by kernel_rfl
theorem hasU136 : hasU Tryd.prog 136 = true := by kernel_rfl
theorem tk137 : tk Tryd.prog 137 = some (false, 1) := by kernel_rfl
theorem tz137 : tz Tryd.prog 137 = some [.nilfn] := by kernel_rfl
theorem isB137 : isB Tryd.prog 137 = false := by kernel_rfl
theorem isS137 : isS Tryd.prog 137 = false := by kernel_rfl
theorem isU8s137 : isU8s Tryd.prog 137 = false := by kernel_rfl
theorem hasU137 : hasU Tryd.prog 137 = true := by kernel_rfl
theorem tk138 : tk Tryd.prog 138 = some (false, 1) := by kernel_rfl
theorem tz138 : tz Tryd.prog 138 = some [.nilfn] := by kernel_rfl
theorem isB138 : isB Tryd.prog 138 = false := by kernel_rfl
theorem isS138 : isS Tryd.prog 138 = false := by kernel_rfl
theorem isU8s138 : isU8s Tryd.prog 138 = false := by kernel_rfl
theorem hasU138 : hasU Tryd.prog 138 = true := by kernel_rfl
theorem tk139 : tk Tryd.prog 139 = some (false, 1) := by kernel_rfl
theorem tz139 : tz Tryd.prog 139 = some [.nilfn] := by kernel_rfl
theorem isB139 : isB Tryd.prog 139 = false := by kernel_rfl
theorem isS139 : isS Tryd.prog 139 = false := by kernel_rfl
theorem isU8s139 : isU8s Tryd.prog 139 = false := by kernel_rfl
theorem hasU139 : hasU Tryd.prog 139 = true := by kernel_rfl
theorem tk140 : tk Tryd.prog 140 = some (false, 1) := by kernel_rfl
theorem tz140 : tz Tryd.prog 140 = some [.nilp] := by kernel_rfl
theorem isB140 : isB Tryd.prog 140 = false := by kernel_rfl
theorem isS140 : isS Tryd.prog 140 = false := by kernel_rfl
theorem isU8s140 : isU8s Tryd.prog 140 = false := by kernel_rfl
theorem hasU140 : hasU Tryd.prog 140 = true := by kernel_rfl
theorem tk141 : tk Tryd.prog 141 = some (true, 24) := by kernel_rfl
theorem tz141 : tz Tryd.prog 141 = some [(.int .u8 0), (.int .u8 0), (.int .u8 0), (.int .u8 0), (.int .u8 0), (.int .u8 0), (.int .u8 0), (.int .u8 0), (.int .u8 0), (.int .u8 0), (.int .u8 0), (.int .u8 0), (.int .u8 0), (.int .u8 0), (.int .u8 0), (.int .u8 0), (.int .u8 0), (.int .u8 0), (.int .u8 0), (.int .u8 0), (.int .u8 0), (.int .u8 0), (.int .u8 0), (.int .u8 0)] := by kernel_rfl
theorem isB141 : isB Tryd.prog 141 = false := by kernel_rfl
theorem isS141 : isS Tryd.prog 141 = false := by kernel_rfl
theorem isU8s141 : isU8s Tryd.prog 141 = false := by kernel_rfl
theorem hasU141 : hasU Tryd.prog 141 = true := by kernel_rfl
theorem tk142 : tk Tryd.prog 142 = some (false, 1) := by kernel_rfl
theorem tz142 : tz Tryd.prog 142 = some [(.int .u64 0)] := by kernel_rfl
theorem ik142 : ik Tryd.prog 142 = some .u64 := by kernel_rfl
theorem isB142 : isB Tryd.prog 142 = false := by kernel_rfl
theorem isS142 : isS Tryd.prog 142 = false := by kernel_rfl
theorem isU8s142 : isU8s Tryd.prog 142 = false := by kernel_rfl
theorem hasU142 : hasU Tryd.prog 142 = true := by kernel_rfl
theorem tk143 : tk Tryd.prog 143 = some (false, 1) := by kernel_rfl
theorem tz143 : tz Tryd.prog 143 = some [.nilfn] := by kernel_rfl
theorem isB143 : isB Tryd.prog 143 = false := by kernel_rfl
theorem isS143 : isS Tryd.prog 143 = false := by kernel_rfl
theorem isU8s143 : isU8s Tryd.prog 143 = false := by kernel_rfl
theorem hasU143 : hasU Tryd.prog 143 = true := by kernel_rfl
theorem tk144 : tk Tryd.prog 144 = some (false, 1) := by kernel_rfl
theorem tz144 : tz Tryd.prog 144 = some [.nilfn] := by kernel_rfl
theorem isB144 : isB Tryd.prog 144 = false := by kernel_rfl
theorem isS144 : isS Tryd.prog 144 = false := by kernel_rfl
theorem isU8s144 : isU8s Tryd.prog 144 = false := by kernel_rfl
theorem hasU144 : hasU Tryd.prog 144 = true := by kernel_rfl
theorem tk145 : tk Tryd.prog 145 = some (false, 1) := by kernel_rfl
theorem isB145 : isB Tryd.prog 145 = false := by kernel_rfl
theorem isS145 : isS Tryd.prog 145 = false := by kernel_rfl
theorem isU8s145 : isU8s Tryd.prog 145 = false := by kernel_rfl
theorem hasU145 : hasU Tryd.prog 145 = true := by kernel_rfl
theorem tk146 : tk Tryd.prog 146 = some (false, 1) := by kernel_rfl
theorem tz146 : tz Tryd.prog 146 = some [.nilfn] := by kernel_rfl
theorem isB146 : isB Tryd.prog 146 = false := by kernel_rfl
theorem isS146 : isS Tryd.prog 146 = false := by kernel_rfl
theorem isU8s146 : isU8s Tryd.prog 146 = false := by kernel_rfl
theorem hasU146 : hasU Tryd.prog 146 = true := by kernel_rfl
theorem tk147 : tk Tryd.prog 147 = some (false, 1) := by kernel_rfl
theorem tz147 : tz Tryd.prog 147 = some [.nilp] := by kernel_rfl
theorem isB147 : isB Tryd.prog 147 = false := by kernel_rfl
theorem isS147 : isS Tryd.prog 147 = false := by kernel_rfl
theorem isU8s147 : isU8s Tryd.prog 147 = false := by kernel_rfl
theorem hasU147 : hasU Tryd.prog 147 = true := by kernel_rfl
theorem tk148 : tk Tryd.prog 148 = some (false, 1) := by kernel_rfl
theorem tz148 : tz Tryd.prog 148 = some [.nilfn] := by kernel_rfl
theorem isB148 : isB Tryd.prog 148 = false := by kernel_rfl
theorem isS148 : isS Tryd.prog 148 = false := by kernel_rfl
theorem isU8s148 : isU8s Tryd.prog 148 = false := by kernel_rfl
theorem hasU148 : hasU Tryd.prog 148 = true := by kernel_rfl
theorem tk149 : tk Tryd.prog 149 = some (false, 1) := by kernel_rfl
theorem isB149 : isB Tryd.prog 149 = false := by kernel_rfl
theorem isS149 : isS Tryd.prog 149 = false := by kernel_rfl
theorem isU8s149 : isU8s Tryd.prog 149 = false := by kernel_rfl
theorem hasU149 : hasU Tryd.prog 149 = true := by kernel_rfl
theorem tk150 : tk Tryd.prog 150 = some (false, 1) := by kernel_rfl
theorem tz150 : tz Tryd.prog 150 = some [.nilfn] := by kernel_rfl
theorem isB150 : isB Tryd.prog 150 = false := by kernel_rfl
theorem isS150 : isS Tryd.prog 150 = false := by kernel_rfl
theorem isU8s150 : isU8s Tryd.prog 150 = false := by kernel_rfl
theorem hasU150 : hasU Tryd.prog 150 = true := by kernel_rfl
theorem tk151 : tk Tryd.prog 151 = some (false, 1) := by kernel_rfl
theorem tz151 : tz Tryd.prog 151 = some [.nilfn] := by kernel_rfl
theorem isB151 : isB Tryd.prog 151 = false := by kernel_rfl
theorem isS151 : isS Tryd.prog 151 = false := by kernel_rfl
theorem isU8s151 : isU8s Tryd.prog 151 = false := by kernel_rfl
theorem hasU151 : hasU Tryd.prog 151 = true := by kernel_rfl
theorem tk152 : tk Tryd.prog 152 = some (false, 1) := by kernel_rfl
theorem tz152 : tz Tryd.prog 152 = some [.nilfn] := by kernel_rfl
theorem isB152 : isB Tryd.prog 152 = false := by kernel_rfl
theorem isS152 : isS Tryd.prog 152 = false := by kernel_rfl
theorem isU8s152 : isU8s Tryd.prog 152 = false := by kernel_rfl
theorem hasU152 : hasU Tryd.prog 152 = true := by kernel_rfl
theorem tk153 : tk Tryd.prog 153 = some (false, 1) := by kernel_rfl
theorem tz153 : tz Tryd.prog 153 = some [.nilfn] := by kernel_rfl
theorem isB153 : isB Tryd.prog 153 = false := by kernel_rfl
theorem isS153 : isS Tryd.prog 153 = false := by kernel_rfl
theorem isU8s153 : isU8s Tryd.prog 153 = false := by kernel_rfl
theorem hasU153 : hasU Tryd.prog 153 = true := by kernel_rfl
theorem tk154 : tk Tryd.prog 154 = some (true, 20) := by kernel_rfl
theorem tz154 : tz Tryd.prog 154 = some [(.int .u64 0), (.int .u64 0), (.int .u64 0), (.int .u64 0), (.int .u64 0), (.int .u64 0), (.int .u64 0), (.int .u64 0), (.int .u64 0), (.int .u64 0), (.int .u64 0), (.int .u64 0), (.int .u64 0), (.int .u64 0), (.int .u64 0), (.int .u64 0), (.int .u64 0), (.int .u64 0), (.int .u64 0), (.int .u64 0)] := by kernel_rfl
theorem isB154 : isB Tryd.prog 154 = false := by kernel_rfl
theorem isS154 : isS Tryd.prog 154 = false := by kernel_rfl
theorem isU8s154 : isU8s Tryd.prog 154 = false := by kernel_rfl
theorem hasU154 : hasU Tryd.prog 154 = true := by kernel_rfl
theorem tk155 : tk Tryd.prog 155 = some (false, 1) := by kernel_rfl
theorem tz155 : tz Tryd.prog 155 = some [(.int .u32 0)] := by kernel_rfl
theorem ik155 : ik Tryd.prog 155 = some .u32 := by kernel_rfl
theorem isB155 : isB Tryd.prog 155 = false := by kernel_rfl
theorem isS155 : isS Tryd.prog 155 = false := by kernel_rfl
theorem isU8s155 : isU8s Tryd.prog 155 = false := by kernel_rfl
theorem hasU155 : hasU Tryd.prog 155 = true := by kernel_rfl
theorem tk156 : tk Tryd.prog 156 = some (true, 65) := by kernel_rfl
theorem tz156 : tz Tryd.prog 156 = some [(.int .u8 0), (.int .u8 0), (.int .u8 0), (.int .u8 0), (.int .u8 0), (.int .u8 0), (.int .u8 0), (.int .u8 0), (.int .u8 0), (.int .u8 0), (.int .u8 0), (.int .u8 0), (.int .u8 0), (.int .u8 0), (.int .u8 0), (.int .u8 0), (.int .u8 0), (.int .u8 0), (.int .u8 0), (.int .u8 0), (.int .u8 0), (.int .u8 0), (.int .u8 0), (.int .u8 0), (.int .u8 0), (.int .u8 0), (.int .u8 0), (.int .u8 0), (.int .u8 0), (.int .u8 0), (.int .u8 0), (.int .u8 0), (.int .u8 0), (.int .u8 0), (.int .u8 0), (.int .u8 0), (.int .u8 0), (.int .u8 0), (.int .u8 0), (.int .u8 0), (.int .u8 0), (.int .u8 0), (.int .u8 0), (.int .u8 0), (.int .u8 0), (.int .u8 0), (.int .u8 0), (.int .u8 0), (.int .u8 0), (.int .u8 0), (.int .u8 0), (.int .u8 0), (.int .u8 0), (.int .u8 0), (.int .u8 0), (.int .u8 0), (.int .u8 0), (.int .u8 0), (.int .u8 0), (.int .u8 0), (.int .u8 0), (.int .u8 0), (.int .u8 0), (.int .u8 0), (.int .u8 0)] := by kernel_rfl
theorem isB156 : isB Tryd.prog 156 = false := by kernel_rfl
theorem isS156 : isS Tryd.prog 156 = false := by kernel_rfl
theorem isU8s156 : isU8s Tryd.prog 156 = false := by kernel_rfl
theorem hasU156 : hasU Tryd.prog 156 = true := by kernel_rfl
theorem tk157 : tk Tryd.prog 157 = some (false, 1) := by kernel_rfl
theorem tz157 : tz Tryd.prog 157 = some [.nilfn] := by kernel_rfl
theorem isB157 : isB Tryd.prog 157 = false := by kernel_rfl
theorem isS157 : isS Tryd.prog 157 = false := by kernel_rfl
theorem isU8s157 : isU8s Tryd.prog 157 = false := by kernel_rfl
theorem hasU157 : hasU Tryd.prog 157 = true := by kernel_rfl
theorem tk158 : tk Tryd.prog 158 = some (false, 1) := by kernel_rfl
theorem tz158 : tz Tryd.prog 158 = some [(.int .u64 0)] := by kernel_rfl
theorem ik158 : ik Tryd.prog 158 = some .u64 := by kernel_rfl
theorem isB158 : isB Tryd.prog 158 = false := by kernel_rfl
theorem isS158 : isS Tryd.prog 158 = false := by kernel_rfl
theorem isU8s158 : isU8s Tryd.prog 158 = false := by kernel_rfl
theorem hasU158 : hasU Tryd.prog 158 = true := by kernel_rfl
theorem tk159 : tk Tryd.prog 159 = some (false, 1) := by kernel_rfl
theorem tz159 : tz Tryd.prog 159 = some [.nilfn] := by kernel_rfl
theorem isB159 : isB Tryd.prog 159 = false := by kernel_rfl
theorem isS159 : isS Tryd.prog 159 = false := by kernel_rfl
theorem isU8s159 : isU8s Tryd.prog 159 = false := by kernel_rfl
theorem hasU159 : hasU Tryd.prog 159 = true := by kernel_rfl
theorem tk160 : tk Tryd.prog 160 = some (false, 1) := by kernel_rfl
theorem tz160 : tz Tryd.prog 160 = some [.nilp] := by kernel_rfl
theorem isB160 : isB Tryd.prog 160 = false := by kernel_rfl
theorem isS160 : isS Tryd.prog 160 = false := by kernel_rfl
theorem isU8s160 : isU8s Tryd.prog 160 = false := by kernel_rfl
theorem hasU160 : hasU Tryd.prog 160 = true := by kernel_rfl
theorem tk161 : tk Tryd.prog 161 = some (false, 1) := by kernel_rfl
theorem tz161 : tz Tryd.prog 161 = some [.nilfn] := by kernel_rfl
theorem isB161 : isB Tryd.prog 161 = false := by kernel_rfl
theorem isS161 : isS Tryd.prog 161 = false := by kernel_rfl
theorem isU8s161 : isU8s Tryd.prog 161 = false := by kernel_rfl
theorem hasU161 : hasU Tryd.prog 161 = true := by kernel_rfl
theorem tk162 : tk Tryd.prog 162 = some (false, 1) := by kernel_rfl
theorem tz162 : tz Tryd.prog 162 = some [.nilfn] := by kernel_rfl
theorem isB162 : isB Tryd.prog 162 = false := by kernel_rfl
theorem isS162 : isS Tryd.prog 162 = false := by kernel_rfl
theorem isU8s162 : isU8s Tryd.prog 162 = false := by kernel_rfl
theorem hasU162 : hasU Tryd.prog 162 = true := by kernel_rfl
theorem tk163 : tk Tryd.prog 163 = some (false, 1) := by kernel_rfl
theorem tz163 : tz Tryd.prog 163 = some [.nilfn] := by kernel_rfl
theorem isB163 : isB Tryd.prog 163 = false := by kernel_rfl
theorem isS163 : isS Tryd.prog 163 = false := by kernel_rfl
theorem isU8s163 : isU8s Tryd.prog 163 = false := by kernel_rfl
theorem hasU163 : hasU Tryd.prog 163 = true := by kernel_rfl
theorem tk164 : tk Tryd.prog 164 = some (false, 1) := by kernel_rfl
theorem tz164 : tz Tryd.prog 164 = some [.nilfn] := by kernel_rfl
theorem isB164 : isB Tryd.prog 164 = false := by kernel_rfl
theorem isS164 : isS Tryd.prog 164 = false := by kernel_rfl
theorem isU8s164 : isU8s Tryd.prog 164 = false := by kernel_rfl
theorem hasU164 : hasU Tryd.prog 164 = true := by kernel_rfl
theorem tk165 : tk Tryd.prog 165 = some (false, 1) := by kernel_rfl
theorem tz165 : tz Tryd.prog 165 = some [.nilfn] := by kernel_rfl
theorem isB165 : isB Tryd.prog 165 = false := by kernel_rfl
theorem isS165 : isS Tryd.prog 165 = false := by kernel_rfl
theorem isU8s165 : isU8s Tryd.prog 165 = false := by kernel_rfl
theorem hasU165 : hasU Tryd.prog 165 = true := by kernel_rfl
theorem tk166 : tk Tryd.prog 166 = some (false, 1) := by kernel_rfl
theorem tz166 : tz Tryd.prog 166 = some [.nilfn] := by kernel_rfl
theorem isB166 : isB Tryd.prog 166 = false := by kernel_rfl
theorem isS166 : isS Tryd.prog 166 = false := by kernel_rfl
theorem isU8s166 : isU8s Tryd.prog 166 = false := by kernel_rfl
theorem hasU166 : hasU Tryd.prog 166 = true := by kernel_rfl
theorem tk167 : tk Tryd.prog 167 = some (false, 1) := by kernel_rfl
theorem tz167 : tz Tryd.prog 167 = some [.nilfn] := by kernel_rfl
theorem isB167 : isB Tryd.prog 167 = false := by kernel_rfl
theorem isS167 : isS Tryd.prog 167 = false := by kernel_rfl
theorem isU8s167 : isU8s Tryd.prog 167 = false := by kernel_rfl
theorem hasU167 : hasU Tryd.prog 167 = true := by kernel_rfl
theorem tk168 : tk Tryd.prog 168 = some (false, 1) := by kernel_rfl
theorem tz168 : tz Tryd.prog 168 = some [.nilfn] := by kernel_rfl
theorem isB168 : isB Tryd.prog 168 = false := by kernel_rfl
theorem isS168 : isS Tryd.prog 168 = false := by kernel_rfl
theorem isU8s168 : isU8s Tryd.prog 168 = false := by kernel_rfl
theorem hasU168 : hasU Tryd.prog 168 = true := by kernel_rfl
theorem tk169 : tk Tryd.prog 169 = some (true, 32) := by kernel_rfl
theorem tz169 : tz Tryd.prog 169 = some [(.int .u8 0), (.int .u8 0), (.int .u8 0), (.int .u8 0), (.int .u8 0), (.int .u8 0), (.int .u8 0), (.int .u8 0), (.int .u8 0), (.int .u8 0), (.int .u8 0), (.int .u8 0), (.int .u8 0), (.int .u8 0), (.int .u8 0), (.int .u8 0), (.int .u8 0), (.int .u8 0), (.int .u8 0), (.int .u8 0), (.int .u8 0), (.int .u8 0), (.int .u8 0), (.int .u8 0), (.int .u8 0), (.int .u8 0), (.int .u8 0), (.int .u8 0), (.int .u8 0), (.int .u8 0), (.int .u8 0), (.int .u8 0)] := by kernel_rfl
theorem isB169 : isB Tryd.prog 169 = false := by kernel_rfl
theorem isS169 : isS Tryd.prog 169 = false := by kernel_rfl
theorem isU8s169 : isU8s Tryd.prog 169 = false := by kernel_rfl
theorem hasU169 : hasU Tryd.prog 169 = true := by kernel_rfl
theorem tk170 : tk Tryd.prog 170 = some (true, 64) := by kernel_rfl
theorem tz170 : tz Tryd.prog 170 = some [(.int .u8 0), (.int .u8 0), (.int .u8 0), (.int .u8 0), (.int .u8 0), (.int .u8 0), (.int .u8 0), (.int .u8 0), (.int .u8 0), (.int .u8 0), (.int .u8 0), (.int .u8 0), (.int .u8 0), (.int .u8 0), (.int .u8 0), (.int .u8 0), (.int .u8 0), (.int .u8 0), (.int .u8 0), (.int .u8 0), (.int .u8 0), (.int .u8 0), (.int .u8 0), (.int .u8 0), (.int .u8 0), (.int .u8 0), (.int .u8 0), (.int .u8 0), (.int .u8 0), (.int .u8 0), (.int .u8 0), (.int .u8 0), (.int .u8 0), (.int .u8 0), (.int .u8 0), (.int .u8 0), (.int .u8 0), (.int .u8 0), (.int .u8 0), (.int .u8 0), (.int .u8 0), (.int .u8 0), (.int .u8 0), (.int .u8 0), (.int .u8 0), (.int .u8 0), (.int .u8 0), (.int .u8 0), (.int .u8 0), (.int .u8 0), (.int .u8 0), (.int .u8 0), (.int .u8 0), (.int .u8 0), (.int .u8 0), (.int .u8 0), (.int .u8 0), (.int .u8 0), (.int .u8 0), (.int .u8 0), (.int .u8 0), (.int .u8 0), (.int .u8 0), (.int .u8 0)] := by kernel_rfl
theorem isB170 : isB Tryd.prog 170 = false := by kernel_rfl
theorem isS170 : isS Tryd.prog 170 = false := by kernel_rfl
theorem isU8s170 : isU8s Tryd.prog 170 = false := by kernel_rfl
theorem hasU170 : hasU Tryd.prog 170 = true := by kernel_rfl
theorem tk171 : tk Tryd.prog 171 = some (false, 1) := by kernel_rfl
theorem isB171 : isB Tryd.prog 171 = false := by kernel_rfl
theorem isS171 : isS Tryd.prog 171 = false := by kernel_rfl
theorem isU8s171 : isU8s Tryd.prog 171 = false := by kernel_rfl
theorem hasU171 : hasU Tryd.prog 171 = true := by kernel_rfl
theorem tk172 : tk Tryd.prog 172 = some (false, 1) := by kernel_rfl
theorem tz172 : tz Tryd.prog 172 = some [.nilfn] := by kernel_rfl
theorem isB172 : isB Tryd.prog 172 = false := by kernel_rfl
theorem isS172 : isS Tryd.prog 172 = false := by kernel_rfl
theorem isU8s172 : isU8s Tryd.prog 172 = false := by kernel_rfl
theorem hasU172 : hasU Tryd.prog 172 = true := by kernel_rfl
theorem tk173 : tk Tryd.prog 173 = some (false, 1) := by kernel_rfl
theorem isB173 : isB Tryd.prog 173 = false := by kernel_rfl
theorem isS173 : isS Tryd.prog 173 = false := by kernel_rfl
theorem isU8s173 : isU8s Tryd.prog 173 = false := by kernel_rfl
theorem hasU173 : hasU Tryd.prog 173 = true := by kernel_rfl
theorem tk174 : tk Tryd.prog 174 = some (false, 1) := by kernel_rfl
theorem tz174 : tz Tryd.prog 174 = some [.nilfn] := by kernel_rfl
theorem isB174 : isB Tryd.prog 174 = false := by kernel_rfl
theorem isS174 : isS Tryd.prog 174 = false := by kernel_rfl
theorem isU8s174 : isU8s Tryd.prog 174 = false := by kernel_rfl
theorem hasU174 : hasU Tryd.prog 174 = true := by kernel_rfl
theorem tk175 : tk Tryd.prog 175 = some (false, 1) := by kernel_rfl
theorem tz175 : tz Tryd.prog 175 = some [.nilfn] := by kernel_rfl
theorem isB175 : isB Tryd.prog 175 = false := by kernel_rfl
theorem isS175 : isS Tryd.prog 175 = false := by kernel_rfl
theorem isU8s175 : isU8s Tryd.prog 175 = false := by kernel_rfl
theorem hasU175 : hasU Tryd.prog 175 = true := by kernel_rfl
theorem tk176 : tk Tryd.prog 176 = some (true, 4) := by kernel_rfl
theorem tz176 : tz Tryd.prog 176 = some [.nilp, .nilp, .nilp, (.str (ByteArray.mk #[]))] := by kernel_rfl
theorem fps176 : fps Tryd.prog 176 = some [(0, 1), (1, 1), (2, 1), (3, 1)] := by kernel_rfl
theorem isB176 : isB Tryd.prog 176 = false := by kernel_rfl
theorem isS176 : isS Tryd.prog 176 = false := by kernel_rfl
theorem isU8s176 : isU8s Tryd.prog 176 = false := by kernel_rfl
theorem hasU176 : hasU Tryd.prog 176 = true := by kernel_rfl
theorem fo176_0 : fo Tryd.prog 176 0 = some 0 := by kernel_rfl
theorem fo176_1 : fo Tryd.prog 176 1 = some 1 := by kernel_rfl
theorem fo176_2 : fo Tryd.prog 176 2 = some 2 := by kernel_rfl
theorem fo176_3 : fo Tryd.prog 176 3 = some 3 := by kernel_rfl
theorem tk177 : tk Tryd.prog 177 = some (true, 4) := by kernel_rfl
theorem tz177 : tz Tryd.prog 177 = some [.nilp, .nilp, .nilp, (.str (ByteArray.mk #[]))] := by kernel_rfl
theorem fps177 : fps Tryd.prog 177 = some [(0, 1), (1, 1), (2, 1), (3, 1)] := by kernel_rfl
theorem isB177 : isB Tryd.prog 177 = false := by kernel_rfl
theorem isS177 : isS Tryd.prog 177 = false := by kernel_rfl
theorem isU8s177 : isU8s Tryd.prog 177 = false := by kernel_rfl
theorem hasU177 : hasU Tryd.prog 177 = true := by kernel_rfl
theorem fo177_0 : fo Tryd.prog 177 0 = some 0 := by kernel_rfl
theorem fo177_1 : fo Tryd.prog 177 1 = some 1 := by kernel_rfl
theorem fo177_2 : fo Tryd.prog 177 2 = some 2 := by kernel_rfl
theorem fo177_3 : fo Tryd.prog 177 3 = some 3 := by kernel_rfl
theorem tk178 : tk Tryd.prog 178 = some (true, 0) := by kernel_rfl
theorem tz178 : tz Tryd.prog 178 = some [] := by kernel_rfl
theorem isB178 : isB Tryd.prog 178 = false := by kernel_rfl
theorem isS178 : isS Tryd.prog 178 = false := by kernel_rfl
theorem isU8s178 : isU8s Tryd.prog 178 = false := by kernel_rfl
theorem hasU178 : hasU Tryd.prog 178 = true := by kernel_rfl
theorem tk179 : tk Tryd.prog 179 = some (true, 0) := by kernel_rfl
theorem tz179 : tz Tryd.prog 179 = some [] := by kernel_rfl
theorem fps179 : fps Tryd.prog 179 = some [(0, 0)] := by kernel_rfl
theorem isB179 : isB Tryd.prog 179 = false := by kernel_rfl
theorem isS179 : isS Tryd.prog 179 = false := by kernel_rfl
theorem isU8s179 : isU8s Tryd.prog 179 = false := by kernel_rfl
theorem hasU179 : hasU Tryd.prog 179 = true := by kernel_rfl
theorem tk180 : tk Tryd.prog 180 = some (true, 0) := by kernel_rfl
theorem tz180 : tz Tryd.prog 180 = some [] := by kernel_rfl
theorem fps180 : fps Tryd.prog 180 = some [(0, 0)] := by kernel_rfl
theorem isB180 : isB Tryd.prog 180 = false := by kernel_rfl
theorem isS180 : isS Tryd.prog 180 = false := by kernel_rfl
theorem isU8s180 : isU8s Tryd.prog 180 = false := by kernel_rfl
theorem hasU180 : hasU Tryd.prog 180 = true := by kernel_rfl
theorem tk181 : tk Tryd.prog 181 = some (false, 1) := by kernel_rfl
theorem tz181 : tz Tryd.prog 181 = some [.nilfn] := by kernel_rfl
theorem isB181 : isB Tryd.prog 181 = false := by kernel_rfl
theorem isS181 : isS Tryd.prog 181 = false := by kernel_rfl
theorem isU8s181 : isU8s Tryd.prog 181 = false := by kernel_rfl
theorem hasU181 : hasU Tryd.prog 181 = true := by kernel_rfl
theorem tk182 : tk Tryd.prog 182 = some (false, 1) := by kernel_rfl
theorem tz182 : tz Tryd.prog 182 = some [(.int .u8 0)] := by kernel_rfl
theorem ik182 : ik Tryd.prog 182 = some .u8 := by kernel_rfl
theorem isB182 : isB Tryd.prog 182 = false := by kernel_rfl
theorem isS182 : isS Tryd.prog 182 = false := by kernel_rfl
theorem isU8s182 : isU8s Tryd.prog 182 = false := by kernel_rfl
theorem hasU182 : hasU Tryd.prog 182 = true := by kernel_rfl
theorem tk183 : tk Tryd.prog 183 = some (false, 1) := by kernel_rfl
theorem tz183 : tz Tryd.prog 183 = some [(.int .u8 0)] := by kernel_rfl
theorem ik183 : ik Tryd.prog 183 = some .u8 := by kernel_rfl
theorem isB183 : isB Tryd.prog 183 = false := by kernel_rfl
theorem isS183 : isS Tryd.prog 183 = false := by kernel_rfl
theorem isU8s183 : isU8s Tryd.prog 183 = false := by kernel_rfl
theorem hasU183 : hasU Tryd.prog 183 = true := by kernel_rfl
theorem tk184 : tk Tryd.prog 184 = some (false, 1) := by kernel_rfl
theorem tz184 : tz Tryd.prog 184 = some [.nilfn] := by kernel_rfl
theorem isB184 : isB Tryd.prog 184 = false := by kernel_rfl
theorem isS184 : isS Tryd.prog 184 = false := by kernel_rfl
theorem isU8s184 : isU8s Tryd.prog 184 = false := by kernel_rfl
theorem hasU184 : hasU Tryd.prog 184 = true := by kernel_rfl
theorem tk185 : tk Tryd.prog 185 = some (false, 1) := by kernel_rfl
theorem tz185 : tz Tryd.prog 185 = some [(.int .i32 0)] := by kernel_rfl
theorem ik185 : ik Tryd.prog 185 = some .i32 := by kernel_rfl
theorem isB185 : isB Tryd.prog 185 = false := by kernel_rfl
theorem isS185 : isS Tryd.prog 185 = false := by kernel_rfl
theorem isU8s185 : isU8s Tryd.prog 185 = false := by kernel_rfl
theorem hasU185 : hasU Tryd.prog 185 = true := by kernel_rfl
theorem tk186 : tk Tryd.prog 186 = some (false, 1) := by kernel_rfl
theorem tz186 : tz Tryd.prog 186 = some [(.int .i32 0)] := by kernel_rfl
theorem ik186 : ik Tryd.prog 186 = some .i32 := by kernel_rfl
theorem isB186 : isB Tryd.prog 186 = false := by kernel_rfl
theorem isS186 : isS Tryd.prog 186 = false := by kernel_rfl
theorem isU8s186 : isU8s Tryd.prog 186 = false := by kernel_rfl
theorem hasU186 : hasU Tryd.prog 186 = true := by kernel_rfl
theorem tk187 : tk Tryd.prog 187 = some (true, 11) := by kernel_rfl
theorem tz187 : tz Tryd.prog 187 = some [(.int .u64 0), (.int .u64 0), (.int .u32 0), (.int .u8 0), (.int .u8 0), (.int .u8 0), (.int .u8 0), .nilfn, .nilp, (.int .i32 0), (.int .i32 0)] := by kernel_rfl
theorem fps187 : fps Tryd.prog 187 = some [(0, 1), (1, 1), (2, 1), (3, 1), (4, 1), (5, 1), (6, 1), (7, 1), (8, 1), (9, 1), (10, 1)] := by kernel_rfl
theorem isB187 : isB Tryd.prog 187 = false := by kernel_rfl
theorem isS187 : isS Tryd.prog 187 = false := by kernel_rfl
theorem isU8s187 : isU8s Tryd.prog 187 = false := by kernel_rfl
theorem hasU187 : hasU Tryd.prog 187 = true := by kernel_rfl
theorem fo187_0 : fo Tryd.prog 187 0 = some 0 := by kernel_rfl
theorem fo187_1 : fo Tryd.prog 187 1 = some 1 := by kernel_rfl
theorem fo187_2 : fo Tryd.prog 187 2 = some 2 := by kernel_rfl
theorem fo187_3 : fo Tryd.prog 187 3 = some 3 := by kernel_rfl
theorem fo187_4 : fo Tryd.prog 187 4 = some 4 := by kernel_rfl
theorem fo187_5 : fo Tryd.prog 187 5 = some 5 := by kernel_rfl
theorem fo187_6 : fo Tryd.prog 187 6 = some 6 := by kernel_rfl
theorem fo187_7 : fo Tryd.prog 187 7 = some 7 := by kernel_rfl
theorem fo187_8 : fo Tryd.prog 187 8 = some 8 := by kernel_rfl
theorem fo187_9 : fo Tryd.prog 187 9 = some 9 := by kernel_rfl
theorem fo187_10 : fo Tryd.prog 187 10 = some 10 := by kernel_rfl
theorem tk188 : tk Tryd.prog 188 = some (true, 11) := by kernel_rfl
theorem tz188 : tz Tryd.prog 188 = some [(.int .u64 0), (.int .u64 0), (.int .u32 0), (.int .u8 0), (.int .u8 0), (.int .u8 0), (.int .u8 0), .nilfn, .nilp, (.int .i32 0), (.int .i32 0)] := by kernel_rfl
theorem fps188 : fps Tryd.prog 188 = some [(0, 1), (1, 1), (2, 1), (3, 1), (4, 1), (5, 1), (6, 1), (7, 1), (8, 1), (9, 1), (10, 1)] := by kernel_rfl
theorem isB188 : isB Tryd.prog 188 = false := by kernel_rfl
theorem isS188 : isS Tryd.prog 188 = false := by kernel_rfl
theorem isU8s188 : isU8s Tryd.prog 188 = false := by kernel_rfl
theorem hasU188 : hasU Tryd.prog 188 = true := by kernel_rfl
theorem fo188_0 : fo Tryd.prog 188 0 = some 0 := by kernel_rfl
theorem fo188_1 : fo Tryd.prog 188 1 = some 1 := by kernel_rfl
theorem fo188_2 : fo Tryd.prog 188 2 = some 2 := by kernel_rfl
theorem fo188_3 : fo Tryd.prog 188 3 = some 3 := by kernel_rfl
theorem fo188_4 : fo Tryd.prog 188 4 = some 4 := by kernel_rfl
theorem fo188_5 : fo Tryd.prog 188 5 = some 5 := by kernel_rfl
theorem fo188_6 : fo Tryd.prog 188 6 = some 6 := by kernel_rfl
theorem fo188_7 : fo Tryd.prog 188 7 = some 7 := by kernel_rfl
theorem fo188_8 : fo Tryd.prog 188 8 = some 8 := by kernel_rfl
theorem fo188_9 : fo Tryd.prog 188 9 = some 9 := by kernel_rfl
theorem fo188_10 : fo Tryd.prog 188 10 = some 10 := by kernel_rfl
theorem tk189 : tk Tryd.prog 189 = some (false, 1) := by kernel_rfl
theorem tz189 : tz Tryd.prog 189 = some [.nilfn] := by kernel_rfl
theorem isB189 : isB Tryd.prog 189 = false := by kernel_rfl
theorem isS189 : isS Tryd.prog 189 = false := by kernel_rfl
theorem isU8s189 : isU8s Tryd.prog 189 = false := by kernel_rfl
theorem hasU189 : hasU Tryd.prog 189 = true := by kernel_rfl
attribute [go_sem] tk0 isB0 isS0 isU8s0 hasU0 tk1 tz1 isB1 isS1 isU8s1 hasU1 tk2 tz2 ik2 isB2 isS2 isU8s2 hasU2 tk3 tz3 ik3 isB3 isS3 isU8s3 hasU3 tk4 tz4 isB4 isS4 isU8s4 hasU4 tk5 tz5 ik5 isB5 isS5 isU8s5 hasU5 tk6 tz6
attribute [go_sem] ik6 isB6 isS6 isU8s6 hasU6 tk7 tz7 fps7 isB7 isS7 isU8s7 hasU7 fo7_0 fo7_1 fo7_2 fo7_3 tk8 tz8 fps8 isB8 isS8 isU8s8 hasU8 fo8_0 fo8_1 fo8_2 fo8_3 tk9 tz9 ik9 isB9 isS9 isU8s9 hasU9 tk10 tz10 ik10 isB10 isS10 isU8s10
attribute [go_sem] hasU10 tk11 tz11 ik11 isB11 isS11 isU8s11 hasU11 tk12 tz12 ik12 isB12 isS12 isU8s12 hasU12 tk13 tz13 fps13 isB13 isS13 isU8s13 hasU13 fo13_0 fo13_1 tk14 tz14 fps14 isB14 isS14 isU8s14 hasU14 fo14_0 fo14_1 tk15 tz15 isB15 isS15 isU8s15 hasU15 tk16
attribute [go_sem] tz16 isB16 isS16 isU8s16 hasU16 tk17 tz17 isB17 isS17 isU8s17 hasU17 tk18 tz18 fps18 isB18 isS18 isU8s18 hasU18 fo18_0 tk19 tz19 fps19 isB19 isS19 isU8s19 hasU19 fo19_0 tk20 tz20 isB20 isS20 isU8s20 hasU20 tk21 tz21 ik21 isB21 isS21 isU8s21 hasU21
attribute [go_sem] tk22 se22 tz22 isB22 isS22 isU8s22 hasU22 tk23 se23 tz23 isB23 isS23 isU8s23 hasU23 tk24 tz24 fps24 isB24 isS24 isU8s24 hasU24 fo24_0 fo24_1 fo24_2 fo24_3 fo24_4 tk25 tz25 fps25 isB25 isS25 isU8s25 hasU25 fo25_0 fo25_1 fo25_2 fo25_3 fo25_4 tk26 tz26
attribute [go_sem] isB26 isS26 isU8s26 hasU26 tk27 tz27 isB27 isS27 isU8s27 hasU27 tk28 se28 tz28 isB28 isS28 isU8s28 hasU28 tk29 tz29 fps29 isB29 isS29 isU8s29 hasU29 fo29_0 fo29_1 fo29_2 fo29_3 fo29_4 tk30 tz30 fps30 isB30 isS30 isU8s30 hasU30 fo30_0 fo30_1 fo30_2 fo30_3
attribute [go_sem] fo30_4 tk31 tz31 isB31 isS31 isU8s31 hasU31 tk32 tz32 isB32 isS32 isU8s32 hasU32 tk33 tz33 isB33 isS33 isU8s33 hasU33 tk34 se34 tz34 isB34 isS34 isU8s34 hasU34 tk35 se35 tz35 isB35 isS35 isU8s35 hasU35 tk36 tz36 fps36 isB36 isS36 isU8s36 hasU36
attribute [go_sem] fo36_0 fo36_1 fo36_2 fo36_3 fo36_4 fo36_5 fo36_6 tk37 tz37 fps37 isB37 isS37 isU8s37 hasU37 fo37_0 fo37_1 fo37_2 fo37_3 fo37_4 fo37_5 fo37_6 tk38 se38 tz38 isB38 isS38 isU8s38 hasU38 tk39 tz39 fps39 isB39 isS39 isU8s39 hasU39 fo39_0 fo39_1 fo39_2 fo39_3 fo39_4
attribute [go_sem] fo39_5 tk40 tz40 fps40 isB40 isS40 isU8s40 hasU40 fo40_0 fo40_1 fo40_2 fo40_3 fo40_4 fo40_5 tk41 tz41 isB41 isS41 isU8s41 hasU41 tk42 tz42 isB42 isS42 isU8s42 hasU42 tk43 se43 tz43 isB43 isS43 isU8s43 hasU43 tk44 se44 tz44 isB44 isS44 isU8s44 hasU44
attribute [go_sem] tk45 tz45 fps45 isB45 isS45 isU8s45 hasU45 fo45_0 fo45_1 fo45_2 fo45_3 fo45_4 fo45_5 fo45_6 tk46 tz46 fps46 isB46 isS46 isU8s46 hasU46 fo46_0 fo46_1 fo46_2 fo46_3 fo46_4 fo46_5 fo46_6 tk47 se47 tz47 isB47 isS47 isU8s47 hasU47 tk48 tz48 fps48 isB48 isS48
attribute [go_sem] isU8s48 hasU48 fo48_0 fo48_1 fo48_2 fo48_3 fo48_4 fo48_5 tk49 tz49 fps49 isB49 isS49 isU8s49 hasU49 fo49_0 fo49_1 fo49_2 fo49_3 fo49_4 fo49_5 tk50 tz50 isB50 isS50 isU8s50 hasU50 tk51 tz51 isB51 isS51 isU8s51 hasU51 tk52 tz52 isB52 isS52 isU8s52 hasU52 tk53
attribute [go_sem] se53 tz53 isB53 isS53 isU8s53 hasU53 tk54 tz54 isB54 isS54 isU8s54 hasU54 tk55 tz55 isB55 isS55 isU8s55 hasU55 tk56 se56 tz56 isB56 isS56 isU8s56 hasU56 tk57 tz57 isB57 isS57 isU8s57 hasU57 tk58 tz58 isB58 isS58 isU8s58 hasU58 tk59 tz59 isB59
attribute [go_sem] isS59 isU8s59 hasU59 tk60 tz60 isB60 isS60 isU8s60 hasU60 tk61 se61 tz61 isB61 isS61 isU8s61 hasU61 tk62 tz62 isB62 isS62 isU8s62 hasU62 tk63 tz63 isB63 isS63 isU8s63 hasU63 tk64 tz64 isB64 isS64 isU8s64 hasU64 tk65 tz65 isB65 isS65 isU8s65 hasU65
attribute [go_sem] tk66 se66 tz66 isB66 isS66 isU8s66 hasU66 tk67 tz67 isB67 isS67 isU8s67 hasU67 tk68 tz68 isB68 isS68 isU8s68 hasU68 tk69 tz69 isB69 isS69 isU8s69 hasU69 tk70 tz70 isB70 isS70 isU8s70 hasU70 tk71 tz71 isB71 isS71 isU8s71 hasU71 tk72 tz72 isB72
attribute [go_sem] isS72 isU8s72 hasU72 tk73 tz73 isB73 isS73 isU8s73 hasU73 tk74 tz74 isB74 isS74 isU8s74 hasU74 tk75 tz75 isB75 isS75 isU8s75 hasU75 tk76 tz76 isB76 isS76 isU8s76 hasU76 tk77 tz77 isB77 isS77 isU8s77 hasU77 tk78 tz78 isB78 isS78 isU8s78 hasU78 tk79
attribute [go_sem] tz79 isB79 isS79 isU8s79 hasU79 tk80 tz80 isB80 isS80 isU8s80 hasU80 tk81 tz81 isB81 isS81 isU8s81 hasU81 tk82 tz82 isB82 isS82 isU8s82 hasU82 tk83 tz83 isB83 isS83 isU8s83 hasU83 tk84 tz84 isB84 isS84 isU8s84 hasU84 tk85 tz85 isB85 isS85 isU8s85
attribute [go_sem] hasU85 tk86 tz86 isB86 isS86 isU8s86 hasU86 tk87 tz87 isB87 isS87 isU8s87 hasU87 tk88 tz88 fps88 isB88 isS88 isU8s88 hasU88 fo88_0 fo88_1 fo88_2 fo88_3 fo88_4 tk89 tz89 fps89 isB89 isS89 isU8s89 hasU89 fo89_0 fo89_1 fo89_2 fo89_3 fo89_4 tk90 tz90 isB90
attribute [go_sem] isS90 isU8s90 hasU90 tk91 tz91 fps91 isB91 isS91 isU8s91 hasU91 fo91_0 fo91_1 fo91_2 fo91_3 fo91_4 tk92 tz92 fps92 isB92 isS92 isU8s92 hasU92 fo92_0 fo92_1 fo92_2 fo92_3 fo92_4 tk93 tz93 isB93 isS93 isU8s93 hasU93 tk94 tz94 isB94 isS94 isU8s94 hasU94 tk95
attribute [go_sem] tz95 isB95 isS95 isU8s95 hasU95 tk96 tz96 isB96 isS96 isU8s96 hasU96 tk97 tz97 isB97 isS97 isU8s97 hasU97 tk98 isB98 isS98 isU8s98 hasU98 tk99 tz99 isB99 isS99 isU8s99 hasU99 tk100 tz100 isB100 isS100 isU8s100 hasU100 tk101 tz101 isB101 isS101 isU8s101 hasU101
attribute [go_sem] tk102 tz102 isB102 isS102 isU8s102 hasU102 tk103 tz103 isB103 isS103 isU8s103 hasU103 tk104 tz104 isB104 isS104 isU8s104 hasU104 tk105 tz105 isB105 isS105 isU8s105 hasU105 tk106 tz106 isB106 isS106 isU8s106 hasU106 tk107 tz107 isB107 isS107 isU8s107 hasU107 tk108 tz108 isB108 isS108
attribute [go_sem] isU8s108 hasU108 tk109 tz109 isB109 isS109 isU8s109 hasU109 tk110 tz110 isB110 isS110 isU8s110 hasU110 tk111 tz111 isB111 isS111 isU8s111 hasU111 tk112 tz112 fps112 isB112 isS112 isU8s112 hasU112 fo112_0 fo112_1 tk113 tz113 fps113 isB113 isS113 isU8s113 hasU113 fo113_0 fo113_1 tk114 tz114
attribute [go_sem] isB114 isS114 isU8s114 hasU114 tk115 tz115 fps115 isB115 isS115 isU8s115 hasU115 fo115_0 fo115_1 tk116 tz116 fps116 isB116 isS116 isU8s116 hasU116 fo116_0 fo116_1 tk117 tz117 isB117 isS117 isU8s117 hasU117 tk118 tz118 isB118 isS118 isU8s118 hasU118 tk119 tz119 isB119 isS119 isU8s119 hasU119
attribute [go_sem] tk120 tz120 isB120 isS120 isU8s120 hasU120 tk121 tz121 isB121 isS121 isU8s121 hasU121 tk122 tz122 fps122 isB122 isS122 isU8s122 hasU122 fo122_0 fo122_1 tk123 tz123 fps123 isB123 isS123 isU8s123 hasU123 fo123_0 fo123_1 tk124 tz124 isB124 isS124 isU8s124 hasU124 tk125 tz125 isB125 isS125
attribute [go_sem] isU8s125 hasU125 tk126 tz126 isB126 isS126 isU8s126 hasU126 tk127 tz127 isB127 isS127 isU8s127 hasU127 tk128 tz128 isB128 isS128 isU8s128 hasU128 tk129 tz129 fps129 isB129 isS129 isU8s129 hasU129 fo129_0 fo129_1 tk130 tz130 fps130 isB130 isS130 isU8s130 hasU130 fo130_0 fo130_1 tk131 tz131
attribute [go_sem] isB131 isS131 isU8s131 hasU131 tk132 tz132 isB132 isS132 isU8s132 hasU132 tk133 tz133 isB133 isS133 isU8s133 hasU133 tk134 isB134 isS134 isU8s134 hasU134 tk135 tz135 isB135 isS135 isU8s135 hasU135 tk136 tz136 isB136 isS136 isU8s136 hasU136 tk137 tz137 isB137 isS137 isU8s137 hasU137 tk138
attribute [go_sem] tz138 isB138 isS138 isU8s138 hasU138 tk139 tz139 isB139 isS139 isU8s139 hasU139 tk140 tz140 isB140 isS140 isU8s140 hasU140 tk141 tz141 isB141 isS141 isU8s141 hasU141 tk142 tz142 ik142 isB142 isS142 isU8s142 hasU142 tk143 tz143 isB143 isS143 isU8s143 hasU143 tk144 tz144 isB144 isS144
attribute [go_sem] isU8s144 hasU144 tk145 isB145 isS145 isU8s145 hasU145 tk146 tz146 isB146 isS146 isU8s146 hasU146 tk147 tz147 isB147 isS147 isU8s147 hasU147 tk148 tz148 isB148 isS148 isU8s148 hasU148 tk149 isB149 isS149 isU8s149 hasU149 tk150 tz150 isB150 isS150 isU8s150 hasU150 tk151 tz151 isB151 isS151
attribute [go_sem] isU8s151 hasU151 tk152 tz152 isB152 isS152 isU8s152 hasU152 tk153 tz153 isB153 isS153 isU8s153 hasU153 tk154 tz154 isB154 isS154 isU8s154 hasU154 tk155 tz155 ik155 isB155 isS155 isU8s155 hasU155 tk156 tz156 isB156 isS156 isU8s156 hasU156 tk157 tz157 isB157 isS157 isU8s157 hasU157 tk158
attribute [go_sem] tz158 ik158 isB158 isS158 isU8s158 hasU158 tk159 tz159 isB159 isS159 isU8s159 hasU159 tk160 tz160 isB160 isS160 isU8s160 hasU160 tk161 tz161 isB161 isS161 isU8s161 hasU161 tk162 tz162 isB162 isS162 isU8s162 hasU162 tk163 tz163 isB163 isS163 isU8s163 hasU163 tk164 tz164 isB164 isS164
attribute [go_sem] isU8s164 hasU164 tk165 tz165 isB165 isS165 isU8s165 hasU165 tk166 tz166 isB166 isS166 isU8s166 hasU166 tk167 tz167 isB167 isS167 isU8s167 hasU167 tk168 tz168 isB168 isS168 isU8s168 hasU168 tk169 tz169 isB169 isS169 isU8s169 hasU169 tk170 tz170 isB170 isS170 isU8s170 hasU170 tk171 isB171
attribute [go_sem] isS171 isU8s171 hasU171 tk172 tz172 isB172 isS172 isU8s172 hasU172 tk173 isB173 isS173 isU8s173 hasU173 tk174 tz174 isB174 isS174 isU8s174 hasU174 tk175 tz175 isB175 isS175 isU8s175 hasU175 tk176 tz176 fps176 isB176 isS176 isU8s176 hasU176 fo176_0 fo176_1 fo176_2 fo176_3 tk177 tz177 fps177
attribute [go_sem] isB177 isS177 isU8s177 hasU177 fo177_0 fo177_1 fo177_2 fo177_3 tk178 tz178 isB178 isS178 isU8s178 hasU178 tk179 tz179 fps179 isB179 isS179 isU8s179 hasU179 tk180 tz180 fps180 isB180 isS180 isU8s180 hasU180 tk181 tz181 isB181 isS181 isU8s181 hasU181 tk182 tz182 ik182 isB182 isS182 isU8s182
attribute [go_sem] hasU182 tk183 tz183 ik183 isB183 isS183 isU8s183 hasU183 tk184 tz184 isB184 isS184 isU8s184 hasU184 tk185 tz185 ik185 isB185 isS185 isU8s185 hasU185 tk186 tz186 ik186 isB186 isS186 isU8s186 hasU186 tk187 tz187 fps187 isB187 isS187 isU8s187 hasU187 fo187_0 fo187_1 fo187_2 fo187_3 fo187_4
attribute [go_sem] fo187_5 fo187_6 fo187_7 fo187_8 fo187_9 fo187_10 tk188 tz188 fps188 isB188 isS188 isU8s188 hasU188 fo188_0 fo188_1 fo188_2 fo188_3 fo188_4 fo188_5 fo188_6 fo188_7 fo188_8 fo188_9 fo188_10 tk189 tz189 isB189 isS189 isU8s189 hasU189
end Go.Proofs.SA
