/- The closed facts of the types of Try. -/
import Derived.Test.YtilkeeoinbndoaaShM
import Derived.Test.YtilkeeoinbndoaaProg
namespace Go.Proofs.SA
open Go Go.Proofs Go.Proofs.Shadow
theorem mixed : Try.prog.follows .mixedOrders = true := by kernel_rfl
theorem tk3 : tk Try.prog 3 = some (false, 1) := by kernel_rfl
theorem tz3 : tz Try.prog 3 = some [(.int .i64 0)] := by kernel_rfl
theorem isB3 : isB Try.prog 3 = false := by kernel_rfl
theorem isU8s3 : isU8s Try.prog 3 = false := by kernel_rfl
theorem hasU3 : hasU Try.prog 3 = true := by kernel_rfl
theorem isB4 : isB Try.prog 4 = true := by kernel_rfl
theorem tz5 : tz Try.prog 5 = some [(.int .u8 0)] := by kernel_rfl
theorem ik5 : ik Try.prog 5 = some .u8 := by kernel_rfl
theorem isB5 : isB Try.prog 5 = false := by kernel_rfl
theorem isS5 : isS Try.prog 5 = false := by kernel_rfl
theorem tk9 : tk Try.prog 9 = some (false, 1) := by kernel_rfl
theorem ik9 : ik Try.prog 9 = none := by kernel_rfl
theorem isB9 : isB Try.prog 9 = false := by kernel_rfl
theorem isS9 : isS Try.prog 9 = true := by kernel_rfl
theorem tk22 : tk Try.prog 22 = some (false, 1) := by kernel_rfl
theorem se22 : se Try.prog 22 = some (3, (1, 8)) := by kernel_rfl
theorem isS22 : isS Try.prog 22 = false := by kernel_rfl
theorem tk23 : tk Try.prog 23 = some (false, 1) := by kernel_rfl
theorem se23 : se Try.prog 23 = some (25, (5, 80)) := by kernel_rfl
theorem isS23 : isS Try.prog 23 = false := by kernel_rfl
theorem tk25 : tk Try.prog 25 = some (true, 5) := by kernel_rfl
theorem fo25_0 : fo Try.prog 25 0 = some 0 := by kernel_rfl
theorem fo25_1 : fo Try.prog 25 1 = some 1 := by kernel_rfl
theorem fo25_2 : fo Try.prog 25 2 = some 2 := by kernel_rfl
theorem fo25_3 : fo Try.prog 25 3 = some 3 := by kernel_rfl
theorem fo25_4 : fo Try.prog 25 4 = some 4 := by kernel_rfl
theorem tk27 : tk Try.prog 27 = some (false, 1) := by kernel_rfl
theorem se27 : se Try.prog 27 = some (36, (16, 248)) := by kernel_rfl
theorem isS27 : isS Try.prog 27 = false := by kernel_rfl
theorem tk28 : tk Try.prog 28 = some (false, 1) := by kernel_rfl
theorem se28 : se Try.prog 28 = some (30, (5, 80)) := by kernel_rfl
theorem isS28 : isS Try.prog 28 = false := by kernel_rfl
theorem tk30 : tk Try.prog 30 = some (true, 5) := by kernel_rfl
theorem tz30 : tz Try.prog 30 = some [(.int .i64 0), (.str (ByteArray.mk #[])), (.int .i64 0), .nilsl, .nilsl] := by kernel_rfl
theorem fo30_0 : fo Try.prog 30 0 = some 0 := by kernel_rfl
theorem fo30_1 : fo Try.prog 30 1 = some 1 := by kernel_rfl
theorem fo30_2 : fo Try.prog 30 2 = some 2 := by kernel_rfl
theorem fo30_3 : fo Try.prog 30 3 = some 3 := by kernel_rfl
theorem fo30_4 : fo Try.prog 30 4 = some 4 := by kernel_rfl
theorem tk31 : tk Try.prog 31 = some (false, 1) := by kernel_rfl
theorem se31 : se Try.prog 31 = some (33, (11, 168)) := by kernel_rfl
theorem isS31 : isS Try.prog 31 = false := by kernel_rfl
theorem tk33 : tk Try.prog 33 = some (true, 11) := by kernel_rfl
theorem fo33_0 : fo Try.prog 33 0 = some 0 := by kernel_rfl
theorem fo33_1 : fo Try.prog 33 1 = some 1 := by kernel_rfl
theorem fo33_2 : fo Try.prog 33 2 = some 2 := by kernel_rfl
theorem fo33_3 : fo Try.prog 33 3 = some 3 := by kernel_rfl
theorem fo33_4 : fo Try.prog 33 4 = some 4 := by kernel_rfl
theorem fo33_5 : fo Try.prog 33 5 = some 5 := by kernel_rfl
theorem fo33_6 : fo Try.prog 33 6 = some 10 := by kernel_rfl
theorem tk34 : tk Try.prog 34 = some (false, 1) := by kernel_rfl
theorem se34 : se Try.prog 34 = some (67, (17, 256)) := by kernel_rfl
theorem isS34 : isS Try.prog 34 = false := by kernel_rfl
theorem tk36 : tk Try.prog 36 = some (true, 16) := by kernel_rfl
theorem tz36 : tz Try.prog 36 = some [(.int .i64 0), (.int .i64 0), (.str (ByteArray.mk #[])), .nilsl, (.int .i64 0), (.int .i64 0), (.str (ByteArray.mk #[])), (.int .i64 0), .nilsl, (.int .i64 0), (.str (ByteArray.mk #[])), (.int .i64 0), .nilsl, .nilsl, .nilsl, .nilsl] := by kernel_rfl
theorem fps36 : fps Try.prog 36 = some [(0, 1), (1, 1), (2, 1), (3, 1), (4, 11), (15, 1)] := by kernel_rfl
theorem fo36_0 : fo Try.prog 36 0 = some 0 := by kernel_rfl
theorem fo36_1 : fo Try.prog 36 1 = some 1 := by kernel_rfl
theorem fo36_2 : fo Try.prog 36 2 = some 2 := by kernel_rfl
theorem fo36_3 : fo Try.prog 36 3 = some 3 := by kernel_rfl
theorem fo36_4 : fo Try.prog 36 4 = some 4 := by kernel_rfl
theorem fo36_5 : fo Try.prog 36 5 = some 15 := by kernel_rfl
theorem tk67 : tk Try.prog 67 = some (true, 17) := by kernel_rfl
theorem fo67_0 : fo Try.prog 67 0 = some 0 := by kernel_rfl
theorem fo67_1 : fo Try.prog 67 1 = some 1 := by kernel_rfl
theorem se73 : se Try.prog 73 = some (5, (1, 1)) := by kernel_rfl
theorem isU8s73 : isU8s Try.prog 73 = true := by kernel_rfl
theorem hasU73 : hasU Try.prog 73 = true := by kernel_rfl
attribute [go_sem] tk3 tz3 isB3 isU8s3 hasU3 isB4 tz5 ik5 isB5 isS5
attribute [go_sem] tk9 ik9 isB9 isS9
attribute [go_sem] tk22 se22 isS22 tk23 se23 isS23 tk25 fo25_0 fo25_1 fo25_2 fo25_3 fo25_4
attribute [go_sem] tk27 se27 isS27 tk28 se28 isS28 tk30 tz30 fo30_0 fo30_1 fo30_2
attribute [go_sem] fo30_3 fo30_4 tk31 se31 isS31 tk33 fo33_0 fo33_1 fo33_2 fo33_3 fo33_4 fo33_5 fo33_6 tk34 se34
attribute [go_sem] isS34 tk36 tz36 fps36 fo36_0 fo36_1 fo36_2 fo36_3 fo36_4 fo36_5
attribute [go_sem] tk67 fo67_0 fo67_1
attribute [go_sem] se73 isU8s73 hasU73
end Go.Proofs.SA

