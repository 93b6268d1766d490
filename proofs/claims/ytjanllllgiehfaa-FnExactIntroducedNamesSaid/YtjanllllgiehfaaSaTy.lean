/- The closed facts of the types of Try. -/
import Derived.Test.YtjanllllgiehfaaShM
import Derived.Test.YtjanllllgiehfaaProg
namespace Go.Proofs.SA
open Go Go.Proofs Go.Proofs.Shadow
theorem mixed : Try.prog.follows .mixedOrders = true := by kernel_rfl
theorem tk3 : tk Try.prog 3 = some (false, 1) := by kernel_rfl
theorem tz3 : tz Try.prog 3 = some [(.int .i64 0)] := by kernel_rfl
theorem isB3 : isB Try.prog 3 = false := by kernel_rfl
theorem isU8s3 : isU8s Try.prog 3 = false := by kernel_rfl
theorem hasU3 : hasU Try.prog 3 = true := by kernel_rfl
theorem tz5 : tz Try.prog 5 = some [(.int .u8 0)] := by kernel_rfl
theorem ik5 : ik Try.prog 5 = some .u8 := by kernel_rfl
theorem isB5 : isB Try.prog 5 = false := by kernel_rfl
theorem isS5 : isS Try.prog 5 = false := by kernel_rfl
theorem tk9 : tk Try.prog 9 = some (false, 1) := by kernel_rfl
theorem ik9 : ik Try.prog 9 = none := by kernel_rfl
theorem isB9 : isB Try.prog 9 = false := by kernel_rfl
theorem isS9 : isS Try.prog 9 = true := by kernel_rfl
theorem tk22 : tk Try.prog 22 = some (false, 1) := by kernel_rfl
theorem se22 : se Try.prog 22 = some (3, (1, 8)) := by kernel_rfl
theorem isB22 : isB Try.prog 22 = false := by kernel_rfl
theorem isS22 : isS Try.prog 22 = false := by kernel_rfl
theorem tk23 : tk Try.prog 23 = some (false, 1) := by kernel_rfl
theorem se23 : se Try.prog 23 = some (25, (5, 80)) := by kernel_rfl
theorem isS23 : isS Try.prog 23 = false := by kernel_rfl
theorem tk25 : tk Try.prog 25 = some (true, 5) := by kernel_rfl
theorem fo25_0 : fo Try.prog 25 0 = some 0 := by kernel_rfl
theorem fo25_1 : fo Try.prog 25 1 = some 1 := by kernel_rfl
theorem fo25_2 : fo Try.prog 25 2 = some 2 := by kernel_rfl
theorem fo25_3 : fo Try.prog 25 3 = some 3 := by kernel_rfl
theorem fo25_4 : fo Try.prog 25 4 = some 4 := by kernel_rfl
theorem tk27 : tk Try.prog 27 = some (false, 1) := by kernel_rfl
theorem se27 : se Try.prog 27 = some (29, (5, 80)) := by kernel_rfl
theorem tz27 : tz Try.prog 27 = some [.nilsl] := by kernel_rfl
theorem isS27 : isS Try.prog 27 = false := by kernel_rfl
theorem tk29 : tk Try.prog 29 = some (true, 5) := by kernel_rfl
theorem tz29 : tz Try.prog 29 = some [(.int .i64 0), (.str (ByteArray.mk #[])), (.int .i64 0), .nilsl, .nilsl] := by kernel_rfl
theorem fps29 : fps Try.prog 29 = some [(0, 1), (1, 1), (2, 1), (3, 1), (4, 1)] := by kernel_rfl
theorem fo29_0 : fo Try.prog 29 0 = some 0 := by kernel_rfl
theorem fo29_1 : fo Try.prog 29 1 = some 1 := by kernel_rfl
theorem fo29_2 : fo Try.prog 29 2 = some 2 := by kernel_rfl
theorem fo29_3 : fo Try.prog 29 3 = some 3 := by kernel_rfl
theorem fo29_4 : fo Try.prog 29 4 = some 4 := by kernel_rfl
theorem tk37 : tk Try.prog 37 = some (true, 13) := by kernel_rfl
theorem fo37_0 : fo Try.prog 37 0 = some 0 := by kernel_rfl
theorem fo37_1 : fo Try.prog 37 1 = some 1 := by kernel_rfl
theorem fo37_2 : fo Try.prog 37 2 = some 2 := by kernel_rfl
theorem fo37_3 : fo Try.prog 37 3 = some 3 := by kernel_rfl
theorem fo37_4 : fo Try.prog 37 4 = some 8 := by kernel_rfl
theorem tk41 : tk Try.prog 41 = some (true, 13) := by kernel_rfl
theorem tz41 : tz Try.prog 41 = some [(.int .i64 0), (.int .i64 0), (.int .i64 0), (.int .i64 0), (.str (ByteArray.mk #[])), (.int .i64 0), .nilsl, .nilsl, (.int .i64 0), (.str (ByteArray.mk #[])), (.int .i64 0), .nilsl, .nilsl] := by kernel_rfl
theorem fo41_0 : fo Try.prog 41 0 = some 0 := by kernel_rfl
theorem fo41_1 : fo Try.prog 41 1 = some 1 := by kernel_rfl
theorem fo41_2 : fo Try.prog 41 2 = some 2 := by kernel_rfl
theorem fo41_3 : fo Try.prog 41 3 = some 3 := by kernel_rfl
theorem fo41_4 : fo Try.prog 41 4 = some 8 := by kernel_rfl
theorem se73 : se Try.prog 73 = some (5, (1, 1)) := by kernel_rfl
theorem isU8s73 : isU8s Try.prog 73 = true := by kernel_rfl
theorem hasU73 : hasU Try.prog 73 = true := by kernel_rfl
attribute [go_sem] tk3 tz3 isB3 isU8s3 hasU3 tz5 ik5 isB5 isS5
attribute [go_sem] tk9 ik9 isB9 isS9
attribute [go_sem] tk22 se22 isB22 isS22 tk23 se23 isS23 tk25 fo25_0 fo25_1 fo25_2 fo25_3 fo25_4
attribute [go_sem] tk27 se27 tz27 isS27 tk29 tz29 fps29 fo29_0 fo29_1 fo29_2 fo29_3 fo29_4
attribute [go_sem] tk37 fo37_0 fo37_1 fo37_2 fo37_3 fo37_4 tk41 tz41
attribute [go_sem] fo41_0 fo41_1 fo41_2 fo41_3 fo41_4
attribute [go_sem] se73
attribute [go_sem] isU8s73 hasU73
end Go.Proofs.SA

