/- The closed facts of the types of Tryz. -/
import Derived.Test.YthdghhllcllneaaGreatDoorShM
import Derived.Test.YthdghhllcllneaaGreatDoorProg
namespace Go.Proofs.SA
open Go Go.Proofs Go.Proofs.Shadow
theorem mixed : Tryz.prog.follows .mixedOrders = true := by kernel_rfl
theorem tk3 : tk Tryz.prog 3 = some (false, 1) := by kernel_rfl
theorem tz3 : tz Tryz.prog 3 = some [(.int .i64 0)] := by kernel_rfl
theorem ik3 : ik Tryz.prog 3 = some .i64 := by kernel_rfl
theorem Q5q : isB Tryz.prog 3 = false := by kernel_rfl
theorem Q5u : isS Tryz.prog 3 = false := by kernel_rfl
theorem Q3j : Qof Tryz.prog 3 = false := by kernel_rfl
theorem Q4q : Q0h Tryz.prog 3 = true := by kernel_rfl
theorem Q5r : isB Tryz.prog 4 = true := by kernel_rfl
theorem tk5 : tk Tryz.prog 5 = some (false, 1) := by kernel_rfl
theorem ik5 : ik Tryz.prog 5 = some .u8 := by kernel_rfl
theorem Q5s : isB Tryz.prog 5 = false := by kernel_rfl
theorem Q5v : isS Tryz.prog 5 = false := by kernel_rfl
theorem Q3k : Qof Tryz.prog 5 = false := by kernel_rfl
theorem Q4r : Q0h Tryz.prog 5 = true := by kernel_rfl
theorem tk9 : tk Tryz.prog 9 = some (false, 1) := by kernel_rfl
theorem tz9 : tz Tryz.prog 9 = some [(.str (ByteArray.mk #[]))] := by kernel_rfl
theorem Q5t : isB Tryz.prog 9 = false := by kernel_rfl
theorem Q5w : isS Tryz.prog 9 = true := by kernel_rfl
theorem Q6v : tk Tryz.prog 22 = some (false, 1) := by kernel_rfl
theorem Q6n : se Tryz.prog 22 = some (5, (1, 1)) := by kernel_rfl
theorem Q4y : isS Tryz.prog 22 = false := by kernel_rfl
theorem Q6w : tk Tryz.prog 23 = some (false, 1) := by kernel_rfl
theorem Q6o : se Tryz.prog 23 = some (3, (1, 8)) := by kernel_rfl
theorem Q65 : tz Tryz.prog 23 = some [.Qab] := by kernel_rfl
theorem Q4w : isB Tryz.prog 23 = false := by kernel_rfl
theorem Q4z : isS Tryz.prog 23 = false := by kernel_rfl
theorem Q6x : tk Tryz.prog 24 = some (false, 1) := by kernel_rfl
theorem Q6p : se Tryz.prog 24 = some (26, (5, 80)) := by kernel_rfl
theorem Q40 : isS Tryz.prog 24 = false := by kernel_rfl
theorem Q6y : tk Tryz.prog 26 = some (true, 5) := by kernel_rfl
theorem Q66 : tz Tryz.prog 26 = some [(.int .i64 0), (.str (ByteArray.mk #[])), (.int .i64 0), .Qab, .Qab] := by kernel_rfl
theorem Q4i : fps Tryz.prog 26 = some [(0, 1), (1, 1), (2, 1), (3, 1), (4, 1)] := by kernel_rfl
theorem Q2l : fo Tryz.prog 26 0 = some 0 := by kernel_rfl
theorem Q2m : fo Tryz.prog 26 1 = some 1 := by kernel_rfl
theorem Q2n : fo Tryz.prog 26 2 = some 2 := by kernel_rfl
theorem Q2o : fo Tryz.prog 26 3 = some 3 := by kernel_rfl
theorem Q2p : fo Tryz.prog 26 4 = some 4 := by kernel_rfl
theorem Q6z : tk Tryz.prog 28 = some (false, 1) := by kernel_rfl
theorem Q6q : se Tryz.prog 28 = some (34, (16, 248)) := by kernel_rfl
theorem Q41 : isS Tryz.prog 28 = false := by kernel_rfl
theorem Q60 : tk Tryz.prog 29 = some (false, 1) := by kernel_rfl
theorem Q6r : se Tryz.prog 29 = some (31, (11, 168)) := by kernel_rfl
theorem Q42 : isS Tryz.prog 29 = false := by kernel_rfl
theorem Q61 : tk Tryz.prog 31 = some (true, 11) := by kernel_rfl
theorem Q67 : tz Tryz.prog 31 = some [(.int .i64 0), (.int .i64 0), (.str (ByteArray.mk #[])), (.int .i64 0), .Qab, (.int .i64 0), (.str (ByteArray.mk #[])), (.int .i64 0), .Qab, .Qab, .Qab] := by kernel_rfl
theorem Q4j : fps Tryz.prog 31 = some [(0, 1), (1, 1), (2, 1), (3, 1), (4, 1), (5, 5), (10, 1)] := by kernel_rfl
theorem Q2q : fo Tryz.prog 31 0 = some 0 := by kernel_rfl
theorem Q2r : fo Tryz.prog 31 1 = some 1 := by kernel_rfl
theorem Q2s : fo Tryz.prog 31 2 = some 2 := by kernel_rfl
theorem Q2t : fo Tryz.prog 31 3 = some 3 := by kernel_rfl
theorem Q2u : fo Tryz.prog 31 4 = some 4 := by kernel_rfl
theorem Q2v : fo Tryz.prog 31 5 = some 5 := by kernel_rfl
theorem Q2w : fo Tryz.prog 31 6 = some 10 := by kernel_rfl
theorem Q62 : tk Tryz.prog 32 = some (false, 1) := by kernel_rfl
theorem Q6s : se Tryz.prog 32 = some (78, (17, 256)) := by kernel_rfl
theorem Q43 : isS Tryz.prog 32 = false := by kernel_rfl
theorem Q63 : tk Tryz.prog 34 = some (true, 16) := by kernel_rfl
theorem Q68 : tz Tryz.prog 34 = some [(.int .i64 0), (.int .i64 0), (.str (ByteArray.mk #[])), .Qab, (.int .i64 0), (.int .i64 0), (.str (ByteArray.mk #[])), (.int .i64 0), .Qab, (.int .i64 0), (.str (ByteArray.mk #[])), (.int .i64 0), .Qab, .Qab, .Qab, .Qab] := by kernel_rfl
theorem Q4k : fps Tryz.prog 34 = some [(0, 1), (1, 1), (2, 1), (3, 1), (4, 11), (15, 1)] := by kernel_rfl
theorem Q2x : fo Tryz.prog 34 0 = some 0 := by kernel_rfl
theorem Q2y : fo Tryz.prog 34 1 = some 1 := by kernel_rfl
theorem Q2z : fo Tryz.prog 34 2 = some 2 := by kernel_rfl
theorem Q20 : fo Tryz.prog 34 3 = some 3 := by kernel_rfl
theorem Q21 : fo Tryz.prog 34 4 = some 4 := by kernel_rfl
theorem Q22 : fo Tryz.prog 34 5 = some 15 := by kernel_rfl
theorem Q69 : tz Tryz.prog 55 = some [(.int .i64 0), (.int .i64 0)] := by kernel_rfl
theorem Q4l : fps Tryz.prog 55 = some [(0, 1), (1, 1)] := by kernel_rfl
theorem Q23 : fo Tryz.prog 55 0 = some 0 := by kernel_rfl
theorem Q24 : fo Tryz.prog 55 1 = some 1 := by kernel_rfl
theorem Q64 : tk Tryz.prog 78 = some (true, 17) := by kernel_rfl
theorem Q7a : tz Tryz.prog 78 = some [(.int .i64 0), (.int .i64 0), (.int .i64 0), (.str (ByteArray.mk #[])), .Qab, (.int .i64 0), (.int .i64 0), (.str (ByteArray.mk #[])), (.int .i64 0), .Qab, (.int .i64 0), (.str (ByteArray.mk #[])), (.int .i64 0), .Qab, .Qab, .Qab, .Qab] := by kernel_rfl
theorem Q4m : fps Tryz.prog 78 = some [(0, 1), (1, 16)] := by kernel_rfl
theorem Q25 : fo Tryz.prog 78 0 = some 0 := by kernel_rfl
theorem Q26 : fo Tryz.prog 78 1 = some 1 := by kernel_rfl
theorem Q6t : se Tryz.prog 80 = some (9, (1, 16)) := by kernel_rfl
theorem Q44 : isS Tryz.prog 80 = false := by kernel_rfl
theorem Q45 : isS Tryz.prog 81 = false := by kernel_rfl
theorem Q7b : tz Tryz.prog 88 = some [.Qab, (.int .i64 0)] := by kernel_rfl
theorem Q4n : fps Tryz.prog 88 = some [(0, 1), (1, 1)] := by kernel_rfl
theorem Q27 : fo Tryz.prog 88 0 = some 0 := by kernel_rfl
theorem Q28 : fo Tryz.prog 88 1 = some 1 := by kernel_rfl
theorem Q5b : se Tryz.prog 111 = some (23, (1, 24)) := by kernel_rfl
theorem Q3h : isS Tryz.prog 111 = false := by kernel_rfl
theorem Q4v : ik Tryz.prog 159 = some .u64 := by kernel_rfl
theorem Q3i : isS Tryz.prog 159 = false := by kernel_rfl
theorem Q3g : isB Tryz.prog 161 = false := by kernel_rfl
theorem Qxw : Qof Tryz.prog 161 = false := by kernel_rfl
theorem Q0i : Q0h Tryz.prog 161 = true := by kernel_rfl
attribute [go_sem] tk3 tz3 ik3 Q5q Q5u Q3j Q4q Q5r tk5 ik5 Q5s Q5v Q3k Q4r
attribute [go_sem] tk9 tz9 Q5t Q5w
attribute [go_sem] Q6v Q6n Q4y Q6w Q6o Q65 Q4w Q4z Q6x Q6p Q40 Q6y Q66 Q4i
attribute [go_sem] Q2l Q2m Q2n Q2o Q2p Q6z Q6q Q41 Q60 Q6r Q42 Q61
attribute [go_sem] Q67 Q4j Q2q Q2r Q2s Q2t Q2u Q2v Q2w Q62 Q6s Q43 Q63 Q68 Q4k
attribute [go_sem] Q2x Q2y Q2z Q20 Q21 Q22
attribute [go_sem] Q69 Q4l Q23 Q24
attribute [go_sem] Q64 Q7a Q4m Q25 Q26
attribute [go_sem] Q6t Q44 Q45
attribute [go_sem] Q7b Q4n Q27 Q28
attribute [go_sem] Q5b Q3h
attribute [go_sem] Q4v Q3i
attribute [go_sem] Q3g Qxw Q0i
end Go.Proofs.SA
