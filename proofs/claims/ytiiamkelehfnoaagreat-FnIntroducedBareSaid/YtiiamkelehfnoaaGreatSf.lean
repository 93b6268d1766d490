/- Contracts of the library, laid at this program. -/
import Derived.Shelf.Sort.Plain
import Derived.Shelf.Slices.CompactI
import Derived.Shelf.Slices.In.SortNone
import Derived.Test.YtiiamkelehfnoaaGreatProg
namespace Go.Proofs
open Go.Shelf
def Tryz.Sp : Go.Shelf.Ren := ⟨fun | 189 => 41 | 125 => 74 | 257 => 73 | 128 => 107 | 129 => 108 | 294 => 98 | 295 => 99 | 296 => 100 | 297 => 101 | 298 => 102 | 299 => 103 | 216 => 104 | 300 => 105 | 301 => 106 | 328 => 134 | 329 => 135 | 330 => 136 | 331 => 137 | 332 => 138 | 215 => 139 | 343 => 159 | n => n, fun | 28 => 23 | 3 => 3 | 46 => 102 | 0 => 0 | 51 => 131 | 53 => 133 | 4 => 4 | 183 => 123 | 182 => 122 | 131 => 128 | 5 => 5 | 9 => 9 | 218 => 154 | 222 => 68 | 228 => 175 | 229 => 45 | n => n, fun | n => n⟩
theorem Tryz.Qcv : Go.Proofs.Lays.n189 Tryz.prog Tryz.Sp := {
 mixed := by kernel_rfl
 f125 := Tryz.func74.trans (congrArg some (by kernel_rfl))
 f128 := Tryz.func107.trans (congrArg some (by kernel_rfl))
 f129 := Tryz.func108.trans (congrArg some (by kernel_rfl))
 f189 := Tryz.func41.trans (congrArg some (by kernel_rfl))
 f215 := Tryz.func139.trans (congrArg some (by kernel_rfl))
 f216 := Tryz.func104.trans (congrArg some (by kernel_rfl))
 f257 := Tryz.func73.trans (congrArg some (by kernel_rfl))
 f294 := Tryz.func98.trans (congrArg some (by kernel_rfl))
 f295 := Tryz.func99.trans (congrArg some (by kernel_rfl))
 f296 := Tryz.func100.trans (congrArg some (by kernel_rfl))
 f297 := Tryz.func101.trans (congrArg some (by kernel_rfl))
 f298 := Tryz.func102.trans (congrArg some (by kernel_rfl))
 f299 := Tryz.func103.trans (congrArg some (by kernel_rfl))
 f300 := Tryz.func105.trans (congrArg some (by kernel_rfl))
 f301 := Tryz.func106.trans (congrArg some (by kernel_rfl))
 f328 := Tryz.func134.trans (congrArg some (by kernel_rfl))
 f329 := Tryz.func135.trans (congrArg some (by kernel_rfl))
 f330 := Tryz.func136.trans (congrArg some (by kernel_rfl))
 f331 := Tryz.func137.trans (congrArg some (by kernel_rfl))
 f332 := Tryz.func138.trans (congrArg some (by kernel_rfl))
 f343 := Tryz.func159.trans (congrArg some (by kernel_rfl))
 t0 := Tryz.underlying0
 a0 := Tryz.isAgg0
 z0 := Tryz.sizeOf0
 v0 := Tryz.zeroValue0
 t3 := Tryz.underlying3
 a3 := Tryz.isAgg3
 z3 := Tryz.sizeOf3
 v3 := Tryz.zeroValue3
 t4 := Tryz.underlying4
 a4 := Tryz.isAgg4
 z4 := Tryz.sizeOf4
 v4 := Tryz.zeroValue4
 t5 := Tryz.underlying5
 a5 := Tryz.isAgg5
 z5 := Tryz.sizeOf5
 v5 := Tryz.zeroValue5
 t9 := Tryz.underlying9
 a9 := Tryz.isAgg9
 z9 := Tryz.sizeOf9
 v9 := Tryz.zeroValue9
 t28 := Tryz.underlying23
 a28 := Tryz.isAgg23
 z28 := Tryz.sizeOf23
 v28 := Tryz.zeroValue23
 t46 := Tryz.underlying102
 a46 := Tryz.isAgg102
 z46 := Tryz.sizeOf102
 v46 := Tryz.zeroValue102
 t51 := Tryz.underlying131
 a51 := Tryz.isAgg131
 z51 := Tryz.sizeOf131
 v51 := Tryz.zeroValue131
 t53 := Tryz.underlying133
 a53 := Tryz.isAgg133
 z53 := Tryz.sizeOf133
 v53 := Tryz.zeroValue133
 t131 := Tryz.underlying128
 a131 := Tryz.isAgg128
 z131 := Tryz.sizeOf128
 v131 := Tryz.zeroValue128
 t182 := Tryz.underlying122
 a182 := Tryz.isAgg122
 z182 := Tryz.sizeOf122
 v182 := Tryz.zeroValue122
 t183 := Tryz.underlying123
 a183 := Tryz.isAgg123
 z183 := Tryz.sizeOf123
 v183 := Tryz.zeroValue123
 t218 := Tryz.underlying154
 a218 := Tryz.isAgg154
 z218 := Tryz.sizeOf154
 v218 := Tryz.zeroValue154
 t222 := Tryz.underlying68
 a222 := Tryz.isAgg68
 z222 := Tryz.sizeOf68
 v222 := Tryz.zeroValue68
 t228 := Tryz.underlying175
 a228 := Tryz.isAgg175
 z228 := Tryz.sizeOf175
 v228 := Tryz.zeroValue175
 t229 := Tryz.underlying45
 a229 := Tryz.isAgg45
 z229 := Tryz.sizeOf45
 v229 := Tryz.zeroValue45 }
open Go.Sort Go.RowKit in
theorem Tryz.slices_Sort_int (blk off cap : Nat) (zs : List Int) (w : World) (hH : Holds (Value.int .i64) w blk off zs.toArray) (hblk : blk < w.heap.size) (hsz : zs.length < 4611686018427387904) :
  Calls Tryz.prog 41 #[.slice (some ⟨blk, off, none⟩) zs.length cap] w fun e w' =>
   e = .returned (.tuple #[]) ∧ ∃ n os, w' = grow (putRow (Value.int .i64) (Sort.ahead w n) blk off (zs.mergeSort fun x y => decide (x ≤ y)).toArray) os := Any.slices_Sort_int Tryz.Qcv blk off cap zs w hH hblk hsz
def Tryz.ON : Go.Shelf.Ren := ⟨fun | 20 => 42 | n => n, fun | 22 => 23 | 3 => 3 | 4 => 4 | 0 => 0 | n => n, fun | n => n⟩
theorem Tryz.P2 : Go.Proofs.Lays2.n20 Tryz.prog Tryz.ON := {
 mixed := by kernel_rfl
 f20 := Tryz.func42.trans (congrArg some (by kernel_rfl))
 t0 := Tryz.underlying0
 a0 := Tryz.isAgg0
 z0 := Tryz.sizeOf0
 v0 := Tryz.zeroValue0
 t3 := Tryz.underlying3
 a3 := Tryz.isAgg3
 z3 := Tryz.sizeOf3
 v3 := Tryz.zeroValue3
 t4 := Tryz.underlying4
 a4 := Tryz.isAgg4
 z4 := Tryz.sizeOf4
 v4 := Tryz.zeroValue4
 t22 := Tryz.underlying23
 a22 := Tryz.isAgg23
 z22 := Tryz.sizeOf23
 v22 := Tryz.zeroValue23
 i3 := by kernel_rfl }
open Go.RowKit Go.Lib Go.Sort in
theorem Tryz.slices_Compact_int (blk off cap : Nat) (zs : List Int) (w : World) (hH : Holds (Value.int .i64) w blk off zs.toArray) (hsz : zs.length ≤ 9223372036854775807) (hcap : zs.length ≤ cap) :
  Calls Tryz.prog 42 #[.slice (some ⟨blk, off, none⟩) zs.length cap] w fun e w' => e = .returned (.slice (some ⟨blk, off, none⟩) (Lib.compact zs).length cap) ∧ ∃ q, w' = putRow (Value.int .i64) (Sort.ahead w q) blk off (Lib.compact zs ++ List.replicate (zs.length - (Lib.compact zs).length) 0).toArray := Any.slices_Compact_int Tryz.P2 blk off cap zs w hH hsz hcap
open Go.RowKit Go.Lib Go.Sort in
theorem Tryz.slices_Compact_int_empty (a : Option Addr) (cap : Nat) (w : World) :
  Calls Tryz.prog 42 #[.slice a 0 cap] w fun e w' => e = .returned (.slice a 0 cap) ∧ w' = w := Any.slices_Compact_int_empty Tryz.P2 a cap w
open Go.RowKit Go.Sort in
theorem Tryz.slices_Sort_int_none (p : Option Addr) (cap : Nat) (w : World) :
  Calls Tryz.prog 41 #[.slice p 0 cap] w fun e w' => e = .returned (.tuple #[]) ∧ w' = w := Any.slices_Sort_int_none Tryz.Qcv p cap w
end Go.Proofs
