/- Contracts of the library, laid at this program. -/
import Derived.Shelf.Strings.OnBuilder
import Derived.Shelf.LaysM
import Derived.Shelf.Strconv.Itoa3
import Derived.Test.YthdghhllcllneaaGreatDoorProg
namespace Go.Proofs
open Go.Shelf
def Tryz.Od : Go.Shelf.Ren := ⟨fun | 156 => 59 | 165 => 93 | 166 => 94 | 169 => 95 | 240 => 116 | 241 => 117 | 276 => 136 | 277 => 137 | n => n, fun | 31 => 80 | 9 => 9 | 3 => 3 | 4 => 4 | 0 => 0 | 20 => 20 | 72 => 120 | 76 => 124 | 70 => 118 | 37 => 22 | 75 => 123 | 127 => 144 | 164 => 166 | 5 => 5 | 80 => 126 | n => n, fun | n => n⟩
theorem Tryz.Qho : Go.Proofs.Lays.n156 Tryz.prog Tryz.Od := {
 mixed := by kernel_rfl
 f156 := Tryz.func59.trans (congrArg some (by kernel_rfl))
 f165 := Tryz.func93.trans (congrArg some (by kernel_rfl))
 f166 := Tryz.func94.trans (congrArg some (by kernel_rfl))
 f169 := Tryz.func95.trans (congrArg some (by kernel_rfl))
 f240 := Tryz.func116.trans (congrArg some (by kernel_rfl))
 f241 := Tryz.func117.trans (congrArg some (by kernel_rfl))
 f276 := Tryz.func136.trans (congrArg some (by kernel_rfl))
 f277 := Tryz.func137.trans (congrArg some (by kernel_rfl))
 t0 := Tryz.underlying0
 a0 := Tryz.isAgg0
 z0 := Tryz.sizeOf0
 v0 := Tryz.zeroValue0
 t3 := Tryz.underlying3
 a3 := Tryz.isAgg3
 z3 := Tryz.sizeOf3
 v3 := Tryz.zeroValue3
 t4 := Tryz.underlying4
 a4 := Tryz.isAgg4
 z4 := Tryz.sizeOf4
 v4 := Tryz.zeroValue4
 t9 := Tryz.underlying9
 a9 := Tryz.isAgg9
 z9 := Tryz.sizeOf9
 v9 := Tryz.zeroValue9
 t20 := Tryz.underlying20
 a20 := Tryz.isAgg20
 z20 := Tryz.sizeOf20
 v20 := Tryz.zeroValue20
 t31 := Tryz.underlying80
 a31 := Tryz.isAgg80
 z31 := Tryz.sizeOf80
 v31 := Tryz.zeroValue80
 t37 := Tryz.underlying22
 a37 := Tryz.isAgg22
 z37 := Tryz.sizeOf22
 v37 := Tryz.zeroValue22
 t70 := Tryz.underlying118
 a70 := Tryz.isAgg118
 z70 := Tryz.sizeOf118
 v70 := Tryz.zeroValue118
 t72 := Tryz.underlying120
 a72 := Tryz.isAgg120
 z72 := Tryz.sizeOf120
 v72 := Tryz.zeroValue120
 t75 := Tryz.underlying123
 a75 := Tryz.isAgg123
 z75 := Tryz.sizeOf123
 v75 := Tryz.zeroValue123
 t76 := Tryz.underlying124
 a76 := Tryz.isAgg124
 z76 := Tryz.sizeOf124
 v76 := Tryz.zeroValue124
 t127 := Tryz.underlying144
 a127 := Tryz.isAgg144
 z127 := Tryz.sizeOf144
 v127 := Tryz.zeroValue144
 t164 := Tryz.underlying166
 a164 := Tryz.isAgg166
 z164 := Tryz.sizeOf166
 v164 := Tryz.zeroValue166 }
theorem Tryz.CO : Builder.Extra Tryz.prog Tryz.Od := {
 sizeBuilder := by kernel_rfl
 liesBuilder := by kernel_rfl
 t5 := Tryz.underlying5
 a5 := Tryz.isAgg5
 z5 := Tryz.sizeOf5
 v5 := Tryz.zeroValue5
 infoByte := by kernel_rfl
 cellsByte := by kernel_rfl
 sizeByte := by kernel_rfl
 neB5 := by decide }
open Go.RowKit in
theorem Tryz.strings_Join_none (a : Option Addr) (c : Nat) (sep : ByteArray) (w : World) :
  Calls Tryz.prog 59 #[.slice a 0 c, .string sep] w fun e w' => e = .returned (.string ⟨#[]⟩) ∧ w' = w := Any.strings_Join_none Tryz.Qho Tryz.CO a c sep w
open Go.RowKit in
theorem Tryz.strings_Join (bk o c : Nat) (xs : List ByteArray) (sep : ByteArray) (w : World) (hcells : ∀ (j : Nat) x, xs[j]? = some x → w.cell? ⟨bk, o + j, none⟩ = some (.string x)) (hbk : bk < w.heap.size) (hN : xs.length ≤ 140737488355328) (hcap : xs.length ≤ c) (hlen : (Lib.join (xs.map (·.data.toList)) sep.data.toList).length ≤ 140737488355328) :
  Calls Tryz.prog 59 #[.slice (some ⟨bk, o, none⟩) xs.length c, .string sep] w fun e w' => e = .returned (.string ⟨(Lib.join (xs.map (·.data.toList)) sep.data.toList).toArray⟩) ∧ Below w.heap.size w w' := Any.strings_Join Tryz.Qho Tryz.CO bk o c xs sep w hcells hbk hN hcap hlen
def Tryz.TB : Go.Shelf.Ren := ⟨fun | 171 => 58 | 243 => 92 | 246 => 115 | 283 => 132 | 284 => 133 | 285 => 134 | 286 => 135 | 129 => 157 | 317 => 158 | 318 => 159 | 319 => 160 | 320 => 161 | 337 => 179 | 338 => 180 | n => n, fun | 3 => 3 | 9 => 9 | 2 => 2 | 4 => 4 | 171 => 160 | 0 => 0 | 53 => 161 | 37 => 22 | 5 => 5 | 173 => 164 | 212 => 189 | 51 => 187 | 20 => 20 | 213 => 190 | 46 => 159 | 232 => 228 | 233 => 229 | n => n, fun | 17 => 1 | 18 => 3 | 19 => 4 | n => n⟩
theorem Tryz.Qkm : Go.Proofs.LaysM.n171 Tryz.prog Tryz.TB := {
 mixed := by kernel_rfl
 f129 := Tryz.func157.trans (congrArg some (by kernel_rfl))
 f171 := Tryz.func58.trans (congrArg some (by kernel_rfl))
 f243 := Tryz.func92.trans (congrArg some (by kernel_rfl))
 f246 := Tryz.func115.trans (congrArg some (by kernel_rfl))
 f283 := Tryz.func132.trans (congrArg some (by kernel_rfl))
 f284 := Tryz.func133.trans (congrArg some (by kernel_rfl))
 f285 := Tryz.func134.trans (congrArg some (by kernel_rfl))
 f286 := Tryz.func135.trans (congrArg some (by kernel_rfl))
 f317 := Tryz.func158.trans (congrArg some (by kernel_rfl))
 f318 := Tryz.func159.trans (congrArg some (by kernel_rfl))
 f319 := Tryz.func160.trans (congrArg some (by kernel_rfl))
 f320 := Tryz.func161.trans (congrArg some (by kernel_rfl))
 f337 := Tryz.func179.trans (congrArg some (by kernel_rfl))
 f338 := Tryz.func180.trans (congrArg some (by kernel_rfl))
 t0 := Tryz.underlying0
 a0 := Tryz.isAgg0
 z0 := Tryz.sizeOf0
 v0 := Tryz.zeroValue0
 t2 := Tryz.underlying2
 a2 := Tryz.isAgg2
 z2 := Tryz.sizeOf2
 v2 := Tryz.zeroValue2
 t3 := Tryz.underlying3
 a3 := Tryz.isAgg3
 z3 := Tryz.sizeOf3
 v3 := Tryz.zeroValue3
 t4 := Tryz.underlying4
 a4 := Tryz.isAgg4
 z4 := Tryz.sizeOf4
 v4 := Tryz.zeroValue4
 t5 := Tryz.underlying5
 a5 := Tryz.isAgg5
 z5 := Tryz.sizeOf5
 v5 := Tryz.zeroValue5
 t9 := Tryz.underlying9
 a9 := Tryz.isAgg9
 z9 := Tryz.sizeOf9
 v9 := Tryz.zeroValue9
 t20 := Tryz.underlying20
 a20 := Tryz.isAgg20
 z20 := Tryz.sizeOf20
 v20 := Tryz.zeroValue20
 t37 := Tryz.underlying22
 a37 := Tryz.isAgg22
 z37 := Tryz.sizeOf22
 v37 := Tryz.zeroValue22
 t46 := Tryz.underlying159
 a46 := Tryz.isAgg159
 z46 := Tryz.sizeOf159
 v46 := Tryz.zeroValue159
 t51 := Tryz.underlying187
 a51 := Tryz.isAgg187
 z51 := Tryz.sizeOf187
 v51 := Tryz.zeroValue187
 t53 := Tryz.underlying161
 a53 := Tryz.isAgg161
 z53 := Tryz.sizeOf161
 v53 := Tryz.zeroValue161
 t171 := Tryz.underlying160
 a171 := Tryz.isAgg160
 z171 := Tryz.sizeOf160
 v171 := Tryz.zeroValue160
 t173 := Tryz.underlying164
 a173 := Tryz.isAgg164
 z173 := Tryz.sizeOf164
 v173 := Tryz.zeroValue164
 t212 := Tryz.underlying189
 a212 := Tryz.isAgg189
 z212 := Tryz.sizeOf189
 v212 := Tryz.zeroValue189
 t213 := Tryz.underlying190
 a213 := Tryz.isAgg190
 z213 := Tryz.sizeOf190
 t232 := Tryz.underlying228
 a232 := Tryz.isAgg228
 z232 := Tryz.sizeOf228
 v232 := Tryz.zeroValue228
 t233 := Tryz.underlying229
 a233 := Tryz.isAgg229
 z233 := Tryz.sizeOf229
 v233 := Tryz.zeroValue229
 g17 := by kernel_rfl
 g18 := by kernel_rfl
 g19 := by kernel_rfl
 i0 := by kernel_rfl
 i2 := by kernel_rfl
 i3 := by kernel_rfl
 i4 := by kernel_rfl
 i5 := by kernel_rfl
 i9 := by kernel_rfl
 i20 := by kernel_rfl
 i37 := by kernel_rfl
 i46 := by kernel_rfl
 i51 := by kernel_rfl
 i53 := by kernel_rfl
 i171 := by kernel_rfl
 i173 := by kernel_rfl
 i212 := by kernel_rfl
 i232 := by kernel_rfl
 i233 := by kernel_rfl
 m17 := by kernel_rfl
 m18 := by kernel_rfl
 m19 := by kernel_rfl }
open Go.RowKit Go.Sort Go.Lib in
theorem Tryz.strconv_Itoa (n : Int) (h0 : -9223372036854775808 ≤ n) (h1 : n ≤ 9223372036854775807) (w : World) (htab : Lib.TabIs Tryz.prog w "internal/strconv.uint64pow10" .u64 Lib.pow10Tab) :
  Calls Tryz.prog 58 #[.int .i64 n] w fun e w' => e = .returned (.string ⟨(Lib.itoa n).toArray⟩) ∧ ∃ k os, w' = grow (w.drewN k) os := Any.strconv_Itoa Tryz.Qkm n h0 h1 w htab
end Go.Proofs
