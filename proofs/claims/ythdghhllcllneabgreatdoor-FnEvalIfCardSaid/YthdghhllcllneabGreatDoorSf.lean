/- Contracts of the library, laid at this program. -/
import Derived.Shelf.Strings.OnBuilder
import Derived.Shelf.LaysM
import Derived.Shelf.Strconv.Itoa3
import Derived.Test.YthdghhllcllneabGreatDoorProg
namespace Go.Proofs
open Go.Shelf
def Tryz.Of : Go.Shelf.Ren := ⟨fun | 156 => 80 | 165 => 107 | 166 => 108 | 169 => 109 | 240 => 126 | 241 => 127 | 276 => 155 | 277 => 156 | n => n, fun | 31 => 78 | 9 => 9 | 3 => 3 | 4 => 4 | 0 => 0 | 20 => 20 | 72 => 144 | 76 => 148 | 70 => 142 | 37 => 22 | 75 => 147 | 127 => 167 | 164 => 200 | 5 => 5 | 80 => 150 | n => n, fun | n => n⟩
theorem Tryz.Qht : Go.Proofs.Lays.n156 Tryz.prog Tryz.Of := {
 mixed := by kernel_rfl
 f156 := Tryz.func80.trans (congrArg some (by kernel_rfl))
 f165 := Tryz.func107.trans (congrArg some (by kernel_rfl))
 f166 := Tryz.func108.trans (congrArg some (by kernel_rfl))
 f169 := Tryz.func109.trans (congrArg some (by kernel_rfl))
 f240 := Tryz.func126.trans (congrArg some (by kernel_rfl))
 f241 := Tryz.func127.trans (congrArg some (by kernel_rfl))
 f276 := Tryz.func155.trans (congrArg some (by kernel_rfl))
 f277 := Tryz.func156.trans (congrArg some (by kernel_rfl))
 t0 := Tryz.underlying0
 a0 := Tryz.isAgg0
 z0 := Tryz.sizeOf0
 v0 := Tryz.zeroValue0
 t3 := Tryz.underlying3
 a3 := Tryz.isAgg3
 z3 := Tryz.sizeOf3
 v3 := Tryz.zeroValue3
 t4 := Tryz.underlying4
 a4 := Tryz.isAgg4
 z4 := Tryz.sizeOf4
 v4 := Tryz.zeroValue4
 t9 := Tryz.underlying9
 a9 := Tryz.isAgg9
 z9 := Tryz.sizeOf9
 v9 := Tryz.zeroValue9
 t20 := Tryz.underlying20
 a20 := Tryz.isAgg20
 z20 := Tryz.sizeOf20
 v20 := Tryz.zeroValue20
 t31 := Tryz.underlying78
 a31 := Tryz.isAgg78
 z31 := Tryz.sizeOf78
 v31 := Tryz.zeroValue78
 t37 := Tryz.underlying22
 a37 := Tryz.isAgg22
 z37 := Tryz.sizeOf22
 v37 := Tryz.zeroValue22
 t70 := Tryz.underlying142
 a70 := Tryz.isAgg142
 z70 := Tryz.sizeOf142
 v70 := Tryz.zeroValue142
 t72 := Tryz.underlying144
 a72 := Tryz.isAgg144
 z72 := Tryz.sizeOf144
 v72 := Tryz.zeroValue144
 t75 := Tryz.underlying147
 a75 := Tryz.isAgg147
 z75 := Tryz.sizeOf147
 v75 := Tryz.zeroValue147
 t76 := Tryz.underlying148
 a76 := Tryz.isAgg148
 z76 := Tryz.sizeOf148
 v76 := Tryz.zeroValue148
 t127 := Tryz.underlying167
 a127 := Tryz.isAgg167
 z127 := Tryz.sizeOf167
 v127 := Tryz.zeroValue167
 t164 := Tryz.underlying200
 a164 := Tryz.isAgg200
 z164 := Tryz.sizeOf200
 v164 := Tryz.zeroValue200 }
theorem Tryz.CU : Builder.Extra Tryz.prog Tryz.Of := {
 sizeBuilder := by kernel_rfl
 liesBuilder := by kernel_rfl
 t5 := Tryz.underlying5
 a5 := Tryz.isAgg5
 z5 := Tryz.sizeOf5
 v5 := Tryz.zeroValue5
 infoByte := by kernel_rfl
 cellsByte := by kernel_rfl
 sizeByte := by kernel_rfl
 neB5 := by decide }
open Go.RowKit in
theorem Tryz.strings_Join_none (a : Option Addr) (c : Nat) (sep : ByteArray) (w : World) :
  Calls Tryz.prog 80 #[.slice a 0 c, .string sep] w fun e w' => e = .returned (.string ⟨#[]⟩) ∧ w' = w := Any.strings_Join_none Tryz.Qht Tryz.CU a c sep w
open Go.RowKit in
theorem Tryz.strings_Join (bk o c : Nat) (xs : List ByteArray) (sep : ByteArray) (w : World) (hcells : ∀ (j : Nat) x, xs[j]? = some x → w.cell? ⟨bk, o + j, none⟩ = some (.string x)) (hbk : bk < w.heap.size) (hN : xs.length ≤ 140737488355328) (hcap : xs.length ≤ c) (hlen : (Lib.join (xs.map (·.data.toList)) sep.data.toList).length ≤ 140737488355328) :
  Calls Tryz.prog 80 #[.slice (some ⟨bk, o, none⟩) xs.length c, .string sep] w fun e w' => e = .returned (.string ⟨(Lib.join (xs.map (·.data.toList)) sep.data.toList).toArray⟩) ∧ Below w.heap.size w w' := Any.strings_Join Tryz.Qht Tryz.CU bk o c xs sep w hcells hbk hN hcap hlen
def Tryz.TA : Go.Shelf.Ren := ⟨fun | 171 => 79 | 243 => 106 | 246 => 125 | 283 => 151 | 284 => 152 | 285 => 153 | 286 => 154 | 129 => 139 | 317 => 172 | 318 => 173 | 319 => 174 | 320 => 175 | 337 => 189 | 338 => 190 | n => n, fun | 3 => 3 | 9 => 9 | 2 => 2 | 4 => 4 | 171 => 196 | 0 => 0 | 53 => 179 | 37 => 22 | 5 => 5 | 173 => 198 | 212 => 223 | 51 => 177 | 20 => 20 | 213 => 224 | 46 => 154 | 232 => 244 | 233 => 245 | n => n, fun | 17 => 2 | 18 => 3 | 19 => 4 | n => n⟩
theorem Tryz.Qkq : Go.Proofs.LaysM.n171 Tryz.prog Tryz.TA := {
 mixed := by kernel_rfl
 f129 := Tryz.func139.trans (congrArg some (by kernel_rfl))
 f171 := Tryz.func79.trans (congrArg some (by kernel_rfl))
 f243 := Tryz.func106.trans (congrArg some (by kernel_rfl))
 f246 := Tryz.func125.trans (congrArg some (by kernel_rfl))
 f283 := Tryz.func151.trans (congrArg some (by kernel_rfl))
 f284 := Tryz.func152.trans (congrArg some (by kernel_rfl))
 f285 := Tryz.func153.trans (congrArg some (by kernel_rfl))
 f286 := Tryz.func154.trans (congrArg some (by kernel_rfl))
 f317 := Tryz.func172.trans (congrArg some (by kernel_rfl))
 f318 := Tryz.func173.trans (congrArg some (by kernel_rfl))
 f319 := Tryz.func174.trans (congrArg some (by kernel_rfl))
 f320 := Tryz.func175.trans (congrArg some (by kernel_rfl))
 f337 := Tryz.func189.trans (congrArg some (by kernel_rfl))
 f338 := Tryz.func190.trans (congrArg some (by kernel_rfl))
 t0 := Tryz.underlying0
 a0 := Tryz.isAgg0
 z0 := Tryz.sizeOf0
 v0 := Tryz.zeroValue0
 t2 := Tryz.underlying2
 a2 := Tryz.isAgg2
 z2 := Tryz.sizeOf2
 v2 := Tryz.zeroValue2
 t3 := Tryz.underlying3
 a3 := Tryz.isAgg3
 z3 := Tryz.sizeOf3
 v3 := Tryz.zeroValue3
 t4 := Tryz.underlying4
 a4 := Tryz.isAgg4
 z4 := Tryz.sizeOf4
 v4 := Tryz.zeroValue4
 t5 := Tryz.underlying5
 a5 := Tryz.isAgg5
 z5 := Tryz.sizeOf5
 v5 := Tryz.zeroValue5
 t9 := Tryz.underlying9
 a9 := Tryz.isAgg9
 z9 := Tryz.sizeOf9
 v9 := Tryz.zeroValue9
 t20 := Tryz.underlying20
 a20 := Tryz.isAgg20
 z20 := Tryz.sizeOf20
 v20 := Tryz.zeroValue20
 t37 := Tryz.underlying22
 a37 := Tryz.isAgg22
 z37 := Tryz.sizeOf22
 v37 := Tryz.zeroValue22
 t46 := Tryz.underlying154
 a46 := Tryz.isAgg154
 z46 := Tryz.sizeOf154
 v46 := Tryz.zeroValue154
 t51 := Tryz.underlying177
 a51 := Tryz.isAgg177
 z51 := Tryz.sizeOf177
 v51 := Tryz.zeroValue177
 t53 := Tryz.underlying179
 a53 := Tryz.isAgg179
 z53 := Tryz.sizeOf179
 v53 := Tryz.zeroValue179
 t171 := Tryz.underlying196
 a171 := Tryz.isAgg196
 z171 := Tryz.sizeOf196
 v171 := Tryz.zeroValue196
 t173 := Tryz.underlying198
 a173 := Tryz.isAgg198
 z173 := Tryz.sizeOf198
 v173 := Tryz.zeroValue198
 t212 := Tryz.underlying223
 a212 := Tryz.isAgg223
 z212 := Tryz.sizeOf223
 v212 := Tryz.zeroValue223
 t213 := Tryz.underlying224
 a213 := Tryz.isAgg224
 z213 := Tryz.sizeOf224
 t232 := Tryz.underlying244
 a232 := Tryz.isAgg244
 z232 := Tryz.sizeOf244
 v232 := Tryz.zeroValue244
 t233 := Tryz.underlying245
 a233 := Tryz.isAgg245
 z233 := Tryz.sizeOf245
 v233 := Tryz.zeroValue245
 g17 := by kernel_rfl
 g18 := by kernel_rfl
 g19 := by kernel_rfl
 i0 := by kernel_rfl
 i2 := by kernel_rfl
 i3 := by kernel_rfl
 i4 := by kernel_rfl
 i5 := by kernel_rfl
 i9 := by kernel_rfl
 i20 := by kernel_rfl
 i37 := by kernel_rfl
 i46 := by kernel_rfl
 i51 := by kernel_rfl
 i53 := by kernel_rfl
 i171 := by kernel_rfl
 i173 := by kernel_rfl
 i212 := by kernel_rfl
 i232 := by kernel_rfl
 i233 := by kernel_rfl
 m17 := by kernel_rfl
 m18 := by kernel_rfl
 m19 := by kernel_rfl }
open Go.RowKit Go.Sort Go.Lib in
theorem Tryz.strconv_Itoa (n : Int) (h0 : -9223372036854775808 ≤ n) (h1 : n ≤ 9223372036854775807) (w : World) (htab : Lib.TabIs Tryz.prog w "internal/strconv.uint64pow10" .u64 Lib.pow10Tab) :
  Calls Tryz.prog 79 #[.int .i64 n] w fun e w' => e = .returned (.string ⟨(Lib.itoa n).toArray⟩) ∧ ∃ k os, w' = grow (w.drewN k) os := Any.strconv_Itoa Tryz.Qkq n h0 h1 w htab
end Go.Proofs
