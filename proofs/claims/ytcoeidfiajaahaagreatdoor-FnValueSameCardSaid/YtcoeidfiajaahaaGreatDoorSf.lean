/- Contracts of the library, laid at this program. -/
import Derived.Shelf.Strings.OnBuilder
import Derived.Shelf.LaysM
import Derived.Shelf.Strconv.Itoa3
import Derived.Test.YtcoeidfiajaahaaGreatDoorProg
namespace Go.Proofs
open Go.Shelf
def Tryz.Qv6 : Go.Shelf.Ren := ⟨fun | 156 => 80 | 165 => 132 | 166 => 133 | 169 => 134 | 240 => 175 | 241 => 176 | 276 => 215 | 277 => 216 | n => n, fun | 31 => 108 | 9 => 9 | 3 => 3 | 4 => 4 | 0 => 0 | 20 => 20 | 72 => 162 | 76 => 166 | 70 => 160 | 37 => 22 | 75 => 165 | 127 => 200 | 164 => 237 | 5 => 5 | 80 => 141 | n => n, fun | n => n⟩
theorem Tryz.Kbb : Go.Proofs.Lays.n156 Tryz.prog Tryz.Qv6 := {
 mixed := by kernel_rfl
 f156 := Tryz.func80.trans (congrArg some (by kernel_rfl))
 f165 := Tryz.func132.trans (congrArg some (by kernel_rfl))
 f166 := Tryz.func133.trans (congrArg some (by kernel_rfl))
 f169 := Tryz.func134.trans (congrArg some (by kernel_rfl))
 f240 := Tryz.func175.trans (congrArg some (by kernel_rfl))
 f241 := Tryz.func176.trans (congrArg some (by kernel_rfl))
 f276 := Tryz.func215.trans (congrArg some (by kernel_rfl))
 f277 := Tryz.func216.trans (congrArg some (by kernel_rfl))
 t0 := Tryz.underlying0
 a0 := Tryz.isAgg0
 z0 := Tryz.sizeOf0
 v0 := Tryz.zeroValue0
 t3 := Tryz.underlying3
 a3 := Tryz.isAgg3
 z3 := Tryz.sizeOf3
 v3 := Tryz.zeroValue3
 t4 := Tryz.underlying4
 a4 := Tryz.isAgg4
 z4 := Tryz.sizeOf4
 v4 := Tryz.zeroValue4
 t9 := Tryz.underlying9
 a9 := Tryz.isAgg9
 z9 := Tryz.sizeOf9
 v9 := Tryz.zeroValue9
 t20 := Tryz.underlying20
 a20 := Tryz.isAgg20
 z20 := Tryz.sizeOf20
 v20 := Tryz.zeroValue20
 t31 := Tryz.underlying108
 a31 := Tryz.isAgg108
 z31 := Tryz.sizeOf108
 v31 := Tryz.zeroValue108
 t37 := Tryz.underlying22
 a37 := Tryz.isAgg22
 z37 := Tryz.sizeOf22
 v37 := Tryz.zeroValue22
 t70 := Tryz.underlying160
 a70 := Tryz.isAgg160
 z70 := Tryz.sizeOf160
 v70 := Tryz.zeroValue160
 t72 := Tryz.underlying162
 a72 := Tryz.isAgg162
 z72 := Tryz.sizeOf162
 v72 := Tryz.zeroValue162
 t75 := Tryz.underlying165
 a75 := Tryz.isAgg165
 z75 := Tryz.sizeOf165
 v75 := Tryz.zeroValue165
 t76 := Tryz.underlying166
 a76 := Tryz.isAgg166
 z76 := Tryz.sizeOf166
 v76 := Tryz.zeroValue166
 t127 := Tryz.underlying200
 a127 := Tryz.isAgg200
 z127 := Tryz.sizeOf200
 v127 := Tryz.zeroValue200
 t164 := Tryz.underlying237
 a164 := Tryz.isAgg237
 z164 := Tryz.sizeOf237
 v164 := Tryz.zeroValue237 }
theorem Tryz.Qmh : Builder.Extra Tryz.prog Tryz.Qv6 := {
 sizeBuilder := by kernel_rfl
 liesBuilder := by kernel_rfl
 t5 := Tryz.underlying5
 a5 := Tryz.isAgg5
 z5 := Tryz.sizeOf5
 v5 := Tryz.zeroValue5
 infoByte := by kernel_rfl
 cellsByte := by kernel_rfl
 sizeByte := by kernel_rfl
 neB5 := by decide }
open Go.RowKit in
theorem Tryz.strings_Join_none (a : Option Addr) (c : Nat) (sep : ByteArray) (w : World) :
  Calls Tryz.prog 80 #[.slice a 0 c, .string sep] w fun e w' => e = .returned (.string ⟨#[]⟩) ∧ w' = w := Any.strings_Join_none Tryz.Kbb Tryz.Qmh a c sep w
open Go.RowKit in
theorem Tryz.strings_Join (bk o c : Nat) (xs : List ByteArray) (sep : ByteArray) (w : World) (hcells : ∀ (j : Nat) x, xs[j]? = some x → w.cell? ⟨bk, o + j, none⟩ = some (.string x)) (hbk : bk < w.heap.size) (hN : xs.length ≤ 140737488355328) (hcap : xs.length ≤ c) (hlen : (Lib.join (xs.map (·.data.toList)) sep.data.toList).length ≤ 140737488355328) :
  Calls Tryz.prog 80 #[.slice (some ⟨bk, o, none⟩) xs.length c, .string sep] w fun e w' => e = .returned (.string ⟨(Lib.join (xs.map (·.data.toList)) sep.data.toList).toArray⟩) ∧ Below w.heap.size w w' := Any.strings_Join Tryz.Kbb Tryz.Qmh bk o c xs sep w hcells hbk hN hcap hlen
def Tryz.Q12 : Go.Shelf.Ren := ⟨fun | 171 => 79 | 243 => 131 | 246 => 174 | 283 => 211 | 284 => 212 | 285 => 213 | 286 => 214 | 129 => 257 | 317 => 258 | 318 => 259 | 319 => 260 | 320 => 261 | 337 => 290 | 338 => 291 | n => n, fun | 3 => 3 | 9 => 9 | 2 => 2 | 4 => 4 | 171 => 231 | 0 => 0 | 53 => 232 | 37 => 22 | 5 => 5 | 173 => 235 | 212 => 268 | 51 => 266 | 20 => 20 | 213 => 269 | 46 => 230 | 232 => 327 | 233 => 328 | n => n, fun | 17 => 2 | 18 => 7 | 19 => 8 | n => n⟩
theorem Tryz.Kdx : Go.Proofs.LaysM.n171 Tryz.prog Tryz.Q12 := {
 mixed := by kernel_rfl
 f129 := Tryz.func257.trans (congrArg some (by kernel_rfl))
 f171 := Tryz.func79.trans (congrArg some (by kernel_rfl))
 f243 := Tryz.func131.trans (congrArg some (by kernel_rfl))
 f246 := Tryz.func174.trans (congrArg some (by kernel_rfl))
 f283 := Tryz.func211.trans (congrArg some (by kernel_rfl))
 f284 := Tryz.func212.trans (congrArg some (by kernel_rfl))
 f285 := Tryz.func213.trans (congrArg some (by kernel_rfl))
 f286 := Tryz.func214.trans (congrArg some (by kernel_rfl))
 f317 := Tryz.func258.trans (congrArg some (by kernel_rfl))
 f318 := Tryz.func259.trans (congrArg some (by kernel_rfl))
 f319 := Tryz.func260.trans (congrArg some (by kernel_rfl))
 f320 := Tryz.func261.trans (congrArg some (by kernel_rfl))
 f337 := Tryz.func290.trans (congrArg some (by kernel_rfl))
 f338 := Tryz.func291.trans (congrArg some (by kernel_rfl))
 t0 := Tryz.underlying0
 a0 := Tryz.isAgg0
 z0 := Tryz.sizeOf0
 v0 := Tryz.zeroValue0
 t2 := Tryz.underlying2
 a2 := Tryz.isAgg2
 z2 := Tryz.sizeOf2
 v2 := Tryz.zeroValue2
 t3 := Tryz.underlying3
 a3 := Tryz.isAgg3
 z3 := Tryz.sizeOf3
 v3 := Tryz.zeroValue3
 t4 := Tryz.underlying4
 a4 := Tryz.isAgg4
 z4 := Tryz.sizeOf4
 v4 := Tryz.zeroValue4
 t5 := Tryz.underlying5
 a5 := Tryz.isAgg5
 z5 := Tryz.sizeOf5
 v5 := Tryz.zeroValue5
 t9 := Tryz.underlying9
 a9 := Tryz.isAgg9
 z9 := Tryz.sizeOf9
 v9 := Tryz.zeroValue9
 t20 := Tryz.underlying20
 a20 := Tryz.isAgg20
 z20 := Tryz.sizeOf20
 v20 := Tryz.zeroValue20
 t37 := Tryz.underlying22
 a37 := Tryz.isAgg22
 z37 := Tryz.sizeOf22
 v37 := Tryz.zeroValue22
 t46 := Tryz.underlying230
 a46 := Tryz.isAgg230
 z46 := Tryz.sizeOf230
 v46 := Tryz.zeroValue230
 t51 := Tryz.underlying266
 a51 := Tryz.isAgg266
 z51 := Tryz.sizeOf266
 v51 := Tryz.zeroValue266
 t53 := Tryz.underlying232
 a53 := Tryz.isAgg232
 z53 := Tryz.sizeOf232
 v53 := Tryz.zeroValue232
 t171 := Tryz.underlying231
 a171 := Tryz.isAgg231
 z171 := Tryz.sizeOf231
 v171 := Tryz.zeroValue231
 t173 := Tryz.underlying235
 a173 := Tryz.isAgg235
 z173 := Tryz.sizeOf235
 v173 := Tryz.zeroValue235
 t212 := Tryz.underlying268
 a212 := Tryz.isAgg268
 z212 := Tryz.sizeOf268
 v212 := Tryz.zeroValue268
 t213 := Tryz.underlying269
 a213 := Tryz.isAgg269
 z213 := Tryz.sizeOf269
 t232 := Tryz.underlying327
 a232 := Tryz.isAgg327
 z232 := Tryz.sizeOf327
 v232 := Tryz.zeroValue327
 t233 := Tryz.underlying328
 a233 := Tryz.isAgg328
 z233 := Tryz.sizeOf328
 v233 := Tryz.zeroValue328
 g17 := by kernel_rfl
 g18 := by kernel_rfl
 g19 := by kernel_rfl
 i0 := by kernel_rfl
 i2 := by kernel_rfl
 i3 := by kernel_rfl
 i4 := by kernel_rfl
 i5 := by kernel_rfl
 i9 := by kernel_rfl
 i20 := by kernel_rfl
 i37 := by kernel_rfl
 i46 := by kernel_rfl
 i51 := by kernel_rfl
 i53 := by kernel_rfl
 i171 := by kernel_rfl
 i173 := by kernel_rfl
 i212 := by kernel_rfl
 i232 := by kernel_rfl
 i233 := by kernel_rfl
 m17 := by kernel_rfl
 m18 := by kernel_rfl
 m19 := by kernel_rfl }
open Go.RowKit Go.Sort Go.Lib in
theorem Tryz.strconv_Itoa (n : Int) (h0 : -9223372036854775808 ≤ n) (h1 : n ≤ 9223372036854775807) (w : World) (htab : Lib.TabIs Tryz.prog w "internal/strconv.uint64pow10" .u64 Lib.pow10Tab) :
  Calls Tryz.prog 79 #[.int .i64 n] w fun e w' => e = .returned (.string ⟨(Lib.itoa n).toArray⟩) ∧ ∃ k os, w' = grow (w.drewN k) os := Any.strconv_Itoa Tryz.Kdx n h0 h1 w htab
end Go.Proofs
