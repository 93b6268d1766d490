/- The tables out of a row's condition. -/
import Derived.Test.YtjanllllgiehfaaFmE
import Derived.Lib.LaidTab
import Derived.Stop.LaidErr
set_option linter.unusedVariables false
namespace Go.Proofs.Shadow
open Go Go.RowKit
/-- A table of strings as a row lists it. -/
def strData {H : Type} (zs : List ByteArray) : DataW H := .agg (zs.map fun z => .lit (.string z.data.toList))
theorem cells_of_strs {H : Type} {enc : TypeId × Value → H} {P : Program} {w : World} {base : Nat} {sp : Nat → Bool} {held : Bool} {fuel : Nat} {t e : TypeId} {n : Nat} {cs : List Value} {zs : List ByteArray} {p : List MemPlace}
    (ht : P.underlying t = some (.array n e)) (he : P.underlying e = some .string) (hce : P.cellsOf e = 1) (hct : P.cellsOf t = n)
    (h : DataW.trod enc P w base sp held fuel t cs = some (strData zs, p)) : cs = zs.map fun z => Value.string z := by
  cases fuel with
  | zero => simp [DataW.trod] at h
  | succ fuel =>
    simp only [DataW.trod, ht, hce, hct, Nat.mul_one] at h
    split at h
    · rename_i hl
      obtain ⟨xs, hm, hx⟩ := Option.map_eq_some_iff.1 h
      have hxs : xs.map (·.1) = zs.map fun z => (DataW.lit (.string z.data.toList) : DataW H) := by
        have := congrArg Prod.fst hx
        simpa [strData] using this
      have hxl : xs.length = n := by simpa using Lib.mapM_length hm
      have hzl : zs.length = n := by
        have := congrArg List.length hxs
        simp at this
        omega
      apply List.ext_getElem?
      intro i
      by_cases hi : i < n
      · obtain ⟨b, hb, hf⟩ := Lib.mapM_at hm i i (by simp [hi])
        obtain ⟨z, hc, rfl, _⟩ := DataW.trod_string he hf
        have h1 : cs[i]? = some (.string z) := by
          have := congrArg (·[0]?) hc
          simpa [List.getElem?_take, List.getElem?_drop] using this
        have h2 : (xs.map (·.1))[i]? = some (DataW.lit (.string z.data.toList) : DataW H) := by simp [hb]
        rw [hxs] at h2
        simp only [List.getElem?_map, Option.map_eq_some_iff, DataW.lit.injEq, Lit.string.injEq] at h2
        obtain ⟨z', hz', hz2⟩ := h2
        have : z' = z := by
          cases z'; cases z; simp at hz2 ⊢; exact hz2
        simp [h1, hz', this]
      · rw [List.getElem?_eq_none (by omega), List.getElem?_eq_none (by simp; omega)]
    · cases h
theorem strs_of_head {P : Program} {W : World} {name : String} {zs : List ByteArray} {rest : List (String × DataW Unit)} {g : Nat} {t e : TypeId} {n : Nat}
    (hg : P.globalNamed name = some g) (hty : (P.globals[g]?).map (·.type) = some t) (ht : P.underlying t = some (.array n e)) (he : P.underlying e = some .string) (hce : P.cellsOf e = 1) (hct : P.cellsOf t = n)
    (h : laidMet P ((name, strData zs) :: rest) W) : W.var? P name = some (zs.map fun z => Value.string z).toArray := by
  obtain ⟨ps, ⟨g', t', cs, fuel, p, q, hg', ht', hvar, hd, _, _⟩, _⟩ := h
  obtain rfl := Option.some.inj (hg.symm.trans hg')
  obtain rfl := Option.some.inj (hty.symm.trans ht')
  rw [hvar, ← cells_of_strs ht he hce hct hd]
theorem Tb.of_two {P : Program} {W : World} (h1 : ∀ g, P.globalNamed "internal/strconv.uint64pow10" = some g → W.var? P "internal/strconv.uint64pow10" = some (Lib.pow10Tab.map (Value.int .u64)).toArray)
    (h2 : ∀ g, P.globalNamed "loop.example/macroexpander/impl.primitives" = some g → W.var? P "loop.example/macroexpander/impl.primitives" = some (primTab.map Value.string).toArray) : Tb P sto0 W := fun x hx g hg => by
  simp only [tabs, List.mem_cons, List.not_mem_nil, or_false] at hx
  rcases hx with rfl | rfl
  · exact ⟨sto0_dead _, h1 g hg⟩
  · exact ⟨sto0_dead _, h2 g hg⟩
/-- A program with the first table alone. -/
theorem Tb.of_laid {P : Program} {W : World} {rest : List (String × DataW Unit)} {g : Nat} {t e : TypeId} {n : Nat} (hp : P.globalNamed "loop.example/macroexpander/impl.primitives" = Option.none) (hg : P.globalNamed "internal/strconv.uint64pow10" = some g) (hty : (P.globals[g]?).map (·.type) = some t) (ht : P.underlying t = some (.array n e)) (he : P.underlying e = some (.int .u64)) (hce : P.cellsOf e = 1) (hct : P.cellsOf t = n)
    (h : laidMet P (("internal/strconv.uint64pow10", Lib.tabData .u64 Lib.pow10Tab) :: rest) W) : Tb P sto0 W :=
  .of_two (fun _ _ => Lib.tabIs_of_head hg hty ht he hce hct h) (fun g' hg' => by rw [hp] at hg'; cases hg')
/-- .. with the second alone. -/
theorem Tb.of_prims {P : Program} {W : World} {rest : List (String × DataW Unit)} {g : Nat} {t e : TypeId} {n : Nat} (hp : P.globalNamed "internal/strconv.uint64pow10" = Option.none) (hg : P.globalNamed "loop.example/macroexpander/impl.primitives" = some g) (hty : (P.globals[g]?).map (·.type) = some t) (ht : P.underlying t = some (.array n e)) (he : P.underlying e = some .string) (hce : P.cellsOf e = 1) (hct : P.cellsOf t = n)
    (h : laidMet P (("loop.example/macroexpander/impl.primitives", strData primTab) :: rest) W) : Tb P sto0 W :=
  .of_two (fun g' hg' => by rw [hp] at hg'; cases hg') (fun _ _ => strs_of_head hg hty ht he hce hct h)
/-- .. with both. -/
theorem Tb.of_both {P : Program} {W : World} {rest rest2 : List (String × DataW Unit)} {g : Nat} {t e : TypeId} {n : Nat} (hg : P.globalNamed "internal/strconv.uint64pow10" = some g) (hty : (P.globals[g]?).map (·.type) = some t) (ht : P.underlying t = some (.array n e)) (he : P.underlying e = some (.int .u64)) (hce : P.cellsOf e = 1) (hct : P.cellsOf t = n)
    {g2 : Nat} {t2 e2 : TypeId} {n2 : Nat} (hg2 : P.globalNamed "loop.example/macroexpander/impl.primitives" = some g2) (hty2 : (P.globals[g2]?).map (·.type) = some t2) (ht2 : P.underlying t2 = some (.array n2 e2)) (he2 : P.underlying e2 = some .string) (hce2 : P.cellsOf e2 = 1) (hct2 : P.cellsOf t2 = n2)
    (h : laidMet P (("internal/strconv.uint64pow10", Lib.tabData .u64 Lib.pow10Tab) :: rest) W) (h2 : laidMet P (("loop.example/macroexpander/impl.primitives", strData primTab) :: rest2) W) : Tb P sto0 W :=
  .of_two (fun _ _ => Lib.tabIs_of_head hg hty ht he hce hct h) (fun _ _ => strs_of_head hg2 hty2 ht2 he2 hce2 hct2 h2)
end Go.Proofs.Shadow
