/- Operations over abstract values that turn no live block: what they yield, and that the machine's operation yields what this stands for. -/
import Derived.Test.YtjanllllgiehfaaShA
import Derived.Laws.Rows
import Derived.Laws.Strings
import Derived.Laws.BytesArg
import Derived.Lib.ItoaNum
set_option linter.unusedVariables false
set_option linter.unusedSimpArgs false
namespace Go.Proofs.Shadow
open Go Go.RowKit
def ofCell : Value → AV
  | .int k n => .int k n
  | .bool b => .bool b
  | .string s => .str s
  | .slice none 0 0 => .nilsl
  | .pointer none => .nilp
  | .nilFunc => .nilfn
  | v => .opq v
def constOk : Value → Bool
  | .string s => decide (s.size ≤ 4611686018427387904)
  | _ => true
def ofVal : Value → AV
  | .agg vs => if vs.toList.all (fun v => constOk v && v.oneCell') = true then .agg (vs.toList.map ofCell) else .opq (.agg vs)
  | v => ofCell v
theorem ofCell_ok (σ : Sto) (w : World) {v : Value} (h : constOk v = true) : Rv σ w (ofCell v) v := by
  unfold ofCell
  split <;> first | exact .int | exact .bool | (refine .str ?_; simpa [constOk] using h) | exact .nilsl | exact .nilp | exact .nilfn | exact .opq
theorem ofCell_cell {v : Value} (h : v.oneCell' = true) : (ofCell v).isCell = true := by
  unfold ofCell
  split <;> first | rfl | simpa [AV.isCell] using h
theorem ofVal_ok (σ : Sto) (w : World) {v : Value} (h : constOk v = true) : Rv σ w (ofVal v) v := by
  unfold ofVal
  split
  · rename_i vs
    split
    · rename_i ha
      rw [List.all_eq_true] at ha
      refine .agg (by simp) (fun c hc => ?_) (fun i c hi => ?_)
      · obtain ⟨v, hv, rfl⟩ := List.mem_map.1 hc
        have := ha v hv
        rw [Bool.and_eq_true] at this
        exact ofCell_cell this.2
      · rw [List.getElem?_map] at hi
        obtain ⟨v, hv, rfl⟩ := Option.map_eq_some_iff.1 hi
        have := ha v (List.mem_of_getElem? hv)
        rw [Bool.and_eq_true] at this
        have he : vs.getD i undef = v := by
          have : vs[i]? = some v := by rw [← Array.getElem?_toList]; exact hv
          simp [Array.getD_eq_getD_getElem?, this]
        rw [he]
        exact ofCell_ok σ w this.1
    · exact .opq
  · exact ofCell_ok σ w h
theorem ofVal_cell {v : Value} (h : v.oneCell' = true) : (ofVal v).isCell = true := by
  unfold ofVal
  split
  · rename_i vs
    split
    · simp [Value.oneCell'] at h
    · simpa [AV.isCell] using h
  · exact ofCell_cell h
def aev (T : Nat → AV) : Operand → AV
  | .tmp t => T t
  | .const v => ofVal v
  | .global g => .ptr g 0
  | .func f => .fn f []
def operandOk : Operand → Bool
  | .const v => constOk v
  | _ => true
/-! ### What is asked of the types -/
def isAggD : TypeDesc → Bool
  | .struct _ | .array _ _ => true
  | _ => false
/-- struct or array?; its cells -/
def tk (P : Program) (t : TypeId) : Option (Bool × Nat) :=
  match P.info? t, P.underlying t with
  | some i, some d => some (isAggD d, i.size)
  | _, _ => none
/-- a slice type's element type, its cells and bytes -/
def se (P : Program) (t : TypeId) : Option (TypeId × Nat × Nat) :=
  match P.underlying t with
  | some (.slice e) => (P.info? e).map fun i => (e, i.size, i.bytes)
  | _ => none
def cellsAV (cs : List Value) : Option (List AV) := if cs.all (fun v => constOk v && v.oneCell') then some (cs.map ofVal) else none
/-- a type's zero value -/
def tz (P : Program) (t : TypeId) : Option (List AV) :=
  match P.info? t with
  | some i => (match i.zero with | some z => cellsAV z.cells.toList | none => none)
  | none => none
/-- where a field lies -/
def fo (P : Program) (t : TypeId) (f : Nat) : Option Nat :=
  match P.underlying t with
  | some (.struct fs) => (match fs[f]? with
    | some d => (match P.info? d.type with | some i => if i.size = 0 then none else some d.offset | none => none)
    | none => none)
  | _ => none
def fps (P : Program) (t : TypeId) : Option (List (Nat × Nat)) :=
  match P.underlying t with
  | some (.struct fs) => fs.toList.mapM fun f => (P.info? f.type).map fun i => (f.offset, i.size)
  | _ => none
def ik (P : Program) (t : TypeId) : Option IntKind := match P.underlying t with | some (.int k) => some k | _ => none
def isB (P : Program) (t : TypeId) : Bool := match P.underlying t with | some .bool => true | _ => false
def isS (P : Program) (t : TypeId) : Bool := match P.underlying t with | some .string => true | _ => false
/-! ### Operations -/
def avCells : AV → Option (List AV)
  | .agg cs => some cs
  | v => if v.isCell then some [v] else none
def seg (cs : List AV) (o k : Nat) : Option (List AV) := if o + k ≤ cs.length then some ((cs.drop o).take k) else none
def asVal (ag : Bool) (cs : List AV) : Option AV :=
  if ag then some (.agg cs) else match cs with | [c] => some c | _ => none
def mem (σ : Sto) : AV → Option (List AV)
  | .ptr b o => (σ.var b).bind fun e => if o ≤ e.cells.length then some (e.cells.drop o) else none
  | .optr b o => (σ.own b).bind fun e => if o ≤ e.cells.length then some (e.cells.drop o) else none
  | .ept cs => some cs
  | _ => none
def aload (σ : Sto) (k : Option (Bool × Nat)) (p : AV) : Option AV :=
  match k with
  | some (ag, n) => (mem σ p).bind fun cs => (seg cs 0 (if ag then n else 1)).bind (asVal ag)
  | none => none
def afield (off : Option Nat) (p : AV) : Option AV :=
  match off, p with
  | some f, .ptr b o => some (.ptr b (o + f))
  | some f, .optr b o => some (.optr b (o + f))
  | some f, .ept cs => some (.ept (cs.drop f))
  | _, _ => none
def aidx (σ : Sto) (k : Option (TypeId × Nat × Nat)) (x i : AV) : Option AV :=
  match k, x, i with
  | some (_, sz, _), .sl _ xs, .int _ n => if 0 ≤ n ∧ n < (xs.length : Int) ∧ (xs.getD n.toNat []).length = sz then some (.ept (xs.getD n.toNat [])) else none
  | some (_, sz, _), .ref b l _, .int _ n => if 0 ≤ n ∧ n < (l : Int) then some (.optr b (n.toNat * sz)) else none
  | _, _, _ => none
def alen : AV → Option Int
  | .sl _ xs => some xs.length
  | .nilsl => some 0
  | .ref _ n _ => some n
  | .str s => some s.size
  | _ => none
def alenT (str : Bool) (x : AV) : Option AV :=
  match str, x with
  | true, .str s => some (.int .i64 s.size)
  | false, .str _ => none
  | false, v => (alen v).map (.int .i64)
  | _, _ => none
def aindex (str : Bool) (x i : AV) : Option AV :=
  match str, x, i with
  | true, .str s, .int _ n => if 0 ≤ n ∧ n < (s.size : Int) then some (.int .u8 ((s.data.toList.getD n.toNat 0).toNat : Int)) else none
  | _, _, _ => none
def abinI (op : BinOp) (k : IntKind) (a b : Int) : Option AV :=
  match op with
  | .add => some (.int k (k.wrap (a + b)))
  | .sub => some (.int k (k.wrap (a - b)))
  | .mul => some (.int k (k.wrap (a * b)))
  | .quo => if b = 0 then none else some (.int k (k.wrap (a.tdiv b)))
  | .rem => if b = 0 then none else some (.int k (a.tmod b))
  | .xor => some (.int k (bits .xor k a b))
  | .and => some (.int k (bits .and k a b))
  | .or => some (.int k (bits .or k a b))
  | .eql => some (.bool (decide (a = b)))
  | .neq => some (.bool (!decide (a = b)))
  | .lss => some (.bool (decide (a < b)))
  | .leq => some (.bool (decide (a ≤ b)))
  | .gtr => some (.bool (decide (a > b)))
  | .geq => some (.bool (decide (a ≥ b)))
  | _ => none
def abinS (op : BinOp) (x y : ByteArray) : Option AV :=
  match op with
  | .add => if x.size + y.size ≤ 4611686018427387904 then some (.str (x ++ y)) else none
  | .eql => some (.bool (decide (x = y)))
  | .neq => some (.bool (!decide (x = y)))
  | _ => none
/-- A slice held against nil: what is known of it ('ub': one of the two). -/
def anilq (op : BinOp) (b : Bool) : Option AV := match op with | .eql => some (.bool b) | .neq => some (.bool !b) | _ => none
def anilu (op : BinOp) : Option AV := match op with | .eql => some .ub | .neq => some .ub | _ => none
def abin (isb isl : Bool) (op : BinOp) (x y : AV) : Option AV :=
  match x, y with
  | .nilsl, .nilsl => if isl then anilq op true else none
  | .sl _ [], .nilsl => if isl then anilu op else none
  | .sl _ (_ :: _), .nilsl => if isl then anilq op false else none
  | .int k a, .int k' b => if k = k' then abinI op k a b else none
  | .str a, .str b => abinS op a b
  | .bool a, .bool b => if isb then (match op with | .eql => some (.bool (a == b)) | .neq => some (.bool (!(a == b))) | _ => none) else none
  | _, _ => none
def aun (op : UnOp) (x : AV) : Option AV :=
  match op, x with
  | .not, .bool b => some (.bool !b)
  | .neg, .int k n => some (.int k (k.wrap (0 - n)))
  | _, _ => none
def aext (x : AV) (i : Nat) : Option AV := match x with | .tup vs => vs[i]? | _ => none
def splice (cells : List AV) (o : Nat) (cs : List AV) : List AV := cells.take o ++ cs ++ cells.drop (o + cs.length)
def afill (places : List (Nat × Nat)) (cells : List AV) : List (Nat × AV) → Option (List AV)
  | [] => some cells
  | (i, v) :: rest =>
    match places[i]?, avCells v with
    | some (off, size), some cs => if cs.length = size ∧ off + size ≤ cells.length then afill places (splice cells off cs) rest else none
    | _, _ => none
def abuild (z : Option (List AV)) (places : Option (List (Nat × Nat))) (parts : List (Nat × AV)) : Option AV :=
  match z, places with
  | some z, some ps => (afill ps z parts).map .agg
  | _, _ => none
def rowsOf (sz : Nat) : Nat → List (Nat × AV) → Option (List (List AV))
  | _, [] => some []
  | k, (i, v) :: rest =>
    match avCells v with
    | some cs => if i = k ∧ cs.length = sz then (rowsOf sz (k + 1) rest).map (cs :: ·) else none
    | none => none
def abslice (k : Option (TypeId × Nat × Nat)) (z : Bool) (len : Nat) (parts : List (Nat × AV)) : Option AV :=
  match k with
  | some (_, sz, _) => if z = true ∧ len ≤ 16777216 ∧ len * sz ≤ 16777216 ∧ parts.length = len then (rowsOf sz 0 parts).map (.sl true) else none
  | none => none
def anil (x : AV) : Option AV :=
  match x with
  | .ptr b o => some (.ptr b o)
  | .optr b o => some (.optr b o)
  | .ept cs => some (.ept cs)
  | .fn f c => some (.fn f c)
  | _ => none
/-- x[lo:hi] of a string, of a slice up to its length -/
def bound (d : Int) : Option AV → Option Int
  | none => some d
  | some (.int _ n) => some n
  | _ => none
def aslice (str : Bool) (k : Option (TypeId × Nat × Nat)) (x : AV) (lo hi mx : Option AV) : Option AV :=
  match x with
  | .str s => if str = true ∧ mx.isNone then (bound 0 lo).bind fun l => (bound s.size hi).bind fun h => if 0 ≤ l ∧ l ≤ h ∧ h ≤ s.size then some (.str (s.extract l.toNat h.toNat)) else none else none
  | .sl c xs =>
    match k with
    | some (_, sz, _) =>
      if xs.all (fun x => x.length == sz) then
        (bound 0 lo).bind fun l => (bound xs.length hi).bind fun h =>
          match mx with
          | none => if 0 ≤ l ∧ l ≤ h ∧ h ≤ xs.length then some (.sl (c && decide (h = xs.length)) ((xs.drop l.toNat).take (h - l).toNat)) else none
          | some (.int _ m) => if hi.isSome = true ∧ 0 ≤ l ∧ l ≤ h ∧ h = m ∧ m ≤ xs.length then some (.sl true ((xs.drop l.toNat).take (h - l).toNat)) else none
          | _ => none
      else none
    | none => none
  | .ref b n cap =>
    match k with
    | some _ => (bound 0 lo).bind fun l => (bound n hi).bind fun h => if l = 0 ∧ 0 ≤ h ∧ h ≤ n ∧ mx.isNone = true then some (.ref b h.toNat cap) else none
    | none => none
  | _ => none
/-- The names of the built-in functions, as the program's table has them. -/
def primTab : List ByteArray := [ByteArray.mk #[108, 105, 115, 116], ByteArray.mk #[43], ByteArray.mk #[60], ByteArray.mk #[61], ByteArray.mk #[104, 101, 97, 100], ByteArray.mk #[116, 97, 105, 108]]
/-- The tables of which the program's text is known: nobody writes them. -/
def tabs : List (String × List Value) := [("internal/strconv.uint64pow10", Lib.pow10Tab.map (Value.int .u64)), ("loop.example/macroexpander/impl.primitives", primTab.map Value.string)]
/-- A value of one cell, as data. -/
def cellOf : Value → Option AV
  | .int k n => some (.int k n)
  | .bool b => some (.bool b)
  | .string s => if s.size ≤ 4611686018427387904 then some (.str s) else none
  | _ => none
/-- A laid table cut whole. -/
def tcut (P : Program) (t : TypeId) (g : Nat) : Option AV :=
  match P.underlying t, tabs.find? (fun x => P.globalNamed x.1 == some g) with
  | some (.array n e), some x => if (P.info? e).isSome = true ∧ n = x.2.length ∧ 0 < n ∧ n ≤ 4611686018427387904 then (x.2.mapM cellOf).map fun l => .sl true (l.map fun a => [a]) else none
  | _, _ => none
/-- A cut of a table, or of a slice or a string. -/
def aslT (P : Program) (t : TypeId) (str : Bool) (k : Option (TypeId × Nat × Nat)) (x : AV) (lo hi mx : Option AV) : Option AV :=
  match x with
  | .ptr g 0 => if (lo.isNone && hi.isNone && mx.isNone) = true then tcut P t g else none
  | .ptr _ _ => none
  | x => aslice str k x lo hi mx
def bytesOf : List (List AV) → Option (List Int)
  | [] => some []
  | [.int .u8 n] :: rest => (bytesOf rest).map (n :: ·)
  | _ => none
def aconv (k : Option IntKind) (u8 str : Bool) (x : AV) : Option AV :=
  match k, x with
  | some k, .int _ n => some (.int k (k.wrap n))
  | none, .sl _ xs => if u8 && str then (bytesOf xs).map fun l => .str (strOfNums l) else none
  | none, .nilsl => if u8 && str then some (.str .empty) else none
  | _, _ => none
def isU8s (P : Program) (t : TypeId) : Bool := match P.underlying t with | some (.slice e) => (match P.underlying e with | some (.int .u8) => true | _ => false) | _ => false
def hasU (P : Program) (t : TypeId) : Bool := (P.underlying t).isSome
def amax (x y : AV) : Option AV :=
  match x, y with
  | .int k a, .int k' b => if k = k' then some (.int k (if b > a then b else a)) else none
  | _, _ => none
def vop (P : Program) (σ : Sto) (ρ : Operand → AV) : Op → Option AV
  | .move x | .assign x => some (ρ x)
  | .pick c a b => (match ρ c with | .bool t => some (bif t then ρ a else ρ b) | _ => none)
  | .load t p => aload σ (tk P t) (ρ p)
  | .nilCheck x => anil (ρ x)
  | .fieldAddr t x f => afield (fo P t f) (ρ x)
  | .indexAddr t x i => aidx σ (se P t) (ρ x) (ρ i)
  | .index t x i => aindex (isS P t) (ρ x) (ρ i)
  | .binOp op t x y _ => abin (isB P t) (se P t).isSome op (ρ x) (ρ y)
  | .unOp op _ x => aun op (ρ x)
  | .extract x i => aext (ρ x) i
  | .build t parts => abuild (tz P t) (fps P t) (parts.toList.map fun p => (p.1, ρ p.2))
  | .buildSlice t len parts => abslice (se P t) ((se P t).bind fun k => tz P k.1).isSome len (parts.toList.map fun p => (p.1, ρ p.2))
  | .slice t x lo hi mx => aslT P t (isS P t) (se P t) (ρ x) (lo.map ρ) (hi.map ρ) (mx.map ρ)
  | .convert s d x => if hasU P s then aconv (ik P d) (isU8s P s) (isS P d) (ρ x) else none
  | .makeFunc (.func f) first caps => if first.size = 0 then some (.fn f (caps.toList.map ρ)) else none
  | .call { callee := .builtin .len, args, argTypes } =>
    (match args.toList, argTypes.toList with
     | [x], [t] => if isS P t || (se P t).isSome then alenT (isS P t) (ρ x) else none
     | _, _ => none)
  | .call { callee := .builtin .max, args, .. } =>
    (match args.toList with | [x, y] => amax (ρ x) (ρ y) | _ => none)
  | _ => none
end Go.Proofs.Shadow
