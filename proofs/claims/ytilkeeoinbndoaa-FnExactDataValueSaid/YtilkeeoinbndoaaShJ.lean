/- The walk: rewriting rules for the abstract code, and the steps where it stops. -/
import Derived.Test.YtilkeeoinbndoaaShI
set_option linter.unusedVariables false
set_option linter.unusedSimpArgs false
namespace Go.Proofs.Shadow
open Go Go.RowKit
section
variable {P : Program}
theorem AS.put_some (T : Nat → AV) (σ : Sto) (d : Tmp) (v : AV) : AS.put ⟨T, σ⟩ (some d) v = ⟨upd T d v, σ⟩ := (rfl)
theorem AS.put_none (T : Nat → AV) (σ : Sto) (v : AV) : AS.put ⟨T, σ⟩ none v = ⟨T, σ⟩ := (rfl)
theorem upd_app (T : Nat → AV) (d i : Nat) (v : AV) : upd T d v i = if i = d then v else T i := (rfl)
theorem T0_zero (a : AV) (as : List AV) : T0 (a :: as) 0 = a := (rfl)
theorem T0_succ (a : AV) (as : List AV) (i : Nat) : T0 (a :: as) (i + 1) = T0 as i := (rfl)
theorem T0_nil (i : Nat) : T0 [] i = skipped := (rfl)
theorem acode_skip (Q : AX → AS → Prop) (s : AS) : acode P .skip Q s = Q .nrm s := (rfl)
theorem acode_region (id : Nat) (ops : Array Oper) (Q : AX → AS → Prop) (s : AS) : acode P (.region id ops false) Q s = aops P (ops.toList.map (·.dst)) ops.toList (Q .nrm) s := (rfl)
theorem acode_draw (id : Nat) (ops : Array Oper) (Q : AX → AS → Prop) (s : AS) : acode P (.region id ops true) Q s = aDraw P ops (Q .nrm) s := (rfl)
theorem acode_seq (x y : Code) (Q : AX → AS → Prop) (s : AS) : acode P (.seq x y) Q s = acode P x (thn (acode P y Q) Q) s := (rfl)
def aCnd (P : Program) (c : AV) (x y : Code) (Q : AX → AS → Prop) (s : AS) : Prop := aCond c (acode P x Q s) (acode P y Q s)
def aGd (P : Program) (g : Option Bool) (o : Oper) (s : AS) (K : AS → Prop) : Prop := aGuard g (aop P o s K) (K (s.put o.dst skipped))
theorem acode_cond (c : Operand) (x y : Code) (Q : AX → AS → Prop) (s : AS) : acode P (.cond c x y) Q s = aCnd P (aev s.T c) x y Q s := (rfl)
theorem acode_block (id : Nat) (c : Code) (Q : AX → AS → Prop) (s : AS) : acode P (.block id c) Q s = acode P c (inBlk id Q) s := (rfl)
theorem acode_loop (c : Code) (Q : AX → AS → Prop) (s : AS) : acode P (.loop c) Q s = aLoop P (acode P c) Q s := (rfl)
theorem acode_exit (id : Nat) (Q : AX → AS → Prop) (s : AS) : acode P (.exit id) Q s = Q (.ex id) s := (rfl)
theorem acode_ret (Q : AX → AS → Prop) (s : AS) : acode P .ret Q s = Q .ret s := (rfl)
theorem thn_nrm (k : AS → Prop) (Q : AX → AS → Prop) : thn k Q .nrm = k := (rfl)
theorem thn_ex (k : AS → Prop) (Q : AX → AS → Prop) (id : Nat) : thn k Q (.ex id) = Q (.ex id) := (rfl)
theorem thn_ret (k : AS → Prop) (Q : AX → AS → Prop) : thn k Q .ret = Q .ret := (rfl)
theorem inBlk_nrm (id : Nat) (Q : AX → AS → Prop) : inBlk id Q .nrm = Q .nrm := (rfl)
theorem inBlk_ex (id id' : Nat) (Q : AX → AS → Prop) : inBlk id Q (.ex id') = if id' = id then Q .nrm else Q (.ex id') := by
  funext s
  simp only [inBlk]
  split <;> rfl
theorem inBlk_ret (id : Nat) (Q : AX → AS → Prop) : inBlk id Q .ret = Q .ret := (rfl)
theorem aEnd_nrm (rs : List ResultVar) (Q : AV → Sto → Prop) (s : AS) : aEnd P rs Q .nrm s = aRet P rs Q s := (rfl)
theorem aEnd_ret (rs : List ResultVar) (Q : AV → Sto → Prop) (s : AS) : aEnd P rs Q .ret s = aRet P rs Q s := (rfl)
theorem aops_nil (D : List (Option Tmp)) (K : AS → Prop) (s : AS) : aops P D [] K s = K s := (rfl)
theorem aops_cons (D : List (Option Tmp)) (o : Oper) (os : List Oper) (K : AS → Prop) (s : AS) : aops P D (o :: os) K s = aop1 P D o s (aops P D os K) := (rfl)
theorem aop1_none (D : List (Option Tmp)) (dst : Option Tmp) (op : Op) (ty : TypeId) (pos : String) (af : Array Edge) (s : AS) (K : AS → Prop) : aop1 P D ⟨dst, op, ty, pos, af, none⟩ s K = aop P ⟨dst, op, ty, pos, af, none⟩ s K := by
  simp [aop1, aGuard, gw]
theorem aop1_some (D : List (Option Tmp)) (dst : Option Tmp) (op : Op) (ty : TypeId) (pos : String) (af : Array Edge) (g : Nat × Bool) (s : AS) (K : AS → Prop) :
    aop1 P D ⟨dst, op, ty, pos, af, some g⟩ s K = aGd P (gw D s.T (some g)) ⟨dst, op, ty, pos, af, none⟩ s K := (rfl)
def gwv (v : AV) (want : Bool) : Option Bool := match v with | .bool b => some (b == want) | .tup [] => some false | _ => none
theorem gwv_bool (b want : Bool) : gwv (.bool b) want = some (b == want) := (rfl)
theorem gwv_skip (want : Bool) : gwv skipped want = some false := (rfl)
theorem gw_eq (D : List (Option Tmp)) (T : Nat → AV) (j : Nat) (want : Bool) : gw D T (some (j, want)) = match gd D j with | some d => gwv (T d) want | none => some false := by
  cases h : gd D j with
  | none => simp only [gw, h]
  | some d =>
    simp only [gw, h, gwv]
    cases T d with
    | tup vs => cases vs <;> rfl
    | _ => rfl
theorem gd_eq (D : List (Option Tmp)) (j : Nat) : gd D j = (D[j]?).bind id := (rfl)
theorem aGd_true (o : Oper) (s : AS) (K : AS → Prop) : aGd P (some true) o s K = aop P o s K := by simp [aGd, aGuard]
theorem aGd_false (o : Oper) (s : AS) (K : AS → Prop) : aGd P (some false) o s K = K (s.put o.dst skipped) := by simp [aGd, aGuard]
theorem aGd_intro {t : Bool} {o : Oper} {s : AS} {K : AS → Prop} (h1 : t = true → aop P o s K) (h2 : t = false → K (s.put o.dst skipped)) : aGd P (some t) o s K := ⟨t, rfl, h1, h2⟩
theorem aCnd_true (x y : Code) (Q : AX → AS → Prop) (s : AS) : aCnd P (.bool true) x y Q s = acode P x Q s := by simp [aCnd, aCond]
theorem aCnd_false (x y : Code) (Q : AX → AS → Prop) (s : AS) : aCnd P (.bool false) x y Q s = acode P y Q s := by simp [aCnd, aCond]
theorem aVal_some (v : AV) (s : AS) (dst : Option Tmp) (K : AS → Prop) : aVal (some v) s dst K = K (s.put dst v) := (rfl)
section
variable (dst : Option Tmp) (ty : TypeId) (pos : String) (af : Array Edge) (s : AS) (K : AS → Prop)
theorem aop_move (x : Operand) : aop P ⟨dst, .move x, ty, pos, af, none⟩ s K = K (s.put dst (aev s.T x)) := (rfl)
theorem aop_assign (x : Operand) : aop P ⟨dst, .assign x, ty, pos, af, none⟩ s K = K (s.put dst (aev s.T x)) := (rfl)
theorem aop_pick (c a b : Operand) : aop P ⟨dst, .pick c a b, ty, pos, af, none⟩ s K = aVal (match aev s.T c with | .bool t => some (bif t then aev s.T a else aev s.T b) | _ => none) s dst K := (rfl)
theorem aop_load (t : TypeId) (p : Tmp) : aop P ⟨dst, .load t (.tmp p), ty, pos, af, none⟩ s K = aVal (aload s.σ (tk P t) (aev s.T (.tmp p))) s dst K := (rfl)
theorem aop_loadG (t : TypeId) (g : Nat) : aop P ⟨dst, .load t (.global g), ty, pos, af, none⟩ s K = aVal (tload P s.σ t g) s dst K := (rfl)
theorem aop_nilCheck (x : Operand) : aop P ⟨dst, .nilCheck x, ty, pos, af, none⟩ s K = aVal (anil (aev s.T x)) s dst K := (rfl)
theorem aop_fieldAddr (t : TypeId) (x : Operand) (f : Nat) : aop P ⟨dst, .fieldAddr t x f, ty, pos, af, none⟩ s K = aVal (afield (fo P t f) (aev s.T x)) s dst K := (rfl)
theorem aop_indexAddr (t : TypeId) (x i : Operand) : aop P ⟨dst, .indexAddr t x i, ty, pos, af, none⟩ s K = aVal (aidx s.σ (se P t) (aev s.T x) (aev s.T i)) s dst K := (rfl)
theorem aop_index (t : TypeId) (x i : Operand) : aop P ⟨dst, .index t x i, ty, pos, af, none⟩ s K = aVal (aindexV P t (isS P t) (aev s.T x) (aev s.T i)) s dst K := (rfl)
theorem aop_binOp (op : BinOp) (t : TypeId) (x y : Operand) (t2 : TypeId) : aop P ⟨dst, .binOp op t x y t2, ty, pos, af, none⟩ s K = aVal (abin (isB P t) (se P t).isSome op (aev s.T x) (aev s.T y)) s dst K := (rfl)
theorem aop_unOp (op : UnOp) (t : TypeId) (x : Operand) : aop P ⟨dst, .unOp op t x, ty, pos, af, none⟩ s K = aVal (aun op (aev s.T x)) s dst K := (rfl)
theorem aop_extract (x : Operand) (i : Nat) : aop P ⟨dst, .extract x i, ty, pos, af, none⟩ s K = aVal (aext (aev s.T x) i) s dst K := (rfl)
theorem aop_build (t : TypeId) (parts : Array (Nat × Operand)) : aop P ⟨dst, .build t parts, ty, pos, af, none⟩ s K = aVal (abuild (tz P t) (fps P t) (parts.toList.map fun p => (p.1, aev s.T p.2))) s dst K := (rfl)
theorem aop_buildSlice (t : TypeId) (len : Nat) (parts : Array (Nat × Operand)) : aop P ⟨dst, .buildSlice t len parts, ty, pos, af, none⟩ s K = aVal (abslice (se P t) ((se P t).bind fun k => tz P k.1).isSome len (parts.toList.map fun p => (p.1, aev s.T p.2))) s dst K := (rfl)
theorem aop_slice (t : TypeId) (x : Operand) (lo hi mx : Option Operand) : aop P ⟨dst, .slice t x lo hi mx, ty, pos, af, none⟩ s K = aSl (aslT P t (isS P t) (se P t) (aev s.T x) (lo.map (aev s.T)) (hi.map (aev s.T)) (mx.map (aev s.T))) s dst K := (rfl)
theorem aslT_sl (t : TypeId) (b : Bool) (k : Option (TypeId × Nat × Nat)) (c : Bool) (r : List (List AV)) (lo hi mx : Option AV) : aslT P t b k (.sl c r) lo hi mx = aslice b k (.sl c r) lo hi mx := (rfl)
theorem aslT_str (t : TypeId) (b : Bool) (k : Option (TypeId × Nat × Nat)) (c : ByteArray) (lo hi mx : Option AV) : aslT P t b k (.str c) lo hi mx = aslice b k (.str c) lo hi mx := (rfl)
theorem aslT_ref (t : TypeId) (b : Bool) (k : Option (TypeId × Nat × Nat)) (c n m : Nat) (lo hi mx : Option AV) : aslT P t b k (.ref c n m) lo hi mx = aslice b k (.ref c n m) lo hi mx := (rfl)
theorem aslT_nil (t : TypeId) (b : Bool) (k : Option (TypeId × Nat × Nat)) (lo hi mx : Option AV) : aslT P t b k .nilsl lo hi mx = aslice b k .nilsl lo hi mx := (rfl)
theorem aslT_tab (t : TypeId) (b : Bool) (k : Option (TypeId × Nat × Nat)) (g : Nat) : aslT P t b k (.ptr g 0) none none none = tcut P t g := (rfl)
theorem aSl_sl (c : Bool) (r : List (List AV)) (s : AS) (dst : Option Tmp) (K : AS → Prop) : aSl (some (.sl c r)) s dst K = K (s.put dst (.sl c r)) := (rfl)
theorem aSl_str (c : ByteArray) (s : AS) (dst : Option Tmp) (K : AS → Prop) : aSl (some (.str c)) s dst K = K (s.put dst (.str c)) := (rfl)
theorem aop_convert (t d : TypeId) (x : Operand) : aop P ⟨dst, .convert t d x, ty, pos, af, none⟩ s K = aVal (if hasU P t then aconv (ik P d) (isU8s P t) (isS P d) (aev s.T x) else none) s dst K := (rfl)
theorem aop_makeFunc (f : FuncId) (caps : Array Operand) : aop P ⟨dst, .makeFunc (.func f) #[] caps, ty, pos, af, none⟩ s K = K (s.put dst (.fn f (caps.toList.map (aev s.T)))) := (rfl)
theorem aop_alloc (t : TypeId) : aop P ⟨dst, .alloc t, ty, pos, af, none⟩ s K = aAlloc (tz P t) t s dst K := (rfl)
theorem aop_box (t : TypeId) (x : Operand) : aop P ⟨dst, .box t x, ty, pos, af, none⟩ s K = aAlloc (avCells (aev s.T x)) t s dst K := (rfl)
theorem aop_store (t : TypeId) (p x : Operand) : aop P ⟨dst, .store t p x, ty, pos, af, none⟩ s K = aStore (astore (tk P t) s.σ (aev s.T p) (aev s.T x)) s dst K := (rfl)
theorem aop_makeSlice (t : TypeId) (l c : Operand) : aop P ⟨dst, .makeSlice t l c, ty, pos, af, none⟩ s K = aMake (se P t) ((se P t).bind fun k => tz P k.1) (aev s.T l) (aev s.T c) s dst K := (rfl)
theorem aop_call (f : Operand) (args : Array Operand) (tys : Array TypeId) : aop P ⟨dst, .call ⟨.value f, args, tys⟩, ty, pos, af, none⟩ s K = aCall P (aev s.T f) (args.toList.map (aev s.T)) s dst K := (rfl)
theorem aop_append (x y : Operand) (t : TypeId) : aop P ⟨dst, .call ⟨.builtin .append, #[x, y], #[t, t]⟩, ty, pos, af, none⟩ s K = aAppend (se P t) (aev s.T x) (aev s.T y) s dst K := by
  simp [aop]
theorem aop_len (x : Operand) (t : TypeId) : aop P ⟨dst, .call ⟨.builtin .len, #[x], #[t]⟩, ty, pos, af, none⟩ s K = aVal (if isS P t || (se P t).isSome then alenT (isS P t) (aev s.T x) else none) s dst K := (rfl)
theorem aop_max (x y : Operand) (tys : Array TypeId) : aop P ⟨dst, .call ⟨.builtin .max, #[x, y], tys⟩, ty, pos, af, none⟩ s K = aVal (amax (aev s.T x) (aev s.T y)) s dst K := (rfl)
end
theorem bif_true_ {α : Type} (a b : α) : (bif true then a else b) = a := (rfl)
theorem bif_false_ {α : Type} (a b : α) : (bif false then a else b) = b := (rfl)
theorem if_t_ {α : Type} (a b : α) : (if true = true then a else b) = a := (rfl)
theorem if_f_ {α : Type} (a b : α) : (if false = true then a else b) = b := (rfl)
theorem aev_tmp (T : Nat → AV) (t : Tmp) : aev T (.tmp t) = T t := (rfl)
theorem aev_int (T : Nat → AV) (k : IntKind) (n : Int) : aev T (.const (.int k n)) = .int k n := (rfl)
theorem aev_bool (T : Nat → AV) (b : Bool) : aev T (.const (.bool b)) = .bool b := (rfl)
theorem aev_str (T : Nat → AV) (s : ByteArray) : aev T (.const (.string s)) = .str s := (rfl)
theorem aev_nilsl (T : Nat → AV) : aev T (.const (.slice none 0 0)) = .nilsl := (rfl)
theorem aev_nilp (T : Nat → AV) : aev T (.const (.pointer none)) = .nilp := (rfl)
theorem aev_global (T : Nat → AV) (g : Nat) : aev T (.global g) = .ptr g 0 := (rfl)
theorem aev_func (T : Nat → AV) (f : FuncId) : aev T (.func f) = .fn f [] := (rfl)
/-! ### memory -/
theorem var_set (σ : Sto) (b b' : Nat) (e : Ent) : (σ.setVar b e).var b' = if b' = b then some e else σ.var b' := (rfl)
theorem own_setVar (σ : Sto) (b : Nat) (e : Ent) : (σ.setVar b e).own = σ.own := (rfl)
theorem own_set (σ : Sto) (b b' : Nat) (e : Ent) : (σ.setOwn b e).own b' = if b' = b then some e else σ.own b' := (rfl)
theorem var_setOwn (σ : Sto) (b : Nat) (e : Ent) : (σ.setOwn b e).var = σ.var := (rfl)
theorem set_set (σ : Sto) (b : Nat) (e e' : Ent) : (σ.setVar b e).setVar b e' = σ.setVar b e' := by
  simp only [Sto.setVar]
  congr 1
  funext i
  split <;> rfl
theorem aload_ptr (σ : Sto) (ag : Bool) (k b o : Nat) : aload σ (some (ag, k)) (.ptr b o) = ((σ.var b).bind fun e => if o ≤ e.cells.length then some (e.cells.drop o) else none).bind fun cs => (seg cs 0 (if ag then k else 1)).bind (asVal ag) := (rfl)
theorem aload_ept (σ : Sto) (ag : Bool) (k : Nat) (cs : List AV) : aload σ (some (ag, k)) (.ept cs) = (seg cs 0 (if ag then k else 1)).bind (asVal ag) := (rfl)
theorem seg_eq (cs : List AV) (o k : Nat) : seg cs o k = if o + k ≤ cs.length then some ((cs.drop o).take k) else none := (rfl)
theorem asVal_true (cs : List AV) : asVal true cs = some (.agg cs) := (rfl)
theorem asVal_one (c : AV) : asVal false [c] = some c := (rfl)
theorem afield_ptr (f b o : Nat) : afield (some f) (.ptr b o) = some (.ptr b (o + f)) := (rfl)
theorem afield_ept (f : Nat) (cs : List AV) : afield (some f) (.ept cs) = some (.ept (cs.drop f)) := (rfl)
theorem astore_ptr (ag : Bool) (k : Nat) (σ : Sto) (b o : Nat) (v : AV) : astore (some (ag, k)) σ (.ptr b o) v = (avCells v).bind fun cs => if cs.length = k then (σ.var b).bind fun e => if o + k ≤ e.cells.length then some (σ.setVar b ⟨e.ty, e.size, splice e.cells o cs⟩) else none else none := by
  unfold astore
  cases avCells v <;> rfl
theorem splice_eq (cells : List AV) (o : Nat) (cs : List AV) : splice cells o cs = cells.take o ++ cs ++ cells.drop (o + cs.length) := (rfl)
theorem avCells_agg (cs : List AV) : avCells (.agg cs) = some cs := (rfl)
theorem avCells_int (k : IntKind) (n : Int) : avCells (.int k n) = some [.int k n] := (rfl)
theorem avCells_bool (b : Bool) : avCells (.bool b) = some [.bool b] := (rfl)
theorem avCells_str (s : ByteArray) : avCells (.str s) = some [.str s] := (rfl)
theorem avCells_sl (c : Bool) (xs : List (List AV)) : avCells (.sl c xs) = some [.sl c xs] := (rfl)
theorem avCells_nilsl : avCells .nilsl = some [.nilsl] := (rfl)
theorem avCells_ref (b n c : Nat) : avCells (.ref b n c) = some [.ref b n c] := (rfl)
theorem avCells_ptr (b o : Nat) : avCells (.ptr b o) = some [.ptr b o] := (rfl)
theorem avCells_fn (f : FuncId) (cs : List AV) : avCells (.fn f cs) = some [.fn f cs] := (rfl)
theorem avCells_cell {v : AV} (h : v.isCell = true) : avCells v = some [v] := by
  cases v <;> first | rfl | (simp [AV.isCell] at h; done) | (simp only [avCells]; rw [if_pos h])
theorem abin_int (isb isl : Bool) (op : BinOp) (k : IntKind) (a b : Int) : abin isb isl op (.int k a) (.int k b) = abinI op k a b := by simp [abin]
theorem abin_str (isb isl : Bool) (op : BinOp) (a b : ByteArray) : abin isb isl op (.str a) (.str b) = abinS op a b := (rfl)
theorem abin_nn (isb : Bool) : abin isb true .eql .nilsl .nilsl = some (.bool true) := (rfl)
theorem abin_en (isb c : Bool) : abin isb true .eql (.sl c []) .nilsl = some .ub := (rfl)
theorem abin_sn (isb c : Bool) (x : List AV) (xs : List (List AV)) : abin isb true .eql (.sl c (x :: xs)) .nilsl = some (.bool false) := (rfl)
theorem abin_bool (isl : Bool) (op : BinOp) (a b : Bool) : abin true isl op (.bool a) (.bool b) = (match op with | .eql => some (.bool (a == b)) | .neq => some (.bool (!(a == b))) | _ => none) := (rfl)
theorem aun_not (b : Bool) : aun .not (.bool b) = some (.bool !b) := (rfl)
theorem alenT_sl (c : Bool) (xs : List (List AV)) : alenT false (.sl c xs) = some (.int .i64 xs.length) := (rfl)
theorem alenT_nil : alenT false .nilsl = some (.int .i64 0) := (rfl)
theorem alenT_str (s : ByteArray) : alenT true (.str s) = some (.int .i64 s.size) := (rfl)
theorem alenT_of {v : AV} {n : Int} (h : alen v = some n) (hs : v.isCell = true) (hn : ∀ s, v ≠ .str s) : alenT false v = some (.int .i64 n) := by
  cases v <;> simp_all [alenT, alen]
theorem aext_tup (vs : List AV) (i : Nat) : aext (.tup vs) i = vs[i]? := (rfl)
/-! ### where the walk stops -/
/-- A pure function: so called it yields so, and turns nothing. -/
def PCtr (P : Program) (f : FuncId) (args : List AV) (v : AV) : Prop := ∀ σ, Ctr P f args σ fun r σ' => r = v ∧ σ' = σ
theorem aCall_pure {f : FuncId} {args bs : List AV} {v : AV} {T : Nat → AV} {σ : Sto} {dst : Option Tmp} {K : AS → Prop} (h : PCtr P f bs v) (hw : WkVL args bs) (hK : K (AS.put ⟨T, σ⟩ dst v)) : aCall P (.fn f []) args ⟨T, σ⟩ dst K := by
  show Ctr P f (args ++ []) σ _
  rw [List.append_nil]
  exact (Ctr.args hw (h σ)).mono (fun r σ' hr => by obtain ⟨rfl, rfl⟩ := hr; exact hK)
theorem aCall_ctr {f : FuncId} {args bs caps : List AV} {Q : AV → Sto → Prop} {T : Nat → AV} {σ : Sto} {dst : Option Tmp} {K : AS → Prop} (h : Ctr P f bs σ Q) (hw : WkVL (args ++ caps) bs) (hK : ∀ r σ', Q r σ' → K (AS.put ⟨T, σ'⟩ dst r)) : aCall P (.fn f caps) args ⟨T, σ⟩ dst K :=
  (Ctr.args hw h).mono hK
end
theorem abinS_eql (x y : ByteArray) : abinS .eql x y = some (.bool (decide (x = y))) := (rfl)
theorem abinS_neq (x y : ByteArray) : abinS .neq x y = some (.bool (!decide (x = y))) := (rfl)
attribute [go_sem] acode_skip acode_region acode_draw acode_seq acode_cond acode_block acode_loop acode_exit acode_ret thn_nrm thn_ex thn_ret inBlk_nrm inBlk_ex inBlk_ret aEnd_nrm aEnd_ret
  aops_nil aops_cons aop1_none aop1_some gwv_bool gwv_skip gw_eq gd_eq aGd_true aGd_false aCnd_true aCnd_false aVal_some
  aop_move aop_assign aop_pick aop_load aop_loadG aindexV_true aindexV_false aop_nilCheck aop_fieldAddr aop_indexAddr aop_index aop_binOp aop_unOp aop_extract aop_build aop_buildSlice aop_slice aSl_sl aSl_str aslT_sl aslT_str aslT_ref aslT_nil aslT_tab aop_convert aop_makeFunc aop_alloc aop_box aop_store aop_makeSlice aop_call aop_append aop_len aop_max
  aev_tmp aev_int aev_bool aev_str aev_nilsl aev_nilp aev_global aev_func AS.put_some AS.put_none upd_app T0_zero T0_succ T0_nil
  var_set own_setVar own_set var_setOwn set_set aload_ptr aload_ept seg_eq asVal_true asVal_one afield_ptr afield_ept splice_eq avCells_agg avCells_int avCells_bool avCells_str avCells_sl avCells_nilsl avCells_ref avCells_ptr avCells_fn
  abin_int abin_nn abin_en abin_sn abinI abin_str abinS_eql abinS_neq abin_bool aun_not alenT_sl alenT_nil alenT_str aext_tup anil
  id Option.bind_some Option.bind_none Option.map_some List.map_cons List.map_nil List.getElem?_cons_succ List.getElem?_cons_zero List.length_cons List.length_nil List.drop_succ_cons List.drop_zero List.take_succ_cons List.take_zero List.drop_nil List.take_nil
  List.append_nil List.nil_append List.cons_append List.toList_toArray ite_true ite_false Bool.false_eq_true bif_true_ bif_false_ beq_true beq_false Bool.not_true Bool.not_false Nat.le_refl Nat.zero_le Nat.zero_add Nat.add_zero decide_true decide_false if_t_ if_f_
end Go.Proofs.Shadow

