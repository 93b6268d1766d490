/- The program's types as data. -/
import Derived.Test.YtilkeeoinbndoaaGx
set_option linter.unusedVariables false
set_option linter.unusedSimpArgs false
namespace Go.Proofs.Shadow
open Go Go.RowKit
/-- (Lean's search for the order of functions doubles its size with each argument.) -/
noncomputable instance ccpo4 {α β γ δ ε : Type} [Lean.Order.CCPO ε] : Lean.Order.CCPO (α → β → γ → δ → ε) := inferInstance
structure Stp where
  id : Int
  rule : Int
  scope : Int
  use : Fm
  res : Fm
def Stp.cells (x : Stp) : List AV := [.int .i64 x.id, .int .i64 x.rule, .int .i64 x.scope] ++ (x.use.cells ++ x.res.cells)
theorem Stp.cells_eq (x : Stp) : x.cells = [.int .i64 x.id, .int .i64 x.rule, .int .i64 x.scope, .int .i64 x.use.kind, .str x.use.name, .int .i64 x.use.num, .sl false (rws cI x.use.sc), .sl false (rws Fm.cells x.use.kids), .int .i64 x.res.kind, .str x.res.name, .int .i64 x.res.num, .sl false (rws cI x.res.sc), .sl false (rws Fm.cells x.res.kids)] := by
  simp only [Stp.cells, Fm.cells_eq]; rfl
theorem Stp.cells_len (x : Stp) : x.cells.length = 13 := by rw [Stp.cells_eq]; rfl
structure Bnd where
  name : ByteArray
  sc : List Int
  id : Int
def Bnd.cells (x : Bnd) : List AV := [.str x.name, .sl false (rws cI x.sc), .int .i64 x.id]
theorem Bnd.cells_eq (x : Bnd) : x.cells = [.str x.name, .sl false (rws cI x.sc), .int .i64 x.id] := (rfl)
theorem Bnd.cells_len (x : Bnd) : x.cells.length = 3 := (rfl)
structure Rul where
  pat : Fm
  tpl : Fm
def Rul.cells (x : Rul) : List AV := x.pat.cells ++ x.tpl.cells
theorem Rul.cells_eq (x : Rul) : x.cells = [.int .i64 x.pat.kind, .str x.pat.name, .int .i64 x.pat.num, .sl false (rws cI x.pat.sc), .sl false (rws Fm.cells x.pat.kids), .int .i64 x.tpl.kind, .str x.tpl.name, .int .i64 x.tpl.num, .sl false (rws cI x.tpl.sc), .sl false (rws Fm.cells x.tpl.kids)] := by
  simp only [Rul.cells, Fm.cells_eq]; rfl
theorem Rul.cells_len (x : Rul) : x.cells.length = 10 := by rw [Rul.cells_eq]; rfl
structure Mac where
  id : Int
  lits : List Fm
  rules : List Rul
def Mac.cells (x : Mac) : List AV := [.int .i64 x.id, .sl false (rws Fm.cells x.lits), .sl false (rws Rul.cells x.rules)]
theorem Mac.cells_eq (x : Mac) : x.cells = [.int .i64 x.id, .sl false (rws Fm.cells x.lits), .sl false (rws Rul.cells x.rules)] := (rfl)
theorem Mac.cells_len (x : Mac) : x.cells.length = 3 := (rfl)
structure Xpn where
  binds : List Bnd
  macs : List Mac
  scope : Int
  id : Int
  steps : Int
def Xpn.cells (x : Xpn) : List AV := [.sl false (rws Bnd.cells x.binds), .sl false (rws Mac.cells x.macs), .int .i64 x.scope, .int .i64 x.id, .int .i64 x.steps]
theorem Xpn.cells_eq (x : Xpn) : x.cells = [.sl false (rws Bnd.cells x.binds), .sl false (rws Mac.cells x.macs), .int .i64 x.scope, .int .i64 x.id, .int .i64 x.steps] := (rfl)
theorem Xpn.cells_len (x : Xpn) : x.cells.length = 5 := (rfl)
/-- A drawing reader. -/
structure Rdr where
  b : List Int
  p : Int
def Rdr.cells (x : Rdr) : List AV := [.sl false (rws cU x.b), .int .i64 x.p]
theorem Rdr.cells_eq (x : Rdr) : x.cells = [.sl false (rws cU x.b), .int .i64 x.p] := (rfl)
theorem Rdr.cells_len (x : Rdr) : x.cells.length = 2 := (rfl)
structure Scn where
  s : ByteArray
  bad : Bool
def Scn.cells (x : Scn) : List AV := [.str x.s, .bool x.bad]
theorem Scn.cells_eq (x : Scn) : x.cells = [.str x.s, .bool x.bad] := (rfl)
theorem Scn.cells_len (x : Scn) : x.cells.length = 2 := (rfl)
structure Mch where
  fuel : Int
  code : Int
def Mch.cells (x : Mch) : List AV := [.int .i64 x.fuel, .int .i64 x.code]
theorem Mch.cells_eq (x : Mch) : x.cells = [.int .i64 x.fuel, .int .i64 x.code] := (rfl)
theorem Mch.cells_len (x : Mch) : x.cells.length = 2 := (rfl)
structure Xdr where
  x : Xpn
  budget : Int
  naive : Bool
  code : Int
  steps : List Stp
def Xdr.cells (g : Xdr) : List AV := g.x.cells ++ [.int .i64 g.budget, .bool g.naive, .int .i64 g.code, .sl false (rws Stp.cells g.steps)]
theorem Xdr.cells_eq (g : Xdr) : g.cells = [.sl false (rws Bnd.cells g.x.binds), .sl false (rws Mac.cells g.x.macs), .int .i64 g.x.scope, .int .i64 g.x.id, .int .i64 g.x.steps, .int .i64 g.budget, .bool g.naive, .int .i64 g.code, .sl false (rws Stp.cells g.steps)] := (rfl)
theorem Xdr.cells_len (x : Xdr) : x.cells.length = 9 := (rfl)
inductive Cor where
  | mk (kind id : Int) (name : ByteArray) (num : Int) (ids : List Int) (data : Fm) (kids : List Cor)
def Cor.kind : Cor → Int | .mk k _ _ _ _ _ _ => k
def Cor.id : Cor → Int | .mk _ i _ _ _ _ _ => i
def Cor.name : Cor → ByteArray | .mk _ _ s _ _ _ _ => s
def Cor.num : Cor → Int | .mk _ _ _ n _ _ _ => n
def Cor.ids : Cor → List Int | .mk _ _ _ _ l _ _ => l
def Cor.data : Cor → Fm | .mk _ _ _ _ _ d _ => d
def Cor.kids : Cor → List Cor | .mk _ _ _ _ _ _ ks => ks
mutual
def Cor.cells : Cor → List AV
  | .mk k i s n l d ks => [.int .i64 k, .int .i64 i, .str s, .int .i64 n, .sl false (rws cI l), .int .i64 d.kind, .str d.name, .int .i64 d.num, .sl false (rws cI d.sc), .sl false (rws Fm.cells d.kids), .sl false (Cor.rows ks)]
def Cor.rows : List Cor → List (List AV)
  | [] => []
  | f :: fs => f.cells :: Cor.rows fs
end
theorem Cor.rows_eq : ∀ fs : List Cor, Cor.rows fs = rws Cor.cells fs
  | [] => rfl
  | f :: fs => by rw [Cor.rows, Cor.rows_eq fs]; rfl
theorem Cor.cells_eq (x : Cor) : x.cells = [.int .i64 x.kind, .int .i64 x.id, .str x.name, .int .i64 x.num, .sl false (rws cI x.ids), .int .i64 x.data.kind, .str x.data.name, .int .i64 x.data.num, .sl false (rws cI x.data.sc), .sl false (rws Fm.cells x.data.kids), .sl false (rws Cor.cells x.kids)] := by
  cases x; rw [Cor.cells, Cor.rows_eq]; rfl
theorem Cor.cells_len (x : Cor) : x.cells.length = 11 := by rw [Cor.cells_eq]; rfl
inductive Hit where
  | mk (name : Fm) (depth : Int) (one : Fm) (many : List Hit)
def Hit.name : Hit → Fm | .mk n _ _ _ => n
def Hit.depth : Hit → Int | .mk _ d _ _ => d
def Hit.one : Hit → Fm | .mk _ _ o _ => o
def Hit.many : Hit → List Hit | .mk _ _ _ m => m
mutual
def Hit.cells : Hit → List AV
  | .mk n d o m => [.int .i64 n.kind, .str n.name, .int .i64 n.num, .sl false (rws cI n.sc), .sl false (rws Fm.cells n.kids), .int .i64 d, .int .i64 o.kind, .str o.name, .int .i64 o.num, .sl false (rws cI o.sc), .sl false (rws Fm.cells o.kids), .sl false (Hit.rows m)]
def Hit.rows : List Hit → List (List AV)
  | [] => []
  | f :: fs => f.cells :: Hit.rows fs
end
theorem Hit.rows_eq : ∀ fs : List Hit, Hit.rows fs = rws Hit.cells fs
  | [] => rfl
  | f :: fs => by rw [Hit.rows, Hit.rows_eq fs]; rfl
theorem Hit.cells_eq (x : Hit) : x.cells = [.int .i64 x.name.kind, .str x.name.name, .int .i64 x.name.num, .sl false (rws cI x.name.sc), .sl false (rws Fm.cells x.name.kids), .int .i64 x.depth, .int .i64 x.one.kind, .str x.one.name, .int .i64 x.one.num, .sl false (rws cI x.one.sc), .sl false (rws Fm.cells x.one.kids), .sl false (rws Hit.cells x.many)] := by
  cases x; rw [Hit.cells, Hit.rows_eq]; rfl
theorem Hit.cells_len (x : Hit) : x.cells.length = 12 := by rw [Hit.cells_eq]; rfl
mutual
inductive Val where
  | mk (kind num : Int) (name : ByteArray) (items : List Val) (fn : Cor) (env : List Slt)
inductive Slt where
  | mk (id : Int) (val : Val)
end
def Val.kind : Val → Int | .mk k _ _ _ _ _ => k
def Val.num : Val → Int | .mk _ n _ _ _ _ => n
def Val.name : Val → ByteArray | .mk _ _ s _ _ _ => s
def Val.items : Val → List Val | .mk _ _ _ l _ _ => l
def Val.fn : Val → Cor | .mk _ _ _ _ f _ => f
def Val.env : Val → List Slt | .mk _ _ _ _ _ e => e
def Slt.id : Slt → Int | .mk i _ => i
def Slt.val : Slt → Val | .mk _ v => v
mutual
def Val.cells : Val → List AV
  | .mk k n s l f e => [.int .i64 k, .int .i64 n, .str s, .sl false (Val.rows l), .int .i64 f.kind, .int .i64 f.id, .str f.name, .int .i64 f.num, .sl false (rws cI f.ids), .int .i64 f.data.kind, .str f.data.name, .int .i64 f.data.num, .sl false (rws cI f.data.sc), .sl false (rws Fm.cells f.data.kids), .sl false (rws Cor.cells f.kids), .sl false (Slt.rows e)]
def Val.rows : List Val → List (List AV)
  | [] => []
  | f :: fs => f.cells :: Val.rows fs
def Slt.cells : Slt → List AV
  | .mk i v => .int .i64 i :: v.cells
def Slt.rows : List Slt → List (List AV)
  | [] => []
  | f :: fs => f.cells :: Slt.rows fs
end
theorem Val.rows_eq : ∀ fs : List Val, Val.rows fs = rws Val.cells fs
  | [] => rfl
  | f :: fs => by rw [Val.rows, Val.rows_eq fs]; rfl
theorem Slt.rows_eq : ∀ fs : List Slt, Slt.rows fs = rws Slt.cells fs
  | [] => rfl
  | f :: fs => by rw [Slt.rows, Slt.rows_eq fs]; rfl
theorem Val.cells_eq (x : Val) : x.cells = [.int .i64 x.kind, .int .i64 x.num, .str x.name, .sl false (rws Val.cells x.items), .int .i64 x.fn.kind, .int .i64 x.fn.id, .str x.fn.name, .int .i64 x.fn.num, .sl false (rws cI x.fn.ids), .int .i64 x.fn.data.kind, .str x.fn.data.name, .int .i64 x.fn.data.num, .sl false (rws cI x.fn.data.sc), .sl false (rws Fm.cells x.fn.data.kids), .sl false (rws Cor.cells x.fn.kids), .sl false (rws Slt.cells x.env)] := by
  cases x; rw [Val.cells, Val.rows_eq, Slt.rows_eq]; rfl
theorem Val.cells_len (x : Val) : x.cells.length = 16 := by rw [Val.cells_eq]; rfl
theorem Slt.cells_eq (x : Slt) : x.cells = [.int .i64 x.id, .int .i64 x.val.kind, .int .i64 x.val.num, .str x.val.name, .sl false (rws Val.cells x.val.items), .int .i64 x.val.fn.kind, .int .i64 x.val.fn.id, .str x.val.fn.name, .int .i64 x.val.fn.num, .sl false (rws cI x.val.fn.ids), .int .i64 x.val.fn.data.kind, .str x.val.fn.data.name, .int .i64 x.val.fn.data.num, .sl false (rws cI x.val.fn.data.sc), .sl false (rws Fm.cells x.val.fn.data.kids), .sl false (rws Cor.cells x.val.fn.kids), .sl false (rws Slt.cells x.val.env)] := by
  cases x; rw [Slt.cells, Val.cells_eq]; rfl
theorem Slt.cells_len (x : Slt) : x.cells.length = 17 := by rw [Slt.cells_eq]; rfl
attribute [go_sem] Stp.cells_eq Bnd.cells_eq Rul.cells_eq Mac.cells_eq Xpn.cells_eq Rdr.cells_eq Scn.cells_eq Mch.cells_eq Xdr.cells_eq Cor.cells_eq Hit.cells_eq Val.cells_eq Slt.cells_eq
end Go.Proofs.Shadow

