/- The walk: rewriting rules for the abstract code, and the steps where it stops. -/
import Derived.Test.YtiiamkelehfnoaaGreatShG
open _root_.Bool renaming and_eq_true → QG, or_eq_true → Q9, true_eq_false → Kc, false_eq_true → Qq
open _root_.List renaming all_eq_true → Q6, map_congr_left → Q8, mem_append_right → Ka, mem_append_left → Kb, mem_append → QR, mem_range → Kd, mem_cons_of_mem → Kf, mem_filter → Kg, cons_append → Kh, any_eq_true → Ki, mem_cons → Kj
open _root_.Option renaming isSome_iff_exists → Qy, isNone_iff_eq_none → Q7, map_some → Qu, bind_some → Qf, getD_some → Q3
open _root_.Array renaming all_eq_true_iff_forall_mem → Ke
set_option linter.unusedVariables false
set_option linter.unusedSimpArgs false
namespace Go.Proofs.Shadow
open Go Go.RowKit
section
variable {P:Program}
theorem AS.Qec (T:Nat->AV) (ss:Sto) (d:Tmp) (v:AV):AS.put ⟨T,ss⟩ (some d) v=⟨upd T d v,ss⟩:=(rfl)
theorem AS.Qeb (T:Nat->AV) (ss:Sto) (v:AV):AS.put ⟨T,ss⟩ none v=⟨T,ss⟩:=(rfl)
theorem RT (T:Nat->AV) (d i:Nat) (v:AV):upd T d v i=if i=d then v else T i:=(rfl)
theorem Qf5 (a:AV) (as:List AV):T0 (a :: as) 0=a:=(rfl)
theorem Qf4 (a:AV) (as:List AV) (i:Nat):T0 (a :: as) (i+1)=T0 as i:=(rfl)
theorem Qje (i:Nat):T0 [] i=WE:=(rfl)
theorem Tf (Q:AX->AS->Prop) (s:AS):Jn P .skip Q s=Q .nrm s:=(rfl)
theorem OL (id:Nat) (ops:Array Oper) (Q:AX->AS->Prop) (s:AS):Jn P (.region id ops false) Q s=MM P (ops.toList.map (·.dst)) ops.toList (Q .nrm) s:=(rfl)
theorem S9 (id:Nat) (ops:Array Oper) (Q:AX->AS->Prop) (s:AS):Jn P (.region id ops true) Q s=OJ P ops (Q .nrm) s:=(rfl)
theorem UG (x y:Code) (Q:AX->AS->Prop) (s:AS):Jn P (.seq x y) Q s=Jn P x (thn (Jn P y Q) Q) s:=(rfl)
def R7 (P:Program) (c:AV) (x y:Code) (Q:AX->AS->Prop) (s:AS):Prop:=Qck c (Jn P x Q s) (Jn P y Q s)
def aGd (P:Program) (g:Option Bool) (o:Oper) (s:AS) (K:AS->Prop):Prop:=Ae g (aop P o s K) (K (s.put o.dst WE))
theorem S8 (c:Operand) (x y:Code) (Q:AX->AS->Prop) (s:AS):Jn P (.cond c x y) Q s=R7 P (aev s.T c) x y Q s:=(rfl)
theorem PY (id:Nat) (c:Code) (Q:AX->AS->Prop) (s:AS):Jn P (.block id c) Q s=Jn P c (Pm id Q) s:=(rfl)
theorem Te (c:Code) (Q:AX->AS->Prop) (s:AS):Jn P (.loop c) Q s=Ux P (Jn P c) Q s:=(rfl)
theorem Td (id:Nat) (Q:AX->AS->Prop) (s:AS):Jn P (.exit id) Q s=Q (.ex id) s:=(rfl)
theorem UF (Q:AX->AS->Prop) (s:AS):Jn P .ret Q s=Q .ret s:=(rfl)
theorem Qip (k:AS->Prop) (Q:AX->AS->Prop):thn k Q .nrm=k:=(rfl)
theorem Qld (k:AS->Prop) (Q:AX->AS->Prop) (id:Nat):thn k Q (.ex id)=Q (.ex id):=(rfl)
theorem Qiq (k:AS->Prop) (Q:AX->AS->Prop):thn k Q .ret=Q .ret:=(rfl)
theorem Qbe (id:Nat) (Q:AX->AS->Prop):Pm id Q .nrm=Q .nrm:=(rfl)
theorem Qdw (id id':Nat) (Q:AX->AS->Prop):Pm id Q (.ex id')=if id'=id then Q .nrm else Q (.ex id'):=by
 funext s;simp only [Pm];split<;>rfl
theorem Qbf (id:Nat) (Q:AX->AS->Prop):Pm id Q .ret=Q .ret:=(rfl)
theorem Qcl (rs:List ResultVar) (Q:AV->Sto->Prop) (s:AS):Qjj P rs Q .nrm s=IE P rs Q s:=(rfl)
theorem Qcm (rs:List ResultVar) (Q:AV->Sto->Prop) (s:AS):Qjj P rs Q .ret s=IE P rs Q s:=(rfl)
theorem Qc5 (D:List (Option Tmp)) (K:AS->Prop) (s:AS):MM P D [] K s=K s:=(rfl)
theorem OR (D:List (Option Tmp)) (o:Oper) (os:List Oper) (K:AS->Prop) (s:AS):MM P D (o :: os) K s=Qi7 P D o s (MM P D os K):=(rfl)
theorem UT (D:List (Option Tmp)) (dst:Option Tmp) (op:Op) (ty:TypeId) (pos:String) (af:Array Edge) (s:AS) (K:AS->Prop):Qi7 P D ⟨dst,op,ty,pos,af,none⟩ s K=aop P ⟨dst,op,ty,pos,af,none⟩ s K:=by
 simp [Qi7,Ae,gw]
theorem UU (D:List (Option Tmp)) (dst:Option Tmp) (op:Op) (ty:TypeId) (pos:String) (af:Array Edge) (g:Nat × Bool) (s:AS) (K:AS->Prop) :
  Qi7 P D ⟨dst,op,ty,pos,af,some g⟩ s K=aGd P (gw D s.T (some g)) ⟨dst,op,ty,pos,af,none⟩ s K:=(rfl)
def gwv (v:AV) (want:Bool):Option Bool:=match v with | .bool b=>some (b == want) | .tup []=>some false | _=>none
theorem Qds (b want:Bool):gwv (.bool b) want=some (b == want):=(rfl)
theorem Qdt (want:Bool):gwv WE want=some false:=(rfl)
theorem Qma (D:List (Option Tmp)) (T:Nat->AV) (j:Nat) (want:Bool):gw D T (some (j,want))=match gd D j with | some d=>gwv (T d) want | none=>some false:=by
 cases h:gd D j with
 | none=>simp only [gw,h]
 | some d =>
  simp only [gw,h,gwv]
  cases T d with
  | tup vs=>cases vs<;>rfl
  | _=>rfl
theorem Ql9 (D:List (Option Tmp)) (j:Nat):gd D j=(D[j]?).bind id:=(rfl)
theorem Qcn (o:Oper) (s:AS) (K:AS->Prop):aGd P (some true) o s K=aop P o s K:=by simp [aGd,Ae]
theorem Uw (o:Oper) (s:AS) (K:AS->Prop):aGd P (some false) o s K=K (s.put o.dst WE):=by simp [aGd,Ae]
theorem OK {t:Bool} {o:Oper} {s:AS} {K:AS->Prop} (h1:t=true->aop P o s K) (h2:t=false->K (s.put o.dst WE)):aGd P (some t) o s K:=⟨t,rfl,h1,h2⟩
theorem Uv (x y:Code) (Q:AX->AS->Prop) (s:AS):R7 P (.bool true) x y Q s=Jn P x Q s:=by simp [R7,Qck]
theorem S2 (x y:Code) (Q:AX->AS->Prop) (s:AS):R7 P (.bool false) x y Q s=Jn P y Q s:=by simp [R7,Qck]
theorem Qf6 {x y:Code} {Q:AX->AS->Prop} {s:AS} (h1:Jn P x Q s) (h2:Jn P y Q s):R7 P .ub x y Q s:=.inr ⟨rfl,h1,h2⟩
theorem Uz (v:AV) (s:AS) (dst:Option Tmp) (K:AS->Prop):Bv (some v) s dst K=K (s.put dst v):=(rfl)
section
variable (dst:Option Tmp) (ty:TypeId) (pos:String) (af:Array Edge) (s:AS) (K:AS->Prop)
theorem Qc2 (x:Operand):aop P ⟨dst,.move x,ty,pos,af,none⟩ s K=K (s.put dst (aev s.T x)):=(rfl)
theorem To (x:Operand):aop P ⟨dst,.assign x,ty,pos,af,none⟩ s K=K (s.put dst (aev s.T x)):=(rfl)
theorem Qc3 (c a b:Operand):aop P ⟨dst,.pick c a b,ty,pos,af,none⟩ s K=Bv (match aev s.T c with | .bool t=>some (bif t then aev s.T a else aev s.T b) | _=>none) s dst K:=(rfl)
theorem Qc1 (t:TypeId) (p:Operand):aop P ⟨dst,.load t p,ty,pos,af,none⟩ s K=Bv (Cq s.ss (tk P t) (aev s.T p)) s dst K:=(rfl)
theorem OQ (x:Operand):aop P ⟨dst,.nilCheck x,ty,pos,af,none⟩ s K=Bv (Qi6 (aev s.T x)) s dst K:=(rfl)
theorem NU (t:TypeId) (x:Operand) (f:Nat):aop P ⟨dst,.fieldAddr t x f,ty,pos,af,none⟩ s K=Bv (Fp (fo P t f) (aev s.T x)) s dst K:=(rfl)
theorem NW (t:TypeId) (x i:Operand):aop P ⟨dst,.indexAddr t x i,ty,pos,af,none⟩ s K=Bv (Uo s.ss (se P t) (aev s.T x) (aev s.T i)) s dst K:=(rfl)
theorem UZ (t:TypeId) (x i:Operand):aop P ⟨dst,.index t x i,ty,pos,af,none⟩ s K=Bv (DY (isS P t) (aev s.T x) (aev s.T i)) s dst K:=(rfl)
theorem UX (op:BinOp) (t:TypeId) (x y:Operand) (t2:TypeId):aop P ⟨dst,.binOp op t x y t2,ty,pos,af,none⟩ s K=Bv (Un (isB P t) (se P t).isSome op (aev s.T x) (aev s.T y)) s dst K:=(rfl)
theorem Qc4 (op:UnOp) (t:TypeId) (x:Operand):aop P ⟨dst,.unOp op t x,ty,pos,af,none⟩ s K=Bv (aun op (aev s.T x)) s dst K:=(rfl)
theorem P3 (x:Operand) (i:Nat):aop P ⟨dst,.extract x i,ty,pos,af,none⟩ s K=Bv (Qi5 (aev s.T x) i) s dst K:=(rfl)
theorem UY (t:TypeId) (parts:Array (Nat × Operand)):aop P ⟨dst,.build t parts,ty,pos,af,none⟩ s K=Bv (Nx (tz P t) (fps P t) (parts.toList.map fun p=>(p.1,aev s.T p.2))) s dst K:=(rfl)
theorem MQ (t:TypeId) (len:Nat) (parts:Array (Nat × Operand)):aop P ⟨dst,.buildSlice t len parts,ty,pos,af,none⟩ s K=Bv (EB (se P t) ((se P t).bind fun k=>tz P k.1).isSome len (parts.toList.map fun p=>(p.1,aev s.T p.2))) s dst K:=(rfl)
theorem U2 (t:TypeId) (x:Operand) (lo hi mx:Option Operand):aop P ⟨dst,.slice t x lo hi mx,ty,pos,af,none⟩ s K=aSl (U9 P t (isS P t) (se P t) (aev s.T x) (lo.map (aev s.T)) (hi.map (aev s.T)) (mx.map (aev s.T))) s dst K:=(rfl)
theorem Qgo (t:TypeId) (b:Bool) (k:Option (TypeId × Nat × Nat)) (c:Bool) (r:List (List AV)) (lo hi mx:Option AV):U9 P t b k (.sl c r) lo hi mx=IG b k (.sl c r) lo hi mx:=(rfl)
theorem Qc8 (t:TypeId) (b:Bool) (k:Option (TypeId × Nat × Nat)) (c:ByteArray) (lo hi mx:Option AV):U9 P t b k (.str c) lo hi mx=IG b k (.str c) lo hi mx:=(rfl)
theorem Qc7 (t:TypeId) (b:Bool) (k:Option (TypeId × Nat × Nat)) (c n m:Nat) (lo hi mx:Option AV):U9 P t b k (.ref c n m) lo hi mx=IG b k (.ref c n m) lo hi mx:=(rfl)
theorem Qc6 (t:TypeId) (b:Bool) (k:Option (TypeId × Nat × Nat)) (lo hi mx:Option AV):U9 P t b k .Yb lo hi mx=IG b k .Yb lo hi mx:=(rfl)
theorem Qc9 (t:TypeId) (b:Bool) (k:Option (TypeId × Nat × Nat)) (g:Nat):U9 P t b k (.ptr g 0) none none none=Qlu P t g:=(rfl)
theorem Qjl (c:Bool) (r:List (List AV)) (s:AS) (dst:Option Tmp) (K:AS->Prop):aSl (some (.sl c r)) s dst K=K (s.put dst (.sl c r)):=(rfl)
theorem Qf9 (c:ByteArray) (s:AS) (dst:Option Tmp) (K:AS->Prop):aSl (some (.str c)) s dst K=K (s.put dst (.str c)):=(rfl)
theorem P2 (t d:TypeId) (x:Operand):aop P ⟨dst,.convert t d x,ty,pos,af,none⟩ s K=Bv (if Qkn P t then PZ (ik P d) (RD P t) (isS P d) (aev s.T x) else none) s dst K:=(rfl)
theorem OP (f:FuncId) (caps:Array Operand):aop P ⟨dst,.makeFunc (.func f) #[] caps,ty,pos,af,none⟩ s K=K (s.put dst (.fn f (caps.toList.map (aev s.T)))):=(rfl)
theorem UW (t:TypeId):aop P ⟨dst,.alloc t,ty,pos,af,none⟩ s K=Hc (tz P t) t s dst K:=(rfl)
theorem Qgl (t:TypeId) (x:Operand):aop P ⟨dst,.box t x,ty,pos,af,none⟩ s K=Hc (Y6 (aev s.T x)) t s dst K:=(rfl)
theorem U3 (t:TypeId) (p x:Operand):aop P ⟨dst,.store t p x,ty,pos,af,none⟩ s K=Ix (JO (tk P t) s.ss (aev s.T p) (aev s.T x)) s dst K:=(rfl)
theorem NX (t:TypeId) (l c:Operand):aop P ⟨dst,.makeSlice t l c,ty,pos,af,none⟩ s K=NO (se P t) ((se P t).bind fun k=>tz P k.1) (aev s.T l) (aev s.T c) s dst K:=(rfl)
theorem Qc0 (f:Operand) (args:Array Operand) (tys:Array TypeId):aop P ⟨dst,.call ⟨.value f,args,tys⟩,ty,pos,af,none⟩ s K=FD P (aev s.T f) (args.toList.map (aev s.T)) s dst K:=(rfl)
theorem Tn (x y:Operand) (t:TypeId):aop P ⟨dst,.call ⟨.builtin .append,#[x,y],#[t,t]⟩,ty,pos,af,none⟩ s K=JZ (se P t) (aev s.T x) (aev s.T y) s dst K:=by
 simp [aop]
theorem Qgm (x:Operand) (t:TypeId):aop P ⟨dst,.call ⟨.builtin .len,#[x],#[t]⟩,ty,pos,af,none⟩ s K=Bv (if isS P t||(se P t).isSome then DD (isS P t) (aev s.T x) else none) s dst K:=(rfl)
theorem Qgn (x y:Operand) (tys:Array TypeId):aop P ⟨dst,.call ⟨.builtin .max,#[x,y],tys⟩,ty,pos,af,none⟩ s K=Bv (Qgi (aev s.T x) (aev s.T y)) s dst K:=(rfl)
end
theorem Qae {α:Type} (a b:α):(bif true then a else b)=a:=(rfl)
theorem Ts {α:Type} (a b:α):(bif false then a else b)=b:=(rfl)
theorem Qme {α:Type} (a b:α):(if true=true then a else b)=a:=(rfl)
theorem Qmd {α:Type} (a b:α):(if false=true then a else b)=b:=(rfl)
theorem Qgf (T:Nat->AV) (t:Tmp):aev T (.tmp t)=T t:=(rfl)
theorem Qgd (T:Nat->AV) (k:IntKind) (n:Int):aev T (.const (.int k n))=.int k n:=(rfl)
theorem Qct (T:Nat->AV) (b:Bool):aev T (.const (.bool b))=.bool b:=(rfl)
theorem Qge (T:Nat->AV) (s:ByteArray):aev T (.const (.string s))=.str s:=(rfl)
theorem UI (T:Nat->AV):aev T (.const (.slice none 0 0))=.Yb:=(rfl)
theorem Qcv (T:Nat->AV):aev T (.const (.pointer none))=.nilp:=(rfl)
theorem Tg (T:Nat->AV) (g:Nat):aev T (.global g)=.ptr g 0:=(rfl)
theorem Qcu (T:Nat->AV) (f:FuncId):aev T (.func f)=.fn f []:=(rfl)
theorem Qiv (ss:Sto) (b b':Nat) (e:Ent):(ss.Yy b e).var b'=if b'=b then some e else ss.var b':=(rfl)
theorem TL (ss:Sto) (b:Nat) (e:Ent):(ss.Yy b e).own=ss.own:=(rfl)
theorem Qh9 (ss:Sto) (b b':Nat) (e:Ent):(ss.YR b e).own b'=if b'=b then some e else ss.own b':=(rfl)
theorem Ud (ss:Sto) (b:Nat) (e:Ent):(ss.YR b e).var=ss.var:=(rfl)
theorem Ur (ss:Sto) (b:Nat) (e e':Ent):(ss.Yy b e).Yy b e'=ss.Yy b e':=by
 simp only [Sto.Yy]
 congr 1
 funext i;split<;>rfl
theorem UR (ss:Sto) (ag:Bool) (k b o:Nat):Cq ss (some (ag,k)) (.ptr b o)=((ss.var b).bind fun e=>if o<=e.cells.length then some (e.cells.drop o) else none).bind fun cs=>(seg cs 0 (if ag then k else 1)).bind (OT ag):=(rfl)
theorem UQ (ss:Sto) (ag:Bool) (k:Nat) (cs:List AV):Cq ss (some (ag,k)) (.ept cs)=(seg cs 0 (if ag then k else 1)).bind (OT ag):=(rfl)
theorem Qlb (cs:List AV) (o k:Nat):seg cs o k=if o+k<=cs.length then some ((cs.drop o).take k) else none:=(rfl)
theorem Tp (cs:List AV):OT true cs=some (.agg cs):=(rfl)
theorem U8 (c:AV):OT false [c]=some c:=(rfl)
theorem Ti (f b o:Nat):Fp (some f) (.ptr b o)=some (.ptr b (o+f)):=(rfl)
theorem Th (f:Nat) (cs:List AV):Fp (some f) (.ept cs)=some (.ept (cs.drop f)):=(rfl)
theorem CZ (ag:Bool) (k:Nat) (ss:Sto) (b o:Nat) (v:AV):JO (some (ag,k)) ss (.ptr b o) v=(Y6 v).bind fun cs=>if cs.length=k then (ss.var b).bind fun e=>if o+k<=e.cells.length then some (ss.Yy b ⟨e.ty,e.size,Wa e.cells o cs⟩) else none else none:=by
 unfold JO;cases Y6 v<;>rfl
theorem Hh (cells:List AV) (o:Nat) (cs:List AV):Wa cells o cs=cells.take o++cs++cells.drop (o+cs.length):=(rfl)
theorem P8 (cs:List AV):Y6 (.agg cs)=some cs:=(rfl)
theorem P9 (k:IntKind) (n:Int):Y6 (.int k n)=some [.int k n]:=(rfl)
theorem OU (b:Bool):Y6 (.bool b)=some [.bool b]:=(rfl)
theorem Rs (s:ByteArray):Y6 (.str s)=some [.str s]:=(rfl)
theorem Tr (c:Bool) (xs:List (List AV)):Y6 (.sl c xs)=some [.sl c xs]:=(rfl)
theorem NY:Y6 .Yb=some [.Yb]:=(rfl)
theorem Rr (b n c:Nat):Y6 (.ref b n c)=some [.ref b n c]:=(rfl)
theorem Rq (b o:Nat):Y6 (.ptr b o)=some [.ptr b o]:=(rfl)
theorem Tq (f:FuncId) (cs:List AV):Y6 (.fn f cs)=some [.fn f cs]:=(rfl)
theorem Fs {v:AV} (h:v.YV=true):Y6 v=some [v]:=by
 cases v<;>first | rfl | (simp [AV.YV] at h;done) | (simp only [Y6];rw [if_pos h])
theorem Qcp (isb isl:Bool) (op:BinOp) (k:IntKind) (a b:Int):Un isb isl op (.int k a) (.int k b)=Qco op k a b:=by simp [Un]
theorem Qcq (isb isl:Bool) (op:BinOp) (a b:ByteArray):Un isb isl op (.str a) (.str b)=UA op a b:=(rfl)
theorem Qgb (isb:Bool):Un isb true .eql .Yb .Yb=some (.bool true):=(rfl)
theorem Qga (isb c:Bool):Un isb true .eql (.sl c []) .Yb=some .ub:=(rfl)
theorem Qgc (isb c:Bool) (x:List AV) (xs:List (List AV)):Un isb true .eql (.sl c (x :: xs)) .Yb=some (.bool false):=(rfl)
theorem UD (isl:Bool) (op:BinOp) (a b:Bool):Un true isl op (.bool a) (.bool b)=(match op with | .eql=>some (.bool (a == b)) | .neq=>some (.bool (!(a == b))) | _=>none):=(rfl)
theorem Qgr (b:Bool):aun .not (.bool b)=some (.bool !b):=(rfl)
theorem Qcx (c:Bool) (xs:List (List AV)):DD false (.sl c xs)=some (.int .i64 xs.length):=(rfl)
theorem UL:DD false .Yb=some (.int .i64 0):=(rfl)
theorem UN (s:ByteArray):DD true (.str s)=some (.int .i64 s.size):=(rfl)
theorem R8 {v:AV} {n:Int} (h:Qjn v=some n) (hs:v.YV=true) (hn:∀s,v≠.str s):DD false v=some (.int .i64 n):=by
 cases v<;>simp_all [DD,Qjn]
theorem Qcw (vs:List AV) (i:Nat):Qi5 (.tup vs) i=vs[i]?:=(rfl)
def Vm (P:Program) (f:FuncId) (args:List AV) (v:AV):Prop:=∀ss,Ctr P f args ss fun r ss'=>r=v/\ss'=ss
theorem Nw {f:FuncId} {args bs:List AV} {v:AV} {T:Nat->AV} {ss:Sto} {dst:Option Tmp} {K:AS->Prop} (h:Vm P f bs v) (hw:BX args bs) (hK:K (AS.put ⟨T,ss⟩ dst v)):FD P (.fn f []) args ⟨T,ss⟩ dst K:=by
 show Ctr P f (args++[]) ss _;rw [List.append_nil];exact (Ctr.args hw (h ss)).mono (fun r ss' hr=>by obtain ⟨rfl,rfl⟩:=hr;exact hK)
theorem Uu {f:FuncId} {args bs caps:List AV} {Q:AV->Sto->Prop} {T:Nat->AV} {ss:Sto} {dst:Option Tmp} {K:AS->Prop} (h:Ctr P f bs ss Q) (hw:BX (args++caps) bs) (hK:∀r ss',Q r ss'->K (AS.put ⟨T,ss'⟩ dst r)):FD P (.fn f caps) args ⟨T,ss⟩ dst K :=
 (Ctr.args hw h).mono hK
end
theorem UB (x y:ByteArray):UA .eql x y=some (.bool (decide (x=y))):=(rfl)
theorem UC (x y:ByteArray):UA .neq x y=some (.bool (!decide (x=y))):=(rfl)
attribute [go_sem] Tf OL S9 UG S8 PY Te Td UF Qip Qld Qiq Qbe Qdw Qbf Qcl Qcm
 Qc5 OR UT UU Qds Qdt Qma Ql9 Qcn Uw Uv S2 Uz
 Qc2 To Qc3 Qc1 OQ NU NW UZ UX Qc4 P3 UY MQ U2 Qjl Qf9 Qgo Qc8 Qc7 Qc6 Qc9 P2 OP UW Qgl U3 NX Qc0 Tn Qgm Qgn
 Qgf Qgd Qct Qge UI Qcv Tg Qcu AS.Qec AS.Qeb RT Qf5 Qf4 Qje
 Qiv TL Qh9 Ud Ur UR UQ Qlb Tp U8 Ti Th Hh P8 P9 OU Rs Tr NY Rr Rq Tq
 Qcp Qgb Qga Qgc Qco Qcq UB UC UD Qgr Qcx UL UN Qcw Qi6
 id Qf Option.bind_none Qu List.map_cons List.map_nil List.getElem?_cons_succ List.getElem?_cons_zero List.length_cons List.length_nil List.drop_succ_cons List.drop_zero List.take_succ_cons List.take_zero List.drop_nil List.take_nil
 List.append_nil List.nil_append Kh List.toList_toArray ite_true ite_false Qq Qae Ts beq_true beq_false Bool.not_true Bool.not_false Nat.le_refl Nat.zero_le Nat.zero_add Nat.add_zero decide_true decide_false Qme Qmd
end Go.Proofs.Shadow
namespace Go.Proofs.Shadow
open Go Go.RowKit
noncomputable def OH (E:Nat->Prop) (ss:Sto):Sto:=⟨fun b=>@ite _ (E b) (Classical.propDecidable _) none (ss.var b),fun _=>none⟩
def DX (E:Nat->Prop) (ss ss':Sto):Prop:=∀b e,¬E b->ss.var b=some e->ss'.var b=some e
def kp (E:Nat->Prop) (ss:Sto) (K:AS->Prop) (s:AS):Prop:=DX E ss s.ss/\K s
def Qe0 (P:Program) (fv:AV) (args:List AV) (s:AS) (dst:Option Tmp) (K:AS->Prop):Prop:=∃f bs v,fv=.fn f []/\BX args bs/\Vm P f bs v/\K (s.put dst v)
def Qni (k:Option (TypeId × Nat × Nat)) (x y v:AV):Prop :=
 ∃e sz by_ xs ys,k=some (e,sz,by_)/\0 < sz/\0 < by_/\((x=.Yb/\xs=[])∨x=.sl true xs)/\(∀r∈xs,r.length=sz)/\((y=.Yb/\ys=[])∨∃c,y=.sl c ys)/\(∀r∈ys,r.length=sz)/\(xs.length+ys.length) * by_<=140737488355328/\v=.sl false (xs++ys)
def Qlf (k:Option (TypeId × Nat × Nat)) (x y:AV) (s:AS) (dst:Option Tmp) (K:AS->Prop):Prop:=∃v,Qni k x y v/\K (s.put dst v)
def EA (P : Program) (E : Nat -> Prop) (o : Oper) (s : AS) (K : AS -> Prop) : Prop :=
  match o.op with
  | .call { callee := .value f, args, .. } => Qe0 P (aev s.T f) (args.toList.map (aev s.T)) s o.dst K
  | .call { callee := .builtin .append, args, argTypes } =>
    (match args.toList, argTypes.toList with
     | [x, y], [t, t2] => t = t2 /\ Qlf (se P t) (aev s.T x) (aev s.T y) s o.dst K
     | _, _ => False)
  | op => Bv (vop P (OH E s.ss) (aev s.T) op) s o.dst K
inductive Cl where
 | v | x | z
 deriving DecidableEq
def Hi (P:Program) (E:Nat->Prop) (D:List (Option Tmp)) (c:Cl) (o:Oper) (s:AS) (K:AS->Prop):Prop :=
 Ae (gw D s.T o.guard) (match c with | .v=>EA P E o s K | .x=>aop P o s (kp E s.ss K) | .z=>aop P o s K) (K (s.put o.dst WE))
def FC (P:Program) (E:Nat->Prop) (D:List (Option Tmp)):List (Cl × Oper)->(AS->Prop)->AS->Prop
 | [],K,s=>K s
 | (c,o) :: os,K,s=>Hi P E D c o s (FC P E D os K)
section
variable {P:Program} {E:Nat->Prop} {D:List (Option Tmp)}
def RY (P : Program) (E : Nat -> Prop) (s : AS) (o : Oper) (v : AV) : Prop :=
  match o.op with
  | .call { callee := .value f, args, .. } => ∃ g bs, aev s.T f = .fn g [] /\ BX (args.toList.map (aev s.T)) bs /\ Vm P g bs v
  | .call { callee := .builtin .append, args, argTypes } =>
    (match args.toList, argTypes.toList with
     | [x, y], [t, t2] => t = t2 /\ Qni (se P t) (aev s.T x) (aev s.T y) v
     | _, _ => False)
  | op => vop P (OH E s.ss) (aev s.T) op = some v
theorem Az (o:Oper) (s:AS) (K:AS->Prop):EA P E o s K↔∃v,RY P E s o v/\K (s.put o.dst v):=by
 unfold EA RY;split
 ·constructor
  ·rintro ⟨f,bs,v,h1,h2,h3,h4⟩;exact ⟨v,⟨f,bs,h1,h2,h3⟩,h4⟩
  ·rintro ⟨v,⟨f,bs,h1,h2,h3⟩,h4⟩;exact ⟨f,bs,v,h1,h2,h3,h4⟩
 ·split
  ·constructor
   ·rintro ⟨h1,v,h2,h3⟩;exact ⟨v,⟨h1,h2⟩,h3⟩
   ·rintro ⟨v,⟨h1,h2⟩,h3⟩;exact ⟨h1,v,h2,h3⟩
  ·constructor
   ·exact fun h=>h.elim
   ·rintro ⟨_,h,_⟩;exact h
 ·unfold Bv;constructor
  ·intro h;split at h
   ·rename_i v hv;exact ⟨v,hv,h⟩
   ·exact h.elim
  ·rintro ⟨v,hv,h⟩;rw [hv];exact h
theorem Qgg {T:Nat->AV} {d:Nat} {v:AV} {x:Operand} (h:x≠.tmp d):aev (upd T d v) x=aev T x:=by
 cases x with
 | tmp t=>simp only [aev,upd];rw [if_neg (fun e=>h (by rw [e]))]
 | _=>rfl
theorem DB {s:AS} {dst:Option Tmp} {v:AV} {x:Operand} (h:∀d,dst=some d->x≠.tmp d):aev (s.put dst v).T x=aev s.T x:=by
 cases dst with
 | none=>rfl
 | some d=>exact Qgg (h d rfl)
theorem Be {s:AS} {x y:Option Tmp} {v u:AV} (h:∀d,x=some d->y≠some d):(s.put x v).put y u=(s.put y u).put x v:=by
 cases x with
 | none=>rfl
 | some d =>
  cases y with
  | none=>rfl
  | some d' =>
   have hne:d≠d':=fun e=>h d rfl (by rw [e]);simp only [AS.put]
   congr 1
   funext i;simp only [upd]
   by_cases h1:i=d<;>by_cases h2:i=d'<;>simp_all
theorem Qd7 {ss ss':Sto} (h:DX E ss ss') {p:AV} {cs:List AV} (hm:mem (OH E ss) p=some cs):mem (OH E ss') p=some cs:=by
 unfold mem OH at *
 cases p<;>simp only at hm ⊢ <;> try exact hm
 rename_i b o
 by_cases hb:E b
 ·simp [hb] at hm
 ·simp only [hb,if_false] at hm ⊢
  cases he:ss.var b with
  | none=>simp [he] at hm
  | some e=>rw [h b e hb he];rw [he] at hm;exact hm
theorem Mv {ss:Sto} {ρ ρ':Operand->AV} {op:Op} (hρ:∀x∈op.operands.toList,ρ' x=ρ x):vop P ss ρ' op=vop P ss ρ op:=by
 cases op<;>simp only [vop]<;>simp only [Op.operands] at hρ
 case move x=>rw [hρ x (by simp)]
 case assign x=>rw [hρ x (by simp)]
 case pick c a b=>rw [hρ c (by simp),hρ a (by simp),hρ b (by simp)]
 case load t p=>rw [hρ p (by simp)]
 case nilCheck x=>rw [hρ x (by simp)]
 case fieldAddr t x f=>rw [hρ x (by simp)]
 case indexAddr t x i=>rw [hρ x (by simp),hρ i (by simp)]
 case index t x i=>rw [hρ x (by simp),hρ i (by simp)]
 case binOp op t x y t2=>rw [hρ x (by simp),hρ y (by simp)]
 case unOp op t x=>rw [hρ x (by simp)]
 case extract x i=>rw [hρ x (by simp)]
 case build t parts =>
  have:(parts.toList.map fun p=>(p.1,ρ' p.2))=parts.toList.map fun p=>(p.1,ρ p.2):=Q8 (fun p hp=>by rw [hρ p.2 (by simp;exact ⟨p.1,by simpa using hp⟩)]);rw [this]
 case buildSlice t len parts =>
  have:(parts.toList.map fun p=>(p.1,ρ' p.2))=parts.toList.map fun p=>(p.1,ρ p.2):=Q8 (fun p hp=>by rw [hρ p.2 (by simp;exact ⟨p.1,by simpa using hp⟩)]);rw [this]
 case slice t x lo hi mx =>
  have hl:lo.map ρ'=lo.map ρ:=by cases lo with | none=>rfl | some y=>simp only [Qu];rw [hρ y (by simp)]
  have hh:hi.map ρ'=hi.map ρ:=by cases hi with | none=>rfl | some y=>simp only [Qu];rw [hρ y (by simp)]
  have hm:mx.map ρ'=mx.map ρ:=by cases mx with | none=>rfl | some y=>simp only [Qu];rw [hρ y (by simp)]
  rw [hρ x (by simp),hl,hh,hm]
 case convert s d x=>rw [hρ x (by simp)]
 case makeFunc fn first caps =>
  have:caps.toList.map ρ'=caps.toList.map ρ:=Q8 (fun x hx=>hρ x (by simp;exact .inr (by simpa using hx)))
  cases fn<;>try rfl
  simp only [this]
 case call c =>
  obtain ⟨callee,args,argTypes⟩:=c
  cases callee<;>try rfl
  rename_i b;have ha:∀x∈args.toList,ρ' x=ρ x:=fun x hx=>hρ x (by simp [Call.operands];simpa using hx)
  cases b<;>try rfl
  case len =>
   obtain ⟨args⟩:=args;obtain ⟨argTypes⟩:=argTypes
   match args,argTypes with
   | [x],[t]=>show (if isS P t||(se P t).isSome then DD (isS P t) (ρ' x) else none)=_;rw [ha x (by simp)]
   | [],_=>rfl
   | _ :: _ :: _,_=>rfl
   | [_],[]=>rfl
   | [_],_ :: _ :: _=>rfl
  case max =>
   obtain ⟨args⟩:=args
   match args with
   | [x,y]=>show Qgi (ρ' x) (ρ' y)=_;rw [ha x (by simp),ha y (by simp)]
   | []=>rfl
   | [_]=>rfl
   | _ :: _ :: _ :: _=>rfl
theorem Qe1 {ss ss':Sto} (h:DX E ss ss') {ρ ρ':Operand->AV} {op:Op} {v:AV} (hρ:∀x∈op.operands.toList,ρ' x=ρ x) (hv:vop P (OH E ss) ρ op=some v):vop P (OH E ss') ρ' op=some v:=by
 rw [Mv hρ]
 cases op<;>simp only [vop] at hv ⊢ <;> try exact hv
 case makeFunc fn first caps=>cases fn<;>exact hv
 case load t p =>
  unfold Cq at hv ⊢;split at hv
  ·rename_i ag k hk
   cases hm:mem (OH E ss) (ρ p) with
   | none=>simp [hm] at hv
   | some cs=>rw [Qd7 h hm];rw [hm] at hv;exact hv
  ·cases hv
 case call c =>
  obtain ⟨callee,args,argTypes⟩:=c
  cases callee<;>try exact hv
  rename_i b;cases b<;>exact hv
theorem Fk {s s':AS} (h:DX E s.ss s'.ss) {o:Oper} {v:AV} (hρ:∀x∈o.op.operands.toList,aev s'.T x=aev s.T x) (hv:RY P E s o v):RY P E s' o v:=by
 unfold RY at hv ⊢;split at hv
 ·rename_i f args tys heq;rw [heq] at hρ;simp only [Op.operands,Call.operands] at hρ;have ha:args.toList.map (aev s'.T)=args.toList.map (aev s.T):=Q8 (fun x hx=>hρ x (by simp;exact .inr (by simpa using hx)));rw [hρ f (by simp),ha];exact hv
 ·rename_i args tys heq;rw [heq] at hρ;simp only [Op.operands,Call.operands] at hρ;split at hv
  ·rename_i x y t t2 hargs htys;have hm:∀z∈args.toList,aev s'.T z=aev s.T z:=fun z hz=>hρ z (by simpa using hz);rw [hm x (by rw [hargs];simp),hm y (by rw [hargs];simp)];exact hv
  ·exact hv.elim
 ·exact Qe1 h hρ hv
theorem Sy {s:AS} {dst:Option Tmp} {v:AV} {g:Option (Nat × Bool)} (h:∀d,dst=some d->∀j w,g=some (j,w)->gd D j≠some d):gw D (s.put dst v).T g=gw D s.T g:=by
 cases g with
 | none=>rfl
 | some jw =>
  obtain ⟨j,w⟩:=jw;simp only [gw]
  cases hg:gd D j with
  | none=>rfl
  | some t =>
   cases dst with
   | none=>rfl
   | some d =>
    have hne:t≠d:=fun e=>h d rfl j w rfl (by rw [hg,e]);simp only [AS.put,upd,hne,if_false]
def apt (D : List (Option Tmp)) (x y : Oper) : Bool :=
  (match x.dst with
   | some d => !(y.op.operands.toList.any fun z => match z with | .tmp t => t == d | _ => false) && (match y.guard with | some (j, _) => gd D j != some d | none => true) && y.dst != some d
   | none => true) &&
  (match y.dst with
   | some d => !(x.op.operands.toList.any fun z => match z with | .tmp t => t == d | _ => false) && (match x.guard with | some (j, _) => gd D j != some d | none => true)
   | none => true)
theorem CY {x y:Oper} (h:apt D x y=true) :
  (∀d,x.dst=some d->(∀z∈y.op.operands.toList,z≠.tmp d)/\(∀j w,y.guard=some (j,w)->gd D j≠some d)/\y.dst≠some d) /\
  (∀d,y.dst=some d->(∀z∈x.op.operands.toList,z≠.tmp d)/\(∀j w,x.guard=some (j,w)->gd D j≠some d)):=by
 unfold apt at h;rw [QG] at h
 have ops:∀(l:List Operand) (d:Tmp),(!(l.any fun z=>match z with | .tmp t=>t == d | _=>false))=true->∀z∈l,z≠.tmp d:=by
  intro l d hl z hz he;subst he;rw [Bool.not_eq_true',List.any_eq_false] at hl;exact hl _ hz (by simp)
 constructor
 ·intro d hd;have h1:=h.1;rw [hd] at h1;simp only [QG] at h1;refine ⟨ops _ d h1.1.1,fun j w hg=>?_,by simpa using h1.2⟩;have:=h1.1.2;rw [hg] at this;simpa using this
 ·intro d hd;have h1:=h.2;rw [hd] at h1;simp only [QG] at h1;refine ⟨ops _ d h1.1,fun j w hg=>?_⟩;have:=h1.2;rw [hg] at this;simpa using this
theorem U0 {o:Oper} {s:AS} {K:AS->Prop} (h:aop P o s K):aop P o s (fun s'=>(∃ss' r,s'=AS.put ⟨s.T,ss'⟩ o.dst r)/\K s'):=by
 have hval:∀(ov:Option AV),Bv ov s o.dst K->Bv ov s o.dst (fun s'=>(∃ss' r,s'=AS.put ⟨s.T,ss'⟩ o.dst r)/\K s'):=by
  intro ov h;unfold Bv at h ⊢;split at h
  ·rename_i v;exact ⟨⟨s.ss,v,rfl⟩,h⟩
  ·exact h.elim
 have hall:∀(oc:Option (List AV)) (t:TypeId),Hc oc t s o.dst K->Hc oc t s o.dst (fun s'=>(∃ss' r,s'=AS.put ⟨s.T,ss'⟩ o.dst r)/\K s'):=by
  intro oc t h;unfold Hc at h ⊢;split at h
  ·exact fun b hb=>⟨⟨_,_,rfl⟩,h b hb⟩
  ·exact h.elim
 unfold aop at h ⊢;split at h
 ·exact hall _ _ h
 ·exact hall _ _ h
 ·unfold Ix at h ⊢;split at h
  ·exact ⟨⟨_,_,rfl⟩,h⟩
  ·exact h.elim
 ·unfold NO at h ⊢;split at h
  ·obtain ⟨h1,h2,h3,h4,h5,z',h7,h6⟩:=h;exact ⟨h1,h2,h3,h4,h5,z',h7,fun b hb=>⟨⟨_,_,rfl⟩,h6 b hb⟩⟩
  ·exact h.elim
 ·unfold FD at h ⊢;split at h
  ·exact h.mono (fun r ss' hk=>⟨⟨ss',r,rfl⟩,hk⟩)
  ·exact h.elim
 ·split at h
  ·refine ⟨h.1,?_⟩;have h2:=h.2;unfold JZ at h2 ⊢;split at h2
   ·obtain ⟨xs,ys,a1,a2,a3,a4,a5,a6⟩:=h2;exact ⟨xs,ys,a1,a2,a3,a4,a5,fun v' ss' hp=>by obtain ⟨v2,ss2,hw,hk⟩:=a6 v' ss' hp;exact ⟨v2,ss2,hw,⟨ss2,v2,rfl⟩,hk⟩⟩
   ·exact h2.elim
  ·exact h.elim
 ·unfold aSl at h ⊢;split at h
  ·obtain ⟨m,e,he,hk⟩:=h;exact ⟨m,e,he,⟨_,_,rfl⟩,hk⟩
  ·exact ⟨⟨s.ss,_,rfl⟩,h⟩
  ·exact h.elim
 ·exact hval _ h
theorem Av {o:Oper} {s:AS} {K K':AS->Prop} (h:aop P o s K) (hk:∀s',K s'->K' s'):aop P o s K':=by
 unfold aop at h ⊢;split at h
 ·unfold Hc at h ⊢;split at h
  ·exact fun b hb=>hk _ (h b hb)
  ·exact h.elim
 ·unfold Hc at h ⊢;split at h
  ·exact fun b hb=>hk _ (h b hb)
  ·exact h.elim
 ·unfold Ix at h ⊢;split at h
  ·exact hk _ h
  ·exact h.elim
 ·unfold NO at h ⊢;split at h
  ·obtain ⟨h1,h2,h3,h4,h5,z',h7,h6⟩:=h;exact ⟨h1,h2,h3,h4,h5,z',h7,fun b hb=>hk _ (h6 b hb)⟩
  ·exact h.elim
 ·unfold FD at h ⊢;split at h
  ·exact h.mono (fun r ss' hr=>hk _ hr)
  ·exact h.elim
 ·split at h
  ·refine ⟨h.1,?_⟩;have h2:=h.2;unfold JZ at h2 ⊢;split at h2
   ·obtain ⟨xs,ys,a1,a2,a3,a4,a5,a6⟩:=h2;exact ⟨xs,ys,a1,a2,a3,a4,a5,fun v' ss' hp=>by obtain ⟨v2,ss2,hw,h6⟩:=a6 v' ss' hp;exact ⟨v2,ss2,hw,hk _ h6⟩⟩
   ·exact h2.elim
  ·exact h.elim
 ·unfold aSl at h ⊢;split at h
  ·obtain ⟨m,e,he,h⟩:=h;exact ⟨m,e,he,hk _ h⟩
  ·exact hk _ h
  ·exact h.elim
 ·unfold Bv at h ⊢;split at h
  ·exact hk _ h
  ·exact h.elim
theorem U1 {o:Oper} {s:AS} {dst:Option Tmp} {v:AV} {K:AS->Prop} (h1:∀d,dst=some d->∀z∈o.op.operands.toList,z≠.tmp d) (h2:∀d,dst=some d->o.dst≠some d) (h:aop P o (s.put dst v) K):aop P o s (fun s'=>K (s'.put dst v)):=by
 have hev:∀z∈o.op.operands.toList,aev (s.put dst v).T z=aev s.T z:=fun z hz=>DB (fun d hd=>h1 d hd z hz)
 have hput:∀(ss':Sto) (r:AV),AS.put ⟨(s.put dst v).T,ss'⟩ o.dst r=(AS.put ⟨s.T,ss'⟩ o.dst r).put dst v:=by
  intro ss' r
  have:(⟨(s.put dst v).T,ss'⟩:AS)=AS.put ⟨s.T,ss'⟩ dst v:=by cases dst<;>rfl
  rw [this];exact Be h2
 have hput':∀r:AV,(s.put dst v).put o.dst r=(s.put o.dst r).put dst v:=fun r=>Be h2;have hσ:=GF s dst v;unfold aop at h ⊢;split at h
 ·unfold Hc at h ⊢;split at h
  ·intro b hb;rw [hσ] at h;have:=h b hb;rw [hput] at this;exact this
  ·exact h.elim
 ·rename_i t x heq;rw [heq] at hev;rw [hev x (by simp [Op.operands])] at h;unfold Hc at h ⊢;split at h
  ·rename_i cs hcs;intro b hb;rw [hσ] at h;have:=h b hb;rw [hput] at this;exact this
  ·exact h.elim
 ·rename_i t p x heq;rw [heq] at hev;rw [hev x (by simp [Op.operands]),hev p (by simp [Op.operands]),hσ] at h;unfold Ix at h ⊢;split at h
  ·rename_i ss' hs;rw [hput] at h;exact h
  ·exact h.elim
 ·rename_i t l c heq;rw [heq] at hev;rw [hev l (by simp [Op.operands]),hev c (by simp [Op.operands])] at h;unfold NO at h ⊢;split at h
  ·rename_i e sz by_ z k1 n k2 m q1 q2 q3 q4;obtain ⟨a1,a2,a3,a4,a5,z',a7,a6⟩:=h;refine ⟨a1,a2,a3,a4,a5,z',a7,fun b hb=>?_⟩;rw [hσ] at a6;have:=a6 b hb;rw [hput] at this;exact this
  ·exact h.elim
 ·rename_i f args tys heq;rw [heq] at hev;simp only [Op.operands,Call.operands] at hev;have ha:args.toList.map (aev (s.put dst v).T)=args.toList.map (aev s.T):=Q8 (fun x hx=>hev x (by simp;exact .inr (by simpa using hx)));rw [hev f (by simp),ha] at h;unfold FD at h ⊢;split at h
  ·rename_i g caps hf;rw [hσ] at h;exact h.mono (fun r ss' hk=>by rw [hput] at hk;exact hk)
  ·exact h.elim
 ·rename_i args tys heq;rw [heq] at hev;simp only [Op.operands,Call.operands] at hev;have hm:∀z∈args.toList,aev (s.put dst v).T z=aev s.T z:=fun z hz=>hev z (by simpa using hz);split at h
  ·rename_i x y t t2 hargs htys;rw [hm x (by rw [hargs];simp),hm y (by rw [hargs];simp)] at h;refine ⟨h.1,?_⟩;have h2:=h.2;unfold JZ at h2 ⊢;split at h2
   ·obtain ⟨xs,ys,a1,a2,a3,a4,a5,a6⟩:=h2;rw [hσ] at a3 a4 a6;exact ⟨xs,ys,a1,a2,a3,a4,a5,fun v' ss' hp=>by obtain ⟨v2,ss2,hw,this⟩:=a6 v' ss' hp;rw [hput] at this;exact ⟨v2,ss2,hw,this⟩⟩
   ·exact h2.elim
  ·exact h.elim
 ·rename_i t x lo hi mx heq
  have he:vop P (s.put dst v).ss (aev (s.put dst v).T) o.op=vop P s.ss (aev s.T) o.op:=by rw [hσ];exact Mv hev
  rw [heq] at he;rw [he] at h;unfold aSl at h ⊢;split at h
  ·obtain ⟨m,e,he',h⟩:=h;rw [hσ] at he' h;rw [hput] at h;exact ⟨m,e,he',h⟩
  ·rw [hput'] at h;exact h
  ·exact h.elim
 ·have he:vop P (s.put dst v).ss (aev (s.put dst v).T) o.op=vop P s.ss (aev s.T) o.op:=by rw [hσ];exact Mv hev
  rw [he] at h;unfold Bv at h ⊢;split at h
  ·rename_i r hr;rw [hput'] at h;exact h
  ·exact h.elim
theorem DX.refl (ss:Sto):DX E ss ss:=fun _ _ _ h=>h
theorem CW {s:AS} {dst:Option Tmp} {v r:AV} {o:Oper} (h:∀d,dst=some d->∀z∈o.op.operands.toList,z≠.tmp d):RY P E s o r↔RY P E (s.put dst v) o r:=by
 have hs:=GF s dst v;constructor
 ·exact fun hv=>Fk (by rw [hs];exact DX.refl _) (fun z hz=>DB (fun d hd=>h d hd z hz)) hv
 ·exact fun hv=>Fk (by rw [hs];exact DX.refl _) (fun z hz=>(DB (fun d hd=>h d hd z hz)).symm) hv
theorem Qik {l i:Oper} {s:AS} {K:AS->Prop} (ha:apt D l i=true) (h:Hi P E D .v l s (fun s1=>Hi P E D .v i s1 K)):Hi P E D .v i s (fun s2=>Hi P E D .v l s2 K):=by
 obtain ⟨ha1,ha2⟩:=CY ha;have hpc:∀v u:AV,(s.put l.dst v).put i.dst u=(s.put i.dst u).put l.dst v:=fun v u=>Be (fun d hd=>(ha1 d hd).2.2);have gl:∀u:AV,gw D (s.put i.dst u).T l.guard=gw D s.T l.guard:=fun u=>Sy (fun d hd=>(ha2 d hd).2);have gi:∀v:AV,gw D (s.put l.dst v).T i.guard=gw D s.T i.guard:=fun v=>Sy (fun d hd=>(ha1 d hd).2.1);obtain ⟨t,hg,h1,h2⟩:=h;simp only [Az] at h1
 cases t with
 | true =>
  obtain ⟨v,hv,t',hg',k1,k2⟩:=h1 rfl;rw [gi] at hg';refine ⟨t',hg',fun ht'=>?_,fun ht'=>?_⟩
  ·have k1:=k1 ht';simp only [Az] at k1 ⊢;obtain ⟨u,hu,hK⟩:=k1;refine ⟨u,(CW (fun d hd=>(ha1 d hd).1)).2 hu,true,by rw [gl];exact hg,fun _=>?_,fun h=>by cases h⟩;simp only [Az];exact ⟨v,(CW (fun d hd=>(ha2 d hd).1)).1 hv,by rw [← hpc];exact hK⟩
  ·refine ⟨true,by rw [gl];exact hg,fun _=>?_,fun h=>by cases h⟩;simp only [Az];exact ⟨v,(CW (fun d hd=>(ha2 d hd).1)).1 hv,by rw [← hpc];exact k2 ht'⟩
 | false =>
  obtain ⟨t',hg',k1,k2⟩:=h2 rfl;rw [gi] at hg';refine ⟨t',hg',fun ht'=>?_,fun ht'=>?_⟩
  ·have k1:=k1 ht';simp only [Az] at k1 ⊢;obtain ⟨u,hu,hK⟩:=k1;exact ⟨u,(CW (fun d hd=>(ha1 d hd).1)).2 hu,false,by rw [gl];exact hg,(fun h=>by cases h),fun _=>by rw [← hpc];exact hK⟩
  ·exact ⟨false,by rw [gl];exact hg,(fun h=>by cases h),fun _=>by rw [← hpc];exact k2 ht'⟩
theorem Qil {l i:Oper} {s:AS} {K:AS->Prop} (ha:apt D l i=true) (h:Hi P E D .v l s (fun s1=>Hi P E D .x i s1 K)):Hi P E D .x i s (fun s2=>Hi P E D .v l s2 K):=by
 obtain ⟨ha1,ha2⟩:=CY ha;have hpc:∀(s:AS) (v u:AV),(s.put l.dst v).put i.dst u=(s.put i.dst u).put l.dst v:=fun s v u=>Be (fun d hd=>(ha1 d hd).2.2);have gl:∀(ss':Sto) (u:AV),gw D (AS.put ⟨s.T,ss'⟩ i.dst u).T l.guard=gw D s.T l.guard:=fun ss' u=>Sy (s:=⟨s.T,ss'⟩) (fun d hd=>(ha2 d hd).2);have gi:∀v:AV,gw D (s.put l.dst v).T i.guard=gw D s.T i.guard:=fun v=>Sy (fun d hd=>(ha1 d hd).2.1);have hz2:∀(ss':Sto) (u:AV),∀z∈l.op.operands.toList,aev (AS.put ⟨s.T,ss'⟩ i.dst u).T z=aev s.T z:=fun ss' u z hz=>DB (s:=⟨s.T,ss'⟩) (fun d hd=>(ha2 d hd).1 z hz);have hd2:∀d,l.dst=some d->i.dst≠some d:=fun d hd=>(ha1 d hd).2.2;obtain ⟨t,hg,h1,h2⟩:=h
 cases t with
 | true =>
  have h1:=h1 rfl;simp only [Az] at h1;obtain ⟨v,hv,t',hg',k1,k2⟩:=h1;rw [gi] at hg';refine ⟨t',hg',fun ht'=>?_,fun ht'=>?_⟩
  ·have k:=U0 (U1 (fun d hd z hz=>(ha1 d hd).1 z hz) hd2 (k1 ht'));refine Av k ?_;rintro s' ⟨⟨ss',r,rfl⟩,hk,hK⟩;rw [GF,GF] at hk;refine ⟨by rw [GF] at hk ⊢;exact hk,true,by rw [gl];exact hg,fun _=>?_,fun h=>by cases h⟩;simp only [Az];exact ⟨v,Fk (by rw [GF] at hk ⊢;exact hk) (hz2 ss' r) hv,hK⟩
  ·refine ⟨true,by have:=gl s.ss WE;rw [this];exact hg,fun _=>?_,fun h=>by cases h⟩;simp only [Az];exact ⟨v,(CW (fun d hd=>(ha2 d hd).1)).1 hv,by rw [← hpc];exact k2 ht'⟩
 | false =>
  obtain ⟨t',hg',k1,k2⟩:=h2 rfl;rw [gi] at hg';refine ⟨t',hg',fun ht'=>?_,fun ht'=>?_⟩
  ·have k:=U0 (U1 (fun d hd z hz=>(ha1 d hd).1 z hz) hd2 (k1 ht'));refine Av k ?_;rintro s' ⟨⟨ss',r,rfl⟩,hk,hK⟩;rw [GF,GF] at hk;exact ⟨by rw [GF] at hk ⊢;exact hk,false,by rw [gl];exact hg,(fun h=>by cases h),fun _=>hK⟩
  ·exact ⟨false,by have:=gl s.ss WE;rw [this];exact hg,(fun h=>by cases h),fun _=>by rw [← hpc];exact k2 ht'⟩
end
end Go.Proofs.Shadow
namespace Go.Proofs.Shadow
open Go Go.RowKit
section
variable {P:Program} {E:Nat->Prop} {n:Nat} {ss0:Sto} {w0:World}
theorem TD {ss:Sto} {p:AV} {cs:List AV} (h:mem (OH E ss) p=some cs):mem ss p=some cs:=by
 unfold mem OH at *
 cases p<;>simp only at h ⊢ <;> try exact h
 ·rename_i b o
  by_cases hb:E b
  ·simp [hb] at h
  ·simpa [hb] using h
 ·simp at h
theorem Uf {ss:Sto} {ρ:Operand->AV} {op:Op} {v:AV} (h:vop P (OH E ss) ρ op=some v):vop P ss ρ op=some v:=by
 cases op<;>simp only [vop] at h ⊢ <;> try exact h
 case load t p =>
  unfold Cq at h ⊢;split at h
  ·rename_i ag k hk
   cases hm:mem (OH E ss) (ρ p) with
   | none=>simp [hm] at h
   | some cs=>rw [TD hm];rw [hm] at h;exact h
  ·cases h
 case makeFunc fn first caps=>cases fn<;>exact h
 case call c =>
  obtain ⟨callee,args,argTypes⟩:=c
  cases callee<;>try exact h
  rename_i b;cases b<;>exact h
theorem Lw.weaken {K K':AS->Prop} {a:Act} {w:World} (h:Lw P n ss0 w0 K a w) (hk:∀s,K s->Sim s.ss w->∃s',K' s'/\Sub s'.ss s.ss/\∀a,Um n s.ss w s.T a->Um n s'.ss w s'.T a):Lw P n ss0 w0 K' a w:=by
 obtain ⟨s,hs,hR⟩:=h;obtain ⟨s',hs',hsub,hT⟩:=hk s hs hR.sim;exact ⟨s',hs',hR.sim.drop hsub.var hsub.own,hT a hR.tmps,hR.step.trans (Step.drop (fun b hb=>hsub.dead hb)),hR.tb.drop (fun b hb=>hsub.dead hb)⟩
theorem Qiu {o:Oper} {args:Array Operand} {tys:Array TypeId} {s:AS} {a:Act} {w:World} {K:AS->Prop} {Q:Exit->Act->World->Prop} (heq:o.op=.call { callee:=.builtin .append,args,argTypes:=tys }) (hok:PV P n o=true) (hR:Rel P n ss0 w0 s a w)
  {x y:Operand} {t t2:TypeId} (hargs:args.toList=[x,y]) (htys:tys.toList=[t,t2]) (ht:t=t2) (h:Qlf (se P t) (aev s.T x) (aev s.T y) s o.dst K):o.wp P a w (Lw P n ss0 w0 K) Q:=by
 obtain ⟨v,⟨e,sz,by_,xs,ys,hk,hsz,hby,hx,hxr,hy,hyr,hb,rfl⟩,hK⟩:=h;have hown:OG s.ss e sz (aev s.T x) xs:=⟨hxr,hx.elim (fun h=>.inl h) (fun h=>.inr (.inl h))⟩;have hrd:RdL s.ss sz (aev s.T y) ys:=⟨hyr,hy.elim (fun h=>.inl h) (fun ⟨c,h⟩=>.inr (.inl ⟨c,h⟩))⟩
 have hnb:(aev s.T x).blk=none:=by rcases hx with ⟨h,_⟩ | h<;>rw [h]<;>rfl
 have hop:aop P o s (fun s'=>∃v' ss',JY s.ss e sz (aev s.T x) ss' v' (xs++ys)/\s'=AS.put ⟨s.T,ss'⟩ o.dst v'):=by
  unfold aop;rw [heq];simp only [hargs,htys];refine ⟨ht,?_⟩;unfold JZ;rw [hk];exact ⟨xs,ys,hsz,hby,hown,hrd,hb,fun v' ss' hp=>⟨v',ss',Wk1.refl _ _,v',ss',hp,rfl⟩⟩
 refine Oper.wp_mono (fun a' w' hp=>hp.weaken ?_) (Sc hok hR hop);rintro s' ⟨v',ss',hp,rfl⟩ hsim;rw [GF] at hsim;obtain ⟨ss2,f1,f2,f3,f4⟩:=hp.own.freeze
 have hsub:Sub s.ss ss2:=⟨fun b e hbe=>by rw [f2,hp.var];exact hbe,fun b e hbe=>by
  have hne:s.ss.own b≠none:=by rw [hbe];simp
  have hnv:some b≠v'.blk:=by
   rcases hp.blk with h1 | h1
   ·rw [h1,hnb];simp
   ·exact fun he=>hne (h1 b he.symm).2
  rw [f3 b hnv,hp.same b (by rw [hnb];simp) hne]
  exact hbe⟩
 have hsub2:Sub s.ss ss':=hsub.trans f1;refine ⟨s.put o.dst (.sl false (xs++ys)),hK,by rw [GF,GF];exact hsub2,fun a hT=>?_⟩;rw [GF] at hT ⊢;refine ⟨hT.1,hT.2.1,fun i=>?_⟩;have hi:=hT.2.2 i;have hst:Step ss' w' s.ss w':=Step.drop (fun b hb=>hsub2.dead hb)
 cases hd:o.dst with
 | none =>
  simp only [hd,AS.put] at hi ⊢;exact hi.step hst
 | some d =>
  simp only [hd,AS.put,upd] at hi ⊢
  by_cases hid:i=d
  ·rw [if_pos hid] at hi ⊢;have:=(f4 w' _ hsim hi).2.1;exact this.step (Step.drop (fun b hb=>hsub.dead hb))
  ·rw [if_neg hid] at hi ⊢;exact hi.step hst
theorem Qey {c:Cl} {o:Oper} {s:AS} {a:Act} {w:World} {K:AS->Prop} {Q:Exit->Act->World->Prop} (hok:PV P n o=true) (hR:Rel P n ss0 w0 s a w) (h:match c with | .v=>EA P E o s K | .x=>aop P o s (kp E s.ss K) | .z=>aop P o s K):o.wp P a w (Lw P n ss0 w0 K) Q:=by
 cases c with
 | z=>exact Sc hok hR h
 | x=>exact Sc hok hR (Av h (fun s' hs=>hs.2))
 | v =>
  simp only at h;unfold EA at h;split at h
  ·rename_i f args tys heq;obtain ⟨g,bs,v,hf,hw,hp,hK⟩:=h;refine Qag heq hok hR ?_;rw [hf];have:=Nw (T:=s.T) (ss:=s.ss) (dst:=o.dst) hp hw hK;exact this
  ·rename_i args tys heq;split at h
   ·rename_i x y t t2 hargs htys;exact Qiu heq hok hR hargs htys h.1 h.2
   ·exact h.elim
  ·refine Uy hok hR ?_;unfold Bv at h ⊢;split at h
   ·rename_i v hv;rw [Uf hv];exact h
   ·exact h.elim
theorem Lm {ops:Array Oper} {Q:Exit->Act->World->Prop} {c:Cl} {o:Oper} {s:AS} {a:Act} {w:World} {K:AS->Prop} {K':Act->World->Prop} (hok:PV P n o=true) (hR:Rel P n ss0 w0 s a w) (h:Hi P E (ops.toList.map (·.dst)) c o s K) (hK:∀a w,Lw P n ss0 w0 K a w->K' a w) :
  if Region.wanted o (yielded ops a.tmps) then o.wp P a w K' Q∨(o.asks P a w/\LetsOut Q) else K' (a.put o.dst undef) w:=by
 obtain ⟨t,hg,h1,h2⟩:=h;rw [Qkm hR.tmps hg]
 cases t with
 | true=>simp only [if_true];exact .inl (Oper.wp_mono hK (Qey hok hR (h1 rfl)))
 | false=>simp only [Qq,if_false];exact hK _ _ (Ap (s':=⟨s.T,s.ss⟩) hR (BO hok).2.1 rfl hR.sim (Step.refl _ _) Eu (h2 rfl))
theorem Fj {D:List (Option Tmp)} {c:Cl} {o:Oper} {s:AS} {K K':AS->Prop} (h:Hi P E D c o s K) (hk:∀s',K s'->K' s'):Hi P E D c o s K':=by
 obtain ⟨t,hg,h1,h2⟩:=h;refine ⟨t,hg,fun ht=>?_,fun ht=>hk _ (h2 ht)⟩;have h1:=h1 ht
 cases c with
 | v=>simp only [Az] at h1 ⊢;obtain ⟨v,hv,hK⟩:=h1;exact ⟨v,hv,hk _ hK⟩
 | x=>exact Av h1 (fun s' hs=>⟨hs.1,hk _ hs.2⟩)
 | z=>exact Av h1 hk
def II (ops:Array Oper) (i:Nat):Oper:=ops.getD i default
def LD (o:Oper):List Nat:=(o.after.toList.filter (Region.binds .any)).map (·.on)
def Qi8 (ops:Array Oper):List (List Nat):=ops.toList.foldl (fun acc o=>acc++[(LD o++(LD o).flatMap fun m=>acc.getD m []).eraseDups]) []
def D1 (ops:Array Oper) (B:List (List Nat)):Bool:=(List.range ops.size).all fun i=>(LD (II ops i)).all (fun m=>decide (m < i))&&(B.getD i []).all fun l=>(LD (II ops i)).contains l||(LD (II ops i)).any fun m=>(B.getD m []).contains l
def okP:Cl->Cl->Bool
 | .v,.v=>true
 | .v,.x=>true
 | _,_=>false
def isApp (o:Oper):Bool:=o.guard.isNone&&(match o.op with | .call { callee:=.builtin .append,.. } => true | _=>false)
def isAll (P:Program) (o:Oper):Bool:=o.guard.isNone&&(match o.op with | .alloc t=>(tz P t).isSome | _=>false)
def Qhq (o:Oper):Bool:=o.guard.isNone&&(match o.op with | .store .. => true | _=>false)
def Qmg (o:Oper):Bool:=o.guard.isNone&&(match o.op with | .load .. => true | _=>false)
def Qls (P:Program) (c d:Cl) (l i:Oper):Bool:=(match c,d with | .x,.x=>true | _,_=>false)&&(isApp l||isAll P l||Qhq l||Qmg l)&&isAll P i
def Px (P:Program) (ops:Array Oper) (B:List (List Nat)) (p q:Cl × Nat):Bool :=
 !(LD (II ops p.2)).contains q.2&&p.2 != q.2&&((B.getD q.2 []).contains p.2||((okP p.1 q.1||Qls P p.1 q.1 (II ops p.2) (II ops q.2))&&apt (ops.toList.map (·.dst)) (II ops p.2) (II ops q.2)))
def Io (P:Program) (ops:Array Oper) (B:List (List Nat)):List (Cl × Nat)->Bool
 | []=>true
 | p :: ps=>ps.all (Px P ops B p)&&Io P ops B ps
def O1 (P:Program) (ops:Array Oper) (L:List (Cl × Nat)):Bool :=
 D1 ops (Qi8 ops)&&Io P ops (Qi8 ops) L&&(List.range ops.size).all (fun i=>L.any fun p=>p.2 == i)&&L.all (fun p=>decide (p.2 < ops.size))&&(L.length == ops.size)
structure Inv (P:Program) (ops:Array Oper) (B:List (List Nat)) (R:List (Cl × Nat)) (listed:Array Bool):Prop where
 size:listed.size=ops.size
 mem:∀i,i < ops.size->(listed.getD i true=false↔∃c,(c,i)∈R)
 lt:∀p∈R,p.2 < ops.size
 closed:∀i,i < ops.size->listed.getD i true=true->∀m∈LD (II ops i),listed.getD m false=true
 pairs:Io P ops B R=true
theorem Ik {listed:Array Bool} {i:Nat} (h:i < listed.size) (a b:Bool):listed.getD i a=listed.getD i b:=by simp [h]
theorem Ny {ops:Array Oper} {B:List (List Nat)} (hB:D1 ops B=true) {listed:Array Bool} (hsz:listed.size=ops.size) (hcl:∀i,i < ops.size->listed.getD i true=true->∀m∈LD (II ops i),listed.getD m false=true) :
  ∀i,i < ops.size->listed.getD i true=true->∀l∈B.getD i [],listed.getD l false=true:=by
 intro i
 induction i using Nat.strongRecOn with
 | _ i ih =>
  intro hi hl l hlB;unfold D1 at hB;rw [Q6] at hB;have:=hB i (Kd.2 hi);rw [QG,Q6,Q6] at this;obtain ⟨h1,h2⟩:=this;have h3:=h2 l hlB;rw [Q9] at h3
  rcases h3 with h3 | h3
  ·exact hcl i hi hl l (by simpa using h3)
  ·rw [Ki] at h3;obtain ⟨m,hm,hml⟩:=h3
   have hmi:m < i:=by simpa using h1 m hm
   exact ih m hmi (by omega) (by rw [Ik (by omega) true false];exact hcl i hi hl m hm) l (by simpa using hml)
theorem EM {ops:Array Oper} {listed:Array Bool} {i:Nat} (h:i∈Region.ready .any ops listed):i < ops.size/\listed.getD i true=false/\∀m∈LD (II ops i),listed.getD m false=true:=by
 unfold Region.ready at h;obtain ⟨h1,h2⟩:=Kg.1 h
 have hi:i < ops.size:=by simpa using h1
 rw [QG] at h2;refine ⟨hi,by simpa using h2.1,fun m hm=>?_⟩;have h3:=h2.2
 have hg:ops[i]?=some ops[i]:=by simp [hi]
 rw [hg] at h3;simp only [Qu,Q3] at h3
 have ha:II ops i=ops[i]:=by simp [II,hi]
 rw [ha] at hm;unfold LD at hm;obtain ⟨e,he,rfl⟩:=List.mem_map.1 hm;obtain ⟨he1,he2⟩:=Kg.1 he;rw [Ke] at h3;have:=h3 e (by simpa using he1);rw [he2] at this;simpa using this
theorem SM {ops:Array Oper} {listed:Array Bool} {i:Nat} (hi:i < ops.size) (hl:listed.getD i true=false) (h:∀m∈LD (II ops i),listed.getD m false=true):i∈Region.ready .any ops listed:=by
 unfold Region.ready;refine Kg.2 ⟨by simpa using hi,?_⟩
 have hg:ops[i]?=some ops[i]:=by simp [hi]
 have ha:II ops i=ops[i]:=by simp [II,hi]
 rw [hl,hg];simp only [Bool.not_false,Qu,Q3,Bool.true_and];rw [Ke];intro e he
 by_cases hb:Region.binds .any e=true
 ·have:=h e.on (by rw [ha];exact List.mem_map.2 ⟨e,Kg.2 ⟨by simpa using he,hb⟩,rfl⟩);rw [this]
  simp
 ·simp [hb]
def M0 (P:Program) (E:Nat->Prop) (ops:Array Oper) (R:List (Cl × Nat)) (K:AS->Prop):AS->Prop:=FC P E (ops.toList.map (·.dst)) (R.map fun p=>(p.1,II ops p.2)) K
theorem CU {D:List (Option Tmp)} : ∀(L:List (Cl × Oper)) {K K':AS->Prop} {s:AS},FC P E D L K s->(∀s',K s'->K' s')->FC P E D L K' s
 | [],_,_,_,h,hk=>hk _ h
 | (c,o) :: L,_,_,_,h,hk=>Fj h (fun s' hs=>CU L hs hk)
theorem AI (ss:Sto) (b b':Nat) (e:Ent):(ss.Yy b e).dead b'↔b'≠b/\ss.dead b':=by
 simp only [Sto.dead,Sto.Yy];constructor
 ·rintro ⟨h1,h2⟩;split at h1
  ·cases h1
  ·rename_i h;exact ⟨h,h1,h2⟩
 ·rintro ⟨h,h1,h2⟩;exact ⟨by rw [if_neg h];exact h1,h2⟩
theorem Qim {D:List (Option Tmp)} {l i:Oper} {s:AS} {K:AS->Prop} (ha:apt D l i=true) (hl:isApp l=true) (hi:isAll P i=true) (h:Hi P E D .x l s (fun s1=>Hi P E D .x i s1 K)):Hi P E D .x i s (fun s2=>Hi P E D .x l s2 K):=by
 obtain ⟨ha1,ha2⟩:=CY ha;obtain ⟨ldst,lop,lty,lpos,laf,lg⟩:=l;obtain ⟨idst,iop,ity,ipos,iaf,ig⟩:=i;simp only [isApp,isAll,QG,Q7] at hl hi;obtain ⟨rfl,hl⟩:=hl;obtain ⟨rfl,hi⟩:=hi
 have hiop:∃t,iop=.alloc t/\(tz P t).isSome=true:=by
  revert hi;split
  ·exact fun h=>⟨_,rfl,h⟩
  ·intro h;cases h
 have hlop:∃args tys,lop=.call { callee:=.builtin .append,args:=args,argTypes:=tys } := by
  revert hl;split
  ·exact fun _=>⟨_,_,rfl⟩
  ·intro h;cases h
 obtain ⟨t,rfl,htz⟩:=hiop;obtain ⟨cs,hcs⟩:=Qy.1 htz;obtain ⟨args,tys,rfl⟩:=hlop;simp only [Hi,gw,Ae,Option.some.injEq,exists_eq_left',forall_const,true_implies,Kc,false_implies,and_true] at h ⊢
 have hcall:∀(K:AS->Prop) (s:AS),aop P ⟨ldst,.call { callee:=.builtin .append,args:=args,argTypes:=tys },lty,lpos,laf,none⟩ s K↔∃x y t',args.toList=[x,y]/\tys.toList=[t',t']/\JZ (se P t') (aev s.T x) (aev s.T y) s ldst K:=by
  intro K s;simp only [aop];split
  ·rename_i x y t1 t2 h1 h2;constructor
   ·rintro ⟨rfl,h⟩;exact ⟨x,y,t1,h1,h2,h⟩
   ·rintro ⟨x',y',t',h3,h4,h5⟩;rw [h1] at h3;rw [h2] at h4;simp only [List.cons.injEq,and_true] at h3 h4;obtain ⟨rfl,rfl⟩:=h3;obtain ⟨rfl,rfl⟩:=h4;exact ⟨rfl,h5⟩
  ·rename_i hno;constructor
   ·exact fun h=>h.elim
   ·rintro ⟨x',y',t',h3,h4,_⟩;exact (hno x' y' t' t' h3 h4).elim
 rw [hcall] at h;obtain ⟨x,y,t',h1,h2,h3⟩:=h
 have hev:∀(ss':Sto) (u:AV) (z:Operand),z∈[x,y]->aev (AS.put ⟨s.T,ss'⟩ idst u).T z=aev s.T z:=fun ss' u z hz=>DB (s:=⟨s.T,ss'⟩) (fun d hd=>(ha2 d hd).1 z (by
  show z∈(Op.operands _).toList
  have:z∈args.toList:=by rw [h1];exact hz
  simpa [Op.operands,Call.operands] using this))
 unfold JZ at h3
 cases hse:se P t' with
 | none=>rw [hse] at h3;exact h3.elim
 | some k =>
 obtain ⟨e,sz,by_⟩:=k;rw [hse] at h3;obtain ⟨xs,ys,g1,g2,g3,g4,g5,g6⟩:=h3;show Hc (tz P t) t s idst _;rw [hcs];intro b hb;refine ⟨fun b' e' _ he'=>?_,?_⟩
 ·rw [GF];simp only [Sto.Yy];rw [if_neg (fun hh=>by subst hh;rw [hb.1] at he';cases he')];exact he'
 show aop P _ _ _;rw [hcall];refine ⟨x,y,t',h1,h2,?_⟩;rw [hev _ _ x (by simp),hev _ _ y (by simp),hse];refine ⟨xs,ys,g1,g2,?_,?_,g5,fun v' ss2 hp=>?_⟩
 ·rw [GF];exact g3
 ·rw [GF];exact g4
 rw [GF] at hp;have hv2:ss2.var=(ss2.var):=rfl;have hpv:=hp.var;have hdead:∀b',(s.ss.Yy b ⟨t,cs.length,cs⟩).dead b'->s.ss.dead b':=fun b' hd=>((AI _ _ _ _).1 hd).2;have hp':JY s.ss e sz (aev s.T x) ⟨s.ss.var,ss2.own⟩ v' (xs++ys):=⟨rfl,hp.own,hp.same,hp.fresh,hp.blk.imp id (fun h b' hb'=>hdead b' (h b' hb')),hp.cap⟩
 have hbo:ss2.own b=none:=hp.fresh b hb.2 (fun hh=>by
  rcases hp.blk with h4 | h4
  ·rw [h4] at hh
   rcases g3.2 with ⟨h5,_⟩ | h5 | ⟨b',cap,h5,h6⟩
   ·rw [h5] at hh;cases hh
   ·rw [h5] at hh;cases hh
   ·rw [h5] at hh;simp only [AV.blk,Option.some.injEq] at hh;subst hh;rw [hb.2] at h6;cases h6
  ·exact ((AI _ _ _ _).1 (h4 b hh.symm)).1 rfl)
 obtain ⟨v3,ss3,hw,_,hK⟩:=g6 v' _ hp';have hK2:Hc (tz P t) t (AS.put ⟨s.T,ss3⟩ ldst v3) idst _:=hK;rw [hcs] at hK2;have hbd:(⟨s.ss.var,ss2.own⟩:Sto).dead b:=⟨hb.1,hbo⟩;have hK3:=hK2 b (by rw [GF];exact hw.dead b hbd)
 have hσ:(⟨s.ss.var,ss2.own⟩:Sto).Yy b ⟨t,cs.length,cs⟩=ss2:=by
  cases ss2;simp only [Sto.Yy] at hpv ⊢;rw [hpv]
 have hv3:(ss3.Yy b ⟨t,cs.length,cs⟩).var=ss2.var:=by
  rw [← hσ];simp only [Sto.Yy];rw [hw.var]
 refine ⟨v3,ss3.Yy b ⟨t,cs.length,cs⟩,⟨?_,hv3,fun b' hd=>?_,fun ρ hd=>?_⟩,fun b' e' _ he'=>?_,?_⟩
 ·have:=hw.ext (fun i=>if i=b then some ⟨t,cs.length,cs⟩ else none) (fun b' hb'=>by
   by_cases h9:b'=b
   ·subst h9;exact hbd
   ·simp [h9] at hb')
  have e1:∀ss:Sto,ss.ext (fun i=>if i=b then some ⟨t,cs.length,cs⟩ else none)=ss.Yy b ⟨t,cs.length,cs⟩:=fun ss=>by
   simp only [Sto.ext,Sto.Yy];congr 1;funext i;split<;>simp
  rw [e1,e1,hσ] at this;exact this
 ·rw [← hσ] at hd;have:=(AI _ _ _ _).1 hd;exact (AI _ _ _ _).2 ⟨this.1,hw.dead _ this.2⟩
 ·have:=hw.ext (fun i=>(ρ i).or (if i=b then some ⟨t,cs.length,cs⟩ else none)) (fun b' hb'=>by
   by_cases h9:b'=b
   ·subst h9;exact hbd
   ·have h10:ρ b'≠none:=by simpa [h9] using hb'
    have:=hd b' h10;rw [← hσ] at this
    exact ((AI _ _ _ _).1 this).2)
  rw [← Sto.Qa5,← Sto.Qa5,hσ] at this;exact this
 ·rw [GF] at he' ⊢;rw [hv3,hpv];exact he'
 ·have h7:=hK3.2;rw [GF] at h7
  have h8:AS.put ⟨(AS.put ⟨s.T,ss3⟩ ldst v3).T,ss3.Yy b ⟨t,cs.length,cs⟩⟩ idst (.ptr b 0)=AS.put ⟨(AS.put ⟨s.T,s.ss.Yy b ⟨t,cs.length,cs⟩⟩ idst (.ptr b 0)).T,ss3.Yy b ⟨t,cs.length,cs⟩⟩ ldst v3:=by
   have:=Be (s:=⟨s.T,ss3.Yy b ⟨t,cs.length,cs⟩⟩) (x:=ldst) (y:=idst) (v:=v3) (u:=.ptr b 0) (fun d hd=>(ha1 d hd).2.2);cases ldst<;>cases idst<;>exact this
  rw [← h8];exact h7
theorem Qih {D:List (Option Tmp)} {l i:Oper} {s:AS} {K:AS->Prop} (ha:apt D l i=true) (hl:isAll P l=true) (hi:isAll P i=true) (h:Hi P E D .x l s (fun s1=>Hi P E D .x i s1 K)):Hi P E D .x i s (fun s2=>Hi P E D .x l s2 K):=by
 obtain ⟨ha1,ha2⟩:=CY ha;obtain ⟨ldst,lop,lty,lpos,laf,lg⟩:=l;obtain ⟨idst,iop,ity,ipos,iaf,ig⟩:=i;simp only [isAll,QG,Q7] at hl hi;obtain ⟨rfl,hl⟩:=hl;obtain ⟨rfl,hi⟩:=hi
 have hiop:∃t,iop=.alloc t/\(tz P t).isSome=true:=by
  revert hi;split
  ·exact fun h=>⟨_,rfl,h⟩
  ·intro h;cases h
 have hlop:∃t,lop=.alloc t/\(tz P t).isSome=true:=by
  revert hl;split
  ·exact fun h=>⟨_,rfl,h⟩
  ·intro h;cases h
 obtain ⟨t,rfl,htz⟩:=hiop;obtain ⟨cs,hcs⟩:=Qy.1 htz;obtain ⟨t',rfl,htz'⟩:=hlop;obtain ⟨cs',hcs'⟩:=Qy.1 htz';simp only [Hi,gw,Ae,Option.some.injEq,exists_eq_left',forall_const,true_implies,Kc,false_implies,and_true] at h ⊢;have h1:Hc (tz P t') t' s ldst _:=h;rw [hcs'] at h1;show Hc (tz P t) t s idst _;rw [hcs];intro b hb
 have hkeep:∀(ss:Sto) (b:Nat) (e:Ent),ss.var b=none->DX E ss (ss.Yy b e):=fun ss b e hb b' e' _ he=>by
  simp only [Sto.Yy];rw [if_neg (fun hh=>by subst hh;rw [hb] at he;cases he)];exact he
 refine ⟨by rw [GF];exact hkeep _ _ _ hb.1,?_⟩;show Hc (tz P t') t' _ ldst _;rw [hcs'];intro b' hb';rw [GF] at hb';obtain ⟨hne,hd'⟩:=(AI _ _ _ _).1 hb';refine ⟨by rw [GF,GF];exact hkeep _ _ _ hb'.1,?_⟩;obtain ⟨_,h2⟩:=h1 b' hd';have h3:Hc (tz P t) t (AS.put ⟨s.T,s.ss.Yy b' ⟨t',cs'.length,cs'⟩⟩ ldst (.ptr b' 0)) idst _:=h2;rw [hcs] at h3;obtain ⟨_,h4⟩:=h3 b (by rw [GF];exact (AI _ _ _ _).2 ⟨fun hh=>hne hh.symm,hb⟩)
 have hcomm:(s.ss.Yy b' ⟨t',cs'.length,cs'⟩).Yy b ⟨t,cs.length,cs⟩=(s.ss.Yy b ⟨t,cs.length,cs⟩).Yy b' ⟨t',cs'.length,cs'⟩:=by
  simp only [Sto.Yy]
  congr 1
  funext x
  by_cases hx:x=b
  ·subst hx;simp [Ne.symm hne]
  ·simp [hx]
 rw [GF] at h4 ⊢;rw [hcomm] at h4;have:=Be (s:=⟨s.T,(s.ss.Yy b ⟨t,cs.length,cs⟩).Yy b' ⟨t',cs'.length,cs'⟩⟩) (x:=ldst) (y:=idst) (v:=.ptr b' 0) (u:=.ptr b 0) (fun d hd=>(ha1 d hd).2.2)
 have h8:AS.put ⟨(AS.put ⟨s.T,s.ss.Yy b' ⟨t',cs'.length,cs'⟩⟩ ldst (.ptr b' 0)).T,(s.ss.Yy b ⟨t,cs.length,cs⟩).Yy b' ⟨t',cs'.length,cs'⟩⟩ idst (.ptr b 0)=AS.put ⟨(AS.put ⟨s.T,s.ss.Yy b ⟨t,cs.length,cs⟩⟩ idst (.ptr b 0)).T,(s.ss.Yy b ⟨t,cs.length,cs⟩).Yy b' ⟨t',cs'.length,cs'⟩⟩ ldst (.ptr b' 0):=by
  cases ldst<;>cases idst<;>exact this
 rw [← h8];exact h4
theorem Qij {D:List (Option Tmp)} {l i:Oper} {s:AS} {K:AS->Prop} (ha:apt D l i=true) (hl:Qhq l=true) (hi:isAll P i=true) (h:Hi P E D .x l s (fun s1=>Hi P E D .x i s1 K)):Hi P E D .x i s (fun s2=>Hi P E D .x l s2 K):=by
 obtain ⟨ha1,ha2⟩:=CY ha;obtain ⟨ldst,lop,lty,lpos,laf,lg⟩:=l;obtain ⟨idst,iop,ity,ipos,iaf,ig⟩:=i;simp only [Qhq,isAll,QG,Q7] at hl hi;obtain ⟨rfl,hl⟩:=hl;obtain ⟨rfl,hi⟩:=hi
 have hiop:∃t,iop=.alloc t/\(tz P t).isSome=true:=by
  revert hi;split
  ·exact fun h=>⟨_,rfl,h⟩
  ·intro h;cases h
 have hlop:∃t p x,lop=.store t p x:=by
  revert hl;split
  ·exact fun _=>⟨_,_,_,rfl⟩
  ·intro h;cases h
 obtain ⟨t,rfl,htz⟩:=hiop;obtain ⟨cs,hcs⟩:=Qy.1 htz;obtain ⟨t',p,x,rfl⟩:=hlop;simp only [Hi,gw,Ae,Option.some.injEq,exists_eq_left',forall_const,true_implies,Kc,false_implies,and_true] at h ⊢;have h1:Ix (JO (tk P t') s.ss (aev s.T p) (aev s.T x)) s ldst _:=h;show Hc (tz P t) t s idst _;rw [hcs];intro b hb;refine ⟨fun b' e' _ he'=>?_,?_⟩
 ·rw [GF];simp only [Sto.Yy];rw [if_neg (fun hh=>by subst hh;rw [hb.1] at he';cases he')];exact he'
 show Ix (JO (tk P t') (AS.put _ idst _).ss (aev (AS.put _ idst _).T p) (aev (AS.put _ idst _).T x)) _ ldst _;have hop:∀z,z∈(Op.operands (Op.store t' p x)).toList->aev (AS.put ⟨s.T,s.ss.Yy b ⟨t,cs.length,cs⟩⟩ idst (.ptr b 0)).T z=aev s.T z:=fun z hz=>DB (s:=⟨s.T,s.ss.Yy b ⟨t,cs.length,cs⟩⟩) (fun d hd=>(ha2 d hd).1 z hz);rw [hop p (by simp [Op.operands]),hop x (by simp [Op.operands]),GF]
 cases hst:JO (tk P t') s.ss (aev s.T p) (aev s.T x) with
 | none=>rw [hst] at h1;exact h1.elim
 | some ss1 =>
 rw [hst] at h1
 have key:ss1.dead b/\JO (tk P t') (s.ss.Yy b ⟨t,cs.length,cs⟩) (aev s.T p) (aev s.T x)=some (ss1.Yy b ⟨t,cs.length,cs⟩):=by
  revert hst;unfold JO
  cases hk:tk P t' with
  | none=>intro h;cases h
  | some k =>
  cases hv:Y6 (aev s.T x) with
  | none=>intro h;cases h
  | some vs =>
  simp only
  split
  ·rename_i hlen;cases hp:aev s.T p<;>simp only [reduceCtorEq,false_implies]
   ·rename_i b0 o
    cases hvr:s.ss.var b0 with
    | none=>simp
    | some e0 =>
     have hne:b0≠b:=fun hh=>by subst hh;rw [hb.1] at hvr;cases hvr
     simp only [Qf,Sto.Yy,if_neg hne,hvr];split
     ·intro hh
      injection hh with hh
      subst hh;refine ⟨⟨by simp only;rw [if_neg (Ne.symm hne)];exact hb.1,hb.2⟩,?_⟩
      congr 2
      funext z
      by_cases hz:z=b
      ·subst hz;simp [Ne.symm hne]
      ·simp [hz]
     ·intro hh;cases hh
   ·rename_i b0 o
    cases hvr:s.ss.own b0 with
    | none=>simp
    | some e0 =>
     have hne:b0≠b:=fun hh=>by subst hh;rw [hb.2] at hvr;cases hvr
     simp only [Qf,Sto.Yy,Sto.YR,hvr];split
     ·intro hh
      injection hh with hh
      subst hh;exact ⟨⟨hb.1,by simp only;rw [if_neg (Ne.symm hne)];exact hb.2⟩,rfl⟩
     ·intro hh;cases hh
  ·intro h;cases h
 rw [key.2];obtain ⟨hk1,h2⟩:=h1;rw [GF] at hk1;have h3:Hc (tz P t) t (AS.put ⟨s.T,ss1⟩ ldst WE) idst _:=h2;rw [hcs] at h3;obtain ⟨_,h4⟩:=h3 b (by rw [GF];exact key.1);refine ⟨fun b' e' hE he'=>?_,?_⟩
 ·rw [GF];simp only [Sto.Yy] at he' ⊢;split at he'
  ·rename_i hbb;rw [if_pos hbb];exact he'
  ·rename_i hbb;rw [if_neg hbb];exact hk1 b' e' hE he'
 ·rw [GF] at h4;have:=Be (s:=⟨s.T,ss1.Yy b ⟨t,cs.length,cs⟩⟩) (x:=ldst) (y:=idst) (v:=WE) (u:=.ptr b 0) (fun d hd=>(ha1 d hd).2.2)
  have h8:AS.put ⟨(AS.put ⟨s.T,ss1⟩ ldst WE).T,ss1.Yy b ⟨t,cs.length,cs⟩⟩ idst (.ptr b 0)=AS.put ⟨(AS.put ⟨s.T,s.ss.Yy b ⟨t,cs.length,cs⟩⟩ idst (.ptr b 0)).T,ss1.Yy b ⟨t,cs.length,cs⟩⟩ ldst WE:=by
   cases ldst<;>cases idst<;>exact this
  rw [← h8];exact h4
theorem Qhx {ss:Sto} {p:AV} {cs:List AV} {b:Nat} {e:Ent} (hb:ss.dead b) (h:mem ss p=some cs):mem (ss.Yy b e) p=some cs:=by
 unfold mem at h ⊢
 cases p<;>simp only [Sto.Yy] at h ⊢ <;> try exact h
 rename_i b0 o
 by_cases hb0:b0=b
 ·subst hb0;rw [hb.1] at h;simp at h
 ·rw [if_neg hb0];exact h
theorem Qii {D:List (Option Tmp)} {l i:Oper} {s:AS} {K:AS->Prop} (ha:apt D l i=true) (hl:Qmg l=true) (hi:isAll P i=true) (h:Hi P E D .x l s (fun s1=>Hi P E D .x i s1 K)):Hi P E D .x i s (fun s2=>Hi P E D .x l s2 K):=by
 obtain ⟨ha1,ha2⟩:=CY ha;obtain ⟨ldst,lop,lty,lpos,laf,lg⟩:=l;obtain ⟨idst,iop,ity,ipos,iaf,ig⟩:=i;simp only [Qmg,isAll,QG,Q7] at hl hi;obtain ⟨rfl,hl⟩:=hl;obtain ⟨rfl,hi⟩:=hi
 have hiop:∃t,iop=.alloc t/\(tz P t).isSome=true:=by
  revert hi;split
  ·exact fun h=>⟨_,rfl,h⟩
  ·intro h;cases h
 have hlop:∃t p,lop=.load t p:=by
  revert hl;split
  ·exact fun _=>⟨_,_,rfl⟩
  ·intro h;cases h
 obtain ⟨t,rfl,htz⟩:=hiop;obtain ⟨cs,hcs⟩:=Qy.1 htz;obtain ⟨t',p,rfl⟩:=hlop;simp only [Hi,gw,Ae,Option.some.injEq,exists_eq_left',forall_const,true_implies,Kc,false_implies,and_true] at h ⊢;have h1:Bv (Cq s.ss (tk P t') (aev s.T p)) s ldst _:=h;show Hc (tz P t) t s idst _;rw [hcs];intro b hb
 have hkeep:∀(ss:Sto) (e:Ent),ss.var b=none->DX E ss (ss.Yy b e):=fun ss e hb b' e' _ he=>by
  simp only [Sto.Yy];rw [if_neg (fun hh=>by subst hh;rw [hb] at he;cases he)];exact he
 refine ⟨by rw [GF];exact hkeep _ _ hb.1,?_⟩;show Bv (Cq (AS.put _ idst _).ss (tk P t') (aev (AS.put _ idst _).T p)) _ ldst _;have hop:aev (AS.put ⟨s.T,s.ss.Yy b ⟨t,cs.length,cs⟩⟩ idst (.ptr b 0)).T p=aev s.T p:=DB (s:=⟨s.T,s.ss.Yy b ⟨t,cs.length,cs⟩⟩) (fun d hd=>(ha2 d hd).1 p (by simp [Op.operands]));rw [hop,GF]
 cases hld:Cq s.ss (tk P t') (aev s.T p) with
 | none=>rw [hld] at h1;exact h1.elim
 | some v =>
 rw [hld] at h1
 have key:Cq (s.ss.Yy b ⟨t,cs.length,cs⟩) (tk P t') (aev s.T p)=some v:=by
  revert hld;unfold Cq;split
  ·cases hm:mem s.ss (aev s.T p) with
   | none=>intro h;simp at h
   | some cs'=>rw [Qhx hb hm];exact id
  ·intro h;cases h
 rw [key];obtain ⟨_,h2⟩:=h1;have h3:Hc (tz P t) t (AS.put s ldst v) idst _:=h2;rw [hcs] at h3;obtain ⟨_,h4⟩:=h3 b (by rw [GF];exact hb);refine ⟨fun b' e' _ he'=>by simp only [GF] at he' ⊢;exact he',?_⟩;rw [GF] at h4;have:=Be (s:=⟨s.T,s.ss.Yy b ⟨t,cs.length,cs⟩⟩) (x:=ldst) (y:=idst) (v:=v) (u:=.ptr b 0) (fun d hd=>(ha1 d hd).2.2)
 have h8:AS.put ⟨(AS.put s ldst v).T,s.ss.Yy b ⟨t,cs.length,cs⟩⟩ idst (.ptr b 0)=AS.put (AS.put ⟨s.T,s.ss.Yy b ⟨t,cs.length,cs⟩⟩ idst (.ptr b 0)) ldst v:=by
  cases ldst<;>cases idst<;>exact this
 rw [← h8];exact h4
theorem CG {ops:Array Oper} {K:AS->Prop} {c:Cl} {i:Nat} : ∀(R1 R2:List (Cl × Nat)) (s:AS),(∀p∈R1,(okP p.1 c||Qls P p.1 c (II ops p.2) (II ops i))=true/\apt (ops.toList.map (·.dst)) (II ops p.2) (II ops i)=true)->M0 P E ops (R1++(c,i) :: R2) K s ->
  Hi P E (ops.toList.map (·.dst)) c (II ops i) s (M0 P E ops (R1++R2) K)
 | [],R2,s,_,h=>h
 | (c',l) :: R1,R2,s,hok,h=>by
  obtain ⟨h1,h2⟩:=hok (c',l) (by simp);have h3:Hi P E (ops.toList.map (·.dst)) c' (II ops l) s (fun s1=>Hi P E (ops.toList.map (·.dst)) c (II ops i) s1 (M0 P E ops (R1++R2) K)):=Fj h (fun s1 hs1=>CG R1 R2 s1 (fun p hp=>hok p (by simp [hp])) hs1)
  cases c'<;>cases c<;>simp only [okP,Qls,Bool.false_or,Bool.true_or,Bool.false_and,Bool.true_and] at h1<;>try (cases h1;done)
  ·exact Qik h2 h3
  ·exact Qil h2 h3
  ·rw [QG,Q9,Q9,Q9] at h1
   rcases h1.1 with ((h4 | h4) | h4) | h4
   ·exact Qim h2 h4 h1.2 h3
   ·exact Qih h2 h4 h1.2 h3
   ·exact Qij h2 h4 h1.2 h3
   ·exact Qii h2 h4 h1.2 h3
theorem Gj {ops:Array Oper} {B:List (List Nat)} {q:Cl × Nat} : ∀(R1 R2:List (Cl × Nat)),Io P ops B (R1++q :: R2)=true->Io P ops B (R1++R2)=true/\(∀p∈R1,Px P ops B p q=true)/\∀p∈R2,Px P ops B q p=true
 | [],R2,h=>by
  simp only [List.nil_append,Io,QG,Q6] at h;exact ⟨h.2,by simp,h.1⟩
 | p :: R1,R2,h=>by
  simp only [Kh,Io,QG,Q6] at h;obtain ⟨h1,h2⟩:=h;obtain ⟨k1,k2,k3⟩:=Gj R1 R2 h2;refine ⟨?_,fun p' hp'=>?_,k3⟩
  ·simp only [Kh,Io,QG,Q6]
   exact ⟨fun x hx=>h1 x (by
    rcases QR.1 hx with hx | hx
    ·exact Kb _ hx
    ·exact Ka _ (Kf _ hx)),k1⟩
  ·rcases Kj.1 hp' with rfl | hp'
   ·exact h1 q (by simp)
   ·exact k2 p' hp'
theorem YT {ops:Array Oper} {B:List (List Nat)} {p q:Cl × Nat} (h:Px P ops B p q=true):q.2∉LD (II ops p.2)/\p.2≠q.2/\(p.2∈B.getD q.2 []∨((okP p.1 q.1||Qls P p.1 q.1 (II ops p.2) (II ops q.2))=true/\apt (ops.toList.map (·.dst)) (II ops p.2) (II ops q.2)=true)):=by
 unfold Px at h;rw [QG,QG,Q9,QG] at h;refine ⟨by simpa using h.1.1,by simpa using h.1.2,h.2.imp (fun h=>by simpa using h) id⟩
theorem Lf {ops:Array Oper} {B:List (List Nat)} {Q:Exit->Act->World->Prop} {K:AS->Prop} (hB:D1 ops B=true) (hok:∀o∈ops.toList,PV P n o=true) (hQ:∀a w,Lw P n ss0 w0 K a w->Q .normal a w) :
  ∀(fuel:Nat) (R:List (Cl × Nat)) (listed:Array Bool) (s:AS) (a:Act) (w:World),R.length=fuel->Inv P ops B R listed->Rel P n ss0 w0 s a w->M0 P E ops R K s->wpAny P .any ops Q fuel listed a w
 | 0,R,listed,s,a,w,hl,hI,hR,h=>by
  have hR0:R=[]:=List.eq_nil_of_length_eq_zero hl;subst hR0;refine ⟨?_,hQ a w ⟨s,h,hR⟩⟩;apply List.eq_nil_iff_forall_not_mem.2;intro i hi;obtain ⟨h1,h2,_⟩:=EM hi;obtain ⟨c,hc⟩:=(hI.mem i h1).1 h2;cases hc
 | fuel+1,R,listed,s,a,w,hl,hI,hR,h=>by
  refine ⟨fun hr=>?_,fun i hi=>?_⟩
  ·
   exfalso
   cases R with
   | nil=>simp at hl
   | cons p R =>
    have hpl:=hI.lt p (by simp);have hnl:listed.getD p.2 true=false:=(hI.mem p.2 hpl).2 ⟨p.1,by simp⟩
    have hmem:p.2∈Region.ready .any ops listed:=SM hpl hnl (fun m hm=>by
     apply Classical.byContradiction;intro hml
     have hmi:m < ops.size:=by
      unfold D1 at hB;rw [Q6] at hB;have:=hB p.2 (Kd.2 hpl);rw [QG,Q6] at this;have:=this.1 m hm;simp at this;omega
     have hml':listed.getD m true=false:=by
      rw [Ik (by rw [hI.size];exact hmi) true false];simpa using hml
     obtain ⟨c,hc⟩:=(hI.mem m hmi).1 hml'
     rcases Kj.1 hc with hc | hc
     ·have:m=p.2:=by rw [← hc]
      subst this;have hB2:=hB;unfold D1 at hB2;rw [Q6] at hB2;have:=hB2 p.2 (Kd.2 hpl);rw [QG,Q6] at this;have:=this.1 p.2 hm;simp at this
     ·have:=(Gj [] R hI.pairs).2.2 _ hc
      exact (YT this).1 hm)
    rw [hr] at hmem;cases hmem
  ·obtain ⟨hil,hiu,hid⟩:=EM hi;obtain ⟨c,hc⟩:=(hI.mem i hil).1 hiu;obtain ⟨R1,R2,rfl⟩:=List.append_of_mem hc;obtain ⟨p1,p2,p3⟩:=Gj R1 R2 hI.pairs
   have hfirst:=CG (P:=P) (E:=E) R1 R2 s (fun p hp=>by
    obtain ⟨q1,q2,q3⟩:=YT (p2 p hp)
    rcases q3 with q3 | q3
    ·exfalso;have hpl:=hI.lt p (by simp [hp]);have hpu:listed.getD p.2 true=false:=(hI.mem p.2 hpl).2 ⟨p.1,by simp [hp]⟩
     have:listed.getD p.2 false=true:=by
      unfold D1 at hB;rw [Q6] at hB;have hBi:=hB i (Kd.2 hil);rw [QG,Q6,Q6] at hBi;have h3:=hBi.2 p.2 q3;rw [Q9] at h3
      rcases h3 with h3 | h3
      ·exact hid p.2 (by simpa using h3)
      ·rw [Ki] at h3;obtain ⟨m,hm,hml⟩:=h3
       have hmi:m < i:=by simpa using hBi.1 m hm
       have hmlist:=hid m hm;exact Ny (by unfold D1;rw [Q6];exact hB) hI.size hI.closed m (by omega) (by rw [Ik (by rw [hI.size];omega) true false];exact hmlist) p.2 (by simpa using hml)
     rw [Ik (by rw [hI.size];exact hpl) false true,hpu] at this;cases this
    ·exact q3) h
   unfold wpOp
   have hg:ops[i]?=some (II ops i):=by simp [II,hil]
   simp only [hg];refine Lm (E:=E) (c:=c) (hok _ (by rw [List.mem_iff_getElem?];exact ⟨i,by simpa using hg⟩)) hR hfirst (fun a' w' hp=>?_);obtain ⟨s',hs',hR'⟩:=hp;refine Lf hB hok hQ fuel (R1++R2) _ s' a' w' (by simp at hl ⊢;omega) ?_ hR' hs'
   have hset:∀j b,(listed.setIfInBounds i true).getD j b=if j=i then true else listed.getD j b:=by
    intro j b
    by_cases hj:j=i
    ·subst hj;rw [if_pos rfl];simp [hI.size,hil]
    ·rw [if_neg hj];simp [Array.getElem?_setIfInBounds_ne (Ne.symm hj)]
   have hnot:∀c',(c',i)∉R1++R2:=by
    intro c' hc'
    rcases QR.1 hc' with hc' | hc'
    ·exact (YT (p2 _ hc')).2.1 rfl
    ·exact (YT (p3 _ hc')).2.1 rfl
   refine ⟨by simp [hI.size],fun j hj=>?_,fun p hp=>hI.lt p (by
    rcases QR.1 hp with hp | hp
    ·exact Kb _ hp
    ·exact Ka _ (Kf _ hp)),fun j hj hjl m hm=>?_,p1⟩
   ·rw [hset]
    by_cases hji:j=i
    ·subst hji;rw [if_pos rfl];constructor
     ·intro h;cases h
     ·rintro ⟨c',hc'⟩;exact absurd hc' (hnot c')
    ·rw [if_neg hji,hI.mem j hj];constructor
     ·rintro ⟨c',hc'⟩;refine ⟨c',?_⟩
      rcases QR.1 hc' with hc' | hc'
      ·exact Kb _ hc'
      ·rcases Kj.1 hc' with hc' | hc'
       ·injection hc' with _ h2;exact absurd h2 hji
       ·exact Ka _ hc'
     ·rintro ⟨c',hc'⟩;refine ⟨c',?_⟩
      rcases QR.1 hc' with hc' | hc'
      ·exact Kb _ hc'
      ·exact Ka _ (Kf _ hc')
   ·rw [hset] at hjl ⊢
    by_cases hmi:m=i
    ·rw [if_pos hmi]
    ·rw [if_neg hmi]
     by_cases hji:j=i
     ·subst hji;exact hid m hm
     ·rw [if_neg hji] at hjl;exact hI.closed j hj hjl m hm
theorem Qav {ops:Array Oper} {K:AS->Prop} {s:AS} (E:Nat->Prop) (L:List (Cl × Nat)) (hchk:O1 P ops L=true) (h:M0 P E ops L K s):OJ P ops K s:=by
 intro n ss0 w0 a w Q hok hR hQ;unfold O1 at hchk;simp only [QG] at hchk;obtain ⟨⟨⟨⟨h1,h2⟩,h3⟩,h4⟩,h5⟩:=hchk
 have h5':L.length=ops.size:=by simpa using h5
 refine Lf (E:=E) h1 hok hQ ops.size L _ s a w h5' ⟨by simp,fun i hi=>?_,fun p hp=>by have:=(Q6.1 h4) p hp;simpa using this,fun i hi hl=>?_,h2⟩ hR h
 ·have hf:(Array.replicate ops.size false).getD i true=false:=by simp [hi]
  rw [hf];have:=(Q6.1 h3) i (Kd.2 hi);rw [Ki] at this;obtain ⟨p,hp,hpi⟩:=this
  have:p.2=i:=by simpa using hpi
  subst this;exact ⟨fun _=>⟨p.1,hp⟩,fun _=>rfl⟩
 ·have hf:(Array.replicate ops.size false).getD i true=false:=by simp [hi]
  rw [hf] at hl;cases hl
end
end Go.Proofs.Shadow
