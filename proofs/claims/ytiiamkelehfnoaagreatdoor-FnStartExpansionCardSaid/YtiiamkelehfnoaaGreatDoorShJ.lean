/- The walk: rewriting rules for the abstract code, and the steps where it stops. -/
import Derived.Test.YtiiamkelehfnoaaGreatDoorShG
open _root_.Bool renaming and_eq_true → QG, or_eq_true → Kb, true_eq_false → Ke, false_eq_true → Qo
open _root_.List renaming all_eq_true → Q8, map_congr_left → Ka, mem_append_right → Kc, mem_append_left → Kd, mem_append → QS, mem_range → Kf, mem_cons_of_mem → Kh, mem_filter → Ki, cons_append → Kj, any_eq_true → Kk, mem_cons → Kl
open _root_.Option renaming isSome_iff_exists → Qz, isNone_iff_eq_none → Q9, map_some → Qu, bind_some → Qh, getD_some → Q5
open _root_.Array renaming all_eq_true_iff_forall_mem → Kg
set_option linter.unusedVariables false
set_option linter.unusedSimpArgs false
namespace Go.Proofs.Shadow
open Go Go.RowKit
section
variable {P:Program}
theorem AS.Qj6 (T:Nat->AV) (σ:Sto) (d:Tmp) (v:AV):AS.put ⟨T,σ⟩ (some d) v=⟨upd T d v,σ⟩:=(rfl)
theorem AS.Qj5 (T:Nat->AV) (σ:Sto) (v:AV):AS.put ⟨T,σ⟩ none v=⟨T,σ⟩:=(rfl)
theorem U9 (T:Nat->AV) (d i:Nat) (v:AV):upd T d v i=if i=d then v else T i:=(rfl)
theorem Ql7 (a:AV) (as:List AV):T0 (a :: as) 0=a:=(rfl)
theorem Ql6 (a:AV) (as:List AV) (i:Nat):T0 (a :: as) (i+1)=T0 as i:=(rfl)
theorem Qo9 (i:Nat):T0 [] i=Jm:=(rfl)
theorem Qck (Q:AX->AS->Prop) (s:AS):GH P .skip Q s=Q .nrm s:=(rfl)
theorem SR (id:Nat) (ops:Array Oper) (Q:AX->AS->Prop) (s:AS):GH P (.region id ops false) Q s=Pk P (ops.toList.map (·.dst)) ops.toList (Q .nrm) s:=(rfl)
theorem Qch (id:Nat) (ops:Array Oper) (Q:AX->AS->Prop) (s:AS):GH P (.region id ops true) Q s=RJ P ops (Q .nrm) s:=(rfl)
theorem Qev (x y:Code) (Q:AX->AS->Prop) (s:AS):GH P (.seq x y) Q s=GH P x (thn (GH P y Q) Q) s:=(rfl)
def Qb9 (P:Program) (c:AV) (x y:Code) (Q:AX->AS->Prop) (s:AS):Prop:=Qid c (GH P x Q s) (GH P y Q s)
def aGd (P:Program) (g:Option Bool) (o:Oper) (s:AS) (K:AS->Prop):Prop:=Bv g (aop P o s K) (K (s.put o.dst Jm))
theorem Qcg (c:Operand) (x y:Code) (Q:AX->AS->Prop) (s:AS):GH P (.cond c x y) Q s=Qb9 P (aev s.T c) x y Q s:=(rfl)
theorem Uo (id:Nat) (c:Code) (Q:AX->AS->Prop) (s:AS):GH P (.block id c) Q s=GH P c (Tx id Q) s:=(rfl)
theorem Qcj (c:Code) (Q:AX->AS->Prop) (s:AS):GH P (.loop c) Q s=Qem P (GH P c) Q s:=(rfl)
theorem Qci (id:Nat) (Q:AX->AS->Prop) (s:AS):GH P (.exit id) Q s=Q (.ex id) s:=(rfl)
theorem Qeu (Q:AX->AS->Prop) (s:AS):GH P .ret Q s=Q .ret s:=(rfl)
theorem Qoi (k:AS->Prop) (Q:AX->AS->Prop):thn k Q .nrm=k:=(rfl)
theorem Qra (k:AS->Prop) (Q:AX->AS->Prop) (id:Nat):thn k Q (.ex id)=Q (.ex id):=(rfl)
theorem Qoj (k:AS->Prop) (Q:AX->AS->Prop):thn k Q .ret=Q .ret:=(rfl)
theorem Qgv (id:Nat) (Q:AX->AS->Prop):Tx id Q .nrm=Q .nrm:=(rfl)
theorem Qjp (id id':Nat) (Q:AX->AS->Prop):Tx id Q (.ex id')=if id'=id then Q .nrm else Q (.ex id'):=by
 funext s;simp only [Tx];split<;>rfl
theorem Qgw (id:Nat) (Q:AX->AS->Prop):Tx id Q .ret=Q .ret:=(rfl)
theorem Qie (rs:List ResultVar) (Q:AV->Sto->Prop) (s:AS):Qpe P rs Q .nrm s=ID P rs Q s:=(rfl)
theorem Qif (rs:List ResultVar) (Q:AV->Sto->Prop) (s:AS):Qpe P rs Q .ret s=ID P rs Q s:=(rfl)
theorem Qi0 (D:List (Option Tmp)) (K:AS->Prop) (s:AS):Pk P D [] K s=K s:=(rfl)
theorem S1 (D:List (Option Tmp)) (o:Oper) (os:List Oper) (K:AS->Prop) (s:AS):Pk P D (o :: os) K s=Qoz P D o s (Pk P D os K):=(rfl)
theorem Qe8 (D:List (Option Tmp)) (dst:Option Tmp) (op:Op) (ty:TypeId) (pos:String) (af:Array Edge) (s:AS) (K:AS->Prop):Qoz P D ⟨dst,op,ty,pos,af,none⟩ s K=aop P ⟨dst,op,ty,pos,af,none⟩ s K:=by
 simp [Qoz,Bv,gw]
theorem Qe9 (D:List (Option Tmp)) (dst:Option Tmp) (op:Op) (ty:TypeId) (pos:String) (af:Array Edge) (g:Nat × Bool) (s:AS) (K:AS->Prop) :
  Qoz P D ⟨dst,op,ty,pos,af,some g⟩ s K=aGd P (gw D s.T (some g)) ⟨dst,op,ty,pos,af,none⟩ s K:=(rfl)
def gwv (v:AV) (want:Bool):Option Bool:=match v with | .bool b=>some (b == want) | .tup []=>some false | _=>none
theorem Qjk (b want:Bool):gwv (.bool b) want=some (b == want):=(rfl)
theorem Qjl (want:Bool):gwv Jm want=some false:=(rfl)
theorem Qr7 (D:List (Option Tmp)) (T:Nat->AV) (j:Nat) (want:Bool):gw D T (some (j,want))=match gd D j with | some d=>gwv (T d) want | none=>some false:=by
 cases h:gd D j with
 | none=>simp only [gw,h]
 | some d =>
  simp only [gw,h,gwv]
  cases T d with
  | tup vs=>cases vs<;>rfl
  | _=>rfl
theorem Qr6 (D:List (Option Tmp)) (j:Nat):gd D j=(D[j]?).bind id:=(rfl)
theorem Qig (o:Oper) (s:AS) (K:AS->Prop):aGd P (some true) o s K=aop P o s K:=by simp [aGd,Bv]
theorem Qel (o:Oper) (s:AS) (K:AS->Prop):aGd P (some false) o s K=K (s.put o.dst Jm):=by simp [aGd,Bv]
theorem SQ {t:Bool} {o:Oper} {s:AS} {K:AS->Prop} (h1:t=true->aop P o s K) (h2:t=false->K (s.put o.dst Jm)):aGd P (some t) o s K:=⟨t,rfl,h1,h2⟩
theorem Qek (x y:Code) (Q:AX->AS->Prop) (s:AS):Qb9 P (.bool true) x y Q s=GH P x Q s:=by simp [Qb9,Qid]
theorem Qca (x y:Code) (Q:AX->AS->Prop) (s:AS):Qb9 P (.bool false) x y Q s=GH P y Q s:=by simp [Qb9,Qid]
theorem Qeo (v:AV) (s:AS) (dst:Option Tmp) (K:AS->Prop):BX (some v) s dst K=K (s.put dst v):=(rfl)
section
variable (dst:Option Tmp) (ty:TypeId) (pos:String) (af:Array Edge) (s:AS) (K:AS->Prop)
theorem Qix (x:Operand):aop P ⟨dst,.move x,ty,pos,af,none⟩ s K=K (s.put dst (aev s.T x)):=(rfl)
theorem Qcu (x:Operand):aop P ⟨dst,.assign x,ty,pos,af,none⟩ s K=K (s.put dst (aev s.T x)):=(rfl)
theorem Qiy (c a b:Operand):aop P ⟨dst,.pick c a b,ty,pos,af,none⟩ s K=BX (match aev s.T c with | .bool t=>some (bif t then aev s.T a else aev s.T b) | _=>none) s dst K:=(rfl)
theorem Qiw (t:TypeId) (p:Tmp):aop P ⟨dst,.load t (.tmp p),ty,pos,af,none⟩ s K=BX (CQ s.σ (tk P t) (aev s.T (.tmp p))) s dst K:=(rfl)
theorem Qfe (t:TypeId) (g:Nat):aop P ⟨dst,.load t (.global g),ty,pos,af,none⟩ s K=BX (U7 P s.σ t g) s dst K:=(rfl)
theorem S0 (x:Operand):aop P ⟨dst,.nilCheck x,ty,pos,af,none⟩ s K=BX (Qoy (aev s.T x)) s dst K:=(rfl)
theorem RQ (t:TypeId) (x:Operand) (f:Nat):aop P ⟨dst,.fieldAddr t x f,ty,pos,af,none⟩ s K=BX (MK (fo P t f) (aev s.T x)) s dst K:=(rfl)
theorem RR (t:TypeId) (x i:Operand):aop P ⟨dst,.indexAddr t x i,ty,pos,af,none⟩ s K=BX (Ur s.σ (se P t) (aev s.T x) (aev s.T i)) s dst K:=(rfl)
theorem Qfd (t:TypeId) (x i:Operand):aop P ⟨dst,.index t x i,ty,pos,af,none⟩ s K=BX (LX P t (isS P t) (aev s.T x) (aev s.T i)) s dst K:=(rfl)
theorem Qfb (op:BinOp) (t:TypeId) (x y:Operand) (t2:TypeId):aop P ⟨dst,.binOp op t x y t2,ty,pos,af,none⟩ s K=BX (Qeb (isB P t) (se P t).isSome op (aev s.T x) (aev s.T y)) s dst K:=(rfl)
theorem Qiz (op:UnOp) (t:TypeId) (x:Operand):aop P ⟨dst,.unOp op t x,ty,pos,af,none⟩ s K=BX (aun op (aev s.T x)) s dst K:=(rfl)
theorem Uu (x:Operand) (i:Nat):aop P ⟨dst,.extract x i,ty,pos,af,none⟩ s K=BX (Qox (aev s.T x) i) s dst K:=(rfl)
theorem Qfc (t:TypeId) (parts:Array (Nat × Operand)):aop P ⟨dst,.build t parts,ty,pos,af,none⟩ s K=BX (P9 (tz P t) (fps P t) (parts.toList.map fun p=>(p.1,aev s.T p.2))) s dst K:=(rfl)
theorem Po (t:TypeId) (len:Nat) (parts:Array (Nat × Operand)):aop P ⟨dst,.buildSlice t len parts,ty,pos,af,none⟩ s K=BX (LV (se P t) ((se P t).bind fun k=>tz P k.1).isSome len (parts.toList.map fun p=>(p.1,aev s.T p.2))) s dst K:=(rfl)
theorem Qfh (t:TypeId) (x:Operand) (lo hi mx:Option Operand):aop P ⟨dst,.slice t x lo hi mx,ty,pos,af,none⟩ s K=aSl (Qh4 P t (isS P t) (se P t) (aev s.T x) (lo.map (aev s.T)) (hi.map (aev s.T)) (mx.map (aev s.T))) s dst K:=(rfl)
theorem Qmo (t:TypeId) (b:Bool) (k:Option (TypeId × Nat × Nat)) (c:Bool) (r:List (List AV)) (lo hi mx:Option AV):Qh4 P t b k (.sl c r) lo hi mx=Bx b k (.sl c r) lo hi mx:=(rfl)
theorem Qi3 (t:TypeId) (b:Bool) (k:Option (TypeId × Nat × Nat)) (c:ByteArray) (lo hi mx:Option AV):Qh4 P t b k (.str c) lo hi mx=Bx b k (.str c) lo hi mx:=(rfl)
theorem Qi2 (t:TypeId) (b:Bool) (k:Option (TypeId × Nat × Nat)) (c n m:Nat) (lo hi mx:Option AV):Qh4 P t b k (.ref c n m) lo hi mx=Bx b k (.ref c n m) lo hi mx:=(rfl)
theorem Qi1 (t:TypeId) (b:Bool) (k:Option (TypeId × Nat × Nat)) (lo hi mx:Option AV):Qh4 P t b k .Yd lo hi mx=Bx b k .Yd lo hi mx:=(rfl)
theorem Qi4 (t:TypeId) (b:Bool) (k:Option (TypeId × Nat × Nat)) (g:Nat):Qh4 P t b k (.ptr g 0) none none none=Qro P t g:=(rfl)
theorem Qpg (c:Bool) (r:List (List AV)) (s:AS) (dst:Option Tmp) (K:AS->Prop):aSl (some (.sl c r)) s dst K=K (s.put dst (.sl c r)):=(rfl)
theorem Qmb (c:ByteArray) (s:AS) (dst:Option Tmp) (K:AS->Prop):aSl (some (.str c)) s dst K=K (s.put dst (.str c)):=(rfl)
theorem Ut (t d:TypeId) (x:Operand):aop P ⟨dst,.convert t d x,ty,pos,af,none⟩ s K=BX (if Qqg P t then Up (ik P d) (UN P t) (isS P d) (aev s.T x) else none) s dst K:=(rfl)
theorem SZ (f:FuncId) (caps:Array Operand):aop P ⟨dst,.makeFunc (.func f) #[] caps,ty,pos,af,none⟩ s K=K (s.put dst (.fn f (caps.toList.map (aev s.T)))):=(rfl)
theorem Qfa (t:TypeId):aop P ⟨dst,.alloc t,ty,pos,af,none⟩ s K=Im (tz P t) t s dst K:=(rfl)
theorem Qml (t:TypeId) (x:Operand):aop P ⟨dst,.box t x,ty,pos,af,none⟩ s K=Im (Vx (aev s.T x)) t s dst K:=(rfl)
theorem Qfi (t:TypeId) (p x:Operand):aop P ⟨dst,.store t p x,ty,pos,af,none⟩ s K=Ab (JL (tk P t) s.σ (aev s.T p) (aev s.T x)) s dst K:=(rfl)
theorem RT (t:TypeId) (l c:Operand):aop P ⟨dst,.makeSlice t l c,ty,pos,af,none⟩ s K=RK (se P t) ((se P t).bind fun k=>tz P k.1) (aev s.T l) (aev s.T c) s dst K:=(rfl)
theorem Qiv (f:Operand) (args:Array Operand) (tys:Array TypeId):aop P ⟨dst,.call ⟨.value f,args,tys⟩,ty,pos,af,none⟩ s K=M0 P (aev s.T f) (args.toList.map (aev s.T)) s dst K:=(rfl)
theorem Qct (x y:Operand) (t:TypeId):aop P ⟨dst,.call ⟨.builtin .append,#[x,y],#[t,t]⟩,ty,pos,af,none⟩ s K=JK (se P t) (aev s.T x) (aev s.T y) s dst K:=by
 simp [aop]
theorem Qmm (x:Operand) (t:TypeId):aop P ⟨dst,.call ⟨.builtin .len,#[x],#[t]⟩,ty,pos,af,none⟩ s K=BX (if isS P t||(se P t).isSome then Fs (isS P t) (aev s.T x) else none) s dst K:=(rfl)
theorem Qmn (x y:Operand) (tys:Array TypeId):aop P ⟨dst,.call ⟨.builtin .max,#[x,y],tys⟩,ty,pos,af,none⟩ s K=BX (Qmj (aev s.T x) (aev s.T y)) s dst K:=(rfl)
end
theorem Qfs {α:Type} (a b:α):(bif true then a else b)=a:=(rfl)
theorem Qcy {α:Type} (a b:α):(bif false then a else b)=b:=(rfl)
theorem Qsb {α:Type} (a b:α):(if true=true then a else b)=a:=(rfl)
theorem Qsa {α:Type} (a b:α):(if false=true then a else b)=b:=(rfl)
theorem Qmh (T:Nat->AV) (t:Tmp):aev T (.tmp t)=T t:=(rfl)
theorem Qmf (T:Nat->AV) (k:IntKind) (n:Int):aev T (.const (.int k n))=.int k n:=(rfl)
theorem Qim (T:Nat->AV) (b:Bool):aev T (.const (.bool b))=.bool b:=(rfl)
theorem Qmg (T:Nat->AV) (s:ByteArray):aev T (.const (.string s))=.str s:=(rfl)
theorem Qex (T:Nat->AV):aev T (.const (.slice none 0 0))=.Yd:=(rfl)
theorem Qio (T:Nat->AV):aev T (.const (.pointer none))=.nilp:=(rfl)
theorem Qcl (T:Nat->AV) (g:Nat):aev T (.global g)=.ptr g 0:=(rfl)
theorem Qin (T:Nat->AV) (f:FuncId):aev T (.func f)=.fn f []:=(rfl)
theorem Qom (σ:Sto) (b b':Nat) (e:Ent):(σ.YG b e).var b'=if b'=b then some e else σ.var b':=(rfl)
theorem Qdh (σ:Sto) (b:Nat) (e:Ent):(σ.YG b e).own=σ.own:=(rfl)
theorem Qn1 (σ:Sto) (b b':Nat) (e:Ent):(σ.Vo b e).own b'=if b'=b then some e else σ.own b':=(rfl)
theorem Qd1 (σ:Sto) (b:Nat) (e:Ent):(σ.Vo b e).var=σ.var:=(rfl)
theorem Ql2 (σ:Sto) (b:Nat) (e e':Ent):(σ.YG b e).YG b e'=σ.YG b e':=by
 simp only [Sto.YG]
 congr 1
 funext i;split<;>rfl
theorem Qe6 (σ:Sto) (ag:Bool) (k b o:Nat):CQ σ (some (ag,k)) (.ptr b o)=((σ.var b).bind fun e=>if o<=e.cells.length then some (e.cells.drop o) else none).bind fun cs=>(seg cs 0 (if ag then k else 1)).bind (RU ag):=(rfl)
theorem Qe5 (σ:Sto) (ag:Bool) (k:Nat) (cs:List AV):CQ σ (some (ag,k)) (.ept cs)=(seg cs 0 (if ag then k else 1)).bind (RU ag):=(rfl)
theorem Qq9 (cs:List AV) (o k:Nat):seg cs o k=if o+k<=cs.length then some ((cs.drop o).take k) else none:=(rfl)
theorem Qcv (cs:List AV):RU true cs=some (.agg cs):=(rfl)
theorem Qfn (c:AV):RU false [c]=some c:=(rfl)
theorem Qcn (f b o:Nat):MK (some f) (.ptr b o)=some (.ptr b (o+f)):=(rfl)
theorem Qcm (f:Nat) (cs:List AV):MK (some f) (.ept cs)=some (.ept (cs.drop f)):=(rfl)
theorem ET (ag:Bool) (k:Nat) (σ:Sto) (b o:Nat) (v:AV):JL (some (ag,k)) σ (.ptr b o) v=(Vx v).bind fun cs=>if cs.length=k then (σ.var b).bind fun e=>if o+k<=e.cells.length then some (σ.YG b ⟨e.ty,e.size,Ww e.cells o cs⟩) else none else none:=by
 unfold JL;cases Vx v<;>rfl
theorem Hq (cells:List AV) (o:Nat) (cs:List AV):Ww cells o cs=cells.take o++cs++cells.drop (o+cs.length):=(rfl)
theorem Uy (cs:List AV):Vx (.agg cs)=some cs:=(rfl)
theorem Uz (k:IntKind) (n:Int):Vx (.int k n)=some [.int k n]:=(rfl)
theorem S2 (b:Bool):Vx (.bool b)=some [.bool b]:=(rfl)
theorem UC (s:ByteArray):Vx (.str s)=some [.str s]:=(rfl)
theorem Qcx (c:Bool) (xs:List (List AV)):Vx (.sl c xs)=some [.sl c xs]:=(rfl)
theorem RV:Vx .Yd=some [.Yd]:=(rfl)
theorem UB (b n c:Nat):Vx (.ref b n c)=some [.ref b n c]:=(rfl)
theorem UA (b o:Nat):Vx (.ptr b o)=some [.ptr b o]:=(rfl)
theorem Qcw (f:FuncId) (cs:List AV):Vx (.fn f cs)=some [.fn f cs]:=(rfl)
theorem CE {v:AV} (h:v.Y8=true):Vx v=some [v]:=by
 cases v<;>first | rfl | (simp [AV.Y8] at h;done) | (simp only [Vx];rw [if_pos h])
theorem Qii (isb isl:Bool) (op:BinOp) (k:IntKind) (a b:Int):Qeb isb isl op (.int k a) (.int k b)=Qih op k a b:=by simp [Qeb]
theorem Qij (isb isl:Bool) (op:BinOp) (a b:ByteArray):Qeb isb isl op (.str a) (.str b)=Qep op a b:=(rfl)
theorem Qmd (isb:Bool):Qeb isb true .eql .Yd .Yd=some (.bool true):=(rfl)
theorem Qmc (isb c:Bool):Qeb isb true .eql (.sl c []) .Yd=some .ub:=(rfl)
theorem Qme (isb c:Bool) (x:List AV) (xs:List (List AV)):Qeb isb true .eql (.sl c (x :: xs)) .Yd=some (.bool false):=(rfl)
theorem Qes (isl:Bool) (op:BinOp) (a b:Bool):Qeb true isl op (.bool a) (.bool b)=(match op with | .eql=>some (.bool (a == b)) | .neq=>some (.bool (!(a == b))) | _=>none):=(rfl)
theorem Qmr (b:Bool):aun .not (.bool b)=some (.bool !b):=(rfl)
theorem Qir (c:Bool) (xs:List (List AV)):Fs false (.sl c xs)=some (.int .i64 xs.length):=(rfl)
theorem Qe0:Fs false .Yd=some (.int .i64 0):=(rfl)
theorem Qe2 (s:ByteArray):Fs true (.str s)=some (.int .i64 s.size):=(rfl)
theorem Qan {v:AV} {n:Int} (h:Qpi v=some n) (hs:v.Y8=true) (hn:∀s,v≠.str s):Fs false v=some (.int .i64 n):=by
 cases v<;>simp_all [Fs,Qpi]
theorem Qip (vs:List AV) (i:Nat):Qox (.tup vs) i=vs[i]?:=(rfl)
def VP (P:Program) (f:FuncId) (args:List AV) (v:AV):Prop:=∀σ,Ctr P f args σ fun r ss'=>r=v/\ss'=σ
theorem P8 {f:FuncId} {args bs:List AV} {v:AV} {T:Nat->AV} {σ:Sto} {dst:Option Tmp} {K:AS->Prop} (h:VP P f bs v) (hw:Dz args bs) (hK:K (AS.put ⟨T,σ⟩ dst v)):M0 P (.fn f []) args ⟨T,σ⟩ dst K:=by
 show Ctr P f (args++[]) σ _;rw [List.append_nil];exact (Ctr.args hw (h σ)).mono (fun r ss' hr=>by obtain ⟨rfl,rfl⟩:=hr;exact hK)
theorem Qej {f:FuncId} {args bs caps:List AV} {Q:AV->Sto->Prop} {T:Nat->AV} {σ:Sto} {dst:Option Tmp} {K:AS->Prop} (h:Ctr P f bs σ Q) (hw:Dz (args++caps) bs) (hK:∀r ss',Q r ss'->K (AS.put ⟨T,ss'⟩ dst r)):M0 P (.fn f caps) args ⟨T,σ⟩ dst K :=
 (Ctr.args hw h).mono hK
end
theorem Qeq (x y:ByteArray):Qep .eql x y=some (.bool (decide (x=y))):=(rfl)
theorem Qer (x y:ByteArray):Qep .neq x y=some (.bool (!decide (x=y))):=(rfl)
attribute [go_sem] Qck SR Qch Qev Qcg Uo Qcj Qci Qeu Qoi Qra Qoj Qgv Qjp Qgw Qie Qif
 Qi0 S1 Qe8 Qe9 Qjk Qjl Qr7 Qr6 Qig Qel Qek Qca Qeo
 Qix Qcu Qiy Qiw Qfe SX RN S0 RQ RR Qfd Qfb Qiz Uu Qfc Po Qfh Qpg Qmb Qmo Qi3 Qi2 Qi1 Qi4 Ut SZ Qfa Qml Qfi RT Qiv Qct Qmm Qmn
 Qmh Qmf Qim Qmg Qex Qio Qcl Qin AS.Qj6 AS.Qj5 U9 Ql7 Ql6 Qo9
 Qom Qdh Qn1 Qd1 Ql2 Qe6 Qe5 Qq9 Qcv Qfn Qcn Qcm Hq Uy Uz S2 UC Qcx RV UB UA Qcw
 Qii Qmd Qmc Qme Qih Qij Qeq Qer Qes Qmr Qir Qe0 Qe2 Qip Qoy
 id Qh Option.bind_none Qu List.map_cons List.map_nil List.getElem?_cons_succ List.getElem?_cons_zero List.length_cons List.length_nil List.drop_succ_cons List.drop_zero List.take_succ_cons List.take_zero List.drop_nil List.take_nil
 List.append_nil List.nil_append Kj List.toList_toArray ite_true ite_false Qo Qfs Qcy beq_true beq_false Bool.not_true Bool.not_false Nat.le_refl Nat.zero_le Nat.zero_add Nat.add_zero decide_true decide_false Qsb Qsa
end Go.Proofs.Shadow
namespace Go.Proofs.Shadow
open Go Go.RowKit
noncomputable def SN (E:Nat->Prop) (σ:Sto):Sto:=⟨fun b=>@ite _ (E b) (Classical.propDecidable _) none (σ.var b),fun _=>none⟩
def FO (E:Nat->Prop) (σ ss':Sto):Prop:=∀b e,¬E b->σ.var b=some e->ss'.var b=some e
def kp (E:Nat->Prop) (σ:Sto) (K:AS->Prop) (s:AS):Prop:=FO E σ s.σ/\K s
def Qku (P:Program) (fv:AV) (args:List AV) (s:AS) (dst:Option Tmp) (K:AS->Prop):Prop:=∃f bs v,fv=.fn f []/\Dz args bs/\VP P f bs v/\K (s.put dst v)
def Qta (k:Option (TypeId × Nat × Nat)) (x y v:AV):Prop :=
 ∃e sz by_ xs ys,k=some (e,sz,by_)/\0 < sz/\0 < by_/\((x=.Yd/\xs=[])∨x=.sl true xs)/\(∀r∈xs,r.length=sz)/\((y=.Yd/\ys=[])∨∃c,y=.sl c ys)/\(∀r∈ys,r.length=sz)/\(xs.length+ys.length) * by_<=140737488355328/\v=.sl false (xs++ys)
def Qre (k:Option (TypeId × Nat × Nat)) (x y:AV) (s:AS) (dst:Option Tmp) (K:AS->Prop):Prop:=∃v,Qta k x y v/\K (s.put dst v)
def LU (P : Program) (E : Nat -> Prop) (o : Oper) (s : AS) (K : AS -> Prop) : Prop :=
  match o.op with
  | .call { callee := .value f, args, .. } => Qku P (aev s.T f) (args.toList.map (aev s.T)) s o.dst K
  | .call { callee := .builtin .append, args, argTypes } =>
    (match args.toList, argTypes.toList with
     | [x, y], [t, t2] => t = t2 /\ Qre (se P t) (aev s.T x) (aev s.T y) s o.dst K
     | _, _ => False)
  | op => BX (vop P (SN E s.σ) (aev s.T) op) s o.dst K
inductive Cl where
 | v | x | z
 deriving DecidableEq
def It (P:Program) (E:Nat->Prop) (D:List (Option Tmp)) (c:Cl) (o:Oper) (s:AS) (K:AS->Prop):Prop :=
 Bv (gw D s.T o.guard) (match c with | .v=>LU P E o s K | .x=>aop P o s (kp E s.σ K) | .z=>aop P o s K) (K (s.put o.dst Jm))
def LI (P:Program) (E:Nat->Prop) (D:List (Option Tmp)):List (Cl × Oper)->(AS->Prop)->AS->Prop
 | [],K,s=>K s
 | (c,o) :: os,K,s=>It P E D c o s (LI P E D os K)
section
variable {P:Program} {E:Nat->Prop} {D:List (Option Tmp)}
def Qad (P : Program) (E : Nat -> Prop) (s : AS) (o : Oper) (v : AV) : Prop :=
  match o.op with
  | .call { callee := .value f, args, .. } => ∃ g bs, aev s.T f = .fn g [] /\ Dz (args.toList.map (aev s.T)) bs /\ VP P g bs v
  | .call { callee := .builtin .append, args, argTypes } =>
    (match args.toList, argTypes.toList with
     | [x, y], [t, t2] => t = t2 /\ Qta (se P t) (aev s.T x) (aev s.T y) v
     | _, _ => False)
  | op => vop P (SN E s.σ) (aev s.T) op = some v
theorem BW (o:Oper) (s:AS) (K:AS->Prop):LU P E o s K↔∃v,Qad P E s o v/\K (s.put o.dst v):=by
 unfold LU Qad;split
 ·constructor
  ·rintro ⟨f,bs,v,h1,h2,h3,h4⟩;exact ⟨v,⟨f,bs,h1,h2,h3⟩,h4⟩
  ·rintro ⟨v,⟨f,bs,h1,h2,h3⟩,h4⟩;exact ⟨f,bs,v,h1,h2,h3,h4⟩
 ·split
  ·constructor
   ·rintro ⟨h1,v,h2,h3⟩;exact ⟨v,⟨h1,h2⟩,h3⟩
   ·rintro ⟨v,⟨h1,h2⟩,h3⟩;exact ⟨h1,v,h2,h3⟩
  ·constructor
   ·exact fun h=>h.elim
   ·rintro ⟨_,h,_⟩;exact h
 ·unfold BX;constructor
  ·intro h;split at h
   ·rename_i v hv;exact ⟨v,hv,h⟩
   ·exact h.elim
  ·rintro ⟨v,hv,h⟩;rw [hv];exact h
theorem Qmi {T:Nat->AV} {d:Nat} {v:AV} {x:Operand} (h:x≠.tmp d):aev (upd T d v) x=aev T x:=by
 cases x with
 | tmp t=>simp only [aev,upd];rw [if_neg (fun e=>h (by rw [e]))]
 | _=>rfl
theorem Fq {s:AS} {dst:Option Tmp} {v:AV} {x:Operand} (h:∀d,dst=some d->x≠.tmp d):aev (s.put dst v).T x=aev s.T x:=by
 cases dst with
 | none=>rfl
 | some d=>exact Qmi (h d rfl)
theorem CD {s:AS} {x y:Option Tmp} {v u:AV} (h:∀d,x=some d->y≠some d):(s.put x v).put y u=(s.put y u).put x v:=by
 cases x with
 | none=>rfl
 | some d =>
  cases y with
  | none=>rfl
  | some d' =>
   have hne:d≠d':=fun e=>h d rfl (by rw [e]);simp only [AS.put]
   congr 1
   funext i;simp only [upd]
   by_cases h1:i=d<;>by_cases h2:i=d'<;>simp_all
theorem Qj2 {σ ss':Sto} (h:FO E σ ss') {p:AV} {cs:List AV} (hm:mem (SN E σ) p=some cs):mem (SN E ss') p=some cs:=by
 unfold mem SN at *
 cases p<;>simp only at hm ⊢ <;> try exact hm
 rename_i b o
 by_cases hb:E b
 ·simp [hb] at hm
 ·simp only [hb,if_false] at hm ⊢
  cases he:σ.var b with
  | none=>simp [he] at hm
  | some e=>rw [h b e hb he];rw [he] at hm;exact hm
theorem OZ {σ:Sto} {ρ ρ':Operand->AV} {op:Op} (hρ:∀x∈op.operands.toList,ρ' x=ρ x):vop P σ ρ' op=vop P σ ρ op:=by
 cases op<;>simp only [vop]<;>simp only [Op.operands] at hρ
 case move x=>rw [hρ x (by simp)]
 case assign x=>rw [hρ x (by simp)]
 case pick c a b=>rw [hρ c (by simp),hρ a (by simp),hρ b (by simp)]
 case load t p=>rw [hρ p (by simp)]
 case nilCheck x=>rw [hρ x (by simp)]
 case fieldAddr t x f=>rw [hρ x (by simp)]
 case indexAddr t x i=>rw [hρ x (by simp),hρ i (by simp)]
 case index t x i=>rw [hρ x (by simp),hρ i (by simp)]
 case binOp op t x y t2=>rw [hρ x (by simp),hρ y (by simp)]
 case unOp op t x=>rw [hρ x (by simp)]
 case extract x i=>rw [hρ x (by simp)]
 case build t parts =>
  have:(parts.toList.map fun p=>(p.1,ρ' p.2))=parts.toList.map fun p=>(p.1,ρ p.2):=Ka (fun p hp=>by rw [hρ p.2 (by simp;exact ⟨p.1,by simpa using hp⟩)]);rw [this]
 case buildSlice t len parts =>
  have:(parts.toList.map fun p=>(p.1,ρ' p.2))=parts.toList.map fun p=>(p.1,ρ p.2):=Ka (fun p hp=>by rw [hρ p.2 (by simp;exact ⟨p.1,by simpa using hp⟩)]);rw [this]
 case slice t x lo hi mx =>
  have hl:lo.map ρ'=lo.map ρ:=by cases lo with | none=>rfl | some y=>simp only [Qu];rw [hρ y (by simp)]
  have hh:hi.map ρ'=hi.map ρ:=by cases hi with | none=>rfl | some y=>simp only [Qu];rw [hρ y (by simp)]
  have hm:mx.map ρ'=mx.map ρ:=by cases mx with | none=>rfl | some y=>simp only [Qu];rw [hρ y (by simp)]
  rw [hρ x (by simp),hl,hh,hm]
 case convert s d x=>rw [hρ x (by simp)]
 case makeFunc fn first caps =>
  have:caps.toList.map ρ'=caps.toList.map ρ:=Ka (fun x hx=>hρ x (by simp;exact .inr (by simpa using hx)))
  cases fn<;>try rfl
  simp only [this]
 case call c =>
  obtain ⟨callee,args,argTypes⟩:=c
  cases callee<;>try rfl
  rename_i b;have ha:∀x∈args.toList,ρ' x=ρ x:=fun x hx=>hρ x (by simp [Call.operands];simpa using hx)
  cases b<;>try rfl
  case len =>
   obtain ⟨args⟩:=args;obtain ⟨argTypes⟩:=argTypes
   match args,argTypes with
   | [x],[t]=>show (if isS P t||(se P t).isSome then Fs (isS P t) (ρ' x) else none)=_;rw [ha x (by simp)]
   | [],_=>rfl
   | _ :: _ :: _,_=>rfl
   | [_],[]=>rfl
   | [_],_ :: _ :: _=>rfl
  case max =>
   obtain ⟨args⟩:=args
   match args with
   | [x,y]=>show Qmj (ρ' x) (ρ' y)=_;rw [ha x (by simp),ha y (by simp)]
   | []=>rfl
   | [_]=>rfl
   | _ :: _ :: _ :: _=>rfl
theorem Qkv {σ ss':Sto} (h:FO E σ ss') {ρ ρ':Operand->AV} {op:Op} {v:AV} (hρ:∀x∈op.operands.toList,ρ' x=ρ x) (hv:vop P (SN E σ) ρ op=some v):vop P (SN E ss') ρ' op=some v:=by
 rw [OZ hρ]
 cases op<;>simp only [vop] at hv ⊢ <;> try exact hv
 case makeFunc fn first caps=>cases fn<;>exact hv
 case load t p =>
  unfold CQ at hv ⊢;split at hv
  ·rename_i ag k hk
   cases hm:mem (SN E σ) (ρ p) with
   | none=>simp [hm] at hv
   | some cs=>rw [Qj2 h hm];rw [hm] at hv;exact hv
  ·cases hv
 case call c =>
  obtain ⟨callee,args,argTypes⟩:=c
  cases callee<;>try exact hv
  rename_i b;cases b<;>exact hv
theorem MH {s s':AS} (h:FO E s.σ s'.σ) {o:Oper} {v:AV} (hρ:∀x∈o.op.operands.toList,aev s'.T x=aev s.T x) (hv:Qad P E s o v):Qad P E s' o v:=by
 unfold Qad at hv ⊢;split at hv
 ·rename_i f args tys heq;rw [heq] at hρ;simp only [Op.operands,Call.operands] at hρ;have ha:args.toList.map (aev s'.T)=args.toList.map (aev s.T):=Ka (fun x hx=>hρ x (by simp;exact .inr (by simpa using hx)));rw [hρ f (by simp),ha];exact hv
 ·rename_i args tys heq;rw [heq] at hρ;simp only [Op.operands,Call.operands] at hρ;split at hv
  ·rename_i x y t t2 hargs htys;have hm:∀z∈args.toList,aev s'.T z=aev s.T z:=fun z hz=>hρ z (by simpa using hz);rw [hm x (by rw [hargs];simp),hm y (by rw [hargs];simp)];exact hv
  ·exact hv.elim
 ·exact Qkv h hρ hv
theorem Qbb {s:AS} {dst:Option Tmp} {v:AV} {g:Option (Nat × Bool)} (h:∀d,dst=some d->∀j w,g=some (j,w)->gd D j≠some d):gw D (s.put dst v).T g=gw D s.T g:=by
 cases g with
 | none=>rfl
 | some jw =>
  obtain ⟨j,w⟩:=jw;simp only [gw]
  cases hg:gd D j with
  | none=>rfl
  | some t =>
   cases dst with
   | none=>rfl
   | some d =>
    have hne:t≠d:=fun e=>h d rfl j w rfl (by rw [hg,e]);simp only [AS.put,upd,hne,if_false]
def apt (D : List (Option Tmp)) (x y : Oper) : Bool :=
  (match x.dst with
   | some d => !(y.op.operands.toList.any fun z => match z with | .tmp t => t == d | _ => false) && (match y.guard with | some (j, _) => gd D j != some d | none => true) && y.dst != some d
   | none => true) &&
  (match y.dst with
   | some d => !(x.op.operands.toList.any fun z => match z with | .tmp t => t == d | _ => false) && (match x.guard with | some (j, _) => gd D j != some d | none => true)
   | none => true)
theorem ES {x y:Oper} (h:apt D x y=true) :
  (∀d,x.dst=some d->(∀z∈y.op.operands.toList,z≠.tmp d)/\(∀j w,y.guard=some (j,w)->gd D j≠some d)/\y.dst≠some d) /\
  (∀d,y.dst=some d->(∀z∈x.op.operands.toList,z≠.tmp d)/\(∀j w,x.guard=some (j,w)->gd D j≠some d)):=by
 unfold apt at h;rw [QG] at h
 have ops:∀(l:List Operand) (d:Tmp),(!(l.any fun z=>match z with | .tmp t=>t == d | _=>false))=true->∀z∈l,z≠.tmp d:=by
  intro l d hl z hz he;subst he;rw [Bool.not_eq_true',List.any_eq_false] at hl;exact hl _ hz (by simp)
 constructor
 ·intro d hd;have h1:=h.1;rw [hd] at h1;simp only [QG] at h1;refine ⟨ops _ d h1.1.1,fun j w hg=>?_,by simpa using h1.2⟩;have:=h1.1.2;rw [hg] at this;simpa using this
 ·intro d hd;have h1:=h.2;rw [hd] at h1;simp only [QG] at h1;refine ⟨ops _ d h1.1,fun j w hg=>?_⟩;have:=h1.2;rw [hg] at this;simpa using this
theorem Qff {o:Oper} {s:AS} {K:AS->Prop} (h:aop P o s K):aop P o s (fun s'=>(∃ss' r,s'=AS.put ⟨s.T,ss'⟩ o.dst r)/\K s'):=by
 have hval:∀(ov:Option AV),BX ov s o.dst K->BX ov s o.dst (fun s'=>(∃ss' r,s'=AS.put ⟨s.T,ss'⟩ o.dst r)/\K s'):=by
  intro ov h;unfold BX at h ⊢;split at h
  ·rename_i v;exact ⟨⟨s.σ,v,rfl⟩,h⟩
  ·exact h.elim
 have hall:∀(oc:Option (List AV)) (t:TypeId),Im oc t s o.dst K->Im oc t s o.dst (fun s'=>(∃ss' r,s'=AS.put ⟨s.T,ss'⟩ o.dst r)/\K s'):=by
  intro oc t h;unfold Im at h ⊢;split at h
  ·exact fun b hb=>⟨⟨_,_,rfl⟩,h b hb⟩
  ·exact h.elim
 unfold aop at h ⊢;split at h
 ·exact hall _ _ h
 ·exact hall _ _ h
 ·unfold Ab at h ⊢;split at h
  ·exact ⟨⟨_,_,rfl⟩,h⟩
  ·exact h.elim
 ·unfold RK at h ⊢;split at h
  ·obtain ⟨h1,h2,h3,h4,h5,z',h7,h6⟩:=h;exact ⟨h1,h2,h3,h4,h5,z',h7,fun b hb=>⟨⟨_,_,rfl⟩,h6 b hb⟩⟩
  ·exact h.elim
 ·unfold M0 at h ⊢;split at h
  ·exact h.mono (fun r ss' hk=>⟨⟨ss',r,rfl⟩,hk⟩)
  ·exact h.elim
 ·split at h
  ·refine ⟨h.1,?_⟩;have h2:=h.2;unfold JK at h2 ⊢;split at h2
   ·obtain ⟨xs,ys,a1,a2,a3,a4,a5,a6⟩:=h2;exact ⟨xs,ys,a1,a2,a3,a4,a5,fun v' ss' hp=>by obtain ⟨v2,ss2,hw,hk⟩:=a6 v' ss' hp;exact ⟨v2,ss2,hw,⟨ss2,v2,rfl⟩,hk⟩⟩
   ·exact h2.elim
  ·exact h.elim
 ·unfold aSl at h ⊢;split at h
  ·obtain ⟨m,e,he,hk⟩:=h;exact ⟨m,e,he,⟨_,_,rfl⟩,hk⟩
  ·exact ⟨⟨s.σ,_,rfl⟩,h⟩
  ·exact h.elim
 ·exact hval _ h
 ·exact hval _ h
theorem BQ {o:Oper} {s:AS} {K K':AS->Prop} (h:aop P o s K) (hk:∀s',K s'->K' s'):aop P o s K':=by
 unfold aop at h ⊢;split at h
 ·unfold Im at h ⊢;split at h
  ·exact fun b hb=>hk _ (h b hb)
  ·exact h.elim
 ·unfold Im at h ⊢;split at h
  ·exact fun b hb=>hk _ (h b hb)
  ·exact h.elim
 ·unfold Ab at h ⊢;split at h
  ·exact hk _ h
  ·exact h.elim
 ·unfold RK at h ⊢;split at h
  ·obtain ⟨h1,h2,h3,h4,h5,z',h7,h6⟩:=h;exact ⟨h1,h2,h3,h4,h5,z',h7,fun b hb=>hk _ (h6 b hb)⟩
  ·exact h.elim
 ·unfold M0 at h ⊢;split at h
  ·exact h.mono (fun r ss' hr=>hk _ hr)
  ·exact h.elim
 ·split at h
  ·refine ⟨h.1,?_⟩;have h2:=h.2;unfold JK at h2 ⊢;split at h2
   ·obtain ⟨xs,ys,a1,a2,a3,a4,a5,a6⟩:=h2;exact ⟨xs,ys,a1,a2,a3,a4,a5,fun v' ss' hp=>by obtain ⟨v2,ss2,hw,h6⟩:=a6 v' ss' hp;exact ⟨v2,ss2,hw,hk _ h6⟩⟩
   ·exact h2.elim
  ·exact h.elim
 ·unfold aSl at h ⊢;split at h
  ·obtain ⟨m,e,he,h⟩:=h;exact ⟨m,e,he,hk _ h⟩
  ·exact hk _ h
  ·exact h.elim
 ·unfold BX at h ⊢;split at h
  ·exact hk _ h
  ·exact h.elim
 ·unfold BX at h ⊢;split at h
  ·exact hk _ h
  ·exact h.elim
theorem Qfg {o:Oper} {s:AS} {dst:Option Tmp} {v:AV} {K:AS->Prop} (h1:∀d,dst=some d->∀z∈o.op.operands.toList,z≠.tmp d) (h2:∀d,dst=some d->o.dst≠some d) (h:aop P o (s.put dst v) K):aop P o s (fun s'=>K (s'.put dst v)):=by
 have hev:∀z∈o.op.operands.toList,aev (s.put dst v).T z=aev s.T z:=fun z hz=>Fq (fun d hd=>h1 d hd z hz)
 have hput:∀(ss':Sto) (r:AV),AS.put ⟨(s.put dst v).T,ss'⟩ o.dst r=(AS.put ⟨s.T,ss'⟩ o.dst r).put dst v:=by
  intro ss' r
  have:(⟨(s.put dst v).T,ss'⟩:AS)=AS.put ⟨s.T,ss'⟩ dst v:=by cases dst<;>rfl
  rw [this];exact CD h2
 have hput':∀r:AV,(s.put dst v).put o.dst r=(s.put o.dst r).put dst v:=fun r=>CD h2;have hσ:=HK s dst v;unfold aop at h ⊢;split at h
 ·unfold Im at h ⊢;split at h
  ·intro b hb;rw [hσ] at h;have:=h b hb;rw [hput] at this;exact this
  ·exact h.elim
 ·rename_i t x heq;rw [heq] at hev;rw [hev x (by simp [Op.operands])] at h;unfold Im at h ⊢;split at h
  ·rename_i cs hcs;intro b hb;rw [hσ] at h;have:=h b hb;rw [hput] at this;exact this
  ·exact h.elim
 ·rename_i t p x heq;rw [heq] at hev;rw [hev x (by simp [Op.operands]),hev p (by simp [Op.operands]),hσ] at h;unfold Ab at h ⊢;split at h
  ·rename_i ss' hs;rw [hput] at h;exact h
  ·exact h.elim
 ·rename_i t l c heq;rw [heq] at hev;rw [hev l (by simp [Op.operands]),hev c (by simp [Op.operands])] at h;unfold RK at h ⊢;split at h
  ·rename_i e sz by_ z k1 n k2 m q1 q2 q3 q4;obtain ⟨a1,a2,a3,a4,a5,z',a7,a6⟩:=h;refine ⟨a1,a2,a3,a4,a5,z',a7,fun b hb=>?_⟩;rw [hσ] at a6;have:=a6 b hb;rw [hput] at this;exact this
  ·exact h.elim
 ·rename_i f args tys heq;rw [heq] at hev;simp only [Op.operands,Call.operands] at hev;have ha:args.toList.map (aev (s.put dst v).T)=args.toList.map (aev s.T):=Ka (fun x hx=>hev x (by simp;exact .inr (by simpa using hx)));rw [hev f (by simp),ha] at h;unfold M0 at h ⊢;split at h
  ·rename_i g caps hf;rw [hσ] at h;exact h.mono (fun r ss' hk=>by rw [hput] at hk;exact hk)
  ·exact h.elim
 ·rename_i args tys heq;rw [heq] at hev;simp only [Op.operands,Call.operands] at hev;have hm:∀z∈args.toList,aev (s.put dst v).T z=aev s.T z:=fun z hz=>hev z (by simpa using hz);split at h
  ·rename_i x y t t2 hargs htys;rw [hm x (by rw [hargs];simp),hm y (by rw [hargs];simp)] at h;refine ⟨h.1,?_⟩;have h2:=h.2;unfold JK at h2 ⊢;split at h2
   ·obtain ⟨xs,ys,a1,a2,a3,a4,a5,a6⟩:=h2;rw [hσ] at a3 a4 a6;exact ⟨xs,ys,a1,a2,a3,a4,a5,fun v' ss' hp=>by obtain ⟨v2,ss2,hw,this⟩:=a6 v' ss' hp;rw [hput] at this;exact ⟨v2,ss2,hw,this⟩⟩
   ·exact h2.elim
  ·exact h.elim
 ·rename_i t x lo hi mx heq
  have he:vop P (s.put dst v).σ (aev (s.put dst v).T) o.op=vop P s.σ (aev s.T) o.op:=by rw [hσ];exact OZ hev
  rw [heq] at he;rw [he] at h;unfold aSl at h ⊢;split at h
  ·obtain ⟨m,e,he',h⟩:=h;rw [hσ] at he' h;rw [hput] at h;exact ⟨m,e,he',h⟩
  ·rw [hput'] at h;exact h
  ·exact h.elim
 ·rw [hσ] at h;unfold BX at h ⊢;split at h
  ·rename_i r hr;rw [hput'] at h;exact h
  ·exact h.elim
 ·have he:vop P (s.put dst v).σ (aev (s.put dst v).T) o.op=vop P s.σ (aev s.T) o.op:=by rw [hσ];exact OZ hev
  rw [he] at h;unfold BX at h ⊢;split at h
  ·rename_i r hr;rw [hput'] at h;exact h
  ·exact h.elim
theorem FO.refl (σ:Sto):FO E σ σ:=fun _ _ _ h=>h
theorem EL {s:AS} {dst:Option Tmp} {v r:AV} {o:Oper} (h:∀d,dst=some d->∀z∈o.op.operands.toList,z≠.tmp d):Qad P E s o r↔Qad P E (s.put dst v) o r:=by
 have hs:=HK s dst v;constructor
 ·exact fun hv=>MH (by rw [hs];exact FO.refl _) (fun z hz=>Fq (fun d hd=>h d hd z hz)) hv
 ·exact fun hv=>MH (by rw [hs];exact FO.refl _) (fun z hz=>(Fq (fun d hd=>h d hd z hz)).symm) hv
theorem Qod {l i:Oper} {s:AS} {K:AS->Prop} (ha:apt D l i=true) (h:It P E D .v l s (fun s1=>It P E D .v i s1 K)):It P E D .v i s (fun s2=>It P E D .v l s2 K):=by
 obtain ⟨ha1,ha2⟩:=ES ha;have hpc:∀v u:AV,(s.put l.dst v).put i.dst u=(s.put i.dst u).put l.dst v:=fun v u=>CD (fun d hd=>(ha1 d hd).2.2);have gl:∀u:AV,gw D (s.put i.dst u).T l.guard=gw D s.T l.guard:=fun u=>Qbb (fun d hd=>(ha2 d hd).2);have gi:∀v:AV,gw D (s.put l.dst v).T i.guard=gw D s.T i.guard:=fun v=>Qbb (fun d hd=>(ha1 d hd).2.1);obtain ⟨t,hg,h1,h2⟩:=h;simp only [BW] at h1
 cases t with
 | true =>
  obtain ⟨v,hv,t',hg',k1,k2⟩:=h1 rfl;rw [gi] at hg';refine ⟨t',hg',fun ht'=>?_,fun ht'=>?_⟩
  ·have k1:=k1 ht';simp only [BW] at k1 ⊢;obtain ⟨u,hu,hK⟩:=k1;refine ⟨u,(EL (fun d hd=>(ha1 d hd).1)).2 hu,true,by rw [gl];exact hg,fun _=>?_,fun h=>by cases h⟩;simp only [BW];exact ⟨v,(EL (fun d hd=>(ha2 d hd).1)).1 hv,by rw [← hpc];exact hK⟩
  ·refine ⟨true,by rw [gl];exact hg,fun _=>?_,fun h=>by cases h⟩;simp only [BW];exact ⟨v,(EL (fun d hd=>(ha2 d hd).1)).1 hv,by rw [← hpc];exact k2 ht'⟩
 | false =>
  obtain ⟨t',hg',k1,k2⟩:=h2 rfl;rw [gi] at hg';refine ⟨t',hg',fun ht'=>?_,fun ht'=>?_⟩
  ·have k1:=k1 ht';simp only [BW] at k1 ⊢;obtain ⟨u,hu,hK⟩:=k1;exact ⟨u,(EL (fun d hd=>(ha1 d hd).1)).2 hu,false,by rw [gl];exact hg,(fun h=>by cases h),fun _=>by rw [← hpc];exact hK⟩
  ·exact ⟨false,by rw [gl];exact hg,(fun h=>by cases h),fun _=>by rw [← hpc];exact k2 ht'⟩
theorem Qoe {l i:Oper} {s:AS} {K:AS->Prop} (ha:apt D l i=true) (h:It P E D .v l s (fun s1=>It P E D .x i s1 K)):It P E D .x i s (fun s2=>It P E D .v l s2 K):=by
 obtain ⟨ha1,ha2⟩:=ES ha;have hpc:∀(s:AS) (v u:AV),(s.put l.dst v).put i.dst u=(s.put i.dst u).put l.dst v:=fun s v u=>CD (fun d hd=>(ha1 d hd).2.2);have gl:∀(ss':Sto) (u:AV),gw D (AS.put ⟨s.T,ss'⟩ i.dst u).T l.guard=gw D s.T l.guard:=fun ss' u=>Qbb (s:=⟨s.T,ss'⟩) (fun d hd=>(ha2 d hd).2);have gi:∀v:AV,gw D (s.put l.dst v).T i.guard=gw D s.T i.guard:=fun v=>Qbb (fun d hd=>(ha1 d hd).2.1);have hz2:∀(ss':Sto) (u:AV),∀z∈l.op.operands.toList,aev (AS.put ⟨s.T,ss'⟩ i.dst u).T z=aev s.T z:=fun ss' u z hz=>Fq (s:=⟨s.T,ss'⟩) (fun d hd=>(ha2 d hd).1 z hz);have hd2:∀d,l.dst=some d->i.dst≠some d:=fun d hd=>(ha1 d hd).2.2;obtain ⟨t,hg,h1,h2⟩:=h
 cases t with
 | true =>
  have h1:=h1 rfl;simp only [BW] at h1;obtain ⟨v,hv,t',hg',k1,k2⟩:=h1;rw [gi] at hg';refine ⟨t',hg',fun ht'=>?_,fun ht'=>?_⟩
  ·have k:=Qff (Qfg (fun d hd z hz=>(ha1 d hd).1 z hz) hd2 (k1 ht'));refine BQ k ?_;rintro s' ⟨⟨ss',r,rfl⟩,hk,hK⟩;rw [HK,HK] at hk;refine ⟨by rw [HK] at hk ⊢;exact hk,true,by rw [gl];exact hg,fun _=>?_,fun h=>by cases h⟩;simp only [BW];exact ⟨v,MH (by rw [HK] at hk ⊢;exact hk) (hz2 ss' r) hv,hK⟩
  ·refine ⟨true,by have:=gl s.σ Jm;rw [this];exact hg,fun _=>?_,fun h=>by cases h⟩;simp only [BW];exact ⟨v,(EL (fun d hd=>(ha2 d hd).1)).1 hv,by rw [← hpc];exact k2 ht'⟩
 | false =>
  obtain ⟨t',hg',k1,k2⟩:=h2 rfl;rw [gi] at hg';refine ⟨t',hg',fun ht'=>?_,fun ht'=>?_⟩
  ·have k:=Qff (Qfg (fun d hd z hz=>(ha1 d hd).1 z hz) hd2 (k1 ht'));refine BQ k ?_;rintro s' ⟨⟨ss',r,rfl⟩,hk,hK⟩;rw [HK,HK] at hk;exact ⟨by rw [HK] at hk ⊢;exact hk,false,by rw [gl];exact hg,(fun h=>by cases h),fun _=>hK⟩
  ·exact ⟨false,by have:=gl s.σ Jm;rw [this];exact hg,(fun h=>by cases h),fun _=>by rw [← hpc];exact k2 ht'⟩
end
end Go.Proofs.Shadow
namespace Go.Proofs.Shadow
open Go Go.RowKit
section
variable {P:Program} {E:Nat->Prop} {n:Nat} {ss0:Sto} {w0:World}
theorem Qda {σ:Sto} {p:AV} {cs:List AV} (h:mem (SN E σ) p=some cs):mem σ p=some cs:=by
 unfold mem SN at *
 cases p<;>simp only at h ⊢ <;> try exact h
 ·rename_i b o
  by_cases hb:E b
  ·simp [hb] at h
  ·simpa [hb] using h
 ·simp at h
theorem Qd3 {σ:Sto} {ρ:Operand->AV} {op:Op} {v:AV} (h:vop P (SN E σ) ρ op=some v):vop P σ ρ op=some v:=by
 cases op<;>simp only [vop] at h ⊢ <;> try exact h
 case load t p =>
  unfold CQ at h ⊢;split at h
  ·rename_i ag k hk
   cases hm:mem (SN E σ) (ρ p) with
   | none=>simp [hm] at h
   | some cs=>rw [Qda hm];rw [hm] at h;exact h
  ·cases h
 case makeFunc fn first caps=>cases fn<;>exact h
 case call c =>
  obtain ⟨callee,args,argTypes⟩:=c
  cases callee<;>try exact h
  rename_i b;cases b<;>exact h
theorem NT.weaken {K K':AS->Prop} {a:Act} {w:World} (h:NT P n ss0 w0 K a w) (hk:∀s,K s->Sim s.σ w->∃s',K' s'/\Sub s'.σ s.σ/\∀a,Qea n s.σ w s.T a->Qea n s'.σ w s'.T a):NT P n ss0 w0 K' a w:=by
 obtain ⟨s,hs,hR⟩:=h;obtain ⟨s',hs',hsub,hT⟩:=hk s hs hR.sim;exact ⟨s',hs',hR.sim.drop hsub.var hsub.own,hT a hR.tmps,hR.step.trans (Step.drop (fun b hb=>hsub.dead hb)),hR.tb.drop (fun b hb=>hsub.dead hb)⟩
theorem Qol {o:Oper} {args:Array Operand} {tys:Array TypeId} {s:AS} {a:Act} {w:World} {K:AS->Prop} {Q:Exit->Act->World->Prop} (heq:o.op=.call { callee:=.builtin .append,args,argTypes:=tys }) (hok:Um P n o=true) (hR:Rel P n ss0 w0 s a w)
  {x y:Operand} {t t2:TypeId} (hargs:args.toList=[x,y]) (htys:tys.toList=[t,t2]) (ht:t=t2) (h:Qre (se P t) (aev s.T x) (aev s.T y) s o.dst K):o.wp P a w (NT P n ss0 w0 K) Q:=by
 obtain ⟨v,⟨e,sz,by_,xs,ys,hk,hsz,hby,hx,hxr,hy,hyr,hb,rfl⟩,hK⟩:=h;have hown:P5 s.σ e sz (aev s.T x) xs:=⟨hxr,hx.elim (fun h=>.inl h) (fun h=>.inr (.inl h))⟩;have hrd:RdL s.σ sz (aev s.T y) ys:=⟨hyr,hy.elim (fun h=>.inl h) (fun ⟨c,h⟩=>.inr (.inl ⟨c,h⟩))⟩
 have hnb:(aev s.T x).blk=none:=by rcases hx with ⟨h,_⟩ | h<;>rw [h]<;>rfl
 have hop:aop P o s (fun s'=>∃v' ss',GZ s.σ e sz (aev s.T x) ss' v' (xs++ys)/\s'=AS.put ⟨s.T,ss'⟩ o.dst v'):=by
  unfold aop;rw [heq];simp only [hargs,htys];refine ⟨ht,?_⟩;unfold JK;rw [hk];exact ⟨xs,ys,hsz,hby,hown,hrd,hb,fun v' ss' hp=>⟨v',ss',Wk1.refl _ _,v',ss',hp,rfl⟩⟩
 refine Oper.wp_mono (fun a' w' hp=>hp.weaken ?_) (Qaq hok hR hop);rintro s' ⟨v',ss',hp,rfl⟩ hsim;rw [HK] at hsim;obtain ⟨ss2,f1,f2,f3,f4⟩:=hp.own.freeze
 have hsub:Sub s.σ ss2:=⟨fun b e hbe=>by rw [f2,hp.var];exact hbe,fun b e hbe=>by
  have hne:s.σ.own b≠none:=by rw [hbe];simp
  have hnv:some b≠v'.blk:=by
   rcases hp.blk with h1 | h1
   ·rw [h1,hnb];simp
   ·exact fun he=>hne (h1 b he.symm).2
  rw [f3 b hnv,hp.same b (by rw [hnb];simp) hne]
  exact hbe⟩
 have hsub2:Sub s.σ ss':=hsub.trans f1;refine ⟨s.put o.dst (.sl false (xs++ys)),hK,by rw [HK,HK];exact hsub2,fun a hT=>?_⟩;rw [HK] at hT ⊢;refine ⟨hT.1,hT.2.1,fun i=>?_⟩;have hi:=hT.2.2 i;have hst:Step ss' w' s.σ w':=Step.drop (fun b hb=>hsub2.dead hb)
 cases hd:o.dst with
 | none =>
  simp only [hd,AS.put] at hi ⊢;exact hi.step hst
 | some d =>
  simp only [hd,AS.put,upd] at hi ⊢
  by_cases hid:i=d
  ·rw [if_pos hid] at hi ⊢;have:=(f4 w' _ hsim hi).2.1;exact this.step (Step.drop (fun b hb=>hsub.dead hb))
  ·rw [if_neg hid] at hi ⊢;exact hi.step hst
theorem Qks {c:Cl} {o:Oper} {s:AS} {a:Act} {w:World} {K:AS->Prop} {Q:Exit->Act->World->Prop} (hok:Um P n o=true) (hR:Rel P n ss0 w0 s a w) (h:match c with | .v=>LU P E o s K | .x=>aop P o s (kp E s.σ K) | .z=>aop P o s K):o.wp P a w (NT P n ss0 w0 K) Q:=by
 cases c with
 | z=>exact Qaq hok hR h
 | x=>exact Qaq hok hR (BQ h (fun s' hs=>hs.2))
 | v =>
  simp only at h;unfold LU at h;split at h
  ·rename_i f args tys heq;obtain ⟨g,bs,v,hf,hw,hp,hK⟩:=h;refine Qfu heq hok hR ?_;rw [hf];have:=P8 (T:=s.T) (σ:=s.σ) (dst:=o.dst) hp hw hK;exact this
  ·rename_i args tys heq;split at h
   ·rename_i x y t t2 hargs htys;exact Qol heq hok hR hargs htys h.1 h.2
   ·exact h.elim
  ·refine Qen hok hR ?_;unfold BX at h ⊢;split at h
   ·rename_i v hv;rw [Qd3 hv];exact h
   ·exact h.elim
theorem NI {ops:Array Oper} {Q:Exit->Act->World->Prop} {c:Cl} {o:Oper} {s:AS} {a:Act} {w:World} {K:AS->Prop} {K':Act->World->Prop} (hok:Um P n o=true) (hR:Rel P n ss0 w0 s a w) (h:It P E (ops.toList.map (·.dst)) c o s K) (hK:∀a w,NT P n ss0 w0 K a w->K' a w) :
  if Region.wanted o (yielded ops a.tmps) then o.wp P a w K' Q∨(o.asks P a w/\LetsOut Q) else K' (a.put o.dst undef) w:=by
 obtain ⟨t,hg,h1,h2⟩:=h;rw [Qqf hR.tmps hg]
 cases t with
 | true=>simp only [if_true];exact .inl (Oper.wp_mono hK (Qks hok hR (h1 rfl)))
 | false=>simp only [Qo,if_false];exact hK _ _ (Bh (s':=⟨s.T,s.σ⟩) hR (Dp hok).2.1 rfl hR.sim (Step.refl _ _) LJ (h2 rfl))
theorem MG {D:List (Option Tmp)} {c:Cl} {o:Oper} {s:AS} {K K':AS->Prop} (h:It P E D c o s K) (hk:∀s',K s'->K' s'):It P E D c o s K':=by
 obtain ⟨t,hg,h1,h2⟩:=h;refine ⟨t,hg,fun ht=>?_,fun ht=>hk _ (h2 ht)⟩;have h1:=h1 ht
 cases c with
 | v=>simp only [BW] at h1 ⊢;obtain ⟨v,hv,hK⟩:=h1;exact ⟨v,hv,hk _ hK⟩
 | x=>exact BQ h1 (fun s' hs=>⟨hs.1,hk _ hs.2⟩)
 | z=>exact BQ h1 hk
def Ac (ops:Array Oper) (i:Nat):Oper:=ops.getD i default
def N2 (o:Oper):List Nat:=(o.after.toList.filter (Region.binds .any)).map (·.on)
def Qo0 (ops:Array Oper):List (List Nat):=ops.toList.foldl (fun acc o=>acc++[(N2 o++(N2 o).flatMap fun m=>acc.getD m []).eraseDups]) []
def FU (ops:Array Oper) (B:List (List Nat)):Bool:=(List.range ops.size).all fun i=>(N2 (Ac ops i)).all (fun m=>decide (m < i))&&(B.getD i []).all fun l=>(N2 (Ac ops i)).contains l||(N2 (Ac ops i)).any fun m=>(B.getD m []).contains l
def okP:Cl->Cl->Bool
 | .v,.v=>true
 | .v,.x=>true
 | _,_=>false
def isApp (o:Oper):Bool:=o.guard.isNone&&(match o.op with | .call { callee:=.builtin .append,.. } => true | _=>false)
def isAll (P:Program) (o:Oper):Bool:=o.guard.isNone&&(match o.op with | .alloc t=>(tz P t).isSome | _=>false)
def Qnh (o:Oper):Bool:=o.guard.isNone&&(match o.op with | .store .. => true | _=>false)
def Qsc (o:Oper):Bool:=o.guard.isNone&&(match o.op with | .load _ (.tmp _)=>true | _=>false)
def Qrn (P:Program) (c d:Cl) (l i:Oper):Bool:=(match c,d with | .x,.x=>true | _,_=>false)&&(isApp l||isAll P l||Qnh l||Qsc l)&&isAll P i
def TH (P:Program) (ops:Array Oper) (B:List (List Nat)) (p q:Cl × Nat):Bool :=
 !(N2 (Ac ops p.2)).contains q.2&&p.2 != q.2&&((B.getD q.2 []).contains p.2||((okP p.1 q.1||Qrn P p.1 q.1 (Ac ops p.2) (Ac ops q.2))&&apt (ops.toList.map (·.dst)) (Ac ops p.2) (Ac ops q.2)))
def As (P:Program) (ops:Array Oper) (B:List (List Nat)):List (Cl × Nat)->Bool
 | []=>true
 | p :: ps=>ps.all (TH P ops B p)&&As P ops B ps
def S7 (P:Program) (ops:Array Oper) (L:List (Cl × Nat)):Bool :=
 FU ops (Qo0 ops)&&As P ops (Qo0 ops) L&&(List.range ops.size).all (fun i=>L.any fun p=>p.2 == i)&&L.all (fun p=>decide (p.2 < ops.size))&&(L.length == ops.size)
structure Inv (P:Program) (ops:Array Oper) (B:List (List Nat)) (R:List (Cl × Nat)) (listed:Array Bool):Prop where
 size:listed.size=ops.size
 mem:∀i,i < ops.size->(listed.getD i true=false↔∃c,(c,i)∈R)
 lt:∀p∈R,p.2 < ops.size
 closed:∀i,i < ops.size->listed.getD i true=true->∀m∈N2 (Ac ops i),listed.getD m false=true
 pairs:As P ops B R=true
theorem Ap {listed:Array Bool} {i:Nat} (h:i < listed.size) (a b:Bool):listed.getD i a=listed.getD i b:=by simp [h]
theorem Rq {ops:Array Oper} {B:List (List Nat)} (hB:FU ops B=true) {listed:Array Bool} (hsz:listed.size=ops.size) (hcl:∀i,i < ops.size->listed.getD i true=true->∀m∈N2 (Ac ops i),listed.getD m false=true) :
  ∀i,i < ops.size->listed.getD i true=true->∀l∈B.getD i [],listed.getD l false=true:=by
 intro i
 induction i using Nat.strongRecOn with
 | _ i ih =>
  intro hi hl l hlB;unfold FU at hB;rw [Q8] at hB;have:=hB i (Kf.2 hi);rw [QG,Q8,Q8] at this;obtain ⟨h1,h2⟩:=this;have h3:=h2 l hlB;rw [Kb] at h3
  rcases h3 with h3 | h3
  ·exact hcl i hi hl l (by simpa using h3)
  ·rw [Kk] at h3;obtain ⟨m,hm,hml⟩:=h3
   have hmi:m < i:=by simpa using h1 m hm
   exact ih m hmi (by omega) (by rw [Ap (by omega) true false];exact hcl i hi hl m hm) l (by simpa using hml)
theorem Md {ops:Array Oper} {listed:Array Bool} {i:Nat} (h:i∈Region.ready .any ops listed):i < ops.size/\listed.getD i true=false/\∀m∈N2 (Ac ops i),listed.getD m false=true:=by
 unfold Region.ready at h;obtain ⟨h1,h2⟩:=Ki.1 h
 have hi:i < ops.size:=by simpa using h1
 rw [QG] at h2;refine ⟨hi,by simpa using h2.1,fun m hm=>?_⟩;have h3:=h2.2
 have hg:ops[i]?=some ops[i]:=by simp [hi]
 rw [hg] at h3;simp only [Qu,Q5] at h3
 have ha:Ac ops i=ops[i]:=by simp [Ac,hi]
 rw [ha] at hm;unfold N2 at hm;obtain ⟨e,he,rfl⟩:=List.mem_map.1 hm;obtain ⟨he1,he2⟩:=Ki.1 he;rw [Kg] at h3;have:=h3 e (by simpa using he1);rw [he2] at this;simpa using this
theorem Qbs {ops:Array Oper} {listed:Array Bool} {i:Nat} (hi:i < ops.size) (hl:listed.getD i true=false) (h:∀m∈N2 (Ac ops i),listed.getD m false=true):i∈Region.ready .any ops listed:=by
 unfold Region.ready;refine Ki.2 ⟨by simpa using hi,?_⟩
 have hg:ops[i]?=some ops[i]:=by simp [hi]
 have ha:Ac ops i=ops[i]:=by simp [Ac,hi]
 rw [hl,hg];simp only [Bool.not_false,Qu,Q5,Bool.true_and];rw [Kg];intro e he
 by_cases hb:Region.binds .any e=true
 ·have:=h e.on (by rw [ha];exact List.mem_map.2 ⟨e,Ki.2 ⟨by simpa using he,hb⟩,rfl⟩);rw [this]
  simp
 ·simp [hb]
def Oz (P:Program) (E:Nat->Prop) (ops:Array Oper) (R:List (Cl × Nat)) (K:AS->Prop):AS->Prop:=LI P E (ops.toList.map (·.dst)) (R.map fun p=>(p.1,Ac ops p.2)) K
theorem Dy {D:List (Option Tmp)} : ∀(L:List (Cl × Oper)) {K K':AS->Prop} {s:AS},LI P E D L K s->(∀s',K s'->K' s')->LI P E D L K' s
 | [],_,_,_,h,hk=>hk _ h
 | (c,o) :: L,_,_,_,h,hk=>MG h (fun s' hs=>Dy L hs hk)
theorem B5 (σ:Sto) (b b':Nat) (e:Ent):(σ.YG b e).dead b'↔b'≠b/\σ.dead b':=by
 simp only [Sto.dead,Sto.YG];constructor
 ·rintro ⟨h1,h2⟩;split at h1
  ·cases h1
  ·rename_i h;exact ⟨h,h1,h2⟩
 ·rintro ⟨h,h1,h2⟩;exact ⟨by rw [if_neg h];exact h1,h2⟩
theorem Qof {D:List (Option Tmp)} {l i:Oper} {s:AS} {K:AS->Prop} (ha:apt D l i=true) (hl:isApp l=true) (hi:isAll P i=true) (h:It P E D .x l s (fun s1=>It P E D .x i s1 K)):It P E D .x i s (fun s2=>It P E D .x l s2 K):=by
 obtain ⟨ha1,ha2⟩:=ES ha;obtain ⟨ldst,lop,lty,lpos,laf,lg⟩:=l;obtain ⟨idst,iop,ity,ipos,iaf,ig⟩:=i;simp only [isApp,isAll,QG,Q9] at hl hi;obtain ⟨rfl,hl⟩:=hl;obtain ⟨rfl,hi⟩:=hi
 have hiop:∃t,iop=.alloc t/\(tz P t).isSome=true:=by
  revert hi;split
  ·exact fun h=>⟨_,rfl,h⟩
  ·intro h;cases h
 have hlop:∃args tys,lop=.call { callee:=.builtin .append,args:=args,argTypes:=tys } := by
  revert hl;split
  ·exact fun _=>⟨_,_,rfl⟩
  ·intro h;cases h
 obtain ⟨t,rfl,htz⟩:=hiop;obtain ⟨cs,hcs⟩:=Qz.1 htz;obtain ⟨args,tys,rfl⟩:=hlop;simp only [It,gw,Bv,Option.some.injEq,exists_eq_left',forall_const,true_implies,Ke,false_implies,and_true] at h ⊢
 have hcall:∀(K:AS->Prop) (s:AS),aop P ⟨ldst,.call { callee:=.builtin .append,args:=args,argTypes:=tys },lty,lpos,laf,none⟩ s K↔∃x y t',args.toList=[x,y]/\tys.toList=[t',t']/\JK (se P t') (aev s.T x) (aev s.T y) s ldst K:=by
  intro K s;simp only [aop];split
  ·rename_i x y t1 t2 h1 h2;constructor
   ·rintro ⟨rfl,h⟩;exact ⟨x,y,t1,h1,h2,h⟩
   ·rintro ⟨x',y',t',h3,h4,h5⟩;rw [h1] at h3;rw [h2] at h4;simp only [List.cons.injEq,and_true] at h3 h4;obtain ⟨rfl,rfl⟩:=h3;obtain ⟨rfl,rfl⟩:=h4;exact ⟨rfl,h5⟩
  ·rename_i hno;constructor
   ·exact fun h=>h.elim
   ·rintro ⟨x',y',t',h3,h4,_⟩;exact (hno x' y' t' t' h3 h4).elim
 rw [hcall] at h;obtain ⟨x,y,t',h1,h2,h3⟩:=h
 have hev:∀(ss':Sto) (u:AV) (z:Operand),z∈[x,y]->aev (AS.put ⟨s.T,ss'⟩ idst u).T z=aev s.T z:=fun ss' u z hz=>Fq (s:=⟨s.T,ss'⟩) (fun d hd=>(ha2 d hd).1 z (by
  show z∈(Op.operands _).toList
  have:z∈args.toList:=by rw [h1];exact hz
  simpa [Op.operands,Call.operands] using this))
 unfold JK at h3
 cases hse:se P t' with
 | none=>rw [hse] at h3;exact h3.elim
 | some k =>
 obtain ⟨e,sz,by_⟩:=k;rw [hse] at h3;obtain ⟨xs,ys,g1,g2,g3,g4,g5,g6⟩:=h3;show Im (tz P t) t s idst _;rw [hcs];intro b hb;refine ⟨fun b' e' _ he'=>?_,?_⟩
 ·rw [HK];simp only [Sto.YG];rw [if_neg (fun hh=>by subst hh;rw [hb.1] at he';cases he')];exact he'
 show aop P _ _ _;rw [hcall];refine ⟨x,y,t',h1,h2,?_⟩;rw [hev _ _ x (by simp),hev _ _ y (by simp),hse];refine ⟨xs,ys,g1,g2,?_,?_,g5,fun v' ss2 hp=>?_⟩
 ·rw [HK];exact g3
 ·rw [HK];exact g4
 rw [HK] at hp;have hv2:ss2.var=(ss2.var):=rfl;have hpv:=hp.var;have hdead:∀b',(s.σ.YG b ⟨t,cs.length,cs⟩).dead b'->s.σ.dead b':=fun b' hd=>((B5 _ _ _ _).1 hd).2;have hp':GZ s.σ e sz (aev s.T x) ⟨s.σ.var,ss2.own⟩ v' (xs++ys):=⟨rfl,hp.own,hp.same,hp.fresh,hp.blk.imp id (fun h b' hb'=>hdead b' (h b' hb')),hp.cap⟩
 have hbo:ss2.own b=none:=hp.fresh b hb.2 (fun hh=>by
  rcases hp.blk with h4 | h4
  ·rw [h4] at hh
   rcases g3.2 with ⟨h5,_⟩ | h5 | ⟨b',cap,h5,h6⟩
   ·rw [h5] at hh;cases hh
   ·rw [h5] at hh;cases hh
   ·rw [h5] at hh;simp only [AV.blk,Option.some.injEq] at hh;subst hh;rw [hb.2] at h6;cases h6
  ·exact ((B5 _ _ _ _).1 (h4 b hh.symm)).1 rfl)
 obtain ⟨v3,ss3,hw,_,hK⟩:=g6 v' _ hp';have hK2:Im (tz P t) t (AS.put ⟨s.T,ss3⟩ ldst v3) idst _:=hK;rw [hcs] at hK2;have hbd:(⟨s.σ.var,ss2.own⟩:Sto).dead b:=⟨hb.1,hbo⟩;have hK3:=hK2 b (by rw [HK];exact hw.dead b hbd)
 have hσ:(⟨s.σ.var,ss2.own⟩:Sto).YG b ⟨t,cs.length,cs⟩=ss2:=by
  cases ss2;simp only [Sto.YG] at hpv ⊢;rw [hpv]
 have hv3:(ss3.YG b ⟨t,cs.length,cs⟩).var=ss2.var:=by
  rw [← hσ];simp only [Sto.YG];rw [hw.var]
 refine ⟨v3,ss3.YG b ⟨t,cs.length,cs⟩,⟨?_,hv3,fun b' hd=>?_,fun ρ hd=>?_⟩,fun b' e' _ he'=>?_,?_⟩
 ·have:=hw.ext (fun i=>if i=b then some ⟨t,cs.length,cs⟩ else none) (fun b' hb'=>by
   by_cases h9:b'=b
   ·subst h9;exact hbd
   ·simp [h9] at hb')
  have e1:∀σ:Sto,σ.ext (fun i=>if i=b then some ⟨t,cs.length,cs⟩ else none)=σ.YG b ⟨t,cs.length,cs⟩:=fun σ=>by
   simp only [Sto.ext,Sto.YG];congr 1;funext i;split<;>simp
  rw [e1,e1,hσ] at this;exact this
 ·rw [← hσ] at hd;have:=(B5 _ _ _ _).1 hd;exact (B5 _ _ _ _).2 ⟨this.1,hw.dead _ this.2⟩
 ·have:=hw.ext (fun i=>(ρ i).or (if i=b then some ⟨t,cs.length,cs⟩ else none)) (fun b' hb'=>by
   by_cases h9:b'=b
   ·subst h9;exact hbd
   ·have h10:ρ b'≠none:=by simpa [h9] using hb'
    have:=hd b' h10;rw [← hσ] at this
    exact ((B5 _ _ _ _).1 this).2)
  rw [← Sto.Qgk,← Sto.Qgk,hσ] at this;exact this
 ·rw [HK] at he' ⊢;rw [hv3,hpv];exact he'
 ·have h7:=hK3.2;rw [HK] at h7
  have h8:AS.put ⟨(AS.put ⟨s.T,ss3⟩ ldst v3).T,ss3.YG b ⟨t,cs.length,cs⟩⟩ idst (.ptr b 0)=AS.put ⟨(AS.put ⟨s.T,s.σ.YG b ⟨t,cs.length,cs⟩⟩ idst (.ptr b 0)).T,ss3.YG b ⟨t,cs.length,cs⟩⟩ ldst v3:=by
   have:=CD (s:=⟨s.T,ss3.YG b ⟨t,cs.length,cs⟩⟩) (x:=ldst) (y:=idst) (v:=v3) (u:=.ptr b 0) (fun d hd=>(ha1 d hd).2.2);cases ldst<;>cases idst<;>exact this
  rw [← h8];exact h7
theorem Qoa {D:List (Option Tmp)} {l i:Oper} {s:AS} {K:AS->Prop} (ha:apt D l i=true) (hl:isAll P l=true) (hi:isAll P i=true) (h:It P E D .x l s (fun s1=>It P E D .x i s1 K)):It P E D .x i s (fun s2=>It P E D .x l s2 K):=by
 obtain ⟨ha1,ha2⟩:=ES ha;obtain ⟨ldst,lop,lty,lpos,laf,lg⟩:=l;obtain ⟨idst,iop,ity,ipos,iaf,ig⟩:=i;simp only [isAll,QG,Q9] at hl hi;obtain ⟨rfl,hl⟩:=hl;obtain ⟨rfl,hi⟩:=hi
 have hiop:∃t,iop=.alloc t/\(tz P t).isSome=true:=by
  revert hi;split
  ·exact fun h=>⟨_,rfl,h⟩
  ·intro h;cases h
 have hlop:∃t,lop=.alloc t/\(tz P t).isSome=true:=by
  revert hl;split
  ·exact fun h=>⟨_,rfl,h⟩
  ·intro h;cases h
 obtain ⟨t,rfl,htz⟩:=hiop;obtain ⟨cs,hcs⟩:=Qz.1 htz;obtain ⟨t',rfl,htz'⟩:=hlop;obtain ⟨cs',hcs'⟩:=Qz.1 htz';simp only [It,gw,Bv,Option.some.injEq,exists_eq_left',forall_const,true_implies,Ke,false_implies,and_true] at h ⊢;have h1:Im (tz P t') t' s ldst _:=h;rw [hcs'] at h1;show Im (tz P t) t s idst _;rw [hcs];intro b hb
 have hkeep:∀(σ:Sto) (b:Nat) (e:Ent),σ.var b=none->FO E σ (σ.YG b e):=fun σ b e hb b' e' _ he=>by
  simp only [Sto.YG];rw [if_neg (fun hh=>by subst hh;rw [hb] at he;cases he)];exact he
 refine ⟨by rw [HK];exact hkeep _ _ _ hb.1,?_⟩;show Im (tz P t') t' _ ldst _;rw [hcs'];intro b' hb';rw [HK] at hb';obtain ⟨hne,hd'⟩:=(B5 _ _ _ _).1 hb';refine ⟨by rw [HK,HK];exact hkeep _ _ _ hb'.1,?_⟩;obtain ⟨_,h2⟩:=h1 b' hd';have h3:Im (tz P t) t (AS.put ⟨s.T,s.σ.YG b' ⟨t',cs'.length,cs'⟩⟩ ldst (.ptr b' 0)) idst _:=h2;rw [hcs] at h3;obtain ⟨_,h4⟩:=h3 b (by rw [HK];exact (B5 _ _ _ _).2 ⟨fun hh=>hne hh.symm,hb⟩)
 have hcomm:(s.σ.YG b' ⟨t',cs'.length,cs'⟩).YG b ⟨t,cs.length,cs⟩=(s.σ.YG b ⟨t,cs.length,cs⟩).YG b' ⟨t',cs'.length,cs'⟩:=by
  simp only [Sto.YG]
  congr 1
  funext x
  by_cases hx:x=b
  ·subst hx;simp [Ne.symm hne]
  ·simp [hx]
 rw [HK] at h4 ⊢;rw [hcomm] at h4;have:=CD (s:=⟨s.T,(s.σ.YG b ⟨t,cs.length,cs⟩).YG b' ⟨t',cs'.length,cs'⟩⟩) (x:=ldst) (y:=idst) (v:=.ptr b' 0) (u:=.ptr b 0) (fun d hd=>(ha1 d hd).2.2)
 have h8:AS.put ⟨(AS.put ⟨s.T,s.σ.YG b' ⟨t',cs'.length,cs'⟩⟩ ldst (.ptr b' 0)).T,(s.σ.YG b ⟨t,cs.length,cs⟩).YG b' ⟨t',cs'.length,cs'⟩⟩ idst (.ptr b 0)=AS.put ⟨(AS.put ⟨s.T,s.σ.YG b ⟨t,cs.length,cs⟩⟩ idst (.ptr b 0)).T,(s.σ.YG b ⟨t,cs.length,cs⟩).YG b' ⟨t',cs'.length,cs'⟩⟩ ldst (.ptr b' 0):=by
  cases ldst<;>cases idst<;>exact this
 rw [← h8];exact h4
theorem Qoc {D:List (Option Tmp)} {l i:Oper} {s:AS} {K:AS->Prop} (ha:apt D l i=true) (hl:Qnh l=true) (hi:isAll P i=true) (h:It P E D .x l s (fun s1=>It P E D .x i s1 K)):It P E D .x i s (fun s2=>It P E D .x l s2 K):=by
 obtain ⟨ha1,ha2⟩:=ES ha;obtain ⟨ldst,lop,lty,lpos,laf,lg⟩:=l;obtain ⟨idst,iop,ity,ipos,iaf,ig⟩:=i;simp only [Qnh,isAll,QG,Q9] at hl hi;obtain ⟨rfl,hl⟩:=hl;obtain ⟨rfl,hi⟩:=hi
 have hiop:∃t,iop=.alloc t/\(tz P t).isSome=true:=by
  revert hi;split
  ·exact fun h=>⟨_,rfl,h⟩
  ·intro h;cases h
 have hlop:∃t p x,lop=.store t p x:=by
  revert hl;split
  ·exact fun _=>⟨_,_,_,rfl⟩
  ·intro h;cases h
 obtain ⟨t,rfl,htz⟩:=hiop;obtain ⟨cs,hcs⟩:=Qz.1 htz;obtain ⟨t',p,x,rfl⟩:=hlop;simp only [It,gw,Bv,Option.some.injEq,exists_eq_left',forall_const,true_implies,Ke,false_implies,and_true] at h ⊢;have h1:Ab (JL (tk P t') s.σ (aev s.T p) (aev s.T x)) s ldst _:=h;show Im (tz P t) t s idst _;rw [hcs];intro b hb;refine ⟨fun b' e' _ he'=>?_,?_⟩
 ·rw [HK];simp only [Sto.YG];rw [if_neg (fun hh=>by subst hh;rw [hb.1] at he';cases he')];exact he'
 show Ab (JL (tk P t') (AS.put _ idst _).σ (aev (AS.put _ idst _).T p) (aev (AS.put _ idst _).T x)) _ ldst _;have hop:∀z,z∈(Op.operands (Op.store t' p x)).toList->aev (AS.put ⟨s.T,s.σ.YG b ⟨t,cs.length,cs⟩⟩ idst (.ptr b 0)).T z=aev s.T z:=fun z hz=>Fq (s:=⟨s.T,s.σ.YG b ⟨t,cs.length,cs⟩⟩) (fun d hd=>(ha2 d hd).1 z hz);rw [hop p (by simp [Op.operands]),hop x (by simp [Op.operands]),HK]
 cases hst:JL (tk P t') s.σ (aev s.T p) (aev s.T x) with
 | none=>rw [hst] at h1;exact h1.elim
 | some ss1 =>
 rw [hst] at h1
 have key:ss1.dead b/\JL (tk P t') (s.σ.YG b ⟨t,cs.length,cs⟩) (aev s.T p) (aev s.T x)=some (ss1.YG b ⟨t,cs.length,cs⟩):=by
  revert hst;unfold JL
  cases hk:tk P t' with
  | none=>intro h;cases h
  | some k =>
  cases hv:Vx (aev s.T x) with
  | none=>intro h;cases h
  | some vs =>
  simp only
  split
  ·rename_i hlen;cases hp:aev s.T p<;>simp only [reduceCtorEq,false_implies]
   ·rename_i b0 o
    cases hvr:s.σ.var b0 with
    | none=>simp
    | some e0 =>
     have hne:b0≠b:=fun hh=>by subst hh;rw [hb.1] at hvr;cases hvr
     simp only [Qh,Sto.YG,if_neg hne,hvr];split
     ·intro hh
      injection hh with hh
      subst hh;refine ⟨⟨by simp only;rw [if_neg (Ne.symm hne)];exact hb.1,hb.2⟩,?_⟩
      congr 2
      funext z
      by_cases hz:z=b
      ·subst hz;simp [Ne.symm hne]
      ·simp [hz]
     ·intro hh;cases hh
   ·rename_i b0 o
    cases hvr:s.σ.own b0 with
    | none=>simp
    | some e0 =>
     have hne:b0≠b:=fun hh=>by subst hh;rw [hb.2] at hvr;cases hvr
     simp only [Qh,Sto.YG,Sto.Vo,hvr];split
     ·intro hh
      injection hh with hh
      subst hh;exact ⟨⟨hb.1,by simp only;rw [if_neg (Ne.symm hne)];exact hb.2⟩,rfl⟩
     ·intro hh;cases hh
  ·intro h;cases h
 rw [key.2];obtain ⟨hk1,h2⟩:=h1;rw [HK] at hk1;have h3:Im (tz P t) t (AS.put ⟨s.T,ss1⟩ ldst Jm) idst _:=h2;rw [hcs] at h3;obtain ⟨_,h4⟩:=h3 b (by rw [HK];exact key.1);refine ⟨fun b' e' hE he'=>?_,?_⟩
 ·rw [HK];simp only [Sto.YG] at he' ⊢;split at he'
  ·rename_i hbb;rw [if_pos hbb];exact he'
  ·rename_i hbb;rw [if_neg hbb];exact hk1 b' e' hE he'
 ·rw [HK] at h4;have:=CD (s:=⟨s.T,ss1.YG b ⟨t,cs.length,cs⟩⟩) (x:=ldst) (y:=idst) (v:=Jm) (u:=.ptr b 0) (fun d hd=>(ha1 d hd).2.2)
  have h8:AS.put ⟨(AS.put ⟨s.T,ss1⟩ ldst Jm).T,ss1.YG b ⟨t,cs.length,cs⟩⟩ idst (.ptr b 0)=AS.put ⟨(AS.put ⟨s.T,s.σ.YG b ⟨t,cs.length,cs⟩⟩ idst (.ptr b 0)).T,ss1.YG b ⟨t,cs.length,cs⟩⟩ ldst Jm:=by
   cases ldst<;>cases idst<;>exact this
  rw [← h8];exact h4
theorem Qnq {σ:Sto} {p:AV} {cs:List AV} {b:Nat} {e:Ent} (hb:σ.dead b) (h:mem σ p=some cs):mem (σ.YG b e) p=some cs:=by
 unfold mem at h ⊢
 cases p<;>simp only [Sto.YG] at h ⊢ <;> try exact h
 rename_i b0 o
 by_cases hb0:b0=b
 ·subst hb0;rw [hb.1] at h;simp at h
 ·rw [if_neg hb0];exact h
theorem Qob {D:List (Option Tmp)} {l i:Oper} {s:AS} {K:AS->Prop} (ha:apt D l i=true) (hl:Qsc l=true) (hi:isAll P i=true) (h:It P E D .x l s (fun s1=>It P E D .x i s1 K)):It P E D .x i s (fun s2=>It P E D .x l s2 K):=by
 obtain ⟨ha1,ha2⟩:=ES ha;obtain ⟨ldst,lop,lty,lpos,laf,lg⟩:=l;obtain ⟨idst,iop,ity,ipos,iaf,ig⟩:=i;simp only [Qsc,isAll,QG,Q9] at hl hi;obtain ⟨rfl,hl⟩:=hl;obtain ⟨rfl,hi⟩:=hi
 have hiop:∃t,iop=.alloc t/\(tz P t).isSome=true:=by
  revert hi;split
  ·exact fun h=>⟨_,rfl,h⟩
  ·intro h;cases h
 have hlop:∃t p,lop=.load t (.tmp p):=by
  revert hl;split
  ·exact fun _=>⟨_,_,rfl⟩
  ·intro h;cases h
 obtain ⟨t,rfl,htz⟩:=hiop;obtain ⟨cs,hcs⟩:=Qz.1 htz;obtain ⟨t',p,rfl⟩:=hlop;simp only [It,gw,Bv,Option.some.injEq,exists_eq_left',forall_const,true_implies,Ke,false_implies,and_true] at h ⊢;have h1:BX (CQ s.σ (tk P t') (aev s.T (.tmp p))) s ldst _:=h;show Im (tz P t) t s idst _;rw [hcs];intro b hb
 have hkeep:∀(σ:Sto) (e:Ent),σ.var b=none->FO E σ (σ.YG b e):=fun σ e hb b' e' _ he=>by
  simp only [Sto.YG];rw [if_neg (fun hh=>by subst hh;rw [hb] at he;cases he)];exact he
 refine ⟨by rw [HK];exact hkeep _ _ hb.1,?_⟩;show BX (CQ (AS.put _ idst _).σ (tk P t') (aev (AS.put _ idst _).T (.tmp p))) _ ldst _;have hop:aev (AS.put ⟨s.T,s.σ.YG b ⟨t,cs.length,cs⟩⟩ idst (.ptr b 0)).T (.tmp p)=aev s.T (.tmp p):=Fq (s:=⟨s.T,s.σ.YG b ⟨t,cs.length,cs⟩⟩) (fun d hd=>(ha2 d hd).1 (.tmp p) (by simp [Op.operands]));rw [hop,HK]
 cases hld:CQ s.σ (tk P t') (aev s.T (.tmp p)) with
 | none=>rw [hld] at h1;exact h1.elim
 | some v =>
 rw [hld] at h1
 have key:CQ (s.σ.YG b ⟨t,cs.length,cs⟩) (tk P t') (aev s.T (.tmp p))=some v:=by
  revert hld;unfold CQ;split
  ·cases hm:mem s.σ (aev s.T (.tmp p)) with
   | none=>intro h;simp at h
   | some cs'=>rw [Qnq hb hm];exact id
  ·intro h;cases h
 rw [key];obtain ⟨_,h2⟩:=h1;have h3:Im (tz P t) t (AS.put s ldst v) idst _:=h2;rw [hcs] at h3;obtain ⟨_,h4⟩:=h3 b (by rw [HK];exact hb);refine ⟨fun b' e' _ he'=>by simp only [HK] at he' ⊢;exact he',?_⟩;rw [HK] at h4;have:=CD (s:=⟨s.T,s.σ.YG b ⟨t,cs.length,cs⟩⟩) (x:=ldst) (y:=idst) (v:=v) (u:=.ptr b 0) (fun d hd=>(ha1 d hd).2.2)
 have h8:AS.put ⟨(AS.put s ldst v).T,s.σ.YG b ⟨t,cs.length,cs⟩⟩ idst (.ptr b 0)=AS.put (AS.put ⟨s.T,s.σ.YG b ⟨t,cs.length,cs⟩⟩ idst (.ptr b 0)) ldst v:=by
  cases ldst<;>cases idst<;>exact this
 rw [← h8];exact h4
theorem Er {ops:Array Oper} {K:AS->Prop} {c:Cl} {i:Nat} : ∀(R1 R2:List (Cl × Nat)) (s:AS),(∀p∈R1,(okP p.1 c||Qrn P p.1 c (Ac ops p.2) (Ac ops i))=true/\apt (ops.toList.map (·.dst)) (Ac ops p.2) (Ac ops i)=true)->Oz P E ops (R1++(c,i) :: R2) K s ->
  It P E (ops.toList.map (·.dst)) c (Ac ops i) s (Oz P E ops (R1++R2) K)
 | [],R2,s,_,h=>h
 | (c',l) :: R1,R2,s,hok,h=>by
  obtain ⟨h1,h2⟩:=hok (c',l) (by simp);have h3:It P E (ops.toList.map (·.dst)) c' (Ac ops l) s (fun s1=>It P E (ops.toList.map (·.dst)) c (Ac ops i) s1 (Oz P E ops (R1++R2) K)):=MG h (fun s1 hs1=>Er R1 R2 s1 (fun p hp=>hok p (by simp [hp])) hs1)
  cases c'<;>cases c<;>simp only [okP,Qrn,Bool.false_or,Bool.true_or,Bool.false_and,Bool.true_and] at h1<;>try (cases h1;done)
  ·exact Qod h2 h3
  ·exact Qoe h2 h3
  ·rw [QG,Kb,Kb,Kb] at h1
   rcases h1.1 with ((h4 | h4) | h4) | h4
   ·exact Qof h2 h4 h1.2 h3
   ·exact Qoa h2 h4 h1.2 h3
   ·exact Qoc h2 h4 h1.2 h3
   ·exact Qob h2 h4 h1.2 h3
theorem Hu {ops:Array Oper} {B:List (List Nat)} {q:Cl × Nat} : ∀(R1 R2:List (Cl × Nat)),As P ops B (R1++q :: R2)=true->As P ops B (R1++R2)=true/\(∀p∈R1,TH P ops B p q=true)/\∀p∈R2,TH P ops B q p=true
 | [],R2,h=>by
  simp only [List.nil_append,As,QG,Q8] at h;exact ⟨h.2,by simp,h.1⟩
 | p :: R1,R2,h=>by
  simp only [Kj,As,QG,Q8] at h;obtain ⟨h1,h2⟩:=h;obtain ⟨k1,k2,k3⟩:=Hu R1 R2 h2;refine ⟨?_,fun p' hp'=>?_,k3⟩
  ·simp only [Kj,As,QG,Q8]
   exact ⟨fun x hx=>h1 x (by
    rcases QS.1 hx with hx | hx
    ·exact Kd _ hx
    ·exact Kc _ (Kh _ hx)),k1⟩
  ·rcases Kl.1 hp' with rfl | hp'
   ·exact h1 q (by simp)
   ·exact k2 p' hp'
theorem Vj {ops:Array Oper} {B:List (List Nat)} {p q:Cl × Nat} (h:TH P ops B p q=true):q.2∉N2 (Ac ops p.2)/\p.2≠q.2/\(p.2∈B.getD q.2 []∨((okP p.1 q.1||Qrn P p.1 q.1 (Ac ops p.2) (Ac ops q.2))=true/\apt (ops.toList.map (·.dst)) (Ac ops p.2) (Ac ops q.2)=true)):=by
 unfold TH at h;rw [QG,QG,Kb,QG] at h;refine ⟨by simpa using h.1.1,by simpa using h.1.2,h.2.imp (fun h=>by simpa using h) id⟩
theorem Nz {ops:Array Oper} {B:List (List Nat)} {Q:Exit->Act->World->Prop} {K:AS->Prop} (hB:FU ops B=true) (hok:∀o∈ops.toList,Um P n o=true) (hQ:∀a w,NT P n ss0 w0 K a w->Q .normal a w) :
  ∀(fuel:Nat) (R:List (Cl × Nat)) (listed:Array Bool) (s:AS) (a:Act) (w:World),R.length=fuel->Inv P ops B R listed->Rel P n ss0 w0 s a w->Oz P E ops R K s->wpAny P .any ops Q fuel listed a w
 | 0,R,listed,s,a,w,hl,hI,hR,h=>by
  have hR0:R=[]:=List.eq_nil_of_length_eq_zero hl;subst hR0;refine ⟨?_,hQ a w ⟨s,h,hR⟩⟩;apply List.eq_nil_iff_forall_not_mem.2;intro i hi;obtain ⟨h1,h2,_⟩:=Md hi;obtain ⟨c,hc⟩:=(hI.mem i h1).1 h2;cases hc
 | fuel+1,R,listed,s,a,w,hl,hI,hR,h=>by
  refine ⟨fun hr=>?_,fun i hi=>?_⟩
  ·
   exfalso
   cases R with
   | nil=>simp at hl
   | cons p R =>
    have hpl:=hI.lt p (by simp);have hnl:listed.getD p.2 true=false:=(hI.mem p.2 hpl).2 ⟨p.1,by simp⟩
    have hmem:p.2∈Region.ready .any ops listed:=Qbs hpl hnl (fun m hm=>by
     apply Classical.byContradiction;intro hml
     have hmi:m < ops.size:=by
      unfold FU at hB;rw [Q8] at hB;have:=hB p.2 (Kf.2 hpl);rw [QG,Q8] at this;have:=this.1 m hm;simp at this;omega
     have hml':listed.getD m true=false:=by
      rw [Ap (by rw [hI.size];exact hmi) true false];simpa using hml
     obtain ⟨c,hc⟩:=(hI.mem m hmi).1 hml'
     rcases Kl.1 hc with hc | hc
     ·have:m=p.2:=by rw [← hc]
      subst this;have hB2:=hB;unfold FU at hB2;rw [Q8] at hB2;have:=hB2 p.2 (Kf.2 hpl);rw [QG,Q8] at this;have:=this.1 p.2 hm;simp at this
     ·have:=(Hu [] R hI.pairs).2.2 _ hc
      exact (Vj this).1 hm)
    rw [hr] at hmem;cases hmem
  ·obtain ⟨hil,hiu,hid⟩:=Md hi;obtain ⟨c,hc⟩:=(hI.mem i hil).1 hiu;obtain ⟨R1,R2,rfl⟩:=List.append_of_mem hc;obtain ⟨p1,p2,p3⟩:=Hu R1 R2 hI.pairs
   have hfirst:=Er (P:=P) (E:=E) R1 R2 s (fun p hp=>by
    obtain ⟨q1,q2,q3⟩:=Vj (p2 p hp)
    rcases q3 with q3 | q3
    ·exfalso;have hpl:=hI.lt p (by simp [hp]);have hpu:listed.getD p.2 true=false:=(hI.mem p.2 hpl).2 ⟨p.1,by simp [hp]⟩
     have:listed.getD p.2 false=true:=by
      unfold FU at hB;rw [Q8] at hB;have hBi:=hB i (Kf.2 hil);rw [QG,Q8,Q8] at hBi;have h3:=hBi.2 p.2 q3;rw [Kb] at h3
      rcases h3 with h3 | h3
      ·exact hid p.2 (by simpa using h3)
      ·rw [Kk] at h3;obtain ⟨m,hm,hml⟩:=h3
       have hmi:m < i:=by simpa using hBi.1 m hm
       have hmlist:=hid m hm;exact Rq (by unfold FU;rw [Q8];exact hB) hI.size hI.closed m (by omega) (by rw [Ap (by rw [hI.size];omega) true false];exact hmlist) p.2 (by simpa using hml)
     rw [Ap (by rw [hI.size];exact hpl) false true,hpu] at this;cases this
    ·exact q3) h
   unfold wpOp
   have hg:ops[i]?=some (Ac ops i):=by simp [Ac,hil]
   simp only [hg];refine NI (E:=E) (c:=c) (hok _ (by rw [List.mem_iff_getElem?];exact ⟨i,by simpa using hg⟩)) hR hfirst (fun a' w' hp=>?_);obtain ⟨s',hs',hR'⟩:=hp;refine Nz hB hok hQ fuel (R1++R2) _ s' a' w' (by simp at hl ⊢;omega) ?_ hR' hs'
   have hset:∀j b,(listed.setIfInBounds i true).getD j b=if j=i then true else listed.getD j b:=by
    intro j b
    by_cases hj:j=i
    ·subst hj;rw [if_pos rfl];simp [hI.size,hil]
    ·rw [if_neg hj];simp [Array.getElem?_setIfInBounds_ne (Ne.symm hj)]
   have hnot:∀c',(c',i)∉R1++R2:=by
    intro c' hc'
    rcases QS.1 hc' with hc' | hc'
    ·exact (Vj (p2 _ hc')).2.1 rfl
    ·exact (Vj (p3 _ hc')).2.1 rfl
   refine ⟨by simp [hI.size],fun j hj=>?_,fun p hp=>hI.lt p (by
    rcases QS.1 hp with hp | hp
    ·exact Kd _ hp
    ·exact Kc _ (Kh _ hp)),fun j hj hjl m hm=>?_,p1⟩
   ·rw [hset]
    by_cases hji:j=i
    ·subst hji;rw [if_pos rfl];constructor
     ·intro h;cases h
     ·rintro ⟨c',hc'⟩;exact absurd hc' (hnot c')
    ·rw [if_neg hji,hI.mem j hj];constructor
     ·rintro ⟨c',hc'⟩;refine ⟨c',?_⟩
      rcases QS.1 hc' with hc' | hc'
      ·exact Kd _ hc'
      ·rcases Kl.1 hc' with hc' | hc'
       ·injection hc' with _ h2;exact absurd h2 hji
       ·exact Kc _ hc'
     ·rintro ⟨c',hc'⟩;refine ⟨c',?_⟩
      rcases QS.1 hc' with hc' | hc'
      ·exact Kd _ hc'
      ·exact Kc _ (Kh _ hc')
   ·rw [hset] at hjl ⊢
    by_cases hmi:m=i
    ·rw [if_pos hmi]
    ·rw [if_neg hmi]
     by_cases hji:j=i
     ·subst hji;exact hid m hm
     ·rw [if_neg hji] at hjl;exact hI.closed j hj hjl m hm
theorem Qf9 {ops:Array Oper} {K:AS->Prop} {s:AS} (E:Nat->Prop) (L:List (Cl × Nat)) (hchk:S7 P ops L=true) (h:Oz P E ops L K s):RJ P ops K s:=by
 intro n ss0 w0 a w Q hok hR hQ;unfold S7 at hchk;simp only [QG] at hchk;obtain ⟨⟨⟨⟨h1,h2⟩,h3⟩,h4⟩,h5⟩:=hchk
 have h5':L.length=ops.size:=by simpa using h5
 refine Nz (E:=E) h1 hok hQ ops.size L _ s a w h5' ⟨by simp,fun i hi=>?_,fun p hp=>by have:=(Q8.1 h4) p hp;simpa using this,fun i hi hl=>?_,h2⟩ hR h
 ·have hf:(Array.replicate ops.size false).getD i true=false:=by simp [hi]
  rw [hf];have:=(Q8.1 h3) i (Kf.2 hi);rw [Kk] at this;obtain ⟨p,hp,hpi⟩:=this
  have:p.2=i:=by simpa using hpi
  subst this;exact ⟨fun _=>⟨p.1,hp⟩,fun _=>rfl⟩
 ·have hf:(Array.replicate ops.size false).getD i true=false:=by simp [hi]
  rw [hf] at hl;cases hl
end
end Go.Proofs.Shadow
