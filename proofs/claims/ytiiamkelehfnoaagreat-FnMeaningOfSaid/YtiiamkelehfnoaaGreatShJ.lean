/- The walk: rewriting rules for the abstract code, and the steps where it stops. -/
import Derived.Test.YtiiamkelehfnoaaGreatShG
open _root_.Bool renaming and_eq_true → QG, or_eq_true → Q9, true_eq_false → Kc, false_eq_true → Qq
open _root_.List renaming all_eq_true → Q6, map_congr_left → Q8, mem_append_right → Ka, mem_append_left → Kb, mem_append → QR, mem_range → Kd, mem_cons_of_mem → Kf, mem_filter → Kg, cons_append → Kh, any_eq_true → Ki, mem_cons → Kj
open _root_.Option renaming isSome_iff_exists → Qy, isNone_iff_eq_none → Q7, map_some → Qu, bind_some → Qf, getD_some → Q3
open _root_.Array renaming all_eq_true_iff_forall_mem → Ke
set_option linter.unusedVariables false
set_option linter.unusedSimpArgs false
namespace Go.Proofs.Shadow
open Go Go.RowKit
section
variable {P:Program}
theorem AS.Qj8 (T:Nat->AV) (σ:Sto) (d:Tmp) (v:AV):AS.put ⟨T,σ⟩ (some d) v=⟨upd T d v,σ⟩:=(rfl)
theorem AS.Qj7 (T:Nat->AV) (σ:Sto) (v:AV):AS.put ⟨T,σ⟩ none v=⟨T,σ⟩:=(rfl)
theorem Qai (T:Nat->AV) (d i:Nat) (v:AV):upd T d v i=if i=d then v else T i:=(rfl)
theorem Ql6 (a:AV) (as:List AV):T0 (a :: as) 0=a:=(rfl)
theorem Ql5 (a:AV) (as:List AV) (i:Nat):T0 (a :: as) (i+1)=T0 as i:=(rfl)
theorem Qo6 (i:Nat):T0 [] i=Jp:=(rfl)
theorem Qcv (Q:AX->AS->Prop) (s:AS):Gh P .skip Q s=Q .nrm s:=(rfl)
theorem S2 (id:Nat) (ops:Array Oper) (Q:AX->AS->Prop) (s:AS):Gh P (.region id ops false) Q s=Px P (ops.toList.map (·.dst)) ops.toList (Q .nrm) s:=(rfl)
theorem Qcs (id:Nat) (ops:Array Oper) (Q:AX->AS->Prop) (s:AS):Gh P (.region id ops true) Q s=RV P ops (Q .nrm) s:=(rfl)
theorem Qe6 (x y:Code) (Q:AX->AS->Prop) (s:AS):Gh P (.seq x y) Q s=Gh P x (thn (Gh P y Q) Q) s:=(rfl)
def Qaw (P:Program) (c:AV) (x y:Code) (Q:AX->AS->Prop) (s:AS):Prop:=Qii c (Gh P x Q s) (Gh P y Q s)
def aGd (P:Program) (g:Option Bool) (o:Oper) (s:AS) (K:AS->Prop):Prop:=BB g (aop P o s K) (K (s.put o.dst Jp))
theorem Qcr (c:Operand) (x y:Code) (Q:AX->AS->Prop) (s:AS):Gh P (.cond c x y) Q s=Qaw P (aev s.T c) x y Q s:=(rfl)
theorem Ut (id:Nat) (c:Code) (Q:AX->AS->Prop) (s:AS):Gh P (.block id c) Q s=Gh P c (TG id Q) s:=(rfl)
theorem Qcu (c:Code) (Q:AX->AS->Prop) (s:AS):Gh P (.loop c) Q s=Qex P (Gh P c) Q s:=(rfl)
theorem Qct (id:Nat) (Q:AX->AS->Prop) (s:AS):Gh P (.exit id) Q s=Q (.ex id) s:=(rfl)
theorem Qe5 (Q:AX->AS->Prop) (s:AS):Gh P .ret Q s=Q .ret s:=(rfl)
theorem Qoh (k:AS->Prop) (Q:AX->AS->Prop):thn k Q .nrm=k:=(rfl)
theorem Qq2 (k:AS->Prop) (Q:AX->AS->Prop) (id:Nat):thn k Q (.ex id)=Q (.ex id):=(rfl)
theorem Qoi (k:AS->Prop) (Q:AX->AS->Prop):thn k Q .ret=Q .ret:=(rfl)
theorem Qg3 (id:Nat) (Q:AX->AS->Prop):TG id Q .nrm=Q .nrm:=(rfl)
theorem Qju (id id':Nat) (Q:AX->AS->Prop):TG id Q (.ex id')=if id'=id then Q .nrm else Q (.ex id'):=by
 funext s;simp only [TG];split<;>rfl
theorem Qg4 (id:Nat) (Q:AX->AS->Prop):TG id Q .ret=Q .ret:=(rfl)
theorem Qij (rs:List ResultVar) (Q:AV->Sto->Prop) (s:AS):Qpb P rs Q .nrm s=I7 P rs Q s:=(rfl)
theorem Qik (rs:List ResultVar) (Q:AV->Sto->Prop) (s:AS):Qpb P rs Q .ret s=I7 P rs Q s:=(rfl)
theorem Qi5 (D:List (Option Tmp)) (K:AS->Prop) (s:AS):Px P D [] K s=K s:=(rfl)
theorem S9 (D:List (Option Tmp)) (o:Oper) (os:List Oper) (K:AS->Prop) (s:AS):Px P D (o :: os) K s=Qoz P D o s (Px P D os K):=(rfl)
theorem Qfj (D:List (Option Tmp)) (dst:Option Tmp) (op:Op) (ty:TypeId) (pos:String) (af:Array Edge) (s:AS) (K:AS->Prop):Qoz P D ⟨dst,op,ty,pos,af,none⟩ s K=aop P ⟨dst,op,ty,pos,af,none⟩ s K:=by
 simp [Qoz,BB,gw]
theorem Qfk (D:List (Option Tmp)) (dst:Option Tmp) (op:Op) (ty:TypeId) (pos:String) (af:Array Edge) (g:Nat × Bool) (s:AS) (K:AS->Prop) :
  Qoz P D ⟨dst,op,ty,pos,af,some g⟩ s K=aGd P (gw D s.T (some g)) ⟨dst,op,ty,pos,af,none⟩ s K:=(rfl)
def gwv (v:AV) (want:Bool):Option Bool:=match v with | .bool b=>some (b == want) | .tup []=>some false | _=>none
theorem Qjp (b want:Bool):gwv (.bool b) want=some (b == want):=(rfl)
theorem Qjq (want:Bool):gwv Jp want=some false:=(rfl)
theorem Qrx (D:List (Option Tmp)) (T:Nat->AV) (j:Nat) (want:Bool):gw D T (some (j,want))=match gd D j with | some d=>gwv (T d) want | none=>some false:=by
 cases h:gd D j with
 | none=>simp only [gw,h]
 | some d =>
  simp only [gw,h,gwv]
  cases T d with
  | tup vs=>cases vs<;>rfl
  | _=>rfl
theorem Qrw (D:List (Option Tmp)) (j:Nat):gd D j=(D[j]?).bind id:=(rfl)
theorem Qil (o:Oper) (s:AS) (K:AS->Prop):aGd P (some true) o s K=aop P o s K:=by simp [aGd,BB]
theorem Qew (o:Oper) (s:AS) (K:AS->Prop):aGd P (some false) o s K=K (s.put o.dst Jp):=by simp [aGd,BB]
theorem S1 {t:Bool} {o:Oper} {s:AS} {K:AS->Prop} (h1:t=true->aop P o s K) (h2:t=false->K (s.put o.dst Jp)):aGd P (some t) o s K:=⟨t,rfl,h1,h2⟩
theorem Qev (x y:Code) (Q:AX->AS->Prop) (s:AS):Qaw P (.bool true) x y Q s=Gh P x Q s:=by simp [Qaw,Qii]
theorem Qcl (x y:Code) (Q:AX->AS->Prop) (s:AS):Qaw P (.bool false) x y Q s=Gh P y Q s:=by simp [Qaw,Qii]
theorem Ql7 {x y:Code} {Q:AX->AS->Prop} {s:AS} (h1:Gh P x Q s) (h2:Gh P y Q s):Qaw P .ub x y Q s:=.inr ⟨rfl,h1,h2⟩
theorem Qez (v:AV) (s:AS) (dst:Option Tmp) (K:AS->Prop):C6 (some v) s dst K=K (s.put dst v):=(rfl)
section
variable (dst:Option Tmp) (ty:TypeId) (pos:String) (af:Array Edge) (s:AS) (K:AS->Prop)
theorem Qi2 (x:Operand):aop P ⟨dst,.move x,ty,pos,af,none⟩ s K=K (s.put dst (aev s.T x)):=(rfl)
theorem Qc5 (x:Operand):aop P ⟨dst,.assign x,ty,pos,af,none⟩ s K=K (s.put dst (aev s.T x)):=(rfl)
theorem Qi3 (c a b:Operand):aop P ⟨dst,.pick c a b,ty,pos,af,none⟩ s K=C6 (match aev s.T c with | .bool t=>some (bif t then aev s.T a else aev s.T b) | _=>none) s dst K:=(rfl)
theorem Qi1 (t:TypeId) (p:Operand):aop P ⟨dst,.load t p,ty,pos,af,none⟩ s K=C6 (Dq s.σ (tk P t) (aev s.T p)) s dst K:=(rfl)
theorem S8 (x:Operand):aop P ⟨dst,.nilCheck x,ty,pos,af,none⟩ s K=C6 (Qoy (aev s.T x)) s dst K:=(rfl)
theorem R0 (t:TypeId) (x:Operand) (f:Nat):aop P ⟨dst,.fieldAddr t x f,ty,pos,af,none⟩ s K=C6 (M3 (fo P t f) (aev s.T x)) s dst K:=(rfl)
theorem R3 (t:TypeId) (x i:Operand):aop P ⟨dst,.indexAddr t x i,ty,pos,af,none⟩ s K=C6 (Uw s.σ (se P t) (aev s.T x) (aev s.T i)) s dst K:=(rfl)
theorem Qfo (t:TypeId) (x i:Operand):aop P ⟨dst,.index t x i,ty,pos,af,none⟩ s K=C6 (La (isS P t) (aev s.T x) (aev s.T i)) s dst K:=(rfl)
theorem Qfm (op:BinOp) (t:TypeId) (x y:Operand) (t2:TypeId):aop P ⟨dst,.binOp op t x y t2,ty,pos,af,none⟩ s K=C6 (Qeo (isB P t) (se P t).isSome op (aev s.T x) (aev s.T y)) s dst K:=(rfl)
theorem Qi4 (op:UnOp) (t:TypeId) (x:Operand):aop P ⟨dst,.unOp op t x,ty,pos,af,none⟩ s K=C6 (aun op (aev s.T x)) s dst K:=(rfl)
theorem Uz (x:Operand) (i:Nat):aop P ⟨dst,.extract x i,ty,pos,af,none⟩ s K=C6 (Qox (aev s.T x) i) s dst K:=(rfl)
theorem Qfn (t:TypeId) (parts:Array (Nat × Operand)):aop P ⟨dst,.build t parts,ty,pos,af,none⟩ s K=C6 (RE (tz P t) (fps P t) (parts.toList.map fun p=>(p.1,aev s.T p.2))) s dst K:=(rfl)
theorem PC (t:TypeId) (len:Nat) (parts:Array (Nat × Operand)):aop P ⟨dst,.buildSlice t len parts,ty,pos,af,none⟩ s K=C6 (Ma (se P t) ((se P t).bind fun k=>tz P k.1).isSome len (parts.toList.map fun p=>(p.1,aev s.T p.2))) s dst K:=(rfl)
theorem Qfr (t:TypeId) (x:Operand) (lo hi mx:Option Operand):aop P ⟨dst,.slice t x lo hi mx,ty,pos,af,none⟩ s K=aSl (Qh8 P t (isS P t) (se P t) (aev s.T x) (lo.map (aev s.T)) (hi.map (aev s.T)) (mx.map (aev s.T))) s dst K:=(rfl)
theorem Qmn (t:TypeId) (b:Bool) (k:Option (TypeId × Nat × Nat)) (c:Bool) (r:List (List AV)) (lo hi mx:Option AV):Qh8 P t b k (.sl c r) lo hi mx=BD b k (.sl c r) lo hi mx:=(rfl)
theorem Qi8 (t:TypeId) (b:Bool) (k:Option (TypeId × Nat × Nat)) (c:ByteArray) (lo hi mx:Option AV):Qh8 P t b k (.str c) lo hi mx=BD b k (.str c) lo hi mx:=(rfl)
theorem Qi7 (t:TypeId) (b:Bool) (k:Option (TypeId × Nat × Nat)) (c n m:Nat) (lo hi mx:Option AV):Qh8 P t b k (.ref c n m) lo hi mx=BD b k (.ref c n m) lo hi mx:=(rfl)
theorem Qi6 (t:TypeId) (b:Bool) (k:Option (TypeId × Nat × Nat)) (lo hi mx:Option AV):Qh8 P t b k .Yd lo hi mx=BD b k .Yd lo hi mx:=(rfl)
theorem Qi9 (t:TypeId) (b:Bool) (k:Option (TypeId × Nat × Nat)) (g:Nat):Qh8 P t b k (.ptr g 0) none none none=Qri P t g:=(rfl)
theorem Qpd (c:Bool) (r:List (List AV)) (s:AS) (dst:Option Tmp) (K:AS->Prop):aSl (some (.sl c r)) s dst K=K (s.put dst (.sl c r)):=(rfl)
theorem Qma (c:ByteArray) (s:AS) (dst:Option Tmp) (K:AS->Prop):aSl (some (.str c)) s dst K=K (s.put dst (.str c)):=(rfl)
theorem Uy (t d:TypeId) (x:Operand):aop P ⟨dst,.convert t d x,ty,pos,af,none⟩ s K=C6 (if Qqb P t then Uu (ik P d) (UU P t) (isS P d) (aev s.T x) else none) s dst K:=(rfl)
theorem S7 (f:FuncId) (caps:Array Operand):aop P ⟨dst,.makeFunc (.func f) #[] caps,ty,pos,af,none⟩ s K=K (s.put dst (.fn f (caps.toList.map (aev s.T)))):=(rfl)
theorem Qfl (t:TypeId):aop P ⟨dst,.alloc t,ty,pos,af,none⟩ s K=Iz (tz P t) t s dst K:=(rfl)
theorem Qmk (t:TypeId) (x:Operand):aop P ⟨dst,.box t x,ty,pos,af,none⟩ s K=Iz (Vv (aev s.T x)) t s dst K:=(rfl)
theorem Qfs (t:TypeId) (p x:Operand):aop P ⟨dst,.store t p x,ty,pos,af,none⟩ s K=Af (JO (tk P t) s.σ (aev s.T p) (aev s.T x)) s dst K:=(rfl)
theorem R4 (t:TypeId) (l c:Operand):aop P ⟨dst,.makeSlice t l c,ty,pos,af,none⟩ s K=RW (se P t) ((se P t).bind fun k=>tz P k.1) (aev s.T l) (aev s.T c) s dst K:=(rfl)
theorem Qi0 (f:Operand) (args:Array Operand) (tys:Array TypeId):aop P ⟨dst,.call ⟨.value f,args,tys⟩,ty,pos,af,none⟩ s K=Nj P (aev s.T f) (args.toList.map (aev s.T)) s dst K:=(rfl)
theorem Qc4 (x y:Operand) (t:TypeId):aop P ⟨dst,.call ⟨.builtin .append,#[x,y],#[t,t]⟩,ty,pos,af,none⟩ s K=JN (se P t) (aev s.T x) (aev s.T y) s dst K:=by
 simp [aop]
theorem Qml (x:Operand) (t:TypeId):aop P ⟨dst,.call ⟨.builtin .len,#[x],#[t]⟩,ty,pos,af,none⟩ s K=C6 (if isS P t||(se P t).isSome then FG (isS P t) (aev s.T x) else none) s dst K:=(rfl)
theorem Qmm (x y:Operand) (tys:Array TypeId):aop P ⟨dst,.call ⟨.builtin .max,#[x,y],tys⟩,ty,pos,af,none⟩ s K=C6 (Qmi (aev s.T x) (aev s.T y)) s dst K:=(rfl)
end
theorem Qf2 {α:Type} (a b:α):(bif true then a else b)=a:=(rfl)
theorem Qda {α:Type} (a b:α):(bif false then a else b)=b:=(rfl)
theorem Qr1 {α:Type} (a b:α):(if true=true then a else b)=a:=(rfl)
theorem Qr0 {α:Type} (a b:α):(if false=true then a else b)=b:=(rfl)
theorem Qmg (T:Nat->AV) (t:Tmp):aev T (.tmp t)=T t:=(rfl)
theorem Qme (T:Nat->AV) (k:IntKind) (n:Int):aev T (.const (.int k n))=.int k n:=(rfl)
theorem Qir (T:Nat->AV) (b:Bool):aev T (.const (.bool b))=.bool b:=(rfl)
theorem Qmf (T:Nat->AV) (s:ByteArray):aev T (.const (.string s))=.str s:=(rfl)
theorem Qe8 (T:Nat->AV):aev T (.const (.slice none 0 0))=.Yd:=(rfl)
theorem Qit (T:Nat->AV):aev T (.const (.pointer none))=.nilp:=(rfl)
theorem Qcw (T:Nat->AV) (g:Nat):aev T (.global g)=.ptr g 0:=(rfl)
theorem Qis (T:Nat->AV) (f:FuncId):aev T (.func f)=.fn f []:=(rfl)
theorem Qom (σ:Sto) (b b':Nat) (e:Ent):(σ.YG b e).var b'=if b'=b then some e else σ.var b':=(rfl)
theorem Qdu (σ:Sto) (b:Nat) (e:Ent):(σ.YG b e).own=σ.own:=(rfl)
theorem Qn1 (σ:Sto) (b b':Nat) (e:Ent):(σ.Vj b e).own b'=if b'=b then some e else σ.own b':=(rfl)
theorem Qee (σ:Sto) (b:Nat) (e:Ent):(σ.Vj b e).var=σ.var:=(rfl)
theorem Ql1 (σ:Sto) (b:Nat) (e e':Ent):(σ.YG b e).YG b e'=σ.YG b e':=by
 simp only [Sto.YG]
 congr 1
 funext i;split<;>rfl
theorem Qfh (σ:Sto) (ag:Bool) (k b o:Nat):Dq σ (some (ag,k)) (.ptr b o)=((σ.var b).bind fun e=>if o<=e.cells.length then some (e.cells.drop o) else none).bind fun cs=>(seg cs 0 (if ag then k else 1)).bind (R5 ag):=(rfl)
theorem Qfg (σ:Sto) (ag:Bool) (k:Nat) (cs:List AV):Dq σ (some (ag,k)) (.ept cs)=(seg cs 0 (if ag then k else 1)).bind (R5 ag):=(rfl)
theorem Qq1 (cs:List AV) (o k:Nat):seg cs o k=if o+k<=cs.length then some ((cs.drop o).take k) else none:=(rfl)
theorem Qc7 (cs:List AV):R5 true cs=some (.agg cs):=(rfl)
theorem Qfx (c:AV):R5 false [c]=some c:=(rfl)
theorem Qcy (f b o:Nat):M3 (some f) (.ptr b o)=some (.ptr b (o+f)):=(rfl)
theorem Qcx (f:Nat) (cs:List AV):M3 (some f) (.ept cs)=some (.ept (cs.drop f)):=(rfl)
theorem E4 (ag:Bool) (k:Nat) (σ:Sto) (b o:Nat) (v:AV):JO (some (ag,k)) σ (.ptr b o) v=(Vv v).bind fun cs=>if cs.length=k then (σ.var b).bind fun e=>if o+k<=e.cells.length then some (σ.YG b ⟨e.ty,e.size,Wz e.cells o cs⟩) else none else none:=by
 unfold JO;cases Vv v<;>rfl
theorem Hx (cells:List AV) (o:Nat) (cs:List AV):Wz cells o cs=cells.take o++cs++cells.drop (o+cs.length):=(rfl)
theorem UD (cs:List AV):Vv (.agg cs)=some cs:=(rfl)
theorem UE (k:IntKind) (n:Int):Vv (.int k n)=some [.int k n]:=(rfl)
theorem Ta (b:Bool):Vv (.bool b)=some [.bool b]:=(rfl)
theorem UH (s:ByteArray):Vv (.str s)=some [.str s]:=(rfl)
theorem Qc9 (c:Bool) (xs:List (List AV)):Vv (.sl c xs)=some [.sl c xs]:=(rfl)
theorem R6:Vv .Yd=some [.Yd]:=(rfl)
theorem UG (b n c:Nat):Vv (.ref b n c)=some [.ref b n c]:=(rfl)
theorem UF (b o:Nat):Vv (.ptr b o)=some [.ptr b o]:=(rfl)
theorem Qc8 (f:FuncId) (cs:List AV):Vv (.fn f cs)=some [.fn f cs]:=(rfl)
theorem CO {v:AV} (h:v.Y6=true):Vv v=some [v]:=by
 cases v<;>first | rfl | (simp [AV.Y6] at h;done) | (simp only [Vv];rw [if_pos h])
theorem Qin (isb isl:Bool) (op:BinOp) (k:IntKind) (a b:Int):Qeo isb isl op (.int k a) (.int k b)=Qim op k a b:=by simp [Qeo]
theorem Qio (isb isl:Bool) (op:BinOp) (a b:ByteArray):Qeo isb isl op (.str a) (.str b)=Qe0 op a b:=(rfl)
theorem Qmc (isb:Bool):Qeo isb true .eql .Yd .Yd=some (.bool true):=(rfl)
theorem Qmb (isb c:Bool):Qeo isb true .eql (.sl c []) .Yd=some .ub:=(rfl)
theorem Qmd (isb c:Bool) (x:List AV) (xs:List (List AV)):Qeo isb true .eql (.sl c (x :: xs)) .Yd=some (.bool false):=(rfl)
theorem Qe3 (isl:Bool) (op:BinOp) (a b:Bool):Qeo true isl op (.bool a) (.bool b)=(match op with | .eql=>some (.bool (a == b)) | .neq=>some (.bool (!(a == b))) | _=>none):=(rfl)
theorem Qmq (b:Bool):aun .not (.bool b)=some (.bool !b):=(rfl)
theorem Qiw (c:Bool) (xs:List (List AV)):FG false (.sl c xs)=some (.int .i64 xs.length):=(rfl)
theorem Qfb:FG false .Yd=some (.int .i64 0):=(rfl)
theorem Qfd (s:ByteArray):FG true (.str s)=some (.int .i64 s.size):=(rfl)
theorem Qay {v:AV} {n:Int} (h:Qpf v=some n) (hs:v.Y6=true) (hn:∀s,v≠.str s):FG false v=some (.int .i64 n):=by
 cases v<;>simp_all [FG,Qpf]
theorem Qiu (vs:List AV) (i:Nat):Qox (.tup vs) i=vs[i]?:=(rfl)
def VK (P:Program) (f:FuncId) (args:List AV) (v:AV):Prop:=∀σ,Ctr P f args σ fun r ss'=>r=v/\ss'=σ
theorem RD {f:FuncId} {args bs:List AV} {v:AV} {T:Nat->AV} {σ:Sto} {dst:Option Tmp} {K:AS->Prop} (h:VK P f bs v) (hw:DK args bs) (hK:K (AS.put ⟨T,σ⟩ dst v)):Nj P (.fn f []) args ⟨T,σ⟩ dst K:=by
 show Ctr P f (args++[]) σ _;rw [List.append_nil];exact (Ctr.args hw (h σ)).mono (fun r ss' hr=>by obtain ⟨rfl,rfl⟩:=hr;exact hK)
theorem Qeu {f:FuncId} {args bs caps:List AV} {Q:AV->Sto->Prop} {T:Nat->AV} {σ:Sto} {dst:Option Tmp} {K:AS->Prop} (h:Ctr P f bs σ Q) (hw:DK (args++caps) bs) (hK:∀r ss',Q r ss'->K (AS.put ⟨T,ss'⟩ dst r)):Nj P (.fn f caps) args ⟨T,σ⟩ dst K :=
 (Ctr.args hw h).mono hK
end
theorem Qe1 (x y:ByteArray):Qe0 .eql x y=some (.bool (decide (x=y))):=(rfl)
theorem Qe2 (x y:ByteArray):Qe0 .neq x y=some (.bool (!decide (x=y))):=(rfl)
attribute [go_sem] Qcv S2 Qcs Qe6 Qcr Ut Qcu Qct Qe5 Qoh Qq2 Qoi Qg3 Qju Qg4 Qij Qik
 Qi5 S9 Qfj Qfk Qjp Qjq Qrx Qrw Qil Qew Qev Qcl Qez
 Qi2 Qc5 Qi3 Qi1 S8 R0 R3 Qfo Qfm Qi4 Uz Qfn PC Qfr Qpd Qma Qmn Qi8 Qi7 Qi6 Qi9 Uy S7 Qfl Qmk Qfs R4 Qi0 Qc4 Qml Qmm
 Qmg Qme Qir Qmf Qe8 Qit Qcw Qis AS.Qj8 AS.Qj7 Qai Ql6 Ql5 Qo6
 Qom Qdu Qn1 Qee Ql1 Qfh Qfg Qq1 Qc7 Qfx Qcy Qcx Hx UD UE Ta UH Qc9 R6 UG UF Qc8
 Qin Qmc Qmb Qmd Qim Qio Qe1 Qe2 Qe3 Qmq Qiw Qfb Qfd Qiu Qoy
 id Qf Option.bind_none Qu List.map_cons List.map_nil List.getElem?_cons_succ List.getElem?_cons_zero List.length_cons List.length_nil List.drop_succ_cons List.drop_zero List.take_succ_cons List.take_zero List.drop_nil List.take_nil
 List.append_nil List.nil_append Kh List.toList_toArray ite_true ite_false Qq Qf2 Qda beq_true beq_false Bool.not_true Bool.not_false Nat.le_refl Nat.zero_le Nat.zero_add Nat.add_zero decide_true decide_false Qr1 Qr0
end Go.Proofs.Shadow
namespace Go.Proofs.Shadow
open Go Go.RowKit
noncomputable def S0 (E:Nat->Prop) (σ:Sto):Sto:=⟨fun b=>@ite _ (E b) (Classical.propDecidable _) none (σ.var b),fun _=>none⟩
def F8 (E:Nat->Prop) (σ ss':Sto):Prop:=∀b e,¬E b->σ.var b=some e->ss'.var b=some e
def kp (E:Nat->Prop) (σ:Sto) (K:AS->Prop) (s:AS):Prop:=F8 E σ s.σ/\K s
def Qkv (P:Program) (fv:AV) (args:List AV) (s:AS) (dst:Option Tmp) (K:AS->Prop):Prop:=∃f bs v,fv=.fn f []/\DK args bs/\VK P f bs v/\K (s.put dst v)
def Qs3 (k:Option (TypeId × Nat × Nat)) (x y v:AV):Prop :=
 ∃e sz by_ xs ys,k=some (e,sz,by_)/\0 < sz/\0 < by_/\((x=.Yd/\xs=[])∨x=.sl true xs)/\(∀r∈xs,r.length=sz)/\((y=.Yd/\ys=[])∨∃c,y=.sl c ys)/\(∀r∈ys,r.length=sz)/\(xs.length+ys.length) * by_<=140737488355328/\v=.sl false (xs++ys)
def Qq6 (k:Option (TypeId × Nat × Nat)) (x y:AV) (s:AS) (dst:Option Tmp) (K:AS->Prop):Prop:=∃v,Qs3 k x y v/\K (s.put dst v)
def L9 (P : Program) (E : Nat -> Prop) (o : Oper) (s : AS) (K : AS -> Prop) : Prop :=
  match o.op with
  | .call { callee := .value f, args, .. } => Qkv P (aev s.T f) (args.toList.map (aev s.T)) s o.dst K
  | .call { callee := .builtin .append, args, argTypes } =>
    (match args.toList, argTypes.toList with
     | [x, y], [t, t2] => t = t2 /\ Qq6 (se P t) (aev s.T x) (aev s.T y) s o.dst K
     | _, _ => False)
  | op => C6 (vop P (S0 E s.σ) (aev s.T) op) s o.dst K
inductive Cl where
 | v | x | z
 deriving DecidableEq
def IE (P:Program) (E:Nat->Prop) (D:List (Option Tmp)) (c:Cl) (o:Oper) (s:AS) (K:AS->Prop):Prop :=
 BB (gw D s.T o.guard) (match c with | .v=>L9 P E o s K | .x=>aop P o s (kp E s.σ K) | .z=>aop P o s K) (K (s.put o.dst Jp))
def LY (P:Program) (E:Nat->Prop) (D:List (Option Tmp)):List (Cl × Oper)->(AS->Prop)->AS->Prop
 | [],K,s=>K s
 | (c,o) :: os,K,s=>IE P E D c o s (LY P E D os K)
section
variable {P:Program} {E:Nat->Prop} {D:List (Option Tmp)}
def Qam (P : Program) (E : Nat -> Prop) (s : AS) (o : Oper) (v : AV) : Prop :=
  match o.op with
  | .call { callee := .value f, args, .. } => ∃ g bs, aev s.T f = .fn g [] /\ DK (args.toList.map (aev s.T)) bs /\ VK P g bs v
  | .call { callee := .builtin .append, args, argTypes } =>
    (match args.toList, argTypes.toList with
     | [x, y], [t, t2] => t = t2 /\ Qs3 (se P t) (aev s.T x) (aev s.T y) v
     | _, _ => False)
  | op => vop P (S0 E s.σ) (aev s.T) op = some v
theorem B2 (o:Oper) (s:AS) (K:AS->Prop):L9 P E o s K↔∃v,Qam P E s o v/\K (s.put o.dst v):=by
 unfold L9 Qam;split
 ·constructor
  ·rintro ⟨f,bs,v,h1,h2,h3,h4⟩;exact ⟨v,⟨f,bs,h1,h2,h3⟩,h4⟩
  ·rintro ⟨v,⟨f,bs,h1,h2,h3⟩,h4⟩;exact ⟨f,bs,v,h1,h2,h3,h4⟩
 ·split
  ·constructor
   ·rintro ⟨h1,v,h2,h3⟩;exact ⟨v,⟨h1,h2⟩,h3⟩
   ·rintro ⟨v,⟨h1,h2⟩,h3⟩;exact ⟨h1,v,h2,h3⟩
  ·constructor
   ·exact fun h=>h.elim
   ·rintro ⟨_,h,_⟩;exact h
 ·unfold C6;constructor
  ·intro h;split at h
   ·rename_i v hv;exact ⟨v,hv,h⟩
   ·exact h.elim
  ·rintro ⟨v,hv,h⟩;rw [hv];exact h
theorem Qmh {T:Nat->AV} {d:Nat} {v:AV} {x:Operand} (h:x≠.tmp d):aev (upd T d v) x=aev T x:=by
 cases x with
 | tmp t=>simp only [aev,upd];rw [if_neg (fun e=>h (by rw [e]))]
 | _=>rfl
theorem FE {s:AS} {dst:Option Tmp} {v:AV} {x:Operand} (h:∀d,dst=some d->x≠.tmp d):aev (s.put dst v).T x=aev s.T x:=by
 cases dst with
 | none=>rfl
 | some d=>exact Qmh (h d rfl)
theorem CN {s:AS} {x y:Option Tmp} {v u:AV} (h:∀d,x=some d->y≠some d):(s.put x v).put y u=(s.put y u).put x v:=by
 cases x with
 | none=>rfl
 | some d =>
  cases y with
  | none=>rfl
  | some d' =>
   have hne:d≠d':=fun e=>h d rfl (by rw [e]);simp only [AS.put]
   congr 1
   funext i;simp only [upd]
   by_cases h1:i=d<;>by_cases h2:i=d'<;>simp_all
theorem Qj5 {σ ss':Sto} (h:F8 E σ ss') {p:AV} {cs:List AV} (hm:mem (S0 E σ) p=some cs):mem (S0 E ss') p=some cs:=by
 unfold mem S0 at *
 cases p<;>simp only at hm ⊢ <;> try exact hm
 rename_i b o
 by_cases hb:E b
 ·simp [hb] at hm
 ·simp only [hb,if_false] at hm ⊢
  cases he:σ.var b with
  | none=>simp [he] at hm
  | some e=>rw [h b e hb he];rw [he] at hm;exact hm
theorem Ph {σ:Sto} {ρ ρ':Operand->AV} {op:Op} (hρ:∀x∈op.operands.toList,ρ' x=ρ x):vop P σ ρ' op=vop P σ ρ op:=by
 cases op<;>simp only [vop]<;>simp only [Op.operands] at hρ
 case move x=>rw [hρ x (by simp)]
 case assign x=>rw [hρ x (by simp)]
 case pick c a b=>rw [hρ c (by simp),hρ a (by simp),hρ b (by simp)]
 case load t p=>rw [hρ p (by simp)]
 case nilCheck x=>rw [hρ x (by simp)]
 case fieldAddr t x f=>rw [hρ x (by simp)]
 case indexAddr t x i=>rw [hρ x (by simp),hρ i (by simp)]
 case index t x i=>rw [hρ x (by simp),hρ i (by simp)]
 case binOp op t x y t2=>rw [hρ x (by simp),hρ y (by simp)]
 case unOp op t x=>rw [hρ x (by simp)]
 case extract x i=>rw [hρ x (by simp)]
 case build t parts =>
  have:(parts.toList.map fun p=>(p.1,ρ' p.2))=parts.toList.map fun p=>(p.1,ρ p.2):=Q8 (fun p hp=>by rw [hρ p.2 (by simp;exact ⟨p.1,by simpa using hp⟩)]);rw [this]
 case buildSlice t len parts =>
  have:(parts.toList.map fun p=>(p.1,ρ' p.2))=parts.toList.map fun p=>(p.1,ρ p.2):=Q8 (fun p hp=>by rw [hρ p.2 (by simp;exact ⟨p.1,by simpa using hp⟩)]);rw [this]
 case slice t x lo hi mx =>
  have hl:lo.map ρ'=lo.map ρ:=by cases lo with | none=>rfl | some y=>simp only [Qu];rw [hρ y (by simp)]
  have hh:hi.map ρ'=hi.map ρ:=by cases hi with | none=>rfl | some y=>simp only [Qu];rw [hρ y (by simp)]
  have hm:mx.map ρ'=mx.map ρ:=by cases mx with | none=>rfl | some y=>simp only [Qu];rw [hρ y (by simp)]
  rw [hρ x (by simp),hl,hh,hm]
 case convert s d x=>rw [hρ x (by simp)]
 case makeFunc fn first caps =>
  have:caps.toList.map ρ'=caps.toList.map ρ:=Q8 (fun x hx=>hρ x (by simp;exact .inr (by simpa using hx)))
  cases fn<;>try rfl
  simp only [this]
 case call c =>
  obtain ⟨callee,args,argTypes⟩:=c
  cases callee<;>try rfl
  rename_i b;have ha:∀x∈args.toList,ρ' x=ρ x:=fun x hx=>hρ x (by simp [Call.operands];simpa using hx)
  cases b<;>try rfl
  case len =>
   obtain ⟨args⟩:=args;obtain ⟨argTypes⟩:=argTypes
   match args,argTypes with
   | [x],[t]=>show (if isS P t||(se P t).isSome then FG (isS P t) (ρ' x) else none)=_;rw [ha x (by simp)]
   | [],_=>rfl
   | _ :: _ :: _,_=>rfl
   | [_],[]=>rfl
   | [_],_ :: _ :: _=>rfl
  case max =>
   obtain ⟨args⟩:=args
   match args with
   | [x,y]=>show Qmi (ρ' x) (ρ' y)=_;rw [ha x (by simp),ha y (by simp)]
   | []=>rfl
   | [_]=>rfl
   | _ :: _ :: _ :: _=>rfl
theorem Qkw {σ ss':Sto} (h:F8 E σ ss') {ρ ρ':Operand->AV} {op:Op} {v:AV} (hρ:∀x∈op.operands.toList,ρ' x=ρ x) (hv:vop P (S0 E σ) ρ op=some v):vop P (S0 E ss') ρ' op=some v:=by
 rw [Ph hρ]
 cases op<;>simp only [vop] at hv ⊢ <;> try exact hv
 case makeFunc fn first caps=>cases fn<;>exact hv
 case load t p =>
  unfold Dq at hv ⊢;split at hv
  ·rename_i ag k hk
   cases hm:mem (S0 E σ) (ρ p) with
   | none=>simp [hm] at hv
   | some cs=>rw [Qj5 h hm];rw [hm] at hv;exact hv
  ·cases hv
 case call c =>
  obtain ⟨callee,args,argTypes⟩:=c
  cases callee<;>try exact hv
  rename_i b;cases b<;>exact hv
theorem MZ {s s':AS} (h:F8 E s.σ s'.σ) {o:Oper} {v:AV} (hρ:∀x∈o.op.operands.toList,aev s'.T x=aev s.T x) (hv:Qam P E s o v):Qam P E s' o v:=by
 unfold Qam at hv ⊢;split at hv
 ·rename_i f args tys heq;rw [heq] at hρ;simp only [Op.operands,Call.operands] at hρ;have ha:args.toList.map (aev s'.T)=args.toList.map (aev s.T):=Q8 (fun x hx=>hρ x (by simp;exact .inr (by simpa using hx)));rw [hρ f (by simp),ha];exact hv
 ·rename_i args tys heq;rw [heq] at hρ;simp only [Op.operands,Call.operands] at hρ;split at hv
  ·rename_i x y t t2 hargs htys;have hm:∀z∈args.toList,aev s'.T z=aev s.T z:=fun z hz=>hρ z (by simpa using hz);rw [hm x (by rw [hargs];simp),hm y (by rw [hargs];simp)];exact hv
  ·exact hv.elim
 ·exact Qkw h hρ hv
theorem Qbo {s:AS} {dst:Option Tmp} {v:AV} {g:Option (Nat × Bool)} (h:∀d,dst=some d->∀j w,g=some (j,w)->gd D j≠some d):gw D (s.put dst v).T g=gw D s.T g:=by
 cases g with
 | none=>rfl
 | some jw =>
  obtain ⟨j,w⟩:=jw;simp only [gw]
  cases hg:gd D j with
  | none=>rfl
  | some t =>
   cases dst with
   | none=>rfl
   | some d =>
    have hne:t≠d:=fun e=>h d rfl j w rfl (by rw [hg,e]);simp only [AS.put,upd,hne,if_false]
def apt (D : List (Option Tmp)) (x y : Oper) : Bool :=
  (match x.dst with
   | some d => !(y.op.operands.toList.any fun z => match z with | .tmp t => t == d | _ => false) && (match y.guard with | some (j, _) => gd D j != some d | none => true) && y.dst != some d
   | none => true) &&
  (match y.dst with
   | some d => !(x.op.operands.toList.any fun z => match z with | .tmp t => t == d | _ => false) && (match x.guard with | some (j, _) => gd D j != some d | none => true)
   | none => true)
theorem E3 {x y:Oper} (h:apt D x y=true) :
  (∀d,x.dst=some d->(∀z∈y.op.operands.toList,z≠.tmp d)/\(∀j w,y.guard=some (j,w)->gd D j≠some d)/\y.dst≠some d) /\
  (∀d,y.dst=some d->(∀z∈x.op.operands.toList,z≠.tmp d)/\(∀j w,x.guard=some (j,w)->gd D j≠some d)):=by
 unfold apt at h;rw [QG] at h
 have ops:∀(l:List Operand) (d:Tmp),(!(l.any fun z=>match z with | .tmp t=>t == d | _=>false))=true->∀z∈l,z≠.tmp d:=by
  intro l d hl z hz he;subst he;rw [Bool.not_eq_true',List.any_eq_false] at hl;exact hl _ hz (by simp)
 constructor
 ·intro d hd;have h1:=h.1;rw [hd] at h1;simp only [QG] at h1;refine ⟨ops _ d h1.1.1,fun j w hg=>?_,by simpa using h1.2⟩;have:=h1.1.2;rw [hg] at this;simpa using this
 ·intro d hd;have h1:=h.2;rw [hd] at h1;simp only [QG] at h1;refine ⟨ops _ d h1.1,fun j w hg=>?_⟩;have:=h1.2;rw [hg] at this;simpa using this
theorem Qfp {o:Oper} {s:AS} {K:AS->Prop} (h:aop P o s K):aop P o s (fun s'=>(∃ss' r,s'=AS.put ⟨s.T,ss'⟩ o.dst r)/\K s'):=by
 have hval:∀(ov:Option AV),C6 ov s o.dst K->C6 ov s o.dst (fun s'=>(∃ss' r,s'=AS.put ⟨s.T,ss'⟩ o.dst r)/\K s'):=by
  intro ov h;unfold C6 at h ⊢;split at h
  ·rename_i v;exact ⟨⟨s.σ,v,rfl⟩,h⟩
  ·exact h.elim
 have hall:∀(oc:Option (List AV)) (t:TypeId),Iz oc t s o.dst K->Iz oc t s o.dst (fun s'=>(∃ss' r,s'=AS.put ⟨s.T,ss'⟩ o.dst r)/\K s'):=by
  intro oc t h;unfold Iz at h ⊢;split at h
  ·exact fun b hb=>⟨⟨_,_,rfl⟩,h b hb⟩
  ·exact h.elim
 unfold aop at h ⊢;split at h
 ·exact hall _ _ h
 ·exact hall _ _ h
 ·unfold Af at h ⊢;split at h
  ·exact ⟨⟨_,_,rfl⟩,h⟩
  ·exact h.elim
 ·unfold RW at h ⊢;split at h
  ·obtain ⟨h1,h2,h3,h4,h5,z',h7,h6⟩:=h;exact ⟨h1,h2,h3,h4,h5,z',h7,fun b hb=>⟨⟨_,_,rfl⟩,h6 b hb⟩⟩
  ·exact h.elim
 ·unfold Nj at h ⊢;split at h
  ·exact h.mono (fun r ss' hk=>⟨⟨ss',r,rfl⟩,hk⟩)
  ·exact h.elim
 ·split at h
  ·refine ⟨h.1,?_⟩;have h2:=h.2;unfold JN at h2 ⊢;split at h2
   ·obtain ⟨xs,ys,a1,a2,a3,a4,a5,a6⟩:=h2;exact ⟨xs,ys,a1,a2,a3,a4,a5,fun v' ss' hp=>by obtain ⟨v2,ss2,hw,hk⟩:=a6 v' ss' hp;exact ⟨v2,ss2,hw,⟨ss2,v2,rfl⟩,hk⟩⟩
   ·exact h2.elim
  ·exact h.elim
 ·unfold aSl at h ⊢;split at h
  ·obtain ⟨m,e,he,hk⟩:=h;exact ⟨m,e,he,⟨_,_,rfl⟩,hk⟩
  ·exact ⟨⟨s.σ,_,rfl⟩,h⟩
  ·exact h.elim
 ·exact hval _ h
theorem BY {o:Oper} {s:AS} {K K':AS->Prop} (h:aop P o s K) (hk:∀s',K s'->K' s'):aop P o s K':=by
 unfold aop at h ⊢;split at h
 ·unfold Iz at h ⊢;split at h
  ·exact fun b hb=>hk _ (h b hb)
  ·exact h.elim
 ·unfold Iz at h ⊢;split at h
  ·exact fun b hb=>hk _ (h b hb)
  ·exact h.elim
 ·unfold Af at h ⊢;split at h
  ·exact hk _ h
  ·exact h.elim
 ·unfold RW at h ⊢;split at h
  ·obtain ⟨h1,h2,h3,h4,h5,z',h7,h6⟩:=h;exact ⟨h1,h2,h3,h4,h5,z',h7,fun b hb=>hk _ (h6 b hb)⟩
  ·exact h.elim
 ·unfold Nj at h ⊢;split at h
  ·exact h.mono (fun r ss' hr=>hk _ hr)
  ·exact h.elim
 ·split at h
  ·refine ⟨h.1,?_⟩;have h2:=h.2;unfold JN at h2 ⊢;split at h2
   ·obtain ⟨xs,ys,a1,a2,a3,a4,a5,a6⟩:=h2;exact ⟨xs,ys,a1,a2,a3,a4,a5,fun v' ss' hp=>by obtain ⟨v2,ss2,hw,h6⟩:=a6 v' ss' hp;exact ⟨v2,ss2,hw,hk _ h6⟩⟩
   ·exact h2.elim
  ·exact h.elim
 ·unfold aSl at h ⊢;split at h
  ·obtain ⟨m,e,he,h⟩:=h;exact ⟨m,e,he,hk _ h⟩
  ·exact hk _ h
  ·exact h.elim
 ·unfold C6 at h ⊢;split at h
  ·exact hk _ h
  ·exact h.elim
theorem Qfq {o:Oper} {s:AS} {dst:Option Tmp} {v:AV} {K:AS->Prop} (h1:∀d,dst=some d->∀z∈o.op.operands.toList,z≠.tmp d) (h2:∀d,dst=some d->o.dst≠some d) (h:aop P o (s.put dst v) K):aop P o s (fun s'=>K (s'.put dst v)):=by
 have hev:∀z∈o.op.operands.toList,aev (s.put dst v).T z=aev s.T z:=fun z hz=>FE (fun d hd=>h1 d hd z hz)
 have hput:∀(ss':Sto) (r:AV),AS.put ⟨(s.put dst v).T,ss'⟩ o.dst r=(AS.put ⟨s.T,ss'⟩ o.dst r).put dst v:=by
  intro ss' r
  have:(⟨(s.put dst v).T,ss'⟩:AS)=AS.put ⟨s.T,ss'⟩ dst v:=by cases dst<;>rfl
  rw [this];exact CN h2
 have hput':∀r:AV,(s.put dst v).put o.dst r=(s.put o.dst r).put dst v:=fun r=>CN h2;have hσ:=HV s dst v;unfold aop at h ⊢;split at h
 ·unfold Iz at h ⊢;split at h
  ·intro b hb;rw [hσ] at h;have:=h b hb;rw [hput] at this;exact this
  ·exact h.elim
 ·rename_i t x heq;rw [heq] at hev;rw [hev x (by simp [Op.operands])] at h;unfold Iz at h ⊢;split at h
  ·rename_i cs hcs;intro b hb;rw [hσ] at h;have:=h b hb;rw [hput] at this;exact this
  ·exact h.elim
 ·rename_i t p x heq;rw [heq] at hev;rw [hev x (by simp [Op.operands]),hev p (by simp [Op.operands]),hσ] at h;unfold Af at h ⊢;split at h
  ·rename_i ss' hs;rw [hput] at h;exact h
  ·exact h.elim
 ·rename_i t l c heq;rw [heq] at hev;rw [hev l (by simp [Op.operands]),hev c (by simp [Op.operands])] at h;unfold RW at h ⊢;split at h
  ·rename_i e sz by_ z k1 n k2 m q1 q2 q3 q4;obtain ⟨a1,a2,a3,a4,a5,z',a7,a6⟩:=h;refine ⟨a1,a2,a3,a4,a5,z',a7,fun b hb=>?_⟩;rw [hσ] at a6;have:=a6 b hb;rw [hput] at this;exact this
  ·exact h.elim
 ·rename_i f args tys heq;rw [heq] at hev;simp only [Op.operands,Call.operands] at hev;have ha:args.toList.map (aev (s.put dst v).T)=args.toList.map (aev s.T):=Q8 (fun x hx=>hev x (by simp;exact .inr (by simpa using hx)));rw [hev f (by simp),ha] at h;unfold Nj at h ⊢;split at h
  ·rename_i g caps hf;rw [hσ] at h;exact h.mono (fun r ss' hk=>by rw [hput] at hk;exact hk)
  ·exact h.elim
 ·rename_i args tys heq;rw [heq] at hev;simp only [Op.operands,Call.operands] at hev;have hm:∀z∈args.toList,aev (s.put dst v).T z=aev s.T z:=fun z hz=>hev z (by simpa using hz);split at h
  ·rename_i x y t t2 hargs htys;rw [hm x (by rw [hargs];simp),hm y (by rw [hargs];simp)] at h;refine ⟨h.1,?_⟩;have h2:=h.2;unfold JN at h2 ⊢;split at h2
   ·obtain ⟨xs,ys,a1,a2,a3,a4,a5,a6⟩:=h2;rw [hσ] at a3 a4 a6;exact ⟨xs,ys,a1,a2,a3,a4,a5,fun v' ss' hp=>by obtain ⟨v2,ss2,hw,this⟩:=a6 v' ss' hp;rw [hput] at this;exact ⟨v2,ss2,hw,this⟩⟩
   ·exact h2.elim
  ·exact h.elim
 ·rename_i t x lo hi mx heq
  have he:vop P (s.put dst v).σ (aev (s.put dst v).T) o.op=vop P s.σ (aev s.T) o.op:=by rw [hσ];exact Ph hev
  rw [heq] at he;rw [he] at h;unfold aSl at h ⊢;split at h
  ·obtain ⟨m,e,he',h⟩:=h;rw [hσ] at he' h;rw [hput] at h;exact ⟨m,e,he',h⟩
  ·rw [hput'] at h;exact h
  ·exact h.elim
 ·have he:vop P (s.put dst v).σ (aev (s.put dst v).T) o.op=vop P s.σ (aev s.T) o.op:=by rw [hσ];exact Ph hev
  rw [he] at h;unfold C6 at h ⊢;split at h
  ·rename_i r hr;rw [hput'] at h;exact h
  ·exact h.elim
theorem F8.refl (σ:Sto):F8 E σ σ:=fun _ _ _ h=>h
theorem EX {s:AS} {dst:Option Tmp} {v r:AV} {o:Oper} (h:∀d,dst=some d->∀z∈o.op.operands.toList,z≠.tmp d):Qam P E s o r↔Qam P E (s.put dst v) o r:=by
 have hs:=HV s dst v;constructor
 ·exact fun hv=>MZ (by rw [hs];exact F8.refl _) (fun z hz=>FE (fun d hd=>h d hd z hz)) hv
 ·exact fun hv=>MZ (by rw [hs];exact F8.refl _) (fun z hz=>(FE (fun d hd=>h d hd z hz)).symm) hv
theorem Qoc {l i:Oper} {s:AS} {K:AS->Prop} (ha:apt D l i=true) (h:IE P E D .v l s (fun s1=>IE P E D .v i s1 K)):IE P E D .v i s (fun s2=>IE P E D .v l s2 K):=by
 obtain ⟨ha1,ha2⟩:=E3 ha;have hpc:∀v u:AV,(s.put l.dst v).put i.dst u=(s.put i.dst u).put l.dst v:=fun v u=>CN (fun d hd=>(ha1 d hd).2.2);have gl:∀u:AV,gw D (s.put i.dst u).T l.guard=gw D s.T l.guard:=fun u=>Qbo (fun d hd=>(ha2 d hd).2);have gi:∀v:AV,gw D (s.put l.dst v).T i.guard=gw D s.T i.guard:=fun v=>Qbo (fun d hd=>(ha1 d hd).2.1);obtain ⟨t,hg,h1,h2⟩:=h;simp only [B2] at h1
 cases t with
 | true =>
  obtain ⟨v,hv,t',hg',k1,k2⟩:=h1 rfl;rw [gi] at hg';refine ⟨t',hg',fun ht'=>?_,fun ht'=>?_⟩
  ·have k1:=k1 ht';simp only [B2] at k1 ⊢;obtain ⟨u,hu,hK⟩:=k1;refine ⟨u,(EX (fun d hd=>(ha1 d hd).1)).2 hu,true,by rw [gl];exact hg,fun _=>?_,fun h=>by cases h⟩;simp only [B2];exact ⟨v,(EX (fun d hd=>(ha2 d hd).1)).1 hv,by rw [← hpc];exact hK⟩
  ·refine ⟨true,by rw [gl];exact hg,fun _=>?_,fun h=>by cases h⟩;simp only [B2];exact ⟨v,(EX (fun d hd=>(ha2 d hd).1)).1 hv,by rw [← hpc];exact k2 ht'⟩
 | false =>
  obtain ⟨t',hg',k1,k2⟩:=h2 rfl;rw [gi] at hg';refine ⟨t',hg',fun ht'=>?_,fun ht'=>?_⟩
  ·have k1:=k1 ht';simp only [B2] at k1 ⊢;obtain ⟨u,hu,hK⟩:=k1;exact ⟨u,(EX (fun d hd=>(ha1 d hd).1)).2 hu,false,by rw [gl];exact hg,(fun h=>by cases h),fun _=>by rw [← hpc];exact hK⟩
  ·exact ⟨false,by rw [gl];exact hg,(fun h=>by cases h),fun _=>by rw [← hpc];exact k2 ht'⟩
theorem Qod {l i:Oper} {s:AS} {K:AS->Prop} (ha:apt D l i=true) (h:IE P E D .v l s (fun s1=>IE P E D .x i s1 K)):IE P E D .x i s (fun s2=>IE P E D .v l s2 K):=by
 obtain ⟨ha1,ha2⟩:=E3 ha;have hpc:∀(s:AS) (v u:AV),(s.put l.dst v).put i.dst u=(s.put i.dst u).put l.dst v:=fun s v u=>CN (fun d hd=>(ha1 d hd).2.2);have gl:∀(ss':Sto) (u:AV),gw D (AS.put ⟨s.T,ss'⟩ i.dst u).T l.guard=gw D s.T l.guard:=fun ss' u=>Qbo (s:=⟨s.T,ss'⟩) (fun d hd=>(ha2 d hd).2);have gi:∀v:AV,gw D (s.put l.dst v).T i.guard=gw D s.T i.guard:=fun v=>Qbo (fun d hd=>(ha1 d hd).2.1);have hz2:∀(ss':Sto) (u:AV),∀z∈l.op.operands.toList,aev (AS.put ⟨s.T,ss'⟩ i.dst u).T z=aev s.T z:=fun ss' u z hz=>FE (s:=⟨s.T,ss'⟩) (fun d hd=>(ha2 d hd).1 z hz);have hd2:∀d,l.dst=some d->i.dst≠some d:=fun d hd=>(ha1 d hd).2.2;obtain ⟨t,hg,h1,h2⟩:=h
 cases t with
 | true =>
  have h1:=h1 rfl;simp only [B2] at h1;obtain ⟨v,hv,t',hg',k1,k2⟩:=h1;rw [gi] at hg';refine ⟨t',hg',fun ht'=>?_,fun ht'=>?_⟩
  ·have k:=Qfp (Qfq (fun d hd z hz=>(ha1 d hd).1 z hz) hd2 (k1 ht'));refine BY k ?_;rintro s' ⟨⟨ss',r,rfl⟩,hk,hK⟩;rw [HV,HV] at hk;refine ⟨by rw [HV] at hk ⊢;exact hk,true,by rw [gl];exact hg,fun _=>?_,fun h=>by cases h⟩;simp only [B2];exact ⟨v,MZ (by rw [HV] at hk ⊢;exact hk) (hz2 ss' r) hv,hK⟩
  ·refine ⟨true,by have:=gl s.σ Jp;rw [this];exact hg,fun _=>?_,fun h=>by cases h⟩;simp only [B2];exact ⟨v,(EX (fun d hd=>(ha2 d hd).1)).1 hv,by rw [← hpc];exact k2 ht'⟩
 | false =>
  obtain ⟨t',hg',k1,k2⟩:=h2 rfl;rw [gi] at hg';refine ⟨t',hg',fun ht'=>?_,fun ht'=>?_⟩
  ·have k:=Qfp (Qfq (fun d hd z hz=>(ha1 d hd).1 z hz) hd2 (k1 ht'));refine BY k ?_;rintro s' ⟨⟨ss',r,rfl⟩,hk,hK⟩;rw [HV,HV] at hk;exact ⟨by rw [HV] at hk ⊢;exact hk,false,by rw [gl];exact hg,(fun h=>by cases h),fun _=>hK⟩
  ·exact ⟨false,by have:=gl s.σ Jp;rw [this];exact hg,(fun h=>by cases h),fun _=>by rw [← hpc];exact k2 ht'⟩
end
end Go.Proofs.Shadow
namespace Go.Proofs.Shadow
open Go Go.RowKit
section
variable {P:Program} {E:Nat->Prop} {n:Nat} {ss0:Sto} {w0:World}
theorem Qdn {σ:Sto} {p:AV} {cs:List AV} (h:mem (S0 E σ) p=some cs):mem σ p=some cs:=by
 unfold mem S0 at *
 cases p<;>simp only at h ⊢ <;> try exact h
 ·rename_i b o
  by_cases hb:E b
  ·simp [hb] at h
  ·simpa [hb] using h
 ·simp at h
theorem Qeg {σ:Sto} {ρ:Operand->AV} {op:Op} {v:AV} (h:vop P (S0 E σ) ρ op=some v):vop P σ ρ op=some v:=by
 cases op<;>simp only [vop] at h ⊢ <;> try exact h
 case load t p =>
  unfold Dq at h ⊢;split at h
  ·rename_i ag k hk
   cases hm:mem (S0 E σ) (ρ p) with
   | none=>simp [hm] at h
   | some cs=>rw [Qdn hm];rw [hm] at h;exact h
  ·cases h
 case makeFunc fn first caps=>cases fn<;>exact h
 case call c =>
  obtain ⟨callee,args,argTypes⟩:=c
  cases callee<;>try exact h
  rename_i b;cases b<;>exact h
theorem Oc.weaken {K K':AS->Prop} {a:Act} {w:World} (h:Oc P n ss0 w0 K a w) (hk:∀s,K s->Sim s.σ w->∃s',K' s'/\Sub s'.σ s.σ/\∀a,Qen n s.σ w s.T a->Qen n s'.σ w s'.T a):Oc P n ss0 w0 K' a w:=by
 obtain ⟨s,hs,hR⟩:=h;obtain ⟨s',hs',hsub,hT⟩:=hk s hs hR.sim;exact ⟨s',hs',hR.sim.drop hsub.var hsub.own,hT a hR.tmps,hR.step.trans (Step.drop (fun b hb=>hsub.dead hb)),hR.tb.drop (fun b hb=>hsub.dead hb)⟩
theorem Qol {o:Oper} {args:Array Operand} {tys:Array TypeId} {s:AS} {a:Act} {w:World} {K:AS->Prop} {Q:Exit->Act->World->Prop} (heq:o.op=.call { callee:=.builtin .append,args,argTypes:=tys }) (hok:Uq P n o=true) (hR:Rel P n ss0 w0 s a w)
  {x y:Operand} {t t2:TypeId} (hargs:args.toList=[x,y]) (htys:tys.toList=[t,t2]) (ht:t=t2) (h:Qq6 (se P t) (aev s.T x) (aev s.T y) s o.dst K):o.wp P a w (Oc P n ss0 w0 K) Q:=by
 obtain ⟨v,⟨e,sz,by_,xs,ys,hk,hsz,hby,hx,hxr,hy,hyr,hb,rfl⟩,hK⟩:=h;have hown:RB s.σ e sz (aev s.T x) xs:=⟨hxr,hx.elim (fun h=>.inl h) (fun h=>.inr (.inl h))⟩;have hrd:RdL s.σ sz (aev s.T y) ys:=⟨hyr,hy.elim (fun h=>.inl h) (fun ⟨c,h⟩=>.inr (.inl ⟨c,h⟩))⟩
 have hnb:(aev s.T x).blk=none:=by rcases hx with ⟨h,_⟩ | h<;>rw [h]<;>rfl
 have hop:aop P o s (fun s'=>∃v' ss',G7 s.σ e sz (aev s.T x) ss' v' (xs++ys)/\s'=AS.put ⟨s.T,ss'⟩ o.dst v'):=by
  unfold aop;rw [heq];simp only [hargs,htys];refine ⟨ht,?_⟩;unfold JN;rw [hk];exact ⟨xs,ys,hsz,hby,hown,hrd,hb,fun v' ss' hp=>⟨v',ss',Wk1.refl _ _,v',ss',hp,rfl⟩⟩
 refine Oper.wp_mono (fun a' w' hp=>hp.weaken ?_) (Qa1 hok hR hop);rintro s' ⟨v',ss',hp,rfl⟩ hsim;rw [HV] at hsim;obtain ⟨ss2,f1,f2,f3,f4⟩:=hp.own.freeze
 have hsub:Sub s.σ ss2:=⟨fun b e hbe=>by rw [f2,hp.var];exact hbe,fun b e hbe=>by
  have hne:s.σ.own b≠none:=by rw [hbe];simp
  have hnv:some b≠v'.blk:=by
   rcases hp.blk with h1 | h1
   ·rw [h1,hnb];simp
   ·exact fun he=>hne (h1 b he.symm).2
  rw [f3 b hnv,hp.same b (by rw [hnb];simp) hne]
  exact hbe⟩
 have hsub2:Sub s.σ ss':=hsub.trans f1;refine ⟨s.put o.dst (.sl false (xs++ys)),hK,by rw [HV,HV];exact hsub2,fun a hT=>?_⟩;rw [HV] at hT ⊢;refine ⟨hT.1,hT.2.1,fun i=>?_⟩;have hi:=hT.2.2 i;have hst:Step ss' w' s.σ w':=Step.drop (fun b hb=>hsub2.dead hb)
 cases hd:o.dst with
 | none =>
  simp only [hd,AS.put] at hi ⊢;exact hi.step hst
 | some d =>
  simp only [hd,AS.put,upd] at hi ⊢
  by_cases hid:i=d
  ·rw [if_pos hid] at hi ⊢;have:=(f4 w' _ hsim hi).2.1;exact this.step (Step.drop (fun b hb=>hsub.dead hb))
  ·rw [if_neg hid] at hi ⊢;exact hi.step hst
theorem Qkt {c:Cl} {o:Oper} {s:AS} {a:Act} {w:World} {K:AS->Prop} {Q:Exit->Act->World->Prop} (hok:Uq P n o=true) (hR:Rel P n ss0 w0 s a w) (h:match c with | .v=>L9 P E o s K | .x=>aop P o s (kp E s.σ K) | .z=>aop P o s K):o.wp P a w (Oc P n ss0 w0 K) Q:=by
 cases c with
 | z=>exact Qa1 hok hR h
 | x=>exact Qa1 hok hR (BY h (fun s' hs=>hs.2))
 | v =>
  simp only at h;unfold L9 at h;split at h
  ·rename_i f args tys heq;obtain ⟨g,bs,v,hf,hw,hp,hK⟩:=h;refine Qf4 heq hok hR ?_;rw [hf];have:=RD (T:=s.T) (σ:=s.σ) (dst:=o.dst) hp hw hK;exact this
  ·rename_i args tys heq;split at h
   ·rename_i x y t t2 hargs htys;exact Qol heq hok hR hargs htys h.1 h.2
   ·exact h.elim
  ·refine Qey hok hR ?_;unfold C6 at h ⊢;split at h
   ·rename_i v hv;rw [Qeg hv];exact h
   ·exact h.elim
theorem N2 {ops:Array Oper} {Q:Exit->Act->World->Prop} {c:Cl} {o:Oper} {s:AS} {a:Act} {w:World} {K:AS->Prop} {K':Act->World->Prop} (hok:Uq P n o=true) (hR:Rel P n ss0 w0 s a w) (h:IE P E (ops.toList.map (·.dst)) c o s K) (hK:∀a w,Oc P n ss0 w0 K a w->K' a w) :
  if Region.wanted o (yielded ops a.tmps) then o.wp P a w K' Q∨(o.asks P a w/\LetsOut Q) else K' (a.put o.dst undef) w:=by
 obtain ⟨t,hg,h1,h2⟩:=h;rw [Qqa hR.tmps hg]
 cases t with
 | true=>simp only [if_true];exact .inl (Oper.wp_mono hK (Qkt hok hR (h1 rfl)))
 | false=>simp only [Qq,if_false];exact hK _ _ (BR (s':=⟨s.T,s.σ⟩) hR (Dz hok).2.1 rfl hR.sim (Step.refl _ _) LZ (h2 rfl))
theorem MY {D:List (Option Tmp)} {c:Cl} {o:Oper} {s:AS} {K K':AS->Prop} (h:IE P E D c o s K) (hk:∀s',K s'->K' s'):IE P E D c o s K':=by
 obtain ⟨t,hg,h1,h2⟩:=h;refine ⟨t,hg,fun ht=>?_,fun ht=>hk _ (h2 ht)⟩;have h1:=h1 ht
 cases c with
 | v=>simp only [B2] at h1 ⊢;obtain ⟨v,hv,hK⟩:=h1;exact ⟨v,hv,hk _ hK⟩
 | x=>exact BY h1 (fun s' hs=>⟨hs.1,hk _ hs.2⟩)
 | z=>exact BY h1 hk
def Ag (ops:Array Oper) (i:Nat):Oper:=ops.getD i default
def Oj (o:Oper):List Nat:=(o.after.toList.filter (Region.binds .any)).map (·.on)
def Qo0 (ops:Array Oper):List (List Nat):=ops.toList.foldl (fun acc o=>acc++[(Oj o++(Oj o).flatMap fun m=>acc.getD m []).eraseDups]) []
def Ld (ops:Array Oper) (B:List (List Nat)):Bool:=(List.range ops.size).all fun i=>(Oj (Ag ops i)).all (fun m=>decide (m < i))&&(B.getD i []).all fun l=>(Oj (Ag ops i)).contains l||(Oj (Ag ops i)).any fun m=>(B.getD m []).contains l
def okP:Cl->Cl->Bool
 | .v,.v=>true
 | .v,.x=>true
 | _,_=>false
def isApp (o:Oper):Bool:=o.guard.isNone&&(match o.op with | .call { callee:=.builtin .append,.. } => true | _=>false)
def isAll (P:Program) (o:Oper):Bool:=o.guard.isNone&&(match o.op with | .alloc t=>(tz P t).isSome | _=>false)
def Qni (o:Oper):Bool:=o.guard.isNone&&(match o.op with | .store .. => true | _=>false)
def Qr3 (o:Oper):Bool:=o.guard.isNone&&(match o.op with | .load .. => true | _=>false)
def Qrg (P:Program) (c d:Cl) (l i:Oper):Bool:=(match c,d with | .x,.x=>true | _,_=>false)&&(isApp l||isAll P l||Qni l||Qr3 l)&&isAll P i
def TQ (P:Program) (ops:Array Oper) (B:List (List Nat)) (p q:Cl × Nat):Bool :=
 !(Oj (Ag ops p.2)).contains q.2&&p.2 != q.2&&((B.getD q.2 []).contains p.2||((okP p.1 q.1||Qrg P p.1 q.1 (Ag ops p.2) (Ag ops q.2))&&apt (ops.toList.map (·.dst)) (Ag ops p.2) (Ag ops q.2)))
def AD (P:Program) (ops:Array Oper) (B:List (List Nat)):List (Cl × Nat)->Bool
 | []=>true
 | p :: ps=>ps.all (TQ P ops B p)&&AD P ops B ps
def Ti (P:Program) (ops:Array Oper) (L:List (Cl × Nat)):Bool :=
 Ld ops (Qo0 ops)&&AD P ops (Qo0 ops) L&&(List.range ops.size).all (fun i=>L.any fun p=>p.2 == i)&&L.all (fun p=>decide (p.2 < ops.size))&&(L.length == ops.size)
structure Inv (P:Program) (ops:Array Oper) (B:List (List Nat)) (R:List (Cl × Nat)) (listed:Array Bool):Prop where
 size:listed.size=ops.size
 mem:∀i,i < ops.size->(listed.getD i true=false↔∃c,(c,i)∈R)
 lt:∀p∈R,p.2 < ops.size
 closed:∀i,i < ops.size->listed.getD i true=true->∀m∈Oj (Ag ops i),listed.getD m false=true
 pairs:AD P ops B R=true
theorem Az {listed:Array Bool} {i:Nat} (h:i < listed.size) (a b:Bool):listed.getD i a=listed.getD i b:=by simp [h]
theorem RF {ops:Array Oper} {B:List (List Nat)} (hB:Ld ops B=true) {listed:Array Bool} (hsz:listed.size=ops.size) (hcl:∀i,i < ops.size->listed.getD i true=true->∀m∈Oj (Ag ops i),listed.getD m false=true) :
  ∀i,i < ops.size->listed.getD i true=true->∀l∈B.getD i [],listed.getD l false=true:=by
 intro i
 induction i using Nat.strongRecOn with
 | _ i ih =>
  intro hi hl l hlB;unfold Ld at hB;rw [Q6] at hB;have:=hB i (Kd.2 hi);rw [QG,Q6,Q6] at this;obtain ⟨h1,h2⟩:=this;have h3:=h2 l hlB;rw [Q9] at h3
  rcases h3 with h3 | h3
  ·exact hcl i hi hl l (by simpa using h3)
  ·rw [Ki] at h3;obtain ⟨m,hm,hml⟩:=h3
   have hmi:m < i:=by simpa using h1 m hm
   exact ih m hmi (by omega) (by rw [Az (by omega) true false];exact hcl i hi hl m hm) l (by simpa using hml)
theorem Ms {ops:Array Oper} {listed:Array Bool} {i:Nat} (h:i∈Region.ready .any ops listed):i < ops.size/\listed.getD i true=false/\∀m∈Oj (Ag ops i),listed.getD m false=true:=by
 unfold Region.ready at h;obtain ⟨h1,h2⟩:=Kg.1 h
 have hi:i < ops.size:=by simpa using h1
 rw [QG] at h2;refine ⟨hi,by simpa using h2.1,fun m hm=>?_⟩;have h3:=h2.2
 have hg:ops[i]?=some ops[i]:=by simp [hi]
 rw [hg] at h3;simp only [Qu,Q3] at h3
 have ha:Ag ops i=ops[i]:=by simp [Ag,hi]
 rw [ha] at hm;unfold Oj at hm;obtain ⟨e,he,rfl⟩:=List.mem_map.1 hm;obtain ⟨he1,he2⟩:=Kg.1 he;rw [Ke] at h3;have:=h3 e (by simpa using he1);rw [he2] at this;simpa using this
theorem Qb4 {ops:Array Oper} {listed:Array Bool} {i:Nat} (hi:i < ops.size) (hl:listed.getD i true=false) (h:∀m∈Oj (Ag ops i),listed.getD m false=true):i∈Region.ready .any ops listed:=by
 unfold Region.ready;refine Kg.2 ⟨by simpa using hi,?_⟩
 have hg:ops[i]?=some ops[i]:=by simp [hi]
 have ha:Ag ops i=ops[i]:=by simp [Ag,hi]
 rw [hl,hg];simp only [Bool.not_false,Qu,Q3,Bool.true_and];rw [Ke];intro e he
 by_cases hb:Region.binds .any e=true
 ·have:=h e.on (by rw [ha];exact List.mem_map.2 ⟨e,Kg.2 ⟨by simpa using he,hb⟩,rfl⟩);rw [this]
  simp
 ·simp [hb]
def OM (P:Program) (E:Nat->Prop) (ops:Array Oper) (R:List (Cl × Nat)) (K:AS->Prop):AS->Prop:=LY P E (ops.toList.map (·.dst)) (R.map fun p=>(p.1,Ag ops p.2)) K
theorem DJ {D:List (Option Tmp)} : ∀(L:List (Cl × Oper)) {K K':AS->Prop} {s:AS},LY P E D L K s->(∀s',K s'->K' s')->LY P E D L K' s
 | [],_,_,_,h,hk=>hk _ h
 | (c,o) :: L,_,_,_,h,hk=>MY h (fun s' hs=>DJ L hs hk)
theorem B9 (σ:Sto) (b b':Nat) (e:Ent):(σ.YG b e).dead b'↔b'≠b/\σ.dead b':=by
 simp only [Sto.dead,Sto.YG];constructor
 ·rintro ⟨h1,h2⟩;split at h1
  ·cases h1
  ·rename_i h;exact ⟨h,h1,h2⟩
 ·rintro ⟨h,h1,h2⟩;exact ⟨by rw [if_neg h];exact h1,h2⟩
theorem Qoe {D:List (Option Tmp)} {l i:Oper} {s:AS} {K:AS->Prop} (ha:apt D l i=true) (hl:isApp l=true) (hi:isAll P i=true) (h:IE P E D .x l s (fun s1=>IE P E D .x i s1 K)):IE P E D .x i s (fun s2=>IE P E D .x l s2 K):=by
 obtain ⟨ha1,ha2⟩:=E3 ha;obtain ⟨ldst,lop,lty,lpos,laf,lg⟩:=l;obtain ⟨idst,iop,ity,ipos,iaf,ig⟩:=i;simp only [isApp,isAll,QG,Q7] at hl hi;obtain ⟨rfl,hl⟩:=hl;obtain ⟨rfl,hi⟩:=hi
 have hiop:∃t,iop=.alloc t/\(tz P t).isSome=true:=by
  revert hi;split
  ·exact fun h=>⟨_,rfl,h⟩
  ·intro h;cases h
 have hlop:∃args tys,lop=.call { callee:=.builtin .append,args:=args,argTypes:=tys } := by
  revert hl;split
  ·exact fun _=>⟨_,_,rfl⟩
  ·intro h;cases h
 obtain ⟨t,rfl,htz⟩:=hiop;obtain ⟨cs,hcs⟩:=Qy.1 htz;obtain ⟨args,tys,rfl⟩:=hlop;simp only [IE,gw,BB,Option.some.injEq,exists_eq_left',forall_const,true_implies,Kc,false_implies,and_true] at h ⊢
 have hcall:∀(K:AS->Prop) (s:AS),aop P ⟨ldst,.call { callee:=.builtin .append,args:=args,argTypes:=tys },lty,lpos,laf,none⟩ s K↔∃x y t',args.toList=[x,y]/\tys.toList=[t',t']/\JN (se P t') (aev s.T x) (aev s.T y) s ldst K:=by
  intro K s;simp only [aop];split
  ·rename_i x y t1 t2 h1 h2;constructor
   ·rintro ⟨rfl,h⟩;exact ⟨x,y,t1,h1,h2,h⟩
   ·rintro ⟨x',y',t',h3,h4,h5⟩;rw [h1] at h3;rw [h2] at h4;simp only [List.cons.injEq,and_true] at h3 h4;obtain ⟨rfl,rfl⟩:=h3;obtain ⟨rfl,rfl⟩:=h4;exact ⟨rfl,h5⟩
  ·rename_i hno;constructor
   ·exact fun h=>h.elim
   ·rintro ⟨x',y',t',h3,h4,_⟩;exact (hno x' y' t' t' h3 h4).elim
 rw [hcall] at h;obtain ⟨x,y,t',h1,h2,h3⟩:=h
 have hev:∀(ss':Sto) (u:AV) (z:Operand),z∈[x,y]->aev (AS.put ⟨s.T,ss'⟩ idst u).T z=aev s.T z:=fun ss' u z hz=>FE (s:=⟨s.T,ss'⟩) (fun d hd=>(ha2 d hd).1 z (by
  show z∈(Op.operands _).toList
  have:z∈args.toList:=by rw [h1];exact hz
  simpa [Op.operands,Call.operands] using this))
 unfold JN at h3
 cases hse:se P t' with
 | none=>rw [hse] at h3;exact h3.elim
 | some k =>
 obtain ⟨e,sz,by_⟩:=k;rw [hse] at h3;obtain ⟨xs,ys,g1,g2,g3,g4,g5,g6⟩:=h3;show Iz (tz P t) t s idst _;rw [hcs];intro b hb;refine ⟨fun b' e' _ he'=>?_,?_⟩
 ·rw [HV];simp only [Sto.YG];rw [if_neg (fun hh=>by subst hh;rw [hb.1] at he';cases he')];exact he'
 show aop P _ _ _;rw [hcall];refine ⟨x,y,t',h1,h2,?_⟩;rw [hev _ _ x (by simp),hev _ _ y (by simp),hse];refine ⟨xs,ys,g1,g2,?_,?_,g5,fun v' ss2 hp=>?_⟩
 ·rw [HV];exact g3
 ·rw [HV];exact g4
 rw [HV] at hp;have hv2:ss2.var=(ss2.var):=rfl;have hpv:=hp.var;have hdead:∀b',(s.σ.YG b ⟨t,cs.length,cs⟩).dead b'->s.σ.dead b':=fun b' hd=>((B9 _ _ _ _).1 hd).2;have hp':G7 s.σ e sz (aev s.T x) ⟨s.σ.var,ss2.own⟩ v' (xs++ys):=⟨rfl,hp.own,hp.same,hp.fresh,hp.blk.imp id (fun h b' hb'=>hdead b' (h b' hb')),hp.cap⟩
 have hbo:ss2.own b=none:=hp.fresh b hb.2 (fun hh=>by
  rcases hp.blk with h4 | h4
  ·rw [h4] at hh
   rcases g3.2 with ⟨h5,_⟩ | h5 | ⟨b',cap,h5,h6⟩
   ·rw [h5] at hh;cases hh
   ·rw [h5] at hh;cases hh
   ·rw [h5] at hh;simp only [AV.blk,Option.some.injEq] at hh;subst hh;rw [hb.2] at h6;cases h6
  ·exact ((B9 _ _ _ _).1 (h4 b hh.symm)).1 rfl)
 obtain ⟨v3,ss3,hw,_,hK⟩:=g6 v' _ hp';have hK2:Iz (tz P t) t (AS.put ⟨s.T,ss3⟩ ldst v3) idst _:=hK;rw [hcs] at hK2;have hbd:(⟨s.σ.var,ss2.own⟩:Sto).dead b:=⟨hb.1,hbo⟩;have hK3:=hK2 b (by rw [HV];exact hw.dead b hbd)
 have hσ:(⟨s.σ.var,ss2.own⟩:Sto).YG b ⟨t,cs.length,cs⟩=ss2:=by
  cases ss2;simp only [Sto.YG] at hpv ⊢;rw [hpv]
 have hv3:(ss3.YG b ⟨t,cs.length,cs⟩).var=ss2.var:=by
  rw [← hσ];simp only [Sto.YG];rw [hw.var]
 refine ⟨v3,ss3.YG b ⟨t,cs.length,cs⟩,⟨?_,hv3,fun b' hd=>?_,fun ρ hd=>?_⟩,fun b' e' _ he'=>?_,?_⟩
 ·have:=hw.ext (fun i=>if i=b then some ⟨t,cs.length,cs⟩ else none) (fun b' hb'=>by
   by_cases h9:b'=b
   ·subst h9;exact hbd
   ·simp [h9] at hb')
  have e1:∀σ:Sto,σ.ext (fun i=>if i=b then some ⟨t,cs.length,cs⟩ else none)=σ.YG b ⟨t,cs.length,cs⟩:=fun σ=>by
   simp only [Sto.ext,Sto.YG];congr 1;funext i;split<;>simp
  rw [e1,e1,hσ] at this;exact this
 ·rw [← hσ] at hd;have:=(B9 _ _ _ _).1 hd;exact (B9 _ _ _ _).2 ⟨this.1,hw.dead _ this.2⟩
 ·have:=hw.ext (fun i=>(ρ i).or (if i=b then some ⟨t,cs.length,cs⟩ else none)) (fun b' hb'=>by
   by_cases h9:b'=b
   ·subst h9;exact hbd
   ·have h10:ρ b'≠none:=by simpa [h9] using hb'
    have:=hd b' h10;rw [← hσ] at this
    exact ((B9 _ _ _ _).1 this).2)
  rw [← Sto.Qgu,← Sto.Qgu,hσ] at this;exact this
 ·rw [HV] at he' ⊢;rw [hv3,hpv];exact he'
 ·have h7:=hK3.2;rw [HV] at h7
  have h8:AS.put ⟨(AS.put ⟨s.T,ss3⟩ ldst v3).T,ss3.YG b ⟨t,cs.length,cs⟩⟩ idst (.ptr b 0)=AS.put ⟨(AS.put ⟨s.T,s.σ.YG b ⟨t,cs.length,cs⟩⟩ idst (.ptr b 0)).T,ss3.YG b ⟨t,cs.length,cs⟩⟩ ldst v3:=by
   have:=CN (s:=⟨s.T,ss3.YG b ⟨t,cs.length,cs⟩⟩) (x:=ldst) (y:=idst) (v:=v3) (u:=.ptr b 0) (fun d hd=>(ha1 d hd).2.2);cases ldst<;>cases idst<;>exact this
  rw [← h8];exact h7
theorem Qn9 {D:List (Option Tmp)} {l i:Oper} {s:AS} {K:AS->Prop} (ha:apt D l i=true) (hl:isAll P l=true) (hi:isAll P i=true) (h:IE P E D .x l s (fun s1=>IE P E D .x i s1 K)):IE P E D .x i s (fun s2=>IE P E D .x l s2 K):=by
 obtain ⟨ha1,ha2⟩:=E3 ha;obtain ⟨ldst,lop,lty,lpos,laf,lg⟩:=l;obtain ⟨idst,iop,ity,ipos,iaf,ig⟩:=i;simp only [isAll,QG,Q7] at hl hi;obtain ⟨rfl,hl⟩:=hl;obtain ⟨rfl,hi⟩:=hi
 have hiop:∃t,iop=.alloc t/\(tz P t).isSome=true:=by
  revert hi;split
  ·exact fun h=>⟨_,rfl,h⟩
  ·intro h;cases h
 have hlop:∃t,lop=.alloc t/\(tz P t).isSome=true:=by
  revert hl;split
  ·exact fun h=>⟨_,rfl,h⟩
  ·intro h;cases h
 obtain ⟨t,rfl,htz⟩:=hiop;obtain ⟨cs,hcs⟩:=Qy.1 htz;obtain ⟨t',rfl,htz'⟩:=hlop;obtain ⟨cs',hcs'⟩:=Qy.1 htz';simp only [IE,gw,BB,Option.some.injEq,exists_eq_left',forall_const,true_implies,Kc,false_implies,and_true] at h ⊢;have h1:Iz (tz P t') t' s ldst _:=h;rw [hcs'] at h1;show Iz (tz P t) t s idst _;rw [hcs];intro b hb
 have hkeep:∀(σ:Sto) (b:Nat) (e:Ent),σ.var b=none->F8 E σ (σ.YG b e):=fun σ b e hb b' e' _ he=>by
  simp only [Sto.YG];rw [if_neg (fun hh=>by subst hh;rw [hb] at he;cases he)];exact he
 refine ⟨by rw [HV];exact hkeep _ _ _ hb.1,?_⟩;show Iz (tz P t') t' _ ldst _;rw [hcs'];intro b' hb';rw [HV] at hb';obtain ⟨hne,hd'⟩:=(B9 _ _ _ _).1 hb';refine ⟨by rw [HV,HV];exact hkeep _ _ _ hb'.1,?_⟩;obtain ⟨_,h2⟩:=h1 b' hd';have h3:Iz (tz P t) t (AS.put ⟨s.T,s.σ.YG b' ⟨t',cs'.length,cs'⟩⟩ ldst (.ptr b' 0)) idst _:=h2;rw [hcs] at h3;obtain ⟨_,h4⟩:=h3 b (by rw [HV];exact (B9 _ _ _ _).2 ⟨fun hh=>hne hh.symm,hb⟩)
 have hcomm:(s.σ.YG b' ⟨t',cs'.length,cs'⟩).YG b ⟨t,cs.length,cs⟩=(s.σ.YG b ⟨t,cs.length,cs⟩).YG b' ⟨t',cs'.length,cs'⟩:=by
  simp only [Sto.YG]
  congr 1
  funext x
  by_cases hx:x=b
  ·subst hx;simp [Ne.symm hne]
  ·simp [hx]
 rw [HV] at h4 ⊢;rw [hcomm] at h4;have:=CN (s:=⟨s.T,(s.σ.YG b ⟨t,cs.length,cs⟩).YG b' ⟨t',cs'.length,cs'⟩⟩) (x:=ldst) (y:=idst) (v:=.ptr b' 0) (u:=.ptr b 0) (fun d hd=>(ha1 d hd).2.2)
 have h8:AS.put ⟨(AS.put ⟨s.T,s.σ.YG b' ⟨t',cs'.length,cs'⟩⟩ ldst (.ptr b' 0)).T,(s.σ.YG b ⟨t,cs.length,cs⟩).YG b' ⟨t',cs'.length,cs'⟩⟩ idst (.ptr b 0)=AS.put ⟨(AS.put ⟨s.T,s.σ.YG b ⟨t,cs.length,cs⟩⟩ idst (.ptr b 0)).T,(s.σ.YG b ⟨t,cs.length,cs⟩).YG b' ⟨t',cs'.length,cs'⟩⟩ ldst (.ptr b' 0):=by
  cases ldst<;>cases idst<;>exact this
 rw [← h8];exact h4
theorem Qob {D:List (Option Tmp)} {l i:Oper} {s:AS} {K:AS->Prop} (ha:apt D l i=true) (hl:Qni l=true) (hi:isAll P i=true) (h:IE P E D .x l s (fun s1=>IE P E D .x i s1 K)):IE P E D .x i s (fun s2=>IE P E D .x l s2 K):=by
 obtain ⟨ha1,ha2⟩:=E3 ha;obtain ⟨ldst,lop,lty,lpos,laf,lg⟩:=l;obtain ⟨idst,iop,ity,ipos,iaf,ig⟩:=i;simp only [Qni,isAll,QG,Q7] at hl hi;obtain ⟨rfl,hl⟩:=hl;obtain ⟨rfl,hi⟩:=hi
 have hiop:∃t,iop=.alloc t/\(tz P t).isSome=true:=by
  revert hi;split
  ·exact fun h=>⟨_,rfl,h⟩
  ·intro h;cases h
 have hlop:∃t p x,lop=.store t p x:=by
  revert hl;split
  ·exact fun _=>⟨_,_,_,rfl⟩
  ·intro h;cases h
 obtain ⟨t,rfl,htz⟩:=hiop;obtain ⟨cs,hcs⟩:=Qy.1 htz;obtain ⟨t',p,x,rfl⟩:=hlop;simp only [IE,gw,BB,Option.some.injEq,exists_eq_left',forall_const,true_implies,Kc,false_implies,and_true] at h ⊢;have h1:Af (JO (tk P t') s.σ (aev s.T p) (aev s.T x)) s ldst _:=h;show Iz (tz P t) t s idst _;rw [hcs];intro b hb;refine ⟨fun b' e' _ he'=>?_,?_⟩
 ·rw [HV];simp only [Sto.YG];rw [if_neg (fun hh=>by subst hh;rw [hb.1] at he';cases he')];exact he'
 show Af (JO (tk P t') (AS.put _ idst _).σ (aev (AS.put _ idst _).T p) (aev (AS.put _ idst _).T x)) _ ldst _;have hop:∀z,z∈(Op.operands (Op.store t' p x)).toList->aev (AS.put ⟨s.T,s.σ.YG b ⟨t,cs.length,cs⟩⟩ idst (.ptr b 0)).T z=aev s.T z:=fun z hz=>FE (s:=⟨s.T,s.σ.YG b ⟨t,cs.length,cs⟩⟩) (fun d hd=>(ha2 d hd).1 z hz);rw [hop p (by simp [Op.operands]),hop x (by simp [Op.operands]),HV]
 cases hst:JO (tk P t') s.σ (aev s.T p) (aev s.T x) with
 | none=>rw [hst] at h1;exact h1.elim
 | some ss1 =>
 rw [hst] at h1
 have key:ss1.dead b/\JO (tk P t') (s.σ.YG b ⟨t,cs.length,cs⟩) (aev s.T p) (aev s.T x)=some (ss1.YG b ⟨t,cs.length,cs⟩):=by
  revert hst;unfold JO
  cases hk:tk P t' with
  | none=>intro h;cases h
  | some k =>
  cases hv:Vv (aev s.T x) with
  | none=>intro h;cases h
  | some vs =>
  simp only
  split
  ·rename_i hlen;cases hp:aev s.T p<;>simp only [reduceCtorEq,false_implies]
   ·rename_i b0 o
    cases hvr:s.σ.var b0 with
    | none=>simp
    | some e0 =>
     have hne:b0≠b:=fun hh=>by subst hh;rw [hb.1] at hvr;cases hvr
     simp only [Qf,Sto.YG,if_neg hne,hvr];split
     ·intro hh
      injection hh with hh
      subst hh;refine ⟨⟨by simp only;rw [if_neg (Ne.symm hne)];exact hb.1,hb.2⟩,?_⟩
      congr 2
      funext z
      by_cases hz:z=b
      ·subst hz;simp [Ne.symm hne]
      ·simp [hz]
     ·intro hh;cases hh
   ·rename_i b0 o
    cases hvr:s.σ.own b0 with
    | none=>simp
    | some e0 =>
     have hne:b0≠b:=fun hh=>by subst hh;rw [hb.2] at hvr;cases hvr
     simp only [Qf,Sto.YG,Sto.Vj,hvr];split
     ·intro hh
      injection hh with hh
      subst hh;exact ⟨⟨hb.1,by simp only;rw [if_neg (Ne.symm hne)];exact hb.2⟩,rfl⟩
     ·intro hh;cases hh
  ·intro h;cases h
 rw [key.2];obtain ⟨hk1,h2⟩:=h1;rw [HV] at hk1;have h3:Iz (tz P t) t (AS.put ⟨s.T,ss1⟩ ldst Jp) idst _:=h2;rw [hcs] at h3;obtain ⟨_,h4⟩:=h3 b (by rw [HV];exact key.1);refine ⟨fun b' e' hE he'=>?_,?_⟩
 ·rw [HV];simp only [Sto.YG] at he' ⊢;split at he'
  ·rename_i hbb;rw [if_pos hbb];exact he'
  ·rename_i hbb;rw [if_neg hbb];exact hk1 b' e' hE he'
 ·rw [HV] at h4;have:=CN (s:=⟨s.T,ss1.YG b ⟨t,cs.length,cs⟩⟩) (x:=ldst) (y:=idst) (v:=Jp) (u:=.ptr b 0) (fun d hd=>(ha1 d hd).2.2)
  have h8:AS.put ⟨(AS.put ⟨s.T,ss1⟩ ldst Jp).T,ss1.YG b ⟨t,cs.length,cs⟩⟩ idst (.ptr b 0)=AS.put ⟨(AS.put ⟨s.T,s.σ.YG b ⟨t,cs.length,cs⟩⟩ idst (.ptr b 0)).T,ss1.YG b ⟨t,cs.length,cs⟩⟩ ldst Jp:=by
   cases ldst<;>cases idst<;>exact this
  rw [← h8];exact h4
theorem Qnr {σ:Sto} {p:AV} {cs:List AV} {b:Nat} {e:Ent} (hb:σ.dead b) (h:mem σ p=some cs):mem (σ.YG b e) p=some cs:=by
 unfold mem at h ⊢
 cases p<;>simp only [Sto.YG] at h ⊢ <;> try exact h
 rename_i b0 o
 by_cases hb0:b0=b
 ·subst hb0;rw [hb.1] at h;simp at h
 ·rw [if_neg hb0];exact h
theorem Qoa {D:List (Option Tmp)} {l i:Oper} {s:AS} {K:AS->Prop} (ha:apt D l i=true) (hl:Qr3 l=true) (hi:isAll P i=true) (h:IE P E D .x l s (fun s1=>IE P E D .x i s1 K)):IE P E D .x i s (fun s2=>IE P E D .x l s2 K):=by
 obtain ⟨ha1,ha2⟩:=E3 ha;obtain ⟨ldst,lop,lty,lpos,laf,lg⟩:=l;obtain ⟨idst,iop,ity,ipos,iaf,ig⟩:=i;simp only [Qr3,isAll,QG,Q7] at hl hi;obtain ⟨rfl,hl⟩:=hl;obtain ⟨rfl,hi⟩:=hi
 have hiop:∃t,iop=.alloc t/\(tz P t).isSome=true:=by
  revert hi;split
  ·exact fun h=>⟨_,rfl,h⟩
  ·intro h;cases h
 have hlop:∃t p,lop=.load t p:=by
  revert hl;split
  ·exact fun _=>⟨_,_,rfl⟩
  ·intro h;cases h
 obtain ⟨t,rfl,htz⟩:=hiop;obtain ⟨cs,hcs⟩:=Qy.1 htz;obtain ⟨t',p,rfl⟩:=hlop;simp only [IE,gw,BB,Option.some.injEq,exists_eq_left',forall_const,true_implies,Kc,false_implies,and_true] at h ⊢;have h1:C6 (Dq s.σ (tk P t') (aev s.T p)) s ldst _:=h;show Iz (tz P t) t s idst _;rw [hcs];intro b hb
 have hkeep:∀(σ:Sto) (e:Ent),σ.var b=none->F8 E σ (σ.YG b e):=fun σ e hb b' e' _ he=>by
  simp only [Sto.YG];rw [if_neg (fun hh=>by subst hh;rw [hb] at he;cases he)];exact he
 refine ⟨by rw [HV];exact hkeep _ _ hb.1,?_⟩;show C6 (Dq (AS.put _ idst _).σ (tk P t') (aev (AS.put _ idst _).T p)) _ ldst _;have hop:aev (AS.put ⟨s.T,s.σ.YG b ⟨t,cs.length,cs⟩⟩ idst (.ptr b 0)).T p=aev s.T p:=FE (s:=⟨s.T,s.σ.YG b ⟨t,cs.length,cs⟩⟩) (fun d hd=>(ha2 d hd).1 p (by simp [Op.operands]));rw [hop,HV]
 cases hld:Dq s.σ (tk P t') (aev s.T p) with
 | none=>rw [hld] at h1;exact h1.elim
 | some v =>
 rw [hld] at h1
 have key:Dq (s.σ.YG b ⟨t,cs.length,cs⟩) (tk P t') (aev s.T p)=some v:=by
  revert hld;unfold Dq;split
  ·cases hm:mem s.σ (aev s.T p) with
   | none=>intro h;simp at h
   | some cs'=>rw [Qnr hb hm];exact id
  ·intro h;cases h
 rw [key];obtain ⟨_,h2⟩:=h1;have h3:Iz (tz P t) t (AS.put s ldst v) idst _:=h2;rw [hcs] at h3;obtain ⟨_,h4⟩:=h3 b (by rw [HV];exact hb);refine ⟨fun b' e' _ he'=>by simp only [HV] at he' ⊢;exact he',?_⟩;rw [HV] at h4;have:=CN (s:=⟨s.T,s.σ.YG b ⟨t,cs.length,cs⟩⟩) (x:=ldst) (y:=idst) (v:=v) (u:=.ptr b 0) (fun d hd=>(ha1 d hd).2.2)
 have h8:AS.put ⟨(AS.put s ldst v).T,s.σ.YG b ⟨t,cs.length,cs⟩⟩ idst (.ptr b 0)=AS.put (AS.put ⟨s.T,s.σ.YG b ⟨t,cs.length,cs⟩⟩ idst (.ptr b 0)) ldst v:=by
  cases ldst<;>cases idst<;>exact this
 rw [← h8];exact h4
theorem EC {ops:Array Oper} {K:AS->Prop} {c:Cl} {i:Nat} : ∀(R1 R2:List (Cl × Nat)) (s:AS),(∀p∈R1,(okP p.1 c||Qrg P p.1 c (Ag ops p.2) (Ag ops i))=true/\apt (ops.toList.map (·.dst)) (Ag ops p.2) (Ag ops i)=true)->OM P E ops (R1++(c,i) :: R2) K s ->
  IE P E (ops.toList.map (·.dst)) c (Ag ops i) s (OM P E ops (R1++R2) K)
 | [],R2,s,_,h=>h
 | (c',l) :: R1,R2,s,hok,h=>by
  obtain ⟨h1,h2⟩:=hok (c',l) (by simp);have h3:IE P E (ops.toList.map (·.dst)) c' (Ag ops l) s (fun s1=>IE P E (ops.toList.map (·.dst)) c (Ag ops i) s1 (OM P E ops (R1++R2) K)):=MY h (fun s1 hs1=>EC R1 R2 s1 (fun p hp=>hok p (by simp [hp])) hs1)
  cases c'<;>cases c<;>simp only [okP,Qrg,Bool.false_or,Bool.true_or,Bool.false_and,Bool.true_and] at h1<;>try (cases h1;done)
  ·exact Qoc h2 h3
  ·exact Qod h2 h3
  ·rw [QG,Q9,Q9,Q9] at h1
   rcases h1.1 with ((h4 | h4) | h4) | h4
   ·exact Qoe h2 h4 h1.2 h3
   ·exact Qn9 h2 h4 h1.2 h3
   ·exact Qob h2 h4 h1.2 h3
   ·exact Qoa h2 h4 h1.2 h3
theorem HD {ops:Array Oper} {B:List (List Nat)} {q:Cl × Nat} : ∀(R1 R2:List (Cl × Nat)),AD P ops B (R1++q :: R2)=true->AD P ops B (R1++R2)=true/\(∀p∈R1,TQ P ops B p q=true)/\∀p∈R2,TQ P ops B q p=true
 | [],R2,h=>by
  simp only [List.nil_append,AD,QG,Q6] at h;exact ⟨h.2,by simp,h.1⟩
 | p :: R1,R2,h=>by
  simp only [Kh,AD,QG,Q6] at h;obtain ⟨h1,h2⟩:=h;obtain ⟨k1,k2,k3⟩:=HD R1 R2 h2;refine ⟨?_,fun p' hp'=>?_,k3⟩
  ·simp only [Kh,AD,QG,Q6]
   exact ⟨fun x hx=>h1 x (by
    rcases QR.1 hx with hx | hx
    ·exact Kb _ hx
    ·exact Ka _ (Kf _ hx)),k1⟩
  ·rcases Kj.1 hp' with rfl | hp'
   ·exact h1 q (by simp)
   ·exact k2 p' hp'
theorem Vf {ops:Array Oper} {B:List (List Nat)} {p q:Cl × Nat} (h:TQ P ops B p q=true):q.2∉Oj (Ag ops p.2)/\p.2≠q.2/\(p.2∈B.getD q.2 []∨((okP p.1 q.1||Qrg P p.1 q.1 (Ag ops p.2) (Ag ops q.2))=true/\apt (ops.toList.map (·.dst)) (Ag ops p.2) (Ag ops q.2)=true)):=by
 unfold TQ at h;rw [QG,QG,Q9,QG] at h;refine ⟨by simpa using h.1.1,by simpa using h.1.2,h.2.imp (fun h=>by simpa using h) id⟩
theorem NU {ops:Array Oper} {B:List (List Nat)} {Q:Exit->Act->World->Prop} {K:AS->Prop} (hB:Ld ops B=true) (hok:∀o∈ops.toList,Uq P n o=true) (hQ:∀a w,Oc P n ss0 w0 K a w->Q .normal a w) :
  ∀(fuel:Nat) (R:List (Cl × Nat)) (listed:Array Bool) (s:AS) (a:Act) (w:World),R.length=fuel->Inv P ops B R listed->Rel P n ss0 w0 s a w->OM P E ops R K s->wpAny P .any ops Q fuel listed a w
 | 0,R,listed,s,a,w,hl,hI,hR,h=>by
  have hR0:R=[]:=List.eq_nil_of_length_eq_zero hl;subst hR0;refine ⟨?_,hQ a w ⟨s,h,hR⟩⟩;apply List.eq_nil_iff_forall_not_mem.2;intro i hi;obtain ⟨h1,h2,_⟩:=Ms hi;obtain ⟨c,hc⟩:=(hI.mem i h1).1 h2;cases hc
 | fuel+1,R,listed,s,a,w,hl,hI,hR,h=>by
  refine ⟨fun hr=>?_,fun i hi=>?_⟩
  ·
   exfalso
   cases R with
   | nil=>simp at hl
   | cons p R =>
    have hpl:=hI.lt p (by simp);have hnl:listed.getD p.2 true=false:=(hI.mem p.2 hpl).2 ⟨p.1,by simp⟩
    have hmem:p.2∈Region.ready .any ops listed:=Qb4 hpl hnl (fun m hm=>by
     apply Classical.byContradiction;intro hml
     have hmi:m < ops.size:=by
      unfold Ld at hB;rw [Q6] at hB;have:=hB p.2 (Kd.2 hpl);rw [QG,Q6] at this;have:=this.1 m hm;simp at this;omega
     have hml':listed.getD m true=false:=by
      rw [Az (by rw [hI.size];exact hmi) true false];simpa using hml
     obtain ⟨c,hc⟩:=(hI.mem m hmi).1 hml'
     rcases Kj.1 hc with hc | hc
     ·have:m=p.2:=by rw [← hc]
      subst this;have hB2:=hB;unfold Ld at hB2;rw [Q6] at hB2;have:=hB2 p.2 (Kd.2 hpl);rw [QG,Q6] at this;have:=this.1 p.2 hm;simp at this
     ·have:=(HD [] R hI.pairs).2.2 _ hc
      exact (Vf this).1 hm)
    rw [hr] at hmem;cases hmem
  ·obtain ⟨hil,hiu,hid⟩:=Ms hi;obtain ⟨c,hc⟩:=(hI.mem i hil).1 hiu;obtain ⟨R1,R2,rfl⟩:=List.append_of_mem hc;obtain ⟨p1,p2,p3⟩:=HD R1 R2 hI.pairs
   have hfirst:=EC (P:=P) (E:=E) R1 R2 s (fun p hp=>by
    obtain ⟨q1,q2,q3⟩:=Vf (p2 p hp)
    rcases q3 with q3 | q3
    ·exfalso;have hpl:=hI.lt p (by simp [hp]);have hpu:listed.getD p.2 true=false:=(hI.mem p.2 hpl).2 ⟨p.1,by simp [hp]⟩
     have:listed.getD p.2 false=true:=by
      unfold Ld at hB;rw [Q6] at hB;have hBi:=hB i (Kd.2 hil);rw [QG,Q6,Q6] at hBi;have h3:=hBi.2 p.2 q3;rw [Q9] at h3
      rcases h3 with h3 | h3
      ·exact hid p.2 (by simpa using h3)
      ·rw [Ki] at h3;obtain ⟨m,hm,hml⟩:=h3
       have hmi:m < i:=by simpa using hBi.1 m hm
       have hmlist:=hid m hm;exact RF (by unfold Ld;rw [Q6];exact hB) hI.size hI.closed m (by omega) (by rw [Az (by rw [hI.size];omega) true false];exact hmlist) p.2 (by simpa using hml)
     rw [Az (by rw [hI.size];exact hpl) false true,hpu] at this;cases this
    ·exact q3) h
   unfold wpOp
   have hg:ops[i]?=some (Ag ops i):=by simp [Ag,hil]
   simp only [hg];refine N2 (E:=E) (c:=c) (hok _ (by rw [List.mem_iff_getElem?];exact ⟨i,by simpa using hg⟩)) hR hfirst (fun a' w' hp=>?_);obtain ⟨s',hs',hR'⟩:=hp;refine NU hB hok hQ fuel (R1++R2) _ s' a' w' (by simp at hl ⊢;omega) ?_ hR' hs'
   have hset:∀j b,(listed.setIfInBounds i true).getD j b=if j=i then true else listed.getD j b:=by
    intro j b
    by_cases hj:j=i
    ·subst hj;rw [if_pos rfl];simp [hI.size,hil]
    ·rw [if_neg hj];simp [Array.getElem?_setIfInBounds_ne (Ne.symm hj)]
   have hnot:∀c',(c',i)∉R1++R2:=by
    intro c' hc'
    rcases QR.1 hc' with hc' | hc'
    ·exact (Vf (p2 _ hc')).2.1 rfl
    ·exact (Vf (p3 _ hc')).2.1 rfl
   refine ⟨by simp [hI.size],fun j hj=>?_,fun p hp=>hI.lt p (by
    rcases QR.1 hp with hp | hp
    ·exact Kb _ hp
    ·exact Ka _ (Kf _ hp)),fun j hj hjl m hm=>?_,p1⟩
   ·rw [hset]
    by_cases hji:j=i
    ·subst hji;rw [if_pos rfl];constructor
     ·intro h;cases h
     ·rintro ⟨c',hc'⟩;exact absurd hc' (hnot c')
    ·rw [if_neg hji,hI.mem j hj];constructor
     ·rintro ⟨c',hc'⟩;refine ⟨c',?_⟩
      rcases QR.1 hc' with hc' | hc'
      ·exact Kb _ hc'
      ·rcases Kj.1 hc' with hc' | hc'
       ·injection hc' with _ h2;exact absurd h2 hji
       ·exact Ka _ hc'
     ·rintro ⟨c',hc'⟩;refine ⟨c',?_⟩
      rcases QR.1 hc' with hc' | hc'
      ·exact Kb _ hc'
      ·exact Ka _ (Kf _ hc')
   ·rw [hset] at hjl ⊢
    by_cases hmi:m=i
    ·rw [if_pos hmi]
    ·rw [if_neg hmi]
     by_cases hji:j=i
     ·subst hji;exact hid m hm
     ·rw [if_neg hji] at hjl;exact hI.closed j hj hjl m hm
theorem Qgk {ops:Array Oper} {K:AS->Prop} {s:AS} (E:Nat->Prop) (L:List (Cl × Nat)) (hchk:Ti P ops L=true) (h:OM P E ops L K s):RV P ops K s:=by
 intro n ss0 w0 a w Q hok hR hQ;unfold Ti at hchk;simp only [QG] at hchk;obtain ⟨⟨⟨⟨h1,h2⟩,h3⟩,h4⟩,h5⟩:=hchk
 have h5':L.length=ops.size:=by simpa using h5
 refine NU (E:=E) h1 hok hQ ops.size L _ s a w h5' ⟨by simp,fun i hi=>?_,fun p hp=>by have:=(Q6.1 h4) p hp;simpa using this,fun i hi hl=>?_,h2⟩ hR h
 ·have hf:(Array.replicate ops.size false).getD i true=false:=by simp [hi]
  rw [hf];have:=(Q6.1 h3) i (Kd.2 hi);rw [Ki] at this;obtain ⟨p,hp,hpi⟩:=this
  have:p.2=i:=by simpa using hpi
  subst this;exact ⟨fun _=>⟨p.1,hp⟩,fun _=>rfl⟩
 ·have hf:(Array.replicate ops.size false).getD i true=false:=by simp [hi]
  rw [hf] at hl;cases hl
end
end Go.Proofs.Shadow
