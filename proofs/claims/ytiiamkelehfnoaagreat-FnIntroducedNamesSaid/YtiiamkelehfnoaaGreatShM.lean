/- The walk through regions whose order is open; small laws for the walk. -/
import Derived.Test.YtiiamkelehfnoaaGreatShJ
open _root_.List renaming zip_cons_cons → Kk
set_option linter.unusedVariables false
set_option linter.unusedSimpArgs false
namespace Go.Proofs.Shadow
open Go Go.RowKit
section
variable {P:Program} {E:Nat->Prop}
theorem Qce {α:Type} (ops:Array Oper):∀(cl:List α) (k:Nat),cl.length+k=ops.size->(cl.zipIdx k).map (fun p=>(p.1,II ops p.2))=cl.zip (ops.toList.drop k)
 | [],k,h=>by simp
 | c :: cl,k,h=>by
  have hk:k < ops.size:=by simp at h;omega
  have hd:ops.toList.drop k=II ops k :: ops.toList.drop (k+1):=by
   rw [List.drop_eq_getElem_cons (by simpa using hk)]
   congr 1
   simp [II,hk]
  rw [hd,List.zipIdx_cons,List.map_cons,Kk,Qce ops cl (k+1) (by simp at h;omega)]
theorem Yf {ops:Array Oper} {K:AS->Prop} {s:AS} (E:Nat->Prop) (cl:List Cl) (hchk:O1 P ops cl.zipIdx=true) (h:FC P E (ops.toList.map (·.dst)) (cl.zip ops.toList) K s):OJ P ops K s:=by
 refine Qav E cl.zipIdx hchk ?_
 have hl:cl.length=ops.size:=by
  unfold O1 at hchk;simp only [Bool.and_eq_true] at hchk;simpa using hchk.2
 unfold M0;rw [Qce ops cl 0 (by omega)];simpa using h
def tGd (P:Program) (E:Nat->Prop) (g:Option Bool) (c:Cl) (o:Oper) (s:AS) (K:AS->Prop):Prop:=Ae g (match c with | .v=>EA P E o s K | .x=>aop P o s (kp E s.ss K) | .z=>aop P o s K) (K (s.put o.dst WE))
theorem Qex (D:List (Option Tmp)) (K:AS->Prop) (s:AS):FC P E D [] K s=K s:=(rfl)
theorem PO (D:List (Option Tmp)) (c:Cl) (o:Oper) (os:List (Cl × Oper)) (K:AS->Prop) (s:AS):FC P E D ((c,o) :: os) K s=Hi P E D c o s (FC P E D os K):=(rfl)
theorem T4 (D:List (Option Tmp)) (c:Cl) (dst:Option Tmp) (op:Op) (ty:TypeId) (pos:String) (af:Array Edge) (s:AS) (K:AS->Prop) :
  Hi P E D c ⟨dst,op,ty,pos,af,none⟩ s K=tGd P E (some true) c ⟨dst,op,ty,pos,af,none⟩ s K:=(rfl)
theorem Ua (D:List (Option Tmp)) (c:Cl) (dst:Option Tmp) (op:Op) (ty:TypeId) (pos:String) (af:Array Edge) (g:Nat × Bool) (s:AS) (K:AS->Prop) :
  Hi P E D c ⟨dst,op,ty,pos,af,some g⟩ s K=tGd P E (gw D s.T (some g)) c ⟨dst,op,ty,pos,af,none⟩ s K:=(rfl)
theorem Qm4 (o:Oper) (s:AS) (K:AS->Prop):tGd P E (some true) .v o s K=EA P E o s K:=by simp [tGd,Ae]
theorem Qm5 (o:Oper) (s:AS) (K:AS->Prop):tGd P E (some true) .x o s K=aop P o s (kp E s.ss K):=by simp [tGd,Ae]
theorem Qm6 (o:Oper) (s:AS) (K:AS->Prop):tGd P E (some true) .z o s K=aop P o s K:=by simp [tGd,Ae]
theorem PK (c:Cl) (o:Oper) (s:AS) (K:AS->Prop):tGd P E (some false) c o s K=K (s.put o.dst WE):=by simp [tGd,Ae]
theorem PL {t:Bool} {c:Cl} {o:Oper} {s:AS} {K:AS->Prop} (h1:t=true->tGd P E (some true) c o s K) (h2:t=false->K (s.put o.dst WE)):tGd P E (some t) c o s K:=by
 cases t
 ·rw [PK];exact h2 rfl
 ·exact h1 rfl
theorem Bk {ss:Sto} {K:AS->Prop} {s:AS} (h1:DX E ss s.ss) (h2:K s):kp E ss K s:=⟨h1,h2⟩
theorem DX.new {ss:Sto} {b:Nat} (hb:ss.var b=none) (e:Ent):DX E ss (ss.Yy b e):=fun b' e' _ he=>by
 simp only [Sto.Yy];rw [if_neg (fun h=>by subst h;rw [hb] at he;cases he)];exact he
theorem DX.SG {ss ss':Sto} (h:ss'.var=ss.var):DX E ss ss':=fun b e _ he=>by rw [h];exact he
section
variable (dst:Option Tmp) (ty:TypeId) (pos:String) (af:Array Edge) (s:AS) (K:AS->Prop)
theorem Qiy (x:Operand):EA P E ⟨dst,.move x,ty,pos,af,none⟩ s K=K (s.put dst (aev s.T x)):=(rfl)
theorem Qb9 (x:Operand):EA P E ⟨dst,.assign x,ty,pos,af,none⟩ s K=K (s.put dst (aev s.T x)):=(rfl)
theorem Qiz (c a b:Operand):EA P E ⟨dst,.pick c a b,ty,pos,af,none⟩ s K=Bv (match aev s.T c with | .bool t=>some (bif t then aev s.T a else aev s.T b) | _=>none) s dst K:=(rfl)
theorem Qix (t:TypeId) (p:Operand):EA P E ⟨dst,.load t p,ty,pos,af,none⟩ s K=Bv (Cq (OH E s.ss) (tk P t) (aev s.T p)) s dst K:=(rfl)
theorem RW (x:Operand):EA P E ⟨dst,.nilCheck x,ty,pos,af,none⟩ s K=Bv (Qi6 (aev s.T x)) s dst K:=(rfl)
theorem PQ (t:TypeId) (x:Operand) (f:Nat):EA P E ⟨dst,.fieldAddr t x f,ty,pos,af,none⟩ s K=Bv (Fp (fo P t f) (aev s.T x)) s dst K:=(rfl)
theorem PR (t:TypeId) (x i:Operand):EA P E ⟨dst,.indexAddr t x i,ty,pos,af,none⟩ s K=Bv (Uo (OH E s.ss) (se P t) (aev s.T x) (aev s.T i)) s dst K:=(rfl)
theorem Qe4 (t:TypeId) (x i:Operand):EA P E ⟨dst,.index t x i,ty,pos,af,none⟩ s K=Bv (DY (isS P t) (aev s.T x) (aev s.T i)) s dst K:=(rfl)
theorem Qe2 (op:BinOp) (t:TypeId) (x y:Operand) (t2:TypeId):EA P E ⟨dst,.binOp op t x y t2,ty,pos,af,none⟩ s K=Bv (Un (isB P t) (se P t).isSome op (aev s.T x) (aev s.T y)) s dst K:=(rfl)
theorem Qi0 (op:UnOp) (t:TypeId) (x:Operand):EA P E ⟨dst,.unOp op t x,ty,pos,af,none⟩ s K=Bv (aun op (aev s.T x)) s dst K:=(rfl)
theorem Uh (x:Operand) (i:Nat):EA P E ⟨dst,.extract x i,ty,pos,af,none⟩ s K=Bv (Qi5 (aev s.T x) i) s dst K:=(rfl)
theorem Qe3 (t:TypeId) (parts:Array (Nat × Operand)):EA P E ⟨dst,.build t parts,ty,pos,af,none⟩ s K=Bv (Nx (tz P t) (fps P t) (parts.toList.map fun p=>(p.1,aev s.T p.2))) s dst K:=(rfl)
theorem OD (t:TypeId) (len:Nat) (parts:Array (Nat × Operand)):EA P E ⟨dst,.buildSlice t len parts,ty,pos,af,none⟩ s K=Bv (EB (se P t) ((se P t).bind fun k=>tz P k.1).isSome len (parts.toList.map fun p=>(p.1,aev s.T p.2))) s dst K:=(rfl)
theorem Qe5 (t:TypeId) (x:Operand) (lo hi mx:Option Operand):EA P E ⟨dst,.slice t x lo hi mx,ty,pos,af,none⟩ s K=Bv (U9 P t (isS P t) (se P t) (aev s.T x) (lo.map (aev s.T)) (hi.map (aev s.T)) (mx.map (aev s.T))) s dst K:=(rfl)
theorem Ug (t d:TypeId) (x:Operand):EA P E ⟨dst,.convert t d x,ty,pos,af,none⟩ s K=Bv (if Qkn P t then PZ (ik P d) (RD P t) (isS P d) (aev s.T x) else none) s dst K:=(rfl)
theorem RV (f:FuncId) (caps:Array Operand):EA P E ⟨dst,.makeFunc (.func f) #[] caps,ty,pos,af,none⟩ s K=K (s.put dst (.fn f (caps.toList.map (aev s.T)))):=(rfl)
theorem Qiw (f:Operand) (args:Array Operand) (tys:Array TypeId):EA P E ⟨dst,.call ⟨.value f,args,tys⟩,ty,pos,af,none⟩ s K=Qe0 P (aev s.T f) (args.toList.map (aev s.T)) s dst K:=(rfl)
theorem Qb8 (x y:Operand) (t:TypeId):EA P E ⟨dst,.call ⟨.builtin .append,#[x,y],#[t,t]⟩,ty,pos,af,none⟩ s K=Qlf (se P t) (aev s.T x) (aev s.T y) s dst K:=by
 simp [EA]
theorem Qlg (x:Operand) (t:TypeId):EA P E ⟨dst,.call ⟨.builtin .len,#[x],#[t]⟩,ty,pos,af,none⟩ s K=Bv (if isS P t||(se P t).isSome then DD (isS P t) (aev s.T x) else none) s dst K:=(rfl)
theorem Qlh (x y:Operand) (tys:Array TypeId):EA P E ⟨dst,.call ⟨.builtin .max,#[x,y],tys⟩,ty,pos,af,none⟩ s K=Bv (Qgi (aev s.T x) (aev s.T y)) s dst K:=(rfl)
end
def E0:Nat->Prop:=fun _=>False
theorem Qdu (ss:Sto) (b:Nat):(OH E0 ss).var b=ss.var b:=by simp [OH,E0]
theorem X4 {ss:Sto} {b:Nat} {e:Ent} (h:ss.var b=some e) (hn:¬E b):(OH E ss).var b=some e:=by simp only [OH];rw [if_neg hn];exact h
theorem Uc {f:FuncId} {args bs:List AV} {v:AV} {s:AS} {dst:Option Tmp} {K:AS->Prop} (h:Vm P f bs v) (hw:BX args bs) (hK:K (s.put dst v)):Qe0 P (.fn f []) args s dst K:=⟨f,bs,v,rfl,hw,h,hK⟩
theorem Ub {e:TypeId} {sz by_:Nat} {x y:AV} {xs ys:List (List AV)} {s:AS} {dst:Option Tmp} {K:AS->Prop} (hsz:0 < sz) (hby:0 < by_) (hx:(x=.Yb/\xs=[])∨x=.sl true xs) (hxr:∀r∈xs,r.length=sz) (hy:(y=.Yb/\ys=[])∨∃c,y=.sl c ys) (hyr:∀r∈ys,r.length=sz)
  (hb:(xs.length+ys.length) * by_<=140737488355328) (hK:K (s.put dst (.sl false (xs++ys)))):Qlf (some (e,sz,by_)) x y s dst K:=⟨_,⟨e,sz,by_,xs,ys,rfl,hsz,hby,hx,hxr,hy,hyr,hb,rfl⟩,hK⟩
theorem RdL.sl (ss:Sto) (c:Bool) (sz:Nat) (ys:List (List AV)) (h:∀r∈ys,r.length=sz):RdL ss sz (.sl c ys) ys:=⟨h,.inr (.inl ⟨c,rfl⟩)⟩
end
attribute [go_sem] Qex PO T4 Ua Qm4 Qm5 Qm6 PK Kk List.zip_nil_right List.zip_nil_left
 Qiy Qb9 Qiz Qix RW PQ PR Qe4 Qe2 Qi0 Uh Qe3 OD Qe5 Ug RV Qiw Qb8 Qlg Qlh Qdu List.not_mem_nil
end Go.Proofs.Shadow
namespace Go.Proofs.Shadow
open Go Go.RowKit
section
variable {P:Program} {E:Nat->Prop}
theorem Ly {g:Option Bool} {A B A' B':Prop} (h:Ae g A B) (ha:A->A') (hb:B->B'):Ae g A' B':=by
 obtain ⟨t,h1,h2,h3⟩:=h;exact ⟨t,h1,fun x=>ha (h2 x),fun x=>hb (h3 x)⟩
theorem DZ {D:List (Option Tmp)} : ∀(L:List Oper) {K K':AS->Prop} {s:AS},MM P D L K s->(∀s',K s'->K' s')->MM P D L K' s
 | [],_,_,_,h,hk=>hk _ h
 | o :: os,K,K',s,h,hk=>Ly h (fun h=>Av h (fun s' hs=>DZ os hs hk)) (fun h=>DZ os h hk)
theorem S3 {ops:Array Oper} {K K':AS->Prop} {s:AS} (h:OJ P ops K s) (hk:∀s',K s'->K' s'):OJ P ops K' s :=
 fun n ss0 w0 a w Q hok hR hQ=>h n ss0 w0 a w Q hok hR (fun a w hp=>by
  obtain ⟨s1,h1,h2⟩:=hp
  exact hQ a w ⟨s1,hk _ h1,h2⟩)
theorem BK:∀(c:Code) {Q Q':AX->AS->Prop} {s:AS},Jn P c Q s->(∀x s',Q x s'->Q' x s')->Jn P c Q' s:=by
 intro c
 induction c with
 | skip=>exact fun h hq=>hq _ _ h
 | region id ops draw =>
  intro Q Q' s h hq
  cases draw with
  | false=>exact DZ _ h (hq _)
  | true=>exact S3 h (hq _)
 | seq x y ihx ihy =>
  intro Q Q' s h hq;refine ihx h (fun e s' h1=>?_)
  cases e with
  | nrm=>exact ihy h1 hq
  | ex id=>exact hq _ _ h1
  | ret=>exact hq _ _ h1
 | cond c x y ihx ihy =>
  intro Q Q' s h hq
  rcases h with ⟨t,h1,h2,h3⟩ | ⟨h1,h2,h3⟩
  ·exact .inl ⟨t,h1,fun z=>ihx (h2 z) hq,fun z=>ihy (h3 z) hq⟩
  ·exact .inr ⟨h1,ihx h2 hq,ihy h3 hq⟩
 | block id c ih =>
  intro Q Q' s h hq;refine ih h (fun e s' h1=>?_)
  cases e with
  | nrm=>exact hq _ _ h1
  | ret=>exact hq _ _ h1
  | ex id' =>
   simp only [Pm] at h1 ⊢;split
   ·rename_i he;rw [if_pos he] at h1;exact hq _ _ h1
   ·rename_i he;rw [if_neg he] at h1;exact hq _ _ h1
 | loop c ih =>
  intro Q Q' s h hq;intro X hX;refine h X (fun s hs=>hX s (ih hs (fun e s' h2=>?_)))
  cases e with
  | nrm=>exact h2
  | ex id=>obtain ⟨s2,hk,h2⟩:=h2;exact ⟨s2,hk,hq _ _ h2⟩
  | ret=>obtain ⟨s2,hk,h2⟩:=h2;exact ⟨s2,hk,hq _ _ h2⟩
 | exit id=>exact fun h hq=>hq _ _ h
 | ret=>exact fun h hq=>hq _ _ h
 | _=>exact fun h _=>h.elim
def low (lo:Nat) (J T:Nat->AV):Nat->AV:=fun i=>if i < lo then T i else J i
theorem Qhv (lo:Nat) (J T:Nat->AV) (i:Nat):low lo J T i=if i < lo then T i else J i:=(rfl)
theorem Qdg {T T':Nat->AV} {ss:Sto} {d:Nat} {v:AV} (lo:Nat) (hd:T' d=v) (h:∀i,i < lo->i≠d->T' i=T i):∃J,(⟨T',ss⟩:AS)=⟨upd (low lo J T) d v,ss⟩:=by
 refine ⟨T',?_⟩
 congr 1
 funext i;simp only [upd,low];split
 ·rename_i hi;subst hi;exact hd
 ·split
  ·rename_i h1 h2;exact h i h2 h1
  ·rfl
theorem Qf7 (lo d:Nat) (v:AV) {g:Option Bool} {o:Oper} {D:List (Option Tmp)} {os:List Oper} {T:Nat->AV} {ss:Sto} {K:AS->Prop}
  (h:aGd P g o ⟨T,ss⟩ (MM P D os fun s'=>∃J,s'=⟨upd (low lo J T) d v,ss⟩)) (hK:∀J,K ⟨upd (low lo J T) d v,ss⟩):aGd P g o ⟨T,ss⟩ (MM P D os K):=by
 have hm:∀s',MM P D os (fun s'=>∃J,s'=⟨upd (low lo J T) d v,ss⟩) s'->MM P D os K s':=fun s' hs=>DZ os hs (fun s1 ⟨J,hJ⟩=>by subst hJ;exact hK J);exact Ly h (fun h=>Av h hm) (hm _)
theorem Qin (lo d:Nat) (v:AV) {g:Option Bool} {c:Cl} {o:Oper} {D:List (Option Tmp)} {os:List (Cl × Oper)} {T:Nat->AV} {ss:Sto} {K:AS->Prop}
  (h:tGd P E g c o ⟨T,ss⟩ (FC P E D os fun s'=>∃J,s'=⟨upd (low lo J T) d v,ss⟩)) (hK:∀J,K ⟨upd (low lo J T) d v,ss⟩):tGd P E g c o ⟨T,ss⟩ (FC P E D os K):=by
 have hm:∀s',FC P E D os (fun s'=>∃J,s'=⟨upd (low lo J T) d v,ss⟩) s'->FC P E D os K s':=fun s' hs=>CU os hs (fun s1 ⟨J,hJ⟩=>by subst hJ;exact hK J)
 cases g with
 | none=>obtain ⟨t,h1,_⟩:=h;cases h1
 | some t =>
  obtain ⟨t',h1,h2,h3⟩:=h;refine ⟨t',h1,fun ht=>?_,fun ht=>hm _ (h3 ht)⟩;have h2:=h2 ht
  cases c with
  | v=>exact (Fj (D:=D) (c:=.v) (o:=⟨o.dst,o.op,o.type,o.pos,o.after,none⟩) (K:=FC P E D os fun s'=>∃J,s'=⟨upd (low lo J T) d v,ss⟩) ⟨true,rfl,fun _=>h2,fun h=>by cases h⟩ hm).elim (fun t ht=>by
    obtain ⟨h5,h6,h7⟩:=ht;cases h5
    exact h6 rfl)
  | x=>exact Av h2 (fun s' hs=>⟨hs.1,hm _ hs.2⟩)
  | z=>exact Av h2 hm
theorem VG (M:AS->Prop) {c:AV} {x y:Code} {Q:AX->AS->Prop} {s:AS} (h:R7 P c x y (thn M Q) s) (hM:∀s',M s'->Q .nrm s'):R7 P c x y Q s:=by
 have hm:∀e s',thn M Q e s'->Q e s':=fun e s' he=>by
  cases e with
  | nrm=>exact hM _ he
  | ex id=>exact he
  | ret=>exact he
 rcases h with ⟨t,h1,h2,h3⟩ | ⟨h1,h2,h3⟩
 ·exact .inl ⟨t,h1,fun z=>BK x (h2 z) hm,fun z=>BK y (h3 z) hm⟩
 ·exact .inr ⟨h1,BK x h2 hm,BK y h3 hm⟩
theorem Yc {c:Code} {Q:AX->AS->Prop} {s:AS} (h:Jn P c (thn (Ux P (Jn P c) Q) (wkQ P Q)) s):Ux P (Jn P c) Q s:=by
 intro X hX;refine hX s (BK c h (fun x s' hx=>?_))
 cases x with
 | nrm=>exact hx X hX
 | ex id=>exact hx
 | ret=>exact hx
abbrev aLp (P:Program) (c:Code) (Q:AX->AS->Prop) (s:AS):Prop:=Ux P (Jn P c) Q s
end
attribute [go_sem] Qhv
end Go.Proofs.Shadow
