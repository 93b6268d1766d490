/- The walk through regions whose order is open; small laws for the walk. -/
import Derived.Test.YtiiamkelehfnoaaGreatShJ
open _root_.List renaming zip_cons_cons → Kk
set_option linter.unusedVariables false
set_option linter.unusedSimpArgs false
namespace Go.Proofs.Shadow
open Go Go.RowKit
section
variable {P:Program} {E:Nat->Prop}
theorem Qdu {α:Type} (ops:Array Oper):∀(cl:List α) (k:Nat),cl.length+k=ops.size->(cl.zipIdx k).map (fun p=>(p.1,I1 ops p.2))=cl.zip (ops.toList.drop k)
 | [],k,h=>by simp
 | c :: cl,k,h=>by
  have hk:k < ops.size:=by simp at h;omega
  have hd:ops.toList.drop k=I1 ops k :: ops.toList.drop (k+1):=by
   rw [List.drop_eq_getElem_cons (by simpa using hk)]
   congr 1
   simp [I1,hk]
  rw [hd,List.zipIdx_cons,List.map_cons,Kk,Qdu ops cl (k+1) (by simp at h;omega)]
theorem Ye {ops:Array Oper} {K:AS->Prop} {s:AS} (E:Nat->Prop) (cl:List Cl) (hchk:PJ P ops cl.zipIdx=true) (h:F8 P E (ops.toList.map (·.dst)) (cl.zip ops.toList) K s):Pq P ops K s:=by
 refine Qb7 E cl.zipIdx hchk ?_
 have hl:cl.length=ops.size:=by
  unfold PJ at hchk;simp only [Bool.and_eq_true] at hchk;simpa using hchk.2
 unfold Ny;rw [Qdu ops cl 0 (by omega)];simpa using h
def tGd (P:Program) (E:Nat->Prop) (g:Option Bool) (c:Cl) (o:Oper) (s:AS) (K:AS->Prop):Prop:=Ay g (match c with | .v=>E3 P E o s K | .x=>aop P o s (kp E s.ss K) | .z=>aop P o s K) (K (s.put o.dst WN))
theorem Qgm (D:List (Option Tmp)) (K:AS->Prop) (s:AS):F8 P E D [] K s=K s:=(rfl)
theorem RJ (D:List (Option Tmp)) (c:Cl) (o:Oper) (os:List (Cl × Oper)) (K:AS->Prop) (s:AS):F8 P E D ((c,o) :: os) K s=Hr P E D c o s (F8 P E D os K):=(rfl)
theorem US (D:List (Option Tmp)) (c:Cl) (dst:Option Tmp) (op:Op) (ty:TypeId) (pos:String) (af:Array Edge) (s:AS) (K:AS->Prop) :
  Hr P E D c ⟨dst,op,ty,pos,af,none⟩ s K=tGd P E (some true) c ⟨dst,op,ty,pos,af,none⟩ s K:=(rfl)
theorem UT (D:List (Option Tmp)) (c:Cl) (dst:Option Tmp) (op:Op) (ty:TypeId) (pos:String) (af:Array Edge) (g:Nat × Bool) (s:AS) (K:AS->Prop) :
  Hr P E D c ⟨dst,op,ty,pos,af,some g⟩ s K=tGd P E (gw D s.T (some g)) c ⟨dst,op,ty,pos,af,none⟩ s K:=(rfl)
theorem Qpd (o:Oper) (s:AS) (K:AS->Prop):tGd P E (some true) .v o s K=E3 P E o s K:=by simp [tGd,Ay]
theorem Qpe (o:Oper) (s:AS) (K:AS->Prop):tGd P E (some true) .x o s K=aop P o s (kp E s.ss K):=by simp [tGd,Ay]
theorem Qpf (o:Oper) (s:AS) (K:AS->Prop):tGd P E (some true) .z o s K=aop P o s K:=by simp [tGd,Ay]
theorem RF (c:Cl) (o:Oper) (s:AS) (K:AS->Prop):tGd P E (some false) c o s K=K (s.put o.dst WN):=by simp [tGd,Ay]
theorem RG {t:Bool} {c:Cl} {o:Oper} {s:AS} {K:AS->Prop} (h1:t=true->tGd P E (some true) c o s K) (h2:t=false->K (s.put o.dst WN)):tGd P E (some t) c o s K:=by
 cases t
 ·rw [RF];exact h2 rfl
 ·exact h1 rfl
theorem BC {ss:Sto} {K:AS->Prop} {s:AS} (h1:Eo E ss s.ss) (h2:K s):kp E ss K s:=⟨h1,h2⟩
theorem Eo.new {ss:Sto} {b:Nat} (hb:ss.var b=none) (e:Ent):Eo E ss (ss.Yz b e):=fun b' e' _ he=>by
 simp only [Sto.Yz];rw [if_neg (fun h=>by subst h;rw [hb] at he;cases he)];exact he
theorem Eo.Tu {ss ss':Sto} (h:ss'.var=ss.var):Eo E ss ss':=fun b e _ he=>by rw [h];exact he
section
variable (dst:Option Tmp) (ty:TypeId) (pos:String) (af:Array Edge) (s:AS) (K:AS->Prop)
theorem Qkx (x:Operand):E3 P E ⟨dst,.move x,ty,pos,af,none⟩ s K=K (s.put dst (aev s.T x)):=(rfl)
theorem Qdp (x:Operand):E3 P E ⟨dst,.assign x,ty,pos,af,none⟩ s K=K (s.put dst (aev s.T x)):=(rfl)
theorem Qky (c a b:Operand):E3 P E ⟨dst,.pick c a b,ty,pos,af,none⟩ s K=BN (match aev s.T c with | .bool t=>some (bif t then aev s.T a else aev s.T b) | _=>none) s dst K:=(rfl)
theorem Qkw (t:TypeId) (p:Operand):E3 P E ⟨dst,.load t p,ty,pos,af,none⟩ s K=BN (CJ (Po E s.ss) (tk P t) (aev s.T p)) s dst K:=(rfl)
theorem SJ (x:Operand):E3 P E ⟨dst,.nilCheck x,ty,pos,af,none⟩ s K=BN (Qk5 (aev s.T x)) s dst K:=(rfl)
theorem RK (t:TypeId) (x:Operand) (f:Nat):E3 P E ⟨dst,.fieldAddr t x f,ty,pos,af,none⟩ s K=BN (FW (fo P t f) (aev s.T x)) s dst K:=(rfl)
theorem RL (t:TypeId) (x i:Operand):E3 P E ⟨dst,.indexAddr t x i,ty,pos,af,none⟩ s K=BN (U8 (Po E s.ss) (se P t) (aev s.T x) (aev s.T i)) s dst K:=(rfl)
theorem Qgu (t:TypeId) (x i:Operand):E3 P E ⟨dst,.index t x i,ty,pos,af,none⟩ s K=BN (Ep (isS P t) (aev s.T x) (aev s.T i)) s dst K:=(rfl)
theorem Qgs (op:BinOp) (t:TypeId) (x y:Operand) (t2:TypeId):E3 P E ⟨dst,.binOp op t x y t2,ty,pos,af,none⟩ s K=BN (U7 (isB P t) (se P t).isSome op (aev s.T x) (aev s.T y)) s dst K:=(rfl)
theorem Qkz (op:UnOp) (t:TypeId) (x:Operand):E3 P E ⟨dst,.unOp op t x,ty,pos,af,none⟩ s K=BN (aun op (aev s.T x)) s dst K:=(rfl)
theorem U1 (x:Operand) (i:Nat):E3 P E ⟨dst,.extract x i,ty,pos,af,none⟩ s K=BN (Qk4 (aev s.T x) i) s dst K:=(rfl)
theorem Qgt (t:TypeId) (parts:Array (Nat × Operand)):E3 P E ⟨dst,.build t parts,ty,pos,af,none⟩ s K=BN (N4 (tz P t) (fps P t) (parts.toList.map fun p=>(p.1,aev s.T p.2))) s dst K:=(rfl)
theorem Pj (t:TypeId) (len:Nat) (parts:Array (Nat × Operand)):E3 P E ⟨dst,.buildSlice t len parts,ty,pos,af,none⟩ s K=BN (E4 (se P t) ((se P t).bind fun k=>tz P k.1).isSome len (parts.toList.map fun p=>(p.1,aev s.T p.2))) s dst K:=(rfl)
theorem Qgv (t:TypeId) (x:Operand) (lo hi mx:Option Operand):E3 P E ⟨dst,.slice t x lo hi mx,ty,pos,af,none⟩ s K=BN (Qbj P t (isS P t) (se P t) (aev s.T x) (lo.map (aev s.T)) (hi.map (aev s.T)) (mx.map (aev s.T))) s dst K:=(rfl)
theorem U0 (t d:TypeId) (x:Operand):E3 P E ⟨dst,.convert t d x,ty,pos,af,none⟩ s K=BN (if Qmp P t then RU (ik P d) (Sl P t) (isS P d) (aev s.T x) else none) s dst K:=(rfl)
theorem SI (f:FuncId) (caps:Array Operand):E3 P E ⟨dst,.makeFunc (.func f) #[] caps,ty,pos,af,none⟩ s K=K (s.put dst (.fn f (caps.toList.map (aev s.T)))):=(rfl)
theorem Qkv (f:Operand) (args:Array Operand) (tys:Array TypeId):E3 P E ⟨dst,.call ⟨.value f,args,tys⟩,ty,pos,af,none⟩ s K=Qgp P (aev s.T f) (args.toList.map (aev s.T)) s dst K:=(rfl)
theorem Qdo (x y:Operand) (t:TypeId):E3 P E ⟨dst,.call ⟨.builtin .append,#[x,y],#[t,t]⟩,ty,pos,af,none⟩ s K=Qnm (se P t) (aev s.T x) (aev s.T y) s dst K:=by
 simp [E3]
theorem Qnn (x:Operand) (t:TypeId):E3 P E ⟨dst,.call ⟨.builtin .len,#[x],#[t]⟩,ty,pos,af,none⟩ s K=BN (if isS P t||(se P t).isSome then D0 (isS P t) (aev s.T x) else none) s dst K:=(rfl)
theorem Qno (x y:Operand) (tys:Array TypeId):E3 P E ⟨dst,.call ⟨.builtin .max,#[x,y],tys⟩,ty,pos,af,none⟩ s K=BN (Qih (aev s.T x) (aev s.T y)) s dst K:=(rfl)
end
def E0:Nat->Prop:=fun _=>False
theorem Qfg (ss:Sto) (b:Nat):(Po E0 ss).var b=ss.var b:=by simp [Po,E0]
theorem X4 {ss:Sto} {b:Nat} {e:Ent} (h:ss.var b=some e) (hn:¬E b):(Po E ss).var b=some e:=by simp only [Po];rw [if_neg hn];exact h
theorem UW {f:FuncId} {args bs:List AV} {v:AV} {s:AS} {dst:Option Tmp} {K:AS->Prop} (h:Vr P f bs v) (hw:Cf args bs) (hK:K (s.put dst v)):Qgp P (.fn f []) args s dst K:=⟨f,bs,v,rfl,hw,h,hK⟩
theorem UU {e:TypeId} {sz by_:Nat} {x y:AV} {xs ys:List (List AV)} {s:AS} {dst:Option Tmp} {K:AS->Prop} (hsz:0 < sz) (hby:0 < by_) (hx:(x=.Ya/\xs=[])∨x=.sl true xs) (hxr:∀r∈xs,r.length=sz) (hy:(y=.Ya/\ys=[])∨∃c,y=.sl c ys) (hyr:∀r∈ys,r.length=sz)
  (hb:(xs.length+ys.length) * by_<=140737488355328) (hK:K (s.put dst (.sl false (xs++ys)))):Qnm (some (e,sz,by_)) x y s dst K:=⟨_,⟨e,sz,by_,xs,ys,rfl,hsz,hby,hx,hxr,hy,hyr,hb,rfl⟩,hK⟩
theorem RdL.sl (ss:Sto) (c:Bool) (sz:Nat) (ys:List (List AV)) (h:∀r∈ys,r.length=sz):RdL ss sz (.sl c ys) ys:=⟨h,.inr (.inl ⟨c,rfl⟩)⟩
end
attribute [go_sem] Qgm RJ US UT Qpd Qpe Qpf RF Kk List.zip_nil_right List.zip_nil_left
 Qkx Qdp Qky Qkw SJ RK RL Qgu Qgs Qkz U1 Qgt Pj Qgv U0 SI Qkv Qdo Qnn Qno Qfg List.not_mem_nil
end Go.Proofs.Shadow
namespace Go.Proofs.Shadow
open Go Go.RowKit
section
variable {P:Program} {E:Nat->Prop}
theorem L2 {g:Option Bool} {A B A' B':Prop} (h:Ay g A B) (ha:A->A') (hb:B->B'):Ay g A' B':=by
 obtain ⟨t,h1,h2,h3⟩:=h;exact ⟨t,h1,fun x=>ha (h2 x),fun x=>hb (h3 x)⟩
theorem Er {D:List (Option Tmp)} : ∀(L:List Oper) {K K':AS->Prop} {s:AS},Nl P D L K s->(∀s',K s'->K' s')->Nl P D L K' s
 | [],_,_,_,h,hk=>hk _ h
 | o :: os,K,K',s,h,hk=>L2 h (fun h=>AQ h (fun s' hs=>Er os hs hk)) (fun h=>Er os h hk)
theorem TO {ops:Array Oper} {K K':AS->Prop} {s:AS} (h:Pq P ops K s) (hk:∀s',K s'->K' s'):Pq P ops K' s :=
 fun n ss0 w0 a w Q hok hR hQ=>h n ss0 w0 a w Q hok hR (fun a w hp=>by
  obtain ⟨s1,h1,h2⟩:=hp
  exact hQ a w ⟨s1,hk _ h1,h2⟩)
theorem B4:∀(c:Code) {Q Q':AX->AS->Prop} {s:AS},Jx P c Q s->(∀x s',Q x s'->Q' x s')->Jx P c Q' s:=by
 intro c
 induction c with
 | skip=>exact fun h hq=>hq _ _ h
 | region id ops draw =>
  intro Q Q' s h hq
  cases draw with
  | false=>exact Er _ h (hq _)
  | true=>exact TO h (hq _)
 | seq x y ihx ihy =>
  intro Q Q' s h hq;refine ihx h (fun e s' h1=>?_)
  cases e with
  | nrm=>exact ihy h1 hq
  | ex id=>exact hq _ _ h1
  | ret=>exact hq _ _ h1
 | cond c x y ihx ihy =>
  intro Q Q' s h hq
  rcases h with ⟨t,h1,h2,h3⟩ | ⟨h1,h2,h3⟩
  ·exact .inl ⟨t,h1,fun z=>ihx (h2 z) hq,fun z=>ihy (h3 z) hq⟩
  ·exact .inr ⟨h1,ihx h2 hq,ihy h3 hq⟩
 | block id c ih =>
  intro Q Q' s h hq;refine ih h (fun e s' h1=>?_)
  cases e with
  | nrm=>exact hq _ _ h1
  | ret=>exact hq _ _ h1
  | ex id' =>
   simp only [P0] at h1 ⊢;split
   ·rename_i he;rw [if_pos he] at h1;exact hq _ _ h1
   ·rename_i he;rw [if_neg he] at h1;exact hq _ _ h1
 | loop c ih =>
  intro Q Q' s h hq;intro X hX;refine h X (fun s hs=>hX s (ih hs (fun e s' h2=>?_)))
  cases e with
  | nrm=>exact h2
  | ex id=>obtain ⟨s2,hk,h2⟩:=h2;exact ⟨s2,hk,hq _ _ h2⟩
  | ret=>obtain ⟨s2,hk,h2⟩:=h2;exact ⟨s2,hk,hq _ _ h2⟩
 | exit id=>exact fun h hq=>hq _ _ h
 | ret=>exact fun h hq=>hq _ _ h
 | _=>exact fun h _=>h.elim
def low (lo:Nat) (J T:Nat->AV):Nat->AV:=fun i=>if i < lo then T i else J i
theorem Qjs (lo:Nat) (J T:Nat->AV) (i:Nat):low lo J T i=if i < lo then T i else J i:=(rfl)
theorem Qe0 {T T':Nat->AV} {ss:Sto} {d:Nat} {v:AV} (lo:Nat) (hd:T' d=v) (h:∀i,i < lo->i≠d->T' i=T i):∃J,(⟨T',ss⟩:AS)=⟨upd (low lo J T) d v,ss⟩:=by
 refine ⟨T',?_⟩
 congr 1
 funext i;simp only [upd,low];split
 ·rename_i hi;subst hi;exact hd
 ·split
  ·rename_i h1 h2;exact h i h2 h1
  ·rfl
theorem Qh6 (lo d:Nat) (v:AV) {g:Option Bool} {o:Oper} {D:List (Option Tmp)} {os:List Oper} {T:Nat->AV} {ss:Sto} {K:AS->Prop}
  (h:aGd P g o ⟨T,ss⟩ (Nl P D os fun s'=>∃J,s'=⟨upd (low lo J T) d v,ss⟩)) (hK:∀J,K ⟨upd (low lo J T) d v,ss⟩):aGd P g o ⟨T,ss⟩ (Nl P D os K):=by
 have hm:∀s',Nl P D os (fun s'=>∃J,s'=⟨upd (low lo J T) d v,ss⟩) s'->Nl P D os K s':=fun s' hs=>Er os hs (fun s1 ⟨J,hJ⟩=>by subst hJ;exact hK J);exact L2 h (fun h=>AQ h hm) (hm _)
theorem Qkm (lo d:Nat) (v:AV) {g:Option Bool} {c:Cl} {o:Oper} {D:List (Option Tmp)} {os:List (Cl × Oper)} {T:Nat->AV} {ss:Sto} {K:AS->Prop}
  (h:tGd P E g c o ⟨T,ss⟩ (F8 P E D os fun s'=>∃J,s'=⟨upd (low lo J T) d v,ss⟩)) (hK:∀J,K ⟨upd (low lo J T) d v,ss⟩):tGd P E g c o ⟨T,ss⟩ (F8 P E D os K):=by
 have hm:∀s',F8 P E D os (fun s'=>∃J,s'=⟨upd (low lo J T) d v,ss⟩) s'->F8 P E D os K s':=fun s' hs=>Dm os hs (fun s1 ⟨J,hJ⟩=>by subst hJ;exact hK J)
 cases g with
 | none=>obtain ⟨t,h1,_⟩:=h;cases h1
 | some t =>
  obtain ⟨t',h1,h2,h3⟩:=h;refine ⟨t',h1,fun ht=>?_,fun ht=>hm _ (h3 ht)⟩;have h2:=h2 ht
  cases c with
  | v=>exact (FO (D:=D) (c:=.v) (o:=⟨o.dst,o.op,o.type,o.pos,o.after,none⟩) (K:=F8 P E D os fun s'=>∃J,s'=⟨upd (low lo J T) d v,ss⟩) ⟨true,rfl,fun _=>h2,fun h=>by cases h⟩ hm).elim (fun t ht=>by
    obtain ⟨h5,h6,h7⟩:=ht;cases h5
    exact h6 rfl)
  | x=>exact AQ h2 (fun s' hs=>⟨hs.1,hm _ hs.2⟩)
  | z=>exact AQ h2 hm
theorem VL (M:AS->Prop) {c:AV} {x y:Code} {Q:AX->AS->Prop} {s:AS} (h:SU P c x y (thn M Q) s) (hM:∀s',M s'->Q .nrm s'):SU P c x y Q s:=by
 have hm:∀e s',thn M Q e s'->Q e s':=fun e s' he=>by
  cases e with
  | nrm=>exact hM _ he
  | ex id=>exact he
  | ret=>exact he
 rcases h with ⟨t,h1,h2,h3⟩ | ⟨h1,h2,h3⟩
 ·exact .inl ⟨t,h1,fun z=>B4 x (h2 z) hm,fun z=>B4 y (h3 z) hm⟩
 ·exact .inr ⟨h1,B4 x h2 hm,B4 y h3 hm⟩
theorem Yc {c:Code} {Q:AX->AS->Prop} {s:AS} (h:Jx P c (thn (Qai P (Jx P c) Q) (wkQ P Q)) s):Qai P (Jx P c) Q s:=by
 intro X hX;refine hX s (B4 c h (fun x s' hx=>?_))
 cases x with
 | nrm=>exact hx X hX
 | ex id=>exact hx
 | ret=>exact hx
abbrev aLp (P:Program) (c:Code) (Q:AX->AS->Prop) (s:AS):Prop:=Qai P (Jx P c) Q s
end
attribute [go_sem] Qjs
end Go.Proofs.Shadow
