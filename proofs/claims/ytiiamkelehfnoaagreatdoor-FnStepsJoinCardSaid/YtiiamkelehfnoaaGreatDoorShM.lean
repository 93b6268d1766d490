/- The walk through regions whose order is open; small laws for the walk. -/
import Derived.Test.YtiiamkelehfnoaaGreatDoorShJ
open _root_.List renaming zip_cons_cons → Kl
set_option linter.unusedVariables false
set_option linter.unusedSimpArgs false
namespace Go.Proofs.Shadow
open Go Go.RowKit
section
variable {P:Program} {E:Nat->Prop}
theorem Qbp {α:Type} (ops:Array Oper):∀(cl:List α) (k:Nat),cl.length+k=ops.size->(cl.zipIdx k).map (fun p=>(p.1,H3 ops p.2))=cl.zip (ops.toList.drop k)
 | [],k,h=>by simp
 | c :: cl,k,h=>by
  have hk:k < ops.size:=by simp at h;omega
  have hd:ops.toList.drop k=H3 ops k :: ops.toList.drop (k+1):=by
   rw [List.drop_eq_getElem_cons (by simpa using hk)]
   congr 1
   simp [H3,hk]
  rw [hd,List.zipIdx_cons,List.map_cons,Kl,Qbp ops cl (k+1) (by simp at h;omega)]
theorem Yg {ops:Array Oper} {K:AS->Prop} {s:AS} (E:Nat->Prop) (cl:List Cl) (hchk:Oj P ops cl.zipIdx=true) (h:E2 P E (ops.toList.map (·.dst)) (cl.zip ops.toList) K s):N0 P ops K s:=by
 refine U0 E cl.zipIdx hchk ?_
 have hl:cl.length=ops.size:=by
  unfold Oj at hchk;simp only [Bool.and_eq_true] at hchk;simpa using hchk.2
 unfold Mh;rw [Qbp ops cl 0 (by omega)];simpa using h
def tGd (P:Program) (E:Nat->Prop) (g:Option Bool) (c:Cl) (o:Oper) (s:AS) (K:AS->Prop):Prop:=IC g (match c with | .v=>DW P E o s K | .x=>aop P o s (kp E s.ss K) | .z=>aop P o s K) (K (s.put o.dst We))
theorem Qec (D:List (Option Tmp)) (K:AS->Prop) (s:AS):E2 P E D [] K s=K s:=(rfl)
theorem O7 (D:List (Option Tmp)) (c:Cl) (o:Oper) (os:List (Cl × Oper)) (K:AS->Prop) (s:AS):E2 P E D ((c,o) :: os) K s=GK P E D c o s (E2 P E D os K):=(rfl)
theorem Ts (D:List (Option Tmp)) (c:Cl) (dst:Option Tmp) (op:Op) (ty:TypeId) (pos:String) (af:Array Edge) (s:AS) (K:AS->Prop) :
  GK P E D c ⟨dst,op,ty,pos,af,none⟩ s K=tGd P E (some true) c ⟨dst,op,ty,pos,af,none⟩ s K:=(rfl)
theorem Tt (D:List (Option Tmp)) (c:Cl) (dst:Option Tmp) (op:Op) (ty:TypeId) (pos:String) (af:Array Edge) (g:Nat × Bool) (s:AS) (K:AS->Prop) :
  GK P E D c ⟨dst,op,ty,pos,af,some g⟩ s K=tGd P E (gw D s.T (some g)) c ⟨dst,op,ty,pos,af,none⟩ s K:=(rfl)
theorem Qmx (o:Oper) (s:AS) (K:AS->Prop):tGd P E (some true) .v o s K=DW P E o s K:=by simp [tGd,IC]
theorem Qmy (o:Oper) (s:AS) (K:AS->Prop):tGd P E (some true) .x o s K=aop P o s (kp E s.ss K):=by simp [tGd,IC]
theorem Qmz (o:Oper) (s:AS) (K:AS->Prop):tGd P E (some true) .z o s K=aop P o s K:=by simp [tGd,IC]
theorem O3 (c:Cl) (o:Oper) (s:AS) (K:AS->Prop):tGd P E (some false) c o s K=K (s.put o.dst We):=by simp [tGd,IC]
theorem O4 {t:Bool} {c:Cl} {o:Oper} {s:AS} {K:AS->Prop} (h1:t=true->tGd P E (some true) c o s K) (h2:t=false->K (s.put o.dst We)):tGd P E (some t) c o s K:=by
 cases t
 ·rw [O3];exact h2 rfl
 ·exact h1 rfl
theorem Cn {ss:Sto} {K:AS->Prop} {s:AS} (h1:DY E ss s.ss) (h2:K s):kp E ss K s:=⟨h1,h2⟩
theorem DY.new {ss:Sto} {b:Nat} (hb:ss.var b=none) (e:Ent):DY E ss (ss.Yw b e):=fun b' e' _ he=>by
 simp only [Sto.Yw];rw [if_neg (fun h=>by subst h;rw [hb] at he;cases he)];exact he
theorem DY.Qaw {ss ss':Sto} (h:ss'.var=ss.var):DY E ss ss':=fun b e _ he=>by rw [h];exact he
section
variable (dst:Option Tmp) (ty:TypeId) (pos:String) (af:Array Edge) (s:AS) (K:AS->Prop)
theorem Qif (x:Operand):DW P E ⟨dst,.move x,ty,pos,af,none⟩ s K=K (s.put dst (aev s.T x)):=(rfl)
theorem Qbj (x:Operand):DW P E ⟨dst,.assign x,ty,pos,af,none⟩ s K=K (s.put dst (aev s.T x)):=(rfl)
theorem Qig (c a b:Operand):DW P E ⟨dst,.pick c a b,ty,pos,af,none⟩ s K=AN (match aev s.T c with | .bool t=>some (bif t then aev s.T a else aev s.T b) | _=>none) s dst K:=(rfl)
theorem Qie (t:TypeId) (p:Operand):DW P E ⟨dst,.load t p,ty,pos,af,none⟩ s K=AN (BD (NX E s.ss) (tk P t) (aev s.T p)) s dst K:=(rfl)
theorem P6 (x:Operand):DW P E ⟨dst,.nilCheck x,ty,pos,af,none⟩ s K=AN (Qin (aev s.T x)) s dst K:=(rfl)
theorem O8 (t:TypeId) (x:Operand) (f:Nat):DW P E ⟨dst,.fieldAddr t x f,ty,pos,af,none⟩ s K=AN (EM (fo P t f) (aev s.T x)) s dst K:=(rfl)
theorem O9 (t:TypeId) (x i:Operand):DW P E ⟨dst,.indexAddr t x i,ty,pos,af,none⟩ s K=AN (Uc (NX E s.ss) (se P t) (aev s.T x) (aev s.T i)) s dst K:=(rfl)
theorem Qek (t:TypeId) (x i:Operand):DW P E ⟨dst,.index t x i,ty,pos,af,none⟩ s K=AN (Dm (isS P t) (aev s.T x) (aev s.T i)) s dst K:=(rfl)
theorem Qei (op:BinOp) (t:TypeId) (x y:Operand) (t2:TypeId):DW P E ⟨dst,.binOp op t x y t2,ty,pos,af,none⟩ s K=AN (TG (isB P t) (se P t).isSome op (aev s.T x) (aev s.T y)) s dst K:=(rfl)
theorem Qih (op:UnOp) (t:TypeId) (x:Operand):DW P E ⟨dst,.unOp op t x,ty,pos,af,none⟩ s K=AN (aun op (aev s.T x)) s dst K:=(rfl)
theorem TA (x:Operand) (i:Nat):DW P E ⟨dst,.extract x i,ty,pos,af,none⟩ s K=AN (Qim (aev s.T x) i) s dst K:=(rfl)
theorem Qej (t:TypeId) (parts:Array (Nat × Operand)):DW P E ⟨dst,.build t parts,ty,pos,af,none⟩ s K=AN (MM (tz P t) (fps P t) (parts.toList.map fun p=>(p.1,aev s.T p.2))) s dst K:=(rfl)
theorem NS (t:TypeId) (len:Nat) (parts:Array (Nat × Operand)):DW P E ⟨dst,.buildSlice t len parts,ty,pos,af,none⟩ s K=AN (DZ (se P t) ((se P t).bind fun k=>tz P k.1).isSome len (parts.toList.map fun p=>(p.1,aev s.T p.2))) s dst K:=(rfl)
theorem Qel (t:TypeId) (x:Operand) (lo hi mx:Option Operand):DW P E ⟨dst,.slice t x lo hi mx,ty,pos,af,none⟩ s K=AN (UB P t (isS P t) (se P t) (aev s.T x) (lo.map (aev s.T)) (hi.map (aev s.T)) (mx.map (aev s.T))) s dst K:=(rfl)
theorem Tz (t d:TypeId) (x:Operand):DW P E ⟨dst,.convert t d x,ty,pos,af,none⟩ s K=AN (if Qg2 P t then Pm (ik P d) (Nq P t) (isS P d) (aev s.T x) else none) s dst K:=(rfl)
theorem P5 (f:FuncId) (caps:Array Operand):DW P E ⟨dst,.makeFunc (.func f) #[] caps,ty,pos,af,none⟩ s K=K (s.put dst (.fn f (caps.toList.map (aev s.T)))):=(rfl)
theorem Qid (f:Operand) (args:Array Operand) (tys:Array TypeId):DW P E ⟨dst,.call ⟨.value f,args,tys⟩,ty,pos,af,none⟩ s K=Qef P (aev s.T f) (args.toList.map (aev s.T)) s dst K:=(rfl)
theorem Qbi (x y:Operand) (t:TypeId):DW P E ⟨dst,.call ⟨.builtin .append,#[x,y],#[t,t]⟩,ty,pos,af,none⟩ s K=Qk7 (se P t) (aev s.T x) (aev s.T y) s dst K:=by
 simp [DW]
theorem Qk8 (x:Operand) (t:TypeId):DW P E ⟨dst,.call ⟨.builtin .len,#[x],#[t]⟩,ty,pos,af,none⟩ s K=AN (if isS P t||(se P t).isSome then CQ (isS P t) (aev s.T x) else none) s dst K:=(rfl)
theorem Qk9 (x y:Operand) (tys:Array TypeId):DW P E ⟨dst,.call ⟨.builtin .max,#[x,y],tys⟩,ty,pos,af,none⟩ s K=AN (Qf2 (aev s.T x) (aev s.T y)) s dst K:=(rfl)
end
def E0:Nat->Prop:=fun _=>False
theorem Qc6 (ss:Sto) (b:Nat):(NX E0 ss).var b=ss.var b:=by simp [NX,E0]
theorem X5 {ss:Sto} {b:Nat} {e:Ent} (h:ss.var b=some e) (hn:¬E b):(NX E ss).var b=some e:=by simp only [NX];rw [if_neg hn];exact h
theorem Tv {f:FuncId} {args bs:List AV} {v:AV} {s:AS} {dst:Option Tmp} {K:AS->Prop} (h:Vb P f bs v) (hw:Bf args bs) (hK:K (s.put dst v)):Qef P (.fn f []) args s dst K:=⟨f,bs,v,rfl,hw,h,hK⟩
theorem Tu {e:TypeId} {sz by_:Nat} {x y:AV} {xs ys:List (List AV)} {s:AS} {dst:Option Tmp} {K:AS->Prop} (hsz:0 < sz) (hby:0 < by_) (hx:(x=.Yb/\xs=[])∨x=.sl true xs) (hxr:∀r∈xs,r.length=sz) (hy:(y=.Yb/\ys=[])∨∃c,y=.sl c ys) (hyr:∀r∈ys,r.length=sz)
  (hb:(xs.length+ys.length) * by_<=140737488355328) (hK:K (s.put dst (.sl false (xs++ys)))):Qk7 (some (e,sz,by_)) x y s dst K:=⟨_,⟨e,sz,by_,xs,ys,rfl,hsz,hby,hx,hxr,hy,hyr,hb,rfl⟩,hK⟩
theorem RdL.sl (ss:Sto) (c:Bool) (sz:Nat) (ys:List (List AV)) (h:∀r∈ys,r.length=sz):RdL ss sz (.sl c ys) ys:=⟨h,.inr (.inl ⟨c,rfl⟩)⟩
end
attribute [go_sem] Qec O7 Ts Tt Qmx Qmy Qmz O3 Kl List.zip_nil_right List.zip_nil_left
 Qif Qbj Qig Qie P6 O8 O9 Qek Qei Qih TA Qej NS Qel Tz P5 Qid Qbi Qk8 Qk9 Qc6 List.not_mem_nil
end Go.Proofs.Shadow
namespace Go.Proofs.Shadow
open Go Go.RowKit
section
variable {P:Program} {E:Nat->Prop}
theorem F1 {g:Option Bool} {A B A' B':Prop} (h:IC g A B) (ha:A->A') (hb:B->B'):IC g A' B':=by
 obtain ⟨t,h1,h2,h3⟩:=h;exact ⟨t,h1,fun x=>ha (h2 x),fun x=>hb (h3 x)⟩
theorem Dn {D:List (Option Tmp)} : ∀(L:List Oper) {K K':AS->Prop} {s:AS},L7 P D L K s->(∀s',K s'->K' s')->L7 P D L K' s
 | [],_,_,_,h,hk=>hk _ h
 | o :: os,K,K',s,h,hk=>F1 h (fun h=>IX h (fun s' hs=>Dn os hs hk)) (fun h=>Dn os h hk)
theorem Sp {ops:Array Oper} {K K':AS->Prop} {s:AS} (h:N0 P ops K s) (hk:∀s',K s'->K' s'):N0 P ops K' s :=
 fun n ss0 w0 a w Q hok hR hQ=>h n ss0 w0 a w Q hok hR (fun a w hp=>by
  obtain ⟨s1,h1,h2⟩:=hp
  exact hQ a w ⟨s1,hk _ h1,h2⟩)
theorem A3:∀(c:Code) {Q Q':AX->AS->Prop} {s:AS},Jr P c Q s->(∀x s',Q x s'->Q' x s')->Jr P c Q' s:=by
 intro c
 induction c with
 | skip=>exact fun h hq=>hq _ _ h
 | region id ops draw =>
  intro Q Q' s h hq
  cases draw with
  | false=>exact Dn _ h (hq _)
  | true=>exact Sp h (hq _)
 | seq x y ihx ihy =>
  intro Q Q' s h hq;refine ihx h (fun e s' h1=>?_)
  cases e with
  | nrm=>exact ihy h1 hq
  | ex id=>exact hq _ _ h1
  | ret=>exact hq _ _ h1
 | cond c x y ihx ihy =>
  intro Q Q' s h hq
  rcases h with ⟨t,h1,h2,h3⟩ | ⟨h1,h2,h3⟩
  ·exact .inl ⟨t,h1,fun z=>ihx (h2 z) hq,fun z=>ihy (h3 z) hq⟩
  ·exact .inr ⟨h1,ihx h2 hq,ihy h3 hq⟩
 | block id c ih =>
  intro Q Q' s h hq;refine ih h (fun e s' h1=>?_)
  cases e with
  | nrm=>exact hq _ _ h1
  | ret=>exact hq _ _ h1
  | ex id' =>
   simp only [OC] at h1 ⊢;split
   ·rename_i he;rw [if_pos he] at h1;exact hq _ _ h1
   ·rename_i he;rw [if_neg he] at h1;exact hq _ _ h1
 | loop c ih =>
  intro Q Q' s h hq;intro X hX;refine h X (fun s hs=>hX s (ih hs (fun e s' h2=>?_)))
  cases e with
  | nrm=>exact h2
  | ex id=>obtain ⟨s2,hk,h2⟩:=h2;exact ⟨s2,hk,hq _ _ h2⟩
  | ret=>obtain ⟨s2,hk,h2⟩:=h2;exact ⟨s2,hk,hq _ _ h2⟩
 | exit id=>exact fun h hq=>hq _ _ h
 | ret=>exact fun h hq=>hq _ _ h
 | _=>exact fun h _=>h.elim
def low (lo:Nat) (J T:Nat->AV):Nat->AV:=fun i=>if i < lo then T i else J i
theorem Qhf (lo:Nat) (J T:Nat->AV) (i:Nat):low lo J T i=if i < lo then T i else J i:=(rfl)
theorem Qcs {T T':Nat->AV} {ss:Sto} {d:Nat} {v:AV} (lo:Nat) (hd:T' d=v) (h:∀i,i < lo->i≠d->T' i=T i):∃J,(⟨T',ss⟩:AS)=⟨upd (low lo J T) d v,ss⟩:=by
 refine ⟨T',?_⟩
 congr 1
 funext i;simp only [upd,low];split
 ·rename_i hi;subst hi;exact hd
 ·split
  ·rename_i h1 h2;exact h i h2 h1
  ·rfl
theorem Qfr (lo d:Nat) (v:AV) {g:Option Bool} {o:Oper} {D:List (Option Tmp)} {os:List Oper} {T:Nat->AV} {ss:Sto} {K:AS->Prop}
  (h:aGd P g o ⟨T,ss⟩ (L7 P D os fun s'=>∃J,s'=⟨upd (low lo J T) d v,ss⟩)) (hK:∀J,K ⟨upd (low lo J T) d v,ss⟩):aGd P g o ⟨T,ss⟩ (L7 P D os K):=by
 have hm:∀s',L7 P D os (fun s'=>∃J,s'=⟨upd (low lo J T) d v,ss⟩) s'->L7 P D os K s':=fun s' hs=>Dn os hs (fun s1 ⟨J,hJ⟩=>by subst hJ;exact hK J);exact F1 h (fun h=>IX h hm) (hm _)
theorem Qh5 (lo d:Nat) (v:AV) {g:Option Bool} {c:Cl} {o:Oper} {D:List (Option Tmp)} {os:List (Cl × Oper)} {T:Nat->AV} {ss:Sto} {K:AS->Prop}
  (h:tGd P E g c o ⟨T,ss⟩ (E2 P E D os fun s'=>∃J,s'=⟨upd (low lo J T) d v,ss⟩)) (hK:∀J,K ⟨upd (low lo J T) d v,ss⟩):tGd P E g c o ⟨T,ss⟩ (E2 P E D os K):=by
 have hm:∀s',E2 P E D os (fun s'=>∃J,s'=⟨upd (low lo J T) d v,ss⟩) s'->E2 P E D os K s':=fun s' hs=>Ce os hs (fun s1 ⟨J,hJ⟩=>by subst hJ;exact hK J)
 cases g with
 | none=>obtain ⟨t,h1,_⟩:=h;cases h1
 | some t =>
  obtain ⟨t',h1,h2,h3⟩:=h;refine ⟨t',h1,fun ht=>?_,fun ht=>hm _ (h3 ht)⟩;have h2:=h2 ht
  cases c with
  | v=>exact (EH (D:=D) (c:=.v) (o:=⟨o.dst,o.op,o.type,o.pos,o.after,none⟩) (K:=E2 P E D os fun s'=>∃J,s'=⟨upd (low lo J T) d v,ss⟩) ⟨true,rfl,fun _=>h2,fun h=>by cases h⟩ hm).elim (fun t ht=>by
    obtain ⟨h5,h6,h7⟩:=ht;cases h5
    exact h6 rfl)
  | x=>exact IX h2 (fun s' hs=>⟨hs.1,hm _ hs.2⟩)
  | z=>exact IX h2 hm
theorem Vy (M:AS->Prop) {c:AV} {x y:Code} {Q:AX->AS->Prop} {s:AS} (h:Sn P c x y (thn M Q) s) (hM:∀s',M s'->Q .nrm s'):Sn P c x y Q s:=by
 have hm:∀e s',thn M Q e s'->Q e s':=fun e s' he=>by
  cases e with
  | nrm=>exact hM _ he
  | ex id=>exact he
  | ret=>exact he
 rcases h with ⟨t,h1,h2,h3⟩ | ⟨h1,h2,h3⟩
 ·exact .inl ⟨t,h1,fun z=>A3 x (h2 z) hm,fun z=>A3 y (h3 z) hm⟩
 ·exact .inr ⟨h1,A3 x h2 hm,A3 y h3 hm⟩
theorem Yd {c:Code} {Q:AX->AS->Prop} {s:AS} (h:Jr P c (thn (TS P (Jr P c) Q) (wkQ P Q)) s):TS P (Jr P c) Q s:=by
 intro X hX;refine hX s (A3 c h (fun x s' hx=>?_))
 cases x with
 | nrm=>exact hx X hX
 | ex id=>exact hx
 | ret=>exact hx
abbrev aLp (P:Program) (c:Code) (Q:AX->AS->Prop) (s:AS):Prop:=TS P (Jr P c) Q s
end
attribute [go_sem] Qhf
end Go.Proofs.Shadow
