/- The walk through regions whose order is open; small laws for the walk. -/
import Derived.Test.YtiiamkelehfnoaaGreatDoorShJ
open _root_.List renaming zip_cons_cons → Km
set_option linter.unusedVariables false
set_option linter.unusedSimpArgs false
namespace Go.Proofs.Shadow
open Go Go.RowKit
section
variable {P:Program} {E:Nat->Prop}
theorem Qh3 {α:Type} (ops:Array Oper):∀(cl:List α) (k:Nat),cl.length+k=ops.size->(cl.zipIdx k).map (fun p=>(p.1,Ac ops p.2))=cl.zip (ops.toList.drop k)
 | [],k,h=>by simp
 | c :: cl,k,h=>by
  have hk:k < ops.size:=by simp at h;omega
  have hd:ops.toList.drop k=Ac ops k :: ops.toList.drop (k+1):=by
   rw [List.drop_eq_getElem_cons (by simpa using hk)]
   congr 1
   simp [Ac,hk]
  rw [hd,List.zipIdx_cons,List.map_cons,Km,Qh3 ops cl (k+1) (by simp at h;omega)]
theorem Yj {ops:Array Oper} {K:AS->Prop} {s:AS} (E:Nat->Prop) (cl:List Cl) (hchk:S7 P ops cl.zipIdx=true) (h:LI P E (ops.toList.map (·.dst)) (cl.zip ops.toList) K s):RJ P ops K s:=by
 refine Qf9 E cl.zipIdx hchk ?_
 have hl:cl.length=ops.size:=by
  unfold S7 at hchk;simp only [Bool.and_eq_true] at hchk;simpa using hchk.2
 unfold Oz;rw [Qh3 ops cl 0 (by omega)];simpa using h
def tGd (P:Program) (E:Nat->Prop) (g:Option Bool) (c:Cl) (o:Oper) (s:AS) (K:AS->Prop):Prop:=Bv g (match c with | .v=>LU P E o s K | .x=>aop P o s (kp E s.σ K) | .z=>aop P o s K) (K (s.put o.dst Jm))
theorem Qkr (D:List (Option Tmp)) (K:AS->Prop) (s:AS):LI P E D [] K s=K s:=(rfl)
theorem Ui (D:List (Option Tmp)) (c:Cl) (o:Oper) (os:List (Cl × Oper)) (K:AS->Prop) (s:AS):LI P E D ((c,o) :: os) K s=It P E D c o s (LI P E D os K):=(rfl)
theorem Qdx (D:List (Option Tmp)) (c:Cl) (dst:Option Tmp) (op:Op) (ty:TypeId) (pos:String) (af:Array Edge) (s:AS) (K:AS->Prop) :
  It P E D c ⟨dst,op,ty,pos,af,none⟩ s K=tGd P E (some true) c ⟨dst,op,ty,pos,af,none⟩ s K:=(rfl)
theorem Qdy (D:List (Option Tmp)) (c:Cl) (dst:Option Tmp) (op:Op) (ty:TypeId) (pos:String) (af:Array Edge) (g:Nat × Bool) (s:AS) (K:AS->Prop) :
  It P E D c ⟨dst,op,ty,pos,af,some g⟩ s K=tGd P E (gw D s.T (some g)) c ⟨dst,op,ty,pos,af,none⟩ s K:=(rfl)
theorem Qsy (o:Oper) (s:AS) (K:AS->Prop):tGd P E (some true) .v o s K=LU P E o s K:=by simp [tGd,Bv]
theorem Qsz (o:Oper) (s:AS) (K:AS->Prop):tGd P E (some true) .x o s K=aop P o s (kp E s.σ K):=by simp [tGd,Bv]
theorem Qs0 (o:Oper) (s:AS) (K:AS->Prop):tGd P E (some true) .z o s K=aop P o s K:=by simp [tGd,Bv]
theorem T1 (c:Cl) (o:Oper) (s:AS) (K:AS->Prop):tGd P E (some false) c o s K=K (s.put o.dst Jm):=by simp [tGd,Bv]
theorem T2 {t:Bool} {c:Cl} {o:Oper} {s:AS} {K:AS->Prop} (h1:t=true->tGd P E (some true) c o s K) (h2:t=false->K (s.put o.dst Jm)):tGd P E (some t) c o s K:=by
 cases t
 ·rw [T1];exact h2 rfl
 ·exact h1 rfl
theorem Bs {σ:Sto} {K:AS->Prop} {s:AS} (h1:FO E σ s.σ) (h2:K s):kp E σ K s:=⟨h1,h2⟩
theorem FO.new {σ:Sto} {b:Nat} (hb:σ.var b=none) (e:Ent):FO E σ (σ.YG b e):=fun b' e' _ he=>by
 simp only [Sto.YG];rw [if_neg (fun h=>by subst h;rw [hb] at he;cases he)];exact he
theorem FO.RC {σ ss':Sto} (h:ss'.var=σ.var):FO E σ ss':=fun b e _ he=>by rw [h];exact he
section
variable (dst:Option Tmp) (ty:TypeId) (pos:String) (af:Array Edge) (s:AS) (K:AS->Prop)
theorem Qop (x:Operand):LU P E ⟨dst,.move x,ty,pos,af,none⟩ s K=K (s.put dst (aev s.T x)):=(rfl)
theorem Qhy (x:Operand):LU P E ⟨dst,.assign x,ty,pos,af,none⟩ s K=K (s.put dst (aev s.T x)):=(rfl)
theorem Qoq (c a b:Operand):LU P E ⟨dst,.pick c a b,ty,pos,af,none⟩ s K=BX (match aev s.T c with | .bool t=>some (bif t then aev s.T a else aev s.T b) | _=>none) s dst K:=(rfl)
theorem Qoo (t:TypeId) (p:Operand):LU P E ⟨dst,.load t p,ty,pos,af,none⟩ s K=BX (CQ (SN E s.σ) (tk P t) (aev s.T p)) s dst K:=(rfl)
theorem Qac (x:Operand):LU P E ⟨dst,.nilCheck x,ty,pos,af,none⟩ s K=BX (Qoy (aev s.T x)) s dst K:=(rfl)
theorem Uj (t:TypeId) (x:Operand) (f:Nat):LU P E ⟨dst,.fieldAddr t x f,ty,pos,af,none⟩ s K=BX (MK (fo P t f) (aev s.T x)) s dst K:=(rfl)
theorem Uk (t:TypeId) (x i:Operand):LU P E ⟨dst,.indexAddr t x i,ty,pos,af,none⟩ s K=BX (Ur (SN E s.σ) (se P t) (aev s.T x) (aev s.T i)) s dst K:=(rfl)
theorem Qky (t:TypeId) (x i:Operand):LU P E ⟨dst,.index t x i,ty,pos,af,none⟩ s K=BX (LX P t (isS P t) (aev s.T x) (aev s.T i)) s dst K:=(rfl)
theorem Qkw (op:BinOp) (t:TypeId) (x y:Operand) (t2:TypeId):LU P E ⟨dst,.binOp op t x y t2,ty,pos,af,none⟩ s K=BX (Qeb (isB P t) (se P t).isSome op (aev s.T x) (aev s.T y)) s dst K:=(rfl)
theorem Qor (op:UnOp) (t:TypeId) (x:Operand):LU P E ⟨dst,.unOp op t x,ty,pos,af,none⟩ s K=BX (aun op (aev s.T x)) s dst K:=(rfl)
theorem Qd5 (x:Operand) (i:Nat):LU P E ⟨dst,.extract x i,ty,pos,af,none⟩ s K=BX (Qox (aev s.T x) i) s dst K:=(rfl)
theorem Qkx (t:TypeId) (parts:Array (Nat × Operand)):LU P E ⟨dst,.build t parts,ty,pos,af,none⟩ s K=BX (P9 (tz P t) (fps P t) (parts.toList.map fun p=>(p.1,aev s.T p.2))) s dst K:=(rfl)
theorem SI (t:TypeId) (len:Nat) (parts:Array (Nat × Operand)):LU P E ⟨dst,.buildSlice t len parts,ty,pos,af,none⟩ s K=BX (LV (se P t) ((se P t).bind fun k=>tz P k.1).isSome len (parts.toList.map fun p=>(p.1,aev s.T p.2))) s dst K:=(rfl)
theorem Qkz (t:TypeId) (x:Operand) (lo hi mx:Option Operand):LU P E ⟨dst,.slice t x lo hi mx,ty,pos,af,none⟩ s K=BX (Qh4 P t (isS P t) (se P t) (aev s.T x) (lo.map (aev s.T)) (hi.map (aev s.T)) (mx.map (aev s.T))) s dst K:=(rfl)
theorem Qd4 (t d:TypeId) (x:Operand):LU P E ⟨dst,.convert t d x,ty,pos,af,none⟩ s K=BX (if Qqg P t then Up (ik P d) (UN P t) (isS P d) (aev s.T x) else none) s dst K:=(rfl)
theorem Qab (f:FuncId) (caps:Array Operand):LU P E ⟨dst,.makeFunc (.func f) #[] caps,ty,pos,af,none⟩ s K=K (s.put dst (.fn f (caps.toList.map (aev s.T)))):=(rfl)
theorem Qon (f:Operand) (args:Array Operand) (tys:Array TypeId):LU P E ⟨dst,.call ⟨.value f,args,tys⟩,ty,pos,af,none⟩ s K=Qku P (aev s.T f) (args.toList.map (aev s.T)) s dst K:=(rfl)
theorem Qhx (x y:Operand) (t:TypeId):LU P E ⟨dst,.call ⟨.builtin .append,#[x,y],#[t,t]⟩,ty,pos,af,none⟩ s K=Qre (se P t) (aev s.T x) (aev s.T y) s dst K:=by
 simp [LU]
theorem Qrf (x:Operand) (t:TypeId):LU P E ⟨dst,.call ⟨.builtin .len,#[x],#[t]⟩,ty,pos,af,none⟩ s K=BX (if isS P t||(se P t).isSome then Fs (isS P t) (aev s.T x) else none) s dst K:=(rfl)
theorem Qrg (x y:Operand) (tys:Array TypeId):LU P E ⟨dst,.call ⟨.builtin .max,#[x,y],tys⟩,ty,pos,af,none⟩ s K=BX (Qmj (aev s.T x) (aev s.T y)) s dst K:=(rfl)
end
def E0:Nat->Prop:=fun _=>False
theorem Qjn (σ:Sto) (b:Nat):(SN E0 σ).var b=σ.var b:=by simp [SN,E0]
theorem X7 {σ:Sto} {b:Nat} {e:Ent} (h:σ.var b=some e) (hn:¬E b):(SN E σ).var b=some e:=by simp only [SN];rw [if_neg hn];exact h
theorem Qd0 {f:FuncId} {args bs:List AV} {v:AV} {s:AS} {dst:Option Tmp} {K:AS->Prop} (h:VP P f bs v) (hw:Dz args bs) (hK:K (s.put dst v)):Qku P (.fn f []) args s dst K:=⟨f,bs,v,rfl,hw,h,hK⟩
theorem Qdz {e:TypeId} {sz by_:Nat} {x y:AV} {xs ys:List (List AV)} {s:AS} {dst:Option Tmp} {K:AS->Prop} (hsz:0 < sz) (hby:0 < by_) (hx:(x=.Yd/\xs=[])∨x=.sl true xs) (hxr:∀r∈xs,r.length=sz) (hy:(y=.Yd/\ys=[])∨∃c,y=.sl c ys) (hyr:∀r∈ys,r.length=sz)
  (hb:(xs.length+ys.length) * by_<=140737488355328) (hK:K (s.put dst (.sl false (xs++ys)))):Qre (some (e,sz,by_)) x y s dst K:=⟨_,⟨e,sz,by_,xs,ys,rfl,hsz,hby,hx,hxr,hy,hyr,hb,rfl⟩,hK⟩
theorem RdL.sl (σ:Sto) (c:Bool) (sz:Nat) (ys:List (List AV)) (h:∀r∈ys,r.length=sz):RdL σ sz (.sl c ys) ys:=⟨h,.inr (.inl ⟨c,rfl⟩)⟩
end
attribute [go_sem] Qkr Ui Qdx Qdy Qsy Qsz Qs0 T1 Km List.zip_nil_right List.zip_nil_left
 Qop Qhy Qoq Qoo Qac Uj Uk Qky Qkw Qor Qd5 Qkx SI Qkz Qd4 Qab Qon Qhx Qrf Qrg Qjn List.not_mem_nil
end Go.Proofs.Shadow
namespace Go.Proofs.Shadow
open Go Go.RowKit
section
variable {P:Program} {E:Nat->Prop}
theorem NU {g:Option Bool} {A B A' B':Prop} (h:Bv g A B) (ha:A->A') (hb:B->B'):Bv g A' B':=by
 obtain ⟨t,h1,h2,h3⟩:=h;exact ⟨t,h1,fun x=>ha (h2 x),fun x=>hb (h3 x)⟩
theorem FQ {D:List (Option Tmp)} : ∀(L:List Oper) {K K':AS->Prop} {s:AS},Pk P D L K s->(∀s',K s'->K' s')->Pk P D L K' s
 | [],_,_,_,h,hk=>hk _ h
 | o :: os,K,K',s,h,hk=>NU h (fun h=>BQ h (fun s' hs=>FQ os hs hk)) (fun h=>FQ os h hk)
theorem Qcb {ops:Array Oper} {K K':AS->Prop} {s:AS} (h:RJ P ops K s) (hk:∀s',K s'->K' s'):RJ P ops K' s :=
 fun n ss0 w0 a w Q hok hR hQ=>h n ss0 w0 a w Q hok hR (fun a w hp=>by
  obtain ⟨s1,h1,h2⟩:=hp
  exact hQ a w ⟨s1,hk _ h1,h2⟩)
theorem De:∀(c:Code) {Q Q':AX->AS->Prop} {s:AS},GH P c Q s->(∀x s',Q x s'->Q' x s')->GH P c Q' s:=by
 intro c
 induction c with
 | skip=>exact fun h hq=>hq _ _ h
 | region id ops draw =>
  intro Q Q' s h hq
  cases draw with
  | false=>exact FQ _ h (hq _)
  | true=>exact Qcb h (hq _)
 | seq x y ihx ihy =>
  intro Q Q' s h hq;refine ihx h (fun e s' h1=>?_)
  cases e with
  | nrm=>exact ihy h1 hq
  | ex id=>exact hq _ _ h1
  | ret=>exact hq _ _ h1
 | cond c x y ihx ihy =>
  intro Q Q' s h hq
  rcases h with ⟨t,h1,h2,h3⟩ | ⟨h1,h2,h3⟩
  ·exact .inl ⟨t,h1,fun z=>ihx (h2 z) hq,fun z=>ihy (h3 z) hq⟩
  ·exact .inr ⟨h1,ihx h2 hq,ihy h3 hq⟩
 | block id c ih =>
  intro Q Q' s h hq;refine ih h (fun e s' h1=>?_)
  cases e with
  | nrm=>exact hq _ _ h1
  | ret=>exact hq _ _ h1
  | ex id' =>
   simp only [Tx] at h1 ⊢;split
   ·rename_i he;rw [if_pos he] at h1;exact hq _ _ h1
   ·rename_i he;rw [if_neg he] at h1;exact hq _ _ h1
 | loop c ih =>
  intro Q Q' s h hq;intro X hX;refine h X (fun s hs=>hX s (ih hs (fun e s' h2=>?_)))
  cases e with
  | nrm=>exact h2
  | ex id=>obtain ⟨s2,hk,h2⟩:=h2;exact ⟨s2,hk,hq _ _ h2⟩
  | ret=>obtain ⟨s2,hk,h2⟩:=h2;exact ⟨s2,hk,hq _ _ h2⟩
 | exit id=>exact fun h hq=>hq _ _ h
 | ret=>exact fun h hq=>hq _ _ h
 | _=>exact fun h _=>h.elim
def low (lo:Nat) (J T:Nat->AV):Nat->AV:=fun i=>if i < lo then T i else J i
theorem Qnn (lo:Nat) (J T:Nat->AV) (i:Nat):low lo J T i=if i < lo then T i else J i:=(rfl)
theorem Qjc {T T':Nat->AV} {σ:Sto} {d:Nat} {v:AV} (lo:Nat) (hd:T' d=v) (h:∀i,i < lo->i≠d->T' i=T i):∃J,(⟨T',σ⟩:AS)=⟨upd (low lo J T) d v,σ⟩:=by
 refine ⟨T',?_⟩
 congr 1
 funext i;simp only [upd,low];split
 ·rename_i hi;subst hi;exact hd
 ·split
  ·rename_i h1 h2;exact h i h2 h1
  ·rfl
theorem Ql9 (lo d:Nat) (v:AV) {g:Option Bool} {o:Oper} {D:List (Option Tmp)} {os:List Oper} {T:Nat->AV} {σ:Sto} {K:AS->Prop}
  (h:aGd P g o ⟨T,σ⟩ (Pk P D os fun s'=>∃J,s'=⟨upd (low lo J T) d v,σ⟩)) (hK:∀J,K ⟨upd (low lo J T) d v,σ⟩):aGd P g o ⟨T,σ⟩ (Pk P D os K):=by
 have hm:∀s',Pk P D os (fun s'=>∃J,s'=⟨upd (low lo J T) d v,σ⟩) s'->Pk P D os K s':=fun s' hs=>FQ os hs (fun s1 ⟨J,hJ⟩=>by subst hJ;exact hK J);exact NU h (fun h=>BQ h hm) (hm _)
theorem Qog (lo d:Nat) (v:AV) {g:Option Bool} {c:Cl} {o:Oper} {D:List (Option Tmp)} {os:List (Cl × Oper)} {T:Nat->AV} {σ:Sto} {K:AS->Prop}
  (h:tGd P E g c o ⟨T,σ⟩ (LI P E D os fun s'=>∃J,s'=⟨upd (low lo J T) d v,σ⟩)) (hK:∀J,K ⟨upd (low lo J T) d v,σ⟩):tGd P E g c o ⟨T,σ⟩ (LI P E D os K):=by
 have hm:∀s',LI P E D os (fun s'=>∃J,s'=⟨upd (low lo J T) d v,σ⟩) s'->LI P E D os K s':=fun s' hs=>Dy os hs (fun s1 ⟨J,hJ⟩=>by subst hJ;exact hK J)
 cases g with
 | none=>obtain ⟨t,h1,_⟩:=h;cases h1
 | some t =>
  obtain ⟨t',h1,h2,h3⟩:=h;refine ⟨t',h1,fun ht=>?_,fun ht=>hm _ (h3 ht)⟩;have h2:=h2 ht
  cases c with
  | v=>exact (MG (D:=D) (c:=.v) (o:=⟨o.dst,o.op,o.type,o.pos,o.after,none⟩) (K:=LI P E D os fun s'=>∃J,s'=⟨upd (low lo J T) d v,σ⟩) ⟨true,rfl,fun _=>h2,fun h=>by cases h⟩ hm).elim (fun t ht=>by
    obtain ⟨h5,h6,h7⟩:=ht;cases h5
    exact h6 rfl)
  | x=>exact BQ h2 (fun s' hs=>⟨hs.1,hm _ hs.2⟩)
  | z=>exact BQ h2 hm
theorem Wn (M:AS->Prop) {c:AV} {x y:Code} {Q:AX->AS->Prop} {s:AS} (h:Qb9 P c x y (thn M Q) s) (hM:∀s',M s'->Q .nrm s'):Qb9 P c x y Q s:=by
 have hm:∀e s',thn M Q e s'->Q e s':=fun e s' he=>by
  cases e with
  | nrm=>exact hM _ he
  | ex id=>exact he
  | ret=>exact he
 rcases h with ⟨t,h1,h2,h3⟩ | ⟨h1,h2,h3⟩
 ·exact .inl ⟨t,h1,fun z=>De x (h2 z) hm,fun z=>De y (h3 z) hm⟩
 ·exact .inr ⟨h1,De x h2 hm,De y h3 hm⟩
theorem Ye {c:Code} {Q:AX->AS->Prop} {s:AS} (h:GH P c (thn (Qem P (GH P c) Q) (wkQ P Q)) s):Qem P (GH P c) Q s:=by
 intro X hX;refine hX s (De c h (fun x s' hx=>?_))
 cases x with
 | nrm=>exact hx X hX
 | ex id=>exact hx
 | ret=>exact hx
abbrev aLp (P:Program) (c:Code) (Q:AX->AS->Prop) (s:AS):Prop:=Qem P (GH P c) Q s
end
attribute [go_sem] Qnn
end Go.Proofs.Shadow
