/- The program's patterns: names, literals, dots, variables, and when a pattern is valid. -/
import Derived.Test.YtiiamkelehfnoaaGreatDoorRm
set_option linter.unusedVariables false
set_option linter.unusedSimpArgs false
set_option maxRecDepth 100000
open Go Go.Proofs Go.Proofs.Shadow
open _root_.Bool renaming false_eq_true → Qo, not_true → Z0, not_false → ZZ, false_or → Z8, true_or → Xo, false_ne_true → Xp, true_and → Z7, and_eq_false_iff → Xq, false_and → Xa, and_self → Xt, or_false → Xu, or_eq_false_iff → Xg
open _root_.ByteArray renaming mk → Qd
open _root_.List renaming getElem_mem → ZU, length_nil → ZQ, length_take → Z3, length_cons → ZR, take_succ_eq_append_getElem → ZT, getElem?_eq_getElem → Qj, mem_cons_of_mem → Kh, mem_cons_self → KF, getD_eq_getElem?_getD → Qy, mem_iff_getElem → Z1, append_assoc → QD, drop_eq_getElem_cons → ZL, mem_or_eq_of_mem_set → Xr, any_cons → Z2, length_append → QX, any_eq_false → Xi, drop_of_length_le → KR, take_of_length_le → Xs, mem_of_mem_take → QI, all_eq_not_any_not → Xv, length_set → Xw, drop_drop → Xf, drop_zero → KT, take_zero → Xx, getElem_range → Xy, getElem_take → Z5
open Tot renaming bind → ZN, ite → ZP
open Hit renaming depth → Zc, name → Zg
open _root_.Nat renaming lt_or_ge → KD
open Fm renaming nodes → ZW
namespace Go.Proofs.SA
theorem Ef {α:Type} {F:Nat->List α->Option (Int ⊕ Unit)} (p:α->Bool) (hn:∀i,F i []=some (.inr ())) (l:List α) (hc:∀x∈l,∀i r,F i (x :: r)=if p x=true then some (.inl (i:Int)) else F (i+1) r) :
  (∃j,∃hj:j < l.length,F 0 l=some (.inl (j:Int))/\p l[j]=true/\l.any p=true/\l.find? p=some l[j])∨(F 0 l=some (.inr ())/\l.any p=false/\l.find? p=none):=by
 rcases N9 F p hn l 0 hc with ⟨j,hj,h1,h2⟩ | ⟨h1,h2⟩
 ·have hp:=List.find?_some h2;exact .inl ⟨j,hj,by rw [h1];congr 3;omega,hp,List.any_eq_true.2 ⟨_,ZU hj,hp⟩,h2⟩
 ·refine .inr ⟨h1,?_,h2⟩;rw [Xi];intro x hx;have:=List.find?_eq_none.1 h2 x hx;simpa using this
theorem Qcs (l:List Fm) (f:Fm):(l.any fun x=>decide (x=f))=decide (f∈l):=by
 induction l with
 | nil=>rfl
 | cons x l ih =>
  rw [Z2,ih]
  by_cases h:x=f
  ·subst h;simp
  ·have h2:¬f=x:=fun e=>h e.symm;simp [h,h2]
theorem Oc (l:List Fm) (f:Fm) (h:FS l):AR l f=some (decide (f∈l)):=by
 have hl:=h.1;rw [AR,Vs,VD,HO _ _ (by unfold Sm at hl;omega),← Qcs]
 rcases Ef (F:=YV l f) (fun x=>decide (x=f)) (fun _=>rfl) l (fun x hx i r=>by
  rw [YV,Yf,X8,Bz,Oe x (h.2 x hx)]
  simp only [Yf,X8]) with ⟨j,hj,h1,h2,h3,_⟩ | ⟨h1,h3,_⟩
 ·rw [h1,h3,X8];simp only [Yf,X8];rw [decide_eq_true (by omega)]
 ·rw [h1,h3];rfl
theorem Od {f:Fm} (hf:f.sz < 1000000000):Tot (Ar f) fun b=>b=true↔f.kind=1/\FV f:=by
 rw [Ar]
 by_cases hk:f.kind=1
 ·rw [if_pos hk];obtain ⟨b,e,hb⟩:=Sd hf;rw [e,X8,Yf,X8,Yf];exact ⟨_,rfl,fun h=>⟨hk,hb.1 h⟩,fun h=>hb.2 h.2⟩
 ·rw [if_neg hk];exact ⟨_,rfl,fun h=>(by cases h),fun h=>absurd h.1 hk⟩
theorem FS.take {l:List Fm} (h:FS l) (i:Nat):FS (l.take i):=⟨by have:=h.1;unfold Sm at *;rw [Z3];omega,fun f hf=>h.2 f (QI hf)⟩
noncomputable def Qnm (l:List Fm) (i:Nat) (x:Fm):Bool:=@decide (¬((x.kind=1/\FV x/\x.name≠BT/\x.name≠LY)/\x∉l.take i)) (Classical.propDecidable _)
theorem Ty {l:List Fm} {i:Nat} {x:Fm} (h:¬((x.kind=1/\FV x/\x.name≠BT/\x.name≠LY)/\x∉l.take i)):Qnm l i x=true:=by unfold Qnm;exact @decide_eq_true _ (Classical.propDecidable _) h
theorem Qlq {l:List Fm} {i:Nat} {x:Fm} (h:(x.kind=1/\FV x/\x.name≠BT/\x.name≠LY)/\x∉l.take i):Qnm l i x=false:=by unfold Qnm;exact @decide_eq_false _ (Classical.propDecidable _) (fun hn=>hn h)
theorem Qg2 {l:List Fm} {i:Nat} {x:Fm} (h:Qnm l i x=true):¬((x.kind=1/\FV x/\x.name≠BT/\x.name≠LY)/\x∉l.take i):=fun hh=>by rw [Qlq hh] at h;cases h
theorem Qg1 {l:List Fm} {i:Nat} {x:Fm} (h:Qnm l i x=false):(x.kind=1/\FV x/\x.name≠BT/\x.name≠LY)/\x∉l.take i:=Classical.byContradiction fun hh=>by rw [Ty hh] at h;cases h
theorem F9 {l:List Fm} (hs:FS l):Tot (HJ l) fun b=>b=true↔Qal l:=by
 have hl:=hs.1;rw [HJ,E5 _ (by unfold Sm at hl;omega)]
 rcases NX (Jv l) l (Qnm l) false (fun _=>rfl) (fun i hi r=>by
  have hm:l[i]∈l:=ZU hi;obtain ⟨b1,e1,hb1⟩:=Od (f:=l[i]) (by have:=hs.2 _ hm;omega);rw [Jv,Yf,X8,e1,X8,Yf,X8,Yf,X8];have hlt:Lp l 0 (i:Int)=some (l.take i):=B9 l i (by omega);rw [hlt];simp only [X8,Yf];rw [Oc _ _ (hs.take i),X8];cases b1
  ·have:¬(l[i].kind=1/\FV l[i]):=fun h=>by have:=hb1.2 h;cases this
   simp only [ZZ,Xo,if_true,X8];rw [if_pos (Ty fun h=>this ⟨h.1.1,h.1.2.1⟩)]
  ·have h0:=hb1.1 rfl;simp only [Z0,Z8]
   by_cases h2:l[i].name=BT
   ·have h2':=h2;unfold BT at h2';simp only [h2',decide_true,Xo,if_true,X8];rw [if_pos (Ty fun h=>h.1.2.2.1 h2)]
   ·have h2':=h2;unfold BT at h2'
    by_cases h3:l[i].name=LY
    ·have h3':=h3;unfold LY at h3';simp only [h3',decide_true,Bool.or_true,if_true,X8];rw [if_pos (Ty fun h=>h.1.2.2.2 h3)]
    ·have h3':=h3;unfold LY at h3';simp only [h2',h3',decide_false,Xu,Qo,if_false,X8]
     by_cases h4:l[i]∈l.take i
     ·simp only [h4,decide_true,if_true];rw [if_pos (Ty fun h=>h.2 h4)]
     ·simp only [h4,decide_false,Qo,if_false]
      rw [Qlq ⟨⟨h0.1,h0.2,h2,h3⟩,h4⟩,if_neg Xp]) with ⟨h7,i,hi,hp⟩ | ⟨h7,hp⟩
 ·rw [h7,X8];refine ⟨_,rfl,fun h=>(by cases h),fun h=>?_⟩;exact absurd ⟨h.2.1 _ (ZU hi),AD.1 h.2.2 i hi⟩ (Qg2 hp)
 ·have hall:∀i,∀hi:i < l.length,(l[i].kind=1/\FV l[i]/\l[i].name≠BT/\l[i].name≠LY)/\l[i]∉l.take i:=fun i hi=>Qg1 (hp i hi);rw [h7,X8];refine ⟨_,rfl,?_⟩;show decide _=true↔_;rw [decide_eq_true_iff];constructor
  ·intro h;refine ⟨by omega,fun x hx=>?_,AD.2 fun i hi=>(hall i hi).2⟩;obtain ⟨i,hi,rfl⟩:=Z1.1 hx;exact (hall i hi).1
  ·intro h;have:=h.1;omega
theorem Ca (f:Fm):Wx f (Qd #[46,46,46])=some (YT f):=rfl
theorem Qf5 (l:List Fm) (h:l.length<=1099511627776):∃v:Int,Be l=some v/\((v≥0/\l.any YT=true/\∃j:Nat,∃hj:j < l.length,v=(j:Int)/\YT l[j]=true/\l.find? YT=some l[j])∨(v=-1/\l.any YT=false)):=by
 rw [Be,Vy,Hv _ (by omega)]
 rcases Ef (F:=YR l) YT (fun _=>rfl) l (fun x hx i r=>by
  rw [YR,Yf,X8,Ai,Ca]
  simp only [Yf,X8]) with ⟨j,hj,h1,h2,h3,h4⟩ | ⟨h1,h3,_⟩
 ·rw [h1];exact ⟨(j:Int),rfl,.inl ⟨by omega,h3,j,hj,rfl,h2,h4⟩⟩
 ·rw [h1];exact ⟨-1,rfl,.inr ⟨rfl,h3⟩⟩
mutual
def Qed (once:Bool):Fm->Bool
 | .mk _ _ _ _ ks=>SM once true false ks
def SM (once:Bool):Bool->Bool->List Fm->Bool
 | _,_,[]=>true
 | b,s,f :: fs=>if YT f=true then (if (b||(once&&s))=true then false else SM once true true fs) else if Qed once f=true then SM once false s fs else false
end
theorem UG (once:Bool) (f:Fm):Qed once f=SM once true false f.kids:=by cases f;rw [Qed];rfl
theorem Sv:∀(l:List Fm) (b:Bool) (n:Nat),2<=n->PC b n l=false
 | [],b,n,h=>by rw [PC];simp;omega
 | f :: fs,b,n,h=>by
  rw [PC];have h1:=Sv fs true (n+1) (by omega);have h2:=Sv fs false n h;split
  ·split
   ·rfl
   ·exact h1
  ·split
   ·exact h2
   ·rfl
theorem Qbw:∀(l:List Fm),(∀f∈l,Qbv f=(!YT f&&Qed true f))->∀(b:Bool) (n:Nat),n<=1->PC b n l=SM true b (decide (1<=n)) l
 | [],_,b,n,h=>by rw [PC,SM];simpa using h
 | f :: fs,hf,b,n,h=>by
  have h1:=Qbw fs (fun g hg=>hf g (Kh _ hg));rw [PC,SM]
  by_cases hd:YT f=true
  ·rw [if_pos hd,if_pos hd];cases b
   ·simp only [Z8,Z7,Qo,if_false]
    by_cases hn:n=1
    ·subst hn;rw [Sv fs true 2 (by omega)];rfl
    ·have:n=0:=by omega
     subst this;rw [h1 true 1 (by omega)];rfl
   ·simp
  ·rw [if_neg hd,if_neg hd,hf f (KF ..)]
   have:YT f=false:=by cases hi:YT f;rfl;exact absurd hi hd
   rw [this,ZZ,Z7,h1 false n h]
theorem Qkf (p:Fm):Qbv p=(!YT p&&Qed true p):=by
 induction p using Fm.ind with
 | h p ih =>
  rw [OB,UG,Qbw p.kids ih true 0 (by omega)];cases YT p<;>rfl
theorem Ob (once:Bool):∀p:Fm,p.sz<=1000000->H9 p once=some (Qed once p):=by
 intro p
 induction p using Fm.ind with
 | h p ih =>
  intro hp;have hz:=Fm.G6 p
  have loop:∀(r:List Fm) (i:Nat),p.kids.drop i=r->JM p once i r=some (if SM once (decide (i=0)||(match p.kids[i - 1]? with | some f=>YT f | none=>false)) ((p.kids.take i).any YT) r=true then .inr () else .inl false):=by
   intro r
   induction r with
   | nil=>intro i _;rw [JM,SM];rfl
   | cons f r ihr =>
    intro i hd
    have hi:i < p.kids.length:=by
     rcases KD i p.kids.length with h | h
     ·exact h
     ·rw [KR h] at hd;cases hd
    have hd2:p.kids.drop (i+1)=r:=by rw [← Xf,hd];rfl
    have hf:p.kids[i]=f:=by rw [ZL hi] at hd;injection hd
    have hm:f∈p.kids:=hf▸ZU hi;have hk:=Fm.J7 hm
    have ht:p.kids.take (i+1)=p.kids.take i++[f]:=by rw [ZT hi,hf]
    have hsub:(p.kids[i+1 - 1]?)=some f:=by rw [Nat.add_sub_cancel,Qj hi,hf]
    have hstep:=ihr (i+1) hd2;rw [hsub,ht,List.any_append] at hstep;simp only [Nat.add_eq_zero_iff,Nat.succ_ne_zero,and_false,decide_false,Z8,Z2,List.any_nil,Xu] at hstep;rw [JM,SM,Yf,X8,Ca,X8]
    by_cases hdt:YT f=true
    ·rw [hdt] at hstep ⊢;simp only [if_true];obtain ⟨v,hv,hv2⟩:=Qf5 (p.kids.take i) (by rw [Z3];omega);have hls:Lp p.kids 0 (i:Int)=some (p.kids.take i):=B9 _ _ (by omega);rw [hls];simp only [X8,hv,Yf]
     have hvd:decide (v≥0)=(p.kids.take i).any YT:=by
      rcases hv2 with ⟨h1,h2,_⟩ | ⟨h1,h2⟩
      ·rw [h2,decide_eq_true h1]
      ·rw [h2,decide_eq_false (by omega)]
     rw [hvd]
     have hprev:(if (i:Int)=0 then some true else (idx p.kids (IntKind.i64.wrap ((i:Int) - 1))>>=fun x24=>(Wx x24 (Qd #[46,46,46])>>=fun x26=>some x26)):Option Bool)=some (decide (i=0)||(match p.kids[i - 1]? with | some f=>YT f | none=>false)):=by
      by_cases h0:i=0
      ·subst h0;simp
      ·rw [if_neg (by omega),Y3 (by omega) (by omega),show ((i:Int) - 1)=((i - 1:Nat):Int) by omega,Yk _ (i - 1) (by omega),Qj (by omega),decide_eq_false h0];simp only [X8,Ca,Z8]
     rw [hprev];simp only [X8];generalize (decide (i=0)||(match p.kids[i - 1]? with | some f=>YT f | none=>false))=bb at *;generalize (p.kids.take i).any YT=ss at *;simp only [Bool.or_true] at hstep
     cases bb<;>cases once<;>cases ss<;>simp only [Z8,Xo,Bool.and_true,Bool.and_false,Z7,Xa,if_true,if_false,Qo,X8]<;>first | exact hstep | rfl
    ·have hdf:YT f=false:=by cases hi:YT f;rfl;exact absurd hi hdt
     rw [hdf] at hstep ⊢;simp only [Xu] at hstep;simp only [Qo,if_false];rw [ih f hm (by omega),X8];cases Qed once f
     ·simp
     ·simp only [Z0,Qo,if_false,if_true];exact hstep
  have:=loop p.kids 0 (KT ..);simp only [decide_true,Xo,Xx,List.any_nil] at this;rw [H9,M6 _ _ (by omega),this,UG];cases SM once true false p.kids<;>rfl
end Go.Proofs.SA
namespace Go.Proofs.SA
theorem Qc6 (f:Fm) (ls:List Fm) (h:FS ls):Dm f ls=some (Sn ls f):=by
 rw [Dm,Sn];unfold BT LY
 by_cases h1:f.kind=1
 ·by_cases h2:f.name=Qd #[46,46,46]
  ·simp only [h1,decide_eq_true h2,Yf,X8];rfl
  ·by_cases h3:f.name=Qd #[95]
   ·simp only [h1,decide_eq_false h2,decide_eq_true h3,Yf,X8];rfl
   ·simp only [h1,decide_eq_false h2,decide_eq_false h3,Yf,X8,Oc ls f h];rfl
 ·simp only [h1,decide_false,Yf,X8];rfl
theorem Qbh {ks:List Fm} {i:Nat} {f:Fm} {r:List Fm} (hd:ks.drop i=f :: r) (hl:ks.length<=1099511627776) :
  ((if (IntKind.i64.wrap ((i:Int)+1)) < (ks.length:Int) then (idx ks (IntKind.i64.wrap ((i:Int)+1))>>=fun x37=>(Wx x37 (Qd #[46,46,46])>>=fun x39=>pure x39)) else pure false:Option Bool))=some (Wo r):=Ou hd hl
theorem Tr (ls:List Fm) (h:FS ls):∀(p:Fm) (d:Int) (c0:List Fm) (c1:List Int),p.sz<=1000000->0<=d->d+p.nodes<=10000000->c0.length+p.nodes<=10000000->c1.length+p.nodes<=10000000->WG p ls d c0 c1=some (c0++vrs ls p,c1++dps ls d p):=by
 intro p
 induction p using Fm.ind with
 | h p ih =>
  intro d c0 c1 hp h0 h1 hc0 hc1;have hn:=Fm.Vr p;have hl:=Jd p.kids;have hz:=Fm.G6 p
  have loop:∀(r:List Fm) (i:Nat) (z:List Int) (y:List Fm),p.kids.drop i=r->z.length+VF ZW r<=10000000->y.length+VF ZW r<=10000000->V5 p ls d z y i r=some (z++Rt ls d r,y++Nv ls r):=by
   intro r
   induction r with
   | nil=>intro i z y _ _ _;rw [V5,Yf];simp [Rt,Nv]
   | cons f r ihr =>
    intro i z y hd hz2 hy2
    have hi:i < p.kids.length:=by
     rcases KD i p.kids.length with h | h
     ·exact h
     ·rw [KR h] at hd;cases hd
    have hd2:p.kids.drop (i+1)=r:=by rw [← Xf,hd];rfl
    have hm:f∈p.kids:=by rw [ZL hi] at hd;injection hd with e1 e2;exact e1▸ZU hi
    have hk:=Ip hm;have hks:=Fm.J7 hm;rw [VF] at hz2 hy2;have b1:=RY ls;have b2:=BL ls f
    have key:∀d':Int,0<=d'->d'<=d+1->(WG f ls d' y z>>=fun x64=>V5 p ls d x64.2 x64.1 (i+1) r)=some (z++(dps ls d' f++Rt ls d r),y++(vrs ls f++Nv ls r)):=fun d' q0 q1=>by
     have b3:=b1 d' f;rw [ih f hm d' y z (by omega) q0 (by omega) (by omega) (by omega),X8]
     simp only
     rw [ihr (i+1) _ _ hd2 (by rw [QX];omega) (by rw [QX];omega),QD,QD]
    rw [V5,Qbh hd (by omega),Rt,Nv];simp only [Yf,X8];cases Wo r
    ·simp only [Qo,if_false,X8];exact key d h0 (by omega)
    ·simp only [if_true,X8,Y3 (show -9223372036854775808<=d+1 by omega) (show d+1 < 9223372036854775808 by omega)];exact key (d+1) (by omega) (Int.le_refl _)
  have start:∀(z:List Int) (y:List Fm),z.length+VF ZW p.kids<=10000000->y.length+VF ZW p.kids<=10000000->(VT p ls d z y 0>>=fun (e:List Int × List Fm)=>some (e.2,e.1))=some (y++Nv ls p.kids,z++Rt ls d p.kids):=fun z y hz2 hy2=>by
   rw [Em _ _ _ _ _ (by omega),loop _ _ _ _ (KT ..) hz2 hy2,X8]
  rw [WG,Qc6 p ls h,X8,S6,MZ];cases Sn ls p
  ·simp only [Qo,if_false,Yf,X8,List.nil_append];exact start c1 c0 (by omega) (by omega)
  ·simp only [if_true,Yf,X8];rw [Y6 (by simp;omega),X8,Yk _ c0.length (by simp),X8,Y6 (by simp;omega),X8,X8]
   have hset:(c0++[Fm.mk 0 (Qd #[]) 0 [] []]).set (c0.length:Int).toNat p=c0++[p]:=by simp
   rw [hset,← QD,← QD];exact start (c1++[d]) (c0++[p]) (by simp;omega) (by simp;omega)
theorem La (ls:List Fm) (h:FS ls) (p:Fm) (hp:p.sz<=1000000):Bf p ls=some (vrs ls p,dps ls 0 p):=by
 have:=Fm.ND p;rw [Bf,Tr ls h p 0 [] [] hp (by omega) (by omega) (by simp;omega) (by simp;omega)];rfl
theorem Ts {p:Fm} (hp:p.sz<=100000) {ls:List Fm} (h:FS ls):Tot (HI p ls) fun b=>b=true↔Qib ls p:=by
 rw [HI];obtain ⟨b1,e1,hb1⟩:=Sd (f:=p) (by omega);rw [e1,X8];cases b1
 ·simp only [ZZ,if_true,Yf,X8];exact ⟨_,rfl,fun h=>(by cases h),fun h=>(by have:=hb1.2 h.1;cases this)⟩
 simp only [Z0,Qo,if_false];have hfv:=hb1.1 rfl;have hnn:=hfv.2;obtain ⟨b2,e2,hb2⟩:=F9 h;rw [e2];simp only [Yf,X8];cases b2
 ·simp only [ZZ,if_true,Yf,X8];exact ⟨_,rfl,fun h=>(by cases h),fun h=>(by have:=hb2.2 h.2.1;cases this)⟩
 have hsh:=Qkf p;simp only [Z0,Qo,if_false,Ca,X8];cases hd:YT p;rotate_left
 ·rw [hd] at hsh;simp only [if_true,X8];exact ⟨_,rfl,fun h=>(by cases h),fun h=>(by have h9:=h.2.2.1;rw [hsh] at h9;cases h9)⟩
 rw [hd] at hsh;simp only [Qo,if_false,Ob true p (by omega),X8];cases hk:Qed true p
 ·rw [hk] at hsh;simp only [ZZ,if_true,X8];exact ⟨_,rfl,fun h=>(by cases h),fun h=>(by have h9:=h.2.2.1;rw [hsh] at h9;cases h9)⟩
 rw [hk] at hsh;have hs:Qbv p=true:=hsh;simp only [Z0,Qo,if_false,La ls h p (by omega),X8];have hvl:=BL ls p;have hdl:=FN ls p 0;rw [D0 _ _ (by show (vrs ls p).length < _;omega)]
 have hvs:∀x∈vrs ls p,x.sz<=1000000:=fun x hx=>by have:=SJ ls p x hx;omega
 rcases NX (WJ p (vrs ls p,dps ls 0 p)) (vrs ls p) (fun i x=>decide (x∈(vrs ls p).take i)||decide ((dps ls 0 p).getD i 0 > 3)) false (fun _=>rfl) (fun i hi r=>by
  have hlt:Lp (vrs ls p) 0 (i:Int)=some ((vrs ls p).take i):=B9 _ i (by omega);rw [WJ];simp only [Yf,X8,hlt];rw [Oc _ _ ⟨by unfold Sm;rw [Z3];omega,fun f hf=>hvs f (QI hf)⟩,X8,Yk (dps ls 0 p) i (by omega),Jr (d:=0) (show i < (dps ls 0 p).length by omega)];cases decide ((vrs ls p)[i]∈(vrs ls p).take i)
  ·simp only [Qo,if_false,X8,Z8]
  ·simp only [if_true,X8,Xo]) with ⟨h7,i,hi,hp2⟩ | ⟨h7,hp2⟩
 ·rw [h7,X8];refine ⟨_,rfl,fun h=>(by cases h),fun h=>?_⟩;rw [Bool.or_eq_true,decide_eq_true_iff,decide_eq_true_iff] at hp2
  rcases hp2 with hp2 | hp2
  ·exact absurd hp2 (AD.1 h.2.2.2.1 i hi)
  ·rw [Jr (show i < (dps ls 0 p).length by omega)] at hp2;have:=h.2.2.2.2.1 _ (ZU (show i < (dps ls 0 p).length by omega));omega
 ·have hnd:(vrs ls p).Nodup:=AD.2 fun i hi=>by
   have:=hp2 i hi;rw [Xg] at this;exact of_decide_eq_false this.1
  have hd3:∀d∈dps ls 0 p,d<=3:=fun d hd=>by
   obtain ⟨i,hi,rfl⟩:=Z1.1 hd;have:=hp2 i (by omega);rw [Xg,Jr hi] at this;have:=of_decide_eq_false this.2;omega
  rw [h7,X8];refine ⟨_,rfl,?_⟩;show decide _=true↔_;rw [decide_eq_true_iff];constructor
  ·intro hl;exact ⟨hfv,hb2.1 rfl,hs,hnd,hd3,by omega⟩
  ·intro h;have:=h.2.2.2.2.2;omega
end Go.Proofs.SA
namespace Go.Proofs.SA
theorem MQ {H:List Hit} (h:HS H) (f:Fm):Az (H.map Zg) (H.map Zc) f=some (D7 H f):=by
 have hl:=h.1;rw [Az];unfold D7
 by_cases hk:f.kind=1
 ·rw [if_pos hk,if_pos hk,Vu,Hc _ _ (by rw [List.length_map];unfold Sm at hl;omega)]
  rcases N9 (fun i (r:List Hit)=>YO (H.map Zg) f i (r.map Zg)) (fun x=>decide (x.name=f)) (fun _=>rfl) H 0 (fun x hx i r=>by
   simp only [List.map_cons];rw [YO,Yf,X8,IJ,Oe _ (h.2 x hx).1]
   simp only [Yf,X8]) with ⟨j,hj,h1,h2⟩ | ⟨h1,h2⟩
  ·rw [h1,X8];simp only [Yf,X8];rw [if_neg (by omega),Yk (H.map Zc) (0+j) (by rw [List.length_map];omega)];unfold Qgu;rw [h2];simp [X8]
  ·rw [h1,X8];unfold Qgu;rw [h2];simp [X8,Yf]
 ·rw [if_neg hk,if_neg hk];rfl
noncomputable def N0 (H:List Hit) (r:Int) (x:Fm):Bool:=x.all.any fun g=>decide (D7 H g > r)
theorem Qao (p:Fm->Bool):∀l:List Fm,(Fm.Qis l).any p=l.any fun t=>t.all.any p
 | []=>rfl
 | f :: l=>by rw [Fm.Qis,List.any_append,Qao p l];rfl
theorem Qav (H:List Hit) (r:Int) (x:Fm):N0 H r x=(decide (D7 H x > r)||x.kids.any (N0 H r)):=by
 unfold N0;obtain ⟨k,s,n,sc,ks⟩:=x;rw [Fm.all,Z2,Qao];rfl
theorem UI {H:List Hit} (h:HS H) (r:Int):∀x:Fm,x.sz<=1000000->∀b:Bool,Y2 x b (H.map Zg) (H.map Zc) r=some (b||N0 H r x):=by
 intro x
 induction x using Fm.ind with
 | h x ih =>
  intro hx b;have hz:=Fm.G6 x
  have c1:∀b,Aj x b (H.map Zg) (H.map Zc) r=some (b||decide (D7 H x > r)):=fun b=>by
   rw [Aj];cases b
   ·simp only [Qo,if_false,MQ h,X8,Yf,Z8]
   ·simp only [if_true,X8,Yf,Xo]
  have loop:∀(l:List Fm),(∀g∈l,g∈x.kids)->∀(i:Nat) (b:Bool),Y7 x (H.map Zg) (H.map Zc) r b i l=some (b||l.any (N0 H r)):=by
   intro l
   induction l with
   | nil=>intro _ i b;rw [Y7,Yf];simp
   | cons f l ihl =>
    intro hl i b;have hm:=hl f (KF ..);have:=Fm.J7 hm;rw [Y7,Yf,X8,ih f hm (by omega),X8,ihl (fun g hg=>hl g (Kh _ hg)),Z2,Bool.or_assoc]
  rw [Y2,c1,X8,AM _ _ _ _ _ (by omega),loop _ (fun _ h=>h),X8,Yf,Qav,Bool.or_assoc]
mutual
noncomputable def Qh7 (H:List Hit):Int->Fm->Bool
 | r,.mk k s n sc ks=>!decide (D7 H (.mk k s n sc ks) > r)&&Un H r ks
noncomputable def Un (H:List Hit):Int->List Fm->Bool
 | _,[]=>true
 | r,x :: xs=>if YT x=true then Un H r xs else if Wo xs=true then (N0 H r x&&Qh7 H (r+1) x&&Un H r xs) else (Qh7 H r x&&Un H r xs)
end
theorem Qhc (H:List Hit) (r:Int) (t:Fm):Qh7 H r t=(!decide (D7 H t > r)&&Un H r t.kids):=by cases t;rw [Qh7];rfl
theorem UM {H:List Hit} (h:HS H):∀t:Fm,t.sz<=1000000->∀r:Int,0<=r->r+t.nodes<=10000000->Ht t (H.map Zg) (H.map Zc) r=some (Qh7 H r t):=by
 intro t
 induction t using Fm.ind with
 | h t ih =>
  intro ht r h0 h1;have hz:=Fm.G6 t;have hn:=Fm.Vr t
  have loop:∀(l:List Fm) (i:Nat),t.kids.drop i=l->W2 t (H.map Zg) (H.map Zc) r i l=some (if Un H r l=true then .inr () else .inl false):=by
   intro l
   induction l with
   | nil=>intro i _;rw [W2,Un];rfl
   | cons f l ihl =>
    intro i hd
    have hi:i < t.kids.length:=by
     rcases KD i t.kids.length with h | h
     ·exact h
     ·rw [KR h] at hd;cases hd
    have hd2:t.kids.drop (i+1)=l:=by rw [← Xf,hd];rfl
    have hm:f∈t.kids:=by rw [ZL hi] at hd;injection hd with e1 e2;exact e1▸ZU hi
    have hk:=Ip hm;have hks:=Fm.J7 hm;have hnx:=Qbh hd (by omega);simp only [Yf,Ca,X8] at hnx;rw [W2,Un];simp only [Yf,X8,Ca];cases hdt:YT f
    ·simp only [Qo,if_false];rw [hnx,X8];cases Wo l
     ·simp only [Qo,if_false];rw [ih f hm (by omega) r h0 (by omega),X8];cases Qh7 H r f
      ·simp
      ·simp only [Z0,Qo,if_false,Z7];exact ihl _ hd2
     ·simp only [if_true];rw [UI h r f (by omega),X8,Z8];cases N0 H r f
      ·simp
      ·simp only [Z0,Qo,if_false,Z7];rw [Y3 (by omega) (by omega),ih f hm (by omega) (r+1) (by omega) (by omega),X8];cases Qh7 H (r+1) f
       ·simp
       ·simp only [Z0,Qo,if_false,Z7];exact ihl _ hd2
    ·simp only [if_true];exact ihl _ hd2
  rw [Ht,MQ h,X8,Qhc]
  by_cases hdp:D7 H t > r
  ·rw [if_pos hdp,decide_eq_true hdp];rfl
  ·rw [if_neg hdp,decide_eq_false hdp,M7 _ _ _ _ (by omega),loop _ _ (KT ..)];cases Un H r t.kids<;>rfl
def Qk8 (H:List Hit) (r:Int) (H':List Hit):Prop:=∀f,(D7 H f > r->D7 H' f=D7 H f - r)/\(D7 H f<=r->D7 H' f<=0)
theorem Qf3 (H:List Hit) (f:Fm):D7 (Ln H) f=if 0 < D7 H f then D7 H f - 1 else D7 H f:=by
 unfold D7
 by_cases hk:f.kind=1
 ·rw [if_pos hk,if_pos hk]
  have:Qgu (Ln H) f=(Qgu H f).map fun h=>.mk h.name (if 0 < h.depth then h.depth - 1 else h.depth) h.one []:=by
   unfold Qgu Ln;rw [List.find?_map];rfl
  rw [this]
  cases Qgu H f with
  | none=>simp
  | some x=>rfl
 ·rw [if_neg hk,if_neg hk,if_neg (by omega)]
theorem Qk8.next {H H':List Hit} {r:Int} (h:Qk8 H r H'):Qk8 H (r+1) (Ln H'):=fun f=>by
 obtain ⟨h1,h2⟩:=h f;rw [Qf3];constructor
 ·intro hd;have:=h1 (by omega);rw [if_pos (by omega)];omega
 ·intro hd
  by_cases hc:D7 H f<=r
  ·have:=h2 hc;rw [if_neg (by omega)];exact this
  ·have:=h1 (by omega);rw [if_pos (by omega)];omega
theorem Qdm {H H':List Hit} {r:Int} (h:Qk8 H r H') (f:Fm):Me H' f=N0 H r f:=by
 induction f using Fm.ind with
 | h f ih =>
  have key:∀l:List Fm,(∀g∈l,Me H' g=N0 H r g)->l.any (Me H')=l.any (N0 H r):=by
   intro l
   induction l with
   | nil=>intro _;rfl
   | cons x l ihl=>intro hl;rw [Z2,Z2,hl x (KF ..),ihl fun g hg=>hl g (Kh _ hg)]
  rw [Qbt,Qav,key _ ih];obtain ⟨h1,h2⟩:=h f
  congr 1
  by_cases hd:D7 H f > r
  ·rw [decide_eq_true hd,decide_eq_true (by have:=h1 hd;omega)]
  ·rw [decide_eq_false hd,decide_eq_false (by have:=h2 (by omega);omega)]
theorem Qok {H:List Hit} : ∀(t:Fm) (r:Int) (H':List Hit),Qk8 H r H'->Qh8 t H'=(!YT t&&Qed false t&&Qh7 H r t):=by
 intro t
 induction t using Fm.ind with
 | h t ih =>
  intro r H' hL
  have loop:∀(l:List Fm),(∀g∈l,g∈t.kids)->∀(b s:Bool),Qef b l H'=(SM false b s l&&Un H r l):=by
   intro l
   induction l with
   | nil=>intro _ b s;rw [Qef,SM,Un];rfl
   | cons f l ihl =>
    intro hl b s;have hm:=hl f (KF ..);have ihl:=ihl fun g hg=>hl g (Kh _ hg);rw [Qef,SM,Un];cases hd:YT f
    ·simp only [Qo,if_false];cases hh:Wo l
     ·simp only [Qo,if_false];rw [ih f hm r H' hL,hd,ihl false s];cases Qed false f<;>cases Qh7 H r f<;>cases SM false false s l<;>cases Un H r l<;>rfl
     ·simp only [if_true];rw [Qdm hL,ih f hm (r+1) (Ln H') hL.next,hd,ihl false s];cases N0 H r f<;>cases Qed false f<;>cases Qh7 H (r+1) f<;>cases SM false false s l<;>cases Un H r l<;>rfl
    ·simp only [if_true,Xa,Xu];rw [ihl true true];cases b<;>cases SM false true true l<;>cases Un H r l<;>rfl
  obtain ⟨h1,h2⟩:=hL t;rw [Qhw,loop t.kids (fun _ h=>h) true false,Qhc,UG]
  have:decide (0 < D7 H' t)=decide (D7 H t > r):=by
   by_cases hd:D7 H t > r
   ·rw [decide_eq_true hd,decide_eq_true (by have:=h1 hd;omega)]
   ·rw [decide_eq_false hd,decide_eq_false (by have:=h2 (by omega);omega)]
  rw [this];cases YT t<;>cases decide (D7 H t > r)<;>cases SM false true false t.kids<;>cases Un H r t.kids<;>rfl
theorem Qk8.zero (H:List Hit):Qk8 H 0 H:=fun f=>⟨fun _=>by omega,fun h=>h⟩
theorem Tw {H:List Hit} (h:HS H) {t:Fm} (ht:t.sz<=100000):Tot (IN t (H.map Zg) (H.map Zc)) fun b=>b=true↔FV t/\Qh8 t H=true:=by
 have hn:=Fm.ND t;rw [IN];obtain ⟨b1,e1,hb1⟩:=Sd (f:=t) (by omega);rw [e1,X8,Qok t 0 H (Qk8.zero H)];cases b1
 ·simp only [Qo,if_false,X8,Yf];exact ⟨_,rfl,fun h=>(by cases h),fun h=>(by have:=hb1.2 h.1;cases this)⟩
 have hfv:=hb1.1 rfl;simp only [if_true,Ca,X8,Yf];cases YT t
 ·simp only [ZZ,if_true,Ob false t (by omega),X8,Z7];cases Qed false t
  ·simp only [Qo,if_false,X8,Xa];exact ⟨_,rfl,fun h=>(by cases h),fun h=>(by cases h.2)⟩
  ·simp only [if_true,UM h t (by omega) 0 (by omega) (by omega),X8,Z7];exact ⟨_,rfl,fun h=>⟨hfv,h⟩,fun h=>h.2⟩
 ·simp only [Z0,Qo,if_false,X8,Xa];exact ⟨_,rfl,fun h=>(by cases h),fun h=>(by cases h.2)⟩
theorem U3 (p:Fm) (ls:List Fm):(DW p ls).map Zg=vrs ls p:=by
 unfold DW;rw [List.map_map];refine List.ext_getElem (by simp) fun i h1 h2=>?_;simp only [List.getElem_map,Xy,Function.comp];rw [Qy,Qj h2];rfl
theorem TP (p:Fm) (ls:List Fm):(DW p ls).map Zc=dps ls 0 p:=by
 unfold DW;rw [List.map_map];refine List.ext_getElem (by simp [FN ls p 0]) fun i h1 h2=>?_;simp only [List.getElem_map,Xy,Function.comp];show (dps ls 0 p).getD i 0=_;rw [Qy,Qj h2];rfl
theorem Se {ls:List Fm} (h:FS ls) {r:Rul} (h1:r.pat.sz<=100000) (h2:r.tpl.sz<=100000):Tot (Ah r ls) fun b=>b=true↔Qb8 ls r:=by
 rw [Ah];obtain ⟨b1,e1,hb1⟩:=Ts h1 h;rw [e1];simp only [X8,Yf];cases b1
 ·simp only [ZZ,Xo,if_true];exact ⟨_,rfl,fun h=>(by cases h),fun h=>(by have:=hb1.2 h.1;cases this)⟩
 have hp:=hb1.1 rfl;simp only [Z0,Z8]
 by_cases hk:r.pat.kind=3
 rotate_left
 ·rw [decide_eq_false hk];simp only [ZZ,Xo,if_true];exact ⟨_,rfl,fun h=>(by cases h),fun h=>absurd h.2.1 hk⟩
 rw [decide_eq_true hk];simp only [Z0,Z8]
 by_cases hl:(r.pat.kids.length:Int)=0
 ·rw [decide_eq_true hl,if_pos rfl];exact ⟨_,rfl,fun h=>(by cases h),fun h=>by have:=h.2.2.1;omega⟩
 rw [decide_eq_false hl,if_neg Xp,La ls h _ (by omega),X8]
 simp only
 have hs:=(TO ls r.pat (by have:=hp.1.2;omega) (by omega)).1;have:=Tw hs h2;rw [U3,TP] at this;obtain ⟨b2,e2,hb2⟩:=this;rw [e2,X8];exact ⟨_,rfl,fun h=>⟨hp,hk,by omega,(hb2.1 h).1,(hb2.1 h).2⟩,fun h=>hb2.2 ⟨h.2.2.2.1,h.2.2.2.2⟩⟩
noncomputable def Qq7 (ls:List Fm) (r:Rul):Bool:=@decide (¬Qb8 ls r) (Classical.propDecidable _)
theorem Ps {ls:List Fm} (h:FS ls) {rs:List Rul} (hr:RS rs):Tot (AA rs ls) fun b=>b=true↔Fp ls rs:=by
 have hl:=hr.1;rw [AA]
 by_cases h9:(rs.length:Int)<=9
 rotate_left
 ·rw [if_neg h9,Yf,X8,if_neg Xp];exact ⟨_,rfl,fun h=>(by cases h),fun h=>by have:=h.1;omega⟩
 rw [if_pos h9];obtain ⟨b1,e1,hb1⟩:=F9 h;rw [e1];simp only [X8,Yf];cases b1
 ·simp only [Qo,if_false];exact ⟨_,rfl,fun h=>(by cases h),fun h=>(by have:=hb1.2 h.2.2;cases this)⟩
 have hlit:=hb1.1 rfl;simp only [if_true];rw [Vk,Vv,Hf _ _ (by unfold Sm at hl;omega)]
 rcases Ef (F:=YP rs ls) (Qq7 ls) (fun _=>rfl) rs (fun x hx i r=>by
  obtain ⟨b,e,hb⟩:=Se h (hr.2 x hx).1 (hr.2 x hx).2;rw [YP,Yf,X8,IM,e];simp only [Yf,X8]
  have:Qq7 ls x=!b:=by
   unfold Qq7;cases b
   ·exact @decide_eq_true _ (Classical.propDecidable _) fun hh=>by have:=hb.2 hh;cases this
   ·exact @decide_eq_false _ (Classical.propDecidable _) fun hn=>hn (hb.1 rfl)
  rw [this]) with ⟨j,hj,q1,q2,q3,_⟩ | ⟨q1,q3,_⟩
 ·rw [q1,X8];simp only [Yf,X8];rw [decide_eq_true (show ((j:Int)≥0) by omega)];refine ⟨_,rfl,fun h=>(by cases h),fun h=>?_⟩;have:=h.2.1 _ (ZU hj);unfold Qq7 at q2;exact absurd this (@of_decide_eq_true _ (Classical.propDecidable _) q2)
 ·rw [q1,X8];simp only [Yf,X8];refine ⟨_,rfl,fun _=>⟨by omega,fun r hr=>?_,hlit⟩,fun _=>rfl⟩;have:=Xi.1 q3 r hr;unfold Qq7 at this;exact Classical.byContradiction fun hn=>this (@decide_eq_true _ (Classical.propDecidable _) hn)
end Go.Proofs.SA
namespace Go.Proofs.SA
theorem AP (a b c:Int):V7 a b c=some (decide (a≥b)&&decide (a<=c)):=rfl
theorem Qjm (l:List Int) (x:Int) (h:l.length<=1000000000):W5 l x=some (decide (x∈l)):=by
 rw [W5,HG,CZ _ _ (by omega),← Qe7]
 rcases Ef (F:=Wc l x) (fun y=>decide (y=x)) (fun _=>rfl) l (fun y hy i r=>by
  rw [Wc,Yf,X8]
  by_cases e:x=y
  ·subst e;simp [Yf]
  ·have e2:¬y=x:=fun h=>e h.symm
   simp [e,e2]) with ⟨j,hj,h1,h2,h3,_⟩ | ⟨h1,h3,_⟩
 ·rw [h1,h3,X8];simp only [Yf,X8];rw [decide_eq_true (by omega)]
 ·rw [h1,h3];rfl
theorem Tt (a b:List Int) (ha:Sm a.length) (hb:Sm b.length) (hb2:b.length<=1000000000):Ju a b=some (SO a b):=by
 have:SO a b=!(a.any fun x=>!decide (x∈b)):=by unfold SO;rw [Xv]
 rw [Ju,Vc,Vm,GN _ _ (by unfold Sm at ha;omega),this]
 rcases Ef (F:=YE a b) (fun x=>!decide (x∈b)) (fun _=>rfl) a (fun y hy i r=>by
  rw [YE,Yf,X8,J6,Qjm b y hb2]
  simp only [Yf,X8]) with ⟨j,hj,h1,h2,h3,_⟩ | ⟨h1,h3,_⟩
 ·rw [h1,h3,X8];simp only [Yf,X8];rw [decide_eq_true (show ((j:Int)≥0) by omega)]
 ·rw [h1,h3];rfl
def BN (l:List Bnd):Prop:=l.length<=1000000/\∀b∈l,b.sc.length<=1000000/\b.name.size<=1000000
theorem BN.bs {l:List Bnd} (h:BN l):BS l:=⟨by have:=h.1;unfold Sm;omega,fun b hb=>by have:=(h.2 b hb).1;unfold Sm;omega⟩
theorem NV.sz {s:ByteArray} (h:NV s):s.size<=12:=by
 rcases h with h | h | h
 ·rw [h];decide
 ·rw [h];decide
 ·exact h.2.1
theorem Qc5 (l:List Bnd) (n:Fm) (h:BN l) (hn:n.sc.length<=1000000):By l n=some (LS n 0 l):=by
 have key:∀(r:List Bnd) (z:List Int) (i:Nat),(∀b∈r,b.sc.length<=1000000)->z.length+r.length<=1099511627776->Jh l n z i r=some (z++LS n i r):=by
  intro r
  induction r with
  | nil=>intro z i _ _;rw [Jh,Yf];simp [LS]
  | cons b r ih =>
   intro z i hb hz;simp only [ZR] at hz;have hb':=fun x hx=>hb x (Kh b hx);have hbl:=hb b (KF ..);rw [Jh,LS,Yf,X8]
   by_cases hnm:b.name=n.name
   ·rw [if_pos hnm];simp only [X8,Tt b.sc n.sc (by unfold Sm;omega) (by unfold Sm;omega) (by omega),Yf];cases hs:SO b.sc n.sc
    ·rw [if_neg (by simp),ih z (i+1) hb' (by omega),if_neg (by simp)]
    ·rw [if_pos rfl,Y6 (by simp;omega),X8,ih _ (i+1) hb' (by simp;omega),if_pos ⟨hnm,rfl⟩,QD];rfl
   ·rw [if_neg hnm];simp only [Yf,X8];rw [if_neg (by simp),ih z (i+1) hb' (by omega),if_neg (by simp [hnm])]
 rw [By,L7 _ _ _ (by have:=h.1;omega),key l [] 0 (fun b hb=>(h.2 b hb).1) (by have:=h.1;simp;omega)];rfl
theorem Tq (l:List Bnd) (n:Fm) (h:BN l) (hn:n.sc.length<=1000000):Dl l n=some (findF l n):=by
 have hr:=Di n l 0;have hlen:=Sb n l 0;have hl:=h.1;rw [Dl,Qc5 l n h hn,X8];unfold findF;generalize hX:LS n 0 l=X at hr hlen
 have sm:∀i,(PB l i).length<=1000000:=fun i=>by
  unfold PB;rw [Qy]
  cases hg:l[i.toNat]? with
  | none=>exact Nat.zero_le _
  | some b=>exact (h.2 b (List.mem_of_getElem? hg)).1
 have at':∀k∈X,∃b,idx l k=some b/\b.sc=PB l k:=fun k hk=>by
  have:=hr k hk;exact ⟨_,CG (l:=l) (by omega) (by omega),rfl⟩
 have inner:∀k∈X,Y0 X l k=some (!Qec l X k):=fun k hk=>by
  have hb:Qec l X k=!(X.any fun j=>!SO (PB l j) (PB l k)):=by unfold Qec;rw [Xv]
  obtain ⟨bk,hbk,ek⟩:=at' k hk;rw [Y0,VG,H3 _ _ _ (by omega),hb,Bool.not_not]
  rcases Ef (F:=YZ X l k) (fun j=>!SO (PB l j) (PB l k)) (fun _=>rfl) X (fun j hj i r=>by
   obtain ⟨bj,hbj,ej⟩:=at' j hj;have s1:=sm j;have s2:=sm k;rw [YZ,Yf,X8,AQ,hbj,X8,hbk,X8,ej,ek,Tt _ _ (by unfold Sm;omega) (by unfold Sm;omega) (by omega)]
   simp only [Yf,X8]) with ⟨j,hj,h1,h2,h3,_⟩ | ⟨h1,h3,_⟩
  ·rw [h1,h3,X8];simp only [Yf,X8];rw [decide_eq_true (show ((j:Int)≥0) by omega)]
  ·rw [h1,h3];rfl
 by_cases hx:X.length=0
 ·have:X=[]:=List.eq_nil_of_length_eq_zero hx;subst this;rfl
 rw [if_neg (by omega),Og _ _ _ (by omega)]
 have key:∀(r:List Int) (i:Nat),(∀k∈r,k∈X)->Iv l n X i r=some (match r.find? (Qec l X) with | some k=>.inl (k,1) | none=>.inr ()):=by
  intro r
  induction r with
  | nil=>intro i _;rfl
  | cons k r ih =>
   intro i hk;rw [Iv,Yf,X8,inner k (hk k (KF ..)),X8,Bool.not_not,List.find?_cons];cases Qec l X k
   ·rw [if_neg Xp,ih _ fun y hy=>hk y (Kh _ hy)]
   ·rfl
 rw [key X 0 fun _ h=>h,X8]
 cases X.find? (Qec l X) with
 | some k=>rfl
 | none=>simp only;rw [if_neg hx];rfl
theorem Rx (l:List Mac) (id:Int) (h:l.length<=1000000000):IK l id=some (Ry l id):=by
 have key:∀(r:List Mac) (i:Nat),YI l id i r=some (match r.findIdx? (fun m=>decide (m.id=id)) with | some j=>.inl ((i+j:Nat):Int) | none=>.inr ()):=by
  intro r
  induction r with
  | nil=>intro i;rfl
  | cons m r ih =>
   intro i;rw [YI,Yf,X8,IL,Yf,X8,List.findIdx?_cons]
   by_cases hm:m.id=id
   ·rw [decide_eq_true hm];rfl
   ·rw [decide_eq_false hm,if_neg Xp,ih]
    cases r.findIdx? (fun m=>decide (m.id=id)) with
    | none=>rfl
    | some j=>simp only [Qo,if_false,Option.map_some];congr 3;omega
 rw [IK,Vp,GW _ _ (by omega),key l 0,X8,Ry]
 cases l.findIdx? (fun m=>decide (m.id=id)) with
 | none=>rfl
 | some j=>simp only [Nat.zero_add];rfl
theorem Pr (x:Xpn) (n:Fm) (h:BN x.binds) (hid:∀b∈x.binds,1<=b.id) (hn:n.sc.length<=1000000) (hm:x.macs.length<=1000000000):BA x n=some (DK x n):=by
 rw [BA,Tq x.binds n h hn,X8,DK]
 by_cases h0:(findF x.binds n).2=0
 ·rw [if_pos h0,if_pos h0];rfl
 rw [if_neg h0,if_neg h0]
 by_cases h2:(findF x.binds n).2=2
 ·rw [if_pos h2,if_pos h2];rfl
 have h1:(findF x.binds n).2=1:=by have:=Qgm x.binds n;omega
 have hr:=DG h1;rw [if_neg h2,if_neg h2,CG (l:=x.binds) hr.1 hr.2,X8,AP,X8]
 have hge:1<=(x.binds.getD (findF x.binds n).1.toNat default).id:=by
  rw [Qy,Qj (by omega)];exact hid _ (ZU (by omega))
 rw [decide_eq_true (show (x.binds.getD (findF x.binds n).1.toNat default).id≥1 from hge),Z7]
 by_cases h3:(x.binds.getD (findF x.binds n).1.toNat default).id<=5
 ·rw [decide_eq_true h3,if_pos rfl,if_pos h3];rfl
 ·rw [decide_eq_false h3,if_neg Xp,if_neg h3,Rx _ _ hm,X8]
  by_cases h4:Ry x.macs (x.binds.getD (findF x.binds n).1.toNat default).id≥0
  ·rw [if_pos h4,if_pos h4];rfl
  ·rw [if_neg h4,if_neg h4];rfl
noncomputable def Qpl (l:List Bnd) (i:Nat) (b:Bnd):Bool:=@decide (¬(bOk b/\∀c∈l.take i,¬bEq c b)) (Classical.propDecidable _)
theorem Rs {l:List Bnd} {i:Nat} {b:Bnd} (h:¬(bOk b/\∀c∈l.take i,¬bEq c b)):Qpl l i b=true:=by unfold Qpl;exact @decide_eq_true _ (Classical.propDecidable _) h
theorem Qk9 {l:List Bnd} {i:Nat} {b:Bnd} (h:bOk b/\∀c∈l.take i,¬bEq c b):Qpl l i b=false:=by unfold Qpl;exact @decide_eq_false _ (Classical.propDecidable _) (fun hn=>hn h)
theorem TI {l:List Bnd} : (l.Pairwise fun a b=>¬bEq a b)↔∀i,∀h:i < l.length,∀c∈l.take i,¬bEq c l[i]:=by
 rw [List.pairwise_iff_getElem];constructor
 ·intro h i hi c hc;obtain ⟨j,hj,e⟩:=Z1.1 hc;rw [Z3] at hj;rw [Z5] at e;rw [← e];exact h j i (by omega) hi (by omega)
 ·intro h i j hi hj hij;refine h j hj _ (Z1.2 ⟨i,by rw [Z3];omega,?_⟩);rw [Z5]
theorem Tu (l:List Bnd) (b:Bnd) (h:BN l):∃r,YH l b=some r/\(r=true↔∃c∈l,bEq c b):=by
 rw [YH,Vl,GL _ _ (by have:=h.1;omega)]
 have hp:∀c,(decide (c.name=b.name)&&decide (c.sc=b.sc))=true↔bEq c b:=fun c=>by rw [Bool.and_eq_true,decide_eq_true_iff,decide_eq_true_iff];rfl
 rcases Ef (F:=YD l b) (fun c=>decide (c.name=b.name)&&decide (c.sc=b.sc)) (fun _=>rfl) l (fun c hc i r=>by
  rw [YD,Yf,X8,G9]
  by_cases hn:c.name=b.name
  ·rw [if_pos hn,decide_eq_true hn,Fu _ _ (h.2 c hc).1];simp only [Yf,X8,Z7]
  ·rw [if_neg hn,decide_eq_false hn]
   simp only [Yf,X8,Xa]) with ⟨j,hj,h1,h2,h3,_⟩ | ⟨h1,h3,_⟩
 ·rw [h1];simp only [Yf,X8];rw [decide_eq_true (show ((j:Int)≥0) by omega)];exact ⟨_,rfl,fun _=>⟨_,ZU hj,(hp _).1 h2⟩,fun _=>rfl⟩
 ·rw [h1];simp only [Yf,X8];refine ⟨_,rfl,fun h=>(by cases h),fun ⟨c,hc,he⟩=>?_⟩;have:=Xi.1 h3 c hc;exact absurd ((hp c).2 he) this
theorem Pq {l:List Bnd} (h:BN l):Tot (II l) fun b=>b=true↔BV l:=by
 have hl:=h.1;rw [II,E2 _ (by omega)]
 rcases NX (Js l) l (Qpl l) false (fun _=>rfl) (fun i hi r=>by
  have hm:l[i]∈l:=ZU hi;obtain ⟨q1,q2⟩:=h.2 _ hm;obtain ⟨b1,e1,hb1⟩:=Qg8 (s:=l[i].name) (by omega);obtain ⟨b2,e2,hb2⟩:=Qht (l:=l[i].sc) (by omega);have hlt:Lp l 0 (i:Int)=some (l.take i):=B9 l i (by omega);obtain ⟨b3,e3,hb3⟩:=Tu (l.take i) l[i] ⟨by rw [Z3];omega,fun b hb=>h.2 b (QI hb)⟩;rw [Js,Yf,X8,e1,X8,e2,hlt];simp only [Yf,X8,AP];cases b1
  ·simp only [ZZ,if_true,X8];rw [if_pos (Rs fun hh=>by have:=hb1.2 hh.1.1;cases this)]
  simp only [Z0,Qo,if_false,X8];cases b2
  ·simp only [ZZ,if_true,X8];rw [if_pos (Rs fun hh=>by have:=hb2.2 hh.1.2.1;cases this)]
  simp only [Z0,Qo,if_false,X8]
  by_cases w1:l[i].id≥1
  ·by_cases w2:l[i].id<=999
   ·rw [decide_eq_true w1,decide_eq_true w2];simp only [Xt,Z0,Qo,if_false,e3,X8];cases b3
    ·simp only [Qo,if_false];rw [Qk9 ⟨⟨hb1.1 rfl,hb2.1 rfl,w1,w2⟩,fun c hc he=>by have:=hb3.2 ⟨c,hc,he⟩;cases this⟩]
     simp
    ·simp only [if_true];obtain ⟨c,hc,he⟩:=hb3.1 rfl;rw [if_pos (Rs fun hh=>hh.2 c hc he)]
   ·rw [decide_eq_false w2,Bool.and_false];simp only [ZZ,if_true];rw [if_pos (Rs fun hh=>w2 hh.1.2.2.2)]
  ·rw [decide_eq_false w1,Xa];simp only [ZZ,if_true]
   rw [if_pos (Rs fun hh=>w1 hh.1.2.2.1)]) with ⟨h7,i,hi,hp⟩ | ⟨h7,hp⟩
 ·rw [h7,X8];refine ⟨_,rfl,fun h=>(by cases h),fun hv=>?_⟩;rw [Qk9 ⟨hv.2.1 _ (ZU hi),TI.1 hv.2.2 i hi⟩] at hp;cases hp
 ·have hall:∀i,∀hi:i < l.length,bOk l[i]/\∀c∈l.take i,¬bEq c l[i]:=fun i hi=>Classical.byContradiction fun hn=>by
   have:=hp i hi;rw [Rs hn] at this;cases this
  rw [h7,X8];refine ⟨_,rfl,?_⟩;show decide _=true↔_;rw [decide_eq_true_iff];constructor
  ·intro hl;refine ⟨by omega,fun b hb=>?_,TI.2 fun i hi=>(hall i hi).2⟩;obtain ⟨i,hi,rfl⟩:=Z1.1 hb;exact (hall i hi).1
  ·intro hv;have:=hv.1;omega
end Go.Proofs.SA
namespace Go.Proofs.SA
structure XS (x:Xpn):Prop where
 b:BN x.binds
 l:x.macs.length<=1000000
 m:∀m∈x.macs,MS m
def Qqy (x:Xpn) (i:Nat) (m:Mac):Prop:=(10 < m.id/\m.id<=x.id)/\(∀c∈x.macs.take i,c.id≠m.id)/\Fp m.lits m.rules
structure XV (x:Xpn):Prop where
 b:BV x.binds
 s:0<=x.scope/\x.scope<=99
 i:10<=x.id/\x.id<=999
 t:0<=x.steps/\x.steps<=60
 l:x.macs.length<=60
 n:∀b∈x.binds,b.id<=x.id/\¬(5 < b.id/\b.id<=10)
 m:∀i,∀h:i < x.macs.length,Qqy x i x.macs[i]
theorem Qg4 {l:List Mac} {id:Int} : Ry l id≥0↔∃m∈l,m.id=id:=by
 unfold Ry
 cases hf:l.findIdx? (fun m=>decide (m.id=id)) with
 | none =>
  have:=List.findIdx?_eq_none_iff.1 hf
  simp only
  constructor
  ·intro h;omega
  ·rintro ⟨m,hm,e⟩;have:=this m hm;simp [e] at this
 | some j =>
  obtain ⟨hj,h1,_⟩:=List.findIdx?_eq_some_iff_getElem.1 hf
  simp only
  exact ⟨fun _=>⟨_,ZU hj,by simpa using h1⟩,fun _=>by omega⟩
noncomputable def Qo2 (x:Xpn) (i:Nat) (m:Mac):Bool:=@decide (¬Qqy x i m) (Classical.propDecidable _)
theorem Qbf {x:Xpn} {i:Nat} {m:Mac} (h:¬Qqy x i m):Qo2 x i m=true:=by unfold Qo2;exact @decide_eq_true _ (Classical.propDecidable _) h
theorem Qlr {x:Xpn} {i:Nat} {m:Mac} (h:Qqy x i m):Qo2 x i m=false:=by unfold Qo2;exact @decide_eq_false _ (Classical.propDecidable _) (fun hn=>hn h)
theorem Qj1 {x:Xpn} (h:∀i,∀hi:i < x.macs.length,Qo2 x i x.macs[i]=false):∀i,∀hi:i < x.macs.length,Qqy x i x.macs[i]:=fun i hi=>Classical.byContradiction fun hn=>by
 have:=h i hi;rw [Qbf hn] at this;cases this
theorem Of {x:Xpn} (h:XS x):Tot (Jt x) fun b=>b=true↔XV x:=by
 have hl:=h.l;have hbl:=h.b.1;rw [Jt];obtain ⟨b1,e1,hb1⟩:=Pq h.b;rw [e1];simp only [X8,Yf,AP];have bad:¬XV x->Tot (some false:Option Bool) fun b=>b=true↔XV x:=fun hn=>⟨_,rfl,fun h=>(by cases h),fun h=>absurd h hn⟩;cases b1
 ·simp only [ZZ,if_true,X8,Xo]
  exact bad fun hv=>by have:=hb1.2 hv.b;cases this
 have hbv:=hb1.1 rfl;simp only [Z0,Qo,if_false,X8]
 by_cases s1:(x.scope≥0/\x.scope<=99)
 rotate_left
 ·have:(decide (x.scope≥0)&&decide (x.scope<=99))=false:=by rw [Xq,decide_eq_false_iff_not,decide_eq_false_iff_not];omega
  rw [this];simp only [ZZ,if_true,X8,Xo];exact bad fun hv=>s1 hv.s
 rw [decide_eq_true s1.1,decide_eq_true s1.2];simp only [Xt,Z0,Qo,if_false,X8]
 by_cases s2:(x.id≥10/\x.id<=999)
 rotate_left
 ·have:(decide (x.id≥10)&&decide (x.id<=999))=false:=by rw [Xq,decide_eq_false_iff_not,decide_eq_false_iff_not];omega
  rw [this];simp only [ZZ,if_true,X8,Xo];exact bad fun hv=>s2 hv.i
 rw [decide_eq_true s2.1,decide_eq_true s2.2];simp only [Xt,Z0,Qo,if_false,X8]
 by_cases s3:(x.steps≥0/\x.steps<=60)
 rotate_left
 ·have:(decide (x.steps≥0)&&decide (x.steps<=60))=false:=by rw [Xq,decide_eq_false_iff_not,decide_eq_false_iff_not];omega
  rw [this];simp only [ZZ,if_true,X8,Xo];exact bad fun hv=>s3 hv.t
 rw [decide_eq_true s3.1,decide_eq_true s3.2];simp only [Xt,Z0,Qo,if_false,X8,Z8]
 by_cases s4:(x.macs.length:Int) > 60
 ·rw [decide_eq_true s4,if_pos rfl]
  exact bad fun hv=>by have:=hv.l;omega
 rw [decide_eq_false s4,if_neg Xp]
 have hpb:∀b:Bnd,(decide (b.id > x.id)||(decide (b.id≥6)&&decide (b.id<=10)))=true↔¬(b.id<=x.id/\¬(5 < b.id/\b.id<=10)):=fun b=>by
  rw [Bool.or_eq_true,Bool.and_eq_true,decide_eq_true_iff,decide_eq_true_iff,decide_eq_true_iff];omega
 rw [Y5,Vb,JY _ _ (by omega)]
 rcases Ef (F:=YB x.binds x) (fun b=>decide (b.id > x.id)||(decide (b.id≥6)&&decide (b.id<=10))) (fun _=>rfl) x.binds (fun c hc i r=>by
  rw [YB,Yf,X8,Jp]
  by_cases hn:c.id > x.id
  ·rw [if_pos hn,decide_eq_true hn];simp only [Yf,X8,Xo]
  ·rw [if_neg hn,decide_eq_false hn]
   simp only [Yf,X8,Z8,AP]) with ⟨j,hj,q1,q2,q3,_⟩ | ⟨q1,q3,_⟩
 ·rw [q1,X8];simp only [Yf,X8];rw [decide_eq_true (show ((j:Int)≥0) by omega),if_pos rfl];exact bad fun hv=>(hpb _).1 q2 (hv.n _ (ZU hj))
 rw [q1,X8];simp only [Yf,X8];rw [if_neg (by decide),Dj _ (by omega)];have hn:∀b∈x.binds,b.id<=x.id/\¬(5 < b.id/\b.id<=10):=fun b hb=>Classical.byContradiction fun hh=>Xi.1 q3 b hb ((hpb b).2 hh)
 rcases NX (Wh x) x.macs (Qo2 x) false (fun _=>rfl) (fun i hi r=>by
  have hm:x.macs[i]∈x.macs:=ZU hi;obtain ⟨m1,m2,m3⟩:=h.m _ hm;obtain ⟨b,e,hb⟩:=Ps m1 m2;have hlt:Lp x.macs 0 (i:Int)=some (x.macs.take i):=B9 _ i (by omega);have hma:=Rx (x.macs.take i) x.macs[i].id (by rw [Z3];omega);rw [Wh,Yf,X8,e,hlt];simp only [Yf,X8,AP,hma];cases b
  ·simp only [ZZ,if_true,X8];rw [if_pos (Qbf fun hh=>by have:=hb.2 hh.2.2;cases this)]
  simp only [Z0,Qo,if_false,X8]
  by_cases w:x.macs[i].id≥11/\x.macs[i].id<=x.id
  rotate_left
  ·have:(decide (x.macs[i].id≥11)&&decide (x.macs[i].id<=x.id))=false:=by rw [Xq,decide_eq_false_iff_not,decide_eq_false_iff_not];omega
   rw [this];simp only [ZZ,if_true,X8];rw [if_pos (Qbf fun hh=>w ⟨by have:=hh.1.1;omega,hh.1.2⟩)]
  rw [decide_eq_true w.1,decide_eq_true w.2];simp only [Xt,Z0,Qo,if_false,X8]
  by_cases hex:Ry (x.macs.take i) x.macs[i].id≥0
  ·rw [decide_eq_true hex];simp only [if_true];obtain ⟨c,hc,he⟩:=Qg4.1 hex;rw [if_pos (Qbf fun hh=>hh.2.1 c hc he)]
  ·rw [decide_eq_false hex,Qlr ⟨⟨by omega,w.2⟩,fun c hc he=>hex (Qg4.2 ⟨c,hc,he⟩),hb.1 rfl⟩]) with ⟨h7,i,hi,hp⟩ | ⟨h7,hp⟩
 ·rw [h7,X8];refine bad fun hv=>?_;rw [Qlr (hv.m i hi)] at hp;cases hp
 ·rw [h7,X8];exact ⟨_,rfl,fun _=>⟨hbv,s1,s2,s3,by omega,hn,Qj1 hp⟩,fun _=>rfl⟩
theorem XV.ids {x:Xpn} (h:XV x):∀b∈x.binds,1<=b.id:=fun b hb=>(h.b.2.1 b hb).2.2.1
noncomputable def Qg6 (x:Xpn) (n:Fm):Int × Int:=@ite _ (XV x/\n.kind=1/\FV n) (Classical.propDecidable _) (DK x n) (0,0)
theorem TA {x:Xpn} {n:Fm} (h:XV x/\n.kind=1/\FV n):Qg6 x n=DK x n:=by unfold Qg6;rw [if_pos h]
theorem Lq {x:Xpn} {n:Fm} (h:¬(XV x/\n.kind=1/\FV n)):Qg6 x n=(0,0):=by unfold Qg6;rw [if_neg h]
theorem M3 {x:Xpn} (h:XS x) {n:Fm} (hn:n.sz<=1000000):Ag x n=some (Qg6 x n):=by
 obtain ⟨b1,e1,hb1⟩:=Of h;obtain ⟨b2,e2,hb2⟩:=Od (f:=n) (by omega);have hz:=Fm.G6 n;rw [Ag,e1,X8,e2];cases b1
 ·simp only [ZZ,if_true,Yf,X8];rw [Lq fun hh=>by have:=hb1.2 hh.1;cases this]
 have hv:=hb1.1 rfl;simp only [Z0,Qo,if_false,X8,Yf];cases b2
 ·simp only [ZZ,if_true];rw [Lq fun hh=>by have:=hb2.2 hh.2;cases this]
 simp only [Z0,Qo,if_false];rw [Pr x n h.b hv.ids (by omega) (by have:=h.l;omega),X8,TA ⟨hv,hb2.1 rfl⟩]
end Go.Proofs.SA
namespace Go.Proofs.SA
theorem Qn7:WN=some ⟨[⟨(Qd #[108,97,109,98,100,97]),[],1⟩,⟨(Qd #[105,102]),[],2⟩,⟨(Qd #[113,117,111,116,101]),[],3⟩,⟨(Qd #[108,101,116]),[],4⟩,⟨(Qd #[108,101,116,45,115,121,110,116,97,120]),[],5⟩],[],0,10,0⟩:=by
 rw [WN,IZ,Yf,X8]
 have st:∀(i:Nat) (z:List Bnd) (hi:i < 6),z.length<=5->Y9 [(Qd #[]),(Qd #[108,97,109,98,100,97]),(Qd #[105,102]),(Qd #[113,117,111,116,101]),(Qd #[108,101,116]),(Qd #[108,101,116,45,115,121,110,116,97,120])] z (i:Int)=Y9 [(Qd #[]),(Qd #[108,97,109,98,100,97]),(Qd #[105,102]),(Qd #[113,117,111,116,101]),(Qd #[108,101,116]),(Qd #[108,101,116,45,115,121,110,116,97,120])] (z++[⟨[(Qd #[]),(Qd #[108,97,109,98,100,97]),(Qd #[105,102]),(Qd #[113,117,111,116,101]),(Qd #[108,101,116]),(Qd #[108,101,116,45,115,121,110,116,97,120])][i]'hi,[],(i:Int)⟩]) ((i+1:Nat):Int):=fun i z hi hz=>by
  conv=>lhs;rw [Y9,if_pos (by simp;omega),Yk _ i (by simpa using hi),X8,Y6 (by simp;omega),X8,VV (i:=i) (by omega)]
 rw [show (1:Int)=((1:Nat):Int) from rfl,st 1 [] (by omega) (by simp),st 2 _ (by omega) (by simp),st 3 _ (by omega) (by simp),st 4 _ (by omega) (by simp),st 5 _ (by omega) (by simp),Y9,if_neg (by simp)];rfl
theorem Qi9 (x:Xpn) (b:List Bnd) (z:List Mac) (i:Nat) (m:Mac) (hi:i < x.macs.length) (h:FS x.macs[i].lits):∀(n k:Nat),k+n=x.macs[i].lits.length->Vg x b z (i:Int) m (x.macs[i].lits.take k) (k:Int)=some x.macs[i].lits:=by
 have hl:=h.1;unfold Sm at hl;intro n
 induction n with
 | zero =>
  intro k hk;rw [Vg,Yk _ i hi,X8,if_neg (by omega),Xs (by omega)];rfl
 | succ n ih =>
  intro k hk
  have hkl:k < x.macs[i].lits.length:=by omega
  have hz:=h.2 _ (ZU hkl);rw [Vg,Yk _ i hi,X8,if_pos (by omega),X8,Yk _ k hkl,X8,DB _ (by omega),X8,Y6 (by simp only [Z3,ZR,ZQ];omega),X8,VV (by omega),← ZT hkl];exact ih (k+1) (by omega)
theorem Qja (x:Xpn) (b:List Bnd) (z:List Mac) (i:Nat) (m:Mac) (e:List Fm) (hi:i < x.macs.length) (h:RS x.macs[i].rules) (hr:x.macs[i].rules.length<=400):∀(n k:Nat),k+n=x.macs[i].rules.length->Vh x b z (i:Int) m e (x.macs[i].rules.take k) (k:Int)=some x.macs[i].rules:=by
 intro n
 induction n with
 | zero =>
  intro k hk;rw [Vh,Yk _ i hi,X8,if_neg (by omega),Xs (by omega)];rfl
 | succ n ih =>
  intro k hk
  have hkl:k < x.macs[i].rules.length:=by omega
  obtain ⟨h1,h2⟩:=h.2 _ (ZU hkl);rw [Vh,Yk _ i hi,X8,if_pos (by omega),X8,Yk _ k hkl,X8,DB _ (by omega),X8,DB _ (by omega),X8,Y6 (by simp only [Z3,ZR,ZQ];omega),X8,VV (by omega)]
  have:x.macs[i].rules.take k++[Rul.mk x.macs[i].rules[k].pat x.macs[i].rules[k].tpl]=x.macs[i].rules.take (k+1):=by rw [ZT hkl]
  rw [this];exact ih (k+1) (by omega)
theorem Qi8 (x:Xpn) (hb:BS x.binds) (hbl:x.binds.length<=1000000) (hl:x.macs.length<=1000000) (hm:∀m∈x.macs,MS m):GV x=some x:=by
 have loop:∀(n i:Nat),i+n=x.macs.length->Vf x x.binds (x.macs.take i) (i:Int)=some x.macs:=by
  intro n
  induction n with
  | zero=>intro i hi;rw [Vf,if_neg (by omega),Xs (by omega)];rfl
  | succ n ih =>
   intro i hi
   have hil:i < x.macs.length:=by omega
   obtain ⟨m1,m2,m3⟩:=hm _ (ZU hil);have e1:=Qi9 x x.binds (x.macs.take i) i x.macs[i] hil m1 x.macs[i].lits.length 0 (by omega);have e2:=Qja x x.binds (x.macs.take i) i x.macs[i] x.macs[i].lits hil m2 m3 x.macs[i].rules.length 0 (by omega);rw [Xx] at e1 e2;have e0:((0:Nat):Int)=0:=rfl;rw [e0] at e1 e2;rw [Vf,if_pos (by omega),Yk _ i hil,X8,e1,X8,e2,X8,Y6 (by simp only [Z3,ZR,ZQ];omega),X8,VV (by omega)]
   have:x.macs.take i++[Mac.mk x.macs[i].id x.macs[i].lits x.macs[i].rules]=x.macs.take (i+1):=by rw [ZT hil]
   rw [this];exact ih (i+1) (by omega)
 have:=loop x.macs.length 0 (by omega);rw [Xx] at this;have e0:((0:Nat):Int)=0:=rfl;rw [e0] at this;rw [GV,RX x.binds hb hbl,X8,this,X8];rfl
theorem Tk {f:Fm} (hf:f.sz < 1000000000) (b:Int):Tot (WK f b) fun r=>r.2=0->XI r.1:=by
 rw [WK];refine ZN (Qhf hf b) fun r hr=>?_;refine ZP (fun h=>?_) (fun h=>⟨_,rfl,fun h2=>absurd h2 h⟩);have hx:=(hr.1 h).1;have hl:=hx.m;have hi:=hx.i;have hbl:=hx.b.1;rw [Qi8 r.1 hx.b.bs (by omega) (by omega) hx.mm,X8];exact ⟨_,rfl,fun _=>hx⟩
def BM (m:Nat) (l:List Bnd):Prop:=l.length<=m/\∀b∈l,b.sc.length<=m/\b.name.size<=1000
theorem BM.bn {m:Nat} {l:List Bnd} (h:BM m l) (hm:m<=1000000):BN l:=⟨by have:=h.1;omega,fun b hb=>by have:=h.2 b hb;omega⟩
theorem BM.mono {m k:Nat} {l:List Bnd} (h:BM m l) (hm:m<=k):BM k l:=⟨by have:=h.1;omega,fun b hb=>by have:=h.2 b hb;omega⟩
theorem BV.bm {l:List Bnd} (h:BV l):BM 60 l:=⟨h.1,fun b hb=>⟨by have:=(h.2.1 b hb).2.1.len;omega,by have:=NV.sz (h.2.1 b hb).1;omega⟩⟩
theorem RF {m:Nat} {l:List Bnd} (h:BM m l) (hm:m<=1000) {c:Rdr} {k:Nat} (hc:RdI c k) (hk:k < 1000000000):Tot (AF l c) fun r=>BM (m+1) r.1/\RdI r.2 (k+3):=by
 have hl:=h.1;have hb:=h.bn (by omega);rw [AF,RX l hb.bs (by omega),X8];refine ZP (fun _=>⟨_,rfl,h.mono (by omega),hc.mono (by omega)⟩) (fun hne=>?_);refine ZN (Jn hc (by omega) (by omega)) fun x hx=>?_;obtain ⟨x1,x2,x3⟩:=hx;refine ZN (Jn x3 (by omega) (by omega)) fun d hd=>?_;obtain ⟨_,_,d3⟩:=hd;refine ZP (fun _=>?_) (fun _=>?_)
 ·refine ZN (Cb d3 (by omega) (by simp)) fun v hv=>?_;refine ZN (H8 x1 x2) fun b hbm=>⟨_,rfl,⟨by simp only [Xw];omega,fun y hy=>?_⟩,hv.2⟩
  rcases Xr hy with hy | rfl
  ·have:=h.2 y hy;omega
  ·have:=h.2 b hbm;simp only;omega
 refine ZP (fun _=>?_) (fun _=>?_)
 ·refine ZN (Cb d3 (by omega) (by simp)) fun v hv=>?_;refine ZN (H8 x1 x2) fun b hbm=>?_;have hbb:=h.2 b hbm;refine ZN (AT (by simp only [ZR,ZQ];omega)) fun sc hsc=>⟨_,rfl,⟨by simp only [Xw];omega,fun y hy=>?_⟩,hv.2⟩
  rcases Xr hy with hy | rfl
  ·have:=h.2 y hy;omega
  ·subst hsc;simp only [QX,ZR,ZQ];omega
 refine ZP (fun _=>?_) (fun _=>⟨_,rfl,h.mono (by omega),d3.mono (by omega)⟩);refine ZN (H8 x1 x2) fun b hbm=>?_;refine ZN (AT (by simp only [ZR,ZQ];omega)) fun z hz=>⟨_,rfl,?_,d3.mono (by omega)⟩;subst hz;refine ⟨by simp only [QX,ZR,ZQ];omega,fun y hy=>?_⟩
 rcases List.mem_append.1 hy with hy | hy
 ·have:=h.2 y hy;omega
 ·rw [List.mem_singleton.1 hy];have:=h.2 b hbm;omega
theorem Qfv {l:List Int} (h:∀x∈l,0<=x/\x < 256):Tot (Cp l) fun r=>r.1.sz<=1000100:=by
 unfold Cp;refine ZN (Sl h) fun c hc=>?_;refine ZN (Qf8 hc (by omega)) fun f hf=>?_;refine ZN (Jn hf.2 (by omega) (by omega)) fun x hx=>?_;have hf1:=hf.1;refine ZN (p:=fun y=>(Fm.mk y.2.2.1 y.2.2.2.1 y.2.2.2.2.1 y.2.2.2.2.2.1 y.2.2.2.2.2.2).sz<=1000100/\RdI ⟨y.1,y.2.1⟩ 100000000) (ZP (fun _=>?_) (fun _=>Tot.pure ⟨?_,hx.2.2.mono (by omega)⟩)) fun y hy=>?_
 ·refine ZN (RA f.1 hx.2.2 (by omega) (by omega)) fun g hg=>?_;have:=hg.1;refine ZN (RA g.1 hg.2 (by omega) (by omega)) fun g2 hg2=>Tot.pure ⟨?_,hg2.2.mono (by omega)⟩;have h1:=hg2.1;rw [Fm.G6] at h1
  simp only;rw [Dx];omega
 ·rw [Fm.G6] at hf1
  simp only;rw [Dx];omega
 obtain ⟨y1,y2,y3,y4,y5,y6,y7⟩:=y;exact ZN (Cb hy.2 (by omega) (by simp)) fun z hz=>Tot.pure hy.1
theorem U4 {l:List Int} (h:∀x∈l,0<=x/\x < 256):Tot (A5 l) fun x=>XS x/\BM 62 x.binds:=by
 unfold A5;refine ZN (Qfv h) fun f hf=>?_;refine ZN (Tk (by omega) 20) fun r hr=>?_;refine ZN (p:=fun t=>BM 60 t.2.2.2.2/\t.2.2.2.1.length<=1000000/\∀m∈t.2.2.2.1,MS m) (ZP (fun h0=>?_) (fun _=>?_)) fun t ht=>?_
 ·have hx:=hr h0;have hl:=hx.m;have hi:=hx.i;exact ⟨_,rfl,hx.b.bm,by show r.1.macs.length<=_;omega,hx.mm⟩
 ·rw [Qn7,X8];exact ⟨_,rfl,(Qhn Qby).b.bm,by simp,fun m hm=>by cases hm⟩
 obtain ⟨t1,t2,t3,t4,t5⟩:=t;obtain ⟨hb,hl,hm⟩:=ht;simp only at hb hl hm ⊢;have ok:∀(b:List Bnd) (s i p:Int),BM 62 b->XS ⟨b,t4,s,i,p⟩/\BM 62 b:=fun b s i p hb=>⟨⟨hb.bn (by omega),hl,hm⟩,hb⟩;have hb62:=hb.mono (k:=62) (by omega);refine ZN (Sl h) fun c hc=>?_;refine ZN (Jn hc (by omega) (by omega)) fun x hx=>?_;obtain ⟨_,_,x3⟩:=hx;refine ZP (fun _=>?_) (fun _=>?_)
 ·exact ZN (Cb x3 (by omega) (by simp)) fun v hv=>⟨_,rfl,ok _ _ _ _ hb62⟩
 refine ZP (fun _=>?_) (fun _=>?_)
 ·refine ZN (RF hb (by omega) x3 (by omega)) fun a ha=>?_;exact ZN (RF ha.1 (by omega) ha.2 (by omega)) fun a2 ha2=>⟨_,rfl,ok _ _ _ _ ha2.1⟩
 refine ZP (fun _=>?_) (fun _=>⟨_,rfl,ok _ _ _ _ hb62⟩);refine ZP (fun hpos=>?_) (fun _=>⟨_,rfl,ok _ _ _ _ hb62⟩);refine ZN (Cb x3 (by omega) (by simp)) fun v hv=>?_;refine ZN (H8 (by omega) hpos) fun m0 hm0=>⟨_,rfl,⟨hb.bn (by omega),by simp only [Xw];exact hl,fun m hmm=>?_⟩,hb62⟩
 rcases Xr hmm with hmm | rfl
 ·exact hm m hmm
 ·exact hm m0 hm0
theorem N3 {l:List Int} (h:∀x∈l,0<=x/\x < 256):Tot (Hg l) fun r=>XS r.1/\r.2.sz<=1000000:=by
 unfold Hg;refine ZN (U4 h) fun x hx=>?_;obtain ⟨hs,hb⟩:=hx;refine ZN (Sl h) fun c hc=>?_
 have five:∀s∈[(Qd #[120]),(Qd #[105,102]),(Qd #[111,114]),(Qd #[108,105,115,116]),(Qd #[115,119,97,112])],s.size<=10:=by decide
 have rest:∀{c:Rdr} {k:Nat},RdI c k->k < 1000->Tot (Wa [(Qd #[120]),(Qd #[105,102]),(Qd #[111,114]),(Qd #[108,105,115,116]),(Qd #[115,119,97,112])] c>>=fun x41=>(VK x41.1>>=fun x42=>(Hh x42 x41.2>>=fun x43=>pure (x,x43.1)))) fun r=>XS r.1/\r.2.sz<=1000000:=fun {c k} hc hk=>by
  refine ZN (Qbk hc (by omega) (by simp)) fun s hs2=>?_;have h10:=five _ hs2.1;rw [Qnr,X8]
  have hsz:(Fm.mk 1 s.1 0 [] []).sz<=10:=by rw [Dx];simp only [ZQ,VF];omega
  have hn:=Fm.ND (Fm.mk 1 s.1 0 [] []);refine ZN (Qga _ hs2.2 (by omega) (by omega)) fun d hd=>⟨_,rfl,hs,?_⟩;have:=hd.1
  simp only;omega
 refine ZP (fun hpos=>?_) (fun _=>rest hc (by omega));refine ZN (Jn hc (by omega) (by omega)) fun q hq=>?_;obtain ⟨_,_,q3⟩:=hq;refine ZP (fun _=>?_) (fun _=>rest q3 (by omega));refine ZN (Jn q3 (by omega) (by omega)) fun w hw=>?_;obtain ⟨w1,w2,w3⟩:=hw;refine ZN (H8 w1 w2) fun b hbm=>?_;have hbb:=hb.2 b hbm;refine ZN (AT (by simp only [ZQ];omega)) fun sc hsc=>⟨_,rfl,hs,?_⟩;subst hsc
 simp only
 rw [Dx];simp only [List.nil_append,ZQ,VF];omega
end Go.Proofs.SA
namespace Go.Proofs.SA
def k1:ByteArray:=Qd #[108,97,109,98,100,97]
def k2:ByteArray:=Qd #[105,102]
def k3:ByteArray:=Qd #[113,117,111,116,101]
def k4:ByteArray:=Qd #[108,101,116]
def k5:ByteArray:=Qd #[108,101,116,45,115,121,110,116,97,120]
def Jc:List Bnd:=[⟨k1,[],1⟩,⟨k2,[],2⟩,⟨k3,[],3⟩,⟨k4,[],4⟩,⟨k5,[],5⟩]
def I1:Xpn:=⟨Jc,[],0,10,0⟩
theorem Qlp {l:List Bnd} {x:Bnd} (h:l.length<=10):WT 48 l [x]=some (l++[x]):=Y6 (by simp only [ZR,ZQ];omega)
theorem Tv:GJ=some I1:=by
 have w:∀k:Nat,k < 10->IntKind.i64.wrap ((k:Int)+1)=((k+1:Nat):Int):=fun k hk=>VV (by omega);have i:∀k:Nat,∀h:k < Jq.length,idx Jq (k:Int)=some Jq[k]:=fun k h=>Yk Jq k h
 have go:∀(k:Nat) (z:List Bnd),∀h:k < 5,z.length<=10->Ve z (k:Int)=Ve (z++[⟨Jq[k]'h,[],((k+1:Nat):Int)⟩]) ((k+1:Nat):Int):=by
  intro k z h hz;rw [Ve,if_pos (by omega),i k h,X8,w k (by omega),Qlp hz,X8]
 have e:Ve [] 0=some Jc:=by
  show Ve [] ((0:Nat):Int)=_;rw [go 0 _ (by omega) (by decide),go 1 _ (by omega) (by simp),go 2 _ (by omega) (by simp),go 3 _ (by omega) (by simp),go 4 _ (by omega) (by simp),Ve,if_neg (by omega)];rfl
 rw [GJ,e];rfl
theorem TQ:VJ=some I1:=by
 have hn:IZ=some (Qd #[] :: Jq):=rfl;have w:∀k:Nat,k < 10->IntKind.i64.wrap ((k:Int)+1)=((k+1:Nat):Int):=fun k hk=>VV (by omega)
 have go:∀(k:Nat) (z:List Bnd),∀h:k < (Qd #[] :: Jq).length,z.length<=10->YQ (Qd #[] :: Jq) z (k:Int)=YQ (Qd #[] :: Jq) (z++[⟨(Qd #[] :: Jq)[k]'h,[],(k:Int)⟩]) ((k+1:Nat):Int):=by
  intro k z h hz;have h6:(Qd #[] :: Jq).length=6:=rfl;rw [YQ,if_pos (by omega),Yk _ k h,X8,Qlp hz,X8,w k (by omega)]
 have e:YQ (Qd #[] :: Jq) [] 1=some Jc:=by
  show YQ _ [] ((1:Nat):Int)=_;rw [go 1 _ (by decide) (by decide),go 2 _ (by decide) (by simp),go 3 _ (by decide) (by simp),go 4 _ (by decide) (by simp),go 5 _ (by decide) (by simp),YQ,if_neg (by decide)];rfl
 rw [VJ,hn,X8,e];rfl
theorem Qj3:B8 [] []=some true:=by
 rw [B8,if_pos rfl,Iw,if_neg (by decide)];rfl
theorem Qqz:AB Jc Jc=some true:=by
 have hl:Jc.length=5:=rfl
 have hs:∀b∈Jc,b.sc=[]:=by decide
 have loop:∀(n k:Nat),k+n=Jc.length->W4 Jc Jc (k:Int)=some (.inr ()):=by
  intro n
  induction n with
  | zero=>intro k hk;rw [W4,if_neg (by omega)];rfl
  | succ n ih =>
   intro k hk
   have hkl:k < Jc.length:=by omega
   have h0:=hs _ (ZU hkl);rw [W4,if_pos (by omega),Yk Jc k hkl];simp only [X8,Yf,if_true,decide_true,Z0,Qo,if_false,h0,Qj3];rw [VV (by omega)];exact ih (k+1) (by omega)
 have:=loop 5 0 (by decide);rw [AB,if_pos rfl];show (W4 Jc Jc ((0:Nat):Int)>>=_)=_;rw [this];rfl
theorem Qq0:BB I1 I1=some true:=by
 have e:GK I1 I1 0=some (.inr ()):=by rw [GK,if_neg (by decide)];rfl
 rw [BB];show (AB Jc Jc>>=_)=_;rw [Qqz];simp only [X8,Yf,decide_true,Z0,Bool.or_self,Qo,if_false,e]
theorem Qho:XS I1:=⟨⟨by decide,fun b hb=>by
 have:∀b∈Jc,b.sc.length<=1000000/\b.name.size<=1000000:=by decide
 exact this b hb⟩,by decide,fun m hm=>by cases hm⟩
theorem Qn8:∀b∈Jc,NV b.name:=by
 have key:∀b∈Jc,1<=b.name.size/\b.name.size<=12/\∀j,j < b.name.size->NP b.name j:=by
  intro b hb;simp only [Jc,List.mem_cons,List.not_mem_nil,or_false] at hb
  rcases hb with rfl | rfl | rfl | rfl | rfl<;>refine ⟨by decide,by decide,?_⟩<;>unfold NP<;>decide
 exact fun b hb=>.inr (.inr (key b hb))
theorem Qhp:XV I1:=by
 refine ⟨⟨by decide,fun b hb=>⟨Qn8 b hb,?_,?_⟩,?_⟩,by decide,by decide,by decide,by decide,?_,fun i h=>by cases h⟩
 ·have:∀b∈Jc,b.sc=[]:=by decide
  rw [this b hb];exact ⟨by decide,fun j hj=>by cases hj⟩
 ·have:∀b∈Jc,1<=b.id/\b.id<=999:=by decide
  exact this b hb
 ·have:Jc.Pairwise fun a b=>¬(a.name=b.name/\a.sc=b.sc):=by decide
  exact this
 ·have:∀b∈Jc,b.id<=10/\¬(5 < b.id/\b.id<=10):=by decide
  exact this
theorem Qgn (n:Fm):DK I1 n=if k1=n.name then (1,1) else if k2=n.name then (1,2) else if k3=n.name then (1,3) else if k4=n.name then (1,4) else if k5=n.name then (1,5) else (0,0):=by
 have hs:SO [] n.sc=true:=rfl;have hsub:∀i,SO [] (PB Jc i)=true:=fun _=>rfl
 have h0:∀i:Nat,i < 5->PB Jc (i:Int)=[]:=by
  intro i hi
  have:i=0∨i=1∨i=2∨i=3∨i=4:=by omega
  rcases this with rfl | rfl | rfl | rfl | rfl<;>rfl
 have one:∀i:Nat,i < 5->LS n 0 Jc=[(i:Int)]->findF Jc n=((i:Int),1):=by
  intro i hi e;unfold findF
  have hb:Qec Jc [(i:Int)] (i:Int)=true:=by simp [Qec,h0 i hi,SO]
  rw [e,List.find?_cons,hb]
 have fin:∀i:Nat,i < 5->LS n 0 Jc=[(i:Int)]->DK I1 n=(1,((i+1:Nat):Int)):=by
  intro i hi e;have:=one i hi e;have hx:I1.binds=Jc:=rfl;unfold DK;rw [hx,this]
  have:i=0∨i=1∨i=2∨i=3∨i=4:=by omega
  rcases this with rfl | rfl | rfl | rfl | rfl<;>rfl
 have ne:k1≠k2/\k1≠k3/\k1≠k4/\k1≠k5/\k2≠k3/\k2≠k4/\k2≠k5/\k3≠k4/\k3≠k5/\k4≠k5:=by decide
 obtain ⟨n12,n13,n14,n15,n23,n24,n25,n34,n35,n45⟩:=ne
 by_cases h1:k1=n.name
 ·rw [if_pos h1];refine fin 0 (by omega) ?_
  simp only [Jc,LS,← h1,hs,n12,n13,n14,n15,Ne.symm n12,Ne.symm n13,Ne.symm n14,Ne.symm n15,true_and,false_and,if_true,if_false];try rfl
 rw [if_neg h1]
 by_cases h2:k2=n.name
 ·rw [if_pos h2];refine fin 1 (by omega) ?_
  simp only [Jc,LS,← h2,hs,n12,n23,n24,n25,Ne.symm n12,Ne.symm n23,Ne.symm n24,Ne.symm n25,true_and,false_and,if_true,if_false];try rfl
 rw [if_neg h2]
 by_cases h3:k3=n.name
 ·rw [if_pos h3];refine fin 2 (by omega) ?_
  simp only [Jc,LS,← h3,hs,n13,n23,n34,n35,Ne.symm n13,Ne.symm n23,Ne.symm n34,Ne.symm n35,true_and,false_and,if_true,if_false];try rfl
 rw [if_neg h3]
 by_cases h4:k4=n.name
 ·rw [if_pos h4];refine fin 3 (by omega) ?_
  simp only [Jc,LS,← h4,hs,n14,n24,n34,n45,Ne.symm n14,Ne.symm n24,Ne.symm n34,Ne.symm n45,true_and,false_and,if_true,if_false];try rfl
 rw [if_neg h4]
 by_cases h5:k5=n.name
 ·rw [if_pos h5];refine fin 4 (by omega) ?_
  simp only [Jc,LS,← h5,hs,n15,n25,n35,n45,Ne.symm n15,Ne.symm n25,Ne.symm n35,Ne.symm n45,true_and,false_and,if_true,if_false];try rfl
 rw [if_neg h5]
 have e:LS n 0 Jc=[]:=by
  simp only [Jc,LS,h1,h2,h3,h4,h5,false_and,if_false]
 have:findF I1.binds n=(0,0):=by
  show findF Jc n=_;unfold findF;rw [e];rfl
 unfold DK;rw [this];rfl
theorem Qhm (x15:Xpn × Fm) (m:Int × Int) (h:m=DK I1 x15.2):YJ x15 I1 m 1=some (.inl true)∨(YJ x15 I1 m 1=some (.inr ())/\m=(0,0)):=by
 rw [Qgn] at h;have w:∀k:Nat,k < 10->IntKind.i64.wrap ((k:Int)+1)=((k+1:Nat):Int):=fun k hk=>VV (by omega)
 have go:∀(k:Nat),∀hk:k < (Qd #[] :: Jq).length,YJ x15 I1 m (k:Int)=if x15.2.name=(Qd #[] :: Jq)[k]'hk then some (.inl ((decide (m.1=1))&&(decide (m.2=(k:Int))))) else YJ x15 I1 m ((k+1:Nat):Int):=by
  intro k hk;have h6:(Qd #[] :: Jq).length=6:=rfl;have hi:idx [(Qd #[]),(Qd #[108,97,109,98,100,97]),(Qd #[105,102]),(Qd #[113,117,111,116,101]),(Qd #[108,101,116]),(Qd #[108,101,116,45,115,121,110,116,97,120])] (k:Int)=some ((Qd #[] :: Jq)[k]'hk):=Yk (Qd #[] :: Jq) k hk;rw [YJ,if_pos (by omega),hi,X8,w k (by omega)];rfl
 have g1:=go 1 (by decide);have g2:=go 2 (by decide);have g3:=go 3 (by decide);have g4:=go 4 (by decide);have g5:=go 5 (by decide)
 have g6:YJ x15 I1 m ((6:Nat):Int)=some (.inr ()):=by rw [YJ,if_neg (by decide)];rfl
 show YJ x15 I1 m ((1:Nat):Int)=some (.inl true)∨(YJ x15 I1 m ((1:Nat):Int)=some (.inr ())/\m=(0,0))
 have c:∀j,∀hj:j < (Qd #[] :: Jq).length,∀k,(Qd #[] :: Jq)[j]'hj=k->(x15.2.name=(Qd #[] :: Jq)[j]'hj↔k=x15.2.name):=fun j hj k e=>by rw [e];exact ⟨Eq.symm,Eq.symm⟩
 rw [g1]
 by_cases h1:k1=x15.2.name
 ·rw [if_pos h1] at h;rw [if_pos ((c 1 _ k1 rfl).2 h1),h];exact .inl rfl
 rw [if_neg h1] at h;rw [if_neg (fun q=>h1 ((c 1 _ k1 rfl).1 q)),g2]
 by_cases h2:k2=x15.2.name
 ·rw [if_pos h2] at h;rw [if_pos ((c 2 _ k2 rfl).2 h2),h];exact .inl rfl
 rw [if_neg h2] at h;rw [if_neg (fun q=>h2 ((c 2 _ k2 rfl).1 q)),g3]
 by_cases h3:k3=x15.2.name
 ·rw [if_pos h3] at h;rw [if_pos ((c 3 _ k3 rfl).2 h3),h];exact .inl rfl
 rw [if_neg h3] at h;rw [if_neg (fun q=>h3 ((c 3 _ k3 rfl).1 q)),g4]
 by_cases h4:k4=x15.2.name
 ·rw [if_pos h4] at h;rw [if_pos ((c 4 _ k4 rfl).2 h4),h];exact .inl rfl
 rw [if_neg h4] at h;rw [if_neg (fun q=>h4 ((c 4 _ k4 rfl).1 q)),g5]
 by_cases h5:k5=x15.2.name
 ·rw [if_pos h5] at h;rw [if_pos ((c 5 _ k5 rfl).2 h5),h];exact .inl rfl
 rw [if_neg h5] at h;rw [if_neg (fun q=>h5 ((c 5 _ k5 rfl).1 q)),g6,h];exact .inr ⟨rfl,rfl⟩
theorem FM {l:List Int} (h:∀x∈l,0<=x/\x < 256):Hb l=some true:=by
 unfold Hb
 by_cases hl:(l.length:Int) > 1048576
 ·rw [if_pos hl];rfl
 rw [if_neg hl];obtain ⟨d,hd,hs,hn⟩:=N3 h;obtain ⟨b,hb,hbv⟩:=Of Qho;obtain rfl:=hbv.2 Qhp;rw [hd,X8,Tv,X8,TQ,X8,Qq0,X8];simp only [Z0,Qo,if_false,hb,X8,Yf];rw [M3 Qho hn,X8]
 by_cases hk:d.2.kind=1
 ·rw [if_pos hk];obtain ⟨b2,hb2,hbv2⟩:=Sd (f:=d.2) (by omega);rw [hb2];simp only [X8];cases b2
  ·have:¬(XV I1/\d.2.kind=1/\FV d.2):=fun q=>by have:=hbv2.2 q.2.2;cases this
   rw [Lq this];rfl
  ·have hv:XV I1/\d.2.kind=1/\FV d.2:=⟨Qhp,hk,hbv2.1 rfl⟩;rw [TA hv]
   rcases Qhm d _ rfl with e | ⟨e,e2⟩
   ·rw [e];rfl
   ·rw [e,e2];rfl
 ·rw [if_neg hk];have:¬(XV I1/\d.2.kind=1/\FV d.2):=fun q=>hk q.2.1;rw [Lq this];rfl
end Go.Proofs.SA
