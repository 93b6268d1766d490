/- The program's patterns: names, literals, dots, variables, and when a pattern is valid. -/
import Derived.Test.YtiiamkelehfnoaaGreatRm
set_option linter.unusedVariables false
set_option linter.unusedSimpArgs false
set_option maxRecDepth 100000
open Go Go.Proofs Go.Proofs.Shadow
open _root_.Bool renaming false_eq_true → Qq, not_false → ZX, not_true → ZY, false_or → Z6, true_or → Xm, and_eq_false_iff → Xn, true_and → Z5, false_ne_true → Xo, and_self → Xp, false_and → Z8, or_false → Xt, and_eq_true → QG, or_eq_true → Q9, or_eq_false_iff → Xe
open _root_.ByteArray renaming mk → Qk
open _root_.List renaming getElem_mem → ZS, length_take → Z1, getElem?_eq_getElem → Qh, mem_iff_getElem → ZZ, getD_eq_getElem?_getD → Qz, length_nil → ZO, mem_cons_of_mem → Kf, length_cons → ZP, take_succ_eq_append_getElem → ZR, mem_cons_self → KD, append_assoc → QD, any_eq_false → Xg, drop_eq_getElem_cons → ZJ, mem_or_eq_of_mem_set → Xq, any_cons → Z0, length_append → QV, findIdx?_eq_some_iff_getElem → Xh, drop_of_length_le → KP, getElem_take → Z3, take_of_length_le → Xr, mem_of_mem_take → QI, nil_append → QS, findIdx?_eq_none_iff → Xs, all_eq_not_any_not → Xu, length_set → Xv, drop_drop → Xd, drop_zero → KR, take_zero → Xw, getElem_range → Xx
open Tot renaming bind → ZL, ite → ZN
open Hit renaming depth → Za, name → Ze
open _root_.Nat renaming lt_or_ge → KB
open Fm renaming nodes → ZU
namespace Go.Proofs.SA
theorem Et {α:Type} {F:Nat->List α->Option (Int ⊕ Unit)} (p:α->Bool) (hn:∀i,F i []=some (.inr ())) (l:List α) (hc:∀x∈l,∀i r,F i (x :: r)=if p x=true then some (.inl (i:Int)) else F (i+1) r) :
  (∃j,∃hj:j < l.length,F 0 l=some (.inl (j:Int))/\p l[j]=true/\l.any p=true/\l.find? p=some l[j])∨(F 0 l=some (.inr ())/\l.any p=false/\l.find? p=none):=by
 rcases Ou F p hn l 0 hc with ⟨j,hj,h1,h2⟩ | ⟨h1,h2⟩
 ·have hp:=List.find?_some h2;exact .inl ⟨j,hj,by rw [h1];congr 3;omega,hp,List.any_eq_true.2 ⟨_,ZS hj,hp⟩,h2⟩
 ·refine .inr ⟨h1,?_,h2⟩;rw [Xg];intro x hx;have:=List.find?_eq_none.1 h2 x hx;simpa using this
theorem Qc3 (l:List Fm) (f:Fm):(l.any fun x=>decide (x=f))=decide (f∈l):=by
 induction l with
 | nil=>rfl
 | cons x l ih =>
  rw [Z0,ih]
  by_cases h:x=f
  ·subst h;simp
  ·have h2:¬f=x:=fun e=>h e.symm;simp [h,h2]
theorem Ox (l:List Fm) (f:Fm) (h:FS l):A3 l f=some (decide (f∈l)):=by
 have hl:=h.1;rw [A3,Vp,VD,HY _ _ (by unfold Sm at hl;omega),← Qc3]
 rcases Et (F:=YS l f) (fun x=>decide (x=f)) (fun _=>rfl) l (fun x hx i r=>by
  rw [YS,Yf,X6,BF,Oz x (h.2 x hx)]
  simp only [Yf,X6]) with ⟨j,hj,h1,h2,h3,_⟩ | ⟨h1,h3,_⟩
 ·rw [h1,h3,X6];simp only [Yf,X6];rw [decide_eq_true (by omega)]
 ·rw [h1,h3];rfl
theorem Oy {f:Fm} (hf:f.sz < 1000000000):Tot (AB f) fun b=>b=true↔f.kind=1/\FV f:=by
 rw [AB]
 by_cases hk:f.kind=1
 ·rw [if_pos hk];obtain ⟨b,e,hb⟩:=UQ hf;rw [e,X6,Yf,X6,Yf];exact ⟨_,rfl,fun h=>⟨hk,hb.1 h⟩,fun h=>hb.2 h.2⟩
 ·rw [if_neg hk];exact ⟨_,rfl,fun h=>(by cases h),fun h=>absurd h.1 hk⟩
theorem FS.take {l:List Fm} (h:FS l) (i:Nat):FS (l.take i):=⟨by have:=h.1;unfold Sm at *;rw [Z1];omega,fun f hf=>h.2 f (QI hf)⟩
noncomputable def Qnn (l:List Fm) (i:Nat) (x:Fm):Bool:=@decide (¬((x.kind=1/\FV x/\x.name≠BZ/\x.name≠Mc)/\x∉l.take i)) (Classical.propDecidable _)
theorem TH {l:List Fm} {i:Nat} {x:Fm} (h:¬((x.kind=1/\FV x/\x.name≠BZ/\x.name≠Mc)/\x∉l.take i)):Qnn l i x=true:=by unfold Qnn;exact @decide_eq_true _ (Classical.propDecidable _) h
theorem Qlq {l:List Fm} {i:Nat} {x:Fm} (h:(x.kind=1/\FV x/\x.name≠BZ/\x.name≠Mc)/\x∉l.take i):Qnn l i x=false:=by unfold Qnn;exact @decide_eq_false _ (Classical.propDecidable _) (fun hn=>hn h)
theorem Qg8 {l:List Fm} {i:Nat} {x:Fm} (h:Qnn l i x=true):¬((x.kind=1/\FV x/\x.name≠BZ/\x.name≠Mc)/\x∉l.take i):=fun hh=>by rw [Qlq hh] at h;cases h
theorem Qg7 {l:List Fm} {i:Nat} {x:Fm} (h:Qnn l i x=false):(x.kind=1/\FV x/\x.name≠BZ/\x.name≠Mc)/\x∉l.take i:=Classical.byContradiction fun hh=>by rw [TH hh] at h;cases h
theorem Lt {l:List Fm} (hs:FS l):Tot (HU l) fun b=>b=true↔Qau l:=by
 have hl:=hs.1;rw [HU,Fi _ (by unfold Sm at hl;omega)]
 rcases M5 (Jx l) l (Qnn l) false (fun _=>rfl) (fun i hi r=>by
  have hm:l[i]∈l:=ZS hi;obtain ⟨b1,e1,hb1⟩:=Oy (f:=l[i]) (by have:=hs.2 _ hm;omega);rw [Jx,Yf,X6,e1,X6,Yf,X6,Yf,X6];have hlt:LG l 0 (i:Int)=some (l.take i):=Ce l i (by omega);rw [hlt];simp only [X6,Yf];rw [Ox _ _ (hs.take i),X6];cases b1
  ·have:¬(l[i].kind=1/\FV l[i]):=fun h=>by have:=hb1.2 h;cases this
   simp only [ZX,Xm,if_true,X6];rw [if_pos (TH fun h=>this ⟨h.1.1,h.1.2.1⟩)]
  ·have h0:=hb1.1 rfl;simp only [ZY,Z6]
   by_cases h2:l[i].name=BZ
   ·have h2':=h2;unfold BZ at h2';simp only [h2',decide_true,Xm,if_true,X6];rw [if_pos (TH fun h=>h.1.2.2.1 h2)]
   ·have h2':=h2;unfold BZ at h2'
    by_cases h3:l[i].name=Mc
    ·have h3':=h3;unfold Mc at h3';simp only [h3',decide_true,Bool.or_true,if_true,X6];rw [if_pos (TH fun h=>h.1.2.2.2 h3)]
    ·have h3':=h3;unfold Mc at h3';simp only [h2',h3',decide_false,Xt,Qq,if_false,X6]
     by_cases h4:l[i]∈l.take i
     ·simp only [h4,decide_true,if_true];rw [if_pos (TH fun h=>h.2 h4)]
     ·simp only [h4,decide_false,Qq,if_false]
      rw [Qlq ⟨⟨h0.1,h0.2,h2,h3⟩,h4⟩,if_neg Xo]) with ⟨h7,i,hi,hp⟩ | ⟨h7,hp⟩
 ·rw [h7,X6];refine ⟨_,rfl,fun h=>(by cases h),fun h=>?_⟩;exact absurd ⟨h.2.1 _ (ZS hi),AL.1 h.2.2 i hi⟩ (Qg8 hp)
 ·have hall:∀i,∀hi:i < l.length,(l[i].kind=1/\FV l[i]/\l[i].name≠BZ/\l[i].name≠Mc)/\l[i]∉l.take i:=fun i hi=>Qg7 (hp i hi);rw [h7,X6];refine ⟨_,rfl,?_⟩;show decide _=true↔_;rw [decide_eq_true_iff];constructor
  ·intro h;refine ⟨by omega,fun x hx=>?_,AL.2 fun i hi=>(hall i hi).2⟩;obtain ⟨i,hi,rfl⟩:=ZZ.1 hx;exact (hall i hi).1
  ·intro h;have:=h.1;omega
theorem Cf (f:Fm):WA f (Qk #[46,46,46])=some (YQ f):=rfl
theorem Qgg (l:List Fm) (h:l.length<=1099511627776):∃v:Int,Bl l=some v/\((v≥0/\l.any YQ=true/\∃j:Nat,∃hj:j < l.length,v=(j:Int)/\YQ l[j]=true/\l.find? YQ=some l[j])∨(v=-1/\l.any YQ=false)):=by
 rw [Bl,Vw,HE _ (by omega)]
 rcases Et (F:=YP l) YQ (fun _=>rfl) l (fun x hx i r=>by
  rw [YP,Yf,X6,Ao,Cf]
  simp only [Yf,X6]) with ⟨j,hj,h1,h2,h3,h4⟩ | ⟨h1,h3,_⟩
 ·rw [h1];exact ⟨(j:Int),rfl,.inl ⟨by omega,h3,j,hj,rfl,h2,h4⟩⟩
 ·rw [h1];exact ⟨-1,rfl,.inr ⟨rfl,h3⟩⟩
mutual
def Qep (once:Bool):Fm->Bool
 | .mk _ _ _ _ ks=>SZ once true false ks
def SZ (once:Bool):Bool->Bool->List Fm->Bool
 | _,_,[]=>true
 | b,s,f :: fs=>if YQ f=true then (if (b||(once&&s))=true then false else SZ once true true fs) else if Qep once f=true then SZ once false s fs else false
end
theorem UL (once:Bool) (f:Fm):Qep once f=SZ once true false f.kids:=by cases f;rw [Qep];rfl
theorem SJ:∀(l:List Fm) (b:Bool) (n:Nat),2<=n->PQ b n l=false
 | [],b,n,h=>by rw [PQ];simp;omega
 | f :: fs,b,n,h=>by
  rw [PQ];have h1:=SJ fs true (n+1) (by omega);have h2:=SJ fs false n h;split
  ·split
   ·rfl
   ·exact h1
  ·split
   ·exact h2
   ·rfl
theorem Qb8:∀(l:List Fm),(∀f∈l,Qb7 f=(!YQ f&&Qep true f))->∀(b:Bool) (n:Nat),n<=1->PQ b n l=SZ true b (decide (1<=n)) l
 | [],_,b,n,h=>by rw [PQ,SZ];simpa using h
 | f :: fs,hf,b,n,h=>by
  have h1:=Qb8 fs (fun g hg=>hf g (Kf _ hg));rw [PQ,SZ]
  by_cases hd:YQ f=true
  ·rw [if_pos hd,if_pos hd];cases b
   ·simp only [Z6,Z5,Qq,if_false]
    by_cases hn:n=1
    ·subst hn;rw [SJ fs true 2 (by omega)];rfl
    ·have:n=0:=by omega
     subst this;rw [h1 true 1 (by omega)];rfl
   ·simp
  ·rw [if_neg hd,if_neg hd,hf f (KD ..)]
   have:YQ f=false:=by cases hi:YQ f;rfl;exact absurd hi hd
   rw [this,ZX,Z5,h1 false n h]
theorem Qkh (p:Fm):Qb7 p=(!YQ p&&Qep true p):=by
 induction p using Fm.ind with
 | h p ih =>
  rw [OO,UL,Qb8 p.kids ih true 0 (by omega)];cases YQ p<;>rfl
theorem Ow (once:Bool):∀p:Fm,p.sz<=1000000->Io p once=some (Qep once p):=by
 intro p
 induction p using Fm.ind with
 | h p ih =>
  intro hp;have hz:=Fm.G3 p
  have loop:∀(r:List Fm) (i:Nat),p.kids.drop i=r->JP p once i r=some (if SZ once (decide (i=0)||(match p.kids[i - 1]? with | some f=>YQ f | none=>false)) ((p.kids.take i).any YQ) r=true then .inr () else .inl false):=by
   intro r
   induction r with
   | nil=>intro i _;rw [JP,SZ];rfl
   | cons f r ihr =>
    intro i hd
    have hi:i < p.kids.length:=by
     rcases KB i p.kids.length with h | h
     ·exact h
     ·rw [KP h] at hd;cases hd
    have hd2:p.kids.drop (i+1)=r:=by rw [← Xd,hd];rfl
    have hf:p.kids[i]=f:=by rw [ZJ hi] at hd;injection hd
    have hm:f∈p.kids:=hf▸ZS hi;have hk:=Fm.J3 hm
    have ht:p.kids.take (i+1)=p.kids.take i++[f]:=by rw [ZR hi,hf]
    have hsub:(p.kids[i+1 - 1]?)=some f:=by rw [Nat.add_sub_cancel,Qh hi,hf]
    have hstep:=ihr (i+1) hd2;rw [hsub,ht,List.any_append] at hstep;simp only [Nat.add_eq_zero_iff,Nat.succ_ne_zero,and_false,decide_false,Z6,Z0,List.any_nil,Xt] at hstep;rw [JP,SZ,Yf,X6,Cf,X6]
    by_cases hdt:YQ f=true
    ·rw [hdt] at hstep ⊢;simp only [if_true];obtain ⟨v,hv,hv2⟩:=Qgg (p.kids.take i) (by rw [Z1];omega);have hls:LG p.kids 0 (i:Int)=some (p.kids.take i):=Ce _ _ (by omega);rw [hls];simp only [X6,hv,Yf]
     have hvd:decide (v≥0)=(p.kids.take i).any YQ:=by
      rcases hv2 with ⟨h1,h2,_⟩ | ⟨h1,h2⟩
      ·rw [h2,decide_eq_true h1]
      ·rw [h2,decide_eq_false (by omega)]
     rw [hvd]
     have hprev:(if (i:Int)=0 then some true else (idx p.kids (IntKind.i64.wrap ((i:Int) - 1))>>=fun x24=>(WA x24 (Qk #[46,46,46])>>=fun x26=>some x26)):Option Bool)=some (decide (i=0)||(match p.kids[i - 1]? with | some f=>YQ f | none=>false)):=by
      by_cases h0:i=0
      ·subst h0;simp
      ·rw [if_neg (by omega),Y2 (by omega) (by omega),show ((i:Int) - 1)=((i - 1:Nat):Int) by omega,Yi _ (i - 1) (by omega),Qh (by omega),decide_eq_false h0];simp only [X6,Cf,Z6]
     rw [hprev];simp only [X6];generalize (decide (i=0)||(match p.kids[i - 1]? with | some f=>YQ f | none=>false))=bb at *;generalize (p.kids.take i).any YQ=ss at *;simp only [Bool.or_true] at hstep
     cases bb<;>cases once<;>cases ss<;>simp only [Z6,Xm,Bool.and_true,Bool.and_false,Z5,Z8,if_true,if_false,Qq,X6]<;>first | exact hstep | rfl
    ·have hdf:YQ f=false:=by cases hi:YQ f;rfl;exact absurd hi hdt
     rw [hdf] at hstep ⊢;simp only [Xt] at hstep;simp only [Qq,if_false];rw [ih f hm (by omega),X6];cases Qep once f
     ·simp
     ·simp only [ZY,Qq,if_false,if_true];exact hstep
  have:=loop p.kids 0 (KR ..);simp only [decide_true,Xm,Xw,List.any_nil] at this;rw [Io,Np _ _ (by omega),this,UL];cases SZ once true false p.kids<;>rfl
end Go.Proofs.SA
namespace Go.Proofs.SA
theorem Qdj (f:Fm) (ls:List Fm) (h:FS ls):Dy f ls=some (Sy ls f):=by
 rw [Dy,Sy];unfold BZ Mc
 by_cases h1:f.kind=1
 ·by_cases h2:f.name=Qk #[46,46,46]
  ·simp only [h1,decide_eq_true h2,Yf,X6];rfl
  ·by_cases h3:f.name=Qk #[95]
   ·simp only [h1,decide_eq_false h2,decide_eq_true h3,Yf,X6];rfl
   ·simp only [h1,decide_eq_false h2,decide_eq_false h3,Yf,X6,Ox ls f h];rfl
 ·simp only [h1,decide_false,Yf,X6];rfl
theorem Qbt {ks:List Fm} {i:Nat} {f:Fm} {r:List Fm} (hd:ks.drop i=f :: r) (hl:ks.length<=1099511627776) :
  ((if (IntKind.i64.wrap ((i:Int)+1)) < (ks.length:Int) then (idx ks (IntKind.i64.wrap ((i:Int)+1))>>=fun x37=>(WA x37 (Qk #[46,46,46])>>=fun x39=>pure x39)) else pure false:Option Bool))=some (Wr r):=OI hd hl
theorem TB (ls:List Fm) (h:FS ls):∀(p:Fm) (d:Int) (c0:List Fm) (c1:List Int),p.sz<=1000000->0<=d->d+p.nodes<=10000000->c0.length+p.nodes<=10000000->c1.length+p.nodes<=10000000->WJ p ls d c0 c1=some (c0++vrs ls p,c1++dps ls d p):=by
 intro p
 induction p using Fm.ind with
 | h p ih =>
  intro d c0 c1 hp h0 h1 hc0 hc1;have hn:=Fm.Vo p;have hl:=Jf p.kids;have hz:=Fm.G3 p
  have loop:∀(r:List Fm) (i:Nat) (z:List Int) (y:List Fm),p.kids.drop i=r->z.length+VF ZU r<=10000000->y.length+VF ZU r<=10000000->V3 p ls d z y i r=some (z++RI ls d r,y++NQ ls r):=by
   intro r
   induction r with
   | nil=>intro i z y _ _ _;rw [V3,Yf];simp [RI,NQ]
   | cons f r ihr =>
    intro i z y hd hz2 hy2
    have hi:i < p.kids.length:=by
     rcases KB i p.kids.length with h | h
     ·exact h
     ·rw [KP h] at hd;cases hd
    have hd2:p.kids.drop (i+1)=r:=by rw [← Xd,hd];rfl
    have hm:f∈p.kids:=by rw [ZJ hi] at hd;injection hd with e1 e2;exact e1▸ZS hi
    have hk:=IA hm;have hks:=Fm.J3 hm;rw [VF] at hz2 hy2;have b1:=R9 ls;have b2:=BU ls f
    have key:∀d':Int,0<=d'->d'<=d+1->(WJ f ls d' y z>>=fun x64=>V3 p ls d x64.2 x64.1 (i+1) r)=some (z++(dps ls d' f++RI ls d r),y++(vrs ls f++NQ ls r)):=fun d' q0 q1=>by
     have b3:=b1 d' f;rw [ih f hm d' y z (by omega) q0 (by omega) (by omega) (by omega),X6]
     simp only
     rw [ihr (i+1) _ _ hd2 (by rw [QV];omega) (by rw [QV];omega),QD,QD]
    rw [V3,Qbt hd (by omega),RI,NQ];simp only [Yf,X6];cases Wr r
    ·simp only [Qq,if_false,X6];exact key d h0 (by omega)
    ·simp only [if_true,X6,Y2 (show -9223372036854775808<=d+1 by omega) (show d+1 < 9223372036854775808 by omega)];exact key (d+1) (by omega) (Int.le_refl _)
  have start:∀(z:List Int) (y:List Fm),z.length+VF ZU p.kids<=10000000->y.length+VF ZU p.kids<=10000000->(VS p ls d z y 0>>=fun (e:List Int × List Fm)=>some (e.2,e.1))=some (y++NQ ls p.kids,z++RI ls d p.kids):=fun z y hz2 hy2=>by
   rw [Ez _ _ _ _ _ (by omega),loop _ _ _ _ (KR ..) hz2 hy2,X6]
  rw [WJ,Qdj p ls h,X6,Th,Ni];cases Sy ls p
  ·simp only [Qq,if_false,Yf,X6,QS];exact start c1 c0 (by omega) (by omega)
  ·simp only [if_true,Yf,X6];rw [Y1 (by simp;omega),X6,Yi _ c0.length (by simp),X6,Y1 (by simp;omega),X6,X6]
   have hset:(c0++[Fm.mk 0 (Qk #[]) 0 [] []]).set (c0.length:Int).toNat p=c0++[p]:=by simp
   rw [hset,← QD,← QD];exact start (c1++[d]) (c0++[p]) (by simp;omega) (by simp;omega)
theorem Lu (ls:List Fm) (h:FS ls) (p:Fm) (hp:p.sz<=1000000):Bm p ls=some (vrs ls p,dps ls 0 p):=by
 have:=Fm.NY p;rw [Bm,TB ls h p 0 [] [] hp (by omega) (by omega) (by simp;omega) (by simp;omega)];rfl
theorem TC {p:Fm} (hp:p.sz<=100000) {ls:List Fm} (h:FS ls):Tot (HT p ls) fun b=>b=true↔Qig ls p:=by
 rw [HT];obtain ⟨b1,e1,hb1⟩:=UQ (f:=p) (by omega);rw [e1,X6];cases b1
 ·simp only [ZX,if_true,Yf,X6];exact ⟨_,rfl,fun h=>(by cases h),fun h=>(by have:=hb1.2 h.1;cases this)⟩
 simp only [ZY,Qq,if_false];have hfv:=hb1.1 rfl;have hnn:=hfv.2;obtain ⟨b2,e2,hb2⟩:=Lt h;rw [e2];simp only [Yf,X6];cases b2
 ·simp only [ZX,if_true,Yf,X6];exact ⟨_,rfl,fun h=>(by cases h),fun h=>(by have:=hb2.2 h.2.1;cases this)⟩
 have hsh:=Qkh p;simp only [ZY,Qq,if_false,Cf,X6];cases hd:YQ p;rotate_left
 ·rw [hd] at hsh;simp only [if_true,X6];exact ⟨_,rfl,fun h=>(by cases h),fun h=>(by have h9:=h.2.2.1;rw [hsh] at h9;cases h9)⟩
 rw [hd] at hsh;simp only [Qq,if_false,Ow true p (by omega),X6];cases hk:Qep true p
 ·rw [hk] at hsh;simp only [ZX,if_true,X6];exact ⟨_,rfl,fun h=>(by cases h),fun h=>(by have h9:=h.2.2.1;rw [hsh] at h9;cases h9)⟩
 rw [hk] at hsh;have hs:Qb7 p=true:=hsh;simp only [ZY,Qq,if_false,Lu ls h p (by omega),X6];have hvl:=BU ls p;have hdl:=F7 ls p 0;rw [Ec _ _ (by show (vrs ls p).length < _;omega)]
 have hvs:∀x∈vrs ls p,x.sz<=1000000:=fun x hx=>by have:=SX ls p x hx;omega
 rcases M5 (WO p (vrs ls p,dps ls 0 p)) (vrs ls p) (fun i x=>decide (x∈(vrs ls p).take i)||decide ((dps ls 0 p).getD i 0 > 3)) false (fun _=>rfl) (fun i hi r=>by
  have hlt:LG (vrs ls p) 0 (i:Int)=some ((vrs ls p).take i):=Ce _ i (by omega);rw [WO];simp only [Yf,X6,hlt];rw [Ox _ _ ⟨by unfold Sm;rw [Z1];omega,fun f hf=>hvs f (QI hf)⟩,X6,Yi (dps ls 0 p) i (by omega),Jt (d:=0) (show i < (dps ls 0 p).length by omega)];cases decide ((vrs ls p)[i]∈(vrs ls p).take i)
  ·simp only [Qq,if_false,X6,Z6]
  ·simp only [if_true,X6,Xm]) with ⟨h7,i,hi,hp2⟩ | ⟨h7,hp2⟩
 ·rw [h7,X6];refine ⟨_,rfl,fun h=>(by cases h),fun h=>?_⟩;rw [Q9,decide_eq_true_iff,decide_eq_true_iff] at hp2
  rcases hp2 with hp2 | hp2
  ·exact absurd hp2 (AL.1 h.2.2.2.1 i hi)
  ·rw [Jt (show i < (dps ls 0 p).length by omega)] at hp2;have:=h.2.2.2.2.1 _ (ZS (show i < (dps ls 0 p).length by omega));omega
 ·have hnd:(vrs ls p).Nodup:=AL.2 fun i hi=>by
   have:=hp2 i hi;rw [Xe] at this;exact of_decide_eq_false this.1
  have hd3:∀d∈dps ls 0 p,d<=3:=fun d hd=>by
   obtain ⟨i,hi,rfl⟩:=ZZ.1 hd;have:=hp2 i (by omega);rw [Xe,Jt hi] at this;have:=of_decide_eq_false this.2;omega
  rw [h7,X6];refine ⟨_,rfl,?_⟩;show decide _=true↔_;rw [decide_eq_true_iff];constructor
  ·intro hl;exact ⟨hfv,hb2.1 rfl,hs,hnd,hd3,by omega⟩
  ·intro h;have:=h.2.2.2.2.2;omega
end Go.Proofs.SA
namespace Go.Proofs.SA
theorem M9 {H:List Hit} (h:HS H) (f:Fm):AJ (H.map Ze) (H.map Za) f=some (Ek H f):=by
 have hl:=h.1;rw [AJ];unfold Ek
 by_cases hk:f.kind=1
 ·rw [if_pos hk,if_pos hk,Vr,Hj _ _ (by rw [List.length_map];unfold Sm at hl;omega)]
  rcases Ou (fun i (r:List Hit)=>YN (H.map Ze) f i (r.map Ze)) (fun x=>decide (x.name=f)) (fun _=>rfl) H 0 (fun x hx i r=>by
   simp only [List.map_cons];rw [YN,Yf,X6,IU,Oz _ (h.2 x hx).1]
   simp only [Yf,X6]) with ⟨j,hj,h1,h2⟩ | ⟨h1,h2⟩
  ·rw [h1,X6];simp only [Yf,X6];rw [if_neg (by omega),Yi (H.map Za) (0+j) (by rw [List.length_map];omega)];unfold Qg2;rw [h2];simp [X6]
  ·rw [h1,X6];unfold Qg2;rw [h2];simp [X6,Yf]
 ·rw [if_neg hk,if_neg hk];rfl
noncomputable def Oh (H:List Hit) (r:Int) (x:Fm):Bool:=x.all.any fun g=>decide (Ek H g > r)
theorem Qaz (p:Fm->Bool):∀l:List Fm,(Fm.Qix l).any p=l.any fun t=>t.all.any p
 | []=>rfl
 | f :: l=>by rw [Fm.Qix,List.any_append,Qaz p l];rfl
theorem Qa6 (H:List Hit) (r:Int) (x:Fm):Oh H r x=(decide (Ek H x > r)||x.kids.any (Oh H r)):=by
 unfold Oh;obtain ⟨k,s,n,sc,ks⟩:=x;rw [Fm.all,Z0,Qaz];rfl
theorem UN {H:List Hit} (h:HS H) (r:Int):∀x:Fm,x.sz<=1000000->∀b:Bool,Y0 x b (H.map Ze) (H.map Za) r=some (b||Oh H r x):=by
 intro x
 induction x using Fm.ind with
 | h x ih =>
  intro hx b;have hz:=Fm.G3 x
  have c1:∀b,Ap x b (H.map Ze) (H.map Za) r=some (b||decide (Ek H x > r)):=fun b=>by
   rw [Ap];cases b
   ·simp only [Qq,if_false,M9 h,X6,Yf,Z6]
   ·simp only [if_true,X6,Yf,Xm]
  have loop:∀(l:List Fm),(∀g∈l,g∈x.kids)->∀(i:Nat) (b:Bool),Y5 x (H.map Ze) (H.map Za) r b i l=some (b||l.any (Oh H r)):=by
   intro l
   induction l with
   | nil=>intro _ i b;rw [Y5,Yf];simp
   | cons f l ihl =>
    intro hl i b;have hm:=hl f (KD ..);have:=Fm.J3 hm;rw [Y5,Yf,X6,ih f hm (by omega),X6,ihl (fun g hg=>hl g (Kf _ hg)),Z0,Bool.or_assoc]
  rw [Y0,c1,X6,AU _ _ _ _ _ (by omega),loop _ (fun _ h=>h),X6,Yf,Qa6,Bool.or_assoc]
mutual
noncomputable def Qic (H:List Hit):Int->Fm->Bool
 | r,.mk k s n sc ks=>!decide (Ek H (.mk k s n sc ks) > r)&&Ur H r ks
noncomputable def Ur (H:List Hit):Int->List Fm->Bool
 | _,[]=>true
 | r,x :: xs=>if YQ x=true then Ur H r xs else if Wr xs=true then (Oh H r x&&Qic H (r+1) x&&Ur H r xs) else (Qic H r x&&Ur H r xs)
end
theorem Qhi (H:List Hit) (r:Int) (t:Fm):Qic H r t=(!decide (Ek H t > r)&&Ur H r t.kids):=by cases t;rw [Qic];rfl
theorem UT {H:List Hit} (h:HS H):∀t:Fm,t.sz<=1000000->∀r:Int,0<=r->r+t.nodes<=10000000->HC t (H.map Ze) (H.map Za) r=some (Qic H r t):=by
 intro t
 induction t using Fm.ind with
 | h t ih =>
  intro ht r h0 h1;have hz:=Fm.G3 t;have hn:=Fm.Vo t
  have loop:∀(l:List Fm) (i:Nat),t.kids.drop i=l->W6 t (H.map Ze) (H.map Za) r i l=some (if Ur H r l=true then .inr () else .inl false):=by
   intro l
   induction l with
   | nil=>intro i _;rw [W6,Ur];rfl
   | cons f l ihl =>
    intro i hd
    have hi:i < t.kids.length:=by
     rcases KB i t.kids.length with h | h
     ·exact h
     ·rw [KP h] at hd;cases hd
    have hd2:t.kids.drop (i+1)=l:=by rw [← Xd,hd];rfl
    have hm:f∈t.kids:=by rw [ZJ hi] at hd;injection hd with e1 e2;exact e1▸ZS hi
    have hk:=IA hm;have hks:=Fm.J3 hm;have hnx:=Qbt hd (by omega);simp only [Yf,Cf,X6] at hnx;rw [W6,Ur];simp only [Yf,X6,Cf];cases hdt:YQ f
    ·simp only [Qq,if_false];rw [hnx,X6];cases Wr l
     ·simp only [Qq,if_false];rw [ih f hm (by omega) r h0 (by omega),X6];cases Qic H r f
      ·simp
      ·simp only [ZY,Qq,if_false,Z5];exact ihl _ hd2
     ·simp only [if_true];rw [UN h r f (by omega),X6,Z6];cases Oh H r f
      ·simp
      ·simp only [ZY,Qq,if_false,Z5];rw [Y2 (by omega) (by omega),ih f hm (by omega) (r+1) (by omega) (by omega),X6];cases Qic H (r+1) f
       ·simp
       ·simp only [ZY,Qq,if_false,Z5];exact ihl _ hd2
    ·simp only [if_true];exact ihl _ hd2
  rw [HC,M9 h,X6,Qhi]
  by_cases hdp:Ek H t > r
  ·rw [if_pos hdp,decide_eq_true hdp];rfl
  ·rw [if_neg hdp,decide_eq_false hdp,Nq _ _ _ _ (by omega),loop _ _ (KR ..)];cases Ur H r t.kids<;>rfl
def Qk9 (H:List Hit) (r:Int) (H':List Hit):Prop:=∀f,(Ek H f > r->Ek H' f=Ek H f - r)/\(Ek H f<=r->Ek H' f<=0)
theorem Qge (H:List Hit) (f:Fm):Ek (LD H) f=if 0 < Ek H f then Ek H f - 1 else Ek H f:=by
 unfold Ek
 by_cases hk:f.kind=1
 ·rw [if_pos hk,if_pos hk]
  have:Qg2 (LD H) f=(Qg2 H f).map fun h=>.mk h.name (if 0 < h.depth then h.depth - 1 else h.depth) h.one []:=by
   unfold Qg2 LD;rw [List.find?_map];rfl
  rw [this]
  cases Qg2 H f with
  | none=>simp
  | some x=>rfl
 ·rw [if_neg hk,if_neg hk,if_neg (by omega)]
theorem Qk9.next {H H':List Hit} {r:Int} (h:Qk9 H r H'):Qk9 H (r+1) (LD H'):=fun f=>by
 obtain ⟨h1,h2⟩:=h f;rw [Qge];constructor
 ·intro hd;have:=h1 (by omega);rw [if_pos (by omega)];omega
 ·intro hd
  by_cases hc:Ek H f<=r
  ·have:=h2 hc;rw [if_neg (by omega)];exact this
  ·have:=h1 (by omega);rw [if_pos (by omega)];omega
theorem Qdz {H H':List Hit} {r:Int} (h:Qk9 H r H') (f:Fm):Mt H' f=Oh H r f:=by
 induction f using Fm.ind with
 | h f ih =>
  have key:∀l:List Fm,(∀g∈l,Mt H' g=Oh H r g)->l.any (Mt H')=l.any (Oh H r):=by
   intro l
   induction l with
   | nil=>intro _;rfl
   | cons x l ihl=>intro hl;rw [Z0,Z0,hl x (KD ..),ihl fun g hg=>hl g (Kf _ hg)]
  rw [Qb5,Qa6,key _ ih];obtain ⟨h1,h2⟩:=h f
  congr 1
  by_cases hd:Ek H f > r
  ·rw [decide_eq_true hd,decide_eq_true (by have:=h1 hd;omega)]
  ·rw [decide_eq_false hd,decide_eq_false (by have:=h2 (by omega);omega)]
theorem Qoj {H:List Hit} : ∀(t:Fm) (r:Int) (H':List Hit),Qk9 H r H'->Qid t H'=(!YQ t&&Qep false t&&Qic H r t):=by
 intro t
 induction t using Fm.ind with
 | h t ih =>
  intro r H' hL
  have loop:∀(l:List Fm),(∀g∈l,g∈t.kids)->∀(b s:Bool),Qer b l H'=(SZ false b s l&&Ur H r l):=by
   intro l
   induction l with
   | nil=>intro _ b s;rw [Qer,SZ,Ur];rfl
   | cons f l ihl =>
    intro hl b s;have hm:=hl f (KD ..);have ihl:=ihl fun g hg=>hl g (Kf _ hg);rw [Qer,SZ,Ur];cases hd:YQ f
    ·simp only [Qq,if_false];cases hh:Wr l
     ·simp only [Qq,if_false];rw [ih f hm r H' hL,hd,ihl false s];cases Qep false f<;>cases Qic H r f<;>cases SZ false false s l<;>cases Ur H r l<;>rfl
     ·simp only [if_true];rw [Qdz hL,ih f hm (r+1) (LD H') hL.next,hd,ihl false s];cases Oh H r f<;>cases Qep false f<;>cases Qic H (r+1) f<;>cases SZ false false s l<;>cases Ur H r l<;>rfl
    ·simp only [if_true,Z8,Xt];rw [ihl true true];cases b<;>cases SZ false true true l<;>cases Ur H r l<;>rfl
  obtain ⟨h1,h2⟩:=hL t;rw [Qh0,loop t.kids (fun _ h=>h) true false,Qhi,UL]
  have:decide (0 < Ek H' t)=decide (Ek H t > r):=by
   by_cases hd:Ek H t > r
   ·rw [decide_eq_true hd,decide_eq_true (by have:=h1 hd;omega)]
   ·rw [decide_eq_false hd,decide_eq_false (by have:=h2 (by omega);omega)]
  rw [this];cases YQ t<;>cases decide (Ek H t > r)<;>cases SZ false true false t.kids<;>cases Ur H r t.kids<;>rfl
theorem Qk9.zero (H:List Hit):Qk9 H 0 H:=fun f=>⟨fun _=>by omega,fun h=>h⟩
theorem TF {H:List Hit} (h:HS H) {t:Fm} (ht:t.sz<=100000):Tot (IX t (H.map Ze) (H.map Za)) fun b=>b=true↔FV t/\Qid t H=true:=by
 have hn:=Fm.NY t;rw [IX];obtain ⟨b1,e1,hb1⟩:=UQ (f:=t) (by omega);rw [e1,X6,Qoj t 0 H (Qk9.zero H)];cases b1
 ·simp only [Qq,if_false,X6,Yf];exact ⟨_,rfl,fun h=>(by cases h),fun h=>(by have:=hb1.2 h.1;cases this)⟩
 have hfv:=hb1.1 rfl;simp only [if_true,Cf,X6,Yf];cases YQ t
 ·simp only [ZX,if_true,Ow false t (by omega),X6,Z5];cases Qep false t
  ·simp only [Qq,if_false,X6,Z8];exact ⟨_,rfl,fun h=>(by cases h),fun h=>(by cases h.2)⟩
  ·simp only [if_true,UT h t (by omega) 0 (by omega) (by omega),X6,Z5];exact ⟨_,rfl,fun h=>⟨hfv,h⟩,fun h=>h.2⟩
 ·simp only [ZY,Qq,if_false,X6,Z8];exact ⟨_,rfl,fun h=>(by cases h),fun h=>(by cases h.2)⟩
theorem Qac (p:Fm) (ls:List Fm):(D7 p ls).map Ze=vrs ls p:=by
 unfold D7;rw [List.map_map];refine List.ext_getElem (by simp) fun i h1 h2=>?_;simp only [List.getElem_map,Xx,Function.comp];rw [Qz,Qh h2];rfl
theorem TY (p:Fm) (ls:List Fm):(D7 p ls).map Za=dps ls 0 p:=by
 unfold D7;rw [List.map_map];refine List.ext_getElem (by simp [F7 ls p 0]) fun i h1 h2=>?_;simp only [List.getElem_map,Xx,Function.comp];show (dps ls 0 p).getD i 0=_;rw [Qz,Qh h2];rfl
theorem So {ls:List Fm} (h:FS ls) {r:Rul} (h1:r.pat.sz<=100000) (h2:r.tpl.sz<=100000):Tot (Am r ls) fun b=>b=true↔Qck ls r:=by
 rw [Am];obtain ⟨b1,e1,hb1⟩:=TC h1 h;rw [e1];simp only [X6,Yf];cases b1
 ·simp only [ZX,Xm,if_true];exact ⟨_,rfl,fun h=>(by cases h),fun h=>(by have:=hb1.2 h.1;cases this)⟩
 have hp:=hb1.1 rfl;simp only [ZY,Z6]
 by_cases hk:r.pat.kind=3
 rotate_left
 ·rw [decide_eq_false hk];simp only [ZX,Xm,if_true];exact ⟨_,rfl,fun h=>(by cases h),fun h=>absurd h.2.1 hk⟩
 rw [decide_eq_true hk];simp only [ZY,Z6]
 by_cases hl:(r.pat.kids.length:Int)=0
 ·rw [decide_eq_true hl,if_pos rfl];exact ⟨_,rfl,fun h=>(by cases h),fun h=>by have:=h.2.2.1;omega⟩
 rw [decide_eq_false hl,if_neg Xo,Lu ls h _ (by omega),X6]
 simp only
 have hs:=(TX ls r.pat (by have:=hp.1.2;omega) (by omega)).1;have:=TF hs h2;rw [Qac,TY] at this;obtain ⟨b2,e2,hb2⟩:=this;rw [e2,X6];exact ⟨_,rfl,fun h=>⟨hp,hk,by omega,(hb2.1 h).1,(hb2.1 h).2⟩,fun h=>hb2.2 ⟨h.2.2.2.1,h.2.2.2.2⟩⟩
noncomputable def Qqz (ls:List Fm) (r:Rul):Bool:=@decide (¬Qck ls r) (Classical.propDecidable _)
theorem PI {ls:List Fm} (h:FS ls) {rs:List Rul} (hr:RS rs):Tot (AK rs ls) fun b=>b=true↔FD ls rs:=by
 have hl:=hr.1;rw [AK]
 by_cases h9:(rs.length:Int)<=9
 rotate_left
 ·rw [if_neg h9,Yf,X6,if_neg Xo];exact ⟨_,rfl,fun h=>(by cases h),fun h=>by have:=h.1;omega⟩
 rw [if_pos h9];obtain ⟨b1,e1,hb1⟩:=Lt h;rw [e1];simp only [X6,Yf];cases b1
 ·simp only [Qq,if_false];exact ⟨_,rfl,fun h=>(by cases h),fun h=>(by have:=hb1.2 h.2.2;cases this)⟩
 have hlit:=hb1.1 rfl;simp only [if_true];rw [Vg,Vs,Hm _ _ (by unfold Sm at hl;omega)]
 rcases Et (F:=YO rs ls) (Qqz ls) (fun _=>rfl) rs (fun x hx i r=>by
  obtain ⟨b,e,hb⟩:=So h (hr.2 x hx).1 (hr.2 x hx).2;rw [YO,Yf,X6,IW,e];simp only [Yf,X6]
  have:Qqz ls x=!b:=by
   unfold Qqz;cases b
   ·exact @decide_eq_true _ (Classical.propDecidable _) fun hh=>by have:=hb.2 hh;cases this
   ·exact @decide_eq_false _ (Classical.propDecidable _) fun hn=>hn (hb.1 rfl)
  rw [this]) with ⟨j,hj,q1,q2,q3,_⟩ | ⟨q1,q3,_⟩
 ·rw [q1,X6];simp only [Yf,X6];rw [decide_eq_true (show ((j:Int)≥0) by omega)];refine ⟨_,rfl,fun h=>(by cases h),fun h=>?_⟩;have:=h.2.1 _ (ZS hj);unfold Qqz at q2;exact absurd this (@of_decide_eq_true _ (Classical.propDecidable _) q2)
 ·rw [q1,X6];simp only [Yf,X6];refine ⟨_,rfl,fun _=>⟨by omega,fun r hr=>?_,hlit⟩,fun _=>rfl⟩;have:=Xg.1 q3 r hr;unfold Qqz at this;exact Classical.byContradiction fun hn=>this (@decide_eq_true _ (Classical.propDecidable _) hn)
end Go.Proofs.SA
namespace Go.Proofs.SA
theorem A1 (a b c:Int):V5 a b c=some (decide (a≥b)&&decide (a<=c)):=rfl
theorem Qjr (l:List Int) (x:Int) (h:l.length<=1000000000):W8 l x=some (decide (x∈l)):=by
 rw [W8,HR,Dd _ _ (by omega),← Qfi]
 rcases Et (F:=Wa l x) (fun y=>decide (y=x)) (fun _=>rfl) l (fun y hy i r=>by
  rw [Wa,Yf,X6]
  by_cases e:x=y
  ·subst e;simp [Yf]
  ·have e2:¬y=x:=fun h=>e h.symm
   simp [e,e2]) with ⟨j,hj,h1,h2,h3,_⟩ | ⟨h1,h3,_⟩
 ·rw [h1,h3,X6];simp only [Yf,X6];rw [decide_eq_true (by omega)]
 ·rw [h1,h3];rfl
theorem TD (a b:List Int) (ha:Sm a.length) (hb:Sm b.length) (hb2:b.length<=1000000000):Jw a b=some (Qag a b):=by
 have:Qag a b=!(a.any fun x=>!decide (x∈b)):=by unfold Qag;rw [Xu]
 rw [Jw,Va,Vi,GV _ _ (by unfold Sm at ha;omega),this]
 rcases Et (F:=YF a b) (fun x=>!decide (x∈b)) (fun _=>rfl) a (fun y hy i r=>by
  rw [YF,Yf,X6,Ge,Qjr b y hb2]
  simp only [Yf,X6]) with ⟨j,hj,h1,h2,h3,_⟩ | ⟨h1,h3,_⟩
 ·rw [h1,h3,X6];simp only [Yf,X6];rw [decide_eq_true (show ((j:Int)≥0) by omega)]
 ·rw [h1,h3];rfl
def BN (l:List Bnd):Prop:=l.length<=1000000/\∀b∈l,b.sc.length<=1000000/\b.name.size<=1000000
theorem BN.bs {l:List Bnd} (h:BN l):BS l:=⟨by have:=h.1;unfold Sm;omega,fun b hb=>by have:=(h.2 b hb).1;unfold Sm;omega⟩
theorem NV.sz {s:ByteArray} (h:NV s):s.size<=12:=by
 rcases h with h | h | h
 ·rw [h];decide
 ·rw [h];decide
 ·exact h.2.1
theorem Qdi (l:List Bnd) (n:Fm) (h:BN l) (hn:n.sc.length<=1000000):BE l n=some (Sk n 0 l):=by
 have key:∀(r:List Bnd) (z:List Int) (i:Nat),(∀b∈r,b.sc.length<=1000000)->z.length+r.length<=1099511627776->Jk l n z i r=some (z++Sk n i r):=by
  intro r
  induction r with
  | nil=>intro z i _ _;rw [Jk,Yf];simp [Sk]
  | cons b r ih =>
   intro z i hb hz;simp only [ZP] at hz;have hb':=fun x hx=>hb x (Kf b hx);have hbl:=hb b (KD ..);rw [Jk,Sk,Yf,X6]
   by_cases hnm:b.name=n.name
   ·rw [if_pos hnm];simp only [X6,TD b.sc n.sc (by unfold Sm;omega) (by unfold Sm;omega) (by omega),Yf];cases hs:Qag b.sc n.sc
    ·rw [if_neg (by simp),ih z (i+1) hb' (by omega),if_neg (by simp)]
    ·rw [if_pos rfl,Y1 (by simp;omega),X6,ih _ (i+1) hb' (by simp;omega),if_pos ⟨hnm,rfl⟩,QD];rfl
   ·rw [if_neg hnm];simp only [Yf,X6];rw [if_neg (by simp),ih z (i+1) hb' (by omega),if_neg (by simp [hnm])]
 rw [BE,Mm _ _ _ (by have:=h.1;omega),key l [] 0 (fun b hb=>(h.2 b hb).1) (by have:=h.1;simp;omega)];rfl
theorem TA (l:List Bnd) (n:Fm) (h:BN l) (hn:n.sc.length<=1000000):Dx l n=some (findF l n):=by
 have hr:=Du n l 0;have hlen:=Sl n l 0;have hl:=h.1;rw [Dx,Qdi l n h hn,X6];unfold findF;generalize hX:Sk n 0 l=X at hr hlen
 have sm:∀i,(SE l i).length<=1000000:=fun i=>by
  unfold SE;rw [Qz]
  cases hg:l[i.toNat]? with
  | none=>exact Nat.zero_le _
  | some b=>exact (h.2 b (List.mem_of_getElem? hg)).1
 have at':∀k∈X,∃b,idx l k=some b/\b.sc=SE l k:=fun k hk=>by
  have:=hr k hk;exact ⟨_,B0 (l:=l) (by omega) (by omega),rfl⟩
 have inner:∀k∈X,YY X l k=some (!Qh9 l X k):=fun k hk=>by
  have hb:Qh9 l X k=!(X.any fun j=>!Qag (SE l j) (SE l k)):=by unfold Qh9;rw [Xu]
  obtain ⟨bk,hbk,ek⟩:=at' k hk;rw [YY,VG,Ic _ _ _ (by omega),hb,Bool.not_not]
  rcases Et (F:=YW X l k) (fun j=>!Qag (SE l j) (SE l k)) (fun _=>rfl) X (fun j hj i r=>by
   obtain ⟨bj,hbj,ej⟩:=at' j hj;have s1:=sm j;have s2:=sm k;rw [YW,Yf,X6,A2,hbj,X6,hbk,X6,ej,ek,TD _ _ (by unfold Sm;omega) (by unfold Sm;omega) (by omega)]
   simp only [Yf,X6]) with ⟨j,hj,h1,h2,h3,_⟩ | ⟨h1,h3,_⟩
  ·rw [h1,h3,X6];simp only [Yf,X6];rw [decide_eq_true (show ((j:Int)≥0) by omega)]
  ·rw [h1,h3];rfl
 by_cases hx:X.length=0
 ·have:X=[]:=List.eq_nil_of_length_eq_zero hx;subst this;rfl
 rw [if_neg (by omega),OB _ _ _ (by omega)]
 have key:∀(r:List Int) (i:Nat),(∀k∈r,k∈X)->IG l n X i r=some (match r.find? (Qh9 l X) with | some k=>.inl (k,1) | none=>.inr ()):=by
  intro r
  induction r with
  | nil=>intro i _;rfl
  | cons k r ih =>
   intro i hk;rw [IG,Yf,X6,inner k (hk k (KD ..)),X6,Bool.not_not,List.find?_cons];cases Qh9 l X k
   ·rw [if_neg Xo,ih _ fun y hy=>hk y (Kf _ hy)]
   ·rfl
 rw [key X 0 fun _ h=>h,X6]
 cases X.find? (Qh9 l X) with
 | some k=>rfl
 | none=>simp only;rw [if_neg hx];rfl
theorem Mf (l:List Mac) (id:Int) (h:l.length<=1000000000):Ig l id=some (Fv l id):=by
 have key:∀(r:List Mac) (i:Nat),YI l id i r=some (match r.findIdx? (fun m=>decide (m.id=id)) with | some j=>.inl ((i+j:Nat):Int) | none=>.inr ()):=by
  intro r
  induction r with
  | nil=>intro i;rfl
  | cons m r ih =>
   intro i;rw [YI,Yf,X6,IV,Yf,X6,List.findIdx?_cons]
   by_cases hm:m.id=id
   ·rw [decide_eq_true hm];rfl
   ·rw [decide_eq_false hm,if_neg Xo,ih]
    cases r.findIdx? (fun m=>decide (m.id=id)) with
    | none=>rfl
    | some j=>simp only [Qq,if_false,Option.map_some];congr 3;omega
 rw [Ig,Vk,G4 _ _ (by omega),key l 0,X6,Fv]
 cases l.findIdx? (fun m=>decide (m.id=id)) with
 | none=>rfl
 | some j=>simp only [Nat.zero_add];rfl
theorem PH (x:Xpn) (n:Fm) (h:BN x.binds) (hid:∀b∈x.binds,1<=b.id) (hn:n.sc.length<=1000000) (hm:x.macs.length<=1000000000):BG x n=some (FP x n):=by
 rw [BG,TA x.binds n h hn,X6,FP]
 by_cases h0:(findF x.binds n).2=0
 ·rw [if_pos h0,if_pos h0];rfl
 rw [if_neg h0,if_neg h0]
 by_cases h2:(findF x.binds n).2=2
 ·rw [if_pos h2,if_pos h2];rfl
 have h1:(findF x.binds n).2=1:=by have:=UO x.binds n;omega
 have hr:=Cb h1;rw [if_neg h2,if_neg h2,B0 (l:=x.binds) hr.1 hr.2,X6,A1,X6]
 have hge:1<=(x.binds.getD (findF x.binds n).1.toNat default).id:=by
  rw [Qz,Qh (by omega)];exact hid _ (ZS (by omega))
 rw [decide_eq_true (show (x.binds.getD (findF x.binds n).1.toNat default).id≥1 from hge),Z5]
 by_cases h3:(x.binds.getD (findF x.binds n).1.toNat default).id<=5
 ·rw [decide_eq_true h3,if_pos rfl,if_pos h3];rfl
 ·rw [decide_eq_false h3,if_neg Xo,if_neg h3,Mf _ _ hm,X6]
  by_cases h4:Fv x.macs (x.binds.getD (findF x.binds n).1.toNat default).id≥0
  ·rw [if_pos h4,if_pos h4];rfl
  ·rw [if_neg h4,if_neg h4];rfl
noncomputable def Qpi (l:List Bnd) (i:Nat) (b:Bnd):Bool:=@decide (¬(bOk b/\∀c∈l.take i,¬bEq c b)) (Classical.propDecidable _)
theorem RH {l:List Bnd} {i:Nat} {b:Bnd} (h:¬(bOk b/\∀c∈l.take i,¬bEq c b)):Qpi l i b=true:=by unfold Qpi;exact @decide_eq_true _ (Classical.propDecidable _) h
theorem Qla {l:List Bnd} {i:Nat} {b:Bnd} (h:bOk b/\∀c∈l.take i,¬bEq c b):Qpi l i b=false:=by unfold Qpi;exact @decide_eq_false _ (Classical.propDecidable _) (fun hn=>hn h)
theorem TR {l:List Bnd} : (l.Pairwise fun a b=>¬bEq a b)↔∀i,∀h:i < l.length,∀c∈l.take i,¬bEq c l[i]:=by
 rw [List.pairwise_iff_getElem];constructor
 ·intro h i hi c hc;obtain ⟨j,hj,e⟩:=ZZ.1 hc;rw [Z1] at hj;rw [Z3] at e;rw [← e];exact h j i (by omega) hi (by omega)
 ·intro h i j hi hj hij;refine h j hj _ (ZZ.2 ⟨i,by rw [Z1];omega,?_⟩);rw [Z3]
theorem TE (l:List Bnd) (b:Bnd) (h:BN l):∃r,YH l b=some r/\(r=true↔∃c∈l,bEq c b):=by
 rw [YH,Vh,GS _ _ (by have:=h.1;omega)]
 have hp:∀c,(decide (c.name=b.name)&&decide (c.sc=b.sc))=true↔bEq c b:=fun c=>by rw [QG,decide_eq_true_iff,decide_eq_true_iff];rfl
 rcases Et (F:=YE l b) (fun c=>decide (c.name=b.name)&&decide (c.sc=b.sc)) (fun _=>rfl) l (fun c hc i r=>by
  rw [YE,Yf,X6,Hh]
  by_cases hn:c.name=b.name
  ·rw [if_pos hn,decide_eq_true hn,FI _ _ (h.2 c hc).1];simp only [Yf,X6,Z5]
  ·rw [if_neg hn,decide_eq_false hn]
   simp only [Yf,X6,Z8]) with ⟨j,hj,h1,h2,h3,_⟩ | ⟨h1,h3,_⟩
 ·rw [h1];simp only [Yf,X6];rw [decide_eq_true (show ((j:Int)≥0) by omega)];exact ⟨_,rfl,fun _=>⟨_,ZS hj,(hp _).1 h2⟩,fun _=>rfl⟩
 ·rw [h1];simp only [Yf,X6];refine ⟨_,rfl,fun h=>(by cases h),fun ⟨c,hc,he⟩=>?_⟩;have:=Xg.1 h3 c hc;exact absurd ((hp c).2 he) this
theorem PF {l:List Bnd} (h:BN l):Tot (IT l) fun b=>b=true↔BV l:=by
 have hl:=h.1;rw [IT,Fc _ (by omega)]
 rcases M5 (Ju l) l (Qpi l) false (fun _=>rfl) (fun i hi r=>by
  have hm:l[i]∈l:=ZS hi;obtain ⟨q1,q2⟩:=h.2 _ hm;obtain ⟨b1,e1,hb1⟩:=Qhd (s:=l[i].name) (by omega);obtain ⟨b2,e2,hb2⟩:=Qhy (l:=l[i].sc) (by omega);have hlt:LG l 0 (i:Int)=some (l.take i):=Ce l i (by omega);obtain ⟨b3,e3,hb3⟩:=TE (l.take i) l[i] ⟨by rw [Z1];omega,fun b hb=>h.2 b (QI hb)⟩;rw [Ju,Yf,X6,e1,X6,e2,hlt];simp only [Yf,X6,A1];cases b1
  ·simp only [ZX,if_true,X6];rw [if_pos (RH fun hh=>by have:=hb1.2 hh.1.1;cases this)]
  simp only [ZY,Qq,if_false,X6];cases b2
  ·simp only [ZX,if_true,X6];rw [if_pos (RH fun hh=>by have:=hb2.2 hh.1.2.1;cases this)]
  simp only [ZY,Qq,if_false,X6]
  by_cases w1:l[i].id≥1
  ·by_cases w2:l[i].id<=999
   ·rw [decide_eq_true w1,decide_eq_true w2];simp only [Xp,ZY,Qq,if_false,e3,X6];cases b3
    ·simp only [Qq,if_false];rw [Qla ⟨⟨hb1.1 rfl,hb2.1 rfl,w1,w2⟩,fun c hc he=>by have:=hb3.2 ⟨c,hc,he⟩;cases this⟩]
     simp
    ·simp only [if_true];obtain ⟨c,hc,he⟩:=hb3.1 rfl;rw [if_pos (RH fun hh=>hh.2 c hc he)]
   ·rw [decide_eq_false w2,Bool.and_false];simp only [ZX,if_true];rw [if_pos (RH fun hh=>w2 hh.1.2.2.2)]
  ·rw [decide_eq_false w1,Z8];simp only [ZX,if_true]
   rw [if_pos (RH fun hh=>w1 hh.1.2.2.1)]) with ⟨h7,i,hi,hp⟩ | ⟨h7,hp⟩
 ·rw [h7,X6];refine ⟨_,rfl,fun h=>(by cases h),fun hv=>?_⟩;rw [Qla ⟨hv.2.1 _ (ZS hi),TR.1 hv.2.2 i hi⟩] at hp;cases hp
 ·have hall:∀i,∀hi:i < l.length,bOk l[i]/\∀c∈l.take i,¬bEq c l[i]:=fun i hi=>Classical.byContradiction fun hn=>by
   have:=hp i hi;rw [RH hn] at this;cases this
  rw [h7,X6];refine ⟨_,rfl,?_⟩;show decide _=true↔_;rw [decide_eq_true_iff];constructor
  ·intro hl;refine ⟨by omega,fun b hb=>?_,TR.2 fun i hi=>(hall i hi).2⟩;obtain ⟨i,hi,rfl⟩:=ZZ.1 hb;exact (hall i hi).1
  ·intro hv;have:=hv.1;omega
end Go.Proofs.SA
namespace Go.Proofs.SA
structure XS (x:Xpn):Prop where
 b:BN x.binds
 l:x.macs.length<=1000000
 m:∀m∈x.macs,MS m
def Qqs (x:Xpn) (i:Nat) (m:Mac):Prop:=(10 < m.id/\m.id<=x.id)/\(∀c∈x.macs.take i,c.id≠m.id)/\FD m.lits m.rules
structure XV (x:Xpn):Prop where
 b:BV x.binds
 s:0<=x.scope/\x.scope<=99
 i:10<=x.id/\x.id<=999
 t:0<=x.steps/\x.steps<=60
 l:x.macs.length<=60
 n:∀b∈x.binds,b.id<=x.id/\¬(5 < b.id/\b.id<=10)
 m:∀i,∀h:i < x.macs.length,Qqs x i x.macs[i]
theorem U0 {l:List Mac} {id:Int} : Fv l id≥0↔∃m∈l,m.id=id:=by
 unfold Fv
 cases hf:l.findIdx? (fun m=>decide (m.id=id)) with
 | none =>
  have:=Xs.1 hf
  simp only
  constructor
  ·intro h;omega
  ·rintro ⟨m,hm,e⟩;have:=this m hm;simp [e] at this
 | some j =>
  obtain ⟨hj,h1,_⟩:=Xh.1 hf
  simp only
  exact ⟨fun _=>⟨_,ZS hj,by simpa using h1⟩,fun _=>by omega⟩
theorem TI {l:List Mac} {i:Nat} (hi:i < l.length):Fv l l[i].id=(i:Int)↔∀c∈l.take i,c.id≠l[i].id:=by
 unfold Fv
 cases hf:l.findIdx? (fun m=>decide (m.id=l[i].id)) with
 | none =>
  have:=Xs.1 hf l[i] (ZS hi);simp at this
 | some j =>
  obtain ⟨hj,h1,h2⟩:=Xh.1 hf
  simp only
  constructor
  ·intro h c hc
   have hji:j=i:=by omega
   subst hji;obtain ⟨q,hq,e⟩:=ZZ.1 hc;rw [Z1] at hq;rw [Z3] at e;have:=h2 q (by omega);rw [e] at this;simpa using this
  ·intro h
   have hle:j<=i:=by
    rcases KB i j with hlt | hge
    ·have:=h2 i hlt;simp at this
    ·exact hge
   rcases KB j i with hlt | hge
   ·exfalso
    have h3:l[j].id=l[i].id:=by simpa using h1
    exact h l[j] (ZZ.2 ⟨j,by rw [Z1];omega,Z3⟩) h3
   ·omega
noncomputable def Qnp (x:Xpn) (i:Nat) (m:Mac):Bool:=@decide (¬Qqs x i m) (Classical.propDecidable _)
theorem Na {x:Xpn} {i:Nat} {m:Mac} (h:¬Qqs x i m):Qnp x i m=true:=by unfold Qnp;exact @decide_eq_true _ (Classical.propDecidable _) h
theorem Qbs {x:Xpn} {i:Nat} {m:Mac} (h:Qqs x i m):Qnp x i m=false:=by unfold Qnp;exact @decide_eq_false _ (Classical.propDecidable _) (fun hn=>hn h)
theorem Qbr {x:Xpn} (h:∀i,∀hi:i < x.macs.length,Qnp x i x.macs[i]=false):∀i,∀hi:i < x.macs.length,Qqs x i x.macs[i]:=fun i hi=>Classical.byContradiction fun hn=>by
 have:=h i hi;rw [Na hn] at this;cases this
theorem OA {x:Xpn} (h:XS x):Tot (Jv x) fun b=>b=true↔XV x:=by
 have hl:=h.l;have hbl:=h.b.1;rw [Jv];obtain ⟨b1,e1,hb1⟩:=PF h.b;rw [e1];simp only [X6,Yf,A1];have bad:¬XV x->Tot (some false:Option Bool) fun b=>b=true↔XV x:=fun hn=>⟨_,rfl,fun h=>(by cases h),fun h=>absurd h hn⟩;cases b1
 ·simp only [ZX,if_true,X6,Xm]
  exact bad fun hv=>by have:=hb1.2 hv.b;cases this
 have hbv:=hb1.1 rfl;simp only [ZY,Qq,if_false,X6]
 by_cases s1:(x.scope≥0/\x.scope<=99)
 rotate_left
 ·have:(decide (x.scope≥0)&&decide (x.scope<=99))=false:=by rw [Xn,decide_eq_false_iff_not,decide_eq_false_iff_not];omega
  rw [this];simp only [ZX,if_true,X6,Xm];exact bad fun hv=>s1 hv.s
 rw [decide_eq_true s1.1,decide_eq_true s1.2];simp only [Xp,ZY,Qq,if_false,X6]
 by_cases s2:(x.id≥10/\x.id<=999)
 rotate_left
 ·have:(decide (x.id≥10)&&decide (x.id<=999))=false:=by rw [Xn,decide_eq_false_iff_not,decide_eq_false_iff_not];omega
  rw [this];simp only [ZX,if_true,X6,Xm];exact bad fun hv=>s2 hv.i
 rw [decide_eq_true s2.1,decide_eq_true s2.2];simp only [Xp,ZY,Qq,if_false,X6]
 by_cases s3:(x.steps≥0/\x.steps<=60)
 rotate_left
 ·have:(decide (x.steps≥0)&&decide (x.steps<=60))=false:=by rw [Xn,decide_eq_false_iff_not,decide_eq_false_iff_not];omega
  rw [this];simp only [ZX,if_true,X6,Xm];exact bad fun hv=>s3 hv.t
 rw [decide_eq_true s3.1,decide_eq_true s3.2];simp only [Xp,ZY,Qq,if_false,X6,Z6]
 by_cases s4:(x.macs.length:Int) > 60
 ·rw [decide_eq_true s4,if_pos rfl]
  exact bad fun hv=>by have:=hv.l;omega
 rw [decide_eq_false s4,if_neg Xo]
 have hpb:∀b:Bnd,(decide (b.id > x.id)||(decide (b.id≥6)&&decide (b.id<=10)))=true↔¬(b.id<=x.id/\¬(5 < b.id/\b.id<=10)):=fun b=>by
  rw [Q9,QG,decide_eq_true_iff,decide_eq_true_iff,decide_eq_true_iff];omega
 rw [Y4,Y9,J6 _ _ (by omega)]
 rcases Et (F:=YC x.binds x) (fun b=>decide (b.id > x.id)||(decide (b.id≥6)&&decide (b.id<=10))) (fun _=>rfl) x.binds (fun c hc i r=>by
  rw [YC,Yf,X6,Js]
  by_cases hn:c.id > x.id
  ·rw [if_pos hn,decide_eq_true hn];simp only [Yf,X6,Xm]
  ·rw [if_neg hn,decide_eq_false hn]
   simp only [Yf,X6,Z6,A1]) with ⟨j,hj,q1,q2,q3,_⟩ | ⟨q1,q3,_⟩
 ·rw [q1,X6];simp only [Yf,X6];rw [decide_eq_true (show ((j:Int)≥0) by omega),if_pos rfl];exact bad fun hv=>(hpb _).1 q2 (hv.n _ (ZS hj))
 rw [q1,X6];simp only [Yf,X6];rw [if_neg (by decide),Dv _ (by omega)];have hn:∀b∈x.binds,b.id<=x.id/\¬(5 < b.id/\b.id<=10):=fun b hb=>Classical.byContradiction fun hh=>Xg.1 q3 b hb ((hpb b).2 hh)
 rcases M5 (Wf x) x.macs (Qnp x) false (fun _=>rfl) (fun i hi r=>by
  have hm:x.macs[i]∈x.macs:=ZS hi;obtain ⟨m1,m2,m3⟩:=h.m _ hm;obtain ⟨b,e,hb⟩:=PI m1 m2;have hlt:LG x.macs 0 (i:Int)=some (x.macs.take i):=Ce _ i (by omega);have hma:=Mf (x.macs.take i) x.macs[i].id (by rw [Z1];omega);rw [Wf,Yf,X6,e,hlt];simp only [Yf,X6,A1,hma];cases b
  ·simp only [ZX,if_true,X6];rw [if_pos (Na fun hh=>by have:=hb.2 hh.2.2;cases this)]
  simp only [ZY,Qq,if_false,X6]
  by_cases w:x.macs[i].id≥11/\x.macs[i].id<=x.id
  rotate_left
  ·have:(decide (x.macs[i].id≥11)&&decide (x.macs[i].id<=x.id))=false:=by rw [Xn,decide_eq_false_iff_not,decide_eq_false_iff_not];omega
   rw [this];simp only [ZX,if_true,X6];rw [if_pos (Na fun hh=>w ⟨by have:=hh.1.1;omega,hh.1.2⟩)]
  rw [decide_eq_true w.1,decide_eq_true w.2];simp only [Xp,ZY,Qq,if_false,X6]
  by_cases hex:Fv (x.macs.take i) x.macs[i].id≥0
  ·rw [decide_eq_true hex];simp only [if_true];obtain ⟨c,hc,he⟩:=U0.1 hex;rw [if_pos (Na fun hh=>hh.2.1 c hc he)]
  ·rw [decide_eq_false hex,Qbs ⟨⟨by omega,w.2⟩,fun c hc he=>hex (U0.2 ⟨c,hc,he⟩),hb.1 rfl⟩]) with ⟨h7,i,hi,hp⟩ | ⟨h7,hp⟩
 ·rw [h7,X6];refine bad fun hv=>?_;rw [Qbs (hv.m i hi)] at hp;cases hp
 ·rw [h7,X6];exact ⟨_,rfl,fun _=>⟨hbv,s1,s2,s3,by omega,hn,Qbr hp⟩,fun _=>rfl⟩
theorem Qht (a b c:Int):DG a b c=some (decide (a≥b)&&decide (a<=c)):=rfl
theorem Qad {x:Xpn} (h:XS x):Tot (GW x) fun b=>b=true↔XV x:=by
 have hl:=h.l;have hbl:=h.b.1;rw [GW];obtain ⟨b1,e1,hb1⟩:=AZ h.b.bs;rw [e1];simp only [X6,Yf,Qht];have bad:¬XV x->Tot (some false:Option Bool) fun b=>b=true↔XV x:=fun hn=>⟨_,rfl,fun h=>(by cases h),fun h=>absurd h hn⟩;cases b1
 ·simp only [ZX,if_true,X6,Xm]
  exact bad fun hv=>by have:=hb1.2 hv.b;cases this
 have hbv:=hb1.1 rfl;simp only [ZY,Z6]
 by_cases s4:(x.macs.length:Int) > 60
 ·rw [decide_eq_true s4];simp only [if_true,X6]
  exact bad fun hv=>by have:=hv.l;omega
 rw [decide_eq_false s4];simp only [Qq,if_false,X6]
 by_cases s1:(x.scope≥0/\x.scope<=99)
 rotate_left
 ·have:(decide (x.scope≥0)&&decide (x.scope<=99))=false:=by rw [Xn,decide_eq_false_iff_not,decide_eq_false_iff_not];omega
  rw [this];simp only [ZX,if_true,X6];exact bad fun hv=>s1 hv.s
 rw [decide_eq_true s1.1,decide_eq_true s1.2];simp only [Xp,ZY,Qq,if_false,X6]
 by_cases s2:(x.id≥10/\x.id<=999)
 rotate_left
 ·have:(decide (x.id≥10)&&decide (x.id<=999))=false:=by rw [Xn,decide_eq_false_iff_not,decide_eq_false_iff_not];omega
  rw [this];simp only [ZX,if_true,X6];exact bad fun hv=>s2 hv.i
 rw [decide_eq_true s2.1,decide_eq_true s2.2];simp only [Xp,ZY,Qq,if_false,X6]
 by_cases s3:(x.steps≥0/\x.steps<=60)
 rotate_left
 ·have:(decide (x.steps≥0)&&decide (x.steps<=60))=false:=by rw [Xn,decide_eq_false_iff_not,decide_eq_false_iff_not];omega
  rw [this];simp only [ZX,if_true,X6];exact bad fun hv=>s3 hv.t
 rw [decide_eq_true s3.1,decide_eq_true s3.2];simp only [Xp,ZY,Qq,if_false,X6]
 have hpb:∀b:Bnd,(decide (b.id > x.id)||(decide (b.id > 5)&&decide (b.id<=10)))=true↔¬(b.id<=x.id/\¬(5 < b.id/\b.id<=10)):=fun b=>by
  rw [Q9,QG,decide_eq_true_iff,decide_eq_true_iff,decide_eq_true_iff];omega
 rw [DA _ (by omega),DN (Wj x) (fun b=>decide (b.id > x.id)||(decide (b.id > 5)&&decide (b.id<=10))) false (fun _=>rfl) x.binds 0 (fun c hc i r=>by
  rw [Wj];simp only [Yf,X6]
  by_cases hn:c.id > x.id
  ·rw [if_pos hn,decide_eq_true hn];simp only [X6,Xm]
  ·rw [if_neg hn,decide_eq_false hn]
   by_cases h5:c.id > 5
   ·rw [if_pos h5,decide_eq_true h5];simp only [X6,Z6,Z5]
   ·rw [if_neg h5,decide_eq_false h5]
    simp only [X6,Z6,Z8]),X6]
 cases q3:x.binds.any fun b=>decide (b.id > x.id)||(decide (b.id > 5)&&decide (b.id<=10));rotate_left
 ·simp only [if_true];obtain ⟨b,hb,q2⟩:=List.any_eq_true.1 q3;exact bad fun hv=>(hpb _).1 q2 (hv.n _ hb)
 simp only [Qq,if_false];rw [DB _ (by omega)];have hn:∀b∈x.binds,b.id<=x.id/\¬(5 < b.id/\b.id<=10):=fun b hb=>Classical.byContradiction fun hh=>Xg.1 q3 b hb ((hpb b).2 hh)
 rcases M5 (Wl x) x.macs (Qnp x) false (fun _=>rfl) (fun i hi r=>by
  have hm:x.macs[i]∈x.macs:=ZS hi;obtain ⟨m1,m2,m3⟩:=h.m _ hm;obtain ⟨b,e,hb⟩:=FW m1 m2;have hma:=UZ x x.macs[i].id (by unfold Sm;omega);rw [Wl];simp only [Yf,X6,hma,e]
  by_cases w:x.macs[i].id<=10
  ·simp only [w,if_true,X6];rw [if_pos (Na fun hh=>by have:=hh.1.1;omega)]
  simp only [w,if_false,X6]
  by_cases w2:x.macs[i].id > x.id
  ·rw [decide_eq_true w2];simp only [if_true,X6];rw [if_pos (Na fun hh=>by have:=hh.1.2;omega)]
  rw [decide_eq_false w2];simp only [Qq,if_false,X6]
  by_cases hex:Fv x.macs x.macs[i].id=(i:Int)
  ·rw [decide_eq_true hex];simp only [ZY,Qq,if_false,X6];cases b
   ·simp only [ZX,if_true];rw [if_pos (Na fun hh=>by have:=hb.2 hh.2.2;cases this)]
   ·simp only [ZY,Qq,if_false];rw [Qbs ⟨⟨by omega,by omega⟩,(TI hi).1 hex,hb.1 rfl⟩]
    simp
  ·rw [decide_eq_false hex];simp only [ZX,if_true,X6]
   rw [if_pos (Na fun hh=>hex ((TI hi).2 hh.2.1))]) with ⟨h7,i,hi,hp⟩ | ⟨h7,hp⟩
 ·rw [h7,X6];refine bad fun hv=>?_;rw [Qbs (hv.m i hi)] at hp;cases hp
 ·rw [h7,X6];exact ⟨_,rfl,fun _=>⟨hbv,s1,s2,s3,by omega,hn,Qbr hp⟩,fun _=>rfl⟩
theorem XV.ids {x:Xpn} (h:XV x):∀b∈x.binds,1<=b.id:=fun b hb=>(h.b.2.1 b hb).2.2.1
noncomputable def U1 (x:Xpn) (n:Fm):Int × Int:=@ite _ (XV x/\n.kind=1/\FV n) (Classical.propDecidable _) (FP x n) (0,0)
theorem OG {x:Xpn} {n:Fm} (h:XV x/\n.kind=1/\FV n):U1 x n=FP x n:=by unfold U1;rw [if_pos h]
theorem EB {x:Xpn} {n:Fm} (h:¬(XV x/\n.kind=1/\FV n)):U1 x n=(0,0):=by unfold U1;rw [if_neg h]
theorem Nl {x:Xpn} (h:XS x) {n:Fm} (hn:n.sz<=1000000):Al x n=some (U1 x n):=by
 obtain ⟨b1,e1,hb1⟩:=OA h;obtain ⟨b2,e2,hb2⟩:=Oy (f:=n) (by omega);have hz:=Fm.G3 n;rw [Al,e1,X6,e2];cases b1
 ·simp only [ZX,if_true,Yf,X6];rw [EB fun hh=>by have:=hb1.2 hh.1;cases this]
 have hv:=hb1.1 rfl;simp only [ZY,Qq,if_false,X6,Yf];cases b2
 ·simp only [ZX,if_true];rw [EB fun hh=>by have:=hb2.2 hh.2;cases this]
 simp only [ZY,Qq,if_false];rw [PH x n h.b hv.ids (by omega) (by have:=h.l;omega),X6,OG ⟨hv,hb2.1 rfl⟩]
theorem Ns {x:Xpn} (h:XS x) {n:Fm} (hn:n.sz<=1000000):Ar x n=some (U1 x n):=by
 obtain ⟨b1,e1,hb1⟩:=Qad h;obtain ⟨b2,e2,hb2⟩:=Ss (f:=n) (by omega);have hz:=Fm.G3 n;rw [Ar,e1,X6,e2];cases b1
 ·simp only [ZX,if_true,Yf,X6];rw [EB fun hh=>by have:=hb1.2 hh.1;cases this]
 have hv:=hb1.1 rfl;simp only [ZY,Qq,if_false,X6,Yf];cases b2
 ·simp only [ZX,if_true];rw [EB fun hh=>by have:=hb2.2 hh.2;cases this]
 simp only [ZY,Qq,if_false];have hl:=h.l;rw [Sv x n h.b.bs (by unfold Sm;omega) (by unfold Sm;omega),X6,OG ⟨hv,hb2.1 rfl⟩]
end Go.Proofs.SA
namespace Go.Proofs.SA
theorem Qn7:WT=some ⟨[⟨(Qk #[108,97,109,98,100,97]),[],1⟩,⟨(Qk #[105,102]),[],2⟩,⟨(Qk #[113,117,111,116,101]),[],3⟩,⟨(Qk #[108,101,116]),[],4⟩,⟨(Qk #[108,101,116,45,115,121,110,116,97,120]),[],5⟩],[],0,10,0⟩:=by
 rw [WT,AR,Yf,X6]
 have st:∀(i:Nat) (z:List Bnd) (hi:i < 6),z.length<=5->Y7 [(Qk #[]),(Qk #[108,97,109,98,100,97]),(Qk #[105,102]),(Qk #[113,117,111,116,101]),(Qk #[108,101,116]),(Qk #[108,101,116,45,115,121,110,116,97,120])] z (i:Int)=Y7 [(Qk #[]),(Qk #[108,97,109,98,100,97]),(Qk #[105,102]),(Qk #[113,117,111,116,101]),(Qk #[108,101,116]),(Qk #[108,101,116,45,115,121,110,116,97,120])] (z++[⟨[(Qk #[]),(Qk #[108,97,109,98,100,97]),(Qk #[105,102]),(Qk #[113,117,111,116,101]),(Qk #[108,101,116]),(Qk #[108,101,116,45,115,121,110,116,97,120])][i]'hi,[],(i:Int)⟩]) ((i+1:Nat):Int):=fun i z hi hz=>by
  conv=>lhs;rw [Y7,if_pos (by simp;omega),Yi _ i (by simpa using hi),X6,Y1 (by simp;omega),X6,Wp (i:=i) (by omega)]
 rw [show (1:Int)=((1:Nat):Int) from rfl,st 1 [] (by omega) (by simp),st 2 _ (by omega) (by simp),st 3 _ (by omega) (by simp),st 4 _ (by omega) (by simp),st 5 _ (by omega) (by simp),Y7,if_neg (by simp)];rfl
theorem Qje (x:Xpn) (b:List Bnd) (z:List Mac) (i:Nat) (m:Mac) (hi:i < x.macs.length) (h:FS x.macs[i].lits):∀(n k:Nat),k+n=x.macs[i].lits.length->Vc x b z (i:Int) m (x.macs[i].lits.take k) (k:Int)=some x.macs[i].lits:=by
 have hl:=h.1;unfold Sm at hl;intro n
 induction n with
 | zero =>
  intro k hk;rw [Vc,Yi _ i hi,X6,if_neg (by omega),Xr (by omega)];rfl
 | succ n ih =>
  intro k hk
  have hkl:k < x.macs[i].lits.length:=by omega
  have hz:=h.2 _ (ZS hkl);rw [Vc,Yi _ i hi,X6,if_pos (by omega),X6,Yi _ k hkl,X6,DM _ (by omega),X6,Y1 (by simp only [Z1,ZP,ZO];omega),X6,Wp (by omega),← ZR hkl];exact ih (k+1) (by omega)
theorem Qjf (x:Xpn) (b:List Bnd) (z:List Mac) (i:Nat) (m:Mac) (e:List Fm) (hi:i < x.macs.length) (h:RS x.macs[i].rules) (hr:x.macs[i].rules.length<=400):∀(n k:Nat),k+n=x.macs[i].rules.length->Vd x b z (i:Int) m e (x.macs[i].rules.take k) (k:Int)=some x.macs[i].rules:=by
 intro n
 induction n with
 | zero =>
  intro k hk;rw [Vd,Yi _ i hi,X6,if_neg (by omega),Xr (by omega)];rfl
 | succ n ih =>
  intro k hk
  have hkl:k < x.macs[i].rules.length:=by omega
  obtain ⟨h1,h2⟩:=h.2 _ (ZS hkl);rw [Vd,Yi _ i hi,X6,if_pos (by omega),X6,Yi _ k hkl,X6,DM _ (by omega),X6,DM _ (by omega),X6,Y1 (by simp only [Z1,ZP,ZO];omega),X6,Wp (by omega)]
  have:x.macs[i].rules.take k++[Rul.mk x.macs[i].rules[k].pat x.macs[i].rules[k].tpl]=x.macs[i].rules.take (k+1):=by rw [ZR hkl]
  rw [this];exact ih (k+1) (by omega)
theorem Qjd (x:Xpn) (hb:BS x.binds) (hbl:x.binds.length<=1000000) (hl:x.macs.length<=1000000) (hm:∀m∈x.macs,MS m):G2 x=some x:=by
 have loop:∀(n i:Nat),i+n=x.macs.length->Vb x x.binds (x.macs.take i) (i:Int)=some x.macs:=by
  intro n
  induction n with
  | zero=>intro i hi;rw [Vb,if_neg (by omega),Xr (by omega)];rfl
  | succ n ih =>
   intro i hi
   have hil:i < x.macs.length:=by omega
   obtain ⟨m1,m2,m3⟩:=hm _ (ZS hil);have e1:=Qje x x.binds (x.macs.take i) i x.macs[i] hil m1 x.macs[i].lits.length 0 (by omega);have e2:=Qjf x x.binds (x.macs.take i) i x.macs[i] x.macs[i].lits hil m2 m3 x.macs[i].rules.length 0 (by omega);rw [Xw] at e1 e2;have e0:((0:Nat):Int)=0:=rfl;rw [e0] at e1 e2;rw [Vb,if_pos (by omega),Yi _ i hil,X6,e1,X6,e2,X6,Y1 (by simp only [Z1,ZP,ZO];omega),X6,Wp (by omega)]
   have:x.macs.take i++[Mac.mk x.macs[i].id x.macs[i].lits x.macs[i].rules]=x.macs.take (i+1):=by rw [ZR hil]
   rw [this];exact ih (i+1) (by omega)
 have:=loop x.macs.length 0 (by omega);rw [Xw] at this;have e0:((0:Nat):Int)=0:=rfl;rw [e0] at this;rw [G2,R8 x.binds hb hbl,X6,this,X6];rfl
theorem Tu {f:Fm} (hf:f.sz < 1000000000) (b:Int):Tot (WQ f b) fun r=>r.2=0->XI r.1:=by
 rw [WQ];refine ZL (Qhl hf b) fun r hr=>?_;refine ZN (fun h=>?_) (fun h=>⟨_,rfl,fun h2=>absurd h2 h⟩);have hx:=(hr.1 h).1;have hl:=hx.m;have hi:=hx.i;have hbl:=hx.b.1;rw [Qjd r.1 hx.b.bs (by omega) (by omega) hx.mm,X6];exact ⟨_,rfl,fun _=>hx⟩
def BM (m:Nat) (l:List Bnd):Prop:=l.length<=m/\∀b∈l,b.sc.length<=m/\b.name.size<=1000
theorem BM.bn {m:Nat} {l:List Bnd} (h:BM m l) (hm:m<=1000000):BN l:=⟨by have:=h.1;omega,fun b hb=>by have:=h.2 b hb;omega⟩
theorem BM.mono {m k:Nat} {l:List Bnd} (h:BM m l) (hm:m<=k):BM k l:=⟨by have:=h.1;omega,fun b hb=>by have:=h.2 b hb;omega⟩
theorem BV.bm {l:List Bnd} (h:BV l):BM 60 l:=⟨h.1,fun b hb=>⟨by have:=(h.2.1 b hb).2.1.len;omega,by have:=NV.sz (h.2.1 b hb).1;omega⟩⟩
theorem RR {m:Nat} {l:List Bnd} (h:BM m l) (hm:m<=1000) {c:Rdr} {k:Nat} (hc:RdI c k) (hk:k < 1000000000):Tot (AN l c) fun r=>BM (m+1) r.1/\RdI r.2 (k+3):=by
 have hl:=h.1;have hb:=h.bn (by omega);rw [AN,R8 l hb.bs (by omega),X6];refine ZN (fun _=>⟨_,rfl,h.mono (by omega),hc.mono (by omega)⟩) (fun hne=>?_);refine ZL (Jq hc (by omega) (by omega)) fun x hx=>?_;obtain ⟨x1,x2,x3⟩:=hx;refine ZL (Jq x3 (by omega) (by omega)) fun d hd=>?_;obtain ⟨_,_,d3⟩:=hd;refine ZN (fun _=>?_) (fun _=>?_)
 ·refine ZL (Cg d3 (by omega) (by simp)) fun v hv=>?_;refine ZL (Im x1 x2) fun b hbm=>⟨_,rfl,⟨by simp only [Xv];omega,fun y hy=>?_⟩,hv.2⟩
  rcases Xq hy with hy | rfl
  ·have:=h.2 y hy;omega
  ·have:=h.2 b hbm;simp only;omega
 refine ZN (fun _=>?_) (fun _=>?_)
 ·refine ZL (Cg d3 (by omega) (by simp)) fun v hv=>?_;refine ZL (Im x1 x2) fun b hbm=>?_;have hbb:=h.2 b hbm;refine ZL (A5 (by simp only [ZP,ZO];omega)) fun sc hsc=>⟨_,rfl,⟨by simp only [Xv];omega,fun y hy=>?_⟩,hv.2⟩
  rcases Xq hy with hy | rfl
  ·have:=h.2 y hy;omega
  ·subst hsc;simp only [QV,ZP,ZO];omega
 refine ZN (fun _=>?_) (fun _=>⟨_,rfl,h.mono (by omega),d3.mono (by omega)⟩);refine ZL (Im x1 x2) fun b hbm=>?_;refine ZL (A5 (by simp only [ZP,ZO];omega)) fun z hz=>⟨_,rfl,?_,d3.mono (by omega)⟩;subst hz;refine ⟨by simp only [QV,ZP,ZO];omega,fun y hy=>?_⟩
 rcases List.mem_append.1 hy with hy | hy
 ·have:=h.2 y hy;omega
 ·rw [List.mem_singleton.1 hy];have:=h.2 b hbm;omega
theorem Qf5 {l:List Int} (h:∀x∈l,0<=x/\x < 256):Tot (Cw l) fun r=>r.1.sz<=1000100:=by
 unfold Cw;refine ZL (Sx h) fun c hc=>?_;refine ZL (Qgj hc (by omega)) fun f hf=>?_;refine ZL (Jq hf.2 (by omega) (by omega)) fun x hx=>?_;have hf1:=hf.1;refine ZL (p:=fun y=>(Fm.mk y.2.2.1 y.2.2.2.1 y.2.2.2.2.1 y.2.2.2.2.2.1 y.2.2.2.2.2.2).sz<=1000100/\RdI ⟨y.1,y.2.1⟩ 100000000) (ZN (fun _=>?_) (fun _=>Tot.pure ⟨?_,hx.2.2.mono (by omega)⟩)) fun y hy=>?_
 ·refine ZL (RM f.1 hx.2.2 (by omega) (by omega)) fun g hg=>?_;have:=hg.1;refine ZL (RM g.1 hg.2 (by omega) (by omega)) fun g2 hg2=>Tot.pure ⟨?_,hg2.2.mono (by omega)⟩;have h1:=hg2.1;rw [Fm.G3] at h1
  simp only;rw [DI];omega
 ·rw [Fm.G3] at hf1
  simp only;rw [DI];omega
 obtain ⟨y1,y2,y3,y4,y5,y6,y7⟩:=y;exact ZL (Cg hy.2 (by omega) (by simp)) fun z hz=>Tot.pure hy.1
theorem Qae {l:List Int} (h:∀x∈l,0<=x/\x < 256):Tot (Be l) fun x=>XS x/\BM 62 x.binds:=by
 unfold Be;refine ZL (Qf5 h) fun f hf=>?_;refine ZL (Tu (by omega) 20) fun r hr=>?_;refine ZL (p:=fun t=>BM 60 t.2.2.2.2/\t.2.2.2.1.length<=1000000/\∀m∈t.2.2.2.1,MS m) (ZN (fun h0=>?_) (fun _=>?_)) fun t ht=>?_
 ·have hx:=hr h0;have hl:=hx.m;have hi:=hx.i;exact ⟨_,rfl,hx.b.bm,by show r.1.macs.length<=_;omega,hx.mm⟩
 ·rw [Qn7,X6];exact ⟨_,rfl,(Qhu Qca).b.bm,by simp,fun m hm=>by cases hm⟩
 obtain ⟨t1,t2,t3,t4,t5⟩:=t;obtain ⟨hb,hl,hm⟩:=ht;simp only at hb hl hm ⊢;have ok:∀(b:List Bnd) (s i p:Int),BM 62 b->XS ⟨b,t4,s,i,p⟩/\BM 62 b:=fun b s i p hb=>⟨⟨hb.bn (by omega),hl,hm⟩,hb⟩;have hb62:=hb.mono (k:=62) (by omega);refine ZL (Sx h) fun c hc=>?_;refine ZL (Jq hc (by omega) (by omega)) fun x hx=>?_;obtain ⟨_,_,x3⟩:=hx;refine ZN (fun _=>?_) (fun _=>?_)
 ·exact ZL (Cg x3 (by omega) (by simp)) fun v hv=>⟨_,rfl,ok _ _ _ _ hb62⟩
 refine ZN (fun _=>?_) (fun _=>?_)
 ·refine ZL (RR hb (by omega) x3 (by omega)) fun a ha=>?_;exact ZL (RR ha.1 (by omega) ha.2 (by omega)) fun a2 ha2=>⟨_,rfl,ok _ _ _ _ ha2.1⟩
 refine ZN (fun _=>?_) (fun _=>⟨_,rfl,ok _ _ _ _ hb62⟩);refine ZN (fun hpos=>?_) (fun _=>⟨_,rfl,ok _ _ _ _ hb62⟩);refine ZL (Cg x3 (by omega) (by simp)) fun v hv=>?_;refine ZL (Im (by omega) hpos) fun m0 hm0=>⟨_,rfl,⟨hb.bn (by omega),by simp only [Xv];exact hl,fun m hmm=>?_⟩,hb62⟩
 rcases Xq hmm with hmm | rfl
 ·exact hm m hmm
 ·exact hm m0 hm0
theorem Ol {l:List Int} (h:∀x∈l,0<=x/\x < 256):Tot (Hn l) fun r=>XS r.1/\r.2.sz<=1000000:=by
 unfold Hn;refine ZL (Qae h) fun x hx=>?_;obtain ⟨hs,hb⟩:=hx;refine ZL (Sx h) fun c hc=>?_
 have five:∀s∈[(Qk #[120]),(Qk #[105,102]),(Qk #[111,114]),(Qk #[108,105,115,116]),(Qk #[115,119,97,112])],s.size<=10:=by decide
 have rest:∀{c:Rdr} {k:Nat},RdI c k->k < 1000->Tot (V8 [(Qk #[120]),(Qk #[105,102]),(Qk #[111,114]),(Qk #[108,105,115,116]),(Qk #[115,119,97,112])] c>>=fun x41=>(VJ x41.1>>=fun x42=>(Ho x42 x41.2>>=fun x43=>pure (x,x43.1)))) fun r=>XS r.1/\r.2.sz<=1000000:=fun {c k} hc hk=>by
  refine ZL (Qbw hc (by omega) (by simp)) fun s hs2=>?_;have h10:=five _ hs2.1;rw [Qns,X6]
  have hsz:(Fm.mk 1 s.1 0 [] []).sz<=10:=by rw [DI];simp only [ZO,VF];omega
  have hn:=Fm.NY (Fm.mk 1 s.1 0 [] []);refine ZL (Qgl _ hs2.2 (by omega) (by omega)) fun d hd=>⟨_,rfl,hs,?_⟩;have:=hd.1
  simp only;omega
 refine ZN (fun hpos=>?_) (fun _=>rest hc (by omega));refine ZL (Jq hc (by omega) (by omega)) fun q hq=>?_;obtain ⟨_,_,q3⟩:=hq;refine ZN (fun _=>?_) (fun _=>rest q3 (by omega));refine ZL (Jq q3 (by omega) (by omega)) fun w hw=>?_;obtain ⟨w1,w2,w3⟩:=hw;refine ZL (Im w1 w2) fun b hbm=>?_;have hbb:=hb.2 b hbm;refine ZL (A5 (by simp only [ZO];omega)) fun sc hsc=>⟨_,rfl,hs,?_⟩;subst hsc
 simp only
 rw [DI];simp only [QS,ZO,VF];omega
theorem Qc6 {α β:Type} (F:List β->Nat->List α->Option (List β)) (T:α->β) (hn:∀z i,F z i []=some z):∀(l:List α) (z:List β) (i:Nat),(∀x∈l,∀z i r,z.length<=1099511627776->F z i (x :: r)=F (z++[T x]) (i+1) r)->z.length+l.length<=1099511627776->F z i l=some (z++l.map T):=by
 intro l
 induction l with
 | nil=>intro z i _ _;rw [hn];simp
 | cons x l ih =>
  intro z i hc hz;simp only [ZP] at hz;rw [hc x (KD ..) z i l (by omega),ih _ _ (fun y hy=>hc y (Kf _ hy)) (by simp;omega),List.map_cons,QD];rfl
theorem Qdd (m:Mac) (h:MS m):An m=some m:=by
 obtain ⟨h1,h2,h3⟩:=h;have hl:=h1.1;unfold Sm at hl
 rw [An,FJ _ _ (by omega),Qc6 (JZ m) id (fun _ _=>rfl) m.lits [] 0 (fun x hx z i r hz=>by
  rw [JZ,Yf,X6,Cc x (h1.2 x hx),X6,Y1 (by simp;omega),X6];rfl) (by simp;omega),X6]
 simp only [QS,List.map_id]
 rw [FK _ _ _ (by omega),AY (J0 m m.lits) id (fun _ _=>rfl) m.rules [] 0 (fun x hx z i r hz=>by
  obtain ⟨q1,q2⟩:=h2.2 x hx
  rw [J0,Yf,X6,Cc x.pat (by omega),X6,Cc x.tpl (by omega),X6,Y1 (by simp;omega),X6];rfl) (by simp;omega),X6,Yf]
 simp only [QS,List.map_id]
theorem PG {x:Xpn} (h:XS x) (id:Int):Tot (Ak x id) fun r=>(XV x/\Fv x.macs id≥0->r.2=true/\r.1.id=id)/\(¬Fv x.macs id≥0->r.2=false):=by
 rw [Ak,Mf _ _ (by have:=h.l;omega),X6];obtain ⟨b1,e1,hb1⟩:=OA h;rw [e1,X6];cases b1
 ·simp only [ZX,Xm,Yf,X6,if_true];exact ⟨_,rfl,fun hh=>(by have:=hb1.2 hh.1;cases this),fun _=>rfl⟩
 simp only [ZY,Z6,Yf,X6]
 by_cases hm:Fv x.macs id≥0
 ·rw [decide_eq_false (show ¬Fv x.macs id < 0 by omega),if_neg Xo];obtain ⟨h1,h2⟩:=Qha hm;rw [B0 (l:=x.macs) hm h1,X6]
  have hmem:x.macs.getD (Fv x.macs id).toNat default∈x.macs:=by
   rw [Qz,Qh (by omega)];exact ZS _
  rw [Qdd _ (h.m _ hmem),X6];exact ⟨_,rfl,fun _=>⟨rfl,h2⟩,fun hn=>absurd hm hn⟩
 ·rw [decide_eq_true (show Fv x.macs id < 0 by omega),if_pos rfl];exact ⟨_,rfl,fun hh=>absurd hh.2 hm,fun _=>rfl⟩
theorem XV.mac {x:Xpn} (h:XV x) {id:Int} (hm:Fv x.macs id≥0):10 < id:=by
 obtain ⟨m,hmm,e⟩:=U0.1 hm;obtain ⟨i,hi,rfl⟩:=ZZ.1 hmm;have:=(h.m i hi).1.1;omega
theorem PN {l:List Int} (h:∀x∈l,0<=x/\x < 256):Ax l=some true:=by
 unfold Ax
 by_cases hl:(l.length:Int) > 1048576
 ·rw [if_pos hl];rfl
 rw [if_neg hl];obtain ⟨d,hd,hs,hn⟩:=Ol h;rw [hd,X6,Nl hs hn,X6,Ns hs hn,X6];simp only [decide_true,ZY,Bool.or_self,Yf,X6,Qq,if_false];obtain ⟨r,hr,r1,r2⟩:=PG hs (U1 d.1 d.2).2;rw [hr,X6]
 by_cases hv:XV d.1/\d.2.kind=1/\FV d.2
 rotate_left
 ·rw [EB hv];rfl
 rw [OG hv] at r1 r2 ⊢;obtain ⟨hx,_,_⟩:=hv;unfold FP at r1 r2 ⊢
 by_cases h0:(findF d.1.binds d.2).2=0
 ·rw [if_pos h0];rfl
 rw [if_neg h0] at r1 r2 ⊢
 by_cases h2:(findF d.1.binds d.2).2=2
 ·rw [if_pos h2];rfl
 rw [if_neg h2] at r1 r2 ⊢
 have h1:(findF d.1.binds d.2).2=1:=by have:=UO d.1.binds d.2;omega
 have hr0:=Cb h1
 have hbm:d.1.binds.getD (findF d.1.binds d.2).1.toNat default∈d.1.binds:=by
  rw [Qz,Qh (by omega)];exact ZS _
 have hge:=hx.ids _ hbm;have hnn:=hx.n _ hbm;generalize (d.1.binds.getD (findF d.1.binds d.2).1.toNat default).id=id at *
 by_cases h5:id<=5
 ·rw [if_pos h5] at r1 r2 ⊢
  have:¬Fv d.1.macs id≥0:=fun hm=>by have:=hx.mac hm;omega
  have:=r2 this;simp only [this,Int.reduceEq,if_false,if_true,X6,Yf];rw [decide_eq_true (show id≥1 from hge),decide_eq_true h5];rfl
 rw [if_neg h5] at r1 r2 ⊢
 by_cases hm:Fv d.1.macs id≥0
 ·rw [if_pos hm] at r1 r2 ⊢;obtain ⟨q1,q2⟩:=r1 ⟨hx,hm⟩;have:=hx.mac hm;simp only [q1,q2,if_true,X6,Yf,decide_true,Xp,Z5];rw [decide_eq_true (show id > 10 by omega)]
 ·rw [if_neg hm] at r1 r2 ⊢;have:=r2 hm;simp only [this,Int.reduceEq,if_false,if_true,X6,Yf,ZX,Bool.and_true];rw [decide_eq_true (show id > 10 by omega)]
end Go.Proofs.SA
