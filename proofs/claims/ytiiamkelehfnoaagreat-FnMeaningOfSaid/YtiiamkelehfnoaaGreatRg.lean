/- The reference's patterns, templates, rules: what is valid. -/
import Derived.Test.YtiiamkelehfnoaaGreatRa
import Derived.Test.YtiiamkelehfnoaaGreatPb
set_option linter.unusedVariables false
set_option linter.unusedSimpArgs false
set_option maxRecDepth 100000
open Go Go.Proofs Go.Proofs.Shadow
open _root_.Bool renaming false_eq_true → Qq, not_true → ZY, not_false → ZX, true_and → Z5, false_or → Z6, false_and → Z8, or_eq_false_iff → Xe
open _root_.List renaming getElem_mem → ZS, drop_eq_getElem_cons → ZJ, mem_cons_self → KD, mem_cons_of_mem → Kf, length_append → QV, append_assoc → QD, eq_nil_of_length_eq_zero → Kt, drop_zero → KR, drop_of_length_le → KP, getD_eq_getElem?_getD → Qz, getElem?_eq_getElem → Qh, nil_append → QS, length_cons → ZP, getElem_cons_succ → Z7, mem_append → QR, drop_length → Z9, filter_cons_of_neg → Xa, filter_cons_of_pos → Xb, length_map → Xc, drop_drop → Xd, range_eq_range' → Xf, mem_iff_getElem → ZZ, any_cons → Z0, mem_singleton → ZG, any_eq_false → Xg, mem_map → QX
open Fm renaming nodes → ZU
open _root_.Option renaming map_eq_some_iff → Qx, map_some → Qu
open _root_.ByteArray renaming mk → Qk
open _root_.Nat renaming lt_or_ge → KB
open Tot renaming bind → ZL
open Go.IntKind (i64)
namespace Go.Proofs.Shadow
theorem Ou {α:Type} (F:Nat->List α->Option (Int ⊕ Unit)) (p:α->Bool) (hn:∀i,F i []=some (.inr ())):∀(l:List α) (i:Nat),(∀x∈l,∀i r,F i (x :: r)=if p x=true then some (.inl (i:Int)) else F (i+1) r) ->
  (∃j,∃hj:j < l.length,F i l=some (.inl ((i+j:Nat):Int))/\l.find? p=some l[j])∨(F i l=some (.inr ())/\l.find? p=none):=by
 intro l
 induction l with
 | nil=>intro i _;exact .inr ⟨hn _,rfl⟩
 | cons x l ih =>
  intro i hc;rw [hc x (KD ..),List.find?_cons];cases hp:p x
  ·rw [if_neg (by simp)]
   rcases ih (i+1) (fun y hy=>hc y (Kf _ hy)) with ⟨j,hj,h1,h2⟩ | ⟨h1,h2⟩
   ·exact .inl ⟨j+1,by simp;omega,by rw [h1];congr 3;omega,by simpa using h2⟩
   ·exact .inr ⟨h1,h2⟩
  ·exact .inl ⟨0,by simp,by simp,by simp⟩
end Go.Proofs.Shadow
namespace Go.Proofs.SA
theorem SU (f:Fm) (ls:List Fm) (h:FS ls):AO f ls=some (Sy ls f):=by
 rw [AO,Sy];unfold BZ Mc
 by_cases h1:f.kind=1
 ·by_cases h2:f.name=Qk #[46,46,46]
  ·simp only [h1,decide_eq_true h2,Yf,X6];rfl
  ·by_cases h3:f.name=Qk #[95]
   ·simp only [h1,decide_eq_false h2,decide_eq_true h3,Yf,X6];rfl
   ·simp only [h1,decide_eq_false h2,decide_eq_false h3,Yf,X6,Qbp ls f h];rfl
 ·simp only [h1,decide_false,Yf,X6];rfl
theorem Qef (ls:List Fm) (h:FS ls):∀(p:Fm) (z:List Fm),z.length+p.nodes<=1000000->JK z p ls=some (z++vrs ls p):=by
 intro p
 induction p using Fm.ind with
 | h p ih =>
  intro z hz;have hn:=Fm.Vo p;have hl:=Jf p.kids
  have loop:∀(r:List Fm),(∀g∈r,g∈p.kids)->∀(z:List Fm) (i:Nat),z.length+VF ZU r<=1000000->Jc p ls z i r=some (z++NQ ls r):=by
   intro r
   induction r with
   | nil=>intro _ z i _;rw [Jc,Yf];simp [NQ]
   | cons f r ihr =>
    intro hr z i hz;rw [VF] at hz;rw [Jc,Yf,X6,ih f (hr f (KD ..)) z (by omega),X6];have:=BU ls f;rw [ihr (fun g hg=>hr g (Kf _ hg)) _ _ (by rw [QV];omega),NQ,QD]
  rw [JK,SU p ls h,X6,Ni];cases Sy ls p
  ·simp only [Qq,if_false,Yf,X6];rw [Cs _ _ _ (by omega),loop _ (fun _ h=>h) _ _ (by omega)];simp [X6]
  ·simp only [if_true,Yf,X6];rw [Y1 (by simp;omega)];simp only [X6];rw [Cs _ _ _ (by omega),loop _ (fun _ h=>h) _ _ (by simp;omega)];simp [X6]
theorem Qaj (ls:List Fm) (h:FS ls) (p:Fm) (hp:p.nodes<=1000000):AG [] p ls=some (vrs ls p):=by
 have hn:=Fm.Vo p;have hl:=Jf p.kids
 have loop:∀(r:List Fm) (z:List Fm) (i:Nat),z.length+VF ZU r<=1000000->G0 p ls z i r=some (z++NQ ls r):=by
  intro r
  induction r with
  | nil=>intro z i _;rw [G0,Yf];simp [NQ]
  | cons f r ihr =>
   intro z i hz;rw [VF] at hz;rw [G0,Yf,X6,Qef ls h f z (by omega),X6];have:=BU ls f;rw [ihr _ _ (by rw [QV];omega),NQ,QD]
 rw [AG,SU p ls h,X6,Ni];cases Sy ls p
 ·simp only [Qq,if_false,Yf,X6];rw [Ea _ _ _ (by omega),loop _ _ _ (by simp;omega)];simp [X6]
 ·simp only [if_true,Yf,X6];rw [Y1 (by simp)];simp only [X6];rw [Ea _ _ _ (by omega),loop _ _ _ (by simp;omega)];simp [X6]
theorem OI {ks:List Fm} {i:Nat} {f:Fm} {r:List Fm} (hd:ks.drop i=f :: r) (hl:ks.length<=1099511627776) :
  ((if (i64.wrap ((i:Int)+1)) < (ks.length:Int) then (idx ks (i64.wrap ((i:Int)+1))>>=fun x37=>(Ve x37>>=fun x39=>pure x39)) else pure false:Option Bool))=some (Wr r):=by
 have hi:i < ks.length:=by
  rcases KB i ks.length with h | h
  ·exact h
  ·rw [KP h] at hd;cases hd
 rw [ZJ hi] at hd
 injection hd with e1 e2
 rw [Wp (i:=i) (by omega)]
 by_cases h:i+1 < ks.length
 ·rw [if_pos (by omega),Yi ks (i+1) h];rw [ZJ h] at e2;rw [← e2];rfl
 ·rw [if_neg (by omega)];rw [KP (by omega)] at e2;rw [← e2];rfl
theorem R9 (ls:List Fm) (d:Int) (f:Fm):(dps ls d f).length<=f.nodes:=by rw [← F7];exact BU ls f
theorem Tf (ls:List Fm) (h:FS ls):∀(p:Fm) (z:List Int) (d:Int),z.length+p.nodes<=1000000->0<=d->d+p.nodes<=1000000->VY z p ls d=some (z++dps ls d p):=by
 intro p
 induction p using Fm.ind with
 | h p ih =>
  intro z d hz h0 h1;have hn:=Fm.Vo p;have hl:=Jf p.kids
  have loop:∀(r:List Fm),(∀g∈r,g∈p.kids)->∀(z:List Int) (i:Nat),p.kids.drop i=r->z.length+VF ZU r<=1000000->V4 p ls d z i r=some (z++RI ls d r):=by
   intro r
   induction r with
   | nil=>intro _ z i _ _;rw [V4,Yf];simp [RI]
   | cons f r ihr =>
    intro hr z i hd hz
    have hd2:p.kids.drop (i+1)=r:=by rw [← Xd,hd];rfl
    rw [VF] at hz;have hm:=hr f (KD ..);have hk:=IA hm;rw [V4,OI hd (by omega),X6,RI]
    have key:∀d':Int,0<=d'->d'<=d+1->(VY z f ls d'>>=fun x51=>V4 p ls d x51 (i+1) r)=some (z++(dps ls d' f++RI ls d r)):=fun d' q0 q1=>by
     rw [ih f hm z d' (by omega) q0 (by omega),X6];have:=R9 ls d' f;rw [ihr (fun g hg=>hr g (Kf _ hg)) _ _ hd2 (by rw [QV];omega),QD]
    cases Wr r
    ·simp only [Qq,if_false,Yf,X6];exact key d h0 (by omega)
    ·simp only [if_true,Yf,X6,Y2 (show -9223372036854775808<=d+1 by omega) (show d+1 < 9223372036854775808 by omega)];exact key (d+1) (by omega) (Int.le_refl _)
  rw [VY,SU p ls h,X6,Th];cases Sy ls p
  ·simp only [Qq,if_false,Yf,X6];rw [BK _ _ _ _ (by omega),loop _ (fun _ h=>h) _ _ (KR ..) (by omega)];simp [X6]
  ·simp only [if_true,Yf,X6];rw [Y1 (by simp;omega)];simp only [X6];rw [BK _ _ _ _ (by omega),loop _ (fun _ h=>h) _ _ (KR ..) (by simp;omega)];simp [X6]
theorem Oi (ls:List Fm) (h:FS ls) (p:Fm) (hp:p.nodes<=100000):Iv [] p ls 0=some (dps ls 0 p):=by
 have hn:=Fm.Vo p;have hl:=Jf p.kids
 have loop:∀(r:List Fm),(∀g∈r,g∈p.kids)->∀(z:List Int) (i:Nat),p.kids.drop i=r->z.length+VF ZU r<=1000000->WV p ls 0 z i r=some (z++RI ls 0 r):=by
  intro r
  induction r with
  | nil=>intro _ z i _ _;rw [WV,Yf];simp [RI]
  | cons f r ihr =>
   intro hr z i hd hz
   have hd2:p.kids.drop (i+1)=r:=by rw [← Xd,hd];rfl
   rw [VF] at hz;have hm:=hr f (KD ..);have hk:=IA hm;rw [WV,OI hd (by omega),X6,RI]
   have key:∀d':Int,0<=d'->d'<=1->(VY z f ls d'>>=fun x51=>WV p ls 0 x51 (i+1) r)=some (z++(dps ls d' f++RI ls 0 r)):=fun d' q0 q1=>by
    rw [Tf ls h f z d' (by omega) q0 (by omega),X6];have:=R9 ls d' f;rw [ihr (fun g hg=>hr g (Kf _ hg)) _ _ hd2 (by rw [QV];omega),QD]
   cases Wr r
   ·simp only [Qq,if_false,Yf,X6];exact key 0 (by omega) (by omega)
   ·simp only [if_true,Yf,X6,show i64.wrap (0+1)=1 from rfl];exact key 1 (by omega) (by omega)
 rw [Iv,SU p ls h,X6,Th];cases Sy ls p
 ·simp only [Qq,if_false,Yf,X6];rw [CS _ _ _ _ (by omega),loop _ (fun _ h=>h) _ _ (KR ..) (by simp;omega)];simp [X6]
 ·simp only [if_true,Yf,X6];rw [Y1 (by simp)];simp only [X6];rw [CS _ _ _ _ (by omega),loop _ (fun _ h=>h) _ _ (KR ..) (by simp;omega)];simp [X6]
def Qig (ls:List Fm) (p:Fm):Prop:=FV p/\Qau ls/\Qb7 p=true/\(vrs ls p).Nodup/\(∀d∈dps ls 0 p,d<=3)/\(vrs ls p).length<=20
theorem Qci (ls:List Fm):∀(l:List Fm),(∀f∈l,∀x∈vrs ls f,x.sz<=f.sz)->∀x∈NQ ls l,x.sz<=VF Fm.sz l
 | [],_,x,hx=>by cases hx
 | f :: l,h,x,hx=>by
  rw [NQ] at hx;rw [VF]
  rcases QR.1 hx with hx | hx
  ·have:=h f (KD ..) x hx;omega
  ·have:=Qci ls l (fun g hg=>h g (Kf _ hg)) x hx;omega
theorem SX (ls:List Fm) (p:Fm):∀x∈vrs ls p,x.sz<=p.sz:=by
 induction p using Fm.ind with
 | h p ih =>
  intro x hx;rw [Ni] at hx
  rcases QR.1 hx with hx | hx
  ·split at hx
   ·rw [ZG.1 hx];exact Nat.le_refl _
   ·cases hx
  ·have:=Qci ls p.kids ih x hx;rw [Fm.G3 p];omega
theorem Qj0 {p:Fm} (hp:p.sz<=100000) {ls:List Fm} (h:FS ls):Tot (ER p ls) fun b=>b=true↔Qig ls p:=by
 rw [ER];refine ZL (Ay (by omega)) fun b1 hb1=>?_;cases b1
 ·simp only [ZX,if_true,Yf,X6];exact ⟨_,rfl,fun h=>(by cases h),fun h=>(by have:=hb1.2 h.1;cases this)⟩
 simp only [ZY,Qq,if_false];have hfv:=hb1.1 rfl;have hnn:=hfv.2;obtain ⟨b2,e2,hb2⟩:=LF h;rw [e2];simp only [Yf,X6];cases b2
 ·simp only [ZX,if_true,Yf,X6];exact ⟨_,rfl,fun h=>(by cases h),fun h=>(by have:=hb2.2 h.2.1;cases this)⟩
 simp only [ZY,Qq,if_false,Qhq p (by omega),Yf,X6];cases hs:Qb7 p
 ·simp only [ZX,if_true];exact ⟨_,rfl,fun h=>(by cases h),fun h=>(by have h9:=h.2.2.1;rw [hs] at h9;cases h9)⟩
 simp only [ZY,Qq,if_false,Qaj ls h p (by omega),X6];have hvl:=BU ls p;rw [P0 _ _ _ (by omega)]
 have hvs:∀x∈vrs ls p,x.sz<=1000000:=fun x hx=>by have:=SX ls p x hx;omega
 rcases M5 (I9 p ls (vrs ls p)) (vrs ls p) (fun i x=>decide (x∈(vrs ls p).take i)) false (fun _=>rfl) (fun i hi r=>by
  rw [I9,Ce _ i (by omega)];simp only [Yf,X6]
  rw [Qbp _ _ ⟨by unfold Sm;rw [List.length_take];omega,fun f hf=>hvs f (List.mem_of_mem_take hf)⟩,X6]) with ⟨h7,i,hi,hp2⟩ | ⟨h7,hp2⟩
 ·rw [h7,X6];exact ⟨_,rfl,fun h=>(by cases h),fun h=>absurd (of_decide_eq_true hp2) (AL.1 h.2.2.2.1 i hi)⟩
 have hnd:(vrs ls p).Nodup:=AL.2 fun i hi=>of_decide_eq_false (hp2 i hi);rw [h7,X6]
 simp only
 have hdl:=R9 ls 0 p
 rw [Oi ls h p (by omega),X6,P1 _ _ _ (by omega),DN (Aa p (vrs ls p) (dps ls 0 p)) (fun d=>decide (d > 3)) false (fun _=>rfl) _ _ (fun x hx i r=>by
  rw [Aa,Yf,X6];by_cases hx3:x > 3<;>simp [hx3,Yf]),X6]
 cases ha:(dps ls 0 p).any fun d=>decide (d > 3)
 ·simp only [Qq,if_false,Yf]
  have hd3:∀d∈dps ls 0 p,d<=3:=fun d hd=>by
   have:=Xg.1 ha d hd;simpa using this
  refine ⟨_,rfl,?_⟩;simp only [decide_eq_true_iff];constructor
  ·intro hl;exact ⟨hfv,hb2.1 rfl,hs,hnd,hd3,by omega⟩
  ·intro h;have:=h.2.2.2.2.2;omega
 ·simp only [if_true];refine ⟨_,rfl,fun h=>(by cases h),fun h=>?_⟩;obtain ⟨d,hd,hd2⟩:=List.any_eq_true.1 ha;have:=h.2.2.2.2.1 d hd;have:=of_decide_eq_true hd2;omega
def HS (H:List Hit):Prop:=Sm H.length/\∀h∈H,h.name.sz<=1000000/\0<=h.depth+1/\h.depth<=1000000
theorem RK {H:List Hit} (h:HS H) (f:Fm):(∃j,∃hj:j < H.length,AF H f=some (j:Int)/\Qg2 H f=some H[j])∨(AF H f=some (-1)/\Qg2 H f=none):=by
 have:=Ou (H4 H f) (fun x=>decide (x.name=f)) (fun _=>rfl) H 0 (fun x hx i r=>by
  rw [H4,Yf,X6,E8 _ (h.2 x hx).1,X6];by_cases hx2:x.name=f<;>simp [hx2,Yf])
 rw [AF,NA _ _ (by have:=h.1;omega)]
 rcases this with ⟨j,hj,h1,h2⟩ | ⟨h1,h2⟩
 ·exact .inl ⟨j,hj,by rw [h1,X6,Nat.zero_add];rfl,h2⟩
 ·exact .inr ⟨by rw [h1];rfl,h2⟩
theorem Te {H:List Hit} (h:HS H) (f:Fm):AQ H f=some (Ek H f):=by
 rw [AQ,Ek]
 by_cases h1:f.kind=1
 ·rw [if_pos h1,if_pos h1]
  rcases RK h f with ⟨j,hj,h2,h3⟩ | ⟨h2,h3⟩
  ·rw [h2,X6,if_neg (by omega),Yi _ _ hj,h3];rfl
  ·rw [h2,h3];rfl
 ·rw [if_neg h1,if_neg h1];rfl
theorem TW (H:List Hit):∀l:List Fm,Qkb H l=l.any (Mt H)
 | []=>rfl
 | f :: l=>by rw [Qkb,TW H l];rfl
theorem Qb5 (H:List Hit) (f:Fm):Mt H f=(decide (0 < Ek H f)||f.kids.any (Mt H)):=by cases f;rw [Mt,TW];rfl
theorem Qka {H:List Hit} (h:HS H):∀f:Fm,f.sz<=1000000->Iw H f=some (Mt H f):=by
 intro f
 induction f using Fm.ind with
 | h f ih =>
  intro hf;have hz:=Fm.G3 f;rw [Iw,Te h f,X6,Qb5]
  by_cases hd:Ek H f > 0
  ·rw [if_pos hd,decide_eq_true (show 0 < Ek H f from hd)];rfl
  ·rw [if_neg hd,decide_eq_false (show ¬0 < Ek H f from hd),Z6,NJ _ _ (by omega),DN (H7 H f) (Mt H) true (fun _=>rfl) f.kids 0 (fun x hx i r=>by
    have:=Fm.J3 hx
    rw [H7,Yf,X6,ih x hx (by omega),X6];rfl),X6]
   cases f.kids.any (Mt H)<;>rfl
theorem Qj3 {H:List Hit} (h:HS H) (hl:H.length<=1000000):Bt H=some (LD H):=by
 rw [Bt,NH _ _ (by omega),AY (H6 H) (fun h=>.mk h.name (if 0 < h.depth then h.depth - 1 else h.depth) h.one []) (fun _ _=>rfl) H [] 0 (fun x hx z i r hz=>by
  have:=h.2 x hx;rw [H6,Yf,X6]
  by_cases hd:x.depth > 0
  ·rw [if_pos hd,if_pos (show 0 < x.depth from hd),Y2 (by omega) (by omega)];simp only [Yf,X6];rw [Y1 (by simp;omega)];rfl
  ·rw [if_neg hd,if_neg (show ¬0 < x.depth from hd)];simp only [Yf,X6]
   rw [Y1 (by simp;omega)];rfl) (by simp;omega)]
 simp [X6,Yf,LD]
theorem HS.less {H:List Hit} (h:HS H):HS (LD H):=⟨by unfold LD;rw [Xc];exact h.1,fun x hx=>by
 unfold LD at hx;obtain ⟨y,hy,rfl⟩:=QX.1 hx;have:=h.2 y hy;refine ⟨this.1,?_⟩;show 0<=(if 0 < y.depth then y.depth - 1 else y.depth)+1/\(if 0 < y.depth then y.depth - 1 else y.depth)<=1000000
 split<;>omega⟩
theorem Qh0 (t:Fm) (H:List Hit):Qid t H=(!(YQ t||decide (0 < Ek H t))&&Qer true t.kids H):=by cases t;rw [Qid];rfl
theorem Qqh:∀t:Fm,t.sz<=1000000->∀{H:List Hit},HS H->H.length<=1000000->Av t H=some (Qid t H):=by
 intro t
 induction t using Fm.ind with
 | h t ih =>
  intro ht H h hH;have hz:=Fm.G3 t
  have loop:∀(r:List Fm) (i:Nat) (b:Bool),t.kids.drop i=r->(b=true↔i=0∨∃h:i - 1 < t.kids.length,0 < i/\YQ t.kids[i - 1]=true) ->
    Hu t H i r=some (if Qer b r H=true then .inr () else .inl false):=by
   intro r
   induction r with
   | nil=>intro i b _ _;rw [Qer];rfl
   | cons f r ihr =>
    intro i b hd hb;have hd0:=hd
    have hi:i < t.kids.length:=by
     rcases KB i t.kids.length with h | h
     ·exact h
     ·rw [KP h] at hd;cases hd
    rw [ZJ hi] at hd
    injection hd with e1 e2
    have hm:f∈t.kids:=e1▸ZS hi;have hk:=Fm.J3 hm
    have hb2:∀b',b'=YQ f->(b'=true↔i+1=0∨∃h:i+1 - 1 < t.kids.length,0 < i+1/\YQ t.kids[i+1 - 1]=true):=by
     rintro b' rfl;simp only [Nat.add_sub_cancel];constructor
     ·intro h;exact .inr ⟨hi,by omega,by rw [e1];exact h⟩
     ·rintro (h | ⟨_,_,h⟩)
      ·omega
      ·rw [e1] at h;exact h
    rw [Hu,Qer,Yf,X6,C7,X6];cases hf:YQ f
    ·simp only [Qq,if_false];rw [OI hd0 (by omega),X6];cases hn:Wr r
     ·simp only [Qq,if_false,Yf,X6,ih f hm (by omega) h hH];cases hs:Qid f H
      ·simp
      ·simp only [ZY,Qq,if_false,Z5];exact ihr (i+1) false e2 (hb2 false hf.symm)
     ·simp only [if_true,Yf,X6,Qka h f (by omega)];cases hr:Mt H f
      ·simp [Yf,X6]
      ·simp only [ZY,Qq,if_false,Yf,X6,Qj3 h hH,ih f hm (by omega) h.less (show (LD H).length<=1000000 by unfold LD;rw [Xc];exact hH)];cases hs:Qid f (LD H)
       ·simp
       ·simp only [ZY,Qq,if_false,Z5];exact ihr (i+1) false e2 (hb2 false hf.symm)
    ·simp only [if_true]
     by_cases hi0:i=0
     ·subst hi0;have:b=true:=hb.2 (.inl rfl);subst this;simp [Yf,X6]
     ·rw [if_neg (by omega),show i64.wrap ((i:Int) - 1)=((i - 1:Nat):Int) by rw [Y2 (by omega) (by omega)];omega,Yi _ _ (by omega)];simp only [X6,C7,Yf];cases hpd:YQ t.kids[i - 1]
      ·have:b=false:=by
        cases b with
        | false=>rfl
        | true =>
         rcases hb.1 rfl with h | ⟨_,_,h⟩
         ·exact absurd h hi0
         ·rw [h] at hpd;cases hpd
       subst this;simp only [Qq,if_false,ZX,Z5];exact ihr (i+1) true e2 (hb2 true hf.symm)
      ·have:b=true:=hb.2 (.inr ⟨by omega,by omega,hpd⟩);subst this
       simp
  rw [Av,Qh0,C7,X6];cases hd:YQ t
  ·simp only [Qq,if_false,Te h t,X6,Yf,Z6]
   by_cases h0:Ek H t > 0
   ·rw [decide_eq_true (show 0 < Ek H t from h0)];simp
   ·rw [decide_eq_false (show ¬0 < Ek H t from h0)];simp only [gt_iff_lt,h0,decide_false,Qq,if_false,ZX,Z5];rw [P3 _ _ (by omega),loop t.kids 0 true (KR ..) ⟨fun _=>.inl rfl,fun _=>rfl⟩,X6];cases Qer true t.kids H<;>rfl
  ·simp [Yf,X6]
end Go.Proofs.SA
namespace Go.Proofs.Shadow
theorem Qf0 {α β:Type} (F:List β->Nat->List α->Option (List β)) (a:List α) (g:Nat->β) (hn:∀z i,F z i []=some z) (hc:∀(z:List β) (i:Nat) (hi:i < a.length) r,z.length<=1073741824->F z i (a[i] :: r)=F (z++[g i]) (i+1) r) :
  ∀(n i:Nat) (z:List β),i+n=a.length->z.length+n<=1073741824->F z i (a.drop i)=some (z++(List.range' i n).map g):=by
 intro n
 induction n with
 | zero=>intro i z hi _;rw [show i=a.length by omega,Z9,hn];simp
 | succ n ih =>
  intro i z hi hz
  have hil:i < a.length:=by omega
  rw [ZJ hil,hc z i hil _ (by omega),ih (i+1) _ (by omega) (by simp;omega),List.range'_succ,List.map_cons,QD];rfl
theorem Ry {α:Type} {p:α->Bool} : ∀{l:List α},(l.filter p).length<=1->∀{i j:Nat} (hi:i < l.length) (hj:j < l.length),p l[i]=true->p l[j]=true->i=j:=by
 intro l
 induction l with
 | nil=>intro _ i j hi;simp at hi
 | cons x l ih =>
  intro h i j hi hj hpi hpj
  have FQ:(l.filter p).length=0->∀k,∀hk:k < l.length,p l[k]=false:=fun h0 k hk=>by
   cases hp:p l[k]
   ·rfl
   ·have:l[k]∈l.filter p:=List.mem_filter.2 ⟨ZS hk,hp⟩;have:=List.length_pos_of_mem this;omega
  cases hx:p x
  ·rw [Xa (by simp [hx])] at h
   cases i with
   | zero=>simp [hx] at hpi
   | succ i =>
    cases j with
    | zero=>simp [hx] at hpj
    | succ j =>
     simp only [Z7] at hpi hpj;have:=ih h (by simpa using hi) (by simpa using hj) hpi hpj;omega
  ·rw [Xb hx] at h;have h0:=FQ (by simp at h;simpa using h)
   cases i with
   | zero =>
    cases j with
    | zero=>rfl
    | succ j =>
     have h1:=h0 j (by simpa using hj);simp only [Z7] at hpj;rw [h1] at hpj;cases hpj
   | succ i =>
    have h1:=h0 i (by simpa using hi);simp only [Z7] at hpi;rw [h1] at hpi;cases hpi
theorem RY {α β:Type} {g:α->Option β} : ∀{l:List α} {r:List β},M4 g l=some r->r.length=l.length
 | [],r,h=>by rw [M4] at h;injection h with h;subst h;rfl
 | x :: l,r,h=>by
  rw [M4] at h
  cases hx:g x with
  | none=>rw [hx] at h;cases h
  | some y =>
   rw [hx] at h;simp only at h
   cases hl:M4 g l with
   | none=>rw [hl] at h;cases h
   | some r'=>rw [hl] at h;injection h with h;subst h;simp [RY hl]
theorem RZ {α β:Type} {g:α->Option β} : ∀{l:List α} {r:List β},M4 g l=some r->∀y∈r,∃x∈l,g x=some y
 | [],r,h,y,hy=>by rw [M4] at h;injection h with h;subst h;cases hy
 | x :: l,r,h,y,hy=>by
  rw [M4] at h
  cases hx:g x with
  | none=>rw [hx] at h;cases h
  | some y' =>
   rw [hx] at h;simp only at h
   cases hl:M4 g l with
   | none=>rw [hl] at h;cases h
   | some r' =>
    rw [hl] at h;injection h with h;subst h
    rcases List.mem_cons.1 hy with rfl | hy
    ·exact ⟨x,KD ..,hx⟩
    ·obtain ⟨z,hz,h2⟩:=RZ hl y hy;exact ⟨z,Kf _ hz,h2⟩
def OH (n:Nat):List Fm->Nat
 | []=>0
 | p :: ps=>if YQ p=true then OH n ps else if Wr ps=true then n+OH n ps else 1+OH n ps
theorem Mr (n:Nat):∀l:List Fm,l.any YQ=false->OH n l=l.length
 | [],_=>rfl
 | p :: ps,h=>by
  rw [Z0,Xe] at h
  have h2:Wr ps=false:=by
   cases ps with
   | nil=>rfl
   | cons q qs=>have:=h.2;rw [Z0,Xe] at this;exact this.1
  rw [OH,if_neg (by simp [h.1]),if_neg (by simp [h2]),Mr n ps h.2,ZP];omega
theorem TK (n:Nat):∀l:List Fm,(l.filter YQ).length<=1->Wr l=false->l.any YQ=true->OH n l+2=l.length+n
 | [],_,_,h=>by cases h
 | p :: ps,h1,h2,h3=>by
  have hp:YQ p=false:=h2;rw [Xa (by simp [hp])] at h1;rw [Z0,hp,Z6] at h3;rw [OH,if_neg (by simp [hp])];cases hd:Wr ps
  ·rw [if_neg (by simp)];have:=TK n ps h1 hd h3;rw [ZP];omega
  ·rw [if_pos rfl]
   cases ps with
   | nil=>cases hd
   | cons q qs =>
    have hq:YQ q=true:=hd;rw [Xb hq,ZP] at h1;have hz:qs.filter YQ=[]:=Kt (by omega)
    have ha:qs.any YQ=false:=by
     rw [Xg];intro x hx hxd;have:x∈qs.filter YQ:=List.mem_filter.2 ⟨hx,hxd⟩;rw [hz] at this;cases this
    rw [OH,if_pos hq,Mr n qs ha,ZP,ZP];omega
end Go.Proofs.Shadow
namespace Go.Proofs.SA
theorem Qgh (ls:List Fm):∀(l:List Fm) (d:Int),(∀f∈l,∀d,∀x∈dps ls d f,d<=x/\x<=d+f.nodes)->∀x∈RI ls d l,d<=x/\x<=d+1+VF ZU l
 | [],d,_,x,hx=>by cases hx
 | f :: l,d,h,x,hx=>by
  rw [RI] at hx;rw [VF]
  rcases QR.1 hx with hx | hx
  ·have:=h f (KD ..) _ x hx;split at this<;>omega
  ·have:=Qgh ls l d (fun g hg=>h g (Kf _ hg)) x hx;omega
theorem Qgi (ls:List Fm) (p:Fm):∀d,∀x∈dps ls d p,d<=x/\x<=d+p.nodes:=by
 induction p using Fm.ind with
 | h p ih =>
  intro d x hx;rw [Th] at hx;have hn:=Fm.Vo p
  rcases QR.1 hx with hx | hx
  ·split at hx
   ·rw [ZG.1 hx];omega
   ·cases hx
  ·have:=Qgh ls p.kids d ih x hx;omega
theorem Qn4 (ls:List Fm) (h:FS ls) (p:Fm) (hp:p.nodes<=100000) (rows:List (List Hit)) (hr:∀r∈rows,r.length=(vrs ls p).length) (hrl:rows.length<=1000000):B6 p ls rows=some (Qlv ls p rows):=by
 have hvl:=BU ls p;have hdl:=F7 ls p 0;rw [B6,Qaj ls h p (by omega),X6,Oi ls h p hp,X6,OX _ _ _ _ _ (by omega)]
 have:=Qf0 (IL p rows (vrs ls p) (dps ls 0 p)) (vrs ls p) (fun i=>.mk ((vrs ls p).getD i default) ((dps ls 0 p).getD i 0+1) Fm.zero (rows.map fun r=>r.getD i default)) (fun _ _=>rfl) (fun z i hi r hz=>by
  have hid:i < (dps ls 0 p).length:=by omega
  have hge:=Qgi ls p 0 _ (ZS hid)
  rw [IL,Yf,X6,Yi _ i hid,X6,OY _ _ _ _ _ _ _ _ _ (by omega),
   AY (IM p rows (vrs ls p) (dps ls 0 p) z (i:Int) (vrs ls p)[i] (dps ls 0 p)[i]) (fun r=>r.getD i default) (fun _ _=>rfl) rows [] 0 (fun x hx z2 k r2 hz2=>by
    have hxl:=hr x hx
    rw [IM,Yf,X6,Yi x i (by omega),X6,Y1 (by simp;omega),X6,Qz,Qh (by omega)];rfl) (by simp;omega),X6,
   Y1 (by simp;omega),X6,Y2 (by omega) (by omega),Qz,Qh hi,Qz,Qh hid];rfl) (vrs ls p).length 0 [] (by omega) (by simp;omega)
 rw [KR] at this;rw [this,X6,Yf,Qlv,Xf];rfl
theorem SD (ls:List Fm) (p:Fm) (rows:List (List Hit)):(Qlv ls p rows).length=(vrs ls p).length:=by simp [Qlv]
theorem Qb1 (B:List Bnd) (ls:List Fm):∀(d:Nat) (p:Fm),FIs d p->YQ p=false->∀(f:Fm) (hs:List Hit),pm B ls p f=some hs->hs.length=(vrs ls p).length:=by
 intro d
 induction d with
 | zero=>intro p h;exact h.elim
 | succ d ih =>
  intro p h hdt f hs e
  have hL:∀(ps:List Fm),(∀q∈ps,FIs d q)->∀(fs:List Fm) (n:Nat) (hs:List Hit),pmL B ls ps fs n=some hs->hs.length=(NQ ls ps).length:=by
   intro ps
   induction ps with
   | nil=>intro _ fs n hs e;rw [U8] at e;injection e with e;subst e;rfl
   | cons q ps ihp =>
    intro hq fs n hs e;have hq':=fun x hx=>hq x (Kf q hx);rw [SB] at e;rw [NQ,QV]
    by_cases hd:YQ q=true
    ·rw [if_pos hd] at e;rw [ihp hq' fs n hs e,Ni]
     have hk:q.kind=1/\q.name=BZ:=by unfold YQ at hd;simpa using hd
     have:q.kids=[]:=by
      have:=hq q (KD ..)
      cases d with
      | zero=>exact this.elim
      | succ d =>
       rcases this with h | h | h
       ·exact Kt h.2.2.2.2
       ·omega
       ·omega
     rw [this,NQ,if_neg (by simp [Sy,hk.2])];simp
    ·rw [if_neg hd] at e
     have hd':YQ q=false:=by simpa using hd
     by_cases hh:Wr ps=true
     ·rw [if_pos hh] at e;split at e
      ·cases e
      ·rename_i rows hrows;obtain ⟨hs2,h2,h3⟩:=Qx.1 e;subst h3;rw [QV,SD,ihp hq' _ _ _ h2]
     ·rw [if_neg hh] at e;split at e
      ·cases e
      ·rename_i fs' f';split at e
       ·cases e
       ·rename_i hs1 h1;obtain ⟨hs2,h2,h3⟩:=Qx.1 e;subst h3;rw [QV,ih q (hq q (KD ..)) hd' _ _ h1,ihp hq' _ _ _ h2]
  rw [Qn3] at e;rw [Ni]
  rcases h with h | h | h
  ·have hk:p.kids=[]:=Kt h.2.2.2.2;rw [if_pos h.1] at e;rw [hk,NQ,List.append_nil]
   by_cases h1:p.name=Mc
   ·rw [if_pos h1] at e
    injection e with e;subst e
    rw [if_neg (by simp [Sy,h1])];rfl
   ·rw [if_neg h1] at e
    by_cases h2:p∈ls
    ·rw [if_pos h2] at e;split at e
     ·injection e with e;subst e
      rw [if_neg (by simp [Sy,h2])];rfl
     ·cases e
    ·rw [if_neg h2] at e
     injection e with e;subst e
     have hn:p.name≠BZ:=fun hn=>by unfold YQ at hdt;simp [h.1,hn] at hdt
     rw [if_pos (by simp [Sy,h.1,h1,h2,hn])];rfl
  ·have hk:p.kids=[]:=Kt h.2.2.2.2.2;rw [if_neg (by omega),if_pos h.1] at e;rw [hk,NQ,if_neg (by simp [Sy,h.1])];split at e
   ·injection e with e;subst e;rfl
   ·cases e
  ·rw [if_neg (by omega),if_neg (by omega)] at e;rw [if_neg (by simp [Sy,h.1]),QS];split at e
   ·split at e
    ·split at e
     ·cases e
     ·exact hL _ h.2.2.2.2 _ _ _ e
    ·split at e
     ·exact hL _ h.2.2.2.2 _ _ _ e
     ·cases e
   ·cases e
def MR (o:Option (List Hit)) (r:List Hit × Bool):Prop:=match o with | some hs=>r=(hs,true) | none=>r.2=false
theorem RL {B:List Bnd} (hB:BS B) {ls:List Fm} (hls:FS ls):∀(d:Nat) (p:Fm),FIs d p->p.sz<=100000->p.nodes<=400->Qb7 p=true->∀f:Fm,f.sz<=100000->Tot (WW B p ls f) (MR (pm B ls p f)):=by
 intro d
 induction d with
 | zero=>intro p h;exact h.elim
 | succ d ih =>
  intro p h hpz hpn hsh f hfz;have hzp:=Fm.G3 p;have hzf:=Fm.G3 f
  have hpd:YQ p=false:=by
   cases hd:YQ p
   ·rfl
   ·rw [OO,if_pos hd] at hsh;cases hsh
  rw [WW,Qn3]
  rcases h with h | h | h
  ·rw [if_pos h.1,if_pos h.1]
   by_cases h1:p.name=Mc
   ·have h1':=h1;unfold Mc at h1';rw [if_pos h1',if_pos h1];exact ⟨_,rfl,rfl⟩
   have h1':=h1;unfold Mc at h1';rw [if_neg h1',if_neg h1,Qbp ls p hls,X6]
   by_cases h2:p∈ls
   ·rw [decide_eq_true h2,if_pos rfl,if_pos h2]
    by_cases h3:f.kind=1
    ·rw [if_pos h3,Qke B p f hB (by unfold Sm;omega) (by unfold Sm;omega)];simp only [X6,Yf];cases hr:ON B p f
     ·exact ⟨_,rfl,by simp [MR]⟩
     ·exact ⟨_,rfl,by simp [MR,h3]⟩
    ·rw [if_neg h3];exact ⟨_,rfl,by simp [MR,h3]⟩
   ·rw [decide_eq_false h2,if_neg (by simp),if_neg h2,Y1 (by simp),X6];exact ⟨_,rfl,rfl⟩
  ·have n1:¬p.kind=1:=by omega
   simp only [n1,h.1,if_false,if_true];rw [E8 p (by omega),X6]
   by_cases h2:p=f
   ·rw [decide_eq_true h2,if_pos h2]
    exact ⟨_,rfl,by
     have hk:p.kids=[]:=Kt h.2.2.2.2.2
     simp [MR]⟩
   ·rw [decide_eq_false h2,if_neg h2];exact ⟨_,rfl,rfl⟩
  have n1:¬p.kind=1:=by omega
  have n2:¬p.kind=2:=by omega
  simp only [n1,n2,if_false]
  by_cases hf3:f.kind=3
  rotate_left
  ·rw [if_neg hf3,if_neg hf3];exact ⟨_,rfl,rfl⟩
  rw [if_pos hf3,if_pos hf3];have hps:=h.2.2.2.2;rw [OO,hpd] at hsh;simp only [Qq,if_false] at hsh;have hc1:=OP _ _ _ hsh;have hh:=Qhr hsh;have hmem:=SI _ _ _ hsh;generalize hps':p.kids=ps at *;generalize hfs':f.kids=fs at *
  have hfsz:∀x∈fs,x.sz<=100000:=fun x hx=>by have:=CY Fm.sz fs x hx;omega
  have hpsz:∀x∈ps,x.sz<=100000:=fun x hx=>by have:=CY Fm.sz ps x hx;omega
  have hnp:=Fm.Vo p;rw [hps'] at hnp
  have hpsn:∀x∈ps,x.nodes<=400:=fun x hx=>by have:=CY ZU ps x hx;omega
  have row:∀(n i:Nat) (r:Int),i+n+1=ps.length+1->i<=ps.length->(∀j,j < i->∀hj:j+1 < ps.length,YQ ps[j+1]=true->r=j)->(r=-1∨∃j:Nat,r=j/\∃hj:j+1 < ps.length,YQ ps[j+1]=true) ->
    Tot (JH B ps ls fs r i) fun r=>(∀j:Nat,∀hj:j+1 < ps.length,YQ ps[j+1]=true->r=j)/\(r=-1∨∃j:Nat,r=j/\∃hj:j+1 < ps.length,YQ ps[j+1]=true):=by
   intro n
   induction n with
   | zero =>
    intro i r hi hil h1 h2;rw [JH,Wp (i:=i) (by omega),if_neg (by omega)];exact ⟨_,rfl,fun j hj hd=>h1 j (by omega) hj hd,h2⟩
   | succ n ihn =>
    intro i r hi hil h1 h2;rw [JH,Wp (i:=i) (by omega)]
    by_cases hlt:i+1 < ps.length
    ·rw [if_pos (by omega),Yi ps (i+1) hlt,X6,C7,X6];cases hd:YQ ps[i+1]
     ·simp only [Qq,if_false];refine ihn (i+1) r (by omega) (by omega) (fun j hj hj2 hd2=>?_) h2
      by_cases hji:j=i
      ·subst hji;rw [hd] at hd2;cases hd2
      ·exact h1 j (by omega) hj2 hd2
     ·simp only [if_true];refine ihn (i+1) i (by omega) (by omega) (fun j hj hj2 hd2=>?_) (.inr ⟨i,rfl,hlt,hd⟩);have:=Ry (p:=YQ) (by omega) hj2 hlt hd2 hd;omega
    ·rw [if_neg (by omega)];exact ⟨_,rfl,fun j hj hd=>h1 j (by omega) hj hd,h2⟩
  rw [D1];obtain ⟨w,hw,hw1,hw2⟩:=row ps.length 0 (-1) (by omega) (by omega) (fun j hj=>by omega) (.inl rfl);rw [show ((0:Nat):Int)=0 from rfl] at hw;rw [hw,X6]
  have hany:ps.any YQ=true↔w≠-1:=by
   rw [List.any_eq_true];constructor
   ·rintro ⟨x,hx,hd⟩;obtain ⟨j,hj,rfl⟩:=ZZ.1 hx
    cases j with
    | zero =>
     cases ps with
     | nil=>simp at hj
     | cons q qs=>rw [show Wr (q :: qs)=YQ q from rfl] at hh;simp only [List.getElem_cons_zero] at hd;rw [hd] at hh;cases hh
    | succ j=>have:=hw1 j hj hd;omega
   ·intro hne
    rcases hw2 with h | ⟨j,_,hj,hd⟩
    ·exact absurd h hne
    ·exact ⟨_,ZS hj,hd⟩
  have hrow:∀i:Nat,∀hi:i < ps.length,YQ ps[i]=false->((i:Int)=w↔Wr (ps.drop (i+1))=true):=fun i hi hnd=>by
   by_cases hlt:i+1 < ps.length
   ·rw [ZJ hlt];show _↔YQ ps[i+1]=true;constructor
    ·intro hiw
     rcases hw2 with h | ⟨j,h2,hj,hd⟩
     ·omega
     ·have:j=i:=by omega
      subst this;exact hd
    ·intro hd;exact (hw1 i hlt hd).symm
   ·rw [KP (by omega)];constructor
    ·intro hiw
     rcases hw2 with h | ⟨j,h2,hj,hd⟩
     ·omega
     ·omega
    ·intro hd;cases hd
  have main:∀(n:Nat),(w≠-1->i64.wrap ((fs.length:Int) - (i64.wrap ((ps.length:Int) - 2)))=(n:Int))->n<=fs.length->∀(r:List Fm) (i at_:Nat) (z:List Hit),ps.drop i=r->at_+OH n r=fs.length->z.length+VF ZU r<=1000000 ->
    Tot (Ja B ps ls fs w z (at_:Int) i r) fun o=>match pmL B ls r (fs.drop at_) n with | some hs=>o=.inr (z++hs) | none=>∃z',o=.inl (z',false):=by
   intro n hn hnf r
   induction r with
   | nil=>intro i at_ z _ _ _;rw [Ja,U8];exact ⟨_,rfl,by simp⟩
   | cons q r ihr =>
    intro i at_ z hd hneed hz;have hd0:=hd
    have hi:i < ps.length:=by
     rcases KB i ps.length with h | h
     ·exact h
     ·rw [KP h] at hd;cases hd
    rw [ZJ hi] at hd
    injection hd with e1 e2
    have hm:q∈ps:=e1▸ZS hi;rw [Ja,Yf,X6,C7,X6,SB];rw [OH] at hneed;rw [VF] at hz;have hqn:=BH q;cases hq:YQ q;rotate_left
    ·rw [hq,if_pos rfl] at hneed;simp only [if_true];exact ihr (i+1) at_ z e2 hneed (by omega)
    rw [hq,if_neg (by simp)] at hneed;simp only [Qq,if_false];have hq':Qb7 q=true:=(hmem q hm).resolve_left (by simp [hq]);have hqz:=hpsz q hm;have hqnn:=hpsn q hm;have hrw:=hrow i hi (by rw [e1];exact hq);rw [e2] at hrw
    by_cases hhd:Wr r=true
    ·rw [if_pos hhd] at hneed ⊢;rw [if_pos (hrw.2 hhd)]
     have hwn:w≠-1:=by have:=hrw.2 hhd;omega
     rw [hn hwn]
     have l2:∀(m:Nat) (acc:List (List Hit)) (k:Nat),k+m=at_+n->acc.length+m<=100000->Tot (GF B ps ls fs w z (i:Int) acc (k:Int) (m:Int)) fun o=>match M4 (pm B ls q) ((fs.drop k).take m) with | some rows=>o=.inr (acc++rows,((at_+n:Nat):Int)) | none=>∃z',o=.inl (z',false):=by
      intro m
      induction m with
      | zero =>
       intro acc k hk _;rw [GF,if_neg (by omega),List.take_zero,M4];exact ⟨_,rfl,by simp;omega⟩
      | succ m ihm =>
       intro acc k hk hacc
       have hkl:k < fs.length:=by omega
       rw [GF,if_pos (by omega),Yi ps i hi,X6,Yi fs k hkl,X6,e1,ZJ hkl,List.take_succ_cons,M4];have:=ih q (hps q hm) hqz hqnn hq' fs[k] (hfsz _ (ZS hkl));obtain ⟨rr,hrr,hmr⟩:=this;rw [hrr,X6]
       cases hpm:pm B ls q fs[k] with
       | none =>
        rw [hpm] at hmr;have:rr.2=false:=hmr;rw [this];simp only [ZX,if_true];exact ⟨_,rfl,_,rfl⟩
       | some hs =>
        rw [hpm] at hmr;have:rr=(hs,true):=hmr;subst this;simp only [ZY,Qq,if_false];rw [Y1 (by simp;omega),X6,Wp (i:=k) (by omega),show i64.wrap (((m+1:Nat):Int) - 1)=(m:Int) by rw [Y2 (by omega) (by omega)];omega];obtain ⟨o,ho,hop⟩:=ihm (acc++[hs]) (k+1) (by omega) (by simp;omega);refine ⟨o,ho,?_⟩
        cases hall:M4 (pm B ls q) ((fs.drop (k+1)).take m) with
        | none=>rw [hall] at hop;exact hop
        | some rows=>rw [hall] at hop;simp only [Qu];rw [hop];simp
     obtain ⟨o,ho,hop⟩:=l2 n [] at_ rfl (by have:=hfz;have:=Jf fs;simp;omega);rw [ho,X6]
     cases hall:M4 (pm B ls q) ((fs.drop at_).take n) with
     | none =>
      rw [hall] at hop;obtain ⟨z',rfl⟩:=hop;exact ⟨_,rfl,_,rfl⟩
     | some rows =>
      rw [hall] at hop;simp only at hop;subst hop;simp only [QS];have hrl:=RY hall
      rw [X6,Qn4 ls hls q (by omega) rows (fun r hr=>by
       obtain ⟨x,hx,h2⟩:=RZ hall r hr
       exact Qb1 B ls d q (hps q hm) hq x r h2) (by rw [hrl,List.length_take];omega),X6]
      have hvl:=BU ls q;rw [Y1 (by rw [SD];omega),X6];obtain ⟨o,ho,hop⟩:=ihr (i+1) (at_+n) (z++Qlv ls q rows) e2 (by omega) (by rw [QV,SD];omega);refine ⟨o,ho,?_⟩;rw [Xd]
      cases hpl:pmL B ls r (fs.drop (at_+n)) n with
      | none=>rw [hpl] at hop;exact hop
      | some hs=>rw [hpl] at hop;simp only [Qu];rw [hop,QD]
    ·rw [if_neg hhd] at hneed ⊢;rw [if_neg (fun h=>hhd (hrw.1 h))]
     have hal:at_ < fs.length:=by omega
     rw [ZJ hal];simp only [Yf,X6,Yi fs at_ hal];obtain ⟨rr,hrr,hmr⟩:=ih q (hps q hm) hqz hqnn hq' fs[at_] (hfsz _ (ZS hal));rw [hrr,X6]
     cases hpm:pm B ls q fs[at_] with
     | none =>
      rw [hpm] at hmr;have:rr.2=false:=hmr;rw [this];simp only [ZX,if_true];exact ⟨_,rfl,_,rfl⟩
     | some hs =>
      rw [hpm] at hmr;have:rr=(hs,true):=hmr;subst this;simp only [ZY,Qq,if_false];have hl:=Qb1 B ls d q (hps q hm) hq _ _ hpm;have hvl:=BU ls q;rw [Y1 (by omega),X6,Wp (i:=at_) (by omega)];obtain ⟨o,ho,hop⟩:=ihr (i+1) (at_+1) (z++hs) e2 (by omega) (by rw [QV];omega);refine ⟨o,ho,?_⟩
      cases hpl:pmL B ls r (fs.drop (at_+1)) n with
      | none=>rw [hpl] at hop;exact hop
      | some hs2=>rw [hpl] at hop;simp only [Qu];rw [hop,QD]
  have hfl:fs.length<=100000:=by omega
  have hpl:ps.length<=400:=by have:=Jf ps;omega
  have fin:∀n:Nat,(w≠-1->i64.wrap ((fs.length:Int) - (i64.wrap ((ps.length:Int) - 2)))=(n:Int))->n<=fs.length->OH n ps=fs.length->Tot ((WG B ps ls fs w [] 0 0>>=fun o27=>match o27 with | .inl r=>pure r | .inr Qbc=>(pure (Qbc,true)):Option (List Hit × Bool))>>=fun x55=>pure (x55.1,x55.2)) (MR (pmL B ls ps fs n)):=fun n h1 h2 h3=>by
   rw [NB _ _ _ _ _ _ _ (by omega)];obtain ⟨o,ho,hop⟩:=main n h1 h2 ps 0 0 [] (KR ..) (by omega) (by simp;omega);rw [show ((0:Nat):Int)=0 from rfl] at ho;rw [ho,X6];rw [KR] at hop
   cases hpm:pmL B ls ps fs n with
   | none=>rw [hpm] at hop;obtain ⟨z',rfl⟩:=hop;exact ⟨_,rfl,rfl⟩
   | some hs=>rw [hpm] at hop;simp only at hop;subst hop;exact ⟨_,rfl,by simp [MR]⟩
  have hw0:w=-1∨0<=w:=by rcases hw2 with h | ⟨j,h,_⟩<;>omega
  have hwr:i64.wrap ((ps.length:Int) - 2)=(ps.length:Int) - 2:=Y2 (by omega) (by omega)
  by_cases hwn:w=-1
  ·have hno:¬ps.any YQ=true:=fun h=>hany.1 h hwn;rw [if_neg hno];subst hwn;simp only [show decide ((-1:Int) < 0)=true from rfl,show decide ((-1:Int)≥0)=false from rfl,Z5,Z8,Yf,X6]
   by_cases hlen:ps.length=fs.length
   ·rw [if_pos hlen,decide_eq_true (show (ps.length:Int)=(fs.length:Int) by omega)];simp only [ZY,Qq,if_false,X6];exact fin 0 (fun h=>absurd rfl h) (by omega) (by rw [Mr 0 ps (by simpa using hno)];exact hlen)
   ·rw [if_neg hlen,decide_eq_false (show ¬(ps.length:Int)=(fs.length:Int) by omega)];simp only [ZX,if_true,X6];exact ⟨_,rfl,rfl⟩
  ·have hyes:ps.any YQ=true:=hany.2 hwn;have hw1':0<=w:=hw0.resolve_left hwn;rw [if_pos hyes];simp only [decide_eq_false (show ¬w < 0 by omega),decide_eq_true (show w≥0 from hw1'),Z8,Z5,Yf,X6,Qq,if_false,hwr]
   by_cases hlen:fs.length+2 < ps.length
   ·rw [if_pos hlen,decide_eq_true (show (fs.length:Int) < (ps.length:Int) - 2 by omega)];simp only [if_true,X6];exact ⟨_,rfl,rfl⟩
   ·rw [if_neg hlen,decide_eq_false (show ¬(fs.length:Int) < (ps.length:Int) - 2 by omega)];simp only [Qq,if_false,X6]
    have h2:2<=ps.length:=by
     rcases hw2 with h | ⟨j,_,hj,_⟩
     ·exact absurd h hwn
     ·omega
    refine fin (fs.length+2 - ps.length) (fun _=>?_) (by omega) ?_
    ·rw [hwr,Y2 (by omega) (by omega)];omega
    ·have:=TK (fs.length+2 - ps.length) ps (by omega) hh hyes;omega
end Go.Proofs.SA
namespace Go.Proofs.SA
theorem Jt {α:Type} {l:List α} {i:Nat} {d:α} (h:i < l.length):l.getD i d=l[i]:=by rw [Qz,Qh h];rfl
theorem Qho (ls:List Fm) (h:FS ls) (p:Fm) (hp:p.nodes<=100000):BL p ls=some (D7 p ls):=by
 have hvl:=BU ls p;have hdl:=F7 ls p 0;rw [BL,Qaj ls h p (by omega),X6,Oi ls h p hp,X6,MP _ _ _ _ (by omega)]
 have:=Qf0 (Gb p (vrs ls p) (dps ls 0 p)) (vrs ls p) (fun i=>.mk ((vrs ls p).getD i default) ((dps ls 0 p).getD i 0) (if (dps ls 0 p).getD i 0=0 then (vrs ls p).getD i default else Fm.zero) []) (fun _ _=>rfl) (fun z i hi r hz=>by
  have hid:i < (dps ls 0 p).length:=by omega
  rw [Gb,Yf,X6,Yi _ i hid,X6,Jt hi,Jt hid]
  by_cases h0:(dps ls 0 p)[i]=0
  ·rw [if_pos h0,if_pos h0,X6,Y1 (by simp;omega),X6]
  ·rw [if_neg h0,if_neg h0,Y1 (by simp;omega),X6];rfl) (vrs ls p).length 0 [] (by omega) (by simp;omega)
 rw [KR] at this;rw [this,X6,Yf,D7,Xf];rfl
theorem TX (ls:List Fm) (p:Fm) (hp:p.nodes<=400) (hz:p.sz<=100000):HS (D7 p ls)/\(D7 p ls).length<=400:=by
 have hvl:=BU ls p;have hdl:=F7 ls p 0;refine ⟨⟨by unfold Sm;simp [D7];omega,fun h hh=>?_⟩,by simp [D7];omega⟩;unfold D7 at hh;obtain ⟨i,hi,rfl⟩:=QX.1 hh
 have hi':i < (vrs ls p).length:=by simpa using hi
 have hid:i < (dps ls 0 p).length:=by omega
 show ((vrs ls p).getD i default).sz<=1000000/\0<=(dps ls 0 p).getD i 0+1/\(dps ls 0 p).getD i 0<=1000000;rw [Jt hi',Jt hid];have h1:=SX ls p _ (ZS hi');have h2:=Qgi ls p 0 _ (ZS hid);omega
def Qck (ls:List Fm) (r:Rul):Prop:=Qig ls r.pat/\r.pat.kind=3/\0 < r.pat.kids.length/\FV r.tpl/\Qid r.tpl (D7 r.pat ls)=true
def FD (ls:List Fm) (rs:List Rul):Prop:=rs.length < 10/\(∀r∈rs,Qck ls r)/\Qau ls
def RS (rs:List Rul):Prop:=Sm rs.length/\∀r∈rs,r.pat.sz<=100000/\r.tpl.sz<=100000
theorem Qd1 {ls:List Fm} (h:FS ls) {r:Rul} (h1:r.pat.sz<=100000) (h2:r.tpl.sz<=100000):Tot (Ct r ls) fun b=>b=true↔Qck ls r:=by
 rw [Ct];refine ZL (Qj0 h1 h) fun b hb=>?_;cases b
 ·simp only [Z8,Yf,X6,Qq,if_false];exact ⟨_,rfl,fun h=>(by cases h),fun h=>(by have:=hb.2 h.1;cases this)⟩
 have hp:=hb.1 rfl;simp only [Z5,Yf,X6]
 by_cases h3:r.pat.kind=3
 rotate_left
 ·simp only [h3,decide_false,Z8,Qq,if_false,Yf,X6];exact ⟨_,rfl,fun h=>(by cases h),fun h=>absurd h.2.1 h3⟩
 by_cases h4:(r.pat.kids.length:Int) > 0
 rotate_left
 ·simp only [h3,h4,decide_false,decide_true,Z5,Qq,if_false,Yf,X6];exact ⟨_,rfl,fun h=>(by cases h),fun h=>absurd h.2.2.1 (by omega)⟩
 simp only [h3,h4,decide_true,Z5,if_true];obtain ⟨b2,e2,hb2⟩:=Ay (f:=r.tpl) (by omega);rw [e2];simp only [Yf,X6];cases b2
 ·simp only [Qq,if_false,Yf,X6];exact ⟨_,rfl,fun h=>(by cases h),fun h=>(by have:=hb2.2 h.2.2.2.1;cases this)⟩
 have hn:=hp.1.2;obtain ⟨hh,hl⟩:=TX ls r.pat hn h1;simp only [if_true,Qho ls h r.pat (by omega),Qqh r.tpl (by omega) hh (by omega),Yf,X6];refine ⟨_,rfl,fun h=>⟨hp,h3,by omega,hb2.1 rfl,h⟩,fun h=>h.2.2.2.2⟩
theorem Qhk {ls:List Fm} (h:FS ls) {rs:List Rul} (hr:RS rs):∀(n i:Nat),i+n=10->Tot (JU rs ls i) fun o=>match o with
  | .inl r=>r=false/\∃x∈rs,¬Qck ls x
  | .inr _=>∀j,i<=j->j < 10->∀h:j < rs.length,Qck ls rs[j]:=by
 intro n
 induction n with
 | zero=>intro i hi;rw [JU,Yf,X6,if_neg (by simp;omega)];exact ⟨_,rfl,fun j h1 h2=>by omega⟩
 | succ n ih =>
  intro i hi;rw [JU,Yf,X6]
  by_cases hil:i < rs.length
  rotate_left
  ·rw [if_neg (by simp;omega)];exact ⟨_,rfl,fun j h1 h2 h3=>by omega⟩
  have hm:=ZS hil;rw [if_pos (by simp;omega),Yi rs i hil,X6];refine ZL (Qd1 h (hr.2 _ hm).1 (hr.2 _ hm).2) fun b hb=>?_;cases b
  ·simp only [ZX,if_true];exact ⟨_,rfl,rfl,_,hm,fun h=>by have:=hb.2 h;cases this⟩
  ·simp only [ZY,Qq,if_false,Wp (i:=i) (by omega)];refine (ih (i+1) (by omega)).mono fun o ho=>?_
   cases o with
   | inl r=>exact ho
   | inr u =>
    exact fun j h5 h6 h7=>by
     by_cases hj:j=i
     ·subst hj;exact hb.1 rfl
     ·exact ho j (by omega) h6 h7
theorem FW {ls:List Fm} (h:FS ls) {rs:List Rul} (hr:RS rs):Tot (Ii rs ls) fun b=>b=true↔FD ls rs:=by
 rw [Ii];refine ZL (Qhk h hr 10 0 (by omega)) fun o ho=>?_
 cases o with
 | inl r =>
  obtain ⟨h0,x,hx,hn⟩:=ho;subst h0;exact ⟨_,rfl,fun h=>(by cases h),fun h=>absurd (h.2.1 x hx) hn⟩
 | inr u =>
  simp only
  by_cases hl:rs.length < 10
  ·rw [if_pos (by omega)];obtain ⟨b,e,hb⟩:=LF h;rw [e];simp only [Yf,X6];refine ⟨_,rfl,?_⟩;simp only [hb];refine ⟨fun h=>⟨hl,fun r hr=>?_,h⟩,fun h=>h.2.2⟩;obtain ⟨j,hj,rfl⟩:=ZZ.1 hr;exact ho j (Nat.zero_le _) (by omega) hj
  ·rw [if_neg (by omega)];exact ⟨false,rfl,fun h=>(by cases h),fun h=>absurd h.1 hl⟩
def Qa3:ByteArray:=Qk #[114,117,108,101,115]
def G8 (f:Fm):List Fm × List Rul:=((f.kids.getD 1 default).kids,(f.kids.drop 2).map fun x=>⟨x.kids.getD 0 default,x.kids.getD 1 default⟩)
def Qcj (f:Fm):Prop:=FV f/\f.kind=3/\2<=f.kids.length/\(f.kids.getD 0 default).name=Qa3/\(f.kids.getD 1 default).kind=3/\(∀x∈f.kids.drop 2,x.kind=3/\x.kids.length=2)/\FD (G8 f).1 (G8 f).2
theorem U7 {f:Fm} (hf:f.sz<=100000):Tot (H0 f) fun r=>(Qcj f/\r=((G8 f).1,(G8 f).2,true))∨(¬Qcj f/\r.2.2=false):=by
 have hz:=Fm.G3 f;have bad:¬Qcj f->Tot (some ([],[],false):Option (List Fm × List Rul × Bool)) fun r=>(Qcj f/\r=((G8 f).1,(G8 f).2,true))∨(¬Qcj f/\r.2.2=false):=fun h=>⟨_,rfl,.inr ⟨h,rfl⟩⟩;rw [H0];refine ZL (Ay (by omega)) fun b hb=>?_;cases b
 ·simp only [ZX,Bool.true_or,Yf,X6,if_true]
  exact bad fun h=>by have:=hb.2 h.1;cases this
 simp only [ZY,Z6,Yf,X6]
 by_cases h3:f.kind=3
 rotate_left
 ·simp only [h3,decide_false,ZX,Bool.true_or,if_true,Yf,X6];exact bad fun h=>h3 h.2.1
 by_cases h4:(f.kids.length:Int) < 2
 ·simp only [h3,h4,decide_true,ZY,Z6,if_true,Yf,X6]
  exact bad fun h=>by have:=h.2.2.1;omega
 have l0:0 < f.kids.length:=by omega
 have l1:1 < f.kids.length:=by omega
 simp only [h3,h4,decide_true,decide_false,ZY,Z6,Qq,if_false,show idx f.kids 0=some f.kids[0] from Yi f.kids 0 l0,show idx f.kids 1=some f.kids[1] from Yi f.kids 1 l1,Yf,X6];have g0:f.kids.getD 0 default=f.kids[0]:=Jt l0;have g1:f.kids.getD 1 default=f.kids[1]:=Jt l1
 by_cases h5:f.kids[0].name=Qa3
 rotate_left
 ·have h5':=h5;unfold Qa3 at h5';simp only [h5',decide_false,ZX,if_true,Yf,X6];exact bad fun h=>h5 (by rw [← g0];exact h.2.2.2.1)
 have h5':=h5;unfold Qa3 at h5';simp only [h5',decide_true,ZY,Qq,if_false,Yf,X6]
 by_cases h6:f.kids[1].kind=3
 rotate_left
 ·simp only [h6,decide_false,ZX,if_true];exact bad fun h=>h6 (by rw [← g1];exact h.2.2.2.2.1)
 simp only [h6,decide_true,ZY,Qq,if_false];have k1:=Fm.J3 (ZS l1);have hz1:=Fm.G3 f.kids[1]
 have lp0:∀(n i:Nat),i+n=f.kids[1].kids.length->∀z:List Fm,z.length+n<=200000->Wv f z i=some (z++f.kids[1].kids.drop i):=by
  intro n
  induction n with
  | zero =>
   intro i hi z _;rw [Wv,show idx f.kids 1=some f.kids[1] from Yi f.kids 1 l1,X6,if_neg (by omega),show i=f.kids[1].kids.length by omega,Z9];simp [Yf]
  | succ n ih =>
   intro i hi z hzl
   have hil:i < f.kids[1].kids.length:=by omega
   have:=Fm.J3 (ZS hil);rw [Wv,show idx f.kids 1=some f.kids[1] from Yi f.kids 1 l1,X6,if_pos (by omega),X6,Yi _ i hil,X6,DM _ (by omega),X6,Y1 (by simp;omega),X6,Wp (i:=i) (by omega),ih (i+1) (by omega) _ (by simp;omega),QD,ZJ hil];rfl
 have e0:=lp0 f.kids[1].kids.length 0 (by omega) [] (by simp;omega);rw [show ((0:Nat):Int)=0 from rfl] at e0;rw [e0,X6,QS,KR]
 have lp1:∀(n i:Nat),i+n=f.kids.length->∀z:List Rul,z.length+n<=200000->Tot (Ww f f.kids[1].kids z i) fun o=>((∀x∈f.kids.drop i,x.kind=3/\x.kids.length=2)/\o=.inr (z++(f.kids.drop i).map fun x=>⟨x.kids.getD 0 default,x.kids.getD 1 default⟩))∨(¬(∀x∈f.kids.drop i,x.kind=3/\x.kids.length=2)/\∃r,o=.inl r/\r.2.2=false):=by
  intro n
  induction n with
  | zero =>
   intro i hi z _;rw [Ww,if_neg (by omega),show i=f.kids.length by omega,Z9];exact ⟨_,rfl,.inl ⟨by simp,by simp⟩⟩
  | succ n ih =>
   intro i hi z hzl
   have hil:i < f.kids.length:=by omega
   have k2:=Fm.J3 (ZS hil);rw [Ww,if_pos (by omega),Yi _ i hil,ZJ hil];simp only [X6]
   by_cases q1:f.kids[i].kind=3
   rotate_left
   ·rw [if_neg q1];simp only [Yf,X6,if_true];exact ⟨_,rfl,.inr ⟨fun h=>q1 (h _ (KD ..)).1,_,rfl,rfl⟩⟩
   rw [if_pos q1]
   by_cases q2:f.kids[i].kids.length=2
   rotate_left
   ·simp only [Yf,X6,decide_eq_false (show ¬(f.kids[i].kids.length:Int)=2 by omega),ZX,if_true];exact ⟨_,rfl,.inr ⟨fun h=>q2 (h _ (KD ..)).2,_,rfl,rfl⟩⟩
   have j0:0 < f.kids[i].kids.length:=by omega
   have j1:1 < f.kids[i].kids.length:=by omega
   have m0:=Fm.J3 (ZS j0);have m1:=Fm.J3 (ZS j1);simp only [Yf,X6,decide_eq_true (show (f.kids[i].kids.length:Int)=2 by omega),ZY,Qq,if_false,show idx f.kids[i].kids 0=some f.kids[i].kids[0] from Yi _ 0 j0,show idx f.kids[i].kids 1=some f.kids[i].kids[1] from Yi _ 1 j1];rw [DM _ (by omega),DM _ (by omega)];simp only [X6];rw [Y1 (by simp;omega),X6,Wp (i:=i) (by omega)];refine (ih (i+1) (by omega) _ (by simp;omega)).mono fun o ho=>?_
   rcases ho with ⟨r1,r2⟩ | ⟨r1,r2⟩
   ·refine .inl ⟨fun x hx=>?_,?_⟩
    ·rcases List.mem_cons.1 hx with rfl | hx
     ·exact ⟨q1,q2⟩
     ·exact r1 x hx
    ·rw [r2,List.map_cons,Jt j0,Jt j1,QD];rfl
   ·exact .inr ⟨fun h=>r1 fun x hx=>h x (Kf _ hx),r2⟩
 obtain ⟨o,ho,hop⟩:=lp1 (f.kids.length - 2) 2 (by omega) [] (by simp;omega);rw [show ((2:Nat):Int)=2 from rfl] at ho;rw [ho,X6]
 rcases hop with ⟨r1,r2⟩ | ⟨r1,r,r2,r3⟩
 ·subst r2;simp only [QS];have hls:FS f.kids[1].kids:=⟨by unfold Sm;omega,fun x hx=>by have:=Fm.J3 hx;omega⟩
  have hrs:RS ((f.kids.drop 2).map fun x=>(⟨x.kids.getD 0 default,x.kids.getD 1 default⟩:Rul)):=⟨by rw [Xc,List.length_drop];unfold Sm;omega,fun x hx=>by
   obtain ⟨y,hy,rfl⟩:=QX.1 hx;have q:=(r1 y hy).2;have k2:=Fm.J3 (List.mem_of_mem_drop hy)
   have j0:0 < y.kids.length:=by omega
   have j1:1 < y.kids.length:=by omega
   have m0:=Fm.J3 (ZS j0);have m1:=Fm.J3 (ZS j1);simp only [Jt j0,Jt j1]
   omega⟩
  have er:G8 f=(f.kids[1].kids,(f.kids.drop 2).map fun x=>⟨x.kids.getD 0 default,x.kids.getD 1 default⟩):=by unfold G8;rw [g1]
  obtain ⟨b2,e2,hb2⟩:=FW hls hrs;rw [e2,X6];cases b2
  ·simp only [ZX,if_true];refine bad fun h=>?_;have:=h.2.2.2.2.2.2;rw [er] at this;have:=hb2.2 this;cases this
  ·simp only [ZY,Qq,if_false];refine ⟨_,rfl,.inl ⟨⟨hb.1 rfl,h3,by omega,by rw [g0];exact h5,by rw [g1];exact h6,r1,by rw [er];exact hb2.1 rfl⟩,by rw [er]⟩⟩
 ·subst r2;exact ⟨_,rfl,.inr ⟨fun h=>r1 h.2.2.2.2.2.1,r3⟩⟩
theorem Qlt:∀f:Fm,f.sz<=1000000->WC f=some f:=by
 intro f
 induction f using Fm.ind with
 | h f ih =>
  intro hf;have hz:=Fm.G3 f
  rw [WC,Y1 (by simp;omega),X6,Is,DE _ _ (by omega),AY (Wn f.kids) id (fun _ _=>rfl) f.kids [] 0 (fun x hx z i r hzb=>by
   have:=Fm.J3 hx
   rw [Wn,Yf,X6,ih x hx (by omega),X6,Y1 (by simp;omega),X6];rfl) (by simp;omega)]
  simp only [X6,Yf,QS,List.map_id,Fm.eta]
theorem U4 (rs:List Rul) (hr:RS rs) (hl:rs.length<=1000000):GX rs=some rs:=by
 rw [GX,DF _ _ (by omega),AY (Wo rs) id (fun _ _=>rfl) rs [] 0 (fun x hx z i r hzb=>by
  have:=hr.2 x hx
  rw [Wo,Yf,X6,I1,Qlt _ (by omega),X6,Qlt _ (by omega),X6,Yf,X6,Y1 (by simp;omega),X6];rfl) (by simp;omega)]
 simp only [X6,Yf,QS,List.map_id]
end Go.Proofs.SA
