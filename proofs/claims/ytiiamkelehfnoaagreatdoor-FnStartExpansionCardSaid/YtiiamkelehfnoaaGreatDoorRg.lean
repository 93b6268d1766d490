/- The reference's patterns, templates, rules: what is valid. -/
import Derived.Test.YtiiamkelehfnoaaGreatDoorRa
import Derived.Test.YtiiamkelehfnoaaGreatDoorPb
set_option linter.unusedVariables false
set_option linter.unusedSimpArgs false
set_option maxRecDepth 100000
open Go Go.Proofs Go.Proofs.Shadow
open _root_.Bool renaming false_eq_true → Qo, not_true → Z0, not_false → ZZ, true_and → Z7, false_or → Z8, false_and → Xa, or_eq_false_iff → Xg
open _root_.List renaming getElem_mem → ZU, drop_eq_getElem_cons → ZL, mem_cons_self → KF, mem_cons_of_mem → Kh, length_append → QX, append_assoc → QD, eq_nil_of_length_eq_zero → Kv, drop_zero → KT, drop_of_length_le → KR, getD_eq_getElem?_getD → Qy, getElem?_eq_getElem → Qj, nil_append → QU, length_cons → ZR, getElem_cons_succ → Z9, mem_append → QS, drop_length → Xb, filter_cons_of_neg → Xc, filter_cons_of_pos → Xd, length_map → Xe, drop_drop → Xf, range_eq_range' → Xh, mem_iff_getElem → Z1, any_cons → Z2, mem_singleton → ZI, any_eq_false → Xi, mem_map → QZ
open Fm renaming nodes → ZW
open _root_.Option renaming map_eq_some_iff → Qx, map_some → Qu
open _root_.ByteArray renaming mk → Qd
open _root_.Nat renaming lt_or_ge → KD
open Tot renaming bind → ZN
open Go.IntKind (i64)
namespace Go.Proofs.Shadow
theorem N9 {α:Type} (F:Nat->List α->Option (Int ⊕ Unit)) (p:α->Bool) (hn:∀i,F i []=some (.inr ())):∀(l:List α) (i:Nat),(∀x∈l,∀i r,F i (x :: r)=if p x=true then some (.inl (i:Int)) else F (i+1) r) ->
  (∃j,∃hj:j < l.length,F i l=some (.inl ((i+j:Nat):Int))/\l.find? p=some l[j])∨(F i l=some (.inr ())/\l.find? p=none):=by
 intro l
 induction l with
 | nil=>intro i _;exact .inr ⟨hn _,rfl⟩
 | cons x l ih =>
  intro i hc;rw [hc x (KF ..),List.find?_cons];cases hp:p x
  ·rw [if_neg (by simp)]
   rcases ih (i+1) (fun y hy=>hc y (Kh _ hy)) with ⟨j,hj,h1,h2⟩ | ⟨h1,h2⟩
   ·exact .inl ⟨j+1,by simp;omega,by rw [h1];congr 3;omega,by simpa using h2⟩
   ·exact .inr ⟨h1,h2⟩
  ·exact .inl ⟨0,by simp,by simp,by simp⟩
end Go.Proofs.Shadow
namespace Go.Proofs.SA
theorem SH (f:Fm) (ls:List Fm) (h:FS ls):AG f ls=some (Sn ls f):=by
 rw [AG,Sn];unfold BT LY
 by_cases h1:f.kind=1
 ·by_cases h2:f.name=Qd #[46,46,46]
  ·simp only [h1,decide_eq_true h2,Yf,X8];rfl
  ·by_cases h3:f.name=Qd #[95]
   ·simp only [h1,decide_eq_false h2,decide_eq_true h3,Yf,X8];rfl
   ·simp only [h1,decide_eq_false h2,decide_eq_false h3,Yf,X8,Qbc ls f h];rfl
 ·simp only [h1,decide_false,Yf,X8];rfl
theorem Qd2 (ls:List Fm) (h:FS ls):∀(p:Fm) (z:List Fm),z.length+p.nodes<=1000000->JH z p ls=some (z++vrs ls p):=by
 intro p
 induction p using Fm.ind with
 | h p ih =>
  intro z hz;have hn:=Fm.Vr p;have hl:=Jd p.kids
  have loop:∀(r:List Fm),(∀g∈r,g∈p.kids)->∀(z:List Fm) (i:Nat),z.length+VF ZW r<=1000000->W9 p ls z i r=some (z++Nv ls r):=by
   intro r
   induction r with
   | nil=>intro _ z i _;rw [W9,Yf];simp [Nv]
   | cons f r ihr =>
    intro hr z i hz;rw [VF] at hz;rw [W9,Yf,X8,ih f (hr f (KF ..)) z (by omega),X8];have:=BL ls f;rw [ihr (fun g hg=>hr g (Kh _ hg)) _ _ (by rw [QX];omega),Nv,QD]
  rw [JH,SH p ls h,X8,MZ];cases Sn ls p
  ·simp only [Qo,if_false,Yf,X8];rw [Cm _ _ _ (by omega),loop _ (fun _ h=>h) _ _ (by omega)];simp [X8]
  ·simp only [if_true,Yf,X8];rw [Y6 (by simp;omega)];simp only [X8];rw [Cm _ _ _ (by omega),loop _ (fun _ h=>h) _ _ (by simp;omega)];simp [X8]
theorem Qaa (ls:List Fm) (h:FS ls) (p:Fm) (hp:p.nodes<=1000000):Aw [] p ls=some (vrs ls p):=by
 have hn:=Fm.Vr p;have hl:=Jd p.kids
 have loop:∀(r:List Fm) (z:List Fm) (i:Nat),z.length+VF ZW r<=1000000->GS p ls z i r=some (z++Nv ls r):=by
  intro r
  induction r with
  | nil=>intro z i _;rw [GS,Yf];simp [Nv]
  | cons f r ihr =>
   intro z i hz;rw [VF] at hz;rw [GS,Yf,X8,Qd2 ls h f z (by omega),X8];have:=BL ls f;rw [ihr _ _ (by rw [QX];omega),Nv,QD]
 rw [Aw,SH p ls h,X8,MZ];cases Sn ls p
 ·simp only [Qo,if_false,Yf,X8];rw [DZ _ _ _ (by omega),loop _ _ _ (by simp;omega)];simp [X8]
 ·simp only [if_true,Yf,X8];rw [Y6 (by simp)];simp only [X8];rw [DZ _ _ _ (by omega),loop _ _ _ (by simp;omega)];simp [X8]
theorem Ou {ks:List Fm} {i:Nat} {f:Fm} {r:List Fm} (hd:ks.drop i=f :: r) (hl:ks.length<=1099511627776) :
  ((if (i64.wrap ((i:Int)+1)) < (ks.length:Int) then (idx ks (i64.wrap ((i:Int)+1))>>=fun x37=>(Vi x37>>=fun x39=>pure x39)) else pure false:Option Bool))=some (Wo r):=by
 have hi:i < ks.length:=by
  rcases KD i ks.length with h | h
  ·exact h
  ·rw [KR h] at hd;cases hd
 rw [ZL hi] at hd
 injection hd with e1 e2
 rw [VV (i:=i) (by omega)]
 by_cases h:i+1 < ks.length
 ·rw [if_pos (by omega),Yk ks (i+1) h];rw [ZL h] at e2;rw [← e2];rfl
 ·rw [if_neg (by omega)];rw [KR (by omega)] at e2;rw [← e2];rfl
theorem RY (ls:List Fm) (d:Int) (f:Fm):(dps ls d f).length<=f.nodes:=by rw [← FN];exact BL ls f
theorem S5 (ls:List Fm) (h:FS ls):∀(p:Fm) (z:List Int) (d:Int),z.length+p.nodes<=1000000->0<=d->d+p.nodes<=1000000->VZ z p ls d=some (z++dps ls d p):=by
 intro p
 induction p using Fm.ind with
 | h p ih =>
  intro z d hz h0 h1;have hn:=Fm.Vr p;have hl:=Jd p.kids
  have loop:∀(r:List Fm),(∀g∈r,g∈p.kids)->∀(z:List Int) (i:Nat),p.kids.drop i=r->z.length+VF ZW r<=1000000->V6 p ls d z i r=some (z++Rt ls d r):=by
   intro r
   induction r with
   | nil=>intro _ z i _ _;rw [V6,Yf];simp [Rt]
   | cons f r ihr =>
    intro hr z i hd hz
    have hd2:p.kids.drop (i+1)=r:=by rw [← Xf,hd];rfl
    rw [VF] at hz;have hm:=hr f (KF ..);have hk:=Ip hm;rw [V6,Ou hd (by omega),X8,Rt]
    have key:∀d':Int,0<=d'->d'<=d+1->(VZ z f ls d'>>=fun x51=>V6 p ls d x51 (i+1) r)=some (z++(dps ls d' f++Rt ls d r)):=fun d' q0 q1=>by
     rw [ih f hm z d' (by omega) q0 (by omega),X8];have:=RY ls d' f;rw [ihr (fun g hg=>hr g (Kh _ hg)) _ _ hd2 (by rw [QX];omega),QD]
    cases Wo r
    ·simp only [Qo,if_false,Yf,X8];exact key d h0 (by omega)
    ·simp only [if_true,Yf,X8,Y3 (show -9223372036854775808<=d+1 by omega) (show d+1 < 9223372036854775808 by omega)];exact key (d+1) (by omega) (Int.le_refl _)
  rw [VZ,SH p ls h,X8,S6];cases Sn ls p
  ·simp only [Qo,if_false,Yf,X8];rw [BF _ _ _ _ (by omega),loop _ (fun _ h=>h) _ _ (KT ..) (by omega)];simp [X8]
  ·simp only [if_true,Yf,X8];rw [Y6 (by simp;omega)];simp only [X8];rw [BF _ _ _ _ (by omega),loop _ (fun _ h=>h) _ _ (KT ..) (by simp;omega)];simp [X8]
theorem N1 (ls:List Fm) (h:FS ls) (p:Fm) (hp:p.nodes<=100000):Ii [] p ls 0=some (dps ls 0 p):=by
 have hn:=Fm.Vr p;have hl:=Jd p.kids
 have loop:∀(r:List Fm),(∀g∈r,g∈p.kids)->∀(z:List Int) (i:Nat),p.kids.drop i=r->z.length+VF ZW r<=1000000->WQ p ls 0 z i r=some (z++Rt ls 0 r):=by
  intro r
  induction r with
  | nil=>intro _ z i _ _;rw [WQ,Yf];simp [Rt]
  | cons f r ihr =>
   intro hr z i hd hz
   have hd2:p.kids.drop (i+1)=r:=by rw [← Xf,hd];rfl
   rw [VF] at hz;have hm:=hr f (KF ..);have hk:=Ip hm;rw [WQ,Ou hd (by omega),X8,Rt]
   have key:∀d':Int,0<=d'->d'<=1->(VZ z f ls d'>>=fun x51=>WQ p ls 0 x51 (i+1) r)=some (z++(dps ls d' f++Rt ls 0 r)):=fun d' q0 q1=>by
    rw [S5 ls h f z d' (by omega) q0 (by omega),X8];have:=RY ls d' f;rw [ihr (fun g hg=>hr g (Kh _ hg)) _ _ hd2 (by rw [QX];omega),QD]
   cases Wo r
   ·simp only [Qo,if_false,Yf,X8];exact key 0 (by omega) (by omega)
   ·simp only [if_true,Yf,X8,show i64.wrap (0+1)=1 from rfl];exact key 1 (by omega) (by omega)
 rw [Ii,SH p ls h,X8,S6];cases Sn ls p
 ·simp only [Qo,if_false,Yf,X8];rw [CJ _ _ _ _ (by omega),loop _ (fun _ h=>h) _ _ (KT ..) (by simp;omega)];simp [X8]
 ·simp only [if_true,Yf,X8];rw [Y6 (by simp)];simp only [X8];rw [CJ _ _ _ _ (by omega),loop _ (fun _ h=>h) _ _ (KT ..) (by simp;omega)];simp [X8]
def Qib (ls:List Fm) (p:Fm):Prop:=FV p/\Qal ls/\Qbv p=true/\(vrs ls p).Nodup/\(∀d∈dps ls 0 p,d<=3)/\(vrs ls p).length<=20
theorem Qb6 (ls:List Fm):∀(l:List Fm),(∀f∈l,∀x∈vrs ls f,x.sz<=f.sz)->∀x∈Nv ls l,x.sz<=VF Fm.sz l
 | [],_,x,hx=>by cases hx
 | f :: l,h,x,hx=>by
  rw [Nv] at hx;rw [VF]
  rcases QS.1 hx with hx | hx
  ·have:=h f (KF ..) x hx;omega
  ·have:=Qb6 ls l (fun g hg=>h g (Kh _ hg)) x hx;omega
theorem SJ (ls:List Fm) (p:Fm):∀x∈vrs ls p,x.sz<=p.sz:=by
 induction p using Fm.ind with
 | h p ih =>
  intro x hx;rw [MZ] at hx
  rcases QS.1 hx with hx | hx
  ·split at hx
   ·rw [ZI.1 hx];exact Nat.le_refl _
   ·cases hx
  ·have:=Qb6 ls p.kids ih x hx;rw [Fm.G6 p];omega
theorem Qjv {p:Fm} (hp:p.sz<=100000) {ls:List Fm} (h:FS ls):Tot (ED p ls) fun b=>b=true↔Qib ls p:=by
 rw [ED];refine ZN (Ao (by omega)) fun b1 hb1=>?_;cases b1
 ·simp only [ZZ,if_true,Yf,X8];exact ⟨_,rfl,fun h=>(by cases h),fun h=>(by have:=hb1.2 h.1;cases this)⟩
 simp only [Z0,Qo,if_false];have hfv:=hb1.1 rfl;have hnn:=hfv.2;obtain ⟨b2,e2,hb2⟩:=Lo h;rw [e2];simp only [Yf,X8];cases b2
 ·simp only [ZZ,if_true,Yf,X8];exact ⟨_,rfl,fun h=>(by cases h),fun h=>(by have:=hb2.2 h.2.1;cases this)⟩
 simp only [Z0,Qo,if_false,Qhj p (by omega),Yf,X8];cases hs:Qbv p
 ·simp only [ZZ,if_true];exact ⟨_,rfl,fun h=>(by cases h),fun h=>(by have h9:=h.2.2.1;rw [hs] at h9;cases h9)⟩
 simp only [Z0,Qo,if_false,Qaa ls h p (by omega),X8];have hvl:=BL ls p;rw [PM _ _ _ (by omega)]
 have hvs:∀x∈vrs ls p,x.sz<=1000000:=fun x hx=>by have:=SJ ls p x hx;omega
 rcases NX (I5 p ls (vrs ls p)) (vrs ls p) (fun i x=>decide (x∈(vrs ls p).take i)) false (fun _=>rfl) (fun i hi r=>by
  rw [I5,B9 _ i (by omega)];simp only [Yf,X8]
  rw [Qbc _ _ ⟨by unfold Sm;rw [List.length_take];omega,fun f hf=>hvs f (List.mem_of_mem_take hf)⟩,X8]) with ⟨h7,i,hi,hp2⟩ | ⟨h7,hp2⟩
 ·rw [h7,X8];exact ⟨_,rfl,fun h=>(by cases h),fun h=>absurd (of_decide_eq_true hp2) (AD.1 h.2.2.2.1 i hi)⟩
 have hnd:(vrs ls p).Nodup:=AD.2 fun i hi=>of_decide_eq_false (hp2 i hi);rw [h7,X8]
 simp only
 have hdl:=RY ls 0 p
 rw [N1 ls h p (by omega),X8,PN _ _ _ (by omega),ER (I6 p (vrs ls p) (dps ls 0 p)) (fun d=>decide (d > 3)) false (fun _=>rfl) _ _ (fun x hx i r=>by
  rw [I6,Yf,X8];by_cases hx3:x > 3<;>simp [hx3,Yf]),X8]
 cases ha:(dps ls 0 p).any fun d=>decide (d > 3)
 ·simp only [Qo,if_false,Yf]
  have hd3:∀d∈dps ls 0 p,d<=3:=fun d hd=>by
   have:=Xi.1 ha d hd;simpa using this
  refine ⟨_,rfl,?_⟩;simp only [decide_eq_true_iff];constructor
  ·intro hl;exact ⟨hfv,hb2.1 rfl,hs,hnd,hd3,by omega⟩
  ·intro h;have:=h.2.2.2.2.2;omega
 ·simp only [if_true];refine ⟨_,rfl,fun h=>(by cases h),fun h=>?_⟩;obtain ⟨d,hd,hd2⟩:=List.any_eq_true.1 ha;have:=h.2.2.2.2.1 d hd;have:=of_decide_eq_true hd2;omega
def HS (H:List Hit):Prop:=Sm H.length/\∀h∈H,h.name.sz<=1000000/\0<=h.depth+1/\h.depth<=1000000
theorem Rw {H:List Hit} (h:HS H) (f:Fm):(∃j,∃hj:j < H.length,Av H f=some (j:Int)/\Qgu H f=some H[j])∨(Av H f=some (-1)/\Qgu H f=none):=by
 have:=N9 (HU H f) (fun x=>decide (x.name=f)) (fun _=>rfl) H 0 (fun x hx i r=>by
  rw [HU,Yf,X8,EX _ (h.2 x hx).1,X8];by_cases hx2:x.name=f<;>simp [hx2,Yf])
 rw [Av,Nh _ _ (by have:=h.1;omega)]
 rcases this with ⟨j,hj,h1,h2⟩ | ⟨h1,h2⟩
 ·exact .inl ⟨j,hj,by rw [h1,X8,Nat.zero_add];rfl,h2⟩
 ·exact .inr ⟨by rw [h1];rfl,h2⟩
theorem S4 {H:List Hit} (h:HS H) (f:Fm):AI H f=some (D7 H f):=by
 rw [AI,D7]
 by_cases h1:f.kind=1
 ·rw [if_pos h1,if_pos h1]
  rcases Rw h f with ⟨j,hj,h2,h3⟩ | ⟨h2,h3⟩
  ·rw [h2,X8,if_neg (by omega),Yk _ _ hj,h3];rfl
  ·rw [h2,h3];rfl
 ·rw [if_neg h1,if_neg h1];rfl
theorem TM (H:List Hit):∀l:List Fm,Qj9 H l=l.any (Me H)
 | []=>rfl
 | f :: l=>by rw [Qj9,TM H l];rfl
theorem Qbt (H:List Hit) (f:Fm):Me H f=(decide (0 < D7 H f)||f.kids.any (Me H)):=by cases f;rw [Me,TM];rfl
theorem Qj8 {H:List Hit} (h:HS H):∀f:Fm,f.sz<=1000000->Ij H f=some (Me H f):=by
 intro f
 induction f using Fm.ind with
 | h f ih =>
  intro hf;have hz:=Fm.G6 f;rw [Ij,S4 h f,X8,Qbt]
  by_cases hd:D7 H f > 0
  ·rw [if_pos hd,decide_eq_true (show 0 < D7 H f from hd)];rfl
  ·rw [if_neg hd,decide_eq_false (show ¬0 < D7 H f from hd),Z8,Np _ _ (by omega),ER (HX H f) (Me H) true (fun _=>rfl) f.kids 0 (fun x hx i r=>by
    have:=Fm.J7 hx
    rw [HX,Yf,X8,ih x hx (by omega),X8];rfl),X8]
   cases f.kids.any (Me H)<;>rfl
theorem Qjz {H:List Hit} (h:HS H) (hl:H.length<=1000000):Bo H=some (Ln H):=by
 rw [Bo,Nn _ _ (by omega),BR (HW H) (fun h=>.mk h.name (if 0 < h.depth then h.depth - 1 else h.depth) h.one []) (fun _ _=>rfl) H [] 0 (fun x hx z i r hz=>by
  have:=h.2 x hx;rw [HW,Yf,X8]
  by_cases hd:x.depth > 0
  ·rw [if_pos hd,if_pos (show 0 < x.depth from hd),Y3 (by omega) (by omega)];simp only [Yf,X8];rw [Y6 (by simp;omega)];rfl
  ·rw [if_neg hd,if_neg (show ¬0 < x.depth from hd)];simp only [Yf,X8]
   rw [Y6 (by simp;omega)];rfl) (by simp;omega)]
 simp [X8,Yf,Ln]
theorem HS.less {H:List Hit} (h:HS H):HS (Ln H):=⟨by unfold Ln;rw [Xe];exact h.1,fun x hx=>by
 unfold Ln at hx;obtain ⟨y,hy,rfl⟩:=QZ.1 hx;have:=h.2 y hy;refine ⟨this.1,?_⟩;show 0<=(if 0 < y.depth then y.depth - 1 else y.depth)+1/\(if 0 < y.depth then y.depth - 1 else y.depth)<=1000000
 split<;>omega⟩
theorem Qhw (t:Fm) (H:List Hit):Qh8 t H=(!(YT t||decide (0 < D7 H t))&&Qef true t.kids H):=by cases t;rw [Qh8];rfl
theorem Qqm:∀t:Fm,t.sz<=1000000->∀{H:List Hit},HS H->H.length<=1000000->An t H=some (Qh8 t H):=by
 intro t
 induction t using Fm.ind with
 | h t ih =>
  intro ht H h hH;have hz:=Fm.G6 t
  have loop:∀(r:List Fm) (i:Nat) (b:Bool),t.kids.drop i=r->(b=true↔i=0∨∃h:i - 1 < t.kids.length,0 < i/\YT t.kids[i - 1]=true) ->
    Hn t H i r=some (if Qef b r H=true then .inr () else .inl false):=by
   intro r
   induction r with
   | nil=>intro i b _ _;rw [Qef];rfl
   | cons f r ihr =>
    intro i b hd hb;have hd0:=hd
    have hi:i < t.kids.length:=by
     rcases KD i t.kids.length with h | h
     ·exact h
     ·rw [KR h] at hd;cases hd
    rw [ZL hi] at hd
    injection hd with e1 e2
    have hm:f∈t.kids:=e1▸ZU hi;have hk:=Fm.J7 hm
    have hb2:∀b',b'=YT f->(b'=true↔i+1=0∨∃h:i+1 - 1 < t.kids.length,0 < i+1/\YT t.kids[i+1 - 1]=true):=by
     rintro b' rfl;simp only [Nat.add_sub_cancel];constructor
     ·intro h;exact .inr ⟨hi,by omega,by rw [e1];exact h⟩
     ·rintro (h | ⟨_,_,h⟩)
      ·omega
      ·rw [e1] at h;exact h
    rw [Hn,Qef,Yf,X8,CR,X8];cases hf:YT f
    ·simp only [Qo,if_false];rw [Ou hd0 (by omega),X8];cases hn:Wo r
     ·simp only [Qo,if_false,Yf,X8,ih f hm (by omega) h hH];cases hs:Qh8 f H
      ·simp
      ·simp only [Z0,Qo,if_false,Z7];exact ihr (i+1) false e2 (hb2 false hf.symm)
     ·simp only [if_true,Yf,X8,Qj8 h f (by omega)];cases hr:Me H f
      ·simp [Yf,X8]
      ·simp only [Z0,Qo,if_false,Yf,X8,Qjz h hH,ih f hm (by omega) h.less (show (Ln H).length<=1000000 by unfold Ln;rw [Xe];exact hH)];cases hs:Qh8 f (Ln H)
       ·simp
       ·simp only [Z0,Qo,if_false,Z7];exact ihr (i+1) false e2 (hb2 false hf.symm)
    ·simp only [if_true]
     by_cases hi0:i=0
     ·subst hi0;have:b=true:=hb.2 (.inl rfl);subst this;simp [Yf,X8]
     ·rw [if_neg (by omega),show i64.wrap ((i:Int) - 1)=((i - 1:Nat):Int) by rw [Y3 (by omega) (by omega)];omega,Yk _ _ (by omega)];simp only [X8,CR,Yf];cases hpd:YT t.kids[i - 1]
      ·have:b=false:=by
        cases b with
        | false=>rfl
        | true =>
         rcases hb.1 rfl with h | ⟨_,_,h⟩
         ·exact absurd h hi0
         ·rw [h] at hpd;cases hpd
       subst this;simp only [Qo,if_false,ZZ,Z7];exact ihr (i+1) true e2 (hb2 true hf.symm)
      ·have:b=true:=hb.2 (.inr ⟨by omega,by omega,hpd⟩);subst this
       simp
  rw [An,Qhw,CR,X8];cases hd:YT t
  ·simp only [Qo,if_false,S4 h t,X8,Yf,Z8]
   by_cases h0:D7 H t > 0
   ·rw [decide_eq_true (show 0 < D7 H t from h0)];simp
   ·rw [decide_eq_false (show ¬0 < D7 H t from h0)];simp only [gt_iff_lt,h0,decide_false,Qo,if_false,ZZ,Z7];rw [PQ _ _ (by omega),loop t.kids 0 true (KT ..) ⟨fun _=>.inl rfl,fun _=>rfl⟩,X8];cases Qef true t.kids H<;>rfl
  ·simp [Yf,X8]
end Go.Proofs.SA
namespace Go.Proofs.Shadow
theorem Qfq {α β:Type} (F:List β->Nat->List α->Option (List β)) (a:List α) (g:Nat->β) (hn:∀z i,F z i []=some z) (hc:∀(z:List β) (i:Nat) (hi:i < a.length) r,z.length<=1073741824->F z i (a[i] :: r)=F (z++[g i]) (i+1) r) :
  ∀(n i:Nat) (z:List β),i+n=a.length->z.length+n<=1073741824->F z i (a.drop i)=some (z++(List.range' i n).map g):=by
 intro n
 induction n with
 | zero=>intro i z hi _;rw [show i=a.length by omega,Xb,hn];simp
 | succ n ih =>
  intro i z hi hz
  have hil:i < a.length:=by omega
  rw [ZL hil,hc z i hil _ (by omega),ih (i+1) _ (by omega) (by simp;omega),List.range'_succ,List.map_cons,QD];rfl
theorem P2 {α:Type} {p:α->Bool} : ∀{l:List α},(l.filter p).length<=1->∀{i j:Nat} (hi:i < l.length) (hj:j < l.length),p l[i]=true->p l[j]=true->i=j:=by
 intro l
 induction l with
 | nil=>intro _ i j hi;simp at hi
 | cons x l ih =>
  intro h i j hi hj hpi hpj
  have Fz:(l.filter p).length=0->∀k,∀hk:k < l.length,p l[k]=false:=fun h0 k hk=>by
   cases hp:p l[k]
   ·rfl
   ·have:l[k]∈l.filter p:=List.mem_filter.2 ⟨ZU hk,hp⟩;have:=List.length_pos_of_mem this;omega
  cases hx:p x
  ·rw [Xc (by simp [hx])] at h
   cases i with
   | zero=>simp [hx] at hpi
   | succ i =>
    cases j with
    | zero=>simp [hx] at hpj
    | succ j =>
     simp only [Z9] at hpi hpj;have:=ih h (by simpa using hi) (by simpa using hj) hpi hpj;omega
  ·rw [Xd hx] at h;have h0:=Fz (by simp at h;simpa using h)
   cases i with
   | zero =>
    cases j with
    | zero=>rfl
    | succ j =>
     have h1:=h0 j (by simpa using hj);simp only [Z9] at hpj;rw [h1] at hpj;cases hpj
   | succ i =>
    have h1:=h0 i (by simpa using hi);simp only [Z9] at hpi;rw [h1] at hpi;cases hpi
theorem RO {α β:Type} {g:α->Option β} : ∀{l:List α} {r:List β},MM g l=some r->r.length=l.length
 | [],r,h=>by rw [MM] at h;injection h with h;subst h;rfl
 | x :: l,r,h=>by
  rw [MM] at h
  cases hx:g x with
  | none=>rw [hx] at h;cases h
  | some y =>
   rw [hx] at h;simp only at h
   cases hl:MM g l with
   | none=>rw [hl] at h;cases h
   | some r'=>rw [hl] at h;injection h with h;subst h;simp [RO hl]
theorem RP {α β:Type} {g:α->Option β} : ∀{l:List α} {r:List β},MM g l=some r->∀y∈r,∃x∈l,g x=some y
 | [],r,h,y,hy=>by rw [MM] at h;injection h with h;subst h;cases hy
 | x :: l,r,h,y,hy=>by
  rw [MM] at h
  cases hx:g x with
  | none=>rw [hx] at h;cases h
  | some y' =>
   rw [hx] at h;simp only at h
   cases hl:MM g l with
   | none=>rw [hl] at h;cases h
   | some r' =>
    rw [hl] at h;injection h with h;subst h
    rcases List.mem_cons.1 hy with rfl | hy
    ·exact ⟨x,KF ..,hx⟩
    ·obtain ⟨z,hz,h2⟩:=RP hl y hy;exact ⟨z,Kh _ hz,h2⟩
def Ot (n:Nat):List Fm->Nat
 | []=>0
 | p :: ps=>if YT p=true then Ot n ps else if Wo ps=true then n+Ot n ps else 1+Ot n ps
theorem Mc (n:Nat):∀l:List Fm,l.any YT=false->Ot n l=l.length
 | [],_=>rfl
 | p :: ps,h=>by
  rw [Z2,Xg] at h
  have h2:Wo ps=false:=by
   cases ps with
   | nil=>rfl
   | cons q qs=>have:=h.2;rw [Z2,Xg] at this;exact this.1
  rw [Ot,if_neg (by simp [h.1]),if_neg (by simp [h2]),Mc n ps h.2,ZR];omega
theorem TB (n:Nat):∀l:List Fm,(l.filter YT).length<=1->Wo l=false->l.any YT=true->Ot n l+2=l.length+n
 | [],_,_,h=>by cases h
 | p :: ps,h1,h2,h3=>by
  have hp:YT p=false:=h2;rw [Xc (by simp [hp])] at h1;rw [Z2,hp,Z8] at h3;rw [Ot,if_neg (by simp [hp])];cases hd:Wo ps
  ·rw [if_neg (by simp)];have:=TB n ps h1 hd h3;rw [ZR];omega
  ·rw [if_pos rfl]
   cases ps with
   | nil=>cases hd
   | cons q qs =>
    have hq:YT q=true:=hd;rw [Xd hq,ZR] at h1;have hz:qs.filter YT=[]:=Kv (by omega)
    have ha:qs.any YT=false:=by
     rw [Xi];intro x hx hxd;have:x∈qs.filter YT:=List.mem_filter.2 ⟨hx,hxd⟩;rw [hz] at this;cases this
    rw [Ot,if_pos hq,Mc n qs ha,ZR,ZR];omega
end Go.Proofs.Shadow
namespace Go.Proofs.SA
theorem Qf6 (ls:List Fm):∀(l:List Fm) (d:Int),(∀f∈l,∀d,∀x∈dps ls d f,d<=x/\x<=d+f.nodes)->∀x∈Rt ls d l,d<=x/\x<=d+1+VF ZW l
 | [],d,_,x,hx=>by cases hx
 | f :: l,d,h,x,hx=>by
  rw [Rt] at hx;rw [VF]
  rcases QS.1 hx with hx | hx
  ·have:=h f (KF ..) _ x hx;split at this<;>omega
  ·have:=Qf6 ls l d (fun g hg=>h g (Kh _ hg)) x hx;omega
theorem Qf7 (ls:List Fm) (p:Fm):∀d,∀x∈dps ls d p,d<=x/\x<=d+p.nodes:=by
 induction p using Fm.ind with
 | h p ih =>
  intro d x hx;rw [S6] at hx;have hn:=Fm.Vr p
  rcases QS.1 hx with hx | hx
  ·split at hx
   ·rw [ZI.1 hx];omega
   ·cases hx
  ·have:=Qf6 ls p.kids d ih x hx;omega
theorem Qn4 (ls:List Fm) (h:FS ls) (p:Fm) (hp:p.nodes<=100000) (rows:List (List Hit)) (hr:∀r∈rows,r.length=(vrs ls p).length) (hrl:rows.length<=1000000):B1 p ls rows=some (Qlw ls p rows):=by
 have hvl:=BL ls p;have hdl:=FN ls p 0;rw [B1,Qaa ls h p (by omega),X8,N1 ls h p hp,X8,OK _ _ _ _ _ (by omega)]
 have:=Qfq (IA p rows (vrs ls p) (dps ls 0 p)) (vrs ls p) (fun i=>.mk ((vrs ls p).getD i default) ((dps ls 0 p).getD i 0+1) Fm.zero (rows.map fun r=>r.getD i default)) (fun _ _=>rfl) (fun z i hi r hz=>by
  have hid:i < (dps ls 0 p).length:=by omega
  have hge:=Qf7 ls p 0 _ (ZU hid)
  rw [IA,Yf,X8,Yk _ i hid,X8,OL _ _ _ _ _ _ _ _ _ (by omega),
   BR (IB p rows (vrs ls p) (dps ls 0 p) z (i:Int) (vrs ls p)[i] (dps ls 0 p)[i]) (fun r=>r.getD i default) (fun _ _=>rfl) rows [] 0 (fun x hx z2 k r2 hz2=>by
    have hxl:=hr x hx
    rw [IB,Yf,X8,Yk x i (by omega),X8,Y6 (by simp;omega),X8,Qy,Qj (by omega)];rfl) (by simp;omega),X8,
   Y6 (by simp;omega),X8,Y3 (by omega) (by omega),Qy,Qj hi,Qy,Qj hid];rfl) (vrs ls p).length 0 [] (by omega) (by simp;omega)
 rw [KT] at this;rw [this,X8,Yf,Qlw,Xh];rfl
theorem Sq (ls:List Fm) (p:Fm) (rows:List (List Hit)):(Qlw ls p rows).length=(vrs ls p).length:=by simp [Qlw]
theorem Qbp (B:List Bnd) (ls:List Fm):∀(d:Nat) (p:Fm),FIs d p->YT p=false->∀(f:Fm) (hs:List Hit),pm B ls p f=some hs->hs.length=(vrs ls p).length:=by
 intro d
 induction d with
 | zero=>intro p h;exact h.elim
 | succ d ih =>
  intro p h hdt f hs e
  have hL:∀(ps:List Fm),(∀q∈ps,FIs d q)->∀(fs:List Fm) (n:Nat) (hs:List Hit),pmL B ls ps fs n=some hs->hs.length=(Nv ls ps).length:=by
   intro ps
   induction ps with
   | nil=>intro _ fs n hs e;rw [UZ] at e;injection e with e;subst e;rfl
   | cons q ps ihp =>
    intro hq fs n hs e;have hq':=fun x hx=>hq x (Kh q hx);rw [Sp] at e;rw [Nv,QX]
    by_cases hd:YT q=true
    ·rw [if_pos hd] at e;rw [ihp hq' fs n hs e,MZ]
     have hk:q.kind=1/\q.name=BT:=by unfold YT at hd;simpa using hd
     have:q.kids=[]:=by
      have:=hq q (KF ..)
      cases d with
      | zero=>exact this.elim
      | succ d =>
       rcases this with h | h | h
       ·exact Kv h.2.2.2.2
       ·omega
       ·omega
     rw [this,Nv,if_neg (by simp [Sn,hk.2])];simp
    ·rw [if_neg hd] at e
     have hd':YT q=false:=by simpa using hd
     by_cases hh:Wo ps=true
     ·rw [if_pos hh] at e;split at e
      ·cases e
      ·rename_i rows hrows;obtain ⟨hs2,h2,h3⟩:=Qx.1 e;subst h3;rw [QX,Sq,ihp hq' _ _ _ h2]
     ·rw [if_neg hh] at e;split at e
      ·cases e
      ·rename_i fs' f';split at e
       ·cases e
       ·rename_i hs1 h1;obtain ⟨hs2,h2,h3⟩:=Qx.1 e;subst h3;rw [QX,ih q (hq q (KF ..)) hd' _ _ h1,ihp hq' _ _ _ h2]
  rw [Qn3] at e;rw [MZ]
  rcases h with h | h | h
  ·have hk:p.kids=[]:=Kv h.2.2.2.2;rw [if_pos h.1] at e;rw [hk,Nv,List.append_nil]
   by_cases h1:p.name=LY
   ·rw [if_pos h1] at e
    injection e with e;subst e
    rw [if_neg (by simp [Sn,h1])];rfl
   ·rw [if_neg h1] at e
    by_cases h2:p∈ls
    ·rw [if_pos h2] at e;split at e
     ·injection e with e;subst e
      rw [if_neg (by simp [Sn,h2])];rfl
     ·cases e
    ·rw [if_neg h2] at e
     injection e with e;subst e
     have hn:p.name≠BT:=fun hn=>by unfold YT at hdt;simp [h.1,hn] at hdt
     rw [if_pos (by simp [Sn,h.1,h1,h2,hn])];rfl
  ·have hk:p.kids=[]:=Kv h.2.2.2.2.2;rw [if_neg (by omega),if_pos h.1] at e;rw [hk,Nv,if_neg (by simp [Sn,h.1])];split at e
   ·injection e with e;subst e;rfl
   ·cases e
  ·rw [if_neg (by omega),if_neg (by omega)] at e;rw [if_neg (by simp [Sn,h.1]),QU];split at e
   ·split at e
    ·split at e
     ·cases e
     ·exact hL _ h.2.2.2.2 _ _ _ e
    ·split at e
     ·exact hL _ h.2.2.2.2 _ _ _ e
     ·cases e
   ·cases e
def MR (o:Option (List Hit)) (r:List Hit × Bool):Prop:=match o with | some hs=>r=(hs,true) | none=>r.2=false
theorem Rz {B:List Bnd} (hB:BS B) {ls:List Fm} (hls:FS ls):∀(d:Nat) (p:Fm),FIs d p->p.sz<=100000->p.nodes<=400->Qbv p=true->∀f:Fm,f.sz<=100000->Tot (WR B p ls f) (MR (pm B ls p f)):=by
 intro d
 induction d with
 | zero=>intro p h;exact h.elim
 | succ d ih =>
  intro p h hpz hpn hsh f hfz;have hzp:=Fm.G6 p;have hzf:=Fm.G6 f
  have hpd:YT p=false:=by
   cases hd:YT p
   ·rfl
   ·rw [OB,if_pos hd] at hsh;cases hsh
  rw [WR,Qn3]
  rcases h with h | h | h
  ·rw [if_pos h.1,if_pos h.1]
   by_cases h1:p.name=LY
   ·have h1':=h1;unfold LY at h1';rw [if_pos h1',if_pos h1];exact ⟨_,rfl,rfl⟩
   have h1':=h1;unfold LY at h1';rw [if_neg h1',if_neg h1,Qbc ls p hls,X8]
   by_cases h2:p∈ls
   ·rw [decide_eq_true h2,if_pos rfl,if_pos h2]
    by_cases h3:f.kind=1
    ·rw [if_pos h3,Qkc B p f hB (by unfold Sm;omega) (by unfold Sm;omega)];simp only [X8,Yf];cases hr:OA B p f
     ·exact ⟨_,rfl,by simp [MR]⟩
     ·exact ⟨_,rfl,by simp [MR,h3]⟩
    ·rw [if_neg h3];exact ⟨_,rfl,by simp [MR,h3]⟩
   ·rw [decide_eq_false h2,if_neg (by simp),if_neg h2,Y6 (by simp),X8];exact ⟨_,rfl,rfl⟩
  ·have n1:¬p.kind=1:=by omega
   simp only [n1,h.1,if_false,if_true];rw [EX p (by omega),X8]
   by_cases h2:p=f
   ·rw [decide_eq_true h2,if_pos h2]
    exact ⟨_,rfl,by
     have hk:p.kids=[]:=Kv h.2.2.2.2.2
     simp [MR]⟩
   ·rw [decide_eq_false h2,if_neg h2];exact ⟨_,rfl,rfl⟩
  have n1:¬p.kind=1:=by omega
  have n2:¬p.kind=2:=by omega
  simp only [n1,n2,if_false]
  by_cases hf3:f.kind=3
  rotate_left
  ·rw [if_neg hf3,if_neg hf3];exact ⟨_,rfl,rfl⟩
  rw [if_pos hf3,if_pos hf3];have hps:=h.2.2.2.2;rw [OB,hpd] at hsh;simp only [Qo,if_false] at hsh;have hc1:=OC _ _ _ hsh;have hh:=Qhk hsh;have hmem:=Su _ _ _ hsh;generalize hps':p.kids=ps at *;generalize hfs':f.kids=fs at *
  have hfsz:∀x∈fs,x.sz<=100000:=fun x hx=>by have:=CO Fm.sz fs x hx;omega
  have hpsz:∀x∈ps,x.sz<=100000:=fun x hx=>by have:=CO Fm.sz ps x hx;omega
  have hnp:=Fm.Vr p;rw [hps'] at hnp
  have hpsn:∀x∈ps,x.nodes<=400:=fun x hx=>by have:=CO ZW ps x hx;omega
  have row:∀(n i:Nat) (r:Int),i+n+1=ps.length+1->i<=ps.length->(∀j,j < i->∀hj:j+1 < ps.length,YT ps[j+1]=true->r=j)->(r=-1∨∃j:Nat,r=j/\∃hj:j+1 < ps.length,YT ps[j+1]=true) ->
    Tot (JE B ps ls fs r i) fun r=>(∀j:Nat,∀hj:j+1 < ps.length,YT ps[j+1]=true->r=j)/\(r=-1∨∃j:Nat,r=j/\∃hj:j+1 < ps.length,YT ps[j+1]=true):=by
   intro n
   induction n with
   | zero =>
    intro i r hi hil h1 h2;rw [JE,VV (i:=i) (by omega),if_neg (by omega)];exact ⟨_,rfl,fun j hj hd=>h1 j (by omega) hj hd,h2⟩
   | succ n ihn =>
    intro i r hi hil h1 h2;rw [JE,VV (i:=i) (by omega)]
    by_cases hlt:i+1 < ps.length
    ·rw [if_pos (by omega),Yk ps (i+1) hlt,X8,CR,X8];cases hd:YT ps[i+1]
     ·simp only [Qo,if_false];refine ihn (i+1) r (by omega) (by omega) (fun j hj hj2 hd2=>?_) h2
      by_cases hji:j=i
      ·subst hji;rw [hd] at hd2;cases hd2
      ·exact h1 j (by omega) hj2 hd2
     ·simp only [if_true];refine ihn (i+1) i (by omega) (by omega) (fun j hj hj2 hd2=>?_) (.inr ⟨i,rfl,hlt,hd⟩);have:=P2 (p:=YT) (by omega) hj2 hlt hd2 hd;omega
    ·rw [if_neg (by omega)];exact ⟨_,rfl,fun j hj hd=>h1 j (by omega) hj hd,h2⟩
  rw [DR];obtain ⟨w,hw,hw1,hw2⟩:=row ps.length 0 (-1) (by omega) (by omega) (fun j hj=>by omega) (.inl rfl);rw [show ((0:Nat):Int)=0 from rfl] at hw;rw [hw,X8]
  have hany:ps.any YT=true↔w≠-1:=by
   rw [List.any_eq_true];constructor
   ·rintro ⟨x,hx,hd⟩;obtain ⟨j,hj,rfl⟩:=Z1.1 hx
    cases j with
    | zero =>
     cases ps with
     | nil=>simp at hj
     | cons q qs=>rw [show Wo (q :: qs)=YT q from rfl] at hh;simp only [List.getElem_cons_zero] at hd;rw [hd] at hh;cases hh
    | succ j=>have:=hw1 j hj hd;omega
   ·intro hne
    rcases hw2 with h | ⟨j,_,hj,hd⟩
    ·exact absurd h hne
    ·exact ⟨_,ZU hj,hd⟩
  have hrow:∀i:Nat,∀hi:i < ps.length,YT ps[i]=false->((i:Int)=w↔Wo (ps.drop (i+1))=true):=fun i hi hnd=>by
   by_cases hlt:i+1 < ps.length
   ·rw [ZL hlt];show _↔YT ps[i+1]=true;constructor
    ·intro hiw
     rcases hw2 with h | ⟨j,h2,hj,hd⟩
     ·omega
     ·have:j=i:=by omega
      subst this;exact hd
    ·intro hd;exact (hw1 i hlt hd).symm
   ·rw [KR (by omega)];constructor
    ·intro hiw
     rcases hw2 with h | ⟨j,h2,hj,hd⟩
     ·omega
     ·omega
    ·intro hd;cases hd
  have main:∀(n:Nat),(w≠-1->i64.wrap ((fs.length:Int) - (i64.wrap ((ps.length:Int) - 2)))=(n:Int))->n<=fs.length->∀(r:List Fm) (i at_:Nat) (z:List Hit),ps.drop i=r->at_+Ot n r=fs.length->z.length+VF ZW r<=1000000 ->
    Tot (W7 B ps ls fs w z (at_:Int) i r) fun o=>match pmL B ls r (fs.drop at_) n with | some hs=>o=.inr (z++hs) | none=>∃z',o=.inl (z',false):=by
   intro n hn hnf r
   induction r with
   | nil=>intro i at_ z _ _ _;rw [W7,UZ];exact ⟨_,rfl,by simp⟩
   | cons q r ihr =>
    intro i at_ z hd hneed hz;have hd0:=hd
    have hi:i < ps.length:=by
     rcases KD i ps.length with h | h
     ·exact h
     ·rw [KR h] at hd;cases hd
    rw [ZL hi] at hd
    injection hd with e1 e2
    have hm:q∈ps:=e1▸ZU hi;rw [W7,Yf,X8,CR,X8,Sp];rw [Ot] at hneed;rw [VF] at hz;have hqn:=BC q;cases hq:YT q;rotate_left
    ·rw [hq,if_pos rfl] at hneed;simp only [if_true];exact ihr (i+1) at_ z e2 hneed (by omega)
    rw [hq,if_neg (by simp)] at hneed;simp only [Qo,if_false];have hq':Qbv q=true:=(hmem q hm).resolve_left (by simp [hq]);have hqz:=hpsz q hm;have hqnn:=hpsn q hm;have hrw:=hrow i hi (by rw [e1];exact hq);rw [e2] at hrw
    by_cases hhd:Wo r=true
    ·rw [if_pos hhd] at hneed ⊢;rw [if_pos (hrw.2 hhd)]
     have hwn:w≠-1:=by have:=hrw.2 hhd;omega
     rw [hn hwn]
     have l2:∀(m:Nat) (acc:List (List Hit)) (k:Nat),k+m=at_+n->acc.length+m<=100000->Tot (Gp B ps ls fs w z (i:Int) acc (k:Int) (m:Int)) fun o=>match MM (pm B ls q) ((fs.drop k).take m) with | some rows=>o=.inr (acc++rows,((at_+n:Nat):Int)) | none=>∃z',o=.inl (z',false):=by
      intro m
      induction m with
      | zero =>
       intro acc k hk _;rw [Gp,if_neg (by omega),List.take_zero,MM];exact ⟨_,rfl,by simp;omega⟩
      | succ m ihm =>
       intro acc k hk hacc
       have hkl:k < fs.length:=by omega
       rw [Gp,if_pos (by omega),Yk ps i hi,X8,Yk fs k hkl,X8,e1,ZL hkl,List.take_succ_cons,MM];have:=ih q (hps q hm) hqz hqnn hq' fs[k] (hfsz _ (ZU hkl));obtain ⟨rr,hrr,hmr⟩:=this;rw [hrr,X8]
       cases hpm:pm B ls q fs[k] with
       | none =>
        rw [hpm] at hmr;have:rr.2=false:=hmr;rw [this];simp only [ZZ,if_true];exact ⟨_,rfl,_,rfl⟩
       | some hs =>
        rw [hpm] at hmr;have:rr=(hs,true):=hmr;subst this;simp only [Z0,Qo,if_false];rw [Y6 (by simp;omega),X8,VV (i:=k) (by omega),show i64.wrap (((m+1:Nat):Int) - 1)=(m:Int) by rw [Y3 (by omega) (by omega)];omega];obtain ⟨o,ho,hop⟩:=ihm (acc++[hs]) (k+1) (by omega) (by simp;omega);refine ⟨o,ho,?_⟩
        cases hall:MM (pm B ls q) ((fs.drop (k+1)).take m) with
        | none=>rw [hall] at hop;exact hop
        | some rows=>rw [hall] at hop;simp only [Qu];rw [hop];simp
     obtain ⟨o,ho,hop⟩:=l2 n [] at_ rfl (by have:=hfz;have:=Jd fs;simp;omega);rw [ho,X8]
     cases hall:MM (pm B ls q) ((fs.drop at_).take n) with
     | none =>
      rw [hall] at hop;obtain ⟨z',rfl⟩:=hop;exact ⟨_,rfl,_,rfl⟩
     | some rows =>
      rw [hall] at hop;simp only at hop;subst hop;simp only [QU];have hrl:=RO hall
      rw [X8,Qn4 ls hls q (by omega) rows (fun r hr=>by
       obtain ⟨x,hx,h2⟩:=RP hall r hr
       exact Qbp B ls d q (hps q hm) hq x r h2) (by rw [hrl,List.length_take];omega),X8]
      have hvl:=BL ls q;rw [Y6 (by rw [Sq];omega),X8];obtain ⟨o,ho,hop⟩:=ihr (i+1) (at_+n) (z++Qlw ls q rows) e2 (by omega) (by rw [QX,Sq];omega);refine ⟨o,ho,?_⟩;rw [Xf]
      cases hpl:pmL B ls r (fs.drop (at_+n)) n with
      | none=>rw [hpl] at hop;exact hop
      | some hs=>rw [hpl] at hop;simp only [Qu];rw [hop,QD]
    ·rw [if_neg hhd] at hneed ⊢;rw [if_neg (fun h=>hhd (hrw.1 h))]
     have hal:at_ < fs.length:=by omega
     rw [ZL hal];simp only [Yf,X8,Yk fs at_ hal];obtain ⟨rr,hrr,hmr⟩:=ih q (hps q hm) hqz hqnn hq' fs[at_] (hfsz _ (ZU hal));rw [hrr,X8]
     cases hpm:pm B ls q fs[at_] with
     | none =>
      rw [hpm] at hmr;have:rr.2=false:=hmr;rw [this];simp only [ZZ,if_true];exact ⟨_,rfl,_,rfl⟩
     | some hs =>
      rw [hpm] at hmr;have:rr=(hs,true):=hmr;subst this;simp only [Z0,Qo,if_false];have hl:=Qbp B ls d q (hps q hm) hq _ _ hpm;have hvl:=BL ls q;rw [Y6 (by omega),X8,VV (i:=at_) (by omega)];obtain ⟨o,ho,hop⟩:=ihr (i+1) (at_+1) (z++hs) e2 (by omega) (by rw [QX];omega);refine ⟨o,ho,?_⟩
      cases hpl:pmL B ls r (fs.drop (at_+1)) n with
      | none=>rw [hpl] at hop;exact hop
      | some hs2=>rw [hpl] at hop;simp only [Qu];rw [hop,QD]
  have hfl:fs.length<=100000:=by omega
  have hpl:ps.length<=400:=by have:=Jd ps;omega
  have fin:∀n:Nat,(w≠-1->i64.wrap ((fs.length:Int) - (i64.wrap ((ps.length:Int) - 2)))=(n:Int))->n<=fs.length->Ot n ps=fs.length->Tot ((WC B ps ls fs w [] 0 0>>=fun o27=>match o27 with | .inl r=>pure r | .inr Qa1=>(pure (Qa1,true)):Option (List Hit × Bool))>>=fun x55=>pure (x55.1,x55.2)) (MR (pmL B ls ps fs n)):=fun n h1 h2 h3=>by
   rw [Ni _ _ _ _ _ _ _ (by omega)];obtain ⟨o,ho,hop⟩:=main n h1 h2 ps 0 0 [] (KT ..) (by omega) (by simp;omega);rw [show ((0:Nat):Int)=0 from rfl] at ho;rw [ho,X8];rw [KT] at hop
   cases hpm:pmL B ls ps fs n with
   | none=>rw [hpm] at hop;obtain ⟨z',rfl⟩:=hop;exact ⟨_,rfl,rfl⟩
   | some hs=>rw [hpm] at hop;simp only at hop;subst hop;exact ⟨_,rfl,by simp [MR]⟩
  have hw0:w=-1∨0<=w:=by rcases hw2 with h | ⟨j,h,_⟩<;>omega
  have hwr:i64.wrap ((ps.length:Int) - 2)=(ps.length:Int) - 2:=Y3 (by omega) (by omega)
  by_cases hwn:w=-1
  ·have hno:¬ps.any YT=true:=fun h=>hany.1 h hwn;rw [if_neg hno];subst hwn;simp only [show decide ((-1:Int) < 0)=true from rfl,show decide ((-1:Int)≥0)=false from rfl,Z7,Xa,Yf,X8]
   by_cases hlen:ps.length=fs.length
   ·rw [if_pos hlen,decide_eq_true (show (ps.length:Int)=(fs.length:Int) by omega)];simp only [Z0,Qo,if_false,X8];exact fin 0 (fun h=>absurd rfl h) (by omega) (by rw [Mc 0 ps (by simpa using hno)];exact hlen)
   ·rw [if_neg hlen,decide_eq_false (show ¬(ps.length:Int)=(fs.length:Int) by omega)];simp only [ZZ,if_true,X8];exact ⟨_,rfl,rfl⟩
  ·have hyes:ps.any YT=true:=hany.2 hwn;have hw1':0<=w:=hw0.resolve_left hwn;rw [if_pos hyes];simp only [decide_eq_false (show ¬w < 0 by omega),decide_eq_true (show w≥0 from hw1'),Xa,Z7,Yf,X8,Qo,if_false,hwr]
   by_cases hlen:fs.length+2 < ps.length
   ·rw [if_pos hlen,decide_eq_true (show (fs.length:Int) < (ps.length:Int) - 2 by omega)];simp only [if_true,X8];exact ⟨_,rfl,rfl⟩
   ·rw [if_neg hlen,decide_eq_false (show ¬(fs.length:Int) < (ps.length:Int) - 2 by omega)];simp only [Qo,if_false,X8]
    have h2:2<=ps.length:=by
     rcases hw2 with h | ⟨j,_,hj,_⟩
     ·exact absurd h hwn
     ·omega
    refine fin (fs.length+2 - ps.length) (fun _=>?_) (by omega) ?_
    ·rw [hwr,Y3 (by omega) (by omega)];omega
    ·have:=TB (fs.length+2 - ps.length) ps (by omega) hh hyes;omega
end Go.Proofs.SA
namespace Go.Proofs.SA
theorem Jr {α:Type} {l:List α} {i:Nat} {d:α} (h:i < l.length):l.getD i d=l[i]:=by rw [Qy,Qj h];rfl
theorem Qhh (ls:List Fm) (h:FS ls) (p:Fm) (hp:p.nodes<=100000):BG p ls=some (DW p ls):=by
 have hvl:=BL ls p;have hdl:=FN ls p 0;rw [BG,Qaa ls h p (by omega),X8,N1 ls h p hp,X8,Mz _ _ _ _ (by omega)]
 have:=Qfq (J3 p (vrs ls p) (dps ls 0 p)) (vrs ls p) (fun i=>.mk ((vrs ls p).getD i default) ((dps ls 0 p).getD i 0) (if (dps ls 0 p).getD i 0=0 then (vrs ls p).getD i default else Fm.zero) []) (fun _ _=>rfl) (fun z i hi r hz=>by
  have hid:i < (dps ls 0 p).length:=by omega
  rw [J3,Yf,X8,Yk _ i hid,X8,Jr hi,Jr hid]
  by_cases h0:(dps ls 0 p)[i]=0
  ·rw [if_pos h0,if_pos h0,X8,Y6 (by simp;omega),X8]
  ·rw [if_neg h0,if_neg h0,Y6 (by simp;omega),X8];rfl) (vrs ls p).length 0 [] (by omega) (by simp;omega)
 rw [KT] at this;rw [this,X8,Yf,DW,Xh];rfl
theorem TO (ls:List Fm) (p:Fm) (hp:p.nodes<=400) (hz:p.sz<=100000):HS (DW p ls)/\(DW p ls).length<=400:=by
 have hvl:=BL ls p;have hdl:=FN ls p 0;refine ⟨⟨by unfold Sm;simp [DW];omega,fun h hh=>?_⟩,by simp [DW];omega⟩;unfold DW at hh;obtain ⟨i,hi,rfl⟩:=QZ.1 hh
 have hi':i < (vrs ls p).length:=by simpa using hi
 have hid:i < (dps ls 0 p).length:=by omega
 show ((vrs ls p).getD i default).sz<=1000000/\0<=(dps ls 0 p).getD i 0+1/\(dps ls 0 p).getD i 0<=1000000;rw [Jr hi',Jr hid];have h1:=SJ ls p _ (ZU hi');have h2:=Qf7 ls p 0 _ (ZU hid);omega
def Qb8 (ls:List Fm) (r:Rul):Prop:=Qib ls r.pat/\r.pat.kind=3/\0 < r.pat.kids.length/\FV r.tpl/\Qh8 r.tpl (DW r.pat ls)=true
def Fp (ls:List Fm) (rs:List Rul):Prop:=rs.length < 10/\(∀r∈rs,Qb8 ls r)/\Qal ls
def RS (rs:List Rul):Prop:=Sm rs.length/\∀r∈rs,r.pat.sz<=100000/\r.tpl.sz<=100000
theorem Qdo {ls:List Fm} (h:FS ls) {r:Rul} (h1:r.pat.sz<=100000) (h2:r.tpl.sz<=100000):Tot (Cn r ls) fun b=>b=true↔Qb8 ls r:=by
 rw [Cn];refine ZN (Qjv h1 h) fun b hb=>?_;cases b
 ·simp only [Xa,Yf,X8,Qo,if_false];exact ⟨_,rfl,fun h=>(by cases h),fun h=>(by have:=hb.2 h.1;cases this)⟩
 have hp:=hb.1 rfl;simp only [Z7,Yf,X8]
 by_cases h3:r.pat.kind=3
 rotate_left
 ·simp only [h3,decide_false,Xa,Qo,if_false,Yf,X8];exact ⟨_,rfl,fun h=>(by cases h),fun h=>absurd h.2.1 h3⟩
 by_cases h4:(r.pat.kids.length:Int) > 0
 rotate_left
 ·simp only [h3,h4,decide_false,decide_true,Z7,Qo,if_false,Yf,X8];exact ⟨_,rfl,fun h=>(by cases h),fun h=>absurd h.2.2.1 (by omega)⟩
 simp only [h3,h4,decide_true,Z7,if_true];obtain ⟨b2,e2,hb2⟩:=Ao (f:=r.tpl) (by omega);rw [e2];simp only [Yf,X8];cases b2
 ·simp only [Qo,if_false,Yf,X8];exact ⟨_,rfl,fun h=>(by cases h),fun h=>(by have:=hb2.2 h.2.2.2.1;cases this)⟩
 have hn:=hp.1.2;obtain ⟨hh,hl⟩:=TO ls r.pat hn h1;simp only [if_true,Qhh ls h r.pat (by omega),Qqm r.tpl (by omega) hh (by omega),Yf,X8];refine ⟨_,rfl,fun h=>⟨hp,h3,by omega,hb2.1 rfl,h⟩,fun h=>h.2.2.2.2⟩
theorem Qhe {ls:List Fm} (h:FS ls) {rs:List Rul} (hr:RS rs):∀(n i:Nat),i+n=10->Tot (JQ rs ls i) fun o=>match o with
  | .inl r=>r=false/\∃x∈rs,¬Qb8 ls x
  | .inr _=>∀j,i<=j->j < 10->∀h:j < rs.length,Qb8 ls rs[j]:=by
 intro n
 induction n with
 | zero=>intro i hi;rw [JQ,Yf,X8,if_neg (by simp;omega)];exact ⟨_,rfl,fun j h1 h2=>by omega⟩
 | succ n ih =>
  intro i hi;rw [JQ,Yf,X8]
  by_cases hil:i < rs.length
  rotate_left
  ·rw [if_neg (by simp;omega)];exact ⟨_,rfl,fun j h1 h2 h3=>by omega⟩
  have hm:=ZU hil;rw [if_pos (by simp;omega),Yk rs i hil,X8];refine ZN (Qdo h (hr.2 _ hm).1 (hr.2 _ hm).2) fun b hb=>?_;cases b
  ·simp only [ZZ,if_true];exact ⟨_,rfl,rfl,_,hm,fun h=>by have:=hb.2 h;cases this⟩
  ·simp only [Z0,Qo,if_false,VV (i:=i) (by omega)];refine (ih (i+1) (by omega)).mono fun o ho=>?_
   cases o with
   | inl r=>exact ho
   | inr u =>
    exact fun j h5 h6 h7=>by
     by_cases hj:j=i
     ·subst hj;exact hb.1 rfl
     ·exact ho j (by omega) h6 h7
theorem Oy {ls:List Fm} (h:FS ls) {rs:List Rul} (hr:RS rs):Tot (AJ rs ls) fun b=>b=true↔Fp ls rs:=by
 rw [AJ];refine ZN (Qhe h hr 10 0 (by omega)) fun o ho=>?_
 cases o with
 | inl r =>
  obtain ⟨h0,x,hx,hn⟩:=ho;subst h0;exact ⟨_,rfl,fun h=>(by cases h),fun h=>absurd (h.2.1 x hx) hn⟩
 | inr u =>
  simp only
  by_cases hl:rs.length < 10
  ·rw [if_pos (by omega)];obtain ⟨b,e,hb⟩:=Lo h;rw [e];simp only [Yf,X8];refine ⟨_,rfl,?_⟩;simp only [hb];refine ⟨fun h=>⟨hl,fun r hr=>?_,h⟩,fun h=>h.2.2⟩;obtain ⟨j,hj,rfl⟩:=Z1.1 hr;exact ho j (Nat.zero_le _) (by omega) hj
  ·rw [if_neg (by omega)];exact ⟨false,rfl,fun h=>(by cases h),fun h=>absurd h.1 hl⟩
def Qas:ByteArray:=Qd #[114,117,108,101,115]
def G0 (f:Fm):List Fm × List Rul:=((f.kids.getD 1 default).kids,(f.kids.drop 2).map fun x=>⟨x.kids.getD 0 default,x.kids.getD 1 default⟩)
def Qb7 (f:Fm):Prop:=FV f/\f.kind=3/\2<=f.kids.length/\(f.kids.getD 0 default).name=Qas/\(f.kids.getD 1 default).kind=3/\(∀x∈f.kids.drop 2,x.kind=3/\x.kids.length=2)/\Fp (G0 f).1 (G0 f).2
theorem UY {f:Fm} (hf:f.sz<=100000):Tot (HQ f) fun r=>(Qb7 f/\r=((G0 f).1,(G0 f).2,true))∨(¬Qb7 f/\r.2.2=false):=by
 have hz:=Fm.G6 f;have bad:¬Qb7 f->Tot (some ([],[],false):Option (List Fm × List Rul × Bool)) fun r=>(Qb7 f/\r=((G0 f).1,(G0 f).2,true))∨(¬Qb7 f/\r.2.2=false):=fun h=>⟨_,rfl,.inr ⟨h,rfl⟩⟩;rw [HQ];refine ZN (Ao (by omega)) fun b hb=>?_;cases b
 ·simp only [ZZ,Bool.true_or,Yf,X8,if_true]
  exact bad fun h=>by have:=hb.2 h.1;cases this
 simp only [Z0,Z8,Yf,X8]
 by_cases h3:f.kind=3
 rotate_left
 ·simp only [h3,decide_false,ZZ,Bool.true_or,if_true,Yf,X8];exact bad fun h=>h3 h.2.1
 by_cases h4:(f.kids.length:Int) < 2
 ·simp only [h3,h4,decide_true,Z0,Z8,if_true,Yf,X8]
  exact bad fun h=>by have:=h.2.2.1;omega
 have l0:0 < f.kids.length:=by omega
 have l1:1 < f.kids.length:=by omega
 simp only [h3,h4,decide_true,decide_false,Z0,Z8,Qo,if_false,show idx f.kids 0=some f.kids[0] from Yk f.kids 0 l0,show idx f.kids 1=some f.kids[1] from Yk f.kids 1 l1,Yf,X8];have g0:f.kids.getD 0 default=f.kids[0]:=Jr l0;have g1:f.kids.getD 1 default=f.kids[1]:=Jr l1
 by_cases h5:f.kids[0].name=Qas
 rotate_left
 ·have h5':=h5;unfold Qas at h5';simp only [h5',decide_false,ZZ,if_true,Yf,X8];exact bad fun h=>h5 (by rw [← g0];exact h.2.2.2.1)
 have h5':=h5;unfold Qas at h5';simp only [h5',decide_true,Z0,Qo,if_false,Yf,X8]
 by_cases h6:f.kids[1].kind=3
 rotate_left
 ·simp only [h6,decide_false,ZZ,if_true];exact bad fun h=>h6 (by rw [← g1];exact h.2.2.2.2.1)
 simp only [h6,decide_true,Z0,Qo,if_false];have k1:=Fm.J7 (ZU l1);have hz1:=Fm.G6 f.kids[1]
 have lp0:∀(n i:Nat),i+n=f.kids[1].kids.length->∀z:List Fm,z.length+n<=200000->Ws f z i=some (z++f.kids[1].kids.drop i):=by
  intro n
  induction n with
  | zero =>
   intro i hi z _;rw [Ws,show idx f.kids 1=some f.kids[1] from Yk f.kids 1 l1,X8,if_neg (by omega),show i=f.kids[1].kids.length by omega,Xb];simp [Yf]
  | succ n ih =>
   intro i hi z hzl
   have hil:i < f.kids[1].kids.length:=by omega
   have:=Fm.J7 (ZU hil);rw [Ws,show idx f.kids 1=some f.kids[1] from Yk f.kids 1 l1,X8,if_pos (by omega),X8,Yk _ i hil,X8,DB _ (by omega),X8,Y6 (by simp;omega),X8,VV (i:=i) (by omega),ih (i+1) (by omega) _ (by simp;omega),QD,ZL hil];rfl
 have e0:=lp0 f.kids[1].kids.length 0 (by omega) [] (by simp;omega);rw [show ((0:Nat):Int)=0 from rfl] at e0;rw [e0,X8,QU,KT]
 have lp1:∀(n i:Nat),i+n=f.kids.length->∀z:List Rul,z.length+n<=200000->Tot (Wt f f.kids[1].kids z i) fun o=>((∀x∈f.kids.drop i,x.kind=3/\x.kids.length=2)/\o=.inr (z++(f.kids.drop i).map fun x=>⟨x.kids.getD 0 default,x.kids.getD 1 default⟩))∨(¬(∀x∈f.kids.drop i,x.kind=3/\x.kids.length=2)/\∃r,o=.inl r/\r.2.2=false):=by
  intro n
  induction n with
  | zero =>
   intro i hi z _;rw [Wt,if_neg (by omega),show i=f.kids.length by omega,Xb];exact ⟨_,rfl,.inl ⟨by simp,by simp⟩⟩
  | succ n ih =>
   intro i hi z hzl
   have hil:i < f.kids.length:=by omega
   have k2:=Fm.J7 (ZU hil);rw [Wt,if_pos (by omega),Yk _ i hil,ZL hil];simp only [X8]
   by_cases q1:f.kids[i].kind=3
   rotate_left
   ·rw [if_neg q1];simp only [Yf,X8,if_true];exact ⟨_,rfl,.inr ⟨fun h=>q1 (h _ (KF ..)).1,_,rfl,rfl⟩⟩
   rw [if_pos q1]
   by_cases q2:f.kids[i].kids.length=2
   rotate_left
   ·simp only [Yf,X8,decide_eq_false (show ¬(f.kids[i].kids.length:Int)=2 by omega),ZZ,if_true];exact ⟨_,rfl,.inr ⟨fun h=>q2 (h _ (KF ..)).2,_,rfl,rfl⟩⟩
   have j0:0 < f.kids[i].kids.length:=by omega
   have j1:1 < f.kids[i].kids.length:=by omega
   have m0:=Fm.J7 (ZU j0);have m1:=Fm.J7 (ZU j1);simp only [Yf,X8,decide_eq_true (show (f.kids[i].kids.length:Int)=2 by omega),Z0,Qo,if_false,show idx f.kids[i].kids 0=some f.kids[i].kids[0] from Yk _ 0 j0,show idx f.kids[i].kids 1=some f.kids[i].kids[1] from Yk _ 1 j1];rw [DB _ (by omega),DB _ (by omega)];simp only [X8];rw [Y6 (by simp;omega),X8,VV (i:=i) (by omega)];refine (ih (i+1) (by omega) _ (by simp;omega)).mono fun o ho=>?_
   rcases ho with ⟨r1,r2⟩ | ⟨r1,r2⟩
   ·refine .inl ⟨fun x hx=>?_,?_⟩
    ·rcases List.mem_cons.1 hx with rfl | hx
     ·exact ⟨q1,q2⟩
     ·exact r1 x hx
    ·rw [r2,List.map_cons,Jr j0,Jr j1,QD];rfl
   ·exact .inr ⟨fun h=>r1 fun x hx=>h x (Kh _ hx),r2⟩
 obtain ⟨o,ho,hop⟩:=lp1 (f.kids.length - 2) 2 (by omega) [] (by simp;omega);rw [show ((2:Nat):Int)=2 from rfl] at ho;rw [ho,X8]
 rcases hop with ⟨r1,r2⟩ | ⟨r1,r,r2,r3⟩
 ·subst r2;simp only [QU];have hls:FS f.kids[1].kids:=⟨by unfold Sm;omega,fun x hx=>by have:=Fm.J7 hx;omega⟩
  have hrs:RS ((f.kids.drop 2).map fun x=>(⟨x.kids.getD 0 default,x.kids.getD 1 default⟩:Rul)):=⟨by rw [Xe,List.length_drop];unfold Sm;omega,fun x hx=>by
   obtain ⟨y,hy,rfl⟩:=QZ.1 hx;have q:=(r1 y hy).2;have k2:=Fm.J7 (List.mem_of_mem_drop hy)
   have j0:0 < y.kids.length:=by omega
   have j1:1 < y.kids.length:=by omega
   have m0:=Fm.J7 (ZU j0);have m1:=Fm.J7 (ZU j1);simp only [Jr j0,Jr j1]
   omega⟩
  have er:G0 f=(f.kids[1].kids,(f.kids.drop 2).map fun x=>⟨x.kids.getD 0 default,x.kids.getD 1 default⟩):=by unfold G0;rw [g1]
  obtain ⟨b2,e2,hb2⟩:=Oy hls hrs;rw [e2,X8];cases b2
  ·simp only [ZZ,if_true];refine bad fun h=>?_;have:=h.2.2.2.2.2.2;rw [er] at this;have:=hb2.2 this;cases this
  ·simp only [Z0,Qo,if_false];refine ⟨_,rfl,.inl ⟨⟨hb.1 rfl,h3,by omega,by rw [g0];exact h5,by rw [g1];exact h6,r1,by rw [er];exact hb2.1 rfl⟩,by rw [er]⟩⟩
 ·subst r2;exact ⟨_,rfl,.inr ⟨fun h=>r1 h.2.2.2.2.2.1,r3⟩⟩
theorem Qlu:∀f:Fm,f.sz<=1000000->Wz f=some f:=by
 intro f
 induction f using Fm.ind with
 | h f ih =>
  intro hf;have hz:=Fm.G6 f
  rw [Wz,Y6 (by simp;omega),X8,Ie,Ds _ _ (by omega),BR (Wl f.kids) id (fun _ _=>rfl) f.kids [] 0 (fun x hx z i r hzb=>by
   have:=Fm.J7 hx
   rw [Wl,Yf,X8,ih x hx (by omega),X8,Y6 (by simp;omega),X8];rfl) (by simp;omega)]
  simp only [X8,Yf,QU,List.map_id,Fm.eta]
theorem UU (rs:List Rul) (hr:RS rs) (hl:rs.length<=1000000):GP rs=some rs:=by
 rw [GP,Dt _ _ (by omega),BR (Wm rs) id (fun _ _=>rfl) rs [] 0 (fun x hx z i r hzb=>by
  have:=hr.2 x hx
  rw [Wm,Yf,X8,IV,Qlu _ (by omega),X8,Qlu _ (by omega),X8,Yf,X8,Y6 (by simp;omega),X8];rfl) (by simp;omega)]
 simp only [X8,Yf,QU,List.map_id]
end Go.Proofs.SA
