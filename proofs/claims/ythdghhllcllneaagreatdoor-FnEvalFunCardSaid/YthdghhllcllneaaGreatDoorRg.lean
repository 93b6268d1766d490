/- The reference's patterns, templates, rules: what is valid. -/
import Derived.Test.YthdghhllcllneaaGreatDoorRa
import Derived.Test.YthdghhllcllneaaGreatDoorPb
set_option linter.unusedVariables false
set_option linter.unusedSimpArgs false
set_option maxRecDepth 100000
open Go Go.Proofs Go.Proofs.Shadow
open _root_.Bool renaming false_eq_true → Qq, not_true → ZS, not_false → ZR, true_and → Z0, false_or → Z1, false_and → Z3, or_eq_false_iff → Z8
open _root_.List renaming getElem_mem → ZJ, drop_eq_getElem_cons → Zw, mem_cons_self → KB, mem_cons_of_mem → Kf, length_append → QV, append_assoc → QD, eq_nil_of_length_eq_zero → Kz, drop_zero → ZZ, drop_of_length_le → Zx, getD_eq_getElem?_getD → Qz, getElem?_eq_getElem → Qf, nil_append → QS, length_cons → ZD, getElem_cons_succ → Z2, mem_append → QR, drop_length → Z4, filter_cons_of_neg → Z5, filter_cons_of_pos → Z6, length_map → ZH, drop_drop → Z7, range_eq_range' → Z9, mem_iff_getElem → ZT, any_cons → ZU, mem_singleton → ZF, any_eq_false → Xa, mem_map → QX
open Fm renaming nodes → ZK
open _root_.Option renaming map_eq_some_iff → Qx, map_some → Qu
open _root_.ByteArray renaming mk → Qk
open _root_.Nat renaming lt_or_ge → KA
open Tot renaming bind → Zz
open Go.IntKind (i64)
namespace Go.Proofs.Shadow
theorem Qgu {α:Type} (F:Nat->List α->Option (Int ⊕ Unit)) (p:α->Bool) (hn:∀i,F i []=some (.inr ())):∀(l:List α) (i:Nat),(∀x∈l,∀i r,F i (x :: r)=if p x=true then some (.inl (i:Int)) else F (i+1) r) ->
  (∃j,∃hj:j < l.length,F i l=some (.inl ((i+j:Nat):Int))/\l.find? p=some l[j])∨(F i l=some (.inr ())/\l.find? p=none):=by
 intro l
 induction l with
 | nil=>intro i _;exact .inr ⟨hn _,rfl⟩
 | cons x l ih =>
  intro i hc;rw [hc x (KB ..),List.find?_cons];cases hp:p x
  ·rw [if_neg (by simp)]
   rcases ih (i+1) (fun y hy=>hc y (Kf _ hy)) with ⟨j,hj,h1,h2⟩ | ⟨h1,h2⟩
   ·exact .inl ⟨j+1,by simp;omega,by rw [h1];congr 3;omega,by simpa using h2⟩
   ·exact .inr ⟨h1,h2⟩
  ·exact .inl ⟨0,by simp,by simp,by simp⟩
end Go.Proofs.Shadow
namespace Go.Proofs.SA
theorem Ss (f:Fm) (ls:List Fm) (h:FS ls):Ai f ls=some (TY ls f):=by
 rw [Ai,TY];unfold Fy SO
 by_cases h1:f.kind=1
 ·by_cases h2:f.name=Qk #[46,46,46]
  ·simp only [h1,decide_eq_true h2,Yd,X6];rfl
  ·by_cases h3:f.name=Qk #[95]
   ·simp only [h1,decide_eq_false h2,decide_eq_true h3,Yd,X6];rfl
   ·simp only [h1,decide_eq_false h2,decide_eq_false h3,Yd,X6,Qa6 ls f h];rfl
 ·simp only [h1,decide_false,Yd,X6];rfl
theorem Qd1 (ls:List Fm) (h:FS ls):∀(p:Fm) (z:List Fm),z.length+p.nodes<=1000000->JB z p ls=some (z++vrs ls p):=by
 intro p
 induction p using Fm.ind with
 | h p ih =>
  intro z hz;have hn:=Fm.YA p;have hl:=WW p.kids
  have loop:∀(r:List Fm),(∀g∈r,g∈p.kids)->∀(z:List Fm) (i:Nat),z.length+YV ZK r<=1000000->WT p ls z i r=some (z++Rs ls r):=by
   intro r
   induction r with
   | nil=>intro _ z i _;rw [WT,Yd];simp [Rs]
   | cons f r ihr =>
    intro hr z i hz;rw [YV] at hz;rw [WT,Yd,X6,ih f (hr f (KB ..)) z (by omega),X6];have:=CE ls f;rw [ihr (fun g hg=>hr g (Kf _ hg)) _ _ (by rw [QV];omega),Rs,QD]
  rw [JB,Ss p ls h,X6,OJ];cases TY ls p
  ·simp only [Qq,if_false,Yd,X6];rw [BP _ _ _ (by omega),loop _ (fun _ h=>h) _ _ (by omega)];simp [X6]
  ·simp only [if_true,Yd,X6];rw [Yy (by simp;omega)];simp only [X6];rw [BP _ _ _ (by omega),loop _ (fun _ h=>h) _ _ (by simp;omega)];simp [X6]
theorem UX (ls:List Fm) (h:FS ls) (p:Fm) (hp:p.nodes<=1000000):Ad [] p ls=some (vrs ls p):=by
 have hn:=Fm.YA p;have hl:=WW p.kids
 have loop:∀(r:List Fm) (z:List Fm) (i:Nat),z.length+YV ZK r<=1000000->GR p ls z i r=some (z++Rs ls r):=by
  intro r
  induction r with
  | nil=>intro z i _;rw [GR,Yd];simp [Rs]
  | cons f r ihr =>
   intro z i hz;rw [YV] at hz;rw [GR,Yd,X6,Qd1 ls h f z (by omega),X6];have:=CE ls f;rw [ihr _ _ (by rw [QV];omega),Rs,QD]
 rw [Ad,Ss p ls h,X6,OJ];cases TY ls p
 ·simp only [Qq,if_false,Yd,X6];rw [DB _ _ _ (by omega),loop _ _ _ (by simp;omega)];simp [X6]
 ·simp only [if_true,Yd,X6];rw [Yy (by simp)];simp only [X6];rw [DB _ _ _ (by omega),loop _ _ _ (by simp;omega)];simp [X6]
theorem R3 {ks:List Fm} {i:Nat} {f:Fm} {r:List Fm} (hd:ks.drop i=f :: r) (hl:ks.length<=1099511627776) :
  ((if (i64.wrap ((i:Int)+1)) < (ks.length:Int) then (idx ks (i64.wrap ((i:Int)+1))>>=fun x37=>(YW x37>>=fun x39=>pure x39)) else pure false:Option Bool))=some (Jn r):=by
 have hi:i < ks.length:=by
  rcases KA i ks.length with h | h
  ·exact h
  ·rw [Zx h] at hd;cases hd
 rw [Zw hi] at hd
 injection hd with e1 e2
 rw [Wn (i:=i) (by omega)]
 by_cases h:i+1 < ks.length
 ·rw [if_pos (by omega),Yf ks (i+1) h];rw [Zw h] at e2;rw [← e2];rfl
 ·rw [if_neg (by omega)];rw [Zx (by omega)] at e2;rw [← e2];rfl
theorem Ut (ls:List Fm) (d:Int) (f:Fm):(dps ls d f).length<=f.nodes:=by rw [← OI];exact CE ls f
theorem S0 (ls:List Fm) (h:FS ls):∀(p:Fm) (z:List Int) (d:Int),z.length+p.nodes<=1000000->0<=d->d+p.nodes<=1000000->Vw z p ls d=some (z++dps ls d p):=by
 intro p
 induction p using Fm.ind with
 | h p ih =>
  intro z d hz h0 h1;have hn:=Fm.YA p;have hl:=WW p.kids
  have loop:∀(r:List Fm),(∀g∈r,g∈p.kids)->∀(z:List Int) (i:Nat),p.kids.drop i=r->z.length+YV ZK r<=1000000->VD p ls d z i r=some (z++Us ls d r):=by
   intro r
   induction r with
   | nil=>intro _ z i _ _;rw [VD,Yd];simp [Us]
   | cons f r ihr =>
    intro hr z i hd hz
    have hd2:p.kids.drop (i+1)=r:=by rw [← Z7,hd];rfl
    rw [YV] at hz;have hm:=hr f (KB ..);have hk:=I1 hm;rw [VD,R3 hd (by omega),X6,Us]
    have key:∀d':Int,0<=d'->d'<=d+1->(Vw z f ls d'>>=fun x51=>VD p ls d x51 (i+1) r)=some (z++(dps ls d' f++Us ls d r)):=fun d' q0 q1=>by
     rw [ih f hm z d' (by omega) q0 (by omega),X6];have:=Ut ls d' f;rw [ihr (fun g hg=>hr g (Kf _ hg)) _ _ hd2 (by rw [QV];omega),QD]
    cases Jn r
    ·simp only [Qq,if_false,Yd,X6];exact key d h0 (by omega)
    ·simp only [if_true,Yd,X6,Yz (show -9223372036854775808<=d+1 by omega) (show d+1 < 9223372036854775808 by omega)];exact key (d+1) (by omega) (Int.le_refl _)
  rw [Vw,Ss p ls h,X6,Qai];cases TY ls p
  ·simp only [Qq,if_false,Yd,X6];rw [A9 _ _ _ _ (by omega),loop _ (fun _ h=>h) _ _ (ZZ ..) (by omega)];simp [X6]
  ·simp only [if_true,Yd,X6];rw [Yy (by simp;omega)];simp only [X6];rw [A9 _ _ _ _ (by omega),loop _ (fun _ h=>h) _ _ (ZZ ..) (by simp;omega)];simp [X6]
theorem NI (ls:List Fm) (h:FS ls) (p:Fm) (hp:p.nodes<=100000):H2 [] p ls 0=some (dps ls 0 p):=by
 have hn:=Fm.YA p;have hl:=WW p.kids
 have loop:∀(r:List Fm),(∀g∈r,g∈p.kids)->∀(z:List Int) (i:Nat),p.kids.drop i=r->z.length+YV ZK r<=1000000->Wx p ls 0 z i r=some (z++Us ls 0 r):=by
  intro r
  induction r with
  | nil=>intro _ z i _ _;rw [Wx,Yd];simp [Us]
  | cons f r ihr =>
   intro hr z i hd hz
   have hd2:p.kids.drop (i+1)=r:=by rw [← Z7,hd];rfl
   rw [YV] at hz;have hm:=hr f (KB ..);have hk:=I1 hm;rw [Wx,R3 hd (by omega),X6,Us]
   have key:∀d':Int,0<=d'->d'<=1->(Vw z f ls d'>>=fun x51=>Wx p ls 0 x51 (i+1) r)=some (z++(dps ls d' f++Us ls 0 r)):=fun d' q0 q1=>by
    rw [S0 ls h f z d' (by omega) q0 (by omega),X6];have:=Ut ls d' f;rw [ihr (fun g hg=>hr g (Kf _ hg)) _ _ hd2 (by rw [QV];omega),QD]
   cases Jn r
   ·simp only [Qq,if_false,Yd,X6];exact key 0 (by omega) (by omega)
   ·simp only [if_true,Yd,X6,show i64.wrap (0+1)=1 from rfl];exact key 1 (by omega) (by omega)
 rw [H2,Ss p ls h,X6,Qai];cases TY ls p
 ·simp only [Qq,if_false,Yd,X6];rw [Cg _ _ _ _ (by omega),loop _ (fun _ h=>h) _ _ (ZZ ..) (by simp;omega)];simp [X6]
 ·simp only [if_true,Yd,X6];rw [Yy (by simp)];simp only [X6];rw [Cg _ _ _ _ (by omega),loop _ (fun _ h=>h) _ _ (ZZ ..) (by simp;omega)];simp [X6]
def Qmg (ls:List Fm) (p:Fm):Prop:=FV p/\Qei ls/\Qhr p=true/\(vrs ls p).Nodup/\(∀d∈dps ls 0 p,d<=3)/\(vrs ls p).length<=20
theorem Qb0 (ls:List Fm):∀(l:List Fm),(∀f∈l,∀x∈vrs ls f,x.sz<=f.sz)->∀x∈Rs ls l,x.sz<=YV Fm.sz l
 | [],_,x,hx=>by cases hx
 | f :: l,h,x,hx=>by
  rw [Rs] at hx;rw [YV]
  rcases QR.1 hx with hx | hx
  ·have:=h f (KB ..) x hx;omega
  ·have:=Qb0 ls l (fun g hg=>h g (Kf _ hg)) x hx;omega
theorem U0 (ls:List Fm) (p:Fm):∀x∈vrs ls p,x.sz<=p.sz:=by
 induction p using Fm.ind with
 | h p ih =>
  intro x hx;rw [OJ] at hx
  rcases QR.1 hx with hx | hx
  ·split at hx
   ·rw [ZF.1 hx];exact Nat.le_refl _
   ·cases hx
  ·have:=Qb0 ls p.kids ih x hx;rw [Fm.GX p];omega
theorem Qjz {p:Fm} (hp:p.sz<=100000) {ls:List Fm} (h:FS ls):Tot (Ec p ls) fun b=>b=true↔Qmg ls p:=by
 rw [Ec];refine Zz (I9 (by omega)) fun b1 hb1=>?_;cases b1
 ·simp only [ZR,if_true,Yd,X6];exact ⟨_,rfl,fun h=>(by cases h),fun h=>(by have:=hb1.2 h.1;cases this)⟩
 simp only [ZS,Qq,if_false];have hfv:=hb1.1 rfl;have hnn:=hfv.2;obtain ⟨b2,e2,hb2⟩:=FX h;rw [e2];simp only [Yd,X6];cases b2
 ·simp only [ZR,if_true,Yd,X6];exact ⟨_,rfl,fun h=>(by cases h),fun h=>(by have:=hb2.2 h.2.1;cases this)⟩
 simp only [ZS,Qq,if_false,Qht p (by omega),Yd,X6];cases hs:Qhr p
 ·simp only [ZR,if_true];exact ⟨_,rfl,fun h=>(by cases h),fun h=>(by have h9:=h.2.2.1;rw [hs] at h9;cases h9)⟩
 simp only [ZS,Qq,if_false,UX ls h p (by omega),X6];have hvl:=CE ls p;rw [Pv _ _ _ (by omega)]
 have hvs:∀x∈vrs ls p,x.sz<=1000000:=fun x hx=>by have:=U0 ls p x hx;omega
 rcases Qfb (IM p ls (vrs ls p)) (vrs ls p) (fun i x=>decide (x∈(vrs ls p).take i)) false (fun _=>rfl) (fun i hi r=>by
  rw [IM,To _ i (by omega)];simp only [Yd,X6]
  rw [Qa6 _ _ ⟨by unfold Sm;rw [List.length_take];omega,fun f hf=>hvs f (List.mem_of_mem_take hf)⟩,X6]) with ⟨h7,i,hi,hp2⟩ | ⟨h7,hp2⟩
 ·rw [h7,X6];exact ⟨_,rfl,fun h=>(by cases h),fun h=>absurd (of_decide_eq_true hp2) (Et.1 h.2.2.2.1 i hi)⟩
 have hnd:(vrs ls p).Nodup:=Et.2 fun i hi=>of_decide_eq_false (hp2 i hi);rw [h7,X6]
 simp only
 have hdl:=Ut ls 0 p
 rw [NI ls h p (by omega),X6,Px _ _ _ (by omega),Da (IN p (vrs ls p) (dps ls 0 p)) (fun d=>decide (d > 3)) false (fun _=>rfl) _ _ (fun x hx i r=>by
  rw [IN,Yd,X6];by_cases hx3:x > 3<;>simp [hx3,Yd]),X6]
 cases ha:(dps ls 0 p).any fun d=>decide (d > 3)
 ·simp only [Qq,if_false,Yd]
  have hd3:∀d∈dps ls 0 p,d<=3:=fun d hd=>by
   have:=Xa.1 ha d hd;simpa using this
  refine ⟨_,rfl,?_⟩;simp only [decide_eq_true_iff];constructor
  ·intro hl;exact ⟨hfv,hb2.1 rfl,hs,hnd,hd3,by omega⟩
  ·intro h;have:=h.2.2.2.2.2;omega
 ·simp only [if_true];refine ⟨_,rfl,fun h=>(by cases h),fun h=>?_⟩;obtain ⟨d,hd,hd2⟩:=List.any_eq_true.1 ha;have:=h.2.2.2.2.1 d hd;have:=of_decide_eq_true hd2;omega
def HS (H:List Hit):Prop:=Sm H.length/\∀h∈H,h.name.sz<=1000000/\0<=h.depth+1/\h.depth<=1000000
theorem P2 {H:List Hit} (h:HS H) (f:Fm):(∃j,∃hj:j < H.length,Ac H f=some (j:Int)/\Qrg H f=some H[j])∨(Ac H f=some (-1)/\Qrg H f=none):=by
 have:=Qgu (HE H f) (fun x=>decide (x.name=f)) (fun _=>rfl) H 0 (fun x hx i r=>by
  rw [HE,Yd,X6,Eu _ (h.2 x hx).1,X6];by_cases hx2:x.name=f<;>simp [hx2,Yd])
 rw [Ac,MQ _ _ (by have:=h.1;omega)]
 rcases this with ⟨j,hj,h1,h2⟩ | ⟨h1,h2⟩
 ·exact .inl ⟨j,hj,by rw [h1,X6,Nat.zero_add];rfl,h2⟩
 ·exact .inr ⟨by rw [h1];rfl,h2⟩
theorem SZ {H:List Hit} (h:HS H) (f:Fm):Ak H f=some (Qed H f):=by
 rw [Ak,Qed]
 by_cases h1:f.kind=1
 ·rw [if_pos h1,if_pos h1]
  rcases P2 h f with ⟨j,hj,h2,h3⟩ | ⟨h2,h3⟩
  ·rw [h2,X6,if_neg (by omega),Yf _ _ hj,h3];rfl
  ·rw [h2,h3];rfl
 ·rw [if_neg h1,if_neg h1];rfl
theorem Tz (H:List Hit):∀l:List Fm,Qkm H l=l.any (Pl H)
 | []=>rfl
 | f :: l=>by rw [Qkm,Tz H l];rfl
theorem Qkl (H:List Hit) (f:Fm):Pl H f=(decide (0 < Qed H f)||f.kids.any (Pl H)):=by cases f;rw [Pl,Tz];rfl
theorem Qkk {H:List Hit} (h:HS H):∀f:Fm,f.sz<=1000000->H3 H f=some (Pl H f):=by
 intro f
 induction f using Fm.ind with
 | h f ih =>
  intro hf;have hz:=Fm.GX f;rw [H3,SZ h f,X6,Qkl]
  by_cases hd:Qed H f > 0
  ·rw [if_pos hd,decide_eq_true (show 0 < Qed H f from hd)];rfl
  ·rw [if_neg hd,decide_eq_false (show ¬0 < Qed H f from hd),Z1,M0 _ _ (by omega),Da (HH H f) (Pl H) true (fun _=>rfl) f.kids 0 (fun x hx i r=>by
    have:=Fm.G2 hx
    rw [HH,Yd,X6,ih x hx (by omega),X6];rfl),X6]
   cases f.kids.any (Pl H)<;>rfl
theorem Qj6 {H:List Hit} (h:HS H) (hl:H.length<=1000000):AU H=some (RY H):=by
 rw [AU,MY _ _ (by omega),G0 (HG H) (fun h=>.mk h.name (if 0 < h.depth then h.depth - 1 else h.depth) h.one []) (fun _ _=>rfl) H [] 0 (fun x hx z i r hz=>by
  have:=h.2 x hx;rw [HG,Yd,X6]
  by_cases hd:x.depth > 0
  ·rw [if_pos hd,if_pos (show 0 < x.depth from hd),Yz (by omega) (by omega)];simp only [Yd,X6];rw [Yy (by simp;omega)];rfl
  ·rw [if_neg hd,if_neg (show ¬0 < x.depth from hd)];simp only [Yd,X6]
   rw [Yy (by simp;omega)];rfl) (by simp;omega)]
 simp [X6,Yd,RY]
theorem HS.less {H:List Hit} (h:HS H):HS (RY H):=⟨by unfold RY;rw [ZH];exact h.1,fun x hx=>by
 unfold RY at hx;obtain ⟨y,hy,rfl⟩:=QX.1 hx;have:=h.2 y hy;refine ⟨this.1,?_⟩;show 0<=(if 0 < y.depth then y.depth - 1 else y.depth)+1/\(if 0 < y.depth then y.depth - 1 else y.depth)<=1000000
 split<;>omega⟩
theorem Qo8 (t:Fm) (H:List Hit):Qmc t H=(!(Y4 t||decide (0 < Qed H t))&&Qk2 true t.kids H):=by cases t;rw [Qmc];rfl
theorem Qrn:∀t:Fm,t.sz<=1000000->∀{H:List Hit},HS H->H.length<=1000000->I6 t H=some (Qmc t H):=by
 intro t
 induction t using Fm.ind with
 | h t ih =>
  intro ht H h hH;have hz:=Fm.GX t
  have loop:∀(r:List Fm) (i:Nat) (b:Bool),t.kids.drop i=r->(b=true↔i=0∨∃h:i - 1 < t.kids.length,0 < i/\Y4 t.kids[i - 1]=true) ->
    Hg t H i r=some (if Qk2 b r H=true then .inr () else .inl false):=by
   intro r
   induction r with
   | nil=>intro i b _ _;rw [Qk2];rfl
   | cons f r ihr =>
    intro i b hd hb;have hd0:=hd
    have hi:i < t.kids.length:=by
     rcases KA i t.kids.length with h | h
     ·exact h
     ·rw [Zx h] at hd;cases hd
    rw [Zw hi] at hd
    injection hd with e1 e2
    have hm:f∈t.kids:=e1▸ZJ hi;have hk:=Fm.G2 hm
    have hb2:∀b',b'=Y4 f->(b'=true↔i+1=0∨∃h:i+1 - 1 < t.kids.length,0 < i+1/\Y4 t.kids[i+1 - 1]=true):=by
     rintro b' rfl;simp only [Nat.add_sub_cancel];constructor
     ·intro h;exact .inr ⟨hi,by omega,by rw [e1];exact h⟩
     ·rintro (h | ⟨_,_,h⟩)
      ·omega
      ·rw [e1] at h;exact h
    rw [Hg,Qk2,Yd,X6,Cp,X6];cases hf:Y4 f
    ·simp only [Qq,if_false];rw [R3 hd0 (by omega),X6];cases hn:Jn r
     ·simp only [Qq,if_false,Yd,X6,ih f hm (by omega) h hH];cases hs:Qmc f H
      ·simp
      ·simp only [ZS,Qq,if_false,Z0];exact ihr (i+1) false e2 (hb2 false hf.symm)
     ·simp only [if_true,Yd,X6,Qkk h f (by omega)];cases hr:Pl H f
      ·simp [Yd,X6]
      ·simp only [ZS,Qq,if_false,Yd,X6,Qj6 h hH,ih f hm (by omega) h.less (show (RY H).length<=1000000 by unfold RY;rw [ZH];exact hH)];cases hs:Qmc f (RY H)
       ·simp
       ·simp only [ZS,Qq,if_false,Z0];exact ihr (i+1) false e2 (hb2 false hf.symm)
    ·simp only [if_true]
     by_cases hi0:i=0
     ·subst hi0;have:b=true:=hb.2 (.inl rfl);subst this;simp [Yd,X6]
     ·rw [if_neg (by omega),show i64.wrap ((i:Int) - 1)=((i - 1:Nat):Int) by rw [Yz (by omega) (by omega)];omega,Yf _ _ (by omega)];simp only [X6,Cp,Yd];cases hpd:Y4 t.kids[i - 1]
      ·have:b=false:=by
        cases b with
        | false=>rfl
        | true =>
         rcases hb.1 rfl with h | ⟨_,_,h⟩
         ·exact absurd h hi0
         ·rw [h] at hpd;cases hpd
       subst this;simp only [Qq,if_false,ZR,Z0];exact ihr (i+1) true e2 (hb2 true hf.symm)
      ·have:b=true:=hb.2 (.inr ⟨by omega,by omega,hpd⟩);subst this
       simp
  rw [I6,Qo8,Cp,X6];cases hd:Y4 t
  ·simp only [Qq,if_false,SZ h t,X6,Yd,Z1]
   by_cases h0:Qed H t > 0
   ·rw [decide_eq_true (show 0 < Qed H t from h0)];simp
   ·rw [decide_eq_false (show ¬0 < Qed H t from h0)];simp only [gt_iff_lt,h0,decide_false,Qq,if_false,ZR,Z0];rw [Pz _ _ (by omega),loop t.kids 0 true (ZZ ..) ⟨fun _=>.inl rfl,fun _=>rfl⟩,X6];cases Qk2 true t.kids H<;>rfl
  ·simp [Yd,X6]
end Go.Proofs.SA
namespace Go.Proofs.Shadow
theorem Qft {α β:Type} (F:List β->Nat->List α->Option (List β)) (a:List α) (g:Nat->β) (hn:∀z i,F z i []=some z) (hc:∀(z:List β) (i:Nat) (hi:i < a.length) r,z.length<=1073741824->F z i (a[i] :: r)=F (z++[g i]) (i+1) r) :
  ∀(n i:Nat) (z:List β),i+n=a.length->z.length+n<=1073741824->F z i (a.drop i)=some (z++(List.range' i n).map g):=by
 intro n
 induction n with
 | zero=>intro i z hi _;rw [show i=a.length by omega,Z4,hn];simp
 | succ n ih =>
  intro i z hi hz
  have hil:i < a.length:=by omega
  rw [Zw hil,hc z i hil _ (by omega),ih (i+1) _ (by omega) (by simp;omega),List.range'_succ,List.map_cons,QD];rfl
theorem PV {α:Type} {p:α->Bool} : ∀{l:List α},(l.filter p).length<=1->∀{i j:Nat} (hi:i < l.length) (hj:j < l.length),p l[i]=true->p l[j]=true->i=j:=by
 intro l
 induction l with
 | nil=>intro _ i j hi;simp at hi
 | cons x l ih =>
  intro h i j hi hj hpi hpj
  have Fb:(l.filter p).length=0->∀k,∀hk:k < l.length,p l[k]=false:=fun h0 k hk=>by
   cases hp:p l[k]
   ·rfl
   ·have:l[k]∈l.filter p:=List.mem_filter.2 ⟨ZJ hk,hp⟩;have:=List.length_pos_of_mem this;omega
  cases hx:p x
  ·rw [Z5 (by simp [hx])] at h
   cases i with
   | zero=>simp [hx] at hpi
   | succ i =>
    cases j with
    | zero=>simp [hx] at hpj
    | succ j =>
     simp only [Z2] at hpi hpj;have:=ih h (by simpa using hi) (by simpa using hj) hpi hpj;omega
  ·rw [Z6 hx] at h;have h0:=Fb (by simp at h;simpa using h)
   cases i with
   | zero =>
    cases j with
    | zero=>rfl
    | succ j =>
     have h1:=h0 j (by simpa using hj);simp only [Z2] at hpj;rw [h1] at hpj;cases hpj
   | succ i =>
    have h1:=h0 i (by simpa using hi);simp only [Z2] at hpi;rw [h1] at hpi;cases hpi
theorem Rz {α β:Type} {g:α->Option β} : ∀{l:List α} {r:List β},Ml g l=some r->r.length=l.length
 | [],r,h=>by rw [Ml] at h;injection h with h;subst h;rfl
 | x :: l,r,h=>by
  rw [Ml] at h
  cases hx:g x with
  | none=>rw [hx] at h;cases h
  | some y =>
   rw [hx] at h;simp only at h
   cases hl:Ml g l with
   | none=>rw [hl] at h;cases h
   | some r'=>rw [hl] at h;injection h with h;subst h;simp [Rz hl]
theorem RA {α β:Type} {g:α->Option β} : ∀{l:List α} {r:List β},Ml g l=some r->∀y∈r,∃x∈l,g x=some y
 | [],r,h,y,hy=>by rw [Ml] at h;injection h with h;subst h;cases hy
 | x :: l,r,h,y,hy=>by
  rw [Ml] at h
  cases hx:g x with
  | none=>rw [hx] at h;cases h
  | some y' =>
   rw [hx] at h;simp only at h
   cases hl:Ml g l with
   | none=>rw [hl] at h;cases h
   | some r' =>
    rw [hl] at h;injection h with h;subst h
    rcases List.mem_cons.1 hy with rfl | hy
    ·exact ⟨x,KB ..,hx⟩
    ·obtain ⟨z,hz,h2⟩:=RA hl y hy;exact ⟨z,Kf _ hz,h2⟩
def N1 (n:Nat):List Fm->Nat
 | []=>0
 | p :: ps=>if Y4 p=true then N1 n ps else if Jn ps=true then n+N1 n ps else 1+N1 n ps
theorem LH (n:Nat):∀l:List Fm,l.any Y4=false->N1 n l=l.length
 | [],_=>rfl
 | p :: ps,h=>by
  rw [ZU,Z8] at h
  have h2:Jn ps=false:=by
   cases ps with
   | nil=>rfl
   | cons q qs=>have:=h.2;rw [ZU,Z8] at this;exact this.1
  rw [N1,if_neg (by simp [h.1]),if_neg (by simp [h2]),LH n ps h.2,ZD];omega
theorem Tq (n:Nat):∀l:List Fm,(l.filter Y4).length<=1->Jn l=false->l.any Y4=true->N1 n l+2=l.length+n
 | [],_,_,h=>by cases h
 | p :: ps,h1,h2,h3=>by
  have hp:Y4 p=false:=h2;rw [Z5 (by simp [hp])] at h1;rw [ZU,hp,Z1] at h3;rw [N1,if_neg (by simp [hp])];cases hd:Jn ps
  ·rw [if_neg (by simp)];have:=Tq n ps h1 hd h3;rw [ZD];omega
  ·rw [if_pos rfl]
   cases ps with
   | nil=>cases hd
   | cons q qs =>
    have hq:Y4 q=true:=hd;rw [Z6 hq,ZD] at h1;have hz:qs.filter Y4=[]:=Kz (by omega)
    have ha:qs.any Y4=false:=by
     rw [Xa];intro x hx hxd;have:x∈qs.filter Y4:=List.mem_filter.2 ⟨hx,hxd⟩;rw [hz] at this;cases this
    rw [N1,if_pos hq,LH n qs ha,ZD,ZD];omega
end Go.Proofs.Shadow
namespace Go.Proofs.SA
theorem Qf7 (ls:List Fm):∀(l:List Fm) (d:Int),(∀f∈l,∀d,∀x∈dps ls d f,d<=x/\x<=d+f.nodes)->∀x∈Us ls d l,d<=x/\x<=d+1+YV ZK l
 | [],d,_,x,hx=>by cases hx
 | f :: l,d,h,x,hx=>by
  rw [Us] at hx;rw [YV]
  rcases QR.1 hx with hx | hx
  ·have:=h f (KB ..) _ x hx;split at this<;>omega
  ·have:=Qf7 ls l d (fun g hg=>h g (Kf _ hg)) x hx;omega
theorem Qf8 (ls:List Fm) (p:Fm):∀d,∀x∈dps ls d p,d<=x/\x<=d+p.nodes:=by
 induction p using Fm.ind with
 | h p ih =>
  intro d x hx;rw [Qai] at hx;have hn:=Fm.YA p
  rcases QR.1 hx with hx | hx
  ·split at hx
   ·rw [ZF.1 hx];omega
   ·cases hx
  ·have:=Qf7 ls p.kids d ih x hx;omega
theorem Qoq (ls:List Fm) (h:FS ls) (p:Fm) (hp:p.nodes<=100000) (rows:List (List Hit)) (hr:∀r∈rows,r.length=(vrs ls p).length) (hrl:rows.length<=1000000):By p ls rows=some (Ql9 ls p rows):=by
 have hvl:=CE ls p;have hdl:=OI ls p 0;rw [By,UX ls h p (by omega),X6,NI ls h p hp,X6,Oh _ _ _ _ _ (by omega)]
 have:=Qft (Ip p rows (vrs ls p) (dps ls 0 p)) (vrs ls p) (fun i=>.mk ((vrs ls p).getD i default) ((dps ls 0 p).getD i 0+1) Fm.zero (rows.map fun r=>r.getD i default)) (fun _ _=>rfl) (fun z i hi r hz=>by
  have hid:i < (dps ls 0 p).length:=by omega
  have hge:=Qf8 ls p 0 _ (ZJ hid)
  rw [Ip,Yd,X6,Yf _ i hid,X6,Oi _ _ _ _ _ _ _ _ _ (by omega),
   G0 (Iq p rows (vrs ls p) (dps ls 0 p) z (i:Int) (vrs ls p)[i] (dps ls 0 p)[i]) (fun r=>r.getD i default) (fun _ _=>rfl) rows [] 0 (fun x hx z2 k r2 hz2=>by
    have hxl:=hr x hx
    rw [Iq,Yd,X6,Yf x i (by omega),X6,Yy (by simp;omega),X6,Qz,Qf (by omega)];rfl) (by simp;omega),X6,
   Yy (by simp;omega),X6,Yz (by omega) (by omega),Qz,Qf hi,Qz,Qf hid];rfl) (vrs ls p).length 0 [] (by omega) (by simp;omega)
 rw [ZZ] at this;rw [this,X6,Yd,Ql9,Z9];rfl
theorem R7 (ls:List Fm) (p:Fm) (rows:List (List Hit)):(Ql9 ls p rows).length=(vrs ls p).length:=by simp [Ql9]
theorem Qbl (B:List Bnd) (ls:List Fm):∀(d:Nat) (p:Fm),FIs d p->Y4 p=false->∀(f:Fm) (hs:List Hit),pm B ls p f=some hs->hs.length=(vrs ls p).length:=by
 intro d
 induction d with
 | zero=>intro p h;exact h.elim
 | succ d ih =>
  intro p h hdt f hs e
  have hL:∀(ps:List Fm),(∀q∈ps,FIs d q)->∀(fs:List Fm) (n:Nat) (hs:List Hit),pmL B ls ps fs n=some hs->hs.length=(Rs ls ps).length:=by
   intro ps
   induction ps with
   | nil=>intro _ fs n hs e;rw [UM] at e;injection e with e;subst e;rfl
   | cons q ps ihp =>
    intro hq fs n hs e;have hq':=fun x hx=>hq x (Kf q hx);rw [R5] at e;rw [Rs,QV]
    by_cases hd:Y4 q=true
    ·rw [if_pos hd] at e;rw [ihp hq' fs n hs e,OJ]
     have hk:q.kind=1/\q.name=Fy:=by unfold Y4 at hd;simpa using hd
     have:q.kids=[]:=by
      have:=hq q (KB ..)
      cases d with
      | zero=>exact this.elim
      | succ d =>
       rcases this with h | h | h
       ·exact Kz h.2.2.2.2
       ·omega
       ·omega
     rw [this,Rs,if_neg (by simp [TY,hk.2])];simp
    ·rw [if_neg hd] at e
     have hd':Y4 q=false:=by simpa using hd
     by_cases hh:Jn ps=true
     ·rw [if_pos hh] at e;split at e
      ·cases e
      ·rename_i rows hrows;obtain ⟨hs2,h2,h3⟩:=Qx.1 e;subst h3;rw [QV,R7,ihp hq' _ _ _ h2]
     ·rw [if_neg hh] at e;split at e
      ·cases e
      ·rename_i fs' f';split at e
       ·cases e
       ·rename_i hs1 h1;obtain ⟨hs2,h2,h3⟩:=Qx.1 e;subst h3;rw [QV,ih q (hq q (KB ..)) hd' _ _ h1,ihp hq' _ _ _ h2]
  rw [Qop] at e;rw [OJ]
  rcases h with h | h | h
  ·have hk:p.kids=[]:=Kz h.2.2.2.2;rw [if_pos h.1] at e;rw [hk,Rs,List.append_nil]
   by_cases h1:p.name=SO
   ·rw [if_pos h1] at e
    injection e with e;subst e
    rw [if_neg (by simp [TY,h1])];rfl
   ·rw [if_neg h1] at e
    by_cases h2:p∈ls
    ·rw [if_pos h2] at e;split at e
     ·injection e with e;subst e
      rw [if_neg (by simp [TY,h2])];rfl
     ·cases e
    ·rw [if_neg h2] at e
     injection e with e;subst e
     have hn:p.name≠Fy:=fun hn=>by unfold Y4 at hdt;simp [h.1,hn] at hdt
     rw [if_pos (by simp [TY,h.1,h1,h2,hn])];rfl
  ·have hk:p.kids=[]:=Kz h.2.2.2.2.2;rw [if_neg (by omega),if_pos h.1] at e;rw [hk,Rs,if_neg (by simp [TY,h.1])];split at e
   ·injection e with e;subst e;rfl
   ·cases e
  ·rw [if_neg (by omega),if_neg (by omega)] at e;rw [if_neg (by simp [TY,h.1]),QS];split at e
   ·split at e
    ·split at e
     ·cases e
     ·exact hL _ h.2.2.2.2 _ _ _ e
    ·split at e
     ·exact hL _ h.2.2.2.2 _ _ _ e
     ·cases e
   ·cases e
def MR (o:Option (List Hit)) (r:List Hit × Bool):Prop:=match o with | some hs=>r=(hs,true) | none=>r.2=false
theorem P3 {B:List Bnd} (hB:BS B) {ls:List Fm} (hls:FS ls):∀(d:Nat) (p:Fm),FIs d p->p.sz<=100000->p.nodes<=400->Qhr p=true->∀f:Fm,f.sz<=100000->Tot (Wy B p ls f) (MR (pm B ls p f)):=by
 intro d
 induction d with
 | zero=>intro p h;exact h.elim
 | succ d ih =>
  intro p h hpz hpn hsh f hfz;have hzp:=Fm.GX p;have hzf:=Fm.GX f
  have hpd:Y4 p=false:=by
   cases hd:Y4 p
   ·rfl
   ·rw [Sh,if_pos hd] at hsh;cases hsh
  rw [Wy,Qop]
  rcases h with h | h | h
  ·rw [if_pos h.1,if_pos h.1]
   by_cases h1:p.name=SO
   ·have h1':=h1;unfold SO at h1';rw [if_pos h1',if_pos h1];exact ⟨_,rfl,rfl⟩
   have h1':=h1;unfold SO at h1';rw [if_neg h1',if_neg h1,Qa6 ls p hls,X6]
   by_cases h2:p∈ls
   ·rw [decide_eq_true h2,if_pos rfl,if_pos h2]
    by_cases h3:f.kind=1
    ·rw [if_pos h3,Qkp B p f hB (by unfold Sm;omega) (by unfold Sm;omega)];simp only [X6,Yd];cases hr:N7 B p f
     ·exact ⟨_,rfl,by simp [MR]⟩
     ·exact ⟨_,rfl,by simp [MR,h3]⟩
    ·rw [if_neg h3];exact ⟨_,rfl,by simp [MR,h3]⟩
   ·rw [decide_eq_false h2,if_neg (by simp),if_neg h2,Yy (by simp),X6];exact ⟨_,rfl,rfl⟩
  ·have n1:¬p.kind=1:=by omega
   simp only [n1,h.1,if_false,if_true];rw [Eu p (by omega),X6]
   by_cases h2:p=f
   ·rw [decide_eq_true h2,if_pos h2]
    exact ⟨_,rfl,by
     have hk:p.kids=[]:=Kz h.2.2.2.2.2
     simp [MR]⟩
   ·rw [decide_eq_false h2,if_neg h2];exact ⟨_,rfl,rfl⟩
  have n1:¬p.kind=1:=by omega
  have n2:¬p.kind=2:=by omega
  simp only [n1,n2,if_false]
  by_cases hf3:f.kind=3
  rotate_left
  ·rw [if_neg hf3,if_neg hf3];exact ⟨_,rfl,rfl⟩
  rw [if_pos hf3,if_pos hf3];have hps:=h.2.2.2.2;rw [Sh,hpd] at hsh;simp only [Qq,if_false] at hsh;have hc1:=N8 _ _ _ hsh;have hh:=Qhu hsh;have hmem:=Si _ _ _ hsh;generalize hps':p.kids=ps at *;generalize hfs':f.kids=fs at *
  have hfsz:∀x∈fs,x.sz<=100000:=fun x hx=>by have:=It Fm.sz fs x hx;omega
  have hpsz:∀x∈ps,x.sz<=100000:=fun x hx=>by have:=It Fm.sz ps x hx;omega
  have hnp:=Fm.YA p;rw [hps'] at hnp
  have hpsn:∀x∈ps,x.nodes<=400:=fun x hx=>by have:=It ZK ps x hx;omega
  have row:∀(n i:Nat) (r:Int),i+n+1=ps.length+1->i<=ps.length->(∀j,j < i->∀hj:j+1 < ps.length,Y4 ps[j+1]=true->r=j)->(r=-1∨∃j:Nat,r=j/\∃hj:j+1 < ps.length,Y4 ps[j+1]=true) ->
    Tot (Jy B ps ls fs r i) fun r=>(∀j:Nat,∀hj:j+1 < ps.length,Y4 ps[j+1]=true->r=j)/\(r=-1∨∃j:Nat,r=j/\∃hj:j+1 < ps.length,Y4 ps[j+1]=true):=by
   intro n
   induction n with
   | zero =>
    intro i r hi hil h1 h2;rw [Jy,Wn (i:=i) (by omega),if_neg (by omega)];exact ⟨_,rfl,fun j hj hd=>h1 j (by omega) hj hd,h2⟩
   | succ n ihn =>
    intro i r hi hil h1 h2;rw [Jy,Wn (i:=i) (by omega)]
    by_cases hlt:i+1 < ps.length
    ·rw [if_pos (by omega),Yf ps (i+1) hlt,X6,Cp,X6];cases hd:Y4 ps[i+1]
     ·simp only [Qq,if_false];refine ihn (i+1) r (by omega) (by omega) (fun j hj hj2 hd2=>?_) h2
      by_cases hji:j=i
      ·subst hji;rw [hd] at hd2;cases hd2
      ·exact h1 j (by omega) hj2 hd2
     ·simp only [if_true];refine ihn (i+1) i (by omega) (by omega) (fun j hj hj2 hd2=>?_) (.inr ⟨i,rfl,hlt,hd⟩);have:=PV (p:=Y4) (by omega) hj2 hlt hd2 hd;omega
    ·rw [if_neg (by omega)];exact ⟨_,rfl,fun j hj hd=>h1 j (by omega) hj hd,h2⟩
  rw [Dp];obtain ⟨w,hw,hw1,hw2⟩:=row ps.length 0 (-1) (by omega) (by omega) (fun j hj=>by omega) (.inl rfl);rw [show ((0:Nat):Int)=0 from rfl] at hw;rw [hw,X6]
  have hany:ps.any Y4=true↔w≠-1:=by
   rw [List.any_eq_true];constructor
   ·rintro ⟨x,hx,hd⟩;obtain ⟨j,hj,rfl⟩:=ZT.1 hx
    cases j with
    | zero =>
     cases ps with
     | nil=>simp at hj
     | cons q qs=>rw [show Jn (q :: qs)=Y4 q from rfl] at hh;simp only [List.getElem_cons_zero] at hd;rw [hd] at hh;cases hh
    | succ j=>have:=hw1 j hj hd;omega
   ·intro hne
    rcases hw2 with h | ⟨j,_,hj,hd⟩
    ·exact absurd h hne
    ·exact ⟨_,ZJ hj,hd⟩
  have hrow:∀i:Nat,∀hi:i < ps.length,Y4 ps[i]=false->((i:Int)=w↔Jn (ps.drop (i+1))=true):=fun i hi hnd=>by
   by_cases hlt:i+1 < ps.length
   ·rw [Zw hlt];show _↔Y4 ps[i+1]=true;constructor
    ·intro hiw
     rcases hw2 with h | ⟨j,h2,hj,hd⟩
     ·omega
     ·have:j=i:=by omega
      subst this;exact hd
    ·intro hd;exact (hw1 i hlt hd).symm
   ·rw [Zx (by omega)];constructor
    ·intro hiw
     rcases hw2 with h | ⟨j,h2,hj,hd⟩
     ·omega
     ·omega
    ·intro hd;cases hd
  have main:∀(n:Nat),(w≠-1->i64.wrap ((fs.length:Int) - (i64.wrap ((ps.length:Int) - 2)))=(n:Int))->n<=fs.length->∀(r:List Fm) (i at_:Nat) (z:List Hit),ps.drop i=r->at_+N1 n r=fs.length->z.length+YV ZK r<=1000000 ->
    Tot (WR B ps ls fs w z (at_:Int) i r) fun o=>match pmL B ls r (fs.drop at_) n with | some hs=>o=.inr (z++hs) | none=>∃z',o=.inl (z',false):=by
   intro n hn hnf r
   induction r with
   | nil=>intro i at_ z _ _ _;rw [WR,UM];exact ⟨_,rfl,by simp⟩
   | cons q r ihr =>
    intro i at_ z hd hneed hz;have hd0:=hd
    have hi:i < ps.length:=by
     rcases KA i ps.length with h | h
     ·exact h
     ·rw [Zx h] at hd;cases hd
    rw [Zw hi] at hd
    injection hd with e1 e2
    have hm:q∈ps:=e1▸ZJ hi;rw [WR,Yd,X6,Cp,X6,R5];rw [N1] at hneed;rw [YV] at hz;have hqn:=A7 q;cases hq:Y4 q;rotate_left
    ·rw [hq,if_pos rfl] at hneed;simp only [if_true];exact ihr (i+1) at_ z e2 hneed (by omega)
    rw [hq,if_neg (by simp)] at hneed;simp only [Qq,if_false];have hq':Qhr q=true:=(hmem q hm).resolve_left (by simp [hq]);have hqz:=hpsz q hm;have hqnn:=hpsn q hm;have hrw:=hrow i hi (by rw [e1];exact hq);rw [e2] at hrw
    by_cases hhd:Jn r=true
    ·rw [if_pos hhd] at hneed ⊢;rw [if_pos (hrw.2 hhd)]
     have hwn:w≠-1:=by have:=hrw.2 hhd;omega
     rw [hn hwn]
     have l2:∀(m:Nat) (acc:List (List Hit)) (k:Nat),k+m=at_+n->acc.length+m<=100000->Tot (Gm B ps ls fs w z (i:Int) acc (k:Int) (m:Int)) fun o=>match Ml (pm B ls q) ((fs.drop k).take m) with | some rows=>o=.inr (acc++rows,((at_+n:Nat):Int)) | none=>∃z',o=.inl (z',false):=by
      intro m
      induction m with
      | zero =>
       intro acc k hk _;rw [Gm,if_neg (by omega),List.take_zero,Ml];exact ⟨_,rfl,by simp;omega⟩
      | succ m ihm =>
       intro acc k hk hacc
       have hkl:k < fs.length:=by omega
       rw [Gm,if_pos (by omega),Yf ps i hi,X6,Yf fs k hkl,X6,e1,Zw hkl,List.take_succ_cons,Ml];have:=ih q (hps q hm) hqz hqnn hq' fs[k] (hfsz _ (ZJ hkl));obtain ⟨rr,hrr,hmr⟩:=this;rw [hrr,X6]
       cases hpm:pm B ls q fs[k] with
       | none =>
        rw [hpm] at hmr;have:rr.2=false:=hmr;rw [this];simp only [ZR,if_true];exact ⟨_,rfl,_,rfl⟩
       | some hs =>
        rw [hpm] at hmr;have:rr=(hs,true):=hmr;subst this;simp only [ZS,Qq,if_false];rw [Yy (by simp;omega),X6,Wn (i:=k) (by omega),show i64.wrap (((m+1:Nat):Int) - 1)=(m:Int) by rw [Yz (by omega) (by omega)];omega];obtain ⟨o,ho,hop⟩:=ihm (acc++[hs]) (k+1) (by omega) (by simp;omega);refine ⟨o,ho,?_⟩
        cases hall:Ml (pm B ls q) ((fs.drop (k+1)).take m) with
        | none=>rw [hall] at hop;exact hop
        | some rows=>rw [hall] at hop;simp only [Qu];rw [hop];simp
     obtain ⟨o,ho,hop⟩:=l2 n [] at_ rfl (by have:=hfz;have:=WW fs;simp;omega);rw [ho,X6]
     cases hall:Ml (pm B ls q) ((fs.drop at_).take n) with
     | none =>
      rw [hall] at hop;obtain ⟨z',rfl⟩:=hop;exact ⟨_,rfl,_,rfl⟩
     | some rows =>
      rw [hall] at hop;simp only at hop;subst hop;simp only [QS];have hrl:=Rz hall
      rw [X6,Qoq ls hls q (by omega) rows (fun r hr=>by
       obtain ⟨x,hx,h2⟩:=RA hall r hr
       exact Qbl B ls d q (hps q hm) hq x r h2) (by rw [hrl,List.length_take];omega),X6]
      have hvl:=CE ls q;rw [Yy (by rw [R7];omega),X6];obtain ⟨o,ho,hop⟩:=ihr (i+1) (at_+n) (z++Ql9 ls q rows) e2 (by omega) (by rw [QV,R7];omega);refine ⟨o,ho,?_⟩;rw [Z7]
      cases hpl:pmL B ls r (fs.drop (at_+n)) n with
      | none=>rw [hpl] at hop;exact hop
      | some hs=>rw [hpl] at hop;simp only [Qu];rw [hop,QD]
    ·rw [if_neg hhd] at hneed ⊢;rw [if_neg (fun h=>hhd (hrw.1 h))]
     have hal:at_ < fs.length:=by omega
     rw [Zw hal];simp only [Yd,X6,Yf fs at_ hal];obtain ⟨rr,hrr,hmr⟩:=ih q (hps q hm) hqz hqnn hq' fs[at_] (hfsz _ (ZJ hal));rw [hrr,X6]
     cases hpm:pm B ls q fs[at_] with
     | none =>
      rw [hpm] at hmr;have:rr.2=false:=hmr;rw [this];simp only [ZR,if_true];exact ⟨_,rfl,_,rfl⟩
     | some hs =>
      rw [hpm] at hmr;have:rr=(hs,true):=hmr;subst this;simp only [ZS,Qq,if_false];have hl:=Qbl B ls d q (hps q hm) hq _ _ hpm;have hvl:=CE ls q;rw [Yy (by omega),X6,Wn (i:=at_) (by omega)];obtain ⟨o,ho,hop⟩:=ihr (i+1) (at_+1) (z++hs) e2 (by omega) (by rw [QV];omega);refine ⟨o,ho,?_⟩
      cases hpl:pmL B ls r (fs.drop (at_+1)) n with
      | none=>rw [hpl] at hop;exact hop
      | some hs2=>rw [hpl] at hop;simp only [Qu];rw [hop,QD]
  have hfl:fs.length<=100000:=by omega
  have hpl:ps.length<=400:=by have:=WW ps;omega
  have fin:∀n:Nat,(w≠-1->i64.wrap ((fs.length:Int) - (i64.wrap ((ps.length:Int) - 2)))=(n:Int))->n<=fs.length->N1 n ps=fs.length->Tot ((Wf B ps ls fs w [] 0 0>>=fun o27=>match o27 with | .inl r=>pure r | .inr Qap=>(pure (Qap,true)):Option (List Hit × Bool))>>=fun x55=>pure (x55.1,x55.2)) (MR (pmL B ls ps fs n)):=fun n h1 h2 h3=>by
   rw [MT _ _ _ _ _ _ _ (by omega)];obtain ⟨o,ho,hop⟩:=main n h1 h2 ps 0 0 [] (ZZ ..) (by omega) (by simp;omega);rw [show ((0:Nat):Int)=0 from rfl] at ho;rw [ho,X6];rw [ZZ] at hop
   cases hpm:pmL B ls ps fs n with
   | none=>rw [hpm] at hop;obtain ⟨z',rfl⟩:=hop;exact ⟨_,rfl,rfl⟩
   | some hs=>rw [hpm] at hop;simp only at hop;subst hop;exact ⟨_,rfl,by simp [MR]⟩
  have hw0:w=-1∨0<=w:=by rcases hw2 with h | ⟨j,h,_⟩<;>omega
  have hwr:i64.wrap ((ps.length:Int) - 2)=(ps.length:Int) - 2:=Yz (by omega) (by omega)
  by_cases hwn:w=-1
  ·have hno:¬ps.any Y4=true:=fun h=>hany.1 h hwn;rw [if_neg hno];subst hwn;simp only [show decide ((-1:Int) < 0)=true from rfl,show decide ((-1:Int)≥0)=false from rfl,Z0,Z3,Yd,X6]
   by_cases hlen:ps.length=fs.length
   ·rw [if_pos hlen,decide_eq_true (show (ps.length:Int)=(fs.length:Int) by omega)];simp only [ZS,Qq,if_false,X6];exact fin 0 (fun h=>absurd rfl h) (by omega) (by rw [LH 0 ps (by simpa using hno)];exact hlen)
   ·rw [if_neg hlen,decide_eq_false (show ¬(ps.length:Int)=(fs.length:Int) by omega)];simp only [ZR,if_true,X6];exact ⟨_,rfl,rfl⟩
  ·have hyes:ps.any Y4=true:=hany.2 hwn;have hw1':0<=w:=hw0.resolve_left hwn;rw [if_pos hyes];simp only [decide_eq_false (show ¬w < 0 by omega),decide_eq_true (show w≥0 from hw1'),Z3,Z0,Yd,X6,Qq,if_false,hwr]
   by_cases hlen:fs.length+2 < ps.length
   ·rw [if_pos hlen,decide_eq_true (show (fs.length:Int) < (ps.length:Int) - 2 by omega)];simp only [if_true,X6];exact ⟨_,rfl,rfl⟩
   ·rw [if_neg hlen,decide_eq_false (show ¬(fs.length:Int) < (ps.length:Int) - 2 by omega)];simp only [Qq,if_false,X6]
    have h2:2<=ps.length:=by
     rcases hw2 with h | ⟨j,_,hj,_⟩
     ·exact absurd h hwn
     ·omega
    refine fin (fs.length+2 - ps.length) (fun _=>?_) (by omega) ?_
    ·rw [hwr,Yz (by omega) (by omega)];omega
    ·have:=Tq (fs.length+2 - ps.length) ps (by omega) hh hyes;omega
end Go.Proofs.SA
namespace Go.Proofs.SA
theorem Vq {α:Type} {l:List α} {i:Nat} {d:α} (h:i < l.length):l.getD i d=l[i]:=by rw [Qz,Qf h];rfl
theorem Qhp (ls:List Fm) (h:FS ls) (p:Fm) (hp:p.nodes<=100000):Ba p ls=some (Mn p ls):=by
 have hvl:=CE ls p;have hdl:=OI ls p 0;rw [Ba,UX ls h p (by omega),X6,NI ls h p hp,X6,L6 _ _ _ _ (by omega)]
 have:=Qft (JW p (vrs ls p) (dps ls 0 p)) (vrs ls p) (fun i=>.mk ((vrs ls p).getD i default) ((dps ls 0 p).getD i 0) (if (dps ls 0 p).getD i 0=0 then (vrs ls p).getD i default else Fm.zero) []) (fun _ _=>rfl) (fun z i hi r hz=>by
  have hid:i < (dps ls 0 p).length:=by omega
  rw [JW,Yd,X6,Yf _ i hid,X6,Vq hi,Vq hid]
  by_cases h0:(dps ls 0 p)[i]=0
  ·rw [if_pos h0,if_pos h0,X6,Yy (by simp;omega),X6]
  ·rw [if_neg h0,if_neg h0,Yy (by simp;omega),X6];rfl) (vrs ls p).length 0 [] (by omega) (by simp;omega)
 rw [ZZ] at this;rw [this,X6,Yd,Mn,Z9];rfl
theorem Qhq (ls:List Fm) (p:Fm) (hp:p.nodes<=400) (hz:p.sz<=100000):HS (Mn p ls)/\(Mn p ls).length<=400:=by
 have hvl:=CE ls p;have hdl:=OI ls p 0;refine ⟨⟨by unfold Sm;simp [Mn];omega,fun h hh=>?_⟩,by simp [Mn];omega⟩;unfold Mn at hh;obtain ⟨i,hi,rfl⟩:=QX.1 hh
 have hi':i < (vrs ls p).length:=by simpa using hi
 have hid:i < (dps ls 0 p).length:=by omega
 show ((vrs ls p).getD i default).sz<=1000000/\0<=(dps ls 0 p).getD i 0+1/\(dps ls 0 p).getD i 0<=1000000;rw [Vq hi',Vq hid];have h1:=U0 ls p _ (ZJ hi');have h2:=Qf8 ls p 0 _ (ZJ hid);omega
def Qie (ls:List Fm) (r:Rul):Prop:=Qmg ls r.pat/\r.pat.kind=3/\0 < r.pat.kids.length/\FV r.tpl/\Qmc r.tpl (Mn r.pat ls)=true
def Nz (ls:List Fm) (rs:List Rul):Prop:=rs.length < 10/\(∀r∈rs,Qie ls r)/\Qei ls
def RS (rs:List Rul):Prop:=Sm rs.length/\∀r∈rs,r.pat.sz<=100000/\r.tpl.sz<=100000
theorem Qdj {ls:List Fm} (h:FS ls) {r:Rul} (h1:r.pat.sz<=100000) (h2:r.tpl.sz<=100000):Tot (BQ r ls) fun b=>b=true↔Qie ls r:=by
 rw [BQ];refine Zz (Qjz h1 h) fun b hb=>?_;cases b
 ·simp only [Z3,Yd,X6,Qq,if_false];exact ⟨_,rfl,fun h=>(by cases h),fun h=>(by have:=hb.2 h.1;cases this)⟩
 have hp:=hb.1 rfl;simp only [Z0,Yd,X6]
 by_cases h3:r.pat.kind=3
 rotate_left
 ·simp only [h3,decide_false,Z3,Qq,if_false,Yd,X6];exact ⟨_,rfl,fun h=>(by cases h),fun h=>absurd h.2.1 h3⟩
 by_cases h4:(r.pat.kids.length:Int) > 0
 rotate_left
 ·simp only [h3,h4,decide_false,decide_true,Z0,Qq,if_false,Yd,X6];exact ⟨_,rfl,fun h=>(by cases h),fun h=>absurd h.2.2.1 (by omega)⟩
 simp only [h3,h4,decide_true,Z0,if_true];obtain ⟨b2,e2,hb2⟩:=I9 (f:=r.tpl) (by omega);rw [e2];simp only [Yd,X6];cases b2
 ·simp only [Qq,if_false,Yd,X6];exact ⟨_,rfl,fun h=>(by cases h),fun h=>(by have:=hb2.2 h.2.2.2.1;cases this)⟩
 have hn:=hp.1.2;obtain ⟨hh,hl⟩:=Qhq ls r.pat hn h1;simp only [if_true,Qhp ls h r.pat (by omega),Qrn r.tpl (by omega) hh (by omega),Yd,X6];refine ⟨_,rfl,fun h=>⟨hp,h3,by omega,hb2.1 rfl,h⟩,fun h=>h.2.2.2.2⟩
theorem Qhl {ls:List Fm} (h:FS ls) {rs:List Rul} (hr:RS rs):∀(n i:Nat),i+n=10->Tot (JH rs ls i) fun o=>match o with
  | .inl r=>r=false/\∃x∈rs,¬Qie ls x
  | .inr _=>∀j,i<=j->j < 10->∀h:j < rs.length,Qie ls rs[j]:=by
 intro n
 induction n with
 | zero=>intro i hi;rw [JH,Yd,X6,if_neg (by simp;omega)];exact ⟨_,rfl,fun j h1 h2=>by omega⟩
 | succ n ih =>
  intro i hi;rw [JH,Yd,X6]
  by_cases hil:i < rs.length
  rotate_left
  ·rw [if_neg (by simp;omega)];exact ⟨_,rfl,fun j h1 h2 h3=>by omega⟩
  have hm:=ZJ hil;rw [if_pos (by simp;omega),Yf rs i hil,X6];refine Zz (Qdj h (hr.2 _ hm).1 (hr.2 _ hm).2) fun b hb=>?_;cases b
  ·simp only [ZR,if_true];exact ⟨_,rfl,rfl,_,hm,fun h=>by have:=hb.2 h;cases this⟩
  ·simp only [ZS,Qq,if_false,Wn (i:=i) (by omega)];refine (ih (i+1) (by omega)).mono fun o ho=>?_
   cases o with
   | inl r=>exact ho
   | inr u =>
    exact fun j h5 h6 h7=>by
     by_cases hj:j=i
     ·subst hj;exact hb.1 rfl
     ·exact ho j (by omega) h6 h7
theorem N6 {ls:List Fm} (h:FS ls) {rs:List Rul} (hr:RS rs):Tot (Al rs ls) fun b=>b=true↔Nz ls rs:=by
 rw [Al];refine Zz (Qhl h hr 10 0 (by omega)) fun o ho=>?_
 cases o with
 | inl r =>
  obtain ⟨h0,x,hx,hn⟩:=ho;subst h0;exact ⟨_,rfl,fun h=>(by cases h),fun h=>absurd (h.2.1 x hx) hn⟩
 | inr u =>
  simp only
  by_cases hl:rs.length < 10
  ·rw [if_pos (by omega)];obtain ⟨b,e,hb⟩:=FX h;rw [e];simp only [Yd,X6];refine ⟨_,rfl,?_⟩;simp only [hb];refine ⟨fun h=>⟨hl,fun r hr=>?_,h⟩,fun h=>h.2.2⟩;obtain ⟨j,hj,rfl⟩:=ZT.1 hr;exact ho j (Nat.zero_le _) (by omega) hj
  ·rw [if_neg (by omega)];exact ⟨false,rfl,fun h=>(by cases h),fun h=>absurd h.1 hl⟩
def Qae:ByteArray:=Qk #[114,117,108,101,115]
def G5 (f:Fm):List Fm × List Rul:=((f.kids.getD 1 default).kids,(f.kids.drop 2).map fun x=>⟨x.kids.getD 0 default,x.kids.getD 1 default⟩)
def Qb2 (f:Fm):Prop:=FV f/\f.kind=3/\2<=f.kids.length/\(f.kids.getD 0 default).name=Qae/\(f.kids.getD 1 default).kind=3/\(∀x∈f.kids.drop 2,x.kind=3/\x.kids.length=2)/\Nz (G5 f).1 (G5 f).2
theorem UL {f:Fm} (hf:f.sz<=100000):Tot (HA f) fun r=>(Qb2 f/\r=((G5 f).1,(G5 f).2,true))∨(¬Qb2 f/\r.2.2=false):=by
 have hz:=Fm.GX f;have bad:¬Qb2 f->Tot (some ([],[],false):Option (List Fm × List Rul × Bool)) fun r=>(Qb2 f/\r=((G5 f).1,(G5 f).2,true))∨(¬Qb2 f/\r.2.2=false):=fun h=>⟨_,rfl,.inr ⟨h,rfl⟩⟩;rw [HA];refine Zz (I9 (by omega)) fun b hb=>?_;cases b
 ·simp only [ZR,Bool.true_or,Yd,X6,if_true]
  exact bad fun h=>by have:=hb.2 h.1;cases this
 simp only [ZS,Z1,Yd,X6]
 by_cases h3:f.kind=3
 rotate_left
 ·simp only [h3,decide_false,ZR,Bool.true_or,if_true,Yd,X6];exact bad fun h=>h3 h.2.1
 by_cases h4:(f.kids.length:Int) < 2
 ·simp only [h3,h4,decide_true,ZS,Z1,if_true,Yd,X6]
  exact bad fun h=>by have:=h.2.2.1;omega
 have l0:0 < f.kids.length:=by omega
 have l1:1 < f.kids.length:=by omega
 simp only [h3,h4,decide_true,decide_false,ZS,Z1,Qq,if_false,show idx f.kids 0=some f.kids[0] from Yf f.kids 0 l0,show idx f.kids 1=some f.kids[1] from Yf f.kids 1 l1,Yd,X6];have g0:f.kids.getD 0 default=f.kids[0]:=Vq l0;have g1:f.kids.getD 1 default=f.kids[1]:=Vq l1
 by_cases h5:f.kids[0].name=Qae
 rotate_left
 ·have h5':=h5;unfold Qae at h5';simp only [h5',decide_false,ZR,if_true,Yd,X6];exact bad fun h=>h5 (by rw [← g0];exact h.2.2.2.1)
 have h5':=h5;unfold Qae at h5';simp only [h5',decide_true,ZS,Qq,if_false,Yd,X6]
 by_cases h6:f.kids[1].kind=3
 rotate_left
 ·simp only [h6,decide_false,ZR,if_true];exact bad fun h=>h6 (by rw [← g1];exact h.2.2.2.2.1)
 simp only [h6,decide_true,ZS,Qq,if_false];have k1:=Fm.G2 (ZJ l1);have hz1:=Fm.GX f.kids[1]
 have lp0:∀(n i:Nat),i+n=f.kids[1].kids.length->∀z:List Fm,z.length+n<=200000->V5 f z i=some (z++f.kids[1].kids.drop i):=by
  intro n
  induction n with
  | zero =>
   intro i hi z _;rw [V5,show idx f.kids 1=some f.kids[1] from Yf f.kids 1 l1,X6,if_neg (by omega),show i=f.kids[1].kids.length by omega,Z4];simp [Yd]
  | succ n ih =>
   intro i hi z hzl
   have hil:i < f.kids[1].kids.length:=by omega
   have:=Fm.G2 (ZJ hil);rw [V5,show idx f.kids 1=some f.kids[1] from Yf f.kids 1 l1,X6,if_pos (by omega),X6,Yf _ i hil,X6,Lo _ (by omega),X6,Yy (by simp;omega),X6,Wn (i:=i) (by omega),ih (i+1) (by omega) _ (by simp;omega),QD,Zw hil];rfl
 have e0:=lp0 f.kids[1].kids.length 0 (by omega) [] (by simp;omega);rw [show ((0:Nat):Int)=0 from rfl] at e0;rw [e0,X6,QS,ZZ]
 have lp1:∀(n i:Nat),i+n=f.kids.length->∀z:List Rul,z.length+n<=200000->Tot (V6 f f.kids[1].kids z i) fun o=>((∀x∈f.kids.drop i,x.kind=3/\x.kids.length=2)/\o=.inr (z++(f.kids.drop i).map fun x=>⟨x.kids.getD 0 default,x.kids.getD 1 default⟩))∨(¬(∀x∈f.kids.drop i,x.kind=3/\x.kids.length=2)/\∃r,o=.inl r/\r.2.2=false):=by
  intro n
  induction n with
  | zero =>
   intro i hi z _;rw [V6,if_neg (by omega),show i=f.kids.length by omega,Z4];exact ⟨_,rfl,.inl ⟨by simp,by simp⟩⟩
  | succ n ih =>
   intro i hi z hzl
   have hil:i < f.kids.length:=by omega
   have k2:=Fm.G2 (ZJ hil);rw [V6,if_pos (by omega),Yf _ i hil,Zw hil];simp only [X6]
   by_cases q1:f.kids[i].kind=3
   rotate_left
   ·rw [if_neg q1];simp only [Yd,X6,if_true];exact ⟨_,rfl,.inr ⟨fun h=>q1 (h _ (KB ..)).1,_,rfl,rfl⟩⟩
   rw [if_pos q1]
   by_cases q2:f.kids[i].kids.length=2
   rotate_left
   ·simp only [Yd,X6,decide_eq_false (show ¬(f.kids[i].kids.length:Int)=2 by omega),ZR,if_true];exact ⟨_,rfl,.inr ⟨fun h=>q2 (h _ (KB ..)).2,_,rfl,rfl⟩⟩
   have j0:0 < f.kids[i].kids.length:=by omega
   have j1:1 < f.kids[i].kids.length:=by omega
   have m0:=Fm.G2 (ZJ j0);have m1:=Fm.G2 (ZJ j1);simp only [Yd,X6,decide_eq_true (show (f.kids[i].kids.length:Int)=2 by omega),ZS,Qq,if_false,show idx f.kids[i].kids 0=some f.kids[i].kids[0] from Yf _ 0 j0,show idx f.kids[i].kids 1=some f.kids[i].kids[1] from Yf _ 1 j1];rw [Lo _ (by omega),Lo _ (by omega)];simp only [X6];rw [Yy (by simp;omega),X6,Wn (i:=i) (by omega)];refine (ih (i+1) (by omega) _ (by simp;omega)).mono fun o ho=>?_
   rcases ho with ⟨r1,r2⟩ | ⟨r1,r2⟩
   ·refine .inl ⟨fun x hx=>?_,?_⟩
    ·rcases List.mem_cons.1 hx with rfl | hx
     ·exact ⟨q1,q2⟩
     ·exact r1 x hx
    ·rw [r2,List.map_cons,Vq j0,Vq j1,QD];rfl
   ·exact .inr ⟨fun h=>r1 fun x hx=>h x (Kf _ hx),r2⟩
 obtain ⟨o,ho,hop⟩:=lp1 (f.kids.length - 2) 2 (by omega) [] (by simp;omega);rw [show ((2:Nat):Int)=2 from rfl] at ho;rw [ho,X6]
 rcases hop with ⟨r1,r2⟩ | ⟨r1,r,r2,r3⟩
 ·subst r2;simp only [QS];have hls:FS f.kids[1].kids:=⟨by unfold Sm;omega,fun x hx=>by have:=Fm.G2 hx;omega⟩
  have hrs:RS ((f.kids.drop 2).map fun x=>(⟨x.kids.getD 0 default,x.kids.getD 1 default⟩:Rul)):=⟨by rw [ZH,List.length_drop];unfold Sm;omega,fun x hx=>by
   obtain ⟨y,hy,rfl⟩:=QX.1 hx;have q:=(r1 y hy).2;have k2:=Fm.G2 (List.mem_of_mem_drop hy)
   have j0:0 < y.kids.length:=by omega
   have j1:1 < y.kids.length:=by omega
   have m0:=Fm.G2 (ZJ j0);have m1:=Fm.G2 (ZJ j1);simp only [Vq j0,Vq j1]
   omega⟩
  have er:G5 f=(f.kids[1].kids,(f.kids.drop 2).map fun x=>⟨x.kids.getD 0 default,x.kids.getD 1 default⟩):=by unfold G5;rw [g1]
  obtain ⟨b2,e2,hb2⟩:=N6 hls hrs;rw [e2,X6];cases b2
  ·simp only [ZR,if_true];refine bad fun h=>?_;have:=h.2.2.2.2.2.2;rw [er] at this;have:=hb2.2 this;cases this
  ·simp only [ZS,Qq,if_false];refine ⟨_,rfl,.inl ⟨⟨hb.1 rfl,h3,by omega,by rw [g0];exact h5,by rw [g1];exact h6,r1,by rw [er];exact hb2.1 rfl⟩,by rw [er]⟩⟩
 ·subst r2;exact ⟨_,rfl,.inr ⟨fun h=>r1 h.2.2.2.2.2.1,r3⟩⟩
theorem Ql7:∀f:Fm,f.sz<=1000000->Wc f=some f:=by
 intro f
 induction f using Fm.ind with
 | h f ih =>
  intro hf;have hz:=Fm.GX f
  rw [Wc,Yy (by simp;omega),X6,HZ,CT _ _ (by omega),G0 (VW f.kids) id (fun _ _=>rfl) f.kids [] 0 (fun x hx z i r hzb=>by
   have:=Fm.G2 hx
   rw [VW,Yd,X6,ih x hx (by omega),X6,Yy (by simp;omega),X6];rfl) (by simp;omega)]
  simp only [X6,Yd,QS,List.map_id,Fm.eta]
theorem UI (rs:List Rul) (hr:RS rs) (hl:rs.length<=1000000):GP rs=some rs:=by
 rw [GP,CU _ _ (by omega),G0 (VX rs) id (fun _ _=>rfl) rs [] 0 (fun x hx z i r hzb=>by
  have:=hr.2 x hx
  rw [VX,Yd,X6,Iz,Ql7 _ (by omega),X6,Ql7 _ (by omega),X6,Yd,X6,Yy (by simp;omega),X6];rfl) (by simp;omega)]
 simp only [X6,Yd,QS,List.map_id]
end Go.Proofs.SA
