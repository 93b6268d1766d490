/- The reference's patterns, templates, rules: what is valid. -/
import Derived.Test.YthdghhllcllneaaGreatDoorRa
import Derived.Test.YthdghhllcllneaaGreatDoorPb
set_option linter.unusedVariables false
set_option linter.unusedSimpArgs false
set_option maxRecDepth 100000
open Go Go.Proofs Go.Proofs.Shadow
open _root_.Bool renaming false_eq_true → Qq, not_true → ZU, not_false → ZT, true_and → Z1, false_or → Z2, false_and → Z4, or_eq_false_iff → Z9
open _root_.List renaming getElem_mem → ZK, drop_eq_getElem_cons → Zx, mem_cons_self → KB, mem_cons_of_mem → Kf, length_append → QV, append_assoc → QD, eq_nil_of_length_eq_zero → Kt, drop_zero → ZN, drop_of_length_le → Zy, getD_eq_getElem?_getD → Qz, getElem?_eq_getElem → Qf, nil_append → QS, length_cons → ZE, getElem_cons_succ → Z3, mem_append → QR, drop_length → Z5, filter_cons_of_neg → Z6, filter_cons_of_pos → Z7, length_map → ZI, drop_drop → Z8, range_eq_range' → Xa, mem_iff_getElem → ZV, any_cons → ZW, mem_singleton → ZG, any_eq_false → Xb, mem_map → QX
open Fm renaming nodes → ZL
open _root_.Option renaming map_eq_some_iff → Qx, map_some → Qu
open _root_.ByteArray renaming mk → Qk
open _root_.Nat renaming lt_or_ge → KA
open Tot renaming bind → ZA
open Go.IntKind (i64)
namespace Go.Proofs.Shadow
theorem Qg9 {α:Type} (F:Nat->List α->Option (Int ⊕ Unit)) (p:α->Bool) (hn:∀i,F i []=some (.inr ())):∀(l:List α) (i:Nat),(∀x∈l,∀i r,F i (x :: r)=if p x=true then some (.inl (i:Int)) else F (i+1) r) ->
  (∃j,∃hj:j < l.length,F i l=some (.inl ((i+j:Nat):Int))/\l.find? p=some l[j])∨(F i l=some (.inr ())/\l.find? p=none):=by
 intro l
 induction l with
 | nil=>intro i _;exact .inr ⟨hn _,rfl⟩
 | cons x l ih =>
  intro i hc;rw [hc x (KB ..),List.find?_cons];cases hp:p x
  ·rw [if_neg (by simp)]
   rcases ih (i+1) (fun y hy=>hc y (Kf _ hy)) with ⟨j,hj,h1,h2⟩ | ⟨h1,h2⟩
   ·exact .inl ⟨j+1,by simp;omega,by rw [h1];congr 3;omega,by simpa using h2⟩
   ·exact .inr ⟨h1,h2⟩
  ·exact .inl ⟨0,by simp,by simp,by simp⟩
end Go.Proofs.Shadow
namespace Go.Proofs.SA
theorem SJ (f:Fm) (ls:List Fm) (h:FS ls):Aq f ls=some (Ul ls f):=by
 rw [Aq,Ul];unfold FN S6
 by_cases h1:f.kind=1
 ·by_cases h2:f.name=Qk #[46,46,46]
  ·simp only [h1,decide_eq_true h2,Yd,X5];rfl
  ·by_cases h3:f.name=Qk #[95]
   ·simp only [h1,decide_eq_false h2,decide_eq_true h3,Yd,X5];rfl
   ·simp only [h1,decide_eq_false h2,decide_eq_false h3,Yd,X5,Qbn ls f h];rfl
 ·simp only [h1,decide_false,Yd,X5];rfl
theorem Qei (ls:List Fm) (h:FS ls):∀(p:Fm) (z:List Fm),z.length+p.nodes<=1000000->JI z p ls=some (z++vrs ls p):=by
 intro p
 induction p using Fm.ind with
 | h p ih =>
  intro z hz;have hn:=Fm.Yx p;have hl:=W3 p.kids
  have loop:∀(r:List Fm),(∀g∈r,g∈p.kids)->∀(z:List Fm) (i:Nat),z.length+YY ZL r<=1000000->W0 p ls z i r=some (z++RH ls r):=by
   intro r
   induction r with
   | nil=>intro _ z i _;rw [W0,Yd];simp [RH]
   | cons f r ihr =>
    intro hr z i hz;rw [YY] at hz;rw [W0,Yd,X5,ih f (hr f (KB ..)) z (by omega),X5];have:=CM ls f;rw [ihr (fun g hg=>hr g (Kf _ hg)) _ _ (by rw [QV];omega),RH,QD]
  rw [JI,SJ p ls h,X5,OZ];cases Ul ls p
  ·simp only [Qq,if_false,Yd,X5];rw [BX _ _ _ (by omega),loop _ (fun _ h=>h) _ _ (by omega)];simp [X5]
  ·simp only [if_true,Yd,X5];rw [YB (by simp;omega)];simp only [X5];rw [BX _ _ _ (by omega),loop _ (fun _ h=>h) _ _ (by simp;omega)];simp [X5]
theorem Qae (ls:List Fm) (h:FS ls) (p:Fm) (hp:p.nodes<=1000000):Al [] p ls=some (vrs ls p):=by
 have hn:=Fm.Yx p;have hl:=W3 p.kids
 have loop:∀(r:List Fm) (z:List Fm) (i:Nat),z.length+YY ZL r<=1000000->G2 p ls z i r=some (z++RH ls r):=by
  intro r
  induction r with
  | nil=>intro z i _;rw [G2,Yd];simp [RH]
  | cons f r ihr =>
   intro z i hz;rw [YY] at hz;rw [G2,Yd,X5,Qei ls h f z (by omega),X5];have:=CM ls f;rw [ihr _ _ (by rw [QV];omega),RH,QD]
 rw [Al,SJ p ls h,X5,OZ];cases Ul ls p
 ·simp only [Qq,if_false,Yd,X5];rw [DJ _ _ _ (by omega),loop _ _ _ (by simp;omega)];simp [X5]
 ·simp only [if_true,Yd,X5];rw [YB (by simp)];simp only [X5];rw [DJ _ _ _ (by omega),loop _ _ _ (by simp;omega)];simp [X5]
theorem So {ks:List Fm} {i:Nat} {f:Fm} {r:List Fm} (hd:ks.drop i=f :: r) (hl:ks.length<=1099511627776) :
  ((if (i64.wrap ((i:Int)+1)) < (ks.length:Int) then (idx ks (i64.wrap ((i:Int)+1))>>=fun x37=>(YZ x37>>=fun x39=>pure x39)) else pure false:Option Bool))=some (Jt r):=by
 have hi:i < ks.length:=by
  rcases KA i ks.length with h | h
  ·exact h
  ·rw [Zy h] at hd;cases hd
 rw [Zx hi] at hd
 injection hd with e1 e2
 rw [Wu (i:=i) (by omega)]
 by_cases h:i+1 < ks.length
 ·rw [if_pos (by omega),Yg ks (i+1) h];rw [Zx h] at e2;rw [← e2];rfl
 ·rw [if_neg (by omega)];rw [Zy (by omega)] at e2;rw [← e2];rfl
theorem UK (ls:List Fm) (d:Int) (f:Fm):(dps ls d f).length<=f.nodes:=by rw [← OY];exact CM ls f
theorem Tg (ls:List Fm) (h:FS ls):∀(p:Fm) (z:List Int) (d:Int),z.length+p.nodes<=1000000->0<=d->d+p.nodes<=1000000->VB z p ls d=some (z++dps ls d p):=by
 intro p
 induction p using Fm.ind with
 | h p ih =>
  intro z d hz h0 h1;have hn:=Fm.Yx p;have hl:=W3 p.kids
  have loop:∀(r:List Fm),(∀g∈r,g∈p.kids)->∀(z:List Int) (i:Nat),p.kids.drop i=r->z.length+YY ZL r<=1000000->VJ p ls d z i r=some (z++UJ ls d r):=by
   intro r
   induction r with
   | nil=>intro _ z i _ _;rw [VJ,Yd];simp [UJ]
   | cons f r ihr =>
    intro hr z i hd hz
    have hd2:p.kids.drop (i+1)=r:=by rw [← Z8,hd];rfl
    rw [YY] at hz;have hm:=hr f (KB ..);have hk:=I9 hm;rw [VJ,So hd (by omega),X5,UJ]
    have key:∀d':Int,0<=d'->d'<=d+1->(VB z f ls d'>>=fun x51=>VJ p ls d x51 (i+1) r)=some (z++(dps ls d' f++UJ ls d r)):=fun d' q0 q1=>by
     rw [ih f hm z d' (by omega) q0 (by omega),X5];have:=UK ls d' f;rw [ihr (fun g hg=>hr g (Kf _ hg)) _ _ hd2 (by rw [QV];omega),QD]
    cases Jt r
    ·simp only [Qq,if_false,Yd,X5];exact key d h0 (by omega)
    ·simp only [if_true,Yd,X5,YC (show -9223372036854775808<=d+1 by omega) (show d+1 < 9223372036854775808 by omega)];exact key (d+1) (by omega) (Int.le_refl _)
  rw [VB,SJ p ls h,X5,Qaz];cases Ul ls p
  ·simp only [Qq,if_false,Yd,X5];rw [Bg _ _ _ _ (by omega),loop _ (fun _ h=>h) _ _ (ZN ..) (by omega)];simp [X5]
  ·simp only [if_true,Yd,X5];rw [YB (by simp;omega)];simp only [X5];rw [Bg _ _ _ _ (by omega),loop _ (fun _ h=>h) _ _ (ZN ..) (by simp;omega)];simp [X5]
theorem NU (ls:List Fm) (h:FS ls) (p:Fm) (hp:p.nodes<=100000):Ia [] p ls 0=some (dps ls 0 p):=by
 have hn:=Fm.Yx p;have hl:=W3 p.kids
 have loop:∀(r:List Fm),(∀g∈r,g∈p.kids)->∀(z:List Int) (i:Nat),p.kids.drop i=r->z.length+YY ZL r<=1000000->WE p ls 0 z i r=some (z++UJ ls 0 r):=by
  intro r
  induction r with
  | nil=>intro _ z i _ _;rw [WE,Yd];simp [UJ]
  | cons f r ihr =>
   intro hr z i hd hz
   have hd2:p.kids.drop (i+1)=r:=by rw [← Z8,hd];rfl
   rw [YY] at hz;have hm:=hr f (KB ..);have hk:=I9 hm;rw [WE,So hd (by omega),X5,UJ]
   have key:∀d':Int,0<=d'->d'<=1->(VB z f ls d'>>=fun x51=>WE p ls 0 x51 (i+1) r)=some (z++(dps ls d' f++UJ ls 0 r)):=fun d' q0 q1=>by
    rw [Tg ls h f z d' (by omega) q0 (by omega),X5];have:=UK ls d' f;rw [ihr (fun g hg=>hr g (Kf _ hg)) _ _ hd2 (by rw [QV];omega),QD]
   cases Jt r
   ·simp only [Qq,if_false,Yd,X5];exact key 0 (by omega) (by omega)
   ·simp only [if_true,Yd,X5,show i64.wrap (0+1)=1 from rfl];exact key 1 (by omega) (by omega)
 rw [Ia,SJ p ls h,X5,Qaz];cases Ul ls p
 ·simp only [Qq,if_false,Yd,X5];rw [Cp _ _ _ _ (by omega),loop _ (fun _ h=>h) _ _ (ZN ..) (by simp;omega)];simp [X5]
 ·simp only [if_true,Yd,X5];rw [YB (by simp)];simp only [X5];rw [Cp _ _ _ _ (by omega),loop _ (fun _ h=>h) _ _ (ZN ..) (by simp;omega)];simp [X5]
def Qmz (ls:List Fm) (p:Fm):Prop:=FV p/\Qex ls/\Qh6 p=true/\(vrs ls p).Nodup/\(∀d∈dps ls 0 p,d<=3)/\(vrs ls p).length<=20
theorem Qch (ls:List Fm):∀(l:List Fm),(∀f∈l,∀x∈vrs ls f,x.sz<=f.sz)->∀x∈RH ls l,x.sz<=YY Fm.sz l
 | [],_,x,hx=>by cases hx
 | f :: l,h,x,hx=>by
  rw [RH] at hx;rw [YY]
  rcases QR.1 hx with hx | hx
  ·have:=h f (KB ..) x hx;omega
  ·have:=Qch ls l (fun g hg=>h g (Kf _ hg)) x hx;omega
theorem Qah (ls:List Fm) (p:Fm):∀x∈vrs ls p,x.sz<=p.sz:=by
 induction p using Fm.ind with
 | h p ih =>
  intro x hx;rw [OZ] at hx
  rcases QR.1 hx with hx | hx
  ·split at hx
   ·rw [ZG.1 hx];exact Nat.le_refl _
   ·cases hx
  ·have:=Qch ls p.kids ih x hx;rw [Fm.Gb p];omega
theorem Qkh {p:Fm} (hp:p.sz<=100000) {ls:List Fm} (h:FS ls):Tot (Eo p ls) fun b=>b=true↔Qmz ls p:=by
 rw [Eo];refine ZA (Ah (by omega)) fun b1 hb1=>?_;cases b1
 ·simp only [ZT,if_true,Yd,X5];exact ⟨_,rfl,fun h=>(by cases h),fun h=>(by have:=hb1.2 h.1;cases this)⟩
 simp only [ZU,Qq,if_false];have hfv:=hb1.1 rfl;have hnn:=hfv.2;obtain ⟨b2,e2,hb2⟩:=F9 h;rw [e2];simp only [Yd,X5];cases b2
 ·simp only [ZT,if_true,Yd,X5];exact ⟨_,rfl,fun h=>(by cases h),fun h=>(by have:=hb2.2 h.2.1;cases this)⟩
 simp only [ZU,Qq,if_false,Qh8 p (by omega),Yd,X5];cases hs:Qh6 p
 ·simp only [ZT,if_true];exact ⟨_,rfl,fun h=>(by cases h),fun h=>(by have h9:=h.2.2.1;rw [hs] at h9;cases h9)⟩
 simp only [ZU,Qq,if_false,Qae ls h p (by omega),X5];have hvl:=CM ls p;rw [PL _ _ _ (by omega)]
 have hvs:∀x∈vrs ls p,x.sz<=1000000:=fun x hx=>by have:=Qah ls p x hx;omega
 rcases Qfq (IW p ls (vrs ls p)) (vrs ls p) (fun i x=>decide (x∈(vrs ls p).take i)) false (fun _=>rfl) (fun i hi r=>by
  rw [IW,TD _ i (by omega)];simp only [Yd,X5]
  rw [Qbn _ _ ⟨by unfold Sm;rw [List.length_take];omega,fun f hf=>hvs f (List.mem_of_mem_take hf)⟩,X5]) with ⟨h7,i,hi,hp2⟩ | ⟨h7,hp2⟩
 ·rw [h7,X5];exact ⟨_,rfl,fun h=>(by cases h),fun h=>absurd (of_decide_eq_true hp2) (EH.1 h.2.2.2.1 i hi)⟩
 have hnd:(vrs ls p).Nodup:=EH.2 fun i hi=>of_decide_eq_false (hp2 i hi);rw [h7,X5]
 simp only
 have hdl:=UK ls 0 p
 rw [NU ls h p (by omega),X5,PM _ _ _ (by omega),Di (IX p (vrs ls p) (dps ls 0 p)) (fun d=>decide (d > 3)) false (fun _=>rfl) _ _ (fun x hx i r=>by
  rw [IX,Yd,X5];by_cases hx3:x > 3<;>simp [hx3,Yd]),X5]
 cases ha:(dps ls 0 p).any fun d=>decide (d > 3)
 ·simp only [Qq,if_false,Yd]
  have hd3:∀d∈dps ls 0 p,d<=3:=fun d hd=>by
   have:=Xb.1 ha d hd;simpa using this
  refine ⟨_,rfl,?_⟩;simp only [decide_eq_true_iff];constructor
  ·intro hl;exact ⟨hfv,hb2.1 rfl,hs,hnd,hd3,by omega⟩
  ·intro h;have:=h.2.2.2.2.2;omega
 ·simp only [if_true];refine ⟨_,rfl,fun h=>(by cases h),fun h=>?_⟩;obtain ⟨d,hd,hd2⟩:=List.any_eq_true.1 ha;have:=h.2.2.2.2.1 d hd;have:=of_decide_eq_true hd2;omega
def HS (H:List Hit):Prop:=Sm H.length/\∀h∈H,h.name.sz<=1000000/\0<=h.depth+1/\h.depth<=1000000
theorem RA {H:List Hit} (h:HS H) (f:Fm):(∃j,∃hj:j < H.length,Ak H f=some (j:Int)/\Qr5 H f=some H[j])∨(Ak H f=some (-1)/\Qr5 H f=none):=by
 have:=Qg9 (HO H f) (fun x=>decide (x.name=f)) (fun _=>rfl) H 0 (fun x hx i r=>by
  rw [HO,Yd,X5,EI _ (h.2 x hx).1,X5];by_cases hx2:x.name=f<;>simp [hx2,Yd])
 rw [Ak,M4 _ _ (by have:=h.1;omega)]
 rcases this with ⟨j,hj,h1,h2⟩ | ⟨h1,h2⟩
 ·exact .inl ⟨j,hj,by rw [h1,X5,Nat.zero_add];rfl,h2⟩
 ·exact .inr ⟨by rw [h1];rfl,h2⟩
theorem Tf {H:List Hit} (h:HS H) (f:Fm):As H f=some (Qeu H f):=by
 rw [As,Qeu]
 by_cases h1:f.kind=1
 ·rw [if_pos h1,if_pos h1]
  rcases RA h f with ⟨j,hj,h2,h3⟩ | ⟨h2,h3⟩
  ·rw [h2,X5,if_neg (by omega),Yg _ _ hj,h3];rfl
  ·rw [h2,h3];rfl
 ·rw [if_neg h1,if_neg h1];rfl
theorem TP (H:List Hit):∀l:List Fm,Qk4 H l=l.any (PB H)
 | []=>rfl
 | f :: l=>by rw [Qk4,TP H l];rfl
theorem Qk3 (H:List Hit) (f:Fm):PB H f=(decide (0 < Qeu H f)||f.kids.any (PB H)):=by cases f;rw [PB,TP];rfl
theorem Qk2 {H:List Hit} (h:HS H):∀f:Fm,f.sz<=1000000->Ib H f=some (PB H f):=by
 intro f
 induction f using Fm.ind with
 | h f ih =>
  intro hf;have hz:=Fm.Gb f;rw [Ib,Tf h f,X5,Qk3]
  by_cases hd:Qeu H f > 0
  ·rw [if_pos hd,decide_eq_true (show 0 < Qeu H f from hd)];rfl
  ·rw [if_neg hd,decide_eq_false (show ¬0 < Qeu H f from hd),Z2,Nc _ _ (by omega),Di (HR H f) (PB H) true (fun _=>rfl) f.kids 0 (fun x hx i r=>by
    have:=Fm.Hb hx
    rw [HR,Yd,X5,ih x hx (by omega),X5];rfl),X5]
   cases f.kids.any (PB H)<;>rfl
theorem Qko {H:List Hit} (h:HS H) (hl:H.length<=1000000):A4 H=some (Sk H):=by
 rw [A4,Na _ _ (by omega),G9 (HQ H) (fun h=>.mk h.name (if 0 < h.depth then h.depth - 1 else h.depth) h.one []) (fun _ _=>rfl) H [] 0 (fun x hx z i r hz=>by
  have:=h.2 x hx;rw [HQ,Yd,X5]
  by_cases hd:x.depth > 0
  ·rw [if_pos hd,if_pos (show 0 < x.depth from hd),YC (by omega) (by omega)];simp only [Yd,X5];rw [YB (by simp;omega)];rfl
  ·rw [if_neg hd,if_neg (show ¬0 < x.depth from hd)];simp only [Yd,X5]
   rw [YB (by simp;omega)];rfl) (by simp;omega)]
 simp [X5,Yd,Sk]
theorem HS.less {H:List Hit} (h:HS H):HS (Sk H):=⟨by unfold Sk;rw [ZI];exact h.1,fun x hx=>by
 unfold Sk at hx;obtain ⟨y,hy,rfl⟩:=QX.1 hx;have:=h.2 y hy;refine ⟨this.1,?_⟩;show 0<=(if 0 < y.depth then y.depth - 1 else y.depth)+1/\(if 0 < y.depth then y.depth - 1 else y.depth)<=1000000
 split<;>omega⟩
theorem Qpw (t:Fm) (H:List Hit):Qmv t H=(!(Y8 t||decide (0 < Qeu H t))&&Qlk true t.kids H):=by cases t;rw [Qmv];rfl
theorem Qsc:∀t:Fm,t.sz<=1000000->∀{H:List Hit},HS H->H.length<=1000000->Ae t H=some (Qmv t H):=by
 intro t
 induction t using Fm.ind with
 | h t ih =>
  intro ht H h hH;have hz:=Fm.Gb t
  have loop:∀(r:List Fm) (i:Nat) (b:Bool),t.kids.drop i=r->(b=true↔i=0∨∃h:i - 1 < t.kids.length,0 < i/\Y8 t.kids[i - 1]=true) ->
    Hq t H i r=some (if Qlk b r H=true then .inr () else .inl false):=by
   intro r
   induction r with
   | nil=>intro i b _ _;rw [Qlk];rfl
   | cons f r ihr =>
    intro i b hd hb;have hd0:=hd
    have hi:i < t.kids.length:=by
     rcases KA i t.kids.length with h | h
     ·exact h
     ·rw [Zy h] at hd;cases hd
    rw [Zx hi] at hd
    injection hd with e1 e2
    have hm:f∈t.kids:=e1▸ZK hi;have hk:=Fm.Hb hm
    have hb2:∀b',b'=Y8 f->(b'=true↔i+1=0∨∃h:i+1 - 1 < t.kids.length,0 < i+1/\Y8 t.kids[i+1 - 1]=true):=by
     rintro b' rfl;simp only [Nat.add_sub_cancel];constructor
     ·intro h;exact .inr ⟨hi,by omega,by rw [e1];exact h⟩
     ·rintro (h | ⟨_,_,h⟩)
      ·omega
      ·rw [e1] at h;exact h
    rw [Hq,Qlk,Yd,X5,Cx,X5];cases hf:Y8 f
    ·simp only [Qq,if_false];rw [So hd0 (by omega),X5];cases hn:Jt r
     ·simp only [Qq,if_false,Yd,X5,ih f hm (by omega) h hH];cases hs:Qmv f H
      ·simp
      ·simp only [ZU,Qq,if_false,Z1];exact ihr (i+1) false e2 (hb2 false hf.symm)
     ·simp only [if_true,Yd,X5,Qk2 h f (by omega)];cases hr:PB H f
      ·simp [Yd,X5]
      ·simp only [ZU,Qq,if_false,Yd,X5,Qko h hH,ih f hm (by omega) h.less (show (Sk H).length<=1000000 by unfold Sk;rw [ZI];exact hH)];cases hs:Qmv f (Sk H)
       ·simp
       ·simp only [ZU,Qq,if_false,Z1];exact ihr (i+1) false e2 (hb2 false hf.symm)
    ·simp only [if_true]
     by_cases hi0:i=0
     ·subst hi0;have:b=true:=hb.2 (.inl rfl);subst this;simp [Yd,X5]
     ·rw [if_neg (by omega),show i64.wrap ((i:Int) - 1)=((i - 1:Nat):Int) by rw [YC (by omega) (by omega)];omega,Yg _ _ (by omega)];simp only [X5,Cx,Yd];cases hpd:Y8 t.kids[i - 1]
      ·have:b=false:=by
        cases b with
        | false=>rfl
        | true =>
         rcases hb.1 rfl with h | ⟨_,_,h⟩
         ·exact absurd h hi0
         ·rw [h] at hpd;cases hpd
       subst this;simp only [Qq,if_false,ZT,Z1];exact ihr (i+1) true e2 (hb2 true hf.symm)
      ·have:b=true:=hb.2 (.inr ⟨by omega,by omega,hpd⟩);subst this
       simp
  rw [Ae,Qpw,Cx,X5];cases hd:Y8 t
  ·simp only [Qq,if_false,Tf h t,X5,Yd,Z2]
   by_cases h0:Qeu H t > 0
   ·rw [decide_eq_true (show 0 < Qeu H t from h0)];simp
   ·rw [decide_eq_false (show ¬0 < Qeu H t from h0)];simp only [gt_iff_lt,h0,decide_false,Qq,if_false,ZT,Z1];rw [PQ _ _ (by omega),loop t.kids 0 true (ZN ..) ⟨fun _=>.inl rfl,fun _=>rfl⟩,X5];cases Qlk true t.kids H<;>rfl
  ·simp [Yd,X5]
end Go.Proofs.SA
namespace Go.Proofs.Shadow
theorem Qf8 {α β:Type} (F:List β->Nat->List α->Option (List β)) (a:List α) (g:Nat->β) (hn:∀z i,F z i []=some z) (hc:∀(z:List β) (i:Nat) (hi:i < a.length) r,z.length<=1073741824->F z i (a[i] :: r)=F (z++[g i]) (i+1) r) :
  ∀(n i:Nat) (z:List β),i+n=a.length->z.length+n<=1073741824->F z i (a.drop i)=some (z++(List.range' i n).map g):=by
 intro n
 induction n with
 | zero=>intro i z hi _;rw [show i=a.length by omega,Z5,hn];simp
 | succ n ih =>
  intro i z hi hz
  have hil:i < a.length:=by omega
  rw [Zx hil,hc z i hil _ (by omega),ih (i+1) _ (by omega) (by simp;omega),List.range'_succ,List.map_cons,QD];rfl
theorem Rs {α:Type} {p:α->Bool} : ∀{l:List α},(l.filter p).length<=1->∀{i j:Nat} (hi:i < l.length) (hj:j < l.length),p l[i]=true->p l[j]=true->i=j:=by
 intro l
 induction l with
 | nil=>intro _ i j hi;simp at hi
 | cons x l ih =>
  intro h i j hi hj hpi hpj
  have Fs:(l.filter p).length=0->∀k,∀hk:k < l.length,p l[k]=false:=fun h0 k hk=>by
   cases hp:p l[k]
   ·rfl
   ·have:l[k]∈l.filter p:=List.mem_filter.2 ⟨ZK hk,hp⟩;have:=List.length_pos_of_mem this;omega
  cases hx:p x
  ·rw [Z6 (by simp [hx])] at h
   cases i with
   | zero=>simp [hx] at hpi
   | succ i =>
    cases j with
    | zero=>simp [hx] at hpj
    | succ j =>
     simp only [Z3] at hpi hpj;have:=ih h (by simpa using hi) (by simpa using hj) hpi hpj;omega
  ·rw [Z7 hx] at h;have h0:=Fs (by simp at h;simpa using h)
   cases i with
   | zero =>
    cases j with
    | zero=>rfl
    | succ j =>
     have h1:=h0 j (by simpa using hj);simp only [Z3] at hpj;rw [h1] at hpj;cases hpj
   | succ i =>
    have h1:=h0 i (by simpa using hi);simp only [Z3] at hpi;rw [h1] at hpi;cases hpi
theorem RN {α β:Type} {g:α->Option β} : ∀{l:List α} {r:List β},Mx g l=some r->r.length=l.length
 | [],r,h=>by rw [Mx] at h;injection h with h;subst h;rfl
 | x :: l,r,h=>by
  rw [Mx] at h
  cases hx:g x with
  | none=>rw [hx] at h;cases h
  | some y =>
   rw [hx] at h;simp only at h
   cases hl:Mx g l with
   | none=>rw [hl] at h;cases h
   | some r'=>rw [hl] at h;injection h with h;subst h;simp [RN hl]
theorem RO {α β:Type} {g:α->Option β} : ∀{l:List α} {r:List β},Mx g l=some r->∀y∈r,∃x∈l,g x=some y
 | [],r,h,y,hy=>by rw [Mx] at h;injection h with h;subst h;cases hy
 | x :: l,r,h,y,hy=>by
  rw [Mx] at h
  cases hx:g x with
  | none=>rw [hx] at h;cases h
  | some y' =>
   rw [hx] at h;simp only at h
   cases hl:Mx g l with
   | none=>rw [hl] at h;cases h
   | some r' =>
    rw [hl] at h;injection h with h;subst h
    rcases List.mem_cons.1 hy with rfl | hy
    ·exact ⟨x,KB ..,hx⟩
    ·obtain ⟨z,hz,h2⟩:=RO hl y hy;exact ⟨z,Kf _ hz,h2⟩
def Oh (n:Nat):List Fm->Nat
 | []=>0
 | p :: ps=>if Y8 p=true then Oh n ps else if Jt ps=true then n+Oh n ps else 1+Oh n ps
theorem LV (n:Nat):∀l:List Fm,l.any Y8=false->Oh n l=l.length
 | [],_=>rfl
 | p :: ps,h=>by
  rw [ZW,Z9] at h
  have h2:Jt ps=false:=by
   cases ps with
   | nil=>rfl
   | cons q qs=>have:=h.2;rw [ZW,Z9] at this;exact this.1
  rw [Oh,if_neg (by simp [h.1]),if_neg (by simp [h2]),LV n ps h.2,ZE];omega
theorem TF (n:Nat):∀l:List Fm,(l.filter Y8).length<=1->Jt l=false->l.any Y8=true->Oh n l+2=l.length+n
 | [],_,_,h=>by cases h
 | p :: ps,h1,h2,h3=>by
  have hp:Y8 p=false:=h2;rw [Z6 (by simp [hp])] at h1;rw [ZW,hp,Z2] at h3;rw [Oh,if_neg (by simp [hp])];cases hd:Jt ps
  ·rw [if_neg (by simp)];have:=TF n ps h1 hd h3;rw [ZE];omega
  ·rw [if_pos rfl]
   cases ps with
   | nil=>cases hd
   | cons q qs =>
    have hq:Y8 q=true:=hd;rw [Z7 hq,ZE] at h1;have hz:qs.filter Y8=[]:=Kt (by omega)
    have ha:qs.any Y8=false:=by
     rw [Xb];intro x hx hxd;have:x∈qs.filter Y8:=List.mem_filter.2 ⟨hx,hxd⟩;rw [hz] at this;cases this
    rw [Oh,if_pos hq,LV n qs ha,ZE,ZE];omega
end Go.Proofs.Shadow
namespace Go.Proofs.SA
theorem Qgm (ls:List Fm):∀(l:List Fm) (d:Int),(∀f∈l,∀d,∀x∈dps ls d f,d<=x/\x<=d+f.nodes)->∀x∈UJ ls d l,d<=x/\x<=d+1+YY ZL l
 | [],d,_,x,hx=>by cases hx
 | f :: l,d,h,x,hx=>by
  rw [UJ] at hx;rw [YY]
  rcases QR.1 hx with hx | hx
  ·have:=h f (KB ..) _ x hx;split at this<;>omega
  ·have:=Qgm ls l d (fun g hg=>h g (Kf _ hg)) x hx;omega
theorem Qgn (ls:List Fm) (p:Fm):∀d,∀x∈dps ls d p,d<=x/\x<=d+p.nodes:=by
 induction p using Fm.ind with
 | h p ih =>
  intro d x hx;rw [Qaz] at hx;have hn:=Fm.Yx p
  rcases QR.1 hx with hx | hx
  ·split at hx
   ·rw [ZG.1 hx];omega
   ·cases hx
  ·have:=Qgm ls p.kids d ih x hx;omega
theorem Qpc (ls:List Fm) (h:FS ls) (p:Fm) (hp:p.nodes<=100000) (rows:List (List Hit)) (hr:∀r∈rows,r.length=(vrs ls p).length) (hrl:rows.length<=1000000):BE p ls rows=some (Qms ls p rows):=by
 have hvl:=CM ls p;have hdl:=OY ls p 0;rw [BE,Qae ls h p (by omega),X5,NU ls h p hp,X5,OB _ _ _ _ _ (by omega)]
 have:=Qf8 (Iw p rows (vrs ls p) (dps ls 0 p)) (vrs ls p) (fun i=>.mk ((vrs ls p).getD i default) ((dps ls 0 p).getD i 0+1) Fm.zero (rows.map fun r=>r.getD i default)) (fun _ _=>rfl) (fun z i hi r hz=>by
  have hid:i < (dps ls 0 p).length:=by omega
  have hge:=Qgn ls p 0 _ (ZK hid)
  rw [Iw,Yd,X5,Yg _ i hid,X5,OC _ _ _ _ _ _ _ _ _ (by omega),
   G9 (Ix p rows (vrs ls p) (dps ls 0 p) z (i:Int) (vrs ls p)[i] (dps ls 0 p)[i]) (fun r=>r.getD i default) (fun _ _=>rfl) rows [] 0 (fun x hx z2 k r2 hz2=>by
    have hxl:=hr x hx
    rw [Ix,Yd,X5,Yg x i (by omega),X5,YB (by simp;omega),X5,Qz,Qf (by omega)];rfl) (by simp;omega),X5,
   YB (by simp;omega),X5,YC (by omega) (by omega),Qz,Qf hi,Qz,Qf hid];rfl) (vrs ls p).length 0 [] (by omega) (by simp;omega)
 rw [ZN] at this;rw [this,X5,Yd,Qms,Xa];rfl
theorem Ss (ls:List Fm) (p:Fm) (rows:List (List Hit)):(Qms ls p rows).length=(vrs ls p).length:=by simp [Qms]
theorem Qb2 (B:List Bnd) (ls:List Fm):∀(d:Nat) (p:Fm),FIs d p->Y8 p=false->∀(f:Fm) (hs:List Hit),pm B ls p f=some hs->hs.length=(vrs ls p).length:=by
 intro d
 induction d with
 | zero=>intro p h;exact h.elim
 | succ d ih =>
  intro p h hdt f hs e
  have hL:∀(ps:List Fm),(∀q∈ps,FIs d q)->∀(fs:List Fm) (n:Nat) (hs:List Hit),pmL B ls ps fs n=some hs->hs.length=(RH ls ps).length:=by
   intro ps
   induction ps with
   | nil=>intro _ fs n hs e;rw [U4] at e;injection e with e;subst e;rfl
   | cons q ps ihp =>
    intro hq fs n hs e;have hq':=fun x hx=>hq x (Kf q hx);rw [Sq] at e;rw [RH,QV]
    by_cases hd:Y8 q=true
    ·rw [if_pos hd] at e;rw [ihp hq' fs n hs e,OZ]
     have hk:q.kind=1/\q.name=FN:=by unfold Y8 at hd;simpa using hd
     have:q.kids=[]:=by
      have:=hq q (KB ..)
      cases d with
      | zero=>exact this.elim
      | succ d =>
       rcases this with h | h | h
       ·exact Kt h.2.2.2.2
       ·omega
       ·omega
     rw [this,RH,if_neg (by simp [Ul,hk.2])];simp
    ·rw [if_neg hd] at e
     have hd':Y8 q=false:=by simpa using hd
     by_cases hh:Jt ps=true
     ·rw [if_pos hh] at e;split at e
      ·cases e
      ·rename_i rows hrows;obtain ⟨hs2,h2,h3⟩:=Qx.1 e;subst h3;rw [QV,Ss,ihp hq' _ _ _ h2]
     ·rw [if_neg hh] at e;split at e
      ·cases e
      ·rename_i fs' f';split at e
       ·cases e
       ·rename_i hs1 h1;obtain ⟨hs2,h2,h3⟩:=Qx.1 e;subst h3;rw [QV,ih q (hq q (KB ..)) hd' _ _ h1,ihp hq' _ _ _ h2]
  rw [Qpa] at e;rw [OZ]
  rcases h with h | h | h
  ·have hk:p.kids=[]:=Kt h.2.2.2.2;rw [if_pos h.1] at e;rw [hk,RH,List.append_nil]
   by_cases h1:p.name=S6
   ·rw [if_pos h1] at e
    injection e with e;subst e
    rw [if_neg (by simp [Ul,h1])];rfl
   ·rw [if_neg h1] at e
    by_cases h2:p∈ls
    ·rw [if_pos h2] at e;split at e
     ·injection e with e;subst e
      rw [if_neg (by simp [Ul,h2])];rfl
     ·cases e
    ·rw [if_neg h2] at e
     injection e with e;subst e
     have hn:p.name≠FN:=fun hn=>by unfold Y8 at hdt;simp [h.1,hn] at hdt
     rw [if_pos (by simp [Ul,h.1,h1,h2,hn])];rfl
  ·have hk:p.kids=[]:=Kt h.2.2.2.2.2;rw [if_neg (by omega),if_pos h.1] at e;rw [hk,RH,if_neg (by simp [Ul,h.1])];split at e
   ·injection e with e;subst e;rfl
   ·cases e
  ·rw [if_neg (by omega),if_neg (by omega)] at e;rw [if_neg (by simp [Ul,h.1]),QS];split at e
   ·split at e
    ·split at e
     ·cases e
     ·exact hL _ h.2.2.2.2 _ _ _ e
    ·split at e
     ·exact hL _ h.2.2.2.2 _ _ _ e
     ·cases e
   ·cases e
def MR (o:Option (List Hit)) (r:List Hit × Bool):Prop:=match o with | some hs=>r=(hs,true) | none=>r.2=false
theorem RB {B:List Bnd} (hB:BS B) {ls:List Fm} (hls:FS ls):∀(d:Nat) (p:Fm),FIs d p->p.sz<=100000->p.nodes<=400->Qh6 p=true->∀f:Fm,f.sz<=100000->Tot (WG B p ls f) (MR (pm B ls p f)):=by
 intro d
 induction d with
 | zero=>intro p h;exact h.elim
 | succ d ih =>
  intro p h hpz hpn hsh f hfz;have hzp:=Fm.Gb p;have hzf:=Fm.Gb f
  have hpd:Y8 p=false:=by
   cases hd:Y8 p
   ·rfl
   ·rw [Sy,if_pos hd] at hsh;cases hsh
  rw [WG,Qpa]
  rcases h with h | h | h
  ·rw [if_pos h.1,if_pos h.1]
   by_cases h1:p.name=S6
   ·have h1':=h1;unfold S6 at h1';rw [if_pos h1',if_pos h1];exact ⟨_,rfl,rfl⟩
   have h1':=h1;unfold S6 at h1';rw [if_neg h1',if_neg h1,Qbn ls p hls,X5]
   by_cases h2:p∈ls
   ·rw [decide_eq_true h2,if_pos rfl,if_pos h2]
    by_cases h3:f.kind=1
    ·rw [if_pos h3,Qk7 B p f hB (by unfold Sm;omega) (by unfold Sm;omega)];simp only [X5,Yd];cases hr:Oo B p f
     ·exact ⟨_,rfl,by simp [MR]⟩
     ·exact ⟨_,rfl,by simp [MR,h3]⟩
    ·rw [if_neg h3];exact ⟨_,rfl,by simp [MR,h3]⟩
   ·rw [decide_eq_false h2,if_neg (by simp),if_neg h2,YB (by simp),X5];exact ⟨_,rfl,rfl⟩
  ·have n1:¬p.kind=1:=by omega
   simp only [n1,h.1,if_false,if_true];rw [EI p (by omega),X5]
   by_cases h2:p=f
   ·rw [decide_eq_true h2,if_pos h2]
    exact ⟨_,rfl,by
     have hk:p.kids=[]:=Kt h.2.2.2.2.2
     simp [MR]⟩
   ·rw [decide_eq_false h2,if_neg h2];exact ⟨_,rfl,rfl⟩
  have n1:¬p.kind=1:=by omega
  have n2:¬p.kind=2:=by omega
  simp only [n1,n2,if_false]
  by_cases hf3:f.kind=3
  rotate_left
  ·rw [if_neg hf3,if_neg hf3];exact ⟨_,rfl,rfl⟩
  rw [if_pos hf3,if_pos hf3];have hps:=h.2.2.2.2;rw [Sy,hpd] at hsh;simp only [Qq,if_false] at hsh;have hc1:=Oq _ _ _ hsh;have hh:=Qh9 hsh;have hmem:=Sz _ _ _ hsh;generalize hps':p.kids=ps at *;generalize hfs':f.kids=fs at *
  have hfsz:∀x∈fs,x.sz<=100000:=fun x hx=>by have:=Gl Fm.sz fs x hx;omega
  have hpsz:∀x∈ps,x.sz<=100000:=fun x hx=>by have:=Gl Fm.sz ps x hx;omega
  have hnp:=Fm.Yx p;rw [hps'] at hnp
  have hpsn:∀x∈ps,x.nodes<=400:=fun x hx=>by have:=Gl ZL ps x hx;omega
  have row:∀(n i:Nat) (r:Int),i+n+1=ps.length+1->i<=ps.length->(∀j,j < i->∀hj:j+1 < ps.length,Y8 ps[j+1]=true->r=j)->(r=-1∨∃j:Nat,r=j/\∃hj:j+1 < ps.length,Y8 ps[j+1]=true) ->
    Tot (JF B ps ls fs r i) fun r=>(∀j:Nat,∀hj:j+1 < ps.length,Y8 ps[j+1]=true->r=j)/\(r=-1∨∃j:Nat,r=j/\∃hj:j+1 < ps.length,Y8 ps[j+1]=true):=by
   intro n
   induction n with
   | zero =>
    intro i r hi hil h1 h2;rw [JF,Wu (i:=i) (by omega),if_neg (by omega)];exact ⟨_,rfl,fun j hj hd=>h1 j (by omega) hj hd,h2⟩
   | succ n ihn =>
    intro i r hi hil h1 h2;rw [JF,Wu (i:=i) (by omega)]
    by_cases hlt:i+1 < ps.length
    ·rw [if_pos (by omega),Yg ps (i+1) hlt,X5,Cx,X5];cases hd:Y8 ps[i+1]
     ·simp only [Qq,if_false];refine ihn (i+1) r (by omega) (by omega) (fun j hj hj2 hd2=>?_) h2
      by_cases hji:j=i
      ·subst hji;rw [hd] at hd2;cases hd2
      ·exact h1 j (by omega) hj2 hd2
     ·simp only [if_true];refine ihn (i+1) i (by omega) (by omega) (fun j hj hj2 hd2=>?_) (.inr ⟨i,rfl,hlt,hd⟩);have:=Rs (p:=Y8) (by omega) hj2 hlt hd2 hd;omega
    ·rw [if_neg (by omega)];exact ⟨_,rfl,fun j hj hd=>h1 j (by omega) hj hd,h2⟩
  rw [Dz];obtain ⟨w,hw,hw1,hw2⟩:=row ps.length 0 (-1) (by omega) (by omega) (fun j hj=>by omega) (.inl rfl);rw [show ((0:Nat):Int)=0 from rfl] at hw;rw [hw,X5]
  have hany:ps.any Y8=true↔w≠-1:=by
   rw [List.any_eq_true];constructor
   ·rintro ⟨x,hx,hd⟩;obtain ⟨j,hj,rfl⟩:=ZV.1 hx
    cases j with
    | zero =>
     cases ps with
     | nil=>simp at hj
     | cons q qs=>rw [show Jt (q :: qs)=Y8 q from rfl] at hh;simp only [List.getElem_cons_zero] at hd;rw [hd] at hh;cases hh
    | succ j=>have:=hw1 j hj hd;omega
   ·intro hne
    rcases hw2 with h | ⟨j,_,hj,hd⟩
    ·exact absurd h hne
    ·exact ⟨_,ZK hj,hd⟩
  have hrow:∀i:Nat,∀hi:i < ps.length,Y8 ps[i]=false->((i:Int)=w↔Jt (ps.drop (i+1))=true):=fun i hi hnd=>by
   by_cases hlt:i+1 < ps.length
   ·rw [Zx hlt];show _↔Y8 ps[i+1]=true;constructor
    ·intro hiw
     rcases hw2 with h | ⟨j,h2,hj,hd⟩
     ·omega
     ·have:j=i:=by omega
      subst this;exact hd
    ·intro hd;exact (hw1 i hlt hd).symm
   ·rw [Zy (by omega)];constructor
    ·intro hiw
     rcases hw2 with h | ⟨j,h2,hj,hd⟩
     ·omega
     ·omega
    ·intro hd;cases hd
  have main:∀(n:Nat),(w≠-1->i64.wrap ((fs.length:Int) - (i64.wrap ((ps.length:Int) - 2)))=(n:Int))->n<=fs.length->∀(r:List Fm) (i at_:Nat) (z:List Hit),ps.drop i=r->at_+Oh n r=fs.length->z.length+YY ZL r<=1000000 ->
    Tot (WY B ps ls fs w z (at_:Int) i r) fun o=>match pmL B ls r (fs.drop at_) n with | some hs=>o=.inr (z++hs) | none=>∃z',o=.inl (z',false):=by
   intro n hn hnf r
   induction r with
   | nil=>intro i at_ z _ _ _;rw [WY,U4];exact ⟨_,rfl,by simp⟩
   | cons q r ihr =>
    intro i at_ z hd hneed hz;have hd0:=hd
    have hi:i < ps.length:=by
     rcases KA i ps.length with h | h
     ·exact h
     ·rw [Zy h] at hd;cases hd
    rw [Zx hi] at hd
    injection hd with e1 e2
    have hm:q∈ps:=e1▸ZK hi;rw [WY,Yd,X5,Cx,X5,Sq];rw [Oh] at hneed;rw [YY] at hz;have hqn:=Be q;cases hq:Y8 q;rotate_left
    ·rw [hq,if_pos rfl] at hneed;simp only [if_true];exact ihr (i+1) at_ z e2 hneed (by omega)
    rw [hq,if_neg (by simp)] at hneed;simp only [Qq,if_false];have hq':Qh6 q=true:=(hmem q hm).resolve_left (by simp [hq]);have hqz:=hpsz q hm;have hqnn:=hpsn q hm;have hrw:=hrow i hi (by rw [e1];exact hq);rw [e2] at hrw
    by_cases hhd:Jt r=true
    ·rw [if_pos hhd] at hneed ⊢;rw [if_pos (hrw.2 hhd)]
     have hwn:w≠-1:=by have:=hrw.2 hhd;omega
     rw [hn hwn]
     have l2:∀(m:Nat) (acc:List (List Hit)) (k:Nat),k+m=at_+n->acc.length+m<=100000->Tot (GD B ps ls fs w z (i:Int) acc (k:Int) (m:Int)) fun o=>match Mx (pm B ls q) ((fs.drop k).take m) with | some rows=>o=.inr (acc++rows,((at_+n:Nat):Int)) | none=>∃z',o=.inl (z',false):=by
      intro m
      induction m with
      | zero =>
       intro acc k hk _;rw [GD,if_neg (by omega),List.take_zero,Mx];exact ⟨_,rfl,by simp;omega⟩
      | succ m ihm =>
       intro acc k hk hacc
       have hkl:k < fs.length:=by omega
       rw [GD,if_pos (by omega),Yg ps i hi,X5,Yg fs k hkl,X5,e1,Zx hkl,List.take_succ_cons,Mx];have:=ih q (hps q hm) hqz hqnn hq' fs[k] (hfsz _ (ZK hkl));obtain ⟨rr,hrr,hmr⟩:=this;rw [hrr,X5]
       cases hpm:pm B ls q fs[k] with
       | none =>
        rw [hpm] at hmr;have:rr.2=false:=hmr;rw [this];simp only [ZT,if_true];exact ⟨_,rfl,_,rfl⟩
       | some hs =>
        rw [hpm] at hmr;have:rr=(hs,true):=hmr;subst this;simp only [ZU,Qq,if_false];rw [YB (by simp;omega),X5,Wu (i:=k) (by omega),show i64.wrap (((m+1:Nat):Int) - 1)=(m:Int) by rw [YC (by omega) (by omega)];omega];obtain ⟨o,ho,hop⟩:=ihm (acc++[hs]) (k+1) (by omega) (by simp;omega);refine ⟨o,ho,?_⟩
        cases hall:Mx (pm B ls q) ((fs.drop (k+1)).take m) with
        | none=>rw [hall] at hop;exact hop
        | some rows=>rw [hall] at hop;simp only [Qu];rw [hop];simp
     obtain ⟨o,ho,hop⟩:=l2 n [] at_ rfl (by have:=hfz;have:=W3 fs;simp;omega);rw [ho,X5]
     cases hall:Mx (pm B ls q) ((fs.drop at_).take n) with
     | none =>
      rw [hall] at hop;obtain ⟨z',rfl⟩:=hop;exact ⟨_,rfl,_,rfl⟩
     | some rows =>
      rw [hall] at hop;simp only at hop;subst hop;simp only [QS];have hrl:=RN hall
      rw [X5,Qpc ls hls q (by omega) rows (fun r hr=>by
       obtain ⟨x,hx,h2⟩:=RO hall r hr
       exact Qb2 B ls d q (hps q hm) hq x r h2) (by rw [hrl,List.length_take];omega),X5]
      have hvl:=CM ls q;rw [YB (by rw [Ss];omega),X5];obtain ⟨o,ho,hop⟩:=ihr (i+1) (at_+n) (z++Qms ls q rows) e2 (by omega) (by rw [QV,Ss];omega);refine ⟨o,ho,?_⟩;rw [Z8]
      cases hpl:pmL B ls r (fs.drop (at_+n)) n with
      | none=>rw [hpl] at hop;exact hop
      | some hs=>rw [hpl] at hop;simp only [Qu];rw [hop,QD]
    ·rw [if_neg hhd] at hneed ⊢;rw [if_neg (fun h=>hhd (hrw.1 h))]
     have hal:at_ < fs.length:=by omega
     rw [Zx hal];simp only [Yd,X5,Yg fs at_ hal];obtain ⟨rr,hrr,hmr⟩:=ih q (hps q hm) hqz hqnn hq' fs[at_] (hfsz _ (ZK hal));rw [hrr,X5]
     cases hpm:pm B ls q fs[at_] with
     | none =>
      rw [hpm] at hmr;have:rr.2=false:=hmr;rw [this];simp only [ZT,if_true];exact ⟨_,rfl,_,rfl⟩
     | some hs =>
      rw [hpm] at hmr;have:rr=(hs,true):=hmr;subst this;simp only [ZU,Qq,if_false];have hl:=Qb2 B ls d q (hps q hm) hq _ _ hpm;have hvl:=CM ls q;rw [YB (by omega),X5,Wu (i:=at_) (by omega)];obtain ⟨o,ho,hop⟩:=ihr (i+1) (at_+1) (z++hs) e2 (by omega) (by rw [QV];omega);refine ⟨o,ho,?_⟩
      cases hpl:pmL B ls r (fs.drop (at_+1)) n with
      | none=>rw [hpl] at hop;exact hop
      | some hs2=>rw [hpl] at hop;simp only [Qu];rw [hop,QD]
  have hfl:fs.length<=100000:=by omega
  have hpl:ps.length<=400:=by have:=W3 ps;omega
  have fin:∀n:Nat,(w≠-1->i64.wrap ((fs.length:Int) - (i64.wrap ((ps.length:Int) - 2)))=(n:Int))->n<=fs.length->Oh n ps=fs.length->Tot ((Wo B ps ls fs w [] 0 0>>=fun o27=>match o27 with | .inl r=>pure r | .inr Qa6=>(pure (Qa6,true)):Option (List Hit × Bool))>>=fun x55=>pure (x55.1,x55.2)) (MR (pmL B ls ps fs n)):=fun n h1 h2 h3=>by
   rw [M5 _ _ _ _ _ _ _ (by omega)];obtain ⟨o,ho,hop⟩:=main n h1 h2 ps 0 0 [] (ZN ..) (by omega) (by simp;omega);rw [show ((0:Nat):Int)=0 from rfl] at ho;rw [ho,X5];rw [ZN] at hop
   cases hpm:pmL B ls ps fs n with
   | none=>rw [hpm] at hop;obtain ⟨z',rfl⟩:=hop;exact ⟨_,rfl,rfl⟩
   | some hs=>rw [hpm] at hop;simp only at hop;subst hop;exact ⟨_,rfl,by simp [MR]⟩
  have hw0:w=-1∨0<=w:=by rcases hw2 with h | ⟨j,h,_⟩<;>omega
  have hwr:i64.wrap ((ps.length:Int) - 2)=(ps.length:Int) - 2:=YC (by omega) (by omega)
  by_cases hwn:w=-1
  ·have hno:¬ps.any Y8=true:=fun h=>hany.1 h hwn;rw [if_neg hno];subst hwn;simp only [show decide ((-1:Int) < 0)=true from rfl,show decide ((-1:Int)≥0)=false from rfl,Z1,Z4,Yd,X5]
   by_cases hlen:ps.length=fs.length
   ·rw [if_pos hlen,decide_eq_true (show (ps.length:Int)=(fs.length:Int) by omega)];simp only [ZU,Qq,if_false,X5];exact fin 0 (fun h=>absurd rfl h) (by omega) (by rw [LV 0 ps (by simpa using hno)];exact hlen)
   ·rw [if_neg hlen,decide_eq_false (show ¬(ps.length:Int)=(fs.length:Int) by omega)];simp only [ZT,if_true,X5];exact ⟨_,rfl,rfl⟩
  ·have hyes:ps.any Y8=true:=hany.2 hwn;have hw1':0<=w:=hw0.resolve_left hwn;rw [if_pos hyes];simp only [decide_eq_false (show ¬w < 0 by omega),decide_eq_true (show w≥0 from hw1'),Z4,Z1,Yd,X5,Qq,if_false,hwr]
   by_cases hlen:fs.length+2 < ps.length
   ·rw [if_pos hlen,decide_eq_true (show (fs.length:Int) < (ps.length:Int) - 2 by omega)];simp only [if_true,X5];exact ⟨_,rfl,rfl⟩
   ·rw [if_neg hlen,decide_eq_false (show ¬(fs.length:Int) < (ps.length:Int) - 2 by omega)];simp only [Qq,if_false,X5]
    have h2:2<=ps.length:=by
     rcases hw2 with h | ⟨j,_,hj,_⟩
     ·exact absurd h hwn
     ·omega
    refine fin (fs.length+2 - ps.length) (fun _=>?_) (by omega) ?_
    ·rw [hwr,YC (by omega) (by omega)];omega
    ·have:=TF (fs.length+2 - ps.length) ps (by omega) hh hyes;omega
end Go.Proofs.SA
namespace Go.Proofs.SA
theorem Vv {α:Type} {l:List α} {i:Nat} {d:α} (h:i < l.length):l.getD i d=l[i]:=by rw [Qz,Qf h];rfl
theorem Qh4 (ls:List Fm) (h:FS ls) (p:Fm) (hp:p.nodes<=100000):Bh p ls=some (Mz p ls):=by
 have hvl:=CM ls p;have hdl:=OY ls p 0;rw [Bh,Qae ls h p (by omega),X5,NU ls h p hp,X5,Mi _ _ _ _ (by omega)]
 have:=Qf8 (J4 p (vrs ls p) (dps ls 0 p)) (vrs ls p) (fun i=>.mk ((vrs ls p).getD i default) ((dps ls 0 p).getD i 0) (if (dps ls 0 p).getD i 0=0 then (vrs ls p).getD i default else Fm.zero) []) (fun _ _=>rfl) (fun z i hi r hz=>by
  have hid:i < (dps ls 0 p).length:=by omega
  rw [J4,Yd,X5,Yg _ i hid,X5,Vv hi,Vv hid]
  by_cases h0:(dps ls 0 p)[i]=0
  ·rw [if_pos h0,if_pos h0,X5,YB (by simp;omega),X5]
  ·rw [if_neg h0,if_neg h0,YB (by simp;omega),X5];rfl) (vrs ls p).length 0 [] (by omega) (by simp;omega)
 rw [ZN] at this;rw [this,X5,Yd,Mz,Xa];rfl
theorem Qh5 (ls:List Fm) (p:Fm) (hp:p.nodes<=400) (hz:p.sz<=100000):HS (Mz p ls)/\(Mz p ls).length<=400:=by
 have hvl:=CM ls p;have hdl:=OY ls p 0;refine ⟨⟨by unfold Sm;simp [Mz];omega,fun h hh=>?_⟩,by simp [Mz];omega⟩;unfold Mz at hh;obtain ⟨i,hi,rfl⟩:=QX.1 hh
 have hi':i < (vrs ls p).length:=by simpa using hi
 have hid:i < (dps ls 0 p).length:=by omega
 show ((vrs ls p).getD i default).sz<=1000000/\0<=(dps ls 0 p).getD i 0+1/\(dps ls 0 p).getD i 0<=1000000;rw [Vv hi',Vv hid];have h1:=Qah ls p _ (ZK hi');have h2:=Qgn ls p 0 _ (ZK hid);omega
def Qit (ls:List Fm) (r:Rul):Prop:=Qmz ls r.pat/\r.pat.kind=3/\0 < r.pat.kids.length/\FV r.tpl/\Qmv r.tpl (Mz r.pat ls)=true
def NL (ls:List Fm) (rs:List Rul):Prop:=rs.length < 10/\(∀r∈rs,Qit ls r)/\Qex ls
def RS (rs:List Rul):Prop:=Sm rs.length/\∀r∈rs,r.pat.sz<=100000/\r.tpl.sz<=100000
theorem Qdz {ls:List Fm} (h:FS ls) {r:Rul} (h1:r.pat.sz<=100000) (h2:r.tpl.sz<=100000):Tot (BY r ls) fun b=>b=true↔Qit ls r:=by
 rw [BY];refine ZA (Qkh h1 h) fun b hb=>?_;cases b
 ·simp only [Z4,Yd,X5,Qq,if_false];exact ⟨_,rfl,fun h=>(by cases h),fun h=>(by have:=hb.2 h.1;cases this)⟩
 have hp:=hb.1 rfl;simp only [Z1,Yd,X5]
 by_cases h3:r.pat.kind=3
 rotate_left
 ·simp only [h3,decide_false,Z4,Qq,if_false,Yd,X5];exact ⟨_,rfl,fun h=>(by cases h),fun h=>absurd h.2.1 h3⟩
 by_cases h4:(r.pat.kids.length:Int) > 0
 rotate_left
 ·simp only [h3,h4,decide_false,decide_true,Z1,Qq,if_false,Yd,X5];exact ⟨_,rfl,fun h=>(by cases h),fun h=>absurd h.2.2.1 (by omega)⟩
 simp only [h3,h4,decide_true,Z1,if_true];obtain ⟨b2,e2,hb2⟩:=Ah (f:=r.tpl) (by omega);rw [e2];simp only [Yd,X5];cases b2
 ·simp only [Qq,if_false,Yd,X5];exact ⟨_,rfl,fun h=>(by cases h),fun h=>(by have:=hb2.2 h.2.2.2.1;cases this)⟩
 have hn:=hp.1.2;obtain ⟨hh,hl⟩:=Qh5 ls r.pat hn h1;simp only [if_true,Qh4 ls h r.pat (by omega),Qsc r.tpl (by omega) hh (by omega),Yd,X5];refine ⟨_,rfl,fun h=>⟨hp,h3,by omega,hb2.1 rfl,h⟩,fun h=>h.2.2.2.2⟩
theorem Qh0 {ls:List Fm} (h:FS ls) {rs:List Rul} (hr:RS rs):∀(n i:Nat),i+n=10->Tot (JO rs ls i) fun o=>match o with
  | .inl r=>r=false/\∃x∈rs,¬Qit ls x
  | .inr _=>∀j,i<=j->j < 10->∀h:j < rs.length,Qit ls rs[j]:=by
 intro n
 induction n with
 | zero=>intro i hi;rw [JO,Yd,X5,if_neg (by simp;omega)];exact ⟨_,rfl,fun j h1 h2=>by omega⟩
 | succ n ih =>
  intro i hi;rw [JO,Yd,X5]
  by_cases hil:i < rs.length
  rotate_left
  ·rw [if_neg (by simp;omega)];exact ⟨_,rfl,fun j h1 h2 h3=>by omega⟩
  have hm:=ZK hil;rw [if_pos (by simp;omega),Yg rs i hil,X5];refine ZA (Qdz h (hr.2 _ hm).1 (hr.2 _ hm).2) fun b hb=>?_;cases b
  ·simp only [ZT,if_true];exact ⟨_,rfl,rfl,_,hm,fun h=>by have:=hb.2 h;cases this⟩
  ·simp only [ZU,Qq,if_false,Wu (i:=i) (by omega)];refine (ih (i+1) (by omega)).mono fun o ho=>?_
   cases o with
   | inl r=>exact ho
   | inr u =>
    exact fun j h5 h6 h7=>by
     by_cases hj:j=i
     ·subst hj;exact hb.1 rfl
     ·exact ho j (by omega) h6 h7
theorem On {ls:List Fm} (h:FS ls) {rs:List Rul} (hr:RS rs):Tot (Au rs ls) fun b=>b=true↔NL ls rs:=by
 rw [Au];refine ZA (Qh0 h hr 10 0 (by omega)) fun o ho=>?_
 cases o with
 | inl r =>
  obtain ⟨h0,x,hx,hn⟩:=ho;subst h0;exact ⟨_,rfl,fun h=>(by cases h),fun h=>absurd (h.2.1 x hx) hn⟩
 | inr u =>
  simp only
  by_cases hl:rs.length < 10
  ·rw [if_pos (by omega)];obtain ⟨b,e,hb⟩:=F9 h;rw [e];simp only [Yd,X5];refine ⟨_,rfl,?_⟩;simp only [hb];refine ⟨fun h=>⟨hl,fun r hr=>?_,h⟩,fun h=>h.2.2⟩;obtain ⟨j,hj,rfl⟩:=ZV.1 hr;exact ho j (Nat.zero_le _) (by omega) hj
  ·rw [if_neg (by omega)];exact ⟨false,rfl,fun h=>(by cases h),fun h=>absurd h.1 hl⟩
def Qav:ByteArray:=Qk #[114,117,108,101,115]
def He (f:Fm):List Fm × List Rul:=((f.kids.getD 1 default).kids,(f.kids.drop 2).map fun x=>⟨x.kids.getD 0 default,x.kids.getD 1 default⟩)
def Qcj (f:Fm):Prop:=FV f/\f.kind=3/\2<=f.kids.length/\(f.kids.getD 0 default).name=Qav/\(f.kids.getD 1 default).kind=3/\(∀x∈f.kids.drop 2,x.kind=3/\x.kids.length=2)/\NL (He f).1 (He f).2
theorem U3 {f:Fm} (hf:f.sz<=100000):Tot (HK f) fun r=>(Qcj f/\r=((He f).1,(He f).2,true))∨(¬Qcj f/\r.2.2=false):=by
 have hz:=Fm.Gb f;have bad:¬Qcj f->Tot (some ([],[],false):Option (List Fm × List Rul × Bool)) fun r=>(Qcj f/\r=((He f).1,(He f).2,true))∨(¬Qcj f/\r.2.2=false):=fun h=>⟨_,rfl,.inr ⟨h,rfl⟩⟩;rw [HK];refine ZA (Ah (by omega)) fun b hb=>?_;cases b
 ·simp only [ZT,Bool.true_or,Yd,X5,if_true]
  exact bad fun h=>by have:=hb.2 h.1;cases this
 simp only [ZU,Z2,Yd,X5]
 by_cases h3:f.kind=3
 rotate_left
 ·simp only [h3,decide_false,ZT,Bool.true_or,if_true,Yd,X5];exact bad fun h=>h3 h.2.1
 by_cases h4:(f.kids.length:Int) < 2
 ·simp only [h3,h4,decide_true,ZU,Z2,if_true,Yd,X5]
  exact bad fun h=>by have:=h.2.2.1;omega
 have l0:0 < f.kids.length:=by omega
 have l1:1 < f.kids.length:=by omega
 simp only [h3,h4,decide_true,decide_false,ZU,Z2,Qq,if_false,show idx f.kids 0=some f.kids[0] from Yg f.kids 0 l0,show idx f.kids 1=some f.kids[1] from Yg f.kids 1 l1,Yd,X5];have g0:f.kids.getD 0 default=f.kids[0]:=Vv l0;have g1:f.kids.getD 1 default=f.kids[1]:=Vv l1
 by_cases h5:f.kids[0].name=Qav
 rotate_left
 ·have h5':=h5;unfold Qav at h5';simp only [h5',decide_false,ZT,if_true,Yd,X5];exact bad fun h=>h5 (by rw [← g0];exact h.2.2.2.1)
 have h5':=h5;unfold Qav at h5';simp only [h5',decide_true,ZU,Qq,if_false,Yd,X5]
 by_cases h6:f.kids[1].kind=3
 rotate_left
 ·simp only [h6,decide_false,ZT,if_true];exact bad fun h=>h6 (by rw [← g1];exact h.2.2.2.2.1)
 simp only [h6,decide_true,ZU,Qq,if_false];have k1:=Fm.Hb (ZK l1);have hz1:=Fm.Gb f.kids[1]
 have lp0:∀(n i:Nat),i+n=f.kids[1].kids.length->∀z:List Fm,z.length+n<=200000->Wc f z i=some (z++f.kids[1].kids.drop i):=by
  intro n
  induction n with
  | zero =>
   intro i hi z _;rw [Wc,show idx f.kids 1=some f.kids[1] from Yg f.kids 1 l1,X5,if_neg (by omega),show i=f.kids[1].kids.length by omega,Z5];simp [Yd]
  | succ n ih =>
   intro i hi z hzl
   have hil:i < f.kids[1].kids.length:=by omega
   have:=Fm.Hb (ZK hil);rw [Wc,show idx f.kids 1=some f.kids[1] from Yg f.kids 1 l1,X5,if_pos (by omega),X5,Yg _ i hil,X5,LA _ (by omega),X5,YB (by simp;omega),X5,Wu (i:=i) (by omega),ih (i+1) (by omega) _ (by simp;omega),QD,Zx hil];rfl
 have e0:=lp0 f.kids[1].kids.length 0 (by omega) [] (by simp;omega);rw [show ((0:Nat):Int)=0 from rfl] at e0;rw [e0,X5,QS,ZN]
 have lp1:∀(n i:Nat),i+n=f.kids.length->∀z:List Rul,z.length+n<=200000->Tot (Wd f f.kids[1].kids z i) fun o=>((∀x∈f.kids.drop i,x.kind=3/\x.kids.length=2)/\o=.inr (z++(f.kids.drop i).map fun x=>⟨x.kids.getD 0 default,x.kids.getD 1 default⟩))∨(¬(∀x∈f.kids.drop i,x.kind=3/\x.kids.length=2)/\∃r,o=.inl r/\r.2.2=false):=by
  intro n
  induction n with
  | zero =>
   intro i hi z _;rw [Wd,if_neg (by omega),show i=f.kids.length by omega,Z5];exact ⟨_,rfl,.inl ⟨by simp,by simp⟩⟩
  | succ n ih =>
   intro i hi z hzl
   have hil:i < f.kids.length:=by omega
   have k2:=Fm.Hb (ZK hil);rw [Wd,if_pos (by omega),Yg _ i hil,Zx hil];simp only [X5]
   by_cases q1:f.kids[i].kind=3
   rotate_left
   ·rw [if_neg q1];simp only [Yd,X5,if_true];exact ⟨_,rfl,.inr ⟨fun h=>q1 (h _ (KB ..)).1,_,rfl,rfl⟩⟩
   rw [if_pos q1]
   by_cases q2:f.kids[i].kids.length=2
   rotate_left
   ·simp only [Yd,X5,decide_eq_false (show ¬(f.kids[i].kids.length:Int)=2 by omega),ZT,if_true];exact ⟨_,rfl,.inr ⟨fun h=>q2 (h _ (KB ..)).2,_,rfl,rfl⟩⟩
   have j0:0 < f.kids[i].kids.length:=by omega
   have j1:1 < f.kids[i].kids.length:=by omega
   have m0:=Fm.Hb (ZK j0);have m1:=Fm.Hb (ZK j1);simp only [Yd,X5,decide_eq_true (show (f.kids[i].kids.length:Int)=2 by omega),ZU,Qq,if_false,show idx f.kids[i].kids 0=some f.kids[i].kids[0] from Yg _ 0 j0,show idx f.kids[i].kids 1=some f.kids[i].kids[1] from Yg _ 1 j1];rw [LA _ (by omega),LA _ (by omega)];simp only [X5];rw [YB (by simp;omega),X5,Wu (i:=i) (by omega)];refine (ih (i+1) (by omega) _ (by simp;omega)).mono fun o ho=>?_
   rcases ho with ⟨r1,r2⟩ | ⟨r1,r2⟩
   ·refine .inl ⟨fun x hx=>?_,?_⟩
    ·rcases List.mem_cons.1 hx with rfl | hx
     ·exact ⟨q1,q2⟩
     ·exact r1 x hx
    ·rw [r2,List.map_cons,Vv j0,Vv j1,QD];rfl
   ·exact .inr ⟨fun h=>r1 fun x hx=>h x (Kf _ hx),r2⟩
 obtain ⟨o,ho,hop⟩:=lp1 (f.kids.length - 2) 2 (by omega) [] (by simp;omega);rw [show ((2:Nat):Int)=2 from rfl] at ho;rw [ho,X5]
 rcases hop with ⟨r1,r2⟩ | ⟨r1,r,r2,r3⟩
 ·subst r2;simp only [QS];have hls:FS f.kids[1].kids:=⟨by unfold Sm;omega,fun x hx=>by have:=Fm.Hb hx;omega⟩
  have hrs:RS ((f.kids.drop 2).map fun x=>(⟨x.kids.getD 0 default,x.kids.getD 1 default⟩:Rul)):=⟨by rw [ZI,List.length_drop];unfold Sm;omega,fun x hx=>by
   obtain ⟨y,hy,rfl⟩:=QX.1 hx;have q:=(r1 y hy).2;have k2:=Fm.Hb (List.mem_of_mem_drop hy)
   have j0:0 < y.kids.length:=by omega
   have j1:1 < y.kids.length:=by omega
   have m0:=Fm.Hb (ZK j0);have m1:=Fm.Hb (ZK j1);simp only [Vv j0,Vv j1]
   omega⟩
  have er:He f=(f.kids[1].kids,(f.kids.drop 2).map fun x=>⟨x.kids.getD 0 default,x.kids.getD 1 default⟩):=by unfold He;rw [g1]
  obtain ⟨b2,e2,hb2⟩:=On hls hrs;rw [e2,X5];cases b2
  ·simp only [ZT,if_true];refine bad fun h=>?_;have:=h.2.2.2.2.2.2;rw [er] at this;have:=hb2.2 this;cases this
  ·simp only [ZU,Qq,if_false];refine ⟨_,rfl,.inl ⟨⟨hb.1 rfl,h3,by omega,by rw [g0];exact h5,by rw [g1];exact h6,r1,by rw [er];exact hb2.1 rfl⟩,by rw [er]⟩⟩
 ·subst r2;exact ⟨_,rfl,.inr ⟨fun h=>r1 h.2.2.2.2.2.1,r3⟩⟩
theorem Qmq:∀f:Fm,f.sz<=1000000->Wl f=some f:=by
 intro f
 induction f using Fm.ind with
 | h f ih =>
  intro hf;have hz:=Fm.Gb f
  rw [Wl,YB (by simp;omega),X5,H8,C9 _ _ (by omega),G9 (V2 f.kids) id (fun _ _=>rfl) f.kids [] 0 (fun x hx z i r hzb=>by
   have:=Fm.Hb hx
   rw [V2,Yd,X5,ih x hx (by omega),X5,YB (by simp;omega),X5];rfl) (by simp;omega)]
  simp only [X5,Yd,QS,List.map_id,Fm.eta]
theorem U0 (rs:List Rul) (hr:RS rs) (hl:rs.length<=1000000):G0 rs=some rs:=by
 rw [G0,Da _ _ (by omega),G9 (V3 rs) id (fun _ _=>rfl) rs [] 0 (fun x hx z i r hzb=>by
  have:=hr.2 x hx
  rw [V3,Yd,X5,IF,Qmq _ (by omega),X5,Qmq _ (by omega),X5,Yd,X5,YB (by simp;omega),X5];rfl) (by simp;omega)]
 simp only [X5,Yd,QS,List.map_id]
end Go.Proofs.SA
