/- The reference's patterns, templates, rules: what is valid. -/
import Derived.Test.YthdghhllcllneaaGreatDoorRa
import Derived.Test.YthdghhllcllneaaGreatDoorPb
set_option linter.unusedVariables false
set_option linter.unusedSimpArgs false
set_option maxRecDepth 100000
open Go Go.Proofs Go.Proofs.Shadow
open _root_.Bool renaming false_eq_true → Qq, not_true → ZT, not_false → ZS, true_and → Z0, false_or → Z1, false_and → Z3, or_eq_false_iff → Z8
open _root_.List renaming getElem_mem → ZJ, drop_eq_getElem_cons → Zw, mem_cons_self → KB, mem_cons_of_mem → Kf, length_append → QV, append_assoc → QD, eq_nil_of_length_eq_zero → Kz, drop_zero → ZM, drop_of_length_le → Zx, getD_eq_getElem?_getD → Qz, getElem?_eq_getElem → Qf, nil_append → QS, length_cons → ZD, getElem_cons_succ → Z2, mem_append → QR, drop_length → Z4, filter_cons_of_neg → Z5, filter_cons_of_pos → Z6, length_map → ZH, drop_drop → Z7, range_eq_range' → Z9, mem_iff_getElem → ZU, any_cons → ZV, mem_singleton → ZF, any_eq_false → Xa, mem_map → QX
open Fm renaming nodes → ZK
open _root_.Option renaming map_eq_some_iff → Qx, map_some → Qu
open _root_.ByteArray renaming mk → Qk
open _root_.Nat renaming lt_or_ge → KA
open Tot renaming bind → Zz
open Go.IntKind (i64)
namespace Go.Proofs.Shadow
theorem Qg3 {α:Type} (F:Nat->List α->Option (Int ⊕ Unit)) (p:α->Bool) (hn:∀i,F i []=some (.inr ())):∀(l:List α) (i:Nat),(∀x∈l,∀i r,F i (x :: r)=if p x=true then some (.inl (i:Int)) else F (i+1) r) ->
  (∃j,∃hj:j < l.length,F i l=some (.inl ((i+j:Nat):Int))/\l.find? p=some l[j])∨(F i l=some (.inr ())/\l.find? p=none):=by
 intro l
 induction l with
 | nil=>intro i _;exact .inr ⟨hn _,rfl⟩
 | cons x l ih =>
  intro i hc;rw [hc x (KB ..),List.find?_cons];cases hp:p x
  ·rw [if_neg (by simp)]
   rcases ih (i+1) (fun y hy=>hc y (Kf _ hy)) with ⟨j,hj,h1,h2⟩ | ⟨h1,h2⟩
   ·exact .inl ⟨j+1,by simp;omega,by rw [h1];congr 3;omega,by simpa using h2⟩
   ·exact .inr ⟨h1,h2⟩
  ·exact .inl ⟨0,by simp,by simp,by simp⟩
end Go.Proofs.Shadow
namespace Go.Proofs.SA
theorem SC (f:Fm) (ls:List Fm) (h:FS ls):Ao f ls=some (Ud ls f):=by
 rw [Ao,Ud];unfold FC SZ
 by_cases h1:f.kind=1
 ·by_cases h2:f.name=Qk #[46,46,46]
  ·simp only [h1,decide_eq_true h2,Yd,X6];rfl
  ·by_cases h3:f.name=Qk #[95]
   ·simp only [h1,decide_eq_false h2,decide_eq_true h3,Yd,X6];rfl
   ·simp only [h1,decide_eq_false h2,decide_eq_false h3,Yd,X6,Qbf ls f h];rfl
 ·simp only [h1,decide_false,Yd,X6];rfl
theorem Qeb (ls:List Fm) (h:FS ls):∀(p:Fm) (z:List Fm),z.length+p.nodes<=1000000->JH z p ls=some (z++vrs ls p):=by
 intro p
 induction p using Fm.ind with
 | h p ih =>
  intro z hz;have hn:=Fm.YC p;have hl:=W1 p.kids
  have loop:∀(r:List Fm),(∀g∈r,g∈p.kids)->∀(z:List Fm) (i:Nat),z.length+YY ZK r<=1000000->WY p ls z i r=some (z++RA ls r):=by
   intro r
   induction r with
   | nil=>intro _ z i _;rw [WY,Yd];simp [RA]
   | cons f r ihr =>
    intro hr z i hz;rw [YY] at hz;rw [WY,Yd,X6,ih f (hr f (KB ..)) z (by omega),X6];have:=CJ ls f;rw [ihr (fun g hg=>hr g (Kf _ hg)) _ _ (by rw [QV];omega),RA,QD]
  rw [JH,SC p ls h,X6,OQ];cases Ud ls p
  ·simp only [Qq,if_false,Yd,X6];rw [BW _ _ _ (by omega),loop _ (fun _ h=>h) _ _ (by omega)];simp [X6]
  ·simp only [if_true,Yd,X6];rw [YA (by simp;omega)];simp only [X6];rw [BW _ _ _ (by omega),loop _ (fun _ h=>h) _ _ (by simp;omega)];simp [X6]
theorem U7 (ls:List Fm) (h:FS ls) (p:Fm) (hp:p.nodes<=1000000):Aj [] p ls=some (vrs ls p):=by
 have hn:=Fm.YC p;have hl:=W1 p.kids
 have loop:∀(r:List Fm) (z:List Fm) (i:Nat),z.length+YY ZK r<=1000000->GZ p ls z i r=some (z++RA ls r):=by
  intro r
  induction r with
  | nil=>intro z i _;rw [GZ,Yd];simp [RA]
  | cons f r ihr =>
   intro z i hz;rw [YY] at hz;rw [GZ,Yd,X6,Qeb ls h f z (by omega),X6];have:=CJ ls f;rw [ihr _ _ (by rw [QV];omega),RA,QD]
 rw [Aj,SC p ls h,X6,OQ];cases Ud ls p
 ·simp only [Qq,if_false,Yd,X6];rw [DE _ _ _ (by omega),loop _ _ _ (by simp;omega)];simp [X6]
 ·simp only [if_true,Yd,X6];rw [YA (by simp)];simp only [X6];rw [DE _ _ _ (by omega),loop _ _ _ (by simp;omega)];simp [X6]
theorem Sh {ks:List Fm} {i:Nat} {f:Fm} {r:List Fm} (hd:ks.drop i=f :: r) (hl:ks.length<=1099511627776) :
  ((if (i64.wrap ((i:Int)+1)) < (ks.length:Int) then (idx ks (i64.wrap ((i:Int)+1))>>=fun x37=>(YZ x37>>=fun x39=>pure x39)) else pure false:Option Bool))=some (Js r):=by
 have hi:i < ks.length:=by
  rcases KA i ks.length with h | h
  ·exact h
  ·rw [Zx h] at hd;cases hd
 rw [Zw hi] at hd
 injection hd with e1 e2
 rw [Ws (i:=i) (by omega)]
 by_cases h:i+1 < ks.length
 ·rw [if_pos (by omega),Yf ks (i+1) h];rw [Zw h] at e2;rw [← e2];rfl
 ·rw [if_neg (by omega)];rw [Zx (by omega)] at e2;rw [← e2];rfl
theorem UC (ls:List Fm) (d:Int) (f:Fm):(dps ls d f).length<=f.nodes:=by rw [← OP];exact CJ ls f
theorem S8 (ls:List Fm) (h:FS ls):∀(p:Fm) (z:List Int) (d:Int),z.length+p.nodes<=1000000->0<=d->d+p.nodes<=1000000->Vz z p ls d=some (z++dps ls d p):=by
 intro p
 induction p using Fm.ind with
 | h p ih =>
  intro z d hz h0 h1;have hn:=Fm.YC p;have hl:=W1 p.kids
  have loop:∀(r:List Fm),(∀g∈r,g∈p.kids)->∀(z:List Int) (i:Nat),p.kids.drop i=r->z.length+YY ZK r<=1000000->VG p ls d z i r=some (z++UB ls d r):=by
   intro r
   induction r with
   | nil=>intro _ z i _ _;rw [VG,Yd];simp [UB]
   | cons f r ihr =>
    intro hr z i hd hz
    have hd2:p.kids.drop (i+1)=r:=by rw [← Z7,hd];rfl
    rw [YY] at hz;have hm:=hr f (KB ..);have hk:=I7 hm;rw [VG,Sh hd (by omega),X6,UB]
    have key:∀d':Int,0<=d'->d'<=d+1->(Vz z f ls d'>>=fun x51=>VG p ls d x51 (i+1) r)=some (z++(dps ls d' f++UB ls d r)):=fun d' q0 q1=>by
     rw [ih f hm z d' (by omega) q0 (by omega),X6];have:=UC ls d' f;rw [ihr (fun g hg=>hr g (Kf _ hg)) _ _ hd2 (by rw [QV];omega),QD]
    cases Js r
    ·simp only [Qq,if_false,Yd,X6];exact key d h0 (by omega)
    ·simp only [if_true,Yd,X6,YB (show -9223372036854775808<=d+1 by omega) (show d+1 < 9223372036854775808 by omega)];exact key (d+1) (by omega) (Int.le_refl _)
  rw [Vz,SC p ls h,X6,Qas];cases Ud ls p
  ·simp only [Qq,if_false,Yd,X6];rw [Bf _ _ _ _ (by omega),loop _ (fun _ h=>h) _ _ (ZM ..) (by omega)];simp [X6]
  ·simp only [if_true,Yd,X6];rw [YA (by simp;omega)];simp only [X6];rw [Bf _ _ _ _ (by omega),loop _ (fun _ h=>h) _ _ (ZM ..) (by simp;omega)];simp [X6]
theorem NO (ls:List Fm) (h:FS ls) (p:Fm) (hp:p.nodes<=100000):H8 [] p ls 0=some (dps ls 0 p):=by
 have hn:=Fm.YC p;have hl:=W1 p.kids
 have loop:∀(r:List Fm),(∀g∈r,g∈p.kids)->∀(z:List Int) (i:Nat),p.kids.drop i=r->z.length+YY ZK r<=1000000->WC p ls 0 z i r=some (z++UB ls 0 r):=by
  intro r
  induction r with
  | nil=>intro _ z i _ _;rw [WC,Yd];simp [UB]
  | cons f r ihr =>
   intro hr z i hd hz
   have hd2:p.kids.drop (i+1)=r:=by rw [← Z7,hd];rfl
   rw [YY] at hz;have hm:=hr f (KB ..);have hk:=I7 hm;rw [WC,Sh hd (by omega),X6,UB]
   have key:∀d':Int,0<=d'->d'<=1->(Vz z f ls d'>>=fun x51=>WC p ls 0 x51 (i+1) r)=some (z++(dps ls d' f++UB ls 0 r)):=fun d' q0 q1=>by
    rw [S8 ls h f z d' (by omega) q0 (by omega),X6];have:=UC ls d' f;rw [ihr (fun g hg=>hr g (Kf _ hg)) _ _ hd2 (by rw [QV];omega),QD]
   cases Js r
   ·simp only [Qq,if_false,Yd,X6];exact key 0 (by omega) (by omega)
   ·simp only [if_true,Yd,X6,show i64.wrap (0+1)=1 from rfl];exact key 1 (by omega) (by omega)
 rw [H8,SC p ls h,X6,Qas];cases Ud ls p
 ·simp only [Qq,if_false,Yd,X6];rw [Cm _ _ _ _ (by omega),loop _ (fun _ h=>h) _ _ (ZM ..) (by simp;omega)];simp [X6]
 ·simp only [if_true,Yd,X6];rw [YA (by simp)];simp only [X6];rw [Cm _ _ _ _ (by omega),loop _ (fun _ h=>h) _ _ (ZM ..) (by simp;omega)];simp [X6]
def Qms (ls:List Fm) (p:Fm):Prop:=FV p/\Qer ls/\Qh0 p=true/\(vrs ls p).Nodup/\(∀d∈dps ls 0 p,d<=3)/\(vrs ls p).length<=20
theorem Qb9 (ls:List Fm):∀(l:List Fm),(∀f∈l,∀x∈vrs ls f,x.sz<=f.sz)->∀x∈RA ls l,x.sz<=YY Fm.sz l
 | [],_,x,hx=>by cases hx
 | f :: l,h,x,hx=>by
  rw [RA] at hx;rw [YY]
  rcases QR.1 hx with hx | hx
  ·have:=h f (KB ..) x hx;omega
  ·have:=Qb9 ls l (fun g hg=>h g (Kf _ hg)) x hx;omega
theorem Qaa (ls:List Fm) (p:Fm):∀x∈vrs ls p,x.sz<=p.sz:=by
 induction p using Fm.ind with
 | h p ih =>
  intro x hx;rw [OQ] at hx
  rcases QR.1 hx with hx | hx
  ·split at hx
   ·rw [ZF.1 hx];exact Nat.le_refl _
   ·cases hx
  ·have:=Qb9 ls p.kids ih x hx;rw [Fm.GR p];omega
theorem Qkb {p:Fm} (hp:p.sz<=100000) {ls:List Fm} (h:FS ls):Tot (Eh p ls) fun b=>b=true↔Qms ls p:=by
 rw [Eh];refine Zz (Af (by omega)) fun b1 hb1=>?_;cases b1
 ·simp only [ZS,if_true,Yd,X6];exact ⟨_,rfl,fun h=>(by cases h),fun h=>(by have:=hb1.2 h.1;cases this)⟩
 simp only [ZT,Qq,if_false];have hfv:=hb1.1 rfl;have hnn:=hfv.2;obtain ⟨b2,e2,hb2⟩:=F2 h;rw [e2];simp only [Yd,X6];cases b2
 ·simp only [ZS,if_true,Yd,X6];exact ⟨_,rfl,fun h=>(by cases h),fun h=>(by have:=hb2.2 h.2.1;cases this)⟩
 simp only [ZT,Qq,if_false,Qh2 p (by omega),Yd,X6];cases hs:Qh0 p
 ·simp only [ZS,if_true];exact ⟨_,rfl,fun h=>(by cases h),fun h=>(by have h9:=h.2.2.1;rw [hs] at h9;cases h9)⟩
 simp only [ZT,Qq,if_false,U7 ls h p (by omega),X6];have hvl:=CJ ls p;rw [PD _ _ _ (by omega)]
 have hvs:∀x∈vrs ls p,x.sz<=1000000:=fun x hx=>by have:=Qaa ls p x hx;omega
 rcases Qfk (IS p ls (vrs ls p)) (vrs ls p) (fun i x=>decide (x∈(vrs ls p).take i)) false (fun _=>rfl) (fun i hi r=>by
  rw [IS,Tv _ i (by omega)];simp only [Yd,X6]
  rw [Qbf _ _ ⟨by unfold Sm;rw [List.length_take];omega,fun f hf=>hvs f (List.mem_of_mem_take hf)⟩,X6]) with ⟨h7,i,hi,hp2⟩ | ⟨h7,hp2⟩
 ·rw [h7,X6];exact ⟨_,rfl,fun h=>(by cases h),fun h=>absurd (of_decide_eq_true hp2) (Ey.1 h.2.2.2.1 i hi)⟩
 have hnd:(vrs ls p).Nodup:=Ey.2 fun i hi=>of_decide_eq_false (hp2 i hi);rw [h7,X6]
 simp only
 have hdl:=UC ls 0 p
 rw [NO ls h p (by omega),X6,PE _ _ _ (by omega),De (IT p (vrs ls p) (dps ls 0 p)) (fun d=>decide (d > 3)) false (fun _=>rfl) _ _ (fun x hx i r=>by
  rw [IT,Yd,X6];by_cases hx3:x > 3<;>simp [hx3,Yd]),X6]
 cases ha:(dps ls 0 p).any fun d=>decide (d > 3)
 ·simp only [Qq,if_false,Yd]
  have hd3:∀d∈dps ls 0 p,d<=3:=fun d hd=>by
   have:=Xa.1 ha d hd;simpa using this
  refine ⟨_,rfl,?_⟩;simp only [decide_eq_true_iff];constructor
  ·intro hl;exact ⟨hfv,hb2.1 rfl,hs,hnd,hd3,by omega⟩
  ·intro h;have:=h.2.2.2.2.2;omega
 ·simp only [if_true];refine ⟨_,rfl,fun h=>(by cases h),fun h=>?_⟩;obtain ⟨d,hd,hd2⟩:=List.any_eq_true.1 ha;have:=h.2.2.2.2.1 d hd;have:=of_decide_eq_true hd2;omega
def HS (H:List Hit):Prop:=Sm H.length/\∀h∈H,h.name.sz<=1000000/\0<=h.depth+1/\h.depth<=1000000
theorem Rs {H:List Hit} (h:HS H) (f:Fm):(∃j,∃hj:j < H.length,Ai H f=some (j:Int)/\Qru H f=some H[j])∨(Ai H f=some (-1)/\Qru H f=none):=by
 have:=Qg3 (HM H f) (fun x=>decide (x.name=f)) (fun _=>rfl) H 0 (fun x hx i r=>by
  rw [HM,Yd,X6,Ez _ (h.2 x hx).1,X6];by_cases hx2:x.name=f<;>simp [hx2,Yd])
 rw [Ai,MY _ _ (by have:=h.1;omega)]
 rcases this with ⟨j,hj,h1,h2⟩ | ⟨h1,h2⟩
 ·exact .inl ⟨j,hj,by rw [h1,X6,Nat.zero_add];rfl,h2⟩
 ·exact .inr ⟨by rw [h1];rfl,h2⟩
theorem S7 {H:List Hit} (h:HS H) (f:Fm):Aq H f=some (Qen H f):=by
 rw [Aq,Qen]
 by_cases h1:f.kind=1
 ·rw [if_pos h1,if_pos h1]
  rcases Rs h f with ⟨j,hj,h2,h3⟩ | ⟨h2,h3⟩
  ·rw [h2,X6,if_neg (by omega),Yf _ _ hj,h3];rfl
  ·rw [h2,h3];rfl
 ·rw [if_neg h1,if_neg h1];rfl
theorem TG (H:List Hit):∀l:List Fm,Qky H l=l.any (Pr H)
 | []=>rfl
 | f :: l=>by rw [Qky,TG H l];rfl
theorem Qkx (H:List Hit) (f:Fm):Pr H f=(decide (0 < Qen H f)||f.kids.any (Pr H)):=by cases f;rw [Pr,TG];rfl
theorem Qkw {H:List Hit} (h:HS H):∀f:Fm,f.sz<=1000000->H9 H f=some (Pr H f):=by
 intro f
 induction f using Fm.ind with
 | h f ih =>
  intro hf;have hz:=Fm.GR f;rw [H9,S7 h f,X6,Qkx]
  by_cases hd:Qen H f > 0
  ·rw [if_pos hd,decide_eq_true (show 0 < Qen H f from hd)];rfl
  ·rw [if_neg hd,decide_eq_false (show ¬0 < Qen H f from hd),Z1,M7 _ _ (by omega),De (HP H f) (Pr H) true (fun _=>rfl) f.kids 0 (fun x hx i r=>by
    have:=Fm.G8 hx
    rw [HP,Yd,X6,ih x hx (by omega),X6];rfl),X6]
   cases f.kids.any (Pr H)<;>rfl
theorem Qki {H:List Hit} (h:HS H) (hl:H.length<=1000000):A3 H=some (R7 H):=by
 rw [A3,M5 _ _ (by omega),G6 (HO H) (fun h=>.mk h.name (if 0 < h.depth then h.depth - 1 else h.depth) h.one []) (fun _ _=>rfl) H [] 0 (fun x hx z i r hz=>by
  have:=h.2 x hx;rw [HO,Yd,X6]
  by_cases hd:x.depth > 0
  ·rw [if_pos hd,if_pos (show 0 < x.depth from hd),YB (by omega) (by omega)];simp only [Yd,X6];rw [YA (by simp;omega)];rfl
  ·rw [if_neg hd,if_neg (show ¬0 < x.depth from hd)];simp only [Yd,X6]
   rw [YA (by simp;omega)];rfl) (by simp;omega)]
 simp [X6,Yd,R7]
theorem HS.less {H:List Hit} (h:HS H):HS (R7 H):=⟨by unfold R7;rw [ZH];exact h.1,fun x hx=>by
 unfold R7 at hx;obtain ⟨y,hy,rfl⟩:=QX.1 hx;have:=h.2 y hy;refine ⟨this.1,?_⟩;show 0<=(if 0 < y.depth then y.depth - 1 else y.depth)+1/\(if 0 < y.depth then y.depth - 1 else y.depth)<=1000000
 split<;>omega⟩
theorem Qpm (t:Fm) (H:List Hit):Qmo t H=(!(Y8 t||decide (0 < Qen H t))&&Qle true t.kids H):=by cases t;rw [Qmo];rfl
theorem Qr1:∀t:Fm,t.sz<=1000000->∀{H:List Hit},HS H->H.length<=1000000->Ac t H=some (Qmo t H):=by
 intro t
 induction t using Fm.ind with
 | h t ih =>
  intro ht H h hH;have hz:=Fm.GR t
  have loop:∀(r:List Fm) (i:Nat) (b:Bool),t.kids.drop i=r->(b=true↔i=0∨∃h:i - 1 < t.kids.length,0 < i/\Y8 t.kids[i - 1]=true) ->
    Hn t H i r=some (if Qle b r H=true then .inr () else .inl false):=by
   intro r
   induction r with
   | nil=>intro i b _ _;rw [Qle];rfl
   | cons f r ihr =>
    intro i b hd hb;have hd0:=hd
    have hi:i < t.kids.length:=by
     rcases KA i t.kids.length with h | h
     ·exact h
     ·rw [Zx h] at hd;cases hd
    rw [Zw hi] at hd
    injection hd with e1 e2
    have hm:f∈t.kids:=e1▸ZJ hi;have hk:=Fm.G8 hm
    have hb2:∀b',b'=Y8 f->(b'=true↔i+1=0∨∃h:i+1 - 1 < t.kids.length,0 < i+1/\Y8 t.kids[i+1 - 1]=true):=by
     rintro b' rfl;simp only [Nat.add_sub_cancel];constructor
     ·intro h;exact .inr ⟨hi,by omega,by rw [e1];exact h⟩
     ·rintro (h | ⟨_,_,h⟩)
      ·omega
      ·rw [e1] at h;exact h
    rw [Hn,Qle,Yd,X6,Cu,X6];cases hf:Y8 f
    ·simp only [Qq,if_false];rw [Sh hd0 (by omega),X6];cases hn:Js r
     ·simp only [Qq,if_false,Yd,X6,ih f hm (by omega) h hH];cases hs:Qmo f H
      ·simp
      ·simp only [ZT,Qq,if_false,Z0];exact ihr (i+1) false e2 (hb2 false hf.symm)
     ·simp only [if_true,Yd,X6,Qkw h f (by omega)];cases hr:Pr H f
      ·simp [Yd,X6]
      ·simp only [ZT,Qq,if_false,Yd,X6,Qki h hH,ih f hm (by omega) h.less (show (R7 H).length<=1000000 by unfold R7;rw [ZH];exact hH)];cases hs:Qmo f (R7 H)
       ·simp
       ·simp only [ZT,Qq,if_false,Z0];exact ihr (i+1) false e2 (hb2 false hf.symm)
    ·simp only [if_true]
     by_cases hi0:i=0
     ·subst hi0;have:b=true:=hb.2 (.inl rfl);subst this;simp [Yd,X6]
     ·rw [if_neg (by omega),show i64.wrap ((i:Int) - 1)=((i - 1:Nat):Int) by rw [YB (by omega) (by omega)];omega,Yf _ _ (by omega)];simp only [X6,Cu,Yd];cases hpd:Y8 t.kids[i - 1]
      ·have:b=false:=by
        cases b with
        | false=>rfl
        | true =>
         rcases hb.1 rfl with h | ⟨_,_,h⟩
         ·exact absurd h hi0
         ·rw [h] at hpd;cases hpd
       subst this;simp only [Qq,if_false,ZS,Z0];exact ihr (i+1) true e2 (hb2 true hf.symm)
      ·have:b=true:=hb.2 (.inr ⟨by omega,by omega,hpd⟩);subst this
       simp
  rw [Ac,Qpm,Cu,X6];cases hd:Y8 t
  ·simp only [Qq,if_false,S7 h t,X6,Yd,Z1]
   by_cases h0:Qen H t > 0
   ·rw [decide_eq_true (show 0 < Qen H t from h0)];simp
   ·rw [decide_eq_false (show ¬0 < Qen H t from h0)];simp only [gt_iff_lt,h0,decide_false,Qq,if_false,ZS,Z0];rw [PG _ _ (by omega),loop t.kids 0 true (ZM ..) ⟨fun _=>.inl rfl,fun _=>rfl⟩,X6];cases Qle true t.kids H<;>rfl
  ·simp [Yd,X6]
end Go.Proofs.SA
namespace Go.Proofs.Shadow
theorem Qf2 {α β:Type} (F:List β->Nat->List α->Option (List β)) (a:List α) (g:Nat->β) (hn:∀z i,F z i []=some z) (hc:∀(z:List β) (i:Nat) (hi:i < a.length) r,z.length<=1073741824->F z i (a[i] :: r)=F (z++[g i]) (i+1) r) :
  ∀(n i:Nat) (z:List β),i+n=a.length->z.length+n<=1073741824->F z i (a.drop i)=some (z++(List.range' i n).map g):=by
 intro n
 induction n with
 | zero=>intro i z hi _;rw [show i=a.length by omega,Z4,hn];simp
 | succ n ih =>
  intro i z hi hz
  have hil:i < a.length:=by omega
  rw [Zw hil,hc z i hil _ (by omega),ih (i+1) _ (by omega) (by simp;omega),List.range'_succ,List.map_cons,QD];rfl
theorem P1 {α:Type} {p:α->Bool} : ∀{l:List α},(l.filter p).length<=1->∀{i j:Nat} (hi:i < l.length) (hj:j < l.length),p l[i]=true->p l[j]=true->i=j:=by
 intro l
 induction l with
 | nil=>intro _ i j hi;simp at hi
 | cons x l ih =>
  intro h i j hi hj hpi hpj
  have Ff:(l.filter p).length=0->∀k,∀hk:k < l.length,p l[k]=false:=fun h0 k hk=>by
   cases hp:p l[k]
   ·rfl
   ·have:l[k]∈l.filter p:=List.mem_filter.2 ⟨ZJ hk,hp⟩;have:=List.length_pos_of_mem this;omega
  cases hx:p x
  ·rw [Z5 (by simp [hx])] at h
   cases i with
   | zero=>simp [hx] at hpi
   | succ i =>
    cases j with
    | zero=>simp [hx] at hpj
    | succ j =>
     simp only [Z2] at hpi hpj;have:=ih h (by simpa using hi) (by simpa using hj) hpi hpj;omega
  ·rw [Z6 hx] at h;have h0:=Ff (by simp at h;simpa using h)
   cases i with
   | zero =>
    cases j with
    | zero=>rfl
    | succ j =>
     have h1:=h0 j (by simpa using hj);simp only [Z2] at hpj;rw [h1] at hpj;cases hpj
   | succ i =>
    have h1:=h0 i (by simpa using hi);simp only [Z2] at hpi;rw [h1] at hpi;cases hpi
theorem RF {α β:Type} {g:α->Option β} : ∀{l:List α} {r:List β},Mr g l=some r->r.length=l.length
 | [],r,h=>by rw [Mr] at h;injection h with h;subst h;rfl
 | x :: l,r,h=>by
  rw [Mr] at h
  cases hx:g x with
  | none=>rw [hx] at h;cases h
  | some y =>
   rw [hx] at h;simp only at h
   cases hl:Mr g l with
   | none=>rw [hl] at h;cases h
   | some r'=>rw [hl] at h;injection h with h;subst h;simp [RF hl]
theorem RG {α β:Type} {g:α->Option β} : ∀{l:List α} {r:List β},Mr g l=some r->∀y∈r,∃x∈l,g x=some y
 | [],r,h,y,hy=>by rw [Mr] at h;injection h with h;subst h;cases hy
 | x :: l,r,h,y,hy=>by
  rw [Mr] at h
  cases hx:g x with
  | none=>rw [hx] at h;cases h
  | some y' =>
   rw [hx] at h;simp only at h
   cases hl:Mr g l with
   | none=>rw [hl] at h;cases h
   | some r' =>
    rw [hl] at h;injection h with h;subst h
    rcases List.mem_cons.1 hy with rfl | hy
    ·exact ⟨x,KB ..,hx⟩
    ·obtain ⟨z,hz,h2⟩:=RG hl y hy;exact ⟨z,Kf _ hz,h2⟩
def N8 (n:Nat):List Fm->Nat
 | []=>0
 | p :: ps=>if Y8 p=true then N8 n ps else if Js ps=true then n+N8 n ps else 1+N8 n ps
theorem LO (n:Nat):∀l:List Fm,l.any Y8=false->N8 n l=l.length
 | [],_=>rfl
 | p :: ps,h=>by
  rw [ZV,Z8] at h
  have h2:Js ps=false:=by
   cases ps with
   | nil=>rfl
   | cons q qs=>have:=h.2;rw [ZV,Z8] at this;exact this.1
  rw [N8,if_neg (by simp [h.1]),if_neg (by simp [h2]),LO n ps h.2,ZD];omega
theorem Tx (n:Nat):∀l:List Fm,(l.filter Y8).length<=1->Js l=false->l.any Y8=true->N8 n l+2=l.length+n
 | [],_,_,h=>by cases h
 | p :: ps,h1,h2,h3=>by
  have hp:Y8 p=false:=h2;rw [Z5 (by simp [hp])] at h1;rw [ZV,hp,Z1] at h3;rw [N8,if_neg (by simp [hp])];cases hd:Js ps
  ·rw [if_neg (by simp)];have:=Tx n ps h1 hd h3;rw [ZD];omega
  ·rw [if_pos rfl]
   cases ps with
   | nil=>cases hd
   | cons q qs =>
    have hq:Y8 q=true:=hd;rw [Z6 hq,ZD] at h1;have hz:qs.filter Y8=[]:=Kz (by omega)
    have ha:qs.any Y8=false:=by
     rw [Xa];intro x hx hxd;have:x∈qs.filter Y8:=List.mem_filter.2 ⟨hx,hxd⟩;rw [hz] at this;cases this
    rw [N8,if_pos hq,LO n qs ha,ZD,ZD];omega
end Go.Proofs.Shadow
namespace Go.Proofs.SA
theorem Qgg (ls:List Fm):∀(l:List Fm) (d:Int),(∀f∈l,∀d,∀x∈dps ls d f,d<=x/\x<=d+f.nodes)->∀x∈UB ls d l,d<=x/\x<=d+1+YY ZK l
 | [],d,_,x,hx=>by cases hx
 | f :: l,d,h,x,hx=>by
  rw [UB] at hx;rw [YY]
  rcases QR.1 hx with hx | hx
  ·have:=h f (KB ..) _ x hx;split at this<;>omega
  ·have:=Qgg ls l d (fun g hg=>h g (Kf _ hg)) x hx;omega
theorem Qgh (ls:List Fm) (p:Fm):∀d,∀x∈dps ls d p,d<=x/\x<=d+p.nodes:=by
 induction p using Fm.ind with
 | h p ih =>
  intro d x hx;rw [Qas] at hx;have hn:=Fm.YC p
  rcases QR.1 hx with hx | hx
  ·split at hx
   ·rw [ZF.1 hx];omega
   ·cases hx
  ·have:=Qgg ls p.kids d ih x hx;omega
theorem Qo3 (ls:List Fm) (h:FS ls) (p:Fm) (hp:p.nodes<=100000) (rows:List (List Hit)) (hr:∀r∈rows,r.length=(vrs ls p).length) (hrl:rows.length<=1000000):BD p ls rows=some (Qml ls p rows):=by
 have hvl:=CJ ls p;have hdl:=OP ls p 0;rw [BD,U7 ls h p (by omega),X6,NO ls h p hp,X6,Oq _ _ _ _ _ (by omega)]
 have:=Qf2 (It p rows (vrs ls p) (dps ls 0 p)) (vrs ls p) (fun i=>.mk ((vrs ls p).getD i default) ((dps ls 0 p).getD i 0+1) Fm.zero (rows.map fun r=>r.getD i default)) (fun _ _=>rfl) (fun z i hi r hz=>by
  have hid:i < (dps ls 0 p).length:=by omega
  have hge:=Qgh ls p 0 _ (ZJ hid)
  rw [It,Yd,X6,Yf _ i hid,X6,Ot _ _ _ _ _ _ _ _ _ (by omega),
   G6 (Iu p rows (vrs ls p) (dps ls 0 p) z (i:Int) (vrs ls p)[i] (dps ls 0 p)[i]) (fun r=>r.getD i default) (fun _ _=>rfl) rows [] 0 (fun x hx z2 k r2 hz2=>by
    have hxl:=hr x hx
    rw [Iu,Yd,X6,Yf x i (by omega),X6,YA (by simp;omega),X6,Qz,Qf (by omega)];rfl) (by simp;omega),X6,
   YA (by simp;omega),X6,YB (by omega) (by omega),Qz,Qf hi,Qz,Qf hid];rfl) (vrs ls p).length 0 [] (by omega) (by simp;omega)
 rw [ZM] at this;rw [this,X6,Yd,Qml,Z9];rfl
theorem Sl (ls:List Fm) (p:Fm) (rows:List (List Hit)):(Qml ls p rows).length=(vrs ls p).length:=by simp [Qml]
theorem Qbu (B:List Bnd) (ls:List Fm):∀(d:Nat) (p:Fm),FIs d p->Y8 p=false->∀(f:Fm) (hs:List Hit),pm B ls p f=some hs->hs.length=(vrs ls p).length:=by
 intro d
 induction d with
 | zero=>intro p h;exact h.elim
 | succ d ih =>
  intro p h hdt f hs e
  have hL:∀(ps:List Fm),(∀q∈ps,FIs d q)->∀(fs:List Fm) (n:Nat) (hs:List Hit),pmL B ls ps fs n=some hs->hs.length=(RA ls ps).length:=by
   intro ps
   induction ps with
   | nil=>intro _ fs n hs e;rw [UX] at e;injection e with e;subst e;rfl
   | cons q ps ihp =>
    intro hq fs n hs e;have hq':=fun x hx=>hq x (Kf q hx);rw [Sj] at e;rw [RA,QV]
    by_cases hd:Y8 q=true
    ·rw [if_pos hd] at e;rw [ihp hq' fs n hs e,OQ]
     have hk:q.kind=1/\q.name=FC:=by unfold Y8 at hd;simpa using hd
     have:q.kids=[]:=by
      have:=hq q (KB ..)
      cases d with
      | zero=>exact this.elim
      | succ d =>
       rcases this with h | h | h
       ·exact Kz h.2.2.2.2
       ·omega
       ·omega
     rw [this,RA,if_neg (by simp [Ud,hk.2])];simp
    ·rw [if_neg hd] at e
     have hd':Y8 q=false:=by simpa using hd
     by_cases hh:Js ps=true
     ·rw [if_pos hh] at e;split at e
      ·cases e
      ·rename_i rows hrows;obtain ⟨hs2,h2,h3⟩:=Qx.1 e;subst h3;rw [QV,Sl,ihp hq' _ _ _ h2]
     ·rw [if_neg hh] at e;split at e
      ·cases e
      ·rename_i fs' f';split at e
       ·cases e
       ·rename_i hs1 h1;obtain ⟨hs2,h2,h3⟩:=Qx.1 e;subst h3;rw [QV,ih q (hq q (KB ..)) hd' _ _ h1,ihp hq' _ _ _ h2]
  rw [Qo2] at e;rw [OQ]
  rcases h with h | h | h
  ·have hk:p.kids=[]:=Kz h.2.2.2.2;rw [if_pos h.1] at e;rw [hk,RA,List.append_nil]
   by_cases h1:p.name=SZ
   ·rw [if_pos h1] at e
    injection e with e;subst e
    rw [if_neg (by simp [Ud,h1])];rfl
   ·rw [if_neg h1] at e
    by_cases h2:p∈ls
    ·rw [if_pos h2] at e;split at e
     ·injection e with e;subst e
      rw [if_neg (by simp [Ud,h2])];rfl
     ·cases e
    ·rw [if_neg h2] at e
     injection e with e;subst e
     have hn:p.name≠FC:=fun hn=>by unfold Y8 at hdt;simp [h.1,hn] at hdt
     rw [if_pos (by simp [Ud,h.1,h1,h2,hn])];rfl
  ·have hk:p.kids=[]:=Kz h.2.2.2.2.2;rw [if_neg (by omega),if_pos h.1] at e;rw [hk,RA,if_neg (by simp [Ud,h.1])];split at e
   ·injection e with e;subst e;rfl
   ·cases e
  ·rw [if_neg (by omega),if_neg (by omega)] at e;rw [if_neg (by simp [Ud,h.1]),QS];split at e
   ·split at e
    ·split at e
     ·cases e
     ·exact hL _ h.2.2.2.2 _ _ _ e
    ·split at e
     ·exact hL _ h.2.2.2.2 _ _ _ e
     ·cases e
   ·cases e
def MR (o:Option (List Hit)) (r:List Hit × Bool):Prop:=match o with | some hs=>r=(hs,true) | none=>r.2=false
theorem Rt {B:List Bnd} (hB:BS B) {ls:List Fm} (hls:FS ls):∀(d:Nat) (p:Fm),FIs d p->p.sz<=100000->p.nodes<=400->Qh0 p=true->∀f:Fm,f.sz<=100000->Tot (WD B p ls f) (MR (pm B ls p f)):=by
 intro d
 induction d with
 | zero=>intro p h;exact h.elim
 | succ d ih =>
  intro p h hpz hpn hsh f hfz;have hzp:=Fm.GR p;have hzf:=Fm.GR f
  have hpd:Y8 p=false:=by
   cases hd:Y8 p
   ·rfl
   ·rw [Sq,if_pos hd] at hsh;cases hsh
  rw [WD,Qo2]
  rcases h with h | h | h
  ·rw [if_pos h.1,if_pos h.1]
   by_cases h1:p.name=SZ
   ·have h1':=h1;unfold SZ at h1';rw [if_pos h1',if_pos h1];exact ⟨_,rfl,rfl⟩
   have h1':=h1;unfold SZ at h1';rw [if_neg h1',if_neg h1,Qbf ls p hls,X6]
   by_cases h2:p∈ls
   ·rw [decide_eq_true h2,if_pos rfl,if_pos h2]
    by_cases h3:f.kind=1
    ·rw [if_pos h3,Qk1 B p f hB (by unfold Sm;omega) (by unfold Sm;omega)];simp only [X6,Yd];cases hr:Oe B p f
     ·exact ⟨_,rfl,by simp [MR]⟩
     ·exact ⟨_,rfl,by simp [MR,h3]⟩
    ·rw [if_neg h3];exact ⟨_,rfl,by simp [MR,h3]⟩
   ·rw [decide_eq_false h2,if_neg (by simp),if_neg h2,YA (by simp),X6];exact ⟨_,rfl,rfl⟩
  ·have n1:¬p.kind=1:=by omega
   simp only [n1,h.1,if_false,if_true];rw [Ez p (by omega),X6]
   by_cases h2:p=f
   ·rw [decide_eq_true h2,if_pos h2]
    exact ⟨_,rfl,by
     have hk:p.kids=[]:=Kz h.2.2.2.2.2
     simp [MR]⟩
   ·rw [decide_eq_false h2,if_neg h2];exact ⟨_,rfl,rfl⟩
  have n1:¬p.kind=1:=by omega
  have n2:¬p.kind=2:=by omega
  simp only [n1,n2,if_false]
  by_cases hf3:f.kind=3
  rotate_left
  ·rw [if_neg hf3,if_neg hf3];exact ⟨_,rfl,rfl⟩
  rw [if_pos hf3,if_pos hf3];have hps:=h.2.2.2.2;rw [Sq,hpd] at hsh;simp only [Qq,if_false] at hsh;have hc1:=Of _ _ _ hsh;have hh:=Qh3 hsh;have hmem:=Sr _ _ _ hsh;generalize hps':p.kids=ps at *;generalize hfs':f.kids=fs at *
  have hfsz:∀x∈fs,x.sz<=100000:=fun x hx=>by have:=HG Fm.sz fs x hx;omega
  have hpsz:∀x∈ps,x.sz<=100000:=fun x hx=>by have:=HG Fm.sz ps x hx;omega
  have hnp:=Fm.YC p;rw [hps'] at hnp
  have hpsn:∀x∈ps,x.nodes<=400:=fun x hx=>by have:=HG ZK ps x hx;omega
  have row:∀(n i:Nat) (r:Int),i+n+1=ps.length+1->i<=ps.length->(∀j,j < i->∀hj:j+1 < ps.length,Y8 ps[j+1]=true->r=j)->(r=-1∨∃j:Nat,r=j/\∃hj:j+1 < ps.length,Y8 ps[j+1]=true) ->
    Tot (JE B ps ls fs r i) fun r=>(∀j:Nat,∀hj:j+1 < ps.length,Y8 ps[j+1]=true->r=j)/\(r=-1∨∃j:Nat,r=j/\∃hj:j+1 < ps.length,Y8 ps[j+1]=true):=by
   intro n
   induction n with
   | zero =>
    intro i r hi hil h1 h2;rw [JE,Ws (i:=i) (by omega),if_neg (by omega)];exact ⟨_,rfl,fun j hj hd=>h1 j (by omega) hj hd,h2⟩
   | succ n ihn =>
    intro i r hi hil h1 h2;rw [JE,Ws (i:=i) (by omega)]
    by_cases hlt:i+1 < ps.length
    ·rw [if_pos (by omega),Yf ps (i+1) hlt,X6,Cu,X6];cases hd:Y8 ps[i+1]
     ·simp only [Qq,if_false];refine ihn (i+1) r (by omega) (by omega) (fun j hj hj2 hd2=>?_) h2
      by_cases hji:j=i
      ·subst hji;rw [hd] at hd2;cases hd2
      ·exact h1 j (by omega) hj2 hd2
     ·simp only [if_true];refine ihn (i+1) i (by omega) (by omega) (fun j hj hj2 hd2=>?_) (.inr ⟨i,rfl,hlt,hd⟩);have:=P1 (p:=Y8) (by omega) hj2 hlt hd2 hd;omega
    ·rw [if_neg (by omega)];exact ⟨_,rfl,fun j hj hd=>h1 j (by omega) hj hd,h2⟩
  rw [Du];obtain ⟨w,hw,hw1,hw2⟩:=row ps.length 0 (-1) (by omega) (by omega) (fun j hj=>by omega) (.inl rfl);rw [show ((0:Nat):Int)=0 from rfl] at hw;rw [hw,X6]
  have hany:ps.any Y8=true↔w≠-1:=by
   rw [List.any_eq_true];constructor
   ·rintro ⟨x,hx,hd⟩;obtain ⟨j,hj,rfl⟩:=ZU.1 hx
    cases j with
    | zero =>
     cases ps with
     | nil=>simp at hj
     | cons q qs=>rw [show Js (q :: qs)=Y8 q from rfl] at hh;simp only [List.getElem_cons_zero] at hd;rw [hd] at hh;cases hh
    | succ j=>have:=hw1 j hj hd;omega
   ·intro hne
    rcases hw2 with h | ⟨j,_,hj,hd⟩
    ·exact absurd h hne
    ·exact ⟨_,ZJ hj,hd⟩
  have hrow:∀i:Nat,∀hi:i < ps.length,Y8 ps[i]=false->((i:Int)=w↔Js (ps.drop (i+1))=true):=fun i hi hnd=>by
   by_cases hlt:i+1 < ps.length
   ·rw [Zw hlt];show _↔Y8 ps[i+1]=true;constructor
    ·intro hiw
     rcases hw2 with h | ⟨j,h2,hj,hd⟩
     ·omega
     ·have:j=i:=by omega
      subst this;exact hd
    ·intro hd;exact (hw1 i hlt hd).symm
   ·rw [Zx (by omega)];constructor
    ·intro hiw
     rcases hw2 with h | ⟨j,h2,hj,hd⟩
     ·omega
     ·omega
    ·intro hd;cases hd
  have main:∀(n:Nat),(w≠-1->i64.wrap ((fs.length:Int) - (i64.wrap ((ps.length:Int) - 2)))=(n:Int))->n<=fs.length->∀(r:List Fm) (i at_:Nat) (z:List Hit),ps.drop i=r->at_+N8 n r=fs.length->z.length+YY ZK r<=1000000 ->
    Tot (WW B ps ls fs w z (at_:Int) i r) fun o=>match pmL B ls r (fs.drop at_) n with | some hs=>o=.inr (z++hs) | none=>∃z',o=.inl (z',false):=by
   intro n hn hnf r
   induction r with
   | nil=>intro i at_ z _ _ _;rw [WW,UX];exact ⟨_,rfl,by simp⟩
   | cons q r ihr =>
    intro i at_ z hd hneed hz;have hd0:=hd
    have hi:i < ps.length:=by
     rcases KA i ps.length with h | h
     ·exact h
     ·rw [Zx h] at hd;cases hd
    rw [Zw hi] at hd
    injection hd with e1 e2
    have hm:q∈ps:=e1▸ZJ hi;rw [WW,Yd,X6,Cu,X6,Sj];rw [N8] at hneed;rw [YY] at hz;have hqn:=Bd q;cases hq:Y8 q;rotate_left
    ·rw [hq,if_pos rfl] at hneed;simp only [if_true];exact ihr (i+1) at_ z e2 hneed (by omega)
    rw [hq,if_neg (by simp)] at hneed;simp only [Qq,if_false];have hq':Qh0 q=true:=(hmem q hm).resolve_left (by simp [hq]);have hqz:=hpsz q hm;have hqnn:=hpsn q hm;have hrw:=hrow i hi (by rw [e1];exact hq);rw [e2] at hrw
    by_cases hhd:Js r=true
    ·rw [if_pos hhd] at hneed ⊢;rw [if_pos (hrw.2 hhd)]
     have hwn:w≠-1:=by have:=hrw.2 hhd;omega
     rw [hn hwn]
     have l2:∀(m:Nat) (acc:List (List Hit)) (k:Nat),k+m=at_+n->acc.length+m<=100000->Tot (Gu B ps ls fs w z (i:Int) acc (k:Int) (m:Int)) fun o=>match Mr (pm B ls q) ((fs.drop k).take m) with | some rows=>o=.inr (acc++rows,((at_+n:Nat):Int)) | none=>∃z',o=.inl (z',false):=by
      intro m
      induction m with
      | zero =>
       intro acc k hk _;rw [Gu,if_neg (by omega),List.take_zero,Mr];exact ⟨_,rfl,by simp;omega⟩
      | succ m ihm =>
       intro acc k hk hacc
       have hkl:k < fs.length:=by omega
       rw [Gu,if_pos (by omega),Yf ps i hi,X6,Yf fs k hkl,X6,e1,Zw hkl,List.take_succ_cons,Mr];have:=ih q (hps q hm) hqz hqnn hq' fs[k] (hfsz _ (ZJ hkl));obtain ⟨rr,hrr,hmr⟩:=this;rw [hrr,X6]
       cases hpm:pm B ls q fs[k] with
       | none =>
        rw [hpm] at hmr;have:rr.2=false:=hmr;rw [this];simp only [ZS,if_true];exact ⟨_,rfl,_,rfl⟩
       | some hs =>
        rw [hpm] at hmr;have:rr=(hs,true):=hmr;subst this;simp only [ZT,Qq,if_false];rw [YA (by simp;omega),X6,Ws (i:=k) (by omega),show i64.wrap (((m+1:Nat):Int) - 1)=(m:Int) by rw [YB (by omega) (by omega)];omega];obtain ⟨o,ho,hop⟩:=ihm (acc++[hs]) (k+1) (by omega) (by simp;omega);refine ⟨o,ho,?_⟩
        cases hall:Mr (pm B ls q) ((fs.drop (k+1)).take m) with
        | none=>rw [hall] at hop;exact hop
        | some rows=>rw [hall] at hop;simp only [Qu];rw [hop];simp
     obtain ⟨o,ho,hop⟩:=l2 n [] at_ rfl (by have:=hfz;have:=W1 fs;simp;omega);rw [ho,X6]
     cases hall:Mr (pm B ls q) ((fs.drop at_).take n) with
     | none =>
      rw [hall] at hop;obtain ⟨z',rfl⟩:=hop;exact ⟨_,rfl,_,rfl⟩
     | some rows =>
      rw [hall] at hop;simp only at hop;subst hop;simp only [QS];have hrl:=RF hall
      rw [X6,Qo3 ls hls q (by omega) rows (fun r hr=>by
       obtain ⟨x,hx,h2⟩:=RG hall r hr
       exact Qbu B ls d q (hps q hm) hq x r h2) (by rw [hrl,List.length_take];omega),X6]
      have hvl:=CJ ls q;rw [YA (by rw [Sl];omega),X6];obtain ⟨o,ho,hop⟩:=ihr (i+1) (at_+n) (z++Qml ls q rows) e2 (by omega) (by rw [QV,Sl];omega);refine ⟨o,ho,?_⟩;rw [Z7]
      cases hpl:pmL B ls r (fs.drop (at_+n)) n with
      | none=>rw [hpl] at hop;exact hop
      | some hs=>rw [hpl] at hop;simp only [Qu];rw [hop,QD]
    ·rw [if_neg hhd] at hneed ⊢;rw [if_neg (fun h=>hhd (hrw.1 h))]
     have hal:at_ < fs.length:=by omega
     rw [Zw hal];simp only [Yd,X6,Yf fs at_ hal];obtain ⟨rr,hrr,hmr⟩:=ih q (hps q hm) hqz hqnn hq' fs[at_] (hfsz _ (ZJ hal));rw [hrr,X6]
     cases hpm:pm B ls q fs[at_] with
     | none =>
      rw [hpm] at hmr;have:rr.2=false:=hmr;rw [this];simp only [ZS,if_true];exact ⟨_,rfl,_,rfl⟩
     | some hs =>
      rw [hpm] at hmr;have:rr=(hs,true):=hmr;subst this;simp only [ZT,Qq,if_false];have hl:=Qbu B ls d q (hps q hm) hq _ _ hpm;have hvl:=CJ ls q;rw [YA (by omega),X6,Ws (i:=at_) (by omega)];obtain ⟨o,ho,hop⟩:=ihr (i+1) (at_+1) (z++hs) e2 (by omega) (by rw [QV];omega);refine ⟨o,ho,?_⟩
      cases hpl:pmL B ls r (fs.drop (at_+1)) n with
      | none=>rw [hpl] at hop;exact hop
      | some hs2=>rw [hpl] at hop;simp only [Qu];rw [hop,QD]
  have hfl:fs.length<=100000:=by omega
  have hpl:ps.length<=400:=by have:=W1 ps;omega
  have fin:∀n:Nat,(w≠-1->i64.wrap ((fs.length:Int) - (i64.wrap ((ps.length:Int) - 2)))=(n:Int))->n<=fs.length->N8 n ps=fs.length->Tot ((Wm B ps ls fs w [] 0 0>>=fun o27=>match o27 with | .inl r=>pure r | .inr Qaz=>(pure (Qaz,true)):Option (List Hit × Bool))>>=fun x55=>pure (x55.1,x55.2)) (MR (pmL B ls ps fs n)):=fun n h1 h2 h3=>by
   rw [MZ _ _ _ _ _ _ _ (by omega)];obtain ⟨o,ho,hop⟩:=main n h1 h2 ps 0 0 [] (ZM ..) (by omega) (by simp;omega);rw [show ((0:Nat):Int)=0 from rfl] at ho;rw [ho,X6];rw [ZM] at hop
   cases hpm:pmL B ls ps fs n with
   | none=>rw [hpm] at hop;obtain ⟨z',rfl⟩:=hop;exact ⟨_,rfl,rfl⟩
   | some hs=>rw [hpm] at hop;simp only at hop;subst hop;exact ⟨_,rfl,by simp [MR]⟩
  have hw0:w=-1∨0<=w:=by rcases hw2 with h | ⟨j,h,_⟩<;>omega
  have hwr:i64.wrap ((ps.length:Int) - 2)=(ps.length:Int) - 2:=YB (by omega) (by omega)
  by_cases hwn:w=-1
  ·have hno:¬ps.any Y8=true:=fun h=>hany.1 h hwn;rw [if_neg hno];subst hwn;simp only [show decide ((-1:Int) < 0)=true from rfl,show decide ((-1:Int)≥0)=false from rfl,Z0,Z3,Yd,X6]
   by_cases hlen:ps.length=fs.length
   ·rw [if_pos hlen,decide_eq_true (show (ps.length:Int)=(fs.length:Int) by omega)];simp only [ZT,Qq,if_false,X6];exact fin 0 (fun h=>absurd rfl h) (by omega) (by rw [LO 0 ps (by simpa using hno)];exact hlen)
   ·rw [if_neg hlen,decide_eq_false (show ¬(ps.length:Int)=(fs.length:Int) by omega)];simp only [ZS,if_true,X6];exact ⟨_,rfl,rfl⟩
  ·have hyes:ps.any Y8=true:=hany.2 hwn;have hw1':0<=w:=hw0.resolve_left hwn;rw [if_pos hyes];simp only [decide_eq_false (show ¬w < 0 by omega),decide_eq_true (show w≥0 from hw1'),Z3,Z0,Yd,X6,Qq,if_false,hwr]
   by_cases hlen:fs.length+2 < ps.length
   ·rw [if_pos hlen,decide_eq_true (show (fs.length:Int) < (ps.length:Int) - 2 by omega)];simp only [if_true,X6];exact ⟨_,rfl,rfl⟩
   ·rw [if_neg hlen,decide_eq_false (show ¬(fs.length:Int) < (ps.length:Int) - 2 by omega)];simp only [Qq,if_false,X6]
    have h2:2<=ps.length:=by
     rcases hw2 with h | ⟨j,_,hj,_⟩
     ·exact absurd h hwn
     ·omega
    refine fin (fs.length+2 - ps.length) (fun _=>?_) (by omega) ?_
    ·rw [hwr,YB (by omega) (by omega)];omega
    ·have:=Tx (fs.length+2 - ps.length) ps (by omega) hh hyes;omega
end Go.Proofs.SA
namespace Go.Proofs.SA
theorem Vt {α:Type} {l:List α} {i:Nat} {d:α} (h:i < l.length):l.getD i d=l[i]:=by rw [Qz,Qf h];rfl
theorem Qhy (ls:List Fm) (h:FS ls) (p:Fm) (hp:p.nodes<=100000):Bg p ls=some (Mt p ls):=by
 have hvl:=CJ ls p;have hdl:=OP ls p 0;rw [Bg,U7 ls h p (by omega),X6,NO ls h p hp,X6,Mc _ _ _ _ (by omega)]
 have:=Qf2 (J2 p (vrs ls p) (dps ls 0 p)) (vrs ls p) (fun i=>.mk ((vrs ls p).getD i default) ((dps ls 0 p).getD i 0) (if (dps ls 0 p).getD i 0=0 then (vrs ls p).getD i default else Fm.zero) []) (fun _ _=>rfl) (fun z i hi r hz=>by
  have hid:i < (dps ls 0 p).length:=by omega
  rw [J2,Yd,X6,Yf _ i hid,X6,Vt hi,Vt hid]
  by_cases h0:(dps ls 0 p)[i]=0
  ·rw [if_pos h0,if_pos h0,X6,YA (by simp;omega),X6]
  ·rw [if_neg h0,if_neg h0,YA (by simp;omega),X6];rfl) (vrs ls p).length 0 [] (by omega) (by simp;omega)
 rw [ZM] at this;rw [this,X6,Yd,Mt,Z9];rfl
theorem Qhz (ls:List Fm) (p:Fm) (hp:p.nodes<=400) (hz:p.sz<=100000):HS (Mt p ls)/\(Mt p ls).length<=400:=by
 have hvl:=CJ ls p;have hdl:=OP ls p 0;refine ⟨⟨by unfold Sm;simp [Mt];omega,fun h hh=>?_⟩,by simp [Mt];omega⟩;unfold Mt at hh;obtain ⟨i,hi,rfl⟩:=QX.1 hh
 have hi':i < (vrs ls p).length:=by simpa using hi
 have hid:i < (dps ls 0 p).length:=by omega
 show ((vrs ls p).getD i default).sz<=1000000/\0<=(dps ls 0 p).getD i 0+1/\(dps ls 0 p).getD i 0<=1000000;rw [Vt hi',Vt hid];have h1:=Qaa ls p _ (ZJ hi');have h2:=Qgh ls p 0 _ (ZJ hid);omega
def Qin (ls:List Fm) (r:Rul):Prop:=Qms ls r.pat/\r.pat.kind=3/\0 < r.pat.kids.length/\FV r.tpl/\Qmo r.tpl (Mt r.pat ls)=true
def NG (ls:List Fm) (rs:List Rul):Prop:=rs.length < 10/\(∀r∈rs,Qin ls r)/\Qer ls
def RS (rs:List Rul):Prop:=Sm rs.length/\∀r∈rs,r.pat.sz<=100000/\r.tpl.sz<=100000
theorem Qds {ls:List Fm} (h:FS ls) {r:Rul} (h1:r.pat.sz<=100000) (h2:r.tpl.sz<=100000):Tot (BX r ls) fun b=>b=true↔Qin ls r:=by
 rw [BX];refine Zz (Qkb h1 h) fun b hb=>?_;cases b
 ·simp only [Z3,Yd,X6,Qq,if_false];exact ⟨_,rfl,fun h=>(by cases h),fun h=>(by have:=hb.2 h.1;cases this)⟩
 have hp:=hb.1 rfl;simp only [Z0,Yd,X6]
 by_cases h3:r.pat.kind=3
 rotate_left
 ·simp only [h3,decide_false,Z3,Qq,if_false,Yd,X6];exact ⟨_,rfl,fun h=>(by cases h),fun h=>absurd h.2.1 h3⟩
 by_cases h4:(r.pat.kids.length:Int) > 0
 rotate_left
 ·simp only [h3,h4,decide_false,decide_true,Z0,Qq,if_false,Yd,X6];exact ⟨_,rfl,fun h=>(by cases h),fun h=>absurd h.2.2.1 (by omega)⟩
 simp only [h3,h4,decide_true,Z0,if_true];obtain ⟨b2,e2,hb2⟩:=Af (f:=r.tpl) (by omega);rw [e2];simp only [Yd,X6];cases b2
 ·simp only [Qq,if_false,Yd,X6];exact ⟨_,rfl,fun h=>(by cases h),fun h=>(by have:=hb2.2 h.2.2.2.1;cases this)⟩
 have hn:=hp.1.2;obtain ⟨hh,hl⟩:=Qhz ls r.pat hn h1;simp only [if_true,Qhy ls h r.pat (by omega),Qr1 r.tpl (by omega) hh (by omega),Yd,X6];refine ⟨_,rfl,fun h=>⟨hp,h3,by omega,hb2.1 rfl,h⟩,fun h=>h.2.2.2.2⟩
theorem Qhu {ls:List Fm} (h:FS ls) {rs:List Rul} (hr:RS rs):∀(n i:Nat),i+n=10->Tot (JN rs ls i) fun o=>match o with
  | .inl r=>r=false/\∃x∈rs,¬Qin ls x
  | .inr _=>∀j,i<=j->j < 10->∀h:j < rs.length,Qin ls rs[j]:=by
 intro n
 induction n with
 | zero=>intro i hi;rw [JN,Yd,X6,if_neg (by simp;omega)];exact ⟨_,rfl,fun j h1 h2=>by omega⟩
 | succ n ih =>
  intro i hi;rw [JN,Yd,X6]
  by_cases hil:i < rs.length
  rotate_left
  ·rw [if_neg (by simp;omega)];exact ⟨_,rfl,fun j h1 h2 h3=>by omega⟩
  have hm:=ZJ hil;rw [if_pos (by simp;omega),Yf rs i hil,X6];refine Zz (Qds h (hr.2 _ hm).1 (hr.2 _ hm).2) fun b hb=>?_;cases b
  ·simp only [ZS,if_true];exact ⟨_,rfl,rfl,_,hm,fun h=>by have:=hb.2 h;cases this⟩
  ·simp only [ZT,Qq,if_false,Ws (i:=i) (by omega)];refine (ih (i+1) (by omega)).mono fun o ho=>?_
   cases o with
   | inl r=>exact ho
   | inr u =>
    exact fun j h5 h6 h7=>by
     by_cases hj:j=i
     ·subst hj;exact hb.1 rfl
     ·exact ho j (by omega) h6 h7
theorem Od {ls:List Fm} (h:FS ls) {rs:List Rul} (hr:RS rs):Tot (Ar rs ls) fun b=>b=true↔NG ls rs:=by
 rw [Ar];refine Zz (Qhu h hr 10 0 (by omega)) fun o ho=>?_
 cases o with
 | inl r =>
  obtain ⟨h0,x,hx,hn⟩:=ho;subst h0;exact ⟨_,rfl,fun h=>(by cases h),fun h=>absurd (h.2.1 x hx) hn⟩
 | inr u =>
  simp only
  by_cases hl:rs.length < 10
  ·rw [if_pos (by omega)];obtain ⟨b,e,hb⟩:=F2 h;rw [e];simp only [Yd,X6];refine ⟨_,rfl,?_⟩;simp only [hb];refine ⟨fun h=>⟨hl,fun r hr=>?_,h⟩,fun h=>h.2.2⟩;obtain ⟨j,hj,rfl⟩:=ZU.1 hr;exact ho j (Nat.zero_le _) (by omega) hj
  ·rw [if_neg (by omega)];exact ⟨false,rfl,fun h=>(by cases h),fun h=>absurd h.1 hl⟩
def Qao:ByteArray:=Qk #[114,117,108,101,115]
def Hb (f:Fm):List Fm × List Rul:=((f.kids.getD 1 default).kids,(f.kids.drop 2).map fun x=>⟨x.kids.getD 0 default,x.kids.getD 1 default⟩)
def Qcb (f:Fm):Prop:=FV f/\f.kind=3/\2<=f.kids.length/\(f.kids.getD 0 default).name=Qao/\(f.kids.getD 1 default).kind=3/\(∀x∈f.kids.drop 2,x.kind=3/\x.kids.length=2)/\NG (Hb f).1 (Hb f).2
theorem UW {f:Fm} (hf:f.sz<=100000):Tot (HI f) fun r=>(Qcb f/\r=((Hb f).1,(Hb f).2,true))∨(¬Qcb f/\r.2.2=false):=by
 have hz:=Fm.GR f;have bad:¬Qcb f->Tot (some ([],[],false):Option (List Fm × List Rul × Bool)) fun r=>(Qcb f/\r=((Hb f).1,(Hb f).2,true))∨(¬Qcb f/\r.2.2=false):=fun h=>⟨_,rfl,.inr ⟨h,rfl⟩⟩;rw [HI];refine Zz (Af (by omega)) fun b hb=>?_;cases b
 ·simp only [ZS,Bool.true_or,Yd,X6,if_true]
  exact bad fun h=>by have:=hb.2 h.1;cases this
 simp only [ZT,Z1,Yd,X6]
 by_cases h3:f.kind=3
 rotate_left
 ·simp only [h3,decide_false,ZS,Bool.true_or,if_true,Yd,X6];exact bad fun h=>h3 h.2.1
 by_cases h4:(f.kids.length:Int) < 2
 ·simp only [h3,h4,decide_true,ZT,Z1,if_true,Yd,X6]
  exact bad fun h=>by have:=h.2.2.1;omega
 have l0:0 < f.kids.length:=by omega
 have l1:1 < f.kids.length:=by omega
 simp only [h3,h4,decide_true,decide_false,ZT,Z1,Qq,if_false,show idx f.kids 0=some f.kids[0] from Yf f.kids 0 l0,show idx f.kids 1=some f.kids[1] from Yf f.kids 1 l1,Yd,X6];have g0:f.kids.getD 0 default=f.kids[0]:=Vt l0;have g1:f.kids.getD 1 default=f.kids[1]:=Vt l1
 by_cases h5:f.kids[0].name=Qao
 rotate_left
 ·have h5':=h5;unfold Qao at h5';simp only [h5',decide_false,ZS,if_true,Yd,X6];exact bad fun h=>h5 (by rw [← g0];exact h.2.2.2.1)
 have h5':=h5;unfold Qao at h5';simp only [h5',decide_true,ZT,Qq,if_false,Yd,X6]
 by_cases h6:f.kids[1].kind=3
 rotate_left
 ·simp only [h6,decide_false,ZS,if_true];exact bad fun h=>h6 (by rw [← g1];exact h.2.2.2.2.1)
 simp only [h6,decide_true,ZT,Qq,if_false];have k1:=Fm.G8 (ZJ l1);have hz1:=Fm.GR f.kids[1]
 have lp0:∀(n i:Nat),i+n=f.kids[1].kids.length->∀z:List Fm,z.length+n<=200000->Wa f z i=some (z++f.kids[1].kids.drop i):=by
  intro n
  induction n with
  | zero =>
   intro i hi z _;rw [Wa,show idx f.kids 1=some f.kids[1] from Yf f.kids 1 l1,X6,if_neg (by omega),show i=f.kids[1].kids.length by omega,Z4];simp [Yd]
  | succ n ih =>
   intro i hi z hzl
   have hil:i < f.kids[1].kids.length:=by omega
   have:=Fm.G8 (ZJ hil);rw [Wa,show idx f.kids 1=some f.kids[1] from Yf f.kids 1 l1,X6,if_pos (by omega),X6,Yf _ i hil,X6,Lt _ (by omega),X6,YA (by simp;omega),X6,Ws (i:=i) (by omega),ih (i+1) (by omega) _ (by simp;omega),QD,Zw hil];rfl
 have e0:=lp0 f.kids[1].kids.length 0 (by omega) [] (by simp;omega);rw [show ((0:Nat):Int)=0 from rfl] at e0;rw [e0,X6,QS,ZM]
 have lp1:∀(n i:Nat),i+n=f.kids.length->∀z:List Rul,z.length+n<=200000->Tot (Wb f f.kids[1].kids z i) fun o=>((∀x∈f.kids.drop i,x.kind=3/\x.kids.length=2)/\o=.inr (z++(f.kids.drop i).map fun x=>⟨x.kids.getD 0 default,x.kids.getD 1 default⟩))∨(¬(∀x∈f.kids.drop i,x.kind=3/\x.kids.length=2)/\∃r,o=.inl r/\r.2.2=false):=by
  intro n
  induction n with
  | zero =>
   intro i hi z _;rw [Wb,if_neg (by omega),show i=f.kids.length by omega,Z4];exact ⟨_,rfl,.inl ⟨by simp,by simp⟩⟩
  | succ n ih =>
   intro i hi z hzl
   have hil:i < f.kids.length:=by omega
   have k2:=Fm.G8 (ZJ hil);rw [Wb,if_pos (by omega),Yf _ i hil,Zw hil];simp only [X6]
   by_cases q1:f.kids[i].kind=3
   rotate_left
   ·rw [if_neg q1];simp only [Yd,X6,if_true];exact ⟨_,rfl,.inr ⟨fun h=>q1 (h _ (KB ..)).1,_,rfl,rfl⟩⟩
   rw [if_pos q1]
   by_cases q2:f.kids[i].kids.length=2
   rotate_left
   ·simp only [Yd,X6,decide_eq_false (show ¬(f.kids[i].kids.length:Int)=2 by omega),ZS,if_true];exact ⟨_,rfl,.inr ⟨fun h=>q2 (h _ (KB ..)).2,_,rfl,rfl⟩⟩
   have j0:0 < f.kids[i].kids.length:=by omega
   have j1:1 < f.kids[i].kids.length:=by omega
   have m0:=Fm.G8 (ZJ j0);have m1:=Fm.G8 (ZJ j1);simp only [Yd,X6,decide_eq_true (show (f.kids[i].kids.length:Int)=2 by omega),ZT,Qq,if_false,show idx f.kids[i].kids 0=some f.kids[i].kids[0] from Yf _ 0 j0,show idx f.kids[i].kids 1=some f.kids[i].kids[1] from Yf _ 1 j1];rw [Lt _ (by omega),Lt _ (by omega)];simp only [X6];rw [YA (by simp;omega),X6,Ws (i:=i) (by omega)];refine (ih (i+1) (by omega) _ (by simp;omega)).mono fun o ho=>?_
   rcases ho with ⟨r1,r2⟩ | ⟨r1,r2⟩
   ·refine .inl ⟨fun x hx=>?_,?_⟩
    ·rcases List.mem_cons.1 hx with rfl | hx
     ·exact ⟨q1,q2⟩
     ·exact r1 x hx
    ·rw [r2,List.map_cons,Vt j0,Vt j1,QD];rfl
   ·exact .inr ⟨fun h=>r1 fun x hx=>h x (Kf _ hx),r2⟩
 obtain ⟨o,ho,hop⟩:=lp1 (f.kids.length - 2) 2 (by omega) [] (by simp;omega);rw [show ((2:Nat):Int)=2 from rfl] at ho;rw [ho,X6]
 rcases hop with ⟨r1,r2⟩ | ⟨r1,r,r2,r3⟩
 ·subst r2;simp only [QS];have hls:FS f.kids[1].kids:=⟨by unfold Sm;omega,fun x hx=>by have:=Fm.G8 hx;omega⟩
  have hrs:RS ((f.kids.drop 2).map fun x=>(⟨x.kids.getD 0 default,x.kids.getD 1 default⟩:Rul)):=⟨by rw [ZH,List.length_drop];unfold Sm;omega,fun x hx=>by
   obtain ⟨y,hy,rfl⟩:=QX.1 hx;have q:=(r1 y hy).2;have k2:=Fm.G8 (List.mem_of_mem_drop hy)
   have j0:0 < y.kids.length:=by omega
   have j1:1 < y.kids.length:=by omega
   have m0:=Fm.G8 (ZJ j0);have m1:=Fm.G8 (ZJ j1);simp only [Vt j0,Vt j1]
   omega⟩
  have er:Hb f=(f.kids[1].kids,(f.kids.drop 2).map fun x=>⟨x.kids.getD 0 default,x.kids.getD 1 default⟩):=by unfold Hb;rw [g1]
  obtain ⟨b2,e2,hb2⟩:=Od hls hrs;rw [e2,X6];cases b2
  ·simp only [ZS,if_true];refine bad fun h=>?_;have:=h.2.2.2.2.2.2;rw [er] at this;have:=hb2.2 this;cases this
  ·simp only [ZT,Qq,if_false];refine ⟨_,rfl,.inl ⟨⟨hb.1 rfl,h3,by omega,by rw [g0];exact h5,by rw [g1];exact h6,r1,by rw [er];exact hb2.1 rfl⟩,by rw [er]⟩⟩
 ·subst r2;exact ⟨_,rfl,.inr ⟨fun h=>r1 h.2.2.2.2.2.1,r3⟩⟩
theorem Qmj:∀f:Fm,f.sz<=1000000->Wi f=some f:=by
 intro f
 induction f using Fm.ind with
 | h f ih =>
  intro hf;have hz:=Fm.GR f
  rw [Wi,YA (by simp;omega),X6,H6,CY _ _ (by omega),G6 (V0 f.kids) id (fun _ _=>rfl) f.kids [] 0 (fun x hx z i r hzb=>by
   have:=Fm.G8 hx
   rw [V0,Yd,X6,ih x hx (by omega),X6,YA (by simp;omega),X6];rfl) (by simp;omega)]
  simp only [X6,Yd,QS,List.map_id,Fm.eta]
theorem US (rs:List Rul) (hr:RS rs) (hl:rs.length<=1000000):GX rs=some rs:=by
 rw [GX,CZ _ _ (by omega),G6 (V1 rs) id (fun _ _=>rfl) rs [] 0 (fun x hx z i r hzb=>by
  have:=hr.2 x hx
  rw [V1,Yd,X6,IC,Qmj _ (by omega),X6,Qmj _ (by omega),X6,Yd,X6,YA (by simp;omega),X6];rfl) (by simp;omega)]
 simp only [X6,Yd,QS,List.map_id]
end Go.Proofs.SA
