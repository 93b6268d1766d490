/- The draws yield something: the reader, copies, mutations, drawn forms. Imports the plain functions of a seat (gen2). -/
import Derived.Test.YtiiamkelehfnoaaGreatDoorPa
import Derived.Test.YtiiamkelehfnoaaGreatDoorsjD
set_option linter.unusedVariables false
set_option linter.unusedSimpArgs false
set_option maxRecDepth 100000
open Go Go.Proofs Go.Proofs.Shadow
open Tot renaming bind → ZK, pure → ZL, ite → ZM
open _root_.List renaming length_nil → ZN, length_cons → ZO, length_append → QW, take_succ_eq_append_getElem → ZQ, getElem_mem → ZR, nil_append → QU, mem_singleton → ZS
open _root_.ByteArray renaming mk → Ql
open _root_.Option renaming bind_some → Qf, bind_eq_bind → ZP
open Fm renaming mk → KT, sz → ZT
open _root_.Nat renaming le_refl → Qu
open Go.IntKind (i64)
namespace Go.Proofs.SA
def RdI (c:Rdr) (k:Nat):Prop:=c.b.length<=2000/\(∀x∈c.b,0<=x/\x < 256)/\0<=c.p/\c.p<=k
theorem RdI.mono {c:Rdr} {k k':Nat} (h:RdI c k) (hk:k<=k'):RdI c k':=⟨h.1,h.2.1,h.2.2.1,by have:=h.2.2.2;omega⟩
theorem RZ {l:List Int} (h:∀x∈l,0<=x/\x < 256):Tot (HW l) fun c=>RdI c 0:=by
 unfold HW;refine ZM (fun hc=>?_) (fun hc=>?_)
 ·refine ZK (Qdn (by omega) (by omega) (by omega)) fun z hz=>ZL ⟨by have:=hz.1;simp only;omega,fun x hx=>h x (hz.2 x hx),by simp,by simp⟩
 ·exact ZL ⟨by simp only;omega,h,by simp,by simp⟩
theorem W0 {c:Rdr} {k:Nat} {n:Int} (h:RdI c k) (hk:k < 1099511627776) (h1:1<=n):Tot (Yp n c) fun r=>0<=r.1/\r.1 < n/\RdI r.2 (k+1):=by
 obtain ⟨hb,hx,hp0,hpk⟩:=h;unfold Yp;have w1:i64.wrap (c.p+1)=c.p+1:=Yz (by omega) (by omega)
 have w2:i64.wrap (c.p+1 - 1)=c.p:=by rw [Yz (by omega) (by omega)];omega
 simp only [w1,w2,pure_bind];have hR:RdI ⟨c.b,c.p+1⟩ (k+1):=⟨hb,hx,by simp only;omega,by simp only;omega⟩;refine ZM (fun hc=>ZL ⟨by simp,by simp only;omega,hR⟩) (fun hc=>?_);simp only [Bool.or_eq_true,decide_eq_true_eq,not_or] at hc;refine ZM (fun hl=>?_) (fun hl=>?_)
 ·refine ZK (H9 hp0 hl) fun x hm=>?_;have:=hx x hm;rw [Yz (a:=x) (by omega) (by omega)];exact ZK (FI (by omega) h1) fun y hy=>ZL ⟨hy.1,hy.2,hR⟩
 ·refine ZK (FI hp0 (by omega)) fun i hi=>?_;refine ZK (H9 hi.1 hi.2) fun x hm=>?_;have h2:=hx x hm
  have w3:i64.wrap (i64.wrap (c.p * 7)+3)=c.p * 7+3:=by rw [Yz (a:=c.p * 7) (by omega) (by omega),Yz (by omega) (by omega)]
  rw [w3];refine ZK (FI (by omega) (by omega)) fun j hj=>?_;refine ZK (H9 hj.1 hj.2) fun y hm2=>?_;have h3:=hx y hm2;refine ZK (Qdb hp0 (by omega) (by omega)) fun q hq=>?_
  have e:i64.wrap (i64.wrap (i64.wrap (i64.wrap (i64.wrap x * 131)+i64.wrap (i64.wrap y * 1117))+i64.wrap (c.p * 29))+i64.wrap (q * 53))=x * 131+y * 1117+c.p * 29+q * 53:=by
   rw [Yz (a:=x) (by omega) (by omega),Yz (a:=y) (by omega) (by omega),Yz (a:=x * 131) (by omega) (by omega),Yz (a:=y * 1117) (by omega) (by omega),Yz (a:=c.p * 29) (by omega) (by omega),Yz (a:=q * 53) (by omega) (by omega),Yz (a:=x * 131+y * 1117) (by omega) (by omega),Yz (a:=x * 131+y * 1117+c.p * 29) (by omega) (by omega),Yz (by omega) (by omega)]
  rw [e];generalize hv:x * 131+y * 1117+c.p * 29+q * 53=v
  have v0:0<=v:=by omega
  have v1:v < 1099511627776000:=by omega
  have d0:0<=v.tdiv 64:=Int.tdiv_nonneg v0 (by omega);have d1:v.tdiv 64<=v:=Int.tdiv_le_self _ v0;rw [Yz (a:=v.tdiv 64) (by omega) (by omega)];have:=Qcn v0 (by omega) d0 (by omega);exact ZK (FI this.1 h1) fun z hz=>ZL ⟨hz.1,hz.2,hR⟩
theorem BT {c:Rdr} {k:Nat} {l:List Int} (h:RdI c k) (hk:k < 1099511627776) (hl:1<=l.length):Tot (YA l c) fun r=>r.1∈l/\RdI r.2 (k+1):=by
 unfold YA;refine ZK (W0 h hk (by omega)) fun x hx=>?_;exact ZK (H9 hx.1 hx.2.1) fun y hy=>ZL ⟨hy,hx.2.2⟩
theorem Qau {c:Rdr} {k:Nat} {l:List ByteArray} (h:RdI c k) (hk:k < 1099511627776) (hl:1<=l.length):Tot (V2 l c) fun r=>r.1∈l/\RdI r.2 (k+1):=by
 unfold V2;refine ZK (W0 h hk (by omega)) fun x hx=>?_;exact ZK (H9 hx.1 hx.2.1) fun y hy=>ZL ⟨hy,hx.2.2⟩
theorem Cd (k:Int) (s:ByteArray) (n:Int) (sc:List Int) (ks:List Fm):(KT k s n sc ks).sz=s.size+sc.length+ks.length+YT ZT ks:=by rw [Fm.Ge];rfl
theorem IA (s:ByteArray):Tot (Vf s) fun f=>f.sz=s.size:=⟨_,rfl,by simp only;rw [Cd];simp [YT]⟩
theorem Ib (l:List Fm):Tot (V3 l) fun f=>f.sz=l.length+YT ZT l:=⟨_,rfl,by simp only;rw [Cd];show 0+0+_+_=_;omega⟩
def Pw (d:Nat):Nat:=100 * 4 ^ d
theorem Qfn (d:Nat):Pw (d+1)=4 * Pw d:=by simp only [Pw,Nat.pow_succ];omega
theorem Qbt (d:Nat):100<=Pw d:=by simp only [Pw];have:0 < 4 ^ d:=Nat.pow_pos (by omega);omega
def Qat:List ByteArray:=[(Ql #[97]),(Ql #[98]),(Ql #[120]),(Ql #[121]),(Ql #[102]),(Ql #[105,102]),(Ql #[108,101,116]),(Ql #[43])]
theorem Qd5:∀(d:Nat) {c:Rdr} {k:Nat},RdI c k->d < 20->k+Pw d < 1099511627776->Tot (Gq d c) fun r=>r.1.sz<=Pw d/\RdI r.2 (k+Pw d):=by
 have base:∀{c:Rdr} {k n:Nat} {p:Int->Prop} {q:ByteArray->Prop},RdI c k->100<=n->k+n < 1099511627776+1->Tot (Yp 4 c>>=fun x=>if x.1=0 then (YA [0,1,2,7,42,999] x.2>>=fun y=>pure (KT 2 (Ql #[]) y.1 [] [],y.2)) else (V2 Qat x.2>>=fun y=>Vf y.1>>=fun z=>pure (z,y.2))) fun r=>r.1.sz<=100/\RdI r.2 (k+2):=by
  intro c k n p q h hn hk;refine ZK (W0 h (by omega) (by omega)) fun x hx=>?_;refine ZM (fun _=>?_) (fun _=>?_)
  ·exact ZK (BT hx.2.2 (by omega) (by simp)) fun y hy=>ZL ⟨by simp only;rw [Cd];show 0+0+0+0<=100;omega,hy.2⟩
  ·refine ZK (Qau hx.2.2 (by omega) (by simp [Qat])) fun y hy=>?_;refine ZK (IA _) fun z hz=>ZL ⟨?_,hy.2⟩
   have:∀s∈Qat,s.size<=100:=by decide
   simp only;rw [hz];exact this _ hy.1
 intro d
 induction d with
 | zero =>
  intro c k h hd hk;rw [Gq];rw [if_pos (by rfl)];exact (base (p:=fun _=>True) (q:=fun _=>True) h (Qu 100) (by have:=Qbt 0;omega)).mono fun r hr=>⟨by have:=Qbt 0;omega,hr.2.mono (by have:=Qbt 0;omega)⟩
 | succ d ih =>
  intro c k h hd hk;have hp:=Qbt d;have hs:=Qfn d
  have loop:∀(n:Nat) {z:List Fm} {b:List Int} {p:Int} {k:Nat},n<=3->z.length+n<=3->RdI ⟨b,p⟩ k->k+n * Pw d < 1099511627776->Tot (JV ((d+1:Nat):Int) z n b p) fun r=>r.1.length<=z.length+n/\YT ZT r.1<=YT ZT z+n * Pw d/\RdI ⟨r.2.1,r.2.2⟩ (k+n * Pw d):=by
   intro n
   induction n with
   | zero =>
    intro z b p k _ _ h _;rw [JV,if_neg (by omega)];exact ZL ⟨by simp,by simp,by simpa using h⟩
   | succ n ihn =>
    intro z b p k hn hz h hk;rw [Nat.succ_mul] at hk;rw [JV,if_pos (by omega)]
    have w1:i64.wrap (((d+1:Nat):Int) - 1)=(d:Int):=by rw [Yz (by omega) (by omega)];omega
    have w2:i64.wrap (((n+1:Nat):Int) - 1)=(n:Int):=by rw [Yz (by omega) (by omega)];omega
    rw [w1,w2];refine ZK (ih h (by omega) (by omega)) fun x hx=>?_;refine ZK (Bj (by simp only [ZO,ZN];omega)) fun y hy=>?_;subst hy;refine (ihn (by omega) (by simp only [QW,ZO,ZN];omega) hx.2 (by omega)).mono fun r hr=>?_;obtain ⟨r1,r2,r3⟩:=hr;simp only [QW,ZO,ZN,Cr,YT] at r1 r2;rw [Nat.succ_mul];exact ⟨by omega,by have:=hx.1;omega,r3.mono (by omega)⟩
  rw [Gq,if_neg (by omega)];refine ZK (W0 h (by omega) (by omega)) fun x hx=>?_;refine ZM (fun _=>?_) (fun _=>?_)
  ·exact (base (p:=fun _=>True) (q:=fun _=>True) hx.2.2 (Qu 100) (by omega)).mono fun r hr=>⟨by omega,hr.2.mono (by omega)⟩
  ·refine ZK (W0 hx.2.2 (by omega) (by omega)) fun y hy=>?_;obtain ⟨m,hm⟩:=Int.eq_ofNat_of_zero_le hy.1
   have hm3:m<=3:=by have:=hy.2.1;omega
   have hmul:m * Pw d<=3 * Pw d:=Nat.mul_le_mul_right _ hm3;rw [hm];refine ZK (loop m hm3 (by simp;omega) hy.2.2 (by omega)) fun r hr=>?_;obtain ⟨r1,r2,r3⟩:=hr;simp only [ZN,YT] at r1 r2;refine ZL ⟨?_,r3.mono (by omega)⟩
   simp only;rw [Cd]
   show 0+0+_+_<=_;omega
end Go.Proofs.SA
namespace Go.Proofs.SA
def Qw (d:Nat):Nat:=1000 * 4 ^ d
theorem Qfo (d:Nat):Qw (d+1)=4 * Qw d:=by simp only [Qw,Nat.pow_succ];omega
theorem Qiu (d:Nat):1000<=Qw d:=by simp only [Qw];have:0 < 4 ^ d:=Nat.pow_pos (by omega);omega
def NmI (l:List ByteArray) (d:Nat):Prop:=1<=l.length/\l.length+d<=1000/\∀s∈l,s.size<=10
theorem Qba:∀(d:Nat) {a:List ByteArray} {c:Rdr} {k:Nat},RdI c k->NmI a d->d < 20->k+Qw d < 1099511627776->Tot (Vh a d c) fun r=>r.1.sz<=Qw d/\RdI r.2 (k+Qw d):=by
 have base:∀{a:List ByteArray} {c:Rdr} {k:Nat},RdI c k->1<=a.length->(∀s∈a,s.size<=10)->k+99 < 1099511627776->Tot (Yp 3 c>>=fun x=>if x.1=0 then (YA [0,1,2,7] x.2>>=fun y=>pure (KT 2 (Ql #[]) y.1 [] [],y.2)) else (Yp (a.length:Int) x.2>>=fun y=>idx a y.1>>=fun u=>Vf u>>=fun z=>pure (z,y.2))) fun r=>r.1.sz<=100/\RdI r.2 (k+2):=by
  intro a c k h ha hs hk;refine ZK (W0 h (by omega) (by omega)) fun x hx=>?_;refine ZM (fun _=>?_) (fun _=>?_)
  ·exact ZK (BT hx.2.2 (by omega) (by simp)) fun y hy=>ZL ⟨by simp only;rw [Cd];show 0+0+0+0<=100;omega,hy.2⟩
  ·refine ZK (W0 hx.2.2 (by omega) (by omega)) fun y hy=>?_;refine ZK (H9 hy.1 hy.2.1) fun u hu=>?_;refine ZK (IA _) fun z hz=>ZL ⟨?_,hy.2.2⟩;have:=hs u hu
   simp only;omega
 intro d
 induction d with
 | zero =>
  intro a c k h ha hd hk;have:=Qiu 0;rw [Vh,if_pos (by rfl)];exact (base h ha.1 ha.2.2 (by omega)).mono fun r hr=>⟨by omega,hr.2.mono (by omega)⟩
 | succ d ih =>
  intro a c k h ha hd hk;have hp:=Qiu d;have hs:=Qfo d
  have w1:i64.wrap (((d+1:Nat):Int) - 1)=(d:Int):=by rw [Yz (by omega) (by omega)];omega
  rw [Vh,if_neg (by omega)];simp only [w1];refine ZK (W0 h (by omega) (by omega)) fun x hx=>?_;refine ZM (fun _=>?_) (fun _=>?_)
  ·exact (base hx.2.2 ha.1 ha.2.2 (by omega)).mono fun r hr=>⟨by omega,hr.2.mono (by omega)⟩
  refine ZK (Qau hx.2.2 (by omega) (by simp)) fun v hv=>?_
  have hv10:v.1.size<=10:=by
   have:∀s∈[(Ql #[120]),(Ql #[121]),(Ql #[116])],s.size<=10:=by decide
   exact this _ hv.1
  refine ZK (Bj (by have:=ha.2.1;simp only [ZN];omega)) fun y hy=>?_;rw [QU] at hy;rw [hy];refine ZK (Bj (by have:=ha.2.1;simp only [ZN,ZO];omega)) fun y hy=>?_;subst hy;have ha0:NmI a d:=⟨ha.1,by have:=ha.2.1;omega,ha.2.2⟩
  have ha2:NmI (a++[v.1]) d:=⟨by simp,by have:=ha.2.1;simp;omega,fun s hs=>by
   simp only [List.mem_append,ZS] at hs
   rcases hs with hs | rfl
   ·exact ha.2.2 s hs
   ·exact hv10⟩
  refine ZK (W0 hv.2 (by omega) (by omega)) fun p hp'=>?_;obtain ⟨p0,p8,hR⟩:=hp';refine ZK (p:=fun _=>True) (ZM (fun _=>ZL trivial) (fun _=>ZL trivial)) fun b _=>?_;refine ZM (fun _=>?_) (fun _=>?_)
  ·
   refine ZK (IA _) fun n1 h1=>?_;refine ZK (IA _) fun n2 h2=>?_;refine ZK (Ib _) fun n3 h3=>?_;refine ZK (ih hR ha2 (by omega) (by omega)) fun n4 h4=>?_;refine ZK (Ib _) fun n5 h5=>ZL ⟨?_,h4.2.mono (by omega)⟩;have e:(Ql #[108,97,109,98,100,97]).size=6:=rfl;have:=h4.1;simp only [YT,ZO,ZN] at h3 h5
   simp only;omega
  refine ZK (p:=fun _=>True) (ZM (fun _=>ZL trivial) (fun _=>ZL trivial)) fun b _=>?_;refine ZM (fun _=>?_) (fun _=>?_)
  ·
   refine ZK (IA _) fun n1 h1=>?_;refine ZK (ih hR ha0 (by omega) (by omega)) fun n2 h2=>?_;refine ZK (Ib _) fun n3 h3=>?_;refine ZK (IA _) fun n4 h4=>?_;refine ZK (Ib _) fun n5 h5=>?_;refine ZK (ih h2.2 ha2 (by omega) (by omega)) fun n6 h6=>?_;refine ZK (Ib _) fun n7 h7=>ZL ⟨?_,h6.2.mono (by omega)⟩;have e:(Ql #[108,101,116]).size=3:=rfl;have:=h2.1;have:=h6.1;simp only [YT,ZO,ZN] at h3 h5 h7
   simp only;omega
  refine ZM (fun _=>?_) (fun _=>?_)
  ·
   refine ZK (IA _) fun n1 h1=>?_;refine ZK (ih hR ha0 (by omega) (by omega)) fun n2 h2=>?_;refine ZK (ih h2.2 ha0 (by omega) (by omega)) fun n3 h3=>?_
   have hz:Tot (Vh a 0 n3.2) fun r=>r.1.sz<=100/\RdI r.2 (k+1+1+1+Qw d+Qw d+2):=by
    rw [Vh,if_pos (by rfl)];exact base h3.2 ha.1 ha.2.2 (by omega)
   refine ZK hz fun n4 h4=>?_;refine ZK (Ib _) fun n5 h5=>ZL ⟨?_,h4.2.mono (by omega)⟩;have e:(Ql #[105,102]).size=2:=rfl;have:=h2.1;have:=h3.1;have:=h4.1;simp only [YT,ZO,ZN] at h5
   simp only;omega
  refine ZM (fun _=>?_) (fun _=>?_)
  ·
   have q:Tot (Gq 1 p.2) fun r=>r.1.sz<=3 * Qw d+50/\RdI r.2 (k+1+1+1+(3 * Qw d+50)):=by
    have:=Qd5 1 hR (by omega) (by show k+1+1+1+400 < _;omega);refine this.mono fun r hr=>⟨?_,hr.2.mono ?_⟩
    ·have:=hr.1;change r.1.sz<=400 at this;omega
    ·show k+1+1+1+400<=_;omega
   refine ZK (IA _) fun n1 h1=>?_;refine ZK q fun n2 h2=>?_;refine ZK (Ib _) fun n3 h3=>ZL ⟨?_,h2.2.mono (by omega)⟩;have e:(Ql #[113,117,111,116,101]).size=5:=rfl;have:=h2.1;simp only [YT,ZO,ZN] at h3
   simp only;omega
  ·refine ZK (ih hR ha0 (by omega) (by omega)) fun n2 h2=>?_;refine ZK (ih h2.2 ha0 (by omega) (by omega)) fun n3 h3=>?_;refine ZK (Ib _) fun n5 h5=>ZL ⟨?_,h3.2.mono (by omega)⟩;have:=h2.1;have:=h3.1;simp only [YT,ZO,ZN] at h5
   simp only;omega
theorem BK:∀(f:Fm),f.sz < 1099511627776->Vq f=some f:=by
 intro f
 induction f using Fm.ind with
 | h f ih =>
  intro hf;have hz:=Fm.Ge f;rw [Vq];rw [YD (by simp only [ZN];omega)];simp only [QU,ZP,Qf]
  have key:∀n (i:Nat),i+n=f.kids.length->W9 f f.sc (f.kids.take i) i=some f.kids:=by
   intro n
   induction n with
   | zero =>
    intro i hi;rw [W9,if_neg (by omega),show i=f.kids.length by omega,List.take_length];rfl
   | succ n ihn =>
    intro i hi
    have hil:i < f.kids.length:=by omega
    rw [W9,if_pos (by omega),Yn _ i hil];simp only [ZP,Qf];rw [ih _ (ZR _) (by have:=Fm.Gf (ZR hil);omega)];simp only [Qf];rw [YD (by simp only [List.length_take,ZO,ZN];omega)];simp only [Qf];rw [VI (by omega),← ZQ hil];exact ihn (i+1) (by omega)
  have:=key f.kids.length 0 (by omega);simp only [List.take_zero] at this;show (W9 f f.sc [] 0>>=fun e=>pure (KT f.kind f.name f.num f.sc e))=_;have e0:((0:Nat):Int)=0:=rfl;rw [e0] at this;rw [this];cases f;rfl
theorem Qcr (f:Fm) (hf:f.sz < 1099511627776):Jw f=some f:=by
  have hz:=Fm.Ge f;rw [Jw];rw [YD (by simp only [ZN];omega)];simp only [QU,ZP,Qf]
  have key:∀n (i:Nat),i+n=f.kids.length->YY f f.sc (f.kids.take i) i=some f.kids:=by
   intro n
   induction n with
   | zero =>
    intro i hi;rw [YY,if_neg (by omega),show i=f.kids.length by omega,List.take_length];rfl
   | succ n ihn =>
    intro i hi
    have hil:i < f.kids.length:=by omega
    rw [YY,if_pos (by omega),Yn _ i hil];simp only [ZP,Qf];rw [BK _ (by have:=Fm.Gf (ZR hil);omega)];simp only [Qf];rw [YD (by simp only [List.length_take,ZO,ZN];omega)];simp only [Qf];rw [VI (by omega),← ZQ hil];exact ihn (i+1) (by omega)
  have:=key f.kids.length 0 (by omega);simp only [List.take_zero] at this;have e0:((0:Nat):Int)=0:=rfl;rw [e0] at this;rw [this];cases f;rfl
theorem Sc {α:Type} (g:α->Nat):∀(l:List α) (i:Nat) (x:α) (h:i < l.length),YT g (l.set i x)+g l[i]=YT g l+g x
 | [],i,x,h=>by simp at h
 | a :: l,0,x,h=>by simp [YT];omega
 | a :: l,i+1,x,h=>by
  simp only [List.set_cons_succ,YT,List.getElem_cons_succ];have:=Sc g l i x (by simpa using h);omega
theorem Qc7 {α:Type} {l:List α} {i:Int} (h0:0<=i) (h:i < l.length):Tot (idx l i) fun x=>∃hi:i.toNat < l.length,x=l[i.toNat]:=by
 rw [PM l i h0 h];exact ⟨_,rfl,by omega,rfl⟩
theorem Co:∀(f:Fm) {c:Rdr} {k:Nat},RdI c k->f.sz < 1000000000->k+3 * (f.sz+1) < 1099511627776->Tot (Wq f c) fun r=>r.1.sz<=f.sz+20/\RdI r.2 (k+3 * (f.sz+1)):=by
 intro f
 induction f using Fm.ind with
 | h f ih =>
  intro c k h hf hk;have hz:=Fm.Ge f
  have tail:∀{c:Rdr} {k:Nat} {q:Nat},RdI c k->k+2 < 1099511627776->Tot (Yp 14 c>>=fun x36 =>
   if x36.1=0 then (YA [0,4,1,3] x36.2>>=fun x41=>pure (KT x41.1 f.name f.num f.sc f.kids,x41.2))
   else if x36.1=1 then (V2 [(Ql #[]),(Ql #[65]),(Ql #[116,111,111,108,111,110,103,97,110,97,109,101,49]),(Ql #[122]),(Ql #[120,32,121])] x36.2>>=fun x47=>pure (KT f.kind x47.1 f.num f.sc f.kids,x47.2))
   else if x36.1=2 then (YA [1000,-1,5] x36.2>>=fun x53=>pure (KT f.kind f.name x53.1 f.sc f.kids,x53.2))
   else if x36.1=3 then (YA [0,100,1,50] x36.2>>=fun x61=>Wg 8 f.sc [x61.1]>>=fun x63=>pure (KT f.kind f.name f.num x63 f.kids,x61.2))
   else pure (KT f.kind f.name f.num f.sc f.kids,x36.2)) fun r=>r.1.sz<=f.sz+20/\RdI r.2 (k+2):=by
   intro c k q h hk;refine ZK (W0 h (by omega) (by omega)) fun x hx=>?_;obtain ⟨_,_,hR⟩:=hx;refine ZM (fun _=>ZK (BT hR (by omega) (by simp)) fun y hy=>ZL ⟨by simp only;rw [Cd];omega,hy.2⟩) (fun _=>?_);refine ZM (fun _=>ZK (Qau hR (by omega) (by simp)) fun y hy=>ZL ⟨?_,hy.2⟩) (fun _=>?_)
   ·have:∀s∈[(Ql #[]),(Ql #[65]),(Ql #[116,111,111,108,111,110,103,97,110,97,109,101,49]),(Ql #[122]),(Ql #[120,32,121])],s.size<=20:=by decide
    have:=this _ hy.1
    simp only;rw [Cd];omega
   refine ZM (fun _=>ZK (BT hR (by omega) (by simp)) fun y hy=>ZL ⟨by simp only;rw [Cd];omega,hy.2⟩) (fun _=>?_);refine ZM (fun _=>ZK (BT hR (by omega) (by simp)) fun y hy=>?_) (fun _=>?_)
   ·refine ZK (Bj (by simp only [ZO,ZN];omega)) fun z hz'=>ZL ⟨?_,hy.2⟩;subst hz'
    simp only;rw [Cd];simp only [QW,ZO,ZN];omega
   ·exact ZL ⟨by simp only;rw [Cd];omega,hR.mono (by omega)⟩
  rw [Wq,Qcr f (by omega)];refine ZK (p:=fun x=>x=f) ⟨f,rfl,rfl⟩ fun x hx=>?_;subst hx;refine ZM (fun hl=>?_) (fun hl=>?_)
  ·refine ZK (W0 h (by omega) (by omega)) fun p hp=>?_;refine ZM (fun _=>?_) (fun _=>?_)
   ·refine ZK (W0 hp.2.2 (by omega) (by omega)) fun q hq=>?_;refine ZK (Qc7 hq.1 hq.2.1) fun g hg=>?_;obtain ⟨hi,rfl⟩:=hg;have hm:x.kids[q.1.toNat]∈x.kids:=ZR _;have:=GC ZT x.kids _ hm;refine ZK (ih _ hm hq.2.2 (by omega) (by omega)) fun g' hg'=>?_;refine ZK (H9 hq.1 hq.2.1) fun u _=>ZL ⟨?_,hg'.2.mono (by omega)⟩;have h3:=Sc ZT x.kids q.1.toNat g'.1 hi;have:=hg'.1
    simp only;rw [Cd,List.length_set];omega
   ·exact (tail (q:=0) hp.2.2 (by omega)).mono fun r hr=>⟨hr.1,hr.2.mono (by omega)⟩
  ·exact (tail (q:=0) h (by omega)).mono fun r hr=>⟨hr.1,hr.2.mono (by omega)⟩
end Go.Proofs.SA
namespace Go.Proofs.SA
theorem IE {c:Prop} [Decidable c] {o:Option Bool} (h:c->Tot o fun _=>True):Tot (if c then o else pure false) fun b=>b=true->c:=by
 refine ZM (fun hc=>(h hc).mono fun _ _ _=>hc) (fun hc=>ZL fun h=>by cases h)
theorem R0 {c:Prop} [Decidable c] {o:Option Bool} (h:¬c->Tot o fun _=>True):Tot (if c then pure true else o) fun b=>b=false->¬c:=by
 refine ZM (fun hc=>ZL fun h=>by cases h) (fun hc=>(h hc).mono fun _ _ _=>hc)
theorem Qd3 {s:ByteArray} (hs:s.size < 1099511627776):∀(n:Nat) (i:Int),0<=i->i+n=s.size->Tot (Je s i) fun r=>i<=r/\r<=s.size:=by
 intro n
 induction n with
 | zero =>
  intro i h0 h;rw [Je,if_neg (by omega)];exact ⟨i,rfl,by omega,by omega⟩
 | succ n ih =>
  intro i h0 h;rw [Je];refine ZK (IE fun hc=>ZK (Gm h0 hc) fun _ _=>ZL trivial) fun b hb=>?_;refine ZM (fun hb'=>?_) (fun _=>ZL ⟨by omega,by omega⟩);rw [Yz (by omega) (by omega)];exact (ih (i+1) (by omega) (by omega)).mono fun r hr=>⟨by omega,hr.2⟩
theorem BY {s:ByteArray} (hs:s.size < 1099511627776) {i:Int} (h0:0<=i) (h:i<=s.size):Tot (G7 s i) fun r=>i<=r/\r<=s.size:=by
 unfold G7;exact ZK (Qd3 hs (s.size - i.toNat) i h0 (by omega)) fun r hr=>ZL hr
theorem Qem {s:ByteArray} (hs:s.size < 1099511627776):∀(n:Nat) (i:Int),0<=i->i+n=s.size->Tot (Jg s i) fun r=>i<=r/\r<=s.size:=by
 intro n
 induction n with
 | zero =>
  intro i h0 h;rw [Jg,if_neg (by omega)];exact ⟨i,rfl,by omega,by omega⟩
 | succ n ih =>
  intro i h0 h;rw [Jg];refine ZK (IE fun hc=>ZK (Gm h0 hc) fun _ _=>ZL trivial) fun b hb=>?_;refine ZK (IE fun hc=>ZK (Gm h0 (hb hc)) fun _ _=>ZL trivial) fun b2 hb2=>?_;refine ZK (IE fun hc=>ZK (Gm h0 (hb (hb2 hc))) fun _ _=>ZL trivial) fun b3 hb3=>?_;refine ZK (IE fun hc=>ZK (Gm h0 (hb (hb2 (hb3 hc)))) fun _ _=>ZL trivial) fun b4 hb4=>?_;refine ZM (fun hb'=>?_) (fun _=>ZL ⟨by omega,by omega⟩);rw [Yz (by omega) (by omega)];exact (ih (i+1) (by omega) (by omega)).mono fun r hr=>⟨by omega,hr.2⟩
theorem Qbk {s:ByteArray} (hs:s.size < 1099511627776) {i:Int} (h0:0<=i) (h:i<=s.size):Tot (Af s i) fun r=>i<=r/\r<=s.size:=by
 unfold Af;exact ZK (Qem hs (s.size - i.toNat) i h0 (by omega)) fun r hr=>ZL hr
theorem S4 {s:ByteArray} {x:Bool} (hs:s.size < 1099511627776):∀(n:Nat) (v i:Int),0<=i->i+n=s.size->Tot (W8 x s v i) fun _=>True:=by
 intro n
 induction n with
 | zero =>
  intro v i h0 h;rw [W8,if_neg (by omega)];exact ⟨_,rfl,trivial⟩
 | succ n ih =>
  intro v i h0 h;rw [W8,if_pos (by omega)];have hx:=Gm (s:=s) h0 (by omega);refine ZK hx fun a _=>?_;refine ZK (p:=fun _=>True) (ZM (fun _=>ZL trivial) (fun _=>ZK hx fun _ _=>ZL trivial)) fun b _=>?_;refine ZM (fun _=>ZL trivial) (fun _=>?_);refine ZK hx fun a _=>?_;rw [Yz (a:=i+1) (by omega) (by omega)];exact ih _ (i+1) (by omega) (by omega)
theorem OK {s:ByteArray} (hs:s.size < 1099511627776):Tot (Is s) fun r=>r.2=true->1<=s.size:=by
 unfold Is;refine ZK (IE fun hc=>ZK (Gm (by omega) (by omega)) fun _ _=>ZL trivial) fun b hb=>?_;refine ZK (p:=fun z=>z.size<=s.size) (ZM (fun hb'=>?_) (fun _=>ZL (Qu _))) fun z hz=>?_
 ·exact ZK (FL (by omega) (by have:=hb hb';omega) (by omega)) fun z hz=>ZL (by omega)
 simp only [pure_bind];refine ZK (p:=fun b=>b=false->1<=z.size) (ZM (fun hb'=>ZL fun h=>by cases h) (fun hb'=>?_)) fun b2 hb2=>?_
 ·simp only [Bool.or_eq_true,decide_eq_true_eq,not_or] at hb';refine ZK (Gm (by omega) (by omega)) fun a _=>?_
  refine ZK (p:=fun _=>True) (ZM (fun _=>ZL trivial) (fun _=>ZL trivial)) fun _ _=>ZL fun _=>by omega
 refine ZM (fun _=>ZL fun h=>by cases h) (fun hb'=>?_);have h1:=hb2 (by simpa using hb');refine ZK (S4 (by omega) z.size 0 0 (by omega) (by omega)) fun o _=>?_
 cases o with
 | inl r=>exact ZL fun _=>by omega
 | inr e=>exact ZM (fun _=>ZL fun _=>by omega) (fun _=>ZL fun _=>by omega)
theorem SS {s:ByteArray} {c:Int} (hs:s.size < 1099511627):∀(n:Nat) (z:List ByteArray) (a i:Int),0<=a->a<=i->i+n=s.size+1->z.length+n<=s.size+1->(∀x∈z,x.size<=s.size)->Tot (Wo s c z a i) fun r=>∀x∈r,x.size<=s.size:=by
 intro n
 induction n with
 | zero =>
  intro z a i h0 h1 h2 h3 h4;rw [Wo,if_neg (by omega)];exact ⟨_,rfl,h4⟩
 | succ n ih =>
  intro z a i h0 h1 h2 h3 h4;rw [Wo,if_pos (by omega)];refine ZK (R0 fun hc=>ZK (Gm (by omega) (by omega)) fun _ _=>ZL trivial) fun b hb=>?_;rw [Yz (a:=i+1) (by omega) (by omega)];refine ZM (fun _=>?_) (fun _=>ih z a (i+1) h0 (by omega) (by omega) (by omega) h4);refine ZK (FL h0 h1 (by omega)) fun y hy=>?_;refine ZK (Bj (by simp only [ZO,ZN];omega)) fun w hw=>?_;subst hw;refine ih _ (i+1) (i+1) (by omega) (by omega) (by omega) (by simp only [QW,ZO,ZN];omega) fun x hx=>?_
  rcases List.mem_append.1 hx with hx | hx
  ·exact h4 x hx
  ·rw [ZS] at hx;subst hx;omega
theorem PX {s:ByteArray} {a:Int} (hs:s.size < 1099511627776):∀(n:Nat) (i:Int),0<=i->i+n=s.size->Tot (VV s a i) fun r=>i<=r/\r<=s.size:=by
 intro n
 induction n with
 | zero =>
  intro i h0 h;rw [VV,if_neg (by omega)];exact ⟨i,rfl,by omega,by omega⟩
 | succ n ih =>
  intro i h0 h;rw [VV];refine ZK (IE fun hc=>ZK (Gm h0 hc) fun _ _=>ZL trivial) fun b hb=>?_;refine ZM (fun hb'=>?_) (fun _=>ZL ⟨by omega,by omega⟩);rw [Yz (by omega) (by omega)];exact (ih (i+1) (by omega) (by omega)).mono fun r hr=>⟨by omega,hr.2⟩
theorem PY {e:Int} {l:List ByteArray} (hl:∀x∈l,x.size < 1099511627776):∀(n:Nat) (z:List Int) (i:Int),0<=i->i+n=25->z.length<=i->Tot (Jd e l z i) fun r=>match r with | .inl r=>r.2=-1/\r.1.length<=25 | .inr r=>r.length<=25:=by
 intro n
 induction n with
 | zero =>
  intro z i h0 h1 h2;rw [Jd];refine ZK (p:=fun b=>b=true->i < l.length/\i<=24) (ZL fun h=>by simpa using h) fun b hb=>?_;refine ZM (fun h=>by have:=hb h;omega) (fun _=>ZL (by simp only;omega))
 | succ n ih =>
  intro z i h0 h1 h2;rw [Jd];refine ZK (p:=fun b=>b=true->i < l.length/\i<=24) (ZL fun h=>by simpa using h) fun b hb=>?_;refine ZM (fun h=>?_) (fun _=>ZL (by simp only;omega));have:=hb h;refine ZK (H9 h0 this.1) fun x hx=>?_;refine ZK (OK (hl x hx)) fun v _=>?_;refine ZM (fun _=>ZL (by simp only;exact ⟨trivial,by omega⟩)) (fun _=>?_);refine ZK (Bj (by simp only [ZO,ZN];omega)) fun w hw=>?_;subst hw;rw [Yz (a:=i+1) (by omega) (by omega)];exact ih _ (i+1) (by omega) (by omega) (by simp only [QW,ZO,ZN];omega)
theorem Qd2 {s:ByteArray} (hs:s.size < 1099511627) {i:Int} (h0:0<=i) (h:i<=s.size):Tot (Ae s i) fun r=>r.1.length<=25/\(r.2=-1∨(i<=r.2/\r.2<=s.size)):=by
 unfold Ae;refine ZK (p:=fun b=>b=false->i < s.size/\D8 s i=some 123) (ZM (fun _=>ZL fun h=>by cases h) (fun hc=>?_)) fun b hb=>?_
 ·obtain ⟨v,hv,_⟩:=Gm (s:=s) h0 (by omega);rw [hv];refine ZK (p:=fun a=>a=v) ⟨v,rfl,rfl⟩ fun a ha=>ZL fun h=>⟨by omega,?_⟩;subst ha
  have:a=123:=by simpa using h
  rw [this]
 refine ZM (fun _=>ZL ⟨by simp,.inr ⟨by simp,h⟩⟩) (fun hb'=>?_);obtain ⟨hi,hv⟩:=hb (by simpa using hb')
 have he:Tot (VV s i i) fun e=>i+1<=e/\e<=s.size:=by
  rw [VV,if_pos hi,hv];refine ZK (p:=fun b=>b=true) ⟨true,rfl,rfl⟩ fun b hb=>?_;rw [if_pos hb,Yz (by omega) (by omega)];exact PX (by omega) (s.size - (i+1).toNat) (i+1) (by omega) (by omega)
 refine ZK he fun e he=>?_;refine ZM (fun _=>ZL ⟨by simp,.inl rfl⟩) (fun hne=>?_);rw [Yz (a:=i+1) (by omega) (by omega),Yz (a:=e+1) (by omega) (by omega)];refine ZK (FL (by omega) he.1 he.2) fun x hx=>?_
 have hc:Tot (Ab x 44) fun r=>∀y∈r,y.size<=x.size:=by
  unfold Ab;exact ZK (SS (by omega) (x.size+1) [] 0 0 (by omega) (by omega) (by omega) (by simp) (by simp)) fun r hr=>ZL hr
 refine ZK hc fun r hr=>?_;refine ZK (PY (fun y hy=>by have:=hr y hy;omega) 25 [] 0 (by omega) (by omega) (by simp)) fun o ho=>?_
 cases o with
 | inl r=>exact ZL ⟨ho.2,.inl ho.1⟩
 | inr r=>exact ZL ⟨ho,.inr ⟨by simp only;omega,by simp only;omega⟩⟩
theorem Nk {s:ByteArray} (h:s.size=0):s=Ql #[]:=by
 obtain ⟨⟨l⟩⟩:=s
 congr
 simpa [ByteArray.size] using h
def Qiv (s:ByteArray) (i:Int) (r:Fm × Int):Prop:=r.2=-1∨(i < r.2/\r.2<=s.size/\(r.1.sz:Int)+1<=27 * (r.2 - i))
theorem Qcm {s:ByteArray} (hs:s.size < 1099511627) {i:Int} (h0:0<=i) (h:i<=s.size):Tot (Ac s i) (Qiv s i):=by
 unfold Ac;refine ZK (Qbk (by omega) h0 h) fun j hj=>?_;refine ZK (FL h0 hj.1 hj.2) fun w hw=>?_;refine ZK (OK (by omega)) fun v hv=>?_;refine ZM (fun hb=>?_) (fun _=>?_)
 ·have:=hv hb;refine ZL (.inr ⟨by simp only;omega,by simp only;omega,?_⟩)
  simp only;rw [Cd];show ((0+0+0+0:Nat):Int)+1<=_;omega
 refine ZM (fun _=>ZL (.inl rfl)) (fun hne=>?_)
 have hj1:i < j:=by
  rcases Int.lt_or_le i j with h1 | h1
  ·exact h1
  ·exact absurd (Nk (s:=w) (by omega)) hne
 refine ZK (Qd2 hs (by omega) hj.2) fun t ht=>ZL ?_
 rcases ht.2 with h2 | h2
 ·exact .inl h2
 ·refine .inr ⟨by simp only;omega,h2.2,?_⟩
  simp only;rw [Cd]
  have:=ht.1;show ((w.size+t.1.length+0+0:Nat):Int)+1<=_;omega
theorem Qdu {s:ByteArray} (hs:s.size < 1099511627):∀(d:Nat),d < 1000->∀(i:Int),0<=i->i<=s.size->Tot (G6 s i d) (Qiv s i):=by
 intro d
 induction d with
 | zero =>
  intro _ i h0 h;rw [G6];refine ZK (BY (by omega) h0 h) fun j hj=>?_;refine ZK (p:=fun b=>b=true) (ZL (by simp)) fun b hb=>?_;rw [if_pos hb];exact ZL (.inl rfl)
 | succ d ih =>
  intro hd i h0 h
  have loop:∀(n:Nat) (z:List Fm) (a:Int) (j:Int),0<=a->a<=j->j+n=s.size->z.length<=400->(YT ZT z:Int)+z.length<=27 * (j - a)->Tot (GN s ((d+1:Nat):Int) z j) fun o=>match o with | .inl r=>r.2=-1 | .inr r=>a<=r.2/\r.2<=s.size/\(YT ZT r.1:Int)+r.1.length<=27 * (r.2 - a):=by
   intro n
   induction n using Nat.strongRecOn with
   | _ n ihn =>
    intro z a j ha haj hj hz hsz;rw [GN];refine ZK (IE fun hc=>ZK (Gm (by omega) hc) fun _ _=>ZL trivial) fun b hb=>?_;refine ZK (p:=fun b'=>b'=true->b=true/\(z.length:Int) < 400) (ZL fun h=>by simpa using h) fun b' hb'=>?_;refine ZM (fun hbt=>?_) (fun _=>ZL (by simp only;exact ⟨haj,by omega,hsz⟩));obtain ⟨h1,h2⟩:=hb' hbt;have h3:=hb h1;rw [Yz (by omega) (by omega),show ((d+1:Nat):Int) - 1=(d:Int) by omega];refine ZK (ih (by omega) j (by omega) (by omega)) fun x hx=>?_;refine ZM (fun _=>ZL (by simp only)) (fun hx0=>?_)
    rcases hx with hx | hx
    ·omega
    refine ZK (Bj (by simp only [ZO,ZN];omega)) fun w hw=>?_;subst hw;refine ZK (BY (by omega) (by omega) hx.2.1) fun k hk=>?_;refine ihn (s.size - k.toNat) (by omega) _ a k ha (by omega) (by omega) (by simp only [QW,ZO,ZN];omega) ?_;simp only [Cr,YT,QW,ZO,ZN];omega
  rw [G6];refine ZK (BY (by omega) h0 h) fun j hj=>?_;refine ZK (p:=fun b=>b=false->j < s.size) (ZL fun h=>by simp at h;omega) fun b hb=>?_;refine ZM (fun _=>ZL (.inl rfl)) (fun hb'=>?_);have hjs:=hb (by simpa using hb');refine ZK (Gm (by omega) hjs) fun c _=>?_;refine ZM (fun _=>?_) (fun _=>?_)
  ·rw [Yz (a:=j+1) (by omega) (by omega)];refine ZK (BY (by omega) (by omega) (by omega)) fun k hk=>?_;refine ZK (loop (s.size - k.toNat) [] k k (by omega) (by omega) (by omega) (by simp) (by simp [YT])) fun o ho=>?_
   cases o with
   | inl r=>exact ZL (.inl ho)
   | inr r =>
    obtain ⟨r1,r2⟩:=r;simp only at ho ⊢;refine ZK (R0 fun hc=>ZK (Gm (by omega) (by omega)) fun _ _=>ZL trivial) fun b hb=>?_;refine ZM (fun _=>ZL (.inl rfl)) (fun hb'=>?_);have:=hb (by simpa using hb');rw [Yz (a:=r2+1) (by omega) (by omega)];refine ZL (.inr ⟨by simp only;omega,by simp only;omega,?_⟩)
    simp only;rw [Cd]
    show ((0+0+r1.length+YT ZT r1:Nat):Int)+1<=_;omega
  ·refine ZK (Qcm hs (by omega) (by omega)) fun x hx=>ZL ?_
   rcases hx with hx | hx
   ·exact .inl hx
   ·exact .inr ⟨by simp only;omega,hx.2.1,by have:=hx.2.2;simp only;omega⟩
end Go.Proofs.SA
namespace Go.Proofs.SA
theorem S0 (c:Int) (b:Bool):Tot (Gp c b) fun _=>True:=by
 unfold Gp;simp only [pure_bind];refine ZM (fun _=>ZL trivial) (fun _=>?_);exact ZK (p:=fun _=>True) (ZM (fun _=>ZL trivial) (fun _=>ZL trivial)) fun _ _=>ZL trivial
theorem E7 {s:ByteArray} : ∀(n:Nat) (i:Int),0<=i->i+n=13->Tot (Y1 s i) fun _=>True:=by
 intro n
 induction n with
 | zero =>
  intro i h0 h;rw [Y1];refine ZK (p:=fun b=>b=true->i < s.size/\i<=12) (ZL fun h=>by simpa using h) fun b hb=>?_;exact ZM (fun h=>by have:=hb h;omega) (fun _=>ZL trivial)
 | succ n ih =>
  intro i h0 h;rw [Y1];refine ZK (p:=fun b=>b=true->i < s.size/\i<=12) (ZL fun h=>by simpa using h) fun b hb=>?_;refine ZM (fun h=>?_) (fun _=>ZL trivial);have:=hb h;refine ZK (Gm h0 this.1) fun c _=>?_;refine ZK (S0 _ _) fun v _=>?_;refine ZM (fun _=>ZL trivial) (fun _=>?_);rw [Yz (by omega) (by omega)];exact ih _ (by omega) (by omega)
theorem Nv (s:ByteArray):Tot (Wm s) fun _=>True:=by
 unfold Wm;refine ZK (p:=fun _=>True) (ZL trivial) fun _ _=>?_;refine ZM (fun _=>ZL trivial) (fun _=>?_);refine ZK (E7 13 0 (by omega) (by omega)) fun o _=>?_
 cases o with
 | inl r=>exact ZL trivial
 | inr r=>exact ZK (p:=fun _=>True) (ZL trivial) fun _ _=>ZL trivial
theorem NB {l:List Int} : ∀(n:Nat) (i:Int),0<=i->i+n=25->Tot (Y6 l i) fun _=>True:=by
 intro n
 induction n with
 | zero =>
  intro i h0 h;rw [Y6];refine ZK (p:=fun b=>b=true->i < l.length/\i<=24) (ZL fun h=>by simpa using h) fun b hb=>?_;exact ZM (fun h=>by have:=hb h;omega) (fun _=>ZL trivial)
 | succ n ih =>
  intro i h0 h;rw [Y6];refine ZK (p:=fun b=>b=true->i < l.length/\i<=24) (ZL fun h=>by simpa using h) fun b hb=>?_;refine ZM (fun h=>?_) (fun _=>ZL trivial);have hi:=(hb h).1;have hx:=H9 h0 hi;refine ZK hx fun x _=>?_;refine ZK (p:=fun _=>True) (ZM (fun _=>ZL trivial) (fun _=>ZK hx fun _ _=>ZL trivial)) fun _ _=>?_;refine ZK (p:=fun _=>True) (ZM (fun _=>ZL trivial) (fun _=>?_)) fun _ _=>?_
  ·refine ZK (p:=fun _=>True) (ZM (fun h1=>?_) (fun _=>ZL trivial)) fun _ _=>ZL trivial;rw [Yz (by omega) (by omega)];exact ZK hx fun _ _=>ZK (H9 (by omega) (by omega)) fun _ _=>ZL trivial
  refine ZM (fun _=>ZL trivial) (fun _=>?_);rw [Yz (by omega) (by omega)];exact ih _ (by omega) (by omega)
theorem Tj (l:List Int):Tot (JG l) fun _=>True:=by
 unfold JG;refine ZK (NB 25 0 (by omega) (by omega)) fun o _=>?_
 cases o with
 | inl r=>exact ZL trivial
 | inr r=>exact ZL trivial
theorem pb {α:Type} {b:Bool} {k:Bool->Option α} {p:α->Prop} (h:∀b,Tot (k b) p):Tot ((pure b:Option Bool)>>=k) p:=h b
theorem Qkp:∀(d:Nat),d < 1000->∀(f:Fm),f.sz < 1099511627776->Tot (GJ f d) fun _=>True:=by
 intro d
 induction d with
 | zero=>intro _ f _;rw [GJ,if_pos (by rfl)];exact ZL trivial
 | succ d ih =>
  intro hd f hf;have hz:=Fm.Ge f
  have loop:∀(n:Nat) (i:Int),0<=i->i+n=f.kids.length->Tot (Jc f ((d+1:Nat):Int) i) fun _=>True:=by
   intro n
   induction n with
   | zero=>intro i h0 h;rw [Jc,if_neg (by omega)];exact ZL trivial
   | succ n ihn =>
    intro i h0 h;rw [Jc,if_pos (by omega)];refine ZK (H9 h0 (by omega)) fun g hg=>?_;rw [Yz (by omega) (by omega),Yz (by omega) (by omega),show ((d+1:Nat):Int) - 1=(d:Int) by omega];refine ZK (ih (by omega) g (by have:=Fm.Gf hg;omega)) fun b _=>?_;exact ZM (fun _=>ZL trivial) (fun _=>ihn (i+1) (by omega) (by omega))
  rw [GJ,if_neg (by omega)];refine ZM (fun _=>?_) (fun _=>?_)
  ·refine ZK (Nv _) fun _ _=>pb fun b=>?_;refine ZK (p:=fun _=>True) (ZM (fun _=>ZK (Tj _) fun _ _=>ZL trivial) (fun _=>ZL trivial)) fun _ _=>pb fun _=>ZL trivial
  refine ZM (fun _=>pb fun _=>pb fun _=>pb fun _=>pb fun _=>ZL trivial) (fun _=>?_);refine pb fun _=>pb fun _=>pb fun _=>?_;refine ZM (fun _=>ZL trivial) (fun _=>?_);refine ZK (loop f.kids.length 0 (by omega) (by omega)) fun o _=>?_
  cases o with
  | inl r=>exact ZL trivial
  | inr r=>exact ZL trivial
theorem UR:∀(f:Fm),f.sz < 1099511627776->Tot (Jb f) fun _=>True:=by
 intro f
 induction f using Fm.ind with
 | h f ih =>
  intro hf;have hz:=Fm.Ge f
  have loop:∀(n:Nat) (v i:Int),0<=i->i+n=f.kids.length->Tot (VB f v i) fun _=>True:=by
   intro n
   induction n with
   | zero=>intro v i h0 h;rw [VB,if_neg (by omega)];exact ZL trivial
   | succ n ihn =>
    intro v i h0 h;rw [VB,if_pos (by omega)];refine ZK (H9 h0 (by omega)) fun g hg=>?_;refine ZK (ih g hg (by have:=Fm.Gf hg;omega)) fun b _=>?_;rw [Yz (a:=i+1) (by omega) (by omega)];exact ihn _ (i+1) (by omega) (by omega)
  rw [Jb];exact ZK (loop f.kids.length 1 0 (by omega) (by omega)) fun _ _=>ZL trivial
theorem No {f:Fm} (hf:f.sz < 1099511627776):Tot (Ys f) fun _=>True:=by
 unfold Ys;refine ZK (Qkp 40 (by omega) f hf) fun _ _=>?_;exact ZK (p:=fun _=>True) (ZM (fun _=>ZK (UR f hf) fun _ _=>ZL trivial) (fun _=>ZL trivial)) fun _ _=>ZL trivial
theorem Nx {s:ByteArray} (hs:s.size < 1099511627):Tot (HC s) fun r=>r.1.sz<=27 * s.size:=by
 unfold HC;refine ZK (Qdu hs 40 (by omega) 0 (by omega) (by omega)) fun x hx=>?_;refine ZK (p:=fun b=>b=false->0<=x.2) (ZM (fun _=>ZL fun h=>by cases h) (fun h=>?_)) fun b hb=>?_
 ·have h2:x.2<=s.size:=by rcases hx with hx | hx<;>omega
  exact ZK (BY (by omega) (by omega) h2) fun _ _=>ZL fun _=>by omega
 have hsz:0<=x.2->x.1.sz<=27 * s.size:=fun h=>by
  rcases hx with hx | hx
  ·omega
  ·have:=hx.2.1;have:=hx.2.2;omega
 refine ZK (p:=fun b'=>b'=false->0<=x.2) (ZM (fun _=>ZL fun h=>by cases h) (fun h=>?_)) fun b' hb'=>?_
 ·have h0:=hb (by simpa using h);exact ZK (No (by have:=hsz h0;omega)) fun _ _=>ZL fun _=>h0
 refine ZM (fun _=>ZL ?_) (fun h=>ZL (hsz (hb' (by simpa using h))))
 simp only;rw [Cd];show 0+0+0+0<=_;omega
theorem Lk {s:ByteArray} (hs:s.size<=1000):Tot (G5 s) fun r=>r.sz<=27000:=by
 unfold G5;exact ZK (Nx (by omega)) fun r hr=>ZL (by omega)
theorem Tq:Tot AJ fun l=>1<=l.length/\∀s∈l,s.size<=1000:=⟨_,rfl,by decide,by decide⟩
theorem UY {c:Rdr} {k:Nat} (h:RdI c k) (hk:k < 1000000000):Tot (Ak c) fun r=>r.1.sz<=1000000/\RdI r.2 (k+1000000):=by
 unfold Ak;refine ZK Tq fun l hl=>?_;refine ZK (W0 h (by omega) (by omega)) fun x hx=>?_;refine ZM (fun _=>?_) (fun _=>?_)
 ·refine ZK (W0 hx.2.2 (by omega) (by omega)) fun y hy=>?_;refine ZK (H9 hy.1 hy.2.1) fun s hs=>?_;exact ZK (Lk (hl.2 s hs)) fun r hr=>ZL ⟨by simp only;omega,hy.2.2.mono (by omega)⟩
 refine ZK (BT hx.2.2 (by omega) (by simp)) fun d hd=>?_
 have hd':d.1=4∨d.1=3∨d.1=2:=by simpa using hd.1
 have hdn:∃n:Nat,n<=4/\d.1=(n:Int):=by
  rcases hd' with h | h | h
  ·exact ⟨4,by omega,h⟩
  ·exact ⟨3,by omega,h⟩
  ·exact ⟨2,by omega,h⟩
 obtain ⟨n,hn,hdn⟩:=hdn
 have hq:Qw n<=256000:=by
  have:Qw n<=Qw 4:=by
   unfold Qw;exact Nat.mul_le_mul_left _ (Nat.pow_le_pow_right (by omega) hn)
  exact this
 rw [hdn];refine ZK (Qba n hd.2 ⟨by simp,by simp;omega,by decide⟩ (by omega) (by omega)) fun v hv=>?_;refine ZK (W0 hv.2 (by omega) (by omega)) fun u hu=>?_;refine ZM (fun _=>?_) (fun _=>ZL ⟨by have:=hv.1;simp only;omega,hu.2.2.mono (by omega)⟩);refine ZK (Lk (by decide)) fun r hr=>?_;refine ZK (IA _) fun n1 h1=>?_;refine ZK (IA _) fun n2 h2=>?_;refine ZK (Ib _) fun n3 h3=>?_;refine ZK (Ib _) fun n4 h4=>?_;refine ZK (Ib _) fun n5 h5=>ZL ⟨?_,hu.2.2.mono (by omega)⟩;have e1:(Ql #[108,101,116,45,115,121,110,116,97,120]).size=10:=rfl;have e2:(Ql #[103]).size=1:=rfl;have:=hv.1;simp only [YT,ZO,ZN] at h3 h4 h5
 simp only;omega
theorem UZ {c:Rdr} {k:Nat} (h:RdI c k) (hk:k < 100000000):Tot (Ao c) fun r=>r.1.sz<=1000000/\RdI r.2 (k+1000001):=by
 unfold Ao;refine ZK (W0 h (by omega) (by omega)) fun x hx=>?_;refine ZM (fun _=>?_) (fun _=>?_)
 ·refine ZK (W0 hx.2.2 (by omega) (by omega)) fun y hy=>?_;refine ZK (p:=fun s=>s.size<=1000) ((H9 hy.1 (by simpa using hy.2.1)).mono fun s hs=>?_) fun s hs=>?_
  ·revert s hs;decide
  exact ZK (Lk hs) fun r hr=>ZL ⟨by simp only;omega,hy.2.2.mono (by omega)⟩
 ·exact ZK (UY hx.2.2 (by omega)) fun r hr=>ZL ⟨hr.1,hr.2.mono (by omega)⟩
theorem UL {l:List Int} (h:∀x∈l,0<=x/\x < 256):Tot (An l) fun r=>r.1.sz<=1000100:=by
 unfold An;refine ZK (RZ h) fun c hc=>?_;refine ZK (UZ hc (by omega)) fun f hf=>?_;refine ZK (W0 hf.2 (by omega) (by omega)) fun x hx=>?_;have hf1:=hf.1;refine ZK (p:=fun y=>(KT y.1 y.2.1 y.2.2.1 y.2.2.2.1 y.2.2.2.2.1).sz<=1000100/\RdI ⟨y.2.2.2.2.2.1,y.2.2.2.2.2.2⟩ 100000000) (ZM (fun _=>?_) (fun _=>ZL ⟨?_,hx.2.2.mono (by omega)⟩)) fun y hy=>?_
 ·refine ZK (Co f.1 hx.2.2 (by omega) (by omega)) fun g hg=>?_;have:=hg.1;refine ZK (Co g.1 hg.2 (by omega) (by omega)) fun g2 hg2=>ZL ⟨?_,hg2.2.mono (by omega)⟩;have h1:=hg2.1;rw [Fm.Ge] at h1
  simp only;rw [Cd];omega
 ·rw [Fm.Ge] at hf1
  simp only;rw [Cd];omega
 obtain ⟨y1,y2,y3,y4,y5,y6,y7⟩:=y;exact ZK (BT hy.2 (by omega) (by simp)) fun z hz=>ZL hy.1
end Go.Proofs.SA
