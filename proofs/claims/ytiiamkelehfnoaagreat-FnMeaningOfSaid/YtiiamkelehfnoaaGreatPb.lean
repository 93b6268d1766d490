/- The draws yield something: the reader, copies, mutations, drawn forms. Imports the plain functions of a seat (gen2). -/
import Derived.Test.YtiiamkelehfnoaaGreatPa
import Derived.Test.YtiiamkelehfnoaaGreatmeD
set_option linter.unusedVariables false
set_option linter.unusedSimpArgs false
set_option maxRecDepth 100000
open Go Go.Proofs Go.Proofs.Shadow
open Tot renaming bind → ZL, pure → ZM, ite → ZN
open _root_.List renaming length_nil → ZO, length_cons → ZP, length_append → QV, take_succ_eq_append_getElem → ZR, getElem_mem → ZS, nil_append → QS, mem_singleton → ZG
open _root_.ByteArray renaming mk → Qk
open _root_.Option renaming bind_some → Qf, bind_eq_bind → ZQ
open Fm renaming mk → KS, sz → ZT
open _root_.Nat renaming le_refl → Qt
open Go.IntKind (i64)
namespace Go.Proofs.SA
def RdI (c:Rdr) (k:Nat):Prop:=c.b.length<=2000/\(∀x∈c.b,0<=x/\x < 256)/\0<=c.p/\c.p<=k
theorem RdI.mono {c:Rdr} {k k':Nat} (h:RdI c k) (hk:k<=k'):RdI c k':=⟨h.1,h.2.1,h.2.2.1,by have:=h.2.2.2;omega⟩
theorem Sx {l:List Int} (h:∀x∈l,0<=x/\x < 256):Tot (I0 l) fun c=>RdI c 0:=by
 unfold I0;refine ZN (fun hc=>?_) (fun hc=>?_)
 ·refine ZL (Qj4 (by omega) (by omega) (by omega)) fun z hz=>ZM ⟨by have:=hz.1;simp only;omega,fun x hx=>h x (hz.2 x hx),by simp,by simp⟩
 ·exact ZM ⟨by simp only;omega,h,by simp,by simp⟩
theorem Jq {c:Rdr} {k:Nat} {n:Int} (h:RdI c k) (hk:k < 1099511627776) (h1:1<=n):Tot (Yv n c) fun r=>0<=r.1/\r.1 < n/\RdI r.2 (k+1):=by
 obtain ⟨hb,hx,hp0,hpk⟩:=h;unfold Yv;have w1:i64.wrap (c.p+1)=c.p+1:=Y2 (by omega) (by omega)
 have w2:i64.wrap (c.p+1 - 1)=c.p:=by rw [Y2 (by omega) (by omega)];omega
 simp only [w1,w2,pure_bind];have hR:RdI ⟨c.b,c.p+1⟩ (k+1):=⟨hb,hx,by simp only;omega,by simp only;omega⟩;refine ZN (fun hc=>ZM ⟨by simp,by simp only;omega,hR⟩) (fun hc=>?_);simp only [Bool.or_eq_true,decide_eq_true_eq,not_or] at hc;refine ZN (fun hl=>?_) (fun hl=>?_)
 ·refine ZL (Im hp0 hl) fun x hm=>?_;have:=hx x hm;rw [Y2 (a:=x) (by omega) (by omega)];exact ZL (NX (by omega) h1) fun y hy=>ZM ⟨hy.1,hy.2,hR⟩
 ·refine ZL (NX hp0 (by omega)) fun i hi=>?_;refine ZL (Im hi.1 hi.2) fun x hm=>?_;have h2:=hx x hm
  have w3:i64.wrap (i64.wrap (c.p * 7)+3)=c.p * 7+3:=by rw [Y2 (a:=c.p * 7) (by omega) (by omega),Y2 (by omega) (by omega)]
  rw [w3];refine ZL (NX (by omega) (by omega)) fun j hj=>?_;refine ZL (Im hj.1 hj.2) fun y hm2=>?_;have h3:=hx y hm2;refine ZL (Qjy hp0 (by omega) (by omega)) fun q hq=>?_
  have e:i64.wrap (i64.wrap (i64.wrap (i64.wrap (i64.wrap x * 131)+i64.wrap (i64.wrap y * 1117))+i64.wrap (c.p * 29))+i64.wrap (q * 53))=x * 131+y * 1117+c.p * 29+q * 53:=by
   rw [Y2 (a:=x) (by omega) (by omega),Y2 (a:=y) (by omega) (by omega),Y2 (a:=x * 131) (by omega) (by omega),Y2 (a:=y * 1117) (by omega) (by omega),Y2 (a:=c.p * 29) (by omega) (by omega),Y2 (a:=q * 53) (by omega) (by omega),Y2 (a:=x * 131+y * 1117) (by omega) (by omega),Y2 (a:=x * 131+y * 1117+c.p * 29) (by omega) (by omega),Y2 (by omega) (by omega)]
  rw [e];generalize hv:x * 131+y * 1117+c.p * 29+q * 53=v
  have v0:0<=v:=by omega
  have v1:v < 1099511627776000:=by omega
  have d0:0<=v.tdiv 64:=Int.tdiv_nonneg v0 (by omega);have d1:v.tdiv 64<=v:=Int.tdiv_le_self _ v0;rw [Y2 (a:=v.tdiv 64) (by omega) (by omega)];have:=Qjb v0 (by omega) d0 (by omega);exact ZL (NX this.1 h1) fun z hz=>ZM ⟨hz.1,hz.2,hR⟩
theorem Cg {c:Rdr} {k:Nat} {l:List Int} (h:RdI c k) (hk:k < 1099511627776) (hl:1<=l.length):Tot (YU l c) fun r=>r.1∈l/\RdI r.2 (k+1):=by
 unfold YU;refine ZL (Jq h hk (by omega)) fun x hx=>?_;exact ZL (Im hx.1 hx.2.1) fun y hy=>ZM ⟨hy,hx.2.2⟩
theorem Qbw {c:Rdr} {k:Nat} {l:List ByteArray} (h:RdI c k) (hk:k < 1099511627776) (hl:1<=l.length):Tot (V8 l c) fun r=>r.1∈l/\RdI r.2 (k+1):=by
 unfold V8;refine ZL (Jq h hk (by omega)) fun x hx=>?_;exact ZL (Im hx.1 hx.2.1) fun y hy=>ZM ⟨hy,hx.2.2⟩
theorem Qns (s:ByteArray):VJ s=some (KS 1 s 0 [] []):=rfl
theorem DI (k:Int) (s:ByteArray) (n:Int) (sc:List Int) (ks:List Fm):(KS k s n sc ks).sz=s.size+sc.length+ks.length+VF ZT ks:=by rw [Fm.G3];rfl
theorem Bz (s:ByteArray):Tot (VJ s) fun f=>f.sz=s.size:=⟨_,rfl,by simp only;rw [DI];simp [VF]⟩
theorem A6 (l:List Fm):Tot (W9 l) fun f=>f.sz=l.length+VF ZT l:=⟨_,rfl,by simp only;rw [DI];show 0+0+_+_=_;omega⟩
def Pw (d:Nat):Nat:=100 * 4 ^ d
theorem Ql3 (d:Nat):Pw (d+1)=4 * Pw d:=by simp only [Pw,Nat.pow_succ];omega
theorem Qih (d:Nat):100<=Pw d:=by simp only [Pw];have:0 < 4 ^ d:=Nat.pow_pos (by omega);omega
def Qhc:List ByteArray:=[(Qk #[97]),(Qk #[98]),(Qk #[120]),(Qk #[121]),(Qk #[102]),(Qk #[105,102]),(Qk #[108,101,116]),(Qk #[43])]
theorem Qkk:∀(d:Nat) {c:Rdr} {k:Nat},RdI c k->d < 20->k+Pw d < 1099511627776->Tot (Iu d c) fun r=>r.1.sz<=Pw d/\RdI r.2 (k+Pw d):=by
 have base:∀{c:Rdr} {k n:Nat} {p:Int->Prop} {q:ByteArray->Prop},RdI c k->100<=n->k+n < 1099511627776+1->Tot (Yv 4 c>>=fun x=>if x.1=0 then (YU [0,1,2,7,42,999] x.2>>=fun y=>pure (KS 2 (Qk #[]) y.1 [] [],y.2)) else (V8 Qhc x.2>>=fun y=>VJ y.1>>=fun z=>pure (z,y.2))) fun r=>r.1.sz<=100/\RdI r.2 (k+2):=by
  intro c k n p q h hn hk;refine ZL (Jq h (by omega) (by omega)) fun x hx=>?_;refine ZN (fun _=>?_) (fun _=>?_)
  ·exact ZL (Cg hx.2.2 (by omega) (by simp)) fun y hy=>ZM ⟨by simp only;rw [DI];show 0+0+0+0<=100;omega,hy.2⟩
  ·refine ZL (Qbw hx.2.2 (by omega) (by simp [Qhc])) fun y hy=>?_;refine ZL (Bz _) fun z hz=>ZM ⟨?_,hy.2⟩
   have:∀s∈Qhc,s.size<=100:=by decide
   simp only;rw [hz];exact this _ hy.1
 intro d
 induction d with
 | zero =>
  intro c k h hd hk;rw [Iu];rw [if_pos (by rfl)];exact (base (p:=fun _=>True) (q:=fun _=>True) h (Qt 100) (by have:=Qih 0;omega)).mono fun r hr=>⟨by have:=Qih 0;omega,hr.2.mono (by have:=Qih 0;omega)⟩
 | succ d ih =>
  intro c k h hd hk;have hp:=Qih d;have hs:=Ql3 d
  have loop:∀(n:Nat) {z:List Fm} {b:List Int} {p:Int} {k:Nat},n<=3->z.length+n<=3->RdI ⟨b,p⟩ k->k+n * Pw d < 1099511627776->Tot (HF ((d+1:Nat):Int) z n b p) fun r=>r.1.length<=z.length+n/\VF ZT r.1<=VF ZT z+n * Pw d/\RdI ⟨r.2.1,r.2.2⟩ (k+n * Pw d):=by
   intro n
   induction n with
   | zero =>
    intro z b p k _ _ h _;rw [HF,if_neg (by omega)];exact ZM ⟨by simp,by simp,by simpa using h⟩
   | succ n ihn =>
    intro z b p k hn hz h hk;rw [Nat.succ_mul] at hk;rw [HF,if_pos (by omega)]
    have w1:i64.wrap (((d+1:Nat):Int) - 1)=(d:Int):=by rw [Y2 (by omega) (by omega)];omega
    have w2:i64.wrap (((n+1:Nat):Int) - 1)=(n:Int):=by rw [Y2 (by omega) (by omega)];omega
    rw [w1,w2];refine ZL (ih h (by omega) (by omega)) fun x hx=>?_;refine ZL (A5 (by simp only [ZP,ZO];omega)) fun y hy=>?_;subst hy;refine (ihn (by omega) (by simp only [QV,ZP,ZO];omega) hx.2 (by omega)).mono fun r hr=>?_;obtain ⟨r1,r2,r3⟩:=hr;simp only [QV,ZP,ZO,E9,VF] at r1 r2;rw [Nat.succ_mul];exact ⟨by omega,by have:=hx.1;omega,r3.mono (by omega)⟩
  rw [Iu,if_neg (by omega)];refine ZL (Jq h (by omega) (by omega)) fun x hx=>?_;refine ZN (fun _=>?_) (fun _=>?_)
  ·exact (base (p:=fun _=>True) (q:=fun _=>True) hx.2.2 (Qt 100) (by omega)).mono fun r hr=>⟨by omega,hr.2.mono (by omega)⟩
  ·refine ZL (Jq hx.2.2 (by omega) (by omega)) fun y hy=>?_;obtain ⟨m,hm⟩:=Int.eq_ofNat_of_zero_le hy.1
   have hm3:m<=3:=by have:=hy.2.1;omega
   have hmul:m * Pw d<=3 * Pw d:=Nat.mul_le_mul_right _ hm3;rw [hm];refine ZL (loop m hm3 (by simp;omega) hy.2.2 (by omega)) fun r hr=>?_;obtain ⟨r1,r2,r3⟩:=hr;simp only [ZO,VF] at r1 r2;refine ZM ⟨?_,r3.mono (by omega)⟩
   simp only;rw [DI]
   show 0+0+_+_<=_;omega
end Go.Proofs.SA
namespace Go.Proofs.SA
def Qw (d:Nat):Nat:=1000 * 4 ^ d
theorem Ql4 (d:Nat):Qw (d+1)=4 * Qw d:=by simp only [Qw,Nat.pow_succ];omega
theorem Qo4 (d:Nat):1000<=Qw d:=by simp only [Qw];have:0 < 4 ^ d:=Nat.pow_pos (by omega);omega
def NmI (l:List ByteArray) (d:Nat):Prop:=1<=l.length/\l.length+d<=1000/\∀s∈l,s.size<=10
theorem Qhs:∀(d:Nat) {a:List ByteArray} {c:Rdr} {k:Nat},RdI c k->NmI a d->d < 20->k+Qw d < 1099511627776->Tot (Wd a d c) fun r=>r.1.sz<=Qw d/\RdI r.2 (k+Qw d):=by
 have base:∀{a:List ByteArray} {c:Rdr} {k:Nat},RdI c k->1<=a.length->(∀s∈a,s.size<=10)->k+99 < 1099511627776->Tot (Yv 3 c>>=fun x=>if x.1=0 then (YU [0,1,2,7] x.2>>=fun y=>pure (KS 2 (Qk #[]) y.1 [] [],y.2)) else (Yv (a.length:Int) x.2>>=fun y=>idx a y.1>>=fun u=>VJ u>>=fun z=>pure (z,y.2))) fun r=>r.1.sz<=100/\RdI r.2 (k+2):=by
  intro a c k h ha hs hk;refine ZL (Jq h (by omega) (by omega)) fun x hx=>?_;refine ZN (fun _=>?_) (fun _=>?_)
  ·exact ZL (Cg hx.2.2 (by omega) (by simp)) fun y hy=>ZM ⟨by simp only;rw [DI];show 0+0+0+0<=100;omega,hy.2⟩
  ·refine ZL (Jq hx.2.2 (by omega) (by omega)) fun y hy=>?_;refine ZL (Im hy.1 hy.2.1) fun u hu=>?_;refine ZL (Bz _) fun z hz=>ZM ⟨?_,hy.2.2⟩;have:=hs u hu
   simp only;omega
 intro d
 induction d with
 | zero =>
  intro a c k h ha hd hk;have:=Qo4 0;rw [Wd,if_pos (by rfl)];exact (base h ha.1 ha.2.2 (by omega)).mono fun r hr=>⟨by omega,hr.2.mono (by omega)⟩
 | succ d ih =>
  intro a c k h ha hd hk;have hp:=Qo4 d;have hs:=Ql4 d
  have w1:i64.wrap (((d+1:Nat):Int) - 1)=(d:Int):=by rw [Y2 (by omega) (by omega)];omega
  rw [Wd,if_neg (by omega)];simp only [w1];refine ZL (Jq h (by omega) (by omega)) fun x hx=>?_;refine ZN (fun _=>?_) (fun _=>?_)
  ·exact (base hx.2.2 ha.1 ha.2.2 (by omega)).mono fun r hr=>⟨by omega,hr.2.mono (by omega)⟩
  refine ZL (Qbw hx.2.2 (by omega) (by simp)) fun v hv=>?_
  have hv10:v.1.size<=10:=by
   have:∀s∈[(Qk #[120]),(Qk #[121]),(Qk #[116])],s.size<=10:=by decide
   exact this _ hv.1
  refine ZL (A5 (by have:=ha.2.1;simp only [ZO];omega)) fun y hy=>?_;rw [QS] at hy;rw [hy];refine ZL (A5 (by have:=ha.2.1;simp only [ZO,ZP];omega)) fun y hy=>?_;subst hy;have ha0:NmI a d:=⟨ha.1,by have:=ha.2.1;omega,ha.2.2⟩
  have ha2:NmI (a++[v.1]) d:=⟨by simp,by have:=ha.2.1;simp;omega,fun s hs=>by
   simp only [List.mem_append,ZG] at hs
   rcases hs with hs | rfl
   ·exact ha.2.2 s hs
   ·exact hv10⟩
  refine ZL (Jq hv.2 (by omega) (by omega)) fun p hp'=>?_;obtain ⟨p0,p8,hR⟩:=hp';refine ZL (p:=fun _=>True) (ZN (fun _=>ZM trivial) (fun _=>ZM trivial)) fun b _=>?_;refine ZN (fun _=>?_) (fun _=>?_)
  ·
   refine ZL (Bz _) fun n1 h1=>?_;refine ZL (Bz _) fun n2 h2=>?_;refine ZL (A6 _) fun n3 h3=>?_;refine ZL (ih hR ha2 (by omega) (by omega)) fun n4 h4=>?_;refine ZL (A6 _) fun n5 h5=>ZM ⟨?_,h4.2.mono (by omega)⟩;have e:(Qk #[108,97,109,98,100,97]).size=6:=rfl;have:=h4.1;simp only [VF,ZP,ZO] at h3 h5
   simp only;omega
  refine ZL (p:=fun _=>True) (ZN (fun _=>ZM trivial) (fun _=>ZM trivial)) fun b _=>?_;refine ZN (fun _=>?_) (fun _=>?_)
  ·
   refine ZL (Bz _) fun n1 h1=>?_;refine ZL (ih hR ha0 (by omega) (by omega)) fun n2 h2=>?_;refine ZL (A6 _) fun n3 h3=>?_;refine ZL (Bz _) fun n4 h4=>?_;refine ZL (A6 _) fun n5 h5=>?_;refine ZL (ih h2.2 ha2 (by omega) (by omega)) fun n6 h6=>?_;refine ZL (A6 _) fun n7 h7=>ZM ⟨?_,h6.2.mono (by omega)⟩;have e:(Qk #[108,101,116]).size=3:=rfl;have:=h2.1;have:=h6.1;simp only [VF,ZP,ZO] at h3 h5 h7
   simp only;omega
  refine ZN (fun _=>?_) (fun _=>?_)
  ·
   refine ZL (Bz _) fun n1 h1=>?_;refine ZL (ih hR ha0 (by omega) (by omega)) fun n2 h2=>?_;refine ZL (ih h2.2 ha0 (by omega) (by omega)) fun n3 h3=>?_
   have hz:Tot (Wd a 0 n3.2) fun r=>r.1.sz<=100/\RdI r.2 (k+1+1+1+Qw d+Qw d+2):=by
    rw [Wd,if_pos (by rfl)];exact base h3.2 ha.1 ha.2.2 (by omega)
   refine ZL hz fun n4 h4=>?_;refine ZL (A6 _) fun n5 h5=>ZM ⟨?_,h4.2.mono (by omega)⟩;have e:(Qk #[105,102]).size=2:=rfl;have:=h2.1;have:=h3.1;have:=h4.1;simp only [VF,ZP,ZO] at h5
   simp only;omega
  refine ZN (fun _=>?_) (fun _=>?_)
  ·
   have q:Tot (Iu 1 p.2) fun r=>r.1.sz<=3 * Qw d+50/\RdI r.2 (k+1+1+1+(3 * Qw d+50)):=by
    have:=Qkk 1 hR (by omega) (by show k+1+1+1+400 < _;omega);refine this.mono fun r hr=>⟨?_,hr.2.mono ?_⟩
    ·have:=hr.1;change r.1.sz<=400 at this;omega
    ·show k+1+1+1+400<=_;omega
   refine ZL (Bz _) fun n1 h1=>?_;refine ZL q fun n2 h2=>?_;refine ZL (A6 _) fun n3 h3=>ZM ⟨?_,h2.2.mono (by omega)⟩;have e:(Qk #[113,117,111,116,101]).size=5:=rfl;have:=h2.1;simp only [VF,ZP,ZO] at h3
   simp only;omega
  ·refine ZL (ih hR ha0 (by omega) (by omega)) fun n2 h2=>?_;refine ZL (ih h2.2 ha0 (by omega) (by omega)) fun n3 h3=>?_;refine ZL (A6 _) fun n5 h5=>ZM ⟨?_,h3.2.mono (by omega)⟩;have:=h2.1;have:=h3.1;simp only [VF,ZP,ZO] at h5
   simp only;omega
theorem DM:∀(f:Fm),f.sz < 1099511627776->Wb f=some f:=by
 intro f
 induction f using Fm.ind with
 | h f ih =>
  intro hf;have hz:=Fm.G3 f;rw [Wb];rw [Y1 (by simp only [ZO];omega)];simp only [QS,ZQ,Qf]
  have key:∀n (i:Nat),i+n=f.kids.length->Gs f f.sc (f.kids.take i) i=some f.kids:=by
   intro n
   induction n with
   | zero =>
    intro i hi;rw [Gs,if_neg (by omega),show i=f.kids.length by omega,List.take_length];rfl
   | succ n ihn =>
    intro i hi
    have hil:i < f.kids.length:=by omega
    rw [Gs,if_pos (by omega),Yi _ i hil];simp only [ZQ,Qf];rw [ih _ (ZS _) (by have:=Fm.J3 (ZS hil);omega)];simp only [Qf];rw [Y1 (by simp only [List.length_take,ZP,ZO];omega)];simp only [Qf];rw [Wp (by omega),← ZR hil];exact ihn (i+1) (by omega)
  have:=key f.kids.length 0 (by omega);simp only [List.take_zero] at this;show (Gs f f.sc [] 0>>=fun e=>pure (KS f.kind f.name f.num f.sc e))=_;have e0:((0:Nat):Int)=0:=rfl;rw [e0] at this;rw [this];cases f;rfl
theorem Qjg (f:Fm) (hf:f.sz < 1099511627776):GY f=some f:=by
  have hz:=Fm.G3 f;rw [GY];rw [Y1 (by simp only [ZO];omega)];simp only [QS,ZQ,Qf]
  have key:∀n (i:Nat),i+n=f.kids.length->VM f f.sc (f.kids.take i) i=some f.kids:=by
   intro n
   induction n with
   | zero =>
    intro i hi;rw [VM,if_neg (by omega),show i=f.kids.length by omega,List.take_length];rfl
   | succ n ihn =>
    intro i hi
    have hil:i < f.kids.length:=by omega
    rw [VM,if_pos (by omega),Yi _ i hil];simp only [ZQ,Qf];rw [DM _ (by have:=Fm.J3 (ZS hil);omega)];simp only [Qf];rw [Y1 (by simp only [List.length_take,ZP,ZO];omega)];simp only [Qf];rw [Wp (by omega),← ZR hil];exact ihn (i+1) (by omega)
  have:=key f.kids.length 0 (by omega);simp only [List.take_zero] at this;have e0:((0:Nat):Int)=0:=rfl;rw [e0] at this;rw [this];cases f;rfl
theorem SR {α:Type} (g:α->Nat):∀(l:List α) (i:Nat) (x:α) (h:i < l.length),VF g (l.set i x)+g l[i]=VF g l+g x
 | [],i,x,h=>by simp at h
 | a :: l,0,x,h=>by simp [VF];omega
 | a :: l,i+1,x,h=>by
  simp only [List.set_cons_succ,VF,List.getElem_cons_succ];have:=SR g l i x (by simpa using h);omega
theorem Qjt {α:Type} {l:List α} {i:Int} (h0:0<=i) (h:i < l.length):Tot (idx l i) fun x=>∃hi:i.toNat < l.length,x=l[i.toNat]:=by
 rw [US l i h0 h];exact ⟨_,rfl,by omega,rfl⟩
theorem RM:∀(f:Fm) {c:Rdr} {k:Nat},RdI c k->f.sz < 1000000000->k+3 * (f.sz+1) < 1099511627776->Tot (Hp f c) fun r=>r.1.sz<=f.sz+20/\RdI r.2 (k+3 * (f.sz+1)):=by
 intro f
 induction f using Fm.ind with
 | h f ih =>
  intro c k h hf hk;have hz:=Fm.G3 f
  have tail:∀{c:Rdr} {k:Nat} {q:Nat},RdI c k->k+2 < 1099511627776->Tot (Yv 14 c>>=fun x36 =>
   if x36.1=0 then (YU [0,4,1,3] x36.2>>=fun x41=>pure (KS x41.1 f.name f.num f.sc f.kids,x41.2))
   else if x36.1=1 then (V8 [(Qk #[]),(Qk #[65]),(Qk #[116,111,111,108,111,110,103,97,110,97,109,101,49]),(Qk #[122]),(Qk #[120,32,121])] x36.2>>=fun x47=>pure (KS f.kind x47.1 f.num f.sc f.kids,x47.2))
   else if x36.1=2 then (YU [1000,-1,5] x36.2>>=fun x53=>pure (KS f.kind f.name x53.1 f.sc f.kids,x53.2))
   else if x36.1=3 then (YU [0,100,1,50] x36.2>>=fun x61=>WN 8 f.sc [x61.1]>>=fun x63=>pure (KS f.kind f.name f.num x63 f.kids,x61.2))
   else pure (KS f.kind f.name f.num f.sc f.kids,x36.2)) fun r=>r.1.sz<=f.sz+20/\RdI r.2 (k+2):=by
   intro c k q h hk;refine ZL (Jq h (by omega) (by omega)) fun x hx=>?_;obtain ⟨_,_,hR⟩:=hx;refine ZN (fun _=>ZL (Cg hR (by omega) (by simp)) fun y hy=>ZM ⟨by simp only;rw [DI];omega,hy.2⟩) (fun _=>?_);refine ZN (fun _=>ZL (Qbw hR (by omega) (by simp)) fun y hy=>ZM ⟨?_,hy.2⟩) (fun _=>?_)
   ·have:∀s∈[(Qk #[]),(Qk #[65]),(Qk #[116,111,111,108,111,110,103,97,110,97,109,101,49]),(Qk #[122]),(Qk #[120,32,121])],s.size<=20:=by decide
    have:=this _ hy.1
    simp only;rw [DI];omega
   refine ZN (fun _=>ZL (Cg hR (by omega) (by simp)) fun y hy=>ZM ⟨by simp only;rw [DI];omega,hy.2⟩) (fun _=>?_);refine ZN (fun _=>ZL (Cg hR (by omega) (by simp)) fun y hy=>?_) (fun _=>?_)
   ·refine ZL (A5 (by simp only [ZP,ZO];omega)) fun z hz'=>ZM ⟨?_,hy.2⟩;subst hz'
    simp only;rw [DI];simp only [QV,ZP,ZO];omega
   ·exact ZM ⟨by simp only;rw [DI];omega,hR.mono (by omega)⟩
  rw [Hp,Qjg f (by omega)];refine ZL (p:=fun x=>x=f) ⟨f,rfl,rfl⟩ fun x hx=>?_;subst hx;refine ZN (fun hl=>?_) (fun hl=>?_)
  ·refine ZL (Jq h (by omega) (by omega)) fun p hp=>?_;refine ZN (fun _=>?_) (fun _=>?_)
   ·refine ZL (Jq hp.2.2 (by omega) (by omega)) fun q hq=>?_;refine ZL (Qjt hq.1 hq.2.1) fun g hg=>?_;obtain ⟨hi,rfl⟩:=hg;have hm:x.kids[q.1.toNat]∈x.kids:=ZS _;have:=CY ZT x.kids _ hm;refine ZL (ih _ hm hq.2.2 (by omega) (by omega)) fun g' hg'=>?_;refine ZL (Im hq.1 hq.2.1) fun u _=>ZM ⟨?_,hg'.2.mono (by omega)⟩;have h3:=SR ZT x.kids q.1.toNat g'.1 hi;have:=hg'.1
    simp only;rw [DI,List.length_set];omega
   ·exact (tail (q:=0) hp.2.2 (by omega)).mono fun r hr=>⟨hr.1,hr.2.mono (by omega)⟩
  ·exact (tail (q:=0) h (by omega)).mono fun r hr=>⟨hr.1,hr.2.mono (by omega)⟩
end Go.Proofs.SA
namespace Go.Proofs.SA
theorem BC {c:Prop} [Decidable c] {o:Option Bool} (h:c->Tot o fun _=>True):Tot (if c then o else pure false) fun b=>b=true->c:=by
 refine ZN (fun hc=>(h hc).mono fun _ _ _=>hc) (fun hc=>ZM fun h=>by cases h)
theorem Qby {c:Prop} [Decidable c] {o:Option Bool} (h:¬c->Tot o fun _=>True):Tot (if c then pure true else o) fun b=>b=false->¬c:=by
 refine ZN (fun hc=>ZM fun h=>by cases h) (fun hc=>(h hc).mono fun _ _ _=>hc)
theorem Qki {s:ByteArray} (hs:s.size < 1099511627776):∀(n:Nat) (i:Int),0<=i->i+n=s.size->Tot (GC s i) fun r=>i<=r/\r<=s.size:=by
 intro n
 induction n with
 | zero =>
  intro i h0 h;rw [GC,if_neg (by omega)];exact ⟨i,rfl,by omega,by omega⟩
 | succ n ih =>
  intro i h0 h;rw [GC];refine ZL (BC fun hc=>ZL (Iq h0 hc) fun _ _=>ZM trivial) fun b hb=>?_;refine ZN (fun hb'=>?_) (fun _=>ZM ⟨by omega,by omega⟩);rw [Y2 (by omega) (by omega)];exact (ih (i+1) (by omega) (by omega)).mono fun r hr=>⟨by omega,hr.2⟩
theorem ED {s:ByteArray} (hs:s.size < 1099511627776) {i:Int} (h0:0<=i) (h:i<=s.size):Tot (I3 s i) fun r=>i<=r/\r<=s.size:=by
 unfold I3;exact ZL (Qki hs (s.size - i.toNat) i h0 (by omega)) fun r hr=>ZM hr
theorem Qk1 {s:ByteArray} (hs:s.size < 1099511627776):∀(n:Nat) (i:Int),0<=i->i+n=s.size->Tot (GD s i) fun r=>i<=r/\r<=s.size:=by
 intro n
 induction n with
 | zero =>
  intro i h0 h;rw [GD,if_neg (by omega)];exact ⟨i,rfl,by omega,by omega⟩
 | succ n ih =>
  intro i h0 h;rw [GD];refine ZL (BC fun hc=>ZL (Iq h0 hc) fun _ _=>ZM trivial) fun b hb=>?_;refine ZL (BC fun hc=>ZL (Iq h0 (hb hc)) fun _ _=>ZM trivial) fun b2 hb2=>?_;refine ZL (BC fun hc=>ZL (Iq h0 (hb (hb2 hc))) fun _ _=>ZM trivial) fun b3 hb3=>?_;refine ZL (BC fun hc=>ZL (Iq h0 (hb (hb2 (hb3 hc)))) fun _ _=>ZM trivial) fun b4 hb4=>?_;refine ZN (fun hb'=>?_) (fun _=>ZM ⟨by omega,by omega⟩);rw [Y2 (by omega) (by omega)];exact (ih (i+1) (by omega) (by omega)).mono fun r hr=>⟨by omega,hr.2⟩
theorem Qh3 {s:ByteArray} (hs:s.size < 1099511627776) {i:Int} (h0:0<=i) (h:i<=s.size):Tot (Cp s i) fun r=>i<=r/\r<=s.size:=by
 unfold Cp;exact ZL (Qk1 hs (s.size - i.toNat) i h0 (by omega)) fun r hr=>ZM hr
theorem Qdp {s:ByteArray} {x:Bool} (hs:s.size < 1099511627776):∀(n:Nat) (v i:Int),0<=i->i+n=s.size->Tot (Gr x s v i) fun _=>True:=by
 intro n
 induction n with
 | zero =>
  intro v i h0 h;rw [Gr,if_neg (by omega)];exact ⟨_,rfl,trivial⟩
 | succ n ih =>
  intro v i h0 h;rw [Gr,if_pos (by omega)];have hx:=Iq (s:=s) h0 (by omega);refine ZL hx fun a _=>?_;refine ZL (p:=fun _=>True) (ZN (fun _=>ZM trivial) (fun _=>ZL hx fun _ _=>ZM trivial)) fun b _=>?_;refine ZN (fun _=>ZM trivial) (fun _=>?_);refine ZL hx fun a _=>?_;rw [Y2 (a:=i+1) (by omega) (by omega)];exact ih _ (i+1) (by omega) (by omega)
theorem TM {s:ByteArray} (hs:s.size < 1099511627776):Tot (Bp s) fun r=>r.2=true->1<=s.size:=by
 unfold Bp;refine ZL (BC fun hc=>ZL (Iq (by omega) (by omega)) fun _ _=>ZM trivial) fun b hb=>?_;refine ZL (p:=fun z=>z.size<=s.size) (ZN (fun hb'=>?_) (fun _=>ZM (Qt _))) fun z hz=>?_
 ·exact ZL (N0 (by omega) (by have:=hb hb';omega) (by omega)) fun z hz=>ZM (by omega)
 simp only [pure_bind];refine ZL (p:=fun b=>b=false->1<=z.size) (ZN (fun hb'=>ZM fun h=>by cases h) (fun hb'=>?_)) fun b2 hb2=>?_
 ·simp only [Bool.or_eq_true,decide_eq_true_eq,not_or] at hb';refine ZL (Iq (by omega) (by omega)) fun a _=>?_
  refine ZL (p:=fun _=>True) (ZN (fun _=>ZM trivial) (fun _=>ZM trivial)) fun _ _=>ZM fun _=>by omega
 refine ZN (fun _=>ZM fun h=>by cases h) (fun hb'=>?_);have h1:=hb2 (by simpa using hb');refine ZL (Qdp (by omega) z.size 0 0 (by omega) (by omega)) fun o _=>?_
 cases o with
 | inl r=>exact ZM fun _=>by omega
 | inr e=>exact ZN (fun _=>ZM fun _=>by omega) (fun _=>ZM fun _=>by omega)
theorem Qde {s:ByteArray} {c:Int} (hs:s.size < 1099511627):∀(n:Nat) (z:List ByteArray) (a i:Int),0<=a->a<=i->i+n=s.size+1->z.length+n<=s.size+1->(∀x∈z,x.size<=s.size)->Tot (JC s c z a i) fun r=>∀x∈r,x.size<=s.size:=by
 intro n
 induction n with
 | zero =>
  intro z a i h0 h1 h2 h3 h4;rw [JC,if_neg (by omega)];exact ⟨_,rfl,h4⟩
 | succ n ih =>
  intro z a i h0 h1 h2 h3 h4;rw [JC,if_pos (by omega)];refine ZL (Qby fun hc=>ZL (Iq (by omega) (by omega)) fun _ _=>ZM trivial) fun b hb=>?_;rw [Y2 (a:=i+1) (by omega) (by omega)];refine ZN (fun _=>?_) (fun _=>ih z a (i+1) h0 (by omega) (by omega) (by omega) h4);refine ZL (N0 h0 h1 (by omega)) fun y hy=>?_;refine ZL (A5 (by simp only [ZP,ZO];omega)) fun w hw=>?_;subst hw;refine ih _ (i+1) (i+1) (by omega) (by omega) (by omega) (by simp only [QV,ZP,ZO];omega) fun x hx=>?_
  rcases List.mem_append.1 hx with hx | hx
  ·exact h4 x hx
  ·rw [ZG] at hx;subst hx;omega
theorem Qaa {s:ByteArray} {a:Int} (hs:s.size < 1099511627776):∀(n:Nat) (i:Int),0<=i->i+n=s.size->Tot (W1 s a i) fun r=>i<=r/\r<=s.size:=by
 intro n
 induction n with
 | zero =>
  intro i h0 h;rw [W1,if_neg (by omega)];exact ⟨i,rfl,by omega,by omega⟩
 | succ n ih =>
  intro i h0 h;rw [W1];refine ZL (BC fun hc=>ZL (Iq h0 hc) fun _ _=>ZM trivial) fun b hb=>?_;refine ZN (fun hb'=>?_) (fun _=>ZM ⟨by omega,by omega⟩);rw [Y2 (by omega) (by omega)];exact (ih (i+1) (by omega) (by omega)).mono fun r hr=>⟨by omega,hr.2⟩
theorem Qab {e:Int} {l:List ByteArray} (hl:∀x∈l,x.size < 1099511627776):∀(n:Nat) (z:List Int) (i:Int),0<=i->i+n=25->z.length<=i->Tot (GB e l z i) fun r=>match r with | .inl r=>r.2=-1/\r.1.length<=25 | .inr r=>r.length<=25:=by
 intro n
 induction n with
 | zero =>
  intro z i h0 h1 h2;rw [GB];refine ZL (p:=fun b=>b=true->i < l.length/\i<=24) (ZM fun h=>by simpa using h) fun b hb=>?_;refine ZN (fun h=>by have:=hb h;omega) (fun _=>ZM (by simp only;omega))
 | succ n ih =>
  intro z i h0 h1 h2;rw [GB];refine ZL (p:=fun b=>b=true->i < l.length/\i<=24) (ZM fun h=>by simpa using h) fun b hb=>?_;refine ZN (fun h=>?_) (fun _=>ZM (by simp only;omega));have:=hb h;refine ZL (Im h0 this.1) fun x hx=>?_;refine ZL (TM (hl x hx)) fun v _=>?_;refine ZN (fun _=>ZM (by simp only;exact ⟨trivial,by omega⟩)) (fun _=>?_);refine ZL (A5 (by simp only [ZP,ZO];omega)) fun w hw=>?_;subst hw;rw [Y2 (a:=i+1) (by omega) (by omega)];exact ih _ (i+1) (by omega) (by omega) (by simp only [QV,ZP,ZO];omega)
theorem Qkg {s:ByteArray} (hs:s.size < 1099511627) {i:Int} (h0:0<=i) (h:i<=s.size):Tot (Co s i) fun r=>r.1.length<=25/\(r.2=-1∨(i<=r.2/\r.2<=s.size)):=by
 unfold Co;refine ZL (p:=fun b=>b=false->i < s.size/\Nc s i=some 123) (ZN (fun _=>ZM fun h=>by cases h) (fun hc=>?_)) fun b hb=>?_
 ·obtain ⟨v,hv,_⟩:=Iq (s:=s) h0 (by omega);rw [hv];refine ZL (p:=fun a=>a=v) ⟨v,rfl,rfl⟩ fun a ha=>ZM fun h=>⟨by omega,?_⟩;subst ha
  have:a=123:=by simpa using h
  rw [this]
 refine ZN (fun _=>ZM ⟨by simp,.inr ⟨by simp,h⟩⟩) (fun hb'=>?_);obtain ⟨hi,hv⟩:=hb (by simpa using hb')
 have he:Tot (W1 s i i) fun e=>i+1<=e/\e<=s.size:=by
  rw [W1,if_pos hi,hv];refine ZL (p:=fun b=>b=true) ⟨true,rfl,rfl⟩ fun b hb=>?_;rw [if_pos hb,Y2 (by omega) (by omega)];exact Qaa (by omega) (s.size - (i+1).toNat) (i+1) (by omega) (by omega)
 refine ZL he fun e he=>?_;refine ZN (fun _=>ZM ⟨by simp,.inl rfl⟩) (fun hne=>?_);rw [Y2 (a:=i+1) (by omega) (by omega),Y2 (a:=e+1) (by omega) (by omega)];refine ZL (N0 (by omega) he.1 he.2) fun x hx=>?_
 have hc:Tot (Ck x 44) fun r=>∀y∈r,y.size<=x.size:=by
  unfold Ck;exact ZL (Qde (by omega) (x.size+1) [] 0 0 (by omega) (by omega) (by omega) (by simp) (by simp)) fun r hr=>ZM hr
 refine ZL hc fun r hr=>?_;refine ZL (Qab (fun y hy=>by have:=hr y hy;omega) 25 [] 0 (by omega) (by omega) (by simp)) fun o ho=>?_
 cases o with
 | inl r=>exact ZM ⟨ho.2,.inl ho.1⟩
 | inr r=>exact ZM ⟨ho,.inr ⟨by simp only;omega,by simp only;omega⟩⟩
theorem Sh {s:ByteArray} (h:s.size=0):s=Qk #[]:=by
 obtain ⟨⟨l⟩⟩:=s
 congr
 simpa [ByteArray.size] using h
def Qo5 (s:ByteArray) (i:Int) (r:Fm × Int):Prop:=r.2=-1∨(i < r.2/\r.2<=s.size/\(r.1.sz:Int)+1<=27 * (r.2 - i))
theorem Qja {s:ByteArray} (hs:s.size < 1099511627) {i:Int} (h0:0<=i) (h:i<=s.size):Tot (Cn s i) (Qo5 s i):=by
 unfold Cn;refine ZL (Qh3 (by omega) h0 h) fun j hj=>?_;refine ZL (N0 h0 hj.1 hj.2) fun w hw=>?_;refine ZL (TM (by omega)) fun v hv=>?_;refine ZN (fun hb=>?_) (fun _=>?_)
 ·have:=hv hb;refine ZM (.inr ⟨by simp only;omega,by simp only;omega,?_⟩)
  simp only;rw [DI];show ((0+0+0+0:Nat):Int)+1<=_;omega
 refine ZN (fun _=>ZM (.inl rfl)) (fun hne=>?_)
 have hj1:i < j:=by
  rcases Int.lt_or_le i j with h1 | h1
  ·exact h1
  ·exact absurd (Sh (s:=w) (by omega)) hne
 refine ZL (Qkg hs (by omega) hj.2) fun t ht=>ZM ?_
 rcases ht.2 with h2 | h2
 ·exact .inl h2
 ·refine .inr ⟨by simp only;omega,h2.2,?_⟩
  simp only;rw [DI]
  have:=ht.1;show ((w.size+t.1.length+0+0:Nat):Int)+1<=_;omega
theorem Qj9 {s:ByteArray} (hs:s.size < 1099511627):∀(d:Nat),d < 1000->∀(i:Int),0<=i->i<=s.size->Tot (I2 s i d) (Qo5 s i):=by
 intro d
 induction d with
 | zero =>
  intro _ i h0 h;rw [I2];refine ZL (ED (by omega) h0 h) fun j hj=>?_;refine ZL (p:=fun b=>b=true) (ZM (by simp)) fun b hb=>?_;rw [if_pos hb];exact ZM (.inl rfl)
 | succ d ih =>
  intro hd i h0 h
  have loop:∀(n:Nat) (z:List Fm) (a:Int) (j:Int),0<=a->a<=j->j+n=s.size->z.length<=400->(VF ZT z:Int)+z.length<=27 * (j - a)->Tot (IJ s ((d+1:Nat):Int) z j) fun o=>match o with | .inl r=>r.2=-1 | .inr r=>a<=r.2/\r.2<=s.size/\(VF ZT r.1:Int)+r.1.length<=27 * (r.2 - a):=by
   intro n
   induction n using Nat.strongRecOn with
   | _ n ihn =>
    intro z a j ha haj hj hz hsz;rw [IJ];refine ZL (BC fun hc=>ZL (Iq (by omega) hc) fun _ _=>ZM trivial) fun b hb=>?_;refine ZL (p:=fun b'=>b'=true->b=true/\(z.length:Int) < 400) (ZM fun h=>by simpa using h) fun b' hb'=>?_;refine ZN (fun hbt=>?_) (fun _=>ZM (by simp only;exact ⟨haj,by omega,hsz⟩));obtain ⟨h1,h2⟩:=hb' hbt;have h3:=hb h1;rw [Y2 (by omega) (by omega),show ((d+1:Nat):Int) - 1=(d:Int) by omega];refine ZL (ih (by omega) j (by omega) (by omega)) fun x hx=>?_;refine ZN (fun _=>ZM (by simp only)) (fun hx0=>?_)
    rcases hx with hx | hx
    ·omega
    refine ZL (A5 (by simp only [ZP,ZO];omega)) fun w hw=>?_;subst hw;refine ZL (ED (by omega) (by omega) hx.2.1) fun k hk=>?_;refine ihn (s.size - k.toNat) (by omega) _ a k ha (by omega) (by omega) (by simp only [QV,ZP,ZO];omega) ?_;simp only [E9,VF,QV,ZP,ZO];omega
  rw [I2];refine ZL (ED (by omega) h0 h) fun j hj=>?_;refine ZL (p:=fun b=>b=false->j < s.size) (ZM fun h=>by simp at h;omega) fun b hb=>?_;refine ZN (fun _=>ZM (.inl rfl)) (fun hb'=>?_);have hjs:=hb (by simpa using hb');refine ZL (Iq (by omega) hjs) fun c _=>?_;refine ZN (fun _=>?_) (fun _=>?_)
  ·rw [Y2 (a:=j+1) (by omega) (by omega)];refine ZL (ED (by omega) (by omega) (by omega)) fun k hk=>?_;refine ZL (loop (s.size - k.toNat) [] k k (by omega) (by omega) (by omega) (by simp) (by simp [VF])) fun o ho=>?_
   cases o with
   | inl r=>exact ZM (.inl ho)
   | inr r =>
    obtain ⟨r1,r2⟩:=r;simp only at ho ⊢;refine ZL (Qby fun hc=>ZL (Iq (by omega) (by omega)) fun _ _=>ZM trivial) fun b hb=>?_;refine ZN (fun _=>ZM (.inl rfl)) (fun hb'=>?_);have:=hb (by simpa using hb');rw [Y2 (a:=r2+1) (by omega) (by omega)];refine ZM (.inr ⟨by simp only;omega,by simp only;omega,?_⟩)
    simp only;rw [DI]
    show ((0+0+r1.length+VF ZT r1:Nat):Int)+1<=_;omega
  ·refine ZL (Qja hs (by omega) (by omega)) fun x hx=>ZM ?_
   rcases hx with hx | hx
   ·exact .inl hx
   ·exact .inr ⟨by simp only;omega,hx.2.1,by have:=hx.2.2;simp only;omega⟩
end Go.Proofs.SA
namespace Go.Proofs.SA
theorem Qdl (c:Int) (b:Bool):Tot (It c b) fun _=>True:=by
 unfold It;simp only [pure_bind];refine ZN (fun _=>ZM trivial) (fun _=>?_);exact ZL (p:=fun _=>True) (ZN (fun _=>ZM trivial) (fun _=>ZM trivial)) fun _ _=>ZM trivial
theorem Nr {s:ByteArray} : ∀(n:Nat) (i:Int),0<=i->i+n=13->Tot (VP s i) fun _=>True:=by
 intro n
 induction n with
 | zero =>
  intro i h0 h;rw [VP];refine ZL (p:=fun b=>b=true->i < s.size/\i<=12) (ZM fun h=>by simpa using h) fun b hb=>?_;exact ZN (fun h=>by have:=hb h;omega) (fun _=>ZM trivial)
 | succ n ih =>
  intro i h0 h;rw [VP];refine ZL (p:=fun b=>b=true->i < s.size/\i<=12) (ZM fun h=>by simpa using h) fun b hb=>?_;refine ZN (fun h=>?_) (fun _=>ZM trivial);have:=hb h;refine ZL (Iq h0 this.1) fun c _=>?_;refine ZL (Qdl _ _) fun v _=>?_;refine ZN (fun _=>ZM trivial) (fun _=>?_);rw [Y2 (by omega) (by omega)];exact ih _ (by omega) (by omega)
theorem Sw (s:ByteArray):Tot (JB s) fun _=>True:=by
 unfold JB;refine ZL (p:=fun _=>True) (ZM trivial) fun _ _=>?_;refine ZN (fun _=>ZM trivial) (fun _=>?_);refine ZL (Nr 13 0 (by omega) (by omega)) fun o _=>?_
 cases o with
 | inl r=>exact ZM trivial
 | inr r=>exact ZL (p:=fun _=>True) (ZM trivial) fun _ _=>ZM trivial
theorem SF {l:List Int} : ∀(n:Nat) (i:Int),0<=i->i+n=25->Tot (VX l i) fun _=>True:=by
 intro n
 induction n with
 | zero =>
  intro i h0 h;rw [VX];refine ZL (p:=fun b=>b=true->i < l.length/\i<=24) (ZM fun h=>by simpa using h) fun b hb=>?_;exact ZN (fun h=>by have:=hb h;omega) (fun _=>ZM trivial)
 | succ n ih =>
  intro i h0 h;rw [VX];refine ZL (p:=fun b=>b=true->i < l.length/\i<=24) (ZM fun h=>by simpa using h) fun b hb=>?_;refine ZN (fun h=>?_) (fun _=>ZM trivial);have hi:=(hb h).1;have hx:=Im h0 hi;refine ZL hx fun x _=>?_;refine ZL (p:=fun _=>True) (ZN (fun _=>ZM trivial) (fun _=>ZL hx fun _ _=>ZM trivial)) fun _ _=>?_;refine ZL (p:=fun _=>True) (ZN (fun _=>ZM trivial) (fun _=>?_)) fun _ _=>?_
  ·refine ZL (p:=fun _=>True) (ZN (fun h1=>?_) (fun _=>ZM trivial)) fun _ _=>ZM trivial;rw [Y2 (by omega) (by omega)];exact ZL hx fun _ _=>ZL (Im (by omega) (by omega)) fun _ _=>ZM trivial
  refine ZN (fun _=>ZM trivial) (fun _=>?_);rw [Y2 (by omega) (by omega)];exact ih _ (by omega) (by omega)
theorem Qd3 (l:List Int):Tot (Hq l) fun _=>True:=by
 unfold Hq;refine ZL (SF 25 0 (by omega) (by omega)) fun o _=>?_
 cases o with
 | inl r=>exact ZM trivial
 | inr r=>exact ZM trivial
theorem pb {α:Type} {b:Bool} {k:Bool->Option α} {p:α->Prop} (h:∀b,Tot (k b) p):Tot ((pure b:Option Bool)>>=k) p:=h b
theorem Qqm:∀(d:Nat),d < 1000->∀(f:Fm),f.sz < 1099511627776->Tot (ID f d) fun _=>True:=by
 intro d
 induction d with
 | zero=>intro _ f _;rw [ID,if_pos (by rfl)];exact ZM trivial
 | succ d ih =>
  intro hd f hf;have hz:=Fm.G3 f
  have loop:∀(n:Nat) (i:Int),0<=i->i+n=f.kids.length->Tot (GA f ((d+1:Nat):Int) i) fun _=>True:=by
   intro n
   induction n with
   | zero=>intro i h0 h;rw [GA,if_neg (by omega)];exact ZM trivial
   | succ n ihn =>
    intro i h0 h;rw [GA,if_pos (by omega)];refine ZL (Im h0 (by omega)) fun g hg=>?_;rw [Y2 (by omega) (by omega),Y2 (by omega) (by omega),show ((d+1:Nat):Int) - 1=(d:Int) by omega];refine ZL (ih (by omega) g (by have:=Fm.J3 hg;omega)) fun b _=>?_;exact ZN (fun _=>ZM trivial) (fun _=>ihn (i+1) (by omega) (by omega))
  rw [ID,if_neg (by omega)];refine ZN (fun _=>?_) (fun _=>?_)
  ·refine ZL (Sw _) fun _ _=>pb fun b=>?_;refine ZL (p:=fun _=>True) (ZN (fun _=>ZL (Qd3 _) fun _ _=>ZM trivial) (fun _=>ZM trivial)) fun _ _=>pb fun _=>ZM trivial
  refine ZN (fun _=>pb fun _=>pb fun _=>pb fun _=>pb fun _=>ZM trivial) (fun _=>?_);refine pb fun _=>pb fun _=>pb fun _=>?_;refine ZN (fun _=>ZM trivial) (fun _=>?_);refine ZL (loop f.kids.length 0 (by omega) (by omega)) fun o _=>?_
  cases o with
  | inl r=>exact ZM trivial
  | inr r=>exact ZM trivial
theorem Qgb:∀(f:Fm),f.sz < 1099511627776->Tot (Gv f) fun _=>True:=by
 intro f
 induction f using Fm.ind with
 | h f ih =>
  intro hf;have hz:=Fm.G3 f
  have loop:∀(n:Nat) (v i:Int),0<=i->i+n=f.kids.length->Tot (WD f v i) fun _=>True:=by
   intro n
   induction n with
   | zero=>intro v i h0 h;rw [WD,if_neg (by omega)];exact ZM trivial
   | succ n ihn =>
    intro v i h0 h;rw [WD,if_pos (by omega)];refine ZL (Im h0 (by omega)) fun g hg=>?_;refine ZL (ih g hg (by have:=Fm.J3 hg;omega)) fun b _=>?_;rw [Y2 (a:=i+1) (by omega) (by omega)];exact ihn _ (i+1) (by omega) (by omega)
  rw [Gv];exact ZL (loop f.kids.length 1 0 (by omega) (by omega)) fun _ _=>ZM trivial
theorem Sn {f:Fm} (hf:f.sz < 1099511627776):Tot (YT f) fun _=>True:=by
 unfold YT;refine ZL (Qqm 40 (by omega) f hf) fun _ _=>?_;exact ZL (p:=fun _=>True) (ZN (fun _=>ZL (Qgb f hf) fun _ _=>ZM trivial) (fun _=>ZM trivial)) fun _ _=>ZM trivial
theorem Sz {s:ByteArray} (hs:s.size < 1099511627):Tot (As s) fun r=>r.1.sz<=27 * s.size:=by
 unfold As;refine ZL (Qj9 hs 40 (by omega) 0 (by omega) (by omega)) fun x hx=>?_;refine ZL (p:=fun b=>b=false->0<=x.2) (ZN (fun _=>ZM fun h=>by cases h) (fun h=>?_)) fun b hb=>?_
 ·have h2:x.2<=s.size:=by rcases hx with hx | hx<;>omega
  exact ZL (ED (by omega) (by omega) h2) fun _ _=>ZM fun _=>by omega
 have hsz:0<=x.2->x.1.sz<=27 * s.size:=fun h=>by
  rcases hx with hx | hx
  ·omega
  ·have:=hx.2.1;have:=hx.2.2;omega
 refine ZL (p:=fun b'=>b'=false->0<=x.2) (ZN (fun _=>ZM fun h=>by cases h) (fun h=>?_)) fun b' hb'=>?_
 ·have h0:=hb (by simpa using h);exact ZL (Sn (by have:=hsz h0;omega)) fun _ _=>ZM fun _=>h0
 refine ZN (fun _=>ZM ?_) (fun h=>ZM (hsz (hb' (by simpa using h))))
 simp only;rw [DI];show 0+0+0+0<=_;omega
theorem TU {s:ByteArray} (hs:s.size<=1000):Tot (AM s) fun r=>r.sz<=27000:=by
 unfold AM;exact ZL (Sz (by omega)) fun r hr=>ZM (by omega)
theorem Qd9:Tot CX fun l=>1<=l.length/\∀s∈l,s.size<=1000:=⟨_,rfl,by decide,by decide⟩
theorem Qgj {c:Rdr} {k:Nat} (h:RdI c k) (hk:k < 1000000000):Tot (Cx c) fun r=>r.1.sz<=1000000/\RdI r.2 (k+1000000):=by
 unfold Cx;refine ZL Qd9 fun l hl=>?_;refine ZL (Jq h (by omega) (by omega)) fun x hx=>?_;refine ZN (fun _=>?_) (fun _=>?_)
 ·refine ZL (Jq hx.2.2 (by omega) (by omega)) fun y hy=>?_;refine ZL (Im hy.1 hy.2.1) fun s hs=>?_;exact ZL (TU (hl.2 s hs)) fun r hr=>ZM ⟨by simp only;omega,hy.2.2.mono (by omega)⟩
 refine ZL (Cg hx.2.2 (by omega) (by simp)) fun d hd=>?_
 have hd':d.1=4∨d.1=3∨d.1=2:=by simpa using hd.1
 have hdn:∃n:Nat,n<=4/\d.1=(n:Int):=by
  rcases hd' with h | h | h
  ·exact ⟨4,by omega,h⟩
  ·exact ⟨3,by omega,h⟩
  ·exact ⟨2,by omega,h⟩
 obtain ⟨n,hn,hdn⟩:=hdn
 have hq:Qw n<=256000:=by
  have:Qw n<=Qw 4:=by
   unfold Qw;exact Nat.mul_le_mul_left _ (Nat.pow_le_pow_right (by omega) hn)
  exact this
 rw [hdn];refine ZL (Qhs n hd.2 ⟨by simp,by simp;omega,by decide⟩ (by omega) (by omega)) fun v hv=>?_;refine ZL (Jq hv.2 (by omega) (by omega)) fun u hu=>?_;refine ZN (fun _=>?_) (fun _=>ZM ⟨by have:=hv.1;simp only;omega,hu.2.2.mono (by omega)⟩);refine ZL (TU (by decide)) fun r hr=>?_;refine ZL (Bz _) fun n1 h1=>?_;refine ZL (Bz _) fun n2 h2=>?_;refine ZL (A6 _) fun n3 h3=>?_;refine ZL (A6 _) fun n4 h4=>?_;refine ZL (A6 _) fun n5 h5=>ZM ⟨?_,hu.2.2.mono (by omega)⟩;have e1:(Qk #[108,101,116,45,115,121,110,116,97,120]).size=10:=rfl;have e2:(Qk #[103]).size=1:=rfl;have:=hv.1;simp only [VF,ZP,ZO] at h3 h4 h5
 simp only;omega
end Go.Proofs.SA
