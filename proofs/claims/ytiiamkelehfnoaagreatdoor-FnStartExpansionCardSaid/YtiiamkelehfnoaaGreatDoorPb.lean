/- The draws yield something: the reader, copies, mutations, drawn forms. Imports the plain functions of a seat (gen2). -/
import Derived.Test.YtiiamkelehfnoaaGreatDoorPa
import Derived.Test.YtiiamkelehfnoaaGreatDoorseD
set_option linter.unusedVariables false
set_option linter.unusedSimpArgs false
set_option maxRecDepth 100000
open Go Go.Proofs Go.Proofs.Shadow
open Tot renaming bind → ZN, pure → ZO, ite → ZP
open _root_.List renaming length_nil → ZQ, length_cons → ZR, length_append → QX, take_succ_eq_append_getElem → ZT, getElem_mem → ZU, nil_append → QU, mem_singleton → ZI
open _root_.ByteArray renaming mk → Qd
open _root_.Option renaming bind_some → Qh, bind_eq_bind → ZS
open Fm renaming mk → KU, sz → ZV
open _root_.Nat renaming le_refl → Qt
open Go.IntKind (i64)
namespace Go.Proofs.SA
def RdI (c:Rdr) (k:Nat):Prop:=c.b.length<=2000/\(∀x∈c.b,0<=x/\x < 256)/\0<=c.p/\c.p<=k
theorem RdI.mono {c:Rdr} {k k':Nat} (h:RdI c k) (hk:k<=k'):RdI c k':=⟨h.1,h.2.1,h.2.2.1,by have:=h.2.2.2;omega⟩
theorem Sl {l:List Int} (h:∀x∈l,0<=x/\x < 256):Tot (IU l) fun c=>RdI c 0:=by
 unfold IU;refine ZP (fun hc=>?_) (fun hc=>?_)
 ·refine ZN (Qj0 (by omega) (by omega) (by omega)) fun z hz=>ZO ⟨by have:=hz.1;simp only;omega,fun x hx=>h x (hz.2 x hx),by simp,by simp⟩
 ·exact ZO ⟨by simp only;omega,h,by simp,by simp⟩
theorem Jn {c:Rdr} {k:Nat} {n:Int} (h:RdI c k) (hk:k < 1099511627776) (h1:1<=n):Tot (Yv n c) fun r=>0<=r.1/\r.1 < n/\RdI r.2 (k+1):=by
 obtain ⟨hb,hx,hp0,hpk⟩:=h;unfold Yv;have w1:i64.wrap (c.p+1)=c.p+1:=Y3 (by omega) (by omega)
 have w2:i64.wrap (c.p+1 - 1)=c.p:=by rw [Y3 (by omega) (by omega)];omega
 simp only [w1,w2,pure_bind];have hR:RdI ⟨c.b,c.p+1⟩ (k+1):=⟨hb,hx,by simp only;omega,by simp only;omega⟩;refine ZP (fun hc=>ZO ⟨by simp,by simp only;omega,hR⟩) (fun hc=>?_);simp only [Bool.or_eq_true,decide_eq_true_eq,not_or] at hc;refine ZP (fun hl=>?_) (fun hl=>?_)
 ·refine ZN (H8 hp0 hl) fun x hm=>?_;have:=hx x hm;rw [Y3 (a:=x) (by omega) (by omega)];exact ZN (NB (by omega) h1) fun y hy=>ZO ⟨hy.1,hy.2,hR⟩
 ·refine ZN (NB hp0 (by omega)) fun i hi=>?_;refine ZN (H8 hi.1 hi.2) fun x hm=>?_;have h2:=hx x hm
  have w3:i64.wrap (i64.wrap (c.p * 7)+3)=c.p * 7+3:=by rw [Y3 (a:=c.p * 7) (by omega) (by omega),Y3 (by omega) (by omega)]
  rw [w3];refine ZN (NB (by omega) (by omega)) fun j hj=>?_;refine ZN (H8 hj.1 hj.2) fun y hm2=>?_;have h3:=hx y hm2;refine ZN (Qjt hp0 (by omega) (by omega)) fun q hq=>?_
  have e:i64.wrap (i64.wrap (i64.wrap (i64.wrap (i64.wrap x * 131)+i64.wrap (i64.wrap y * 1117))+i64.wrap (c.p * 29))+i64.wrap (q * 53))=x * 131+y * 1117+c.p * 29+q * 53:=by
   rw [Y3 (a:=x) (by omega) (by omega),Y3 (a:=y) (by omega) (by omega),Y3 (a:=x * 131) (by omega) (by omega),Y3 (a:=y * 1117) (by omega) (by omega),Y3 (a:=c.p * 29) (by omega) (by omega),Y3 (a:=q * 53) (by omega) (by omega),Y3 (a:=x * 131+y * 1117) (by omega) (by omega),Y3 (a:=x * 131+y * 1117+c.p * 29) (by omega) (by omega),Y3 (by omega) (by omega)]
  rw [e];generalize hv:x * 131+y * 1117+c.p * 29+q * 53=v
  have v0:0<=v:=by omega
  have v1:v < 1099511627776000:=by omega
  have d0:0<=v.tdiv 64:=Int.tdiv_nonneg v0 (by omega);have d1:v.tdiv 64<=v:=Int.tdiv_le_self _ v0;rw [Y3 (a:=v.tdiv 64) (by omega) (by omega)];have:=Qi6 v0 (by omega) d0 (by omega);exact ZN (NB this.1 h1) fun z hz=>ZO ⟨hz.1,hz.2,hR⟩
theorem Cb {c:Rdr} {k:Nat} {l:List Int} (h:RdI c k) (hk:k < 1099511627776) (hl:1<=l.length):Tot (YX l c) fun r=>r.1∈l/\RdI r.2 (k+1):=by
 unfold YX;refine ZN (Jn h hk (by omega)) fun x hx=>?_;exact ZN (H8 hx.1 hx.2.1) fun y hy=>ZO ⟨hy,hx.2.2⟩
theorem Qbk {c:Rdr} {k:Nat} {l:List ByteArray} (h:RdI c k) (hk:k < 1099511627776) (hl:1<=l.length):Tot (Wa l c) fun r=>r.1∈l/\RdI r.2 (k+1):=by
 unfold Wa;refine ZN (Jn h hk (by omega)) fun x hx=>?_;exact ZN (H8 hx.1 hx.2.1) fun y hy=>ZO ⟨hy,hx.2.2⟩
theorem Qnr (s:ByteArray):VK s=some (KU 1 s 0 [] []):=rfl
theorem Dx (k:Int) (s:ByteArray) (n:Int) (sc:List Int) (ks:List Fm):(KU k s n sc ks).sz=s.size+sc.length+ks.length+VF ZV ks:=by rw [Fm.G6];rfl
theorem Bt (s:ByteArray):Tot (VK s) fun f=>f.sz=s.size:=⟨_,rfl,by simp only;rw [Dx];simp [VF]⟩
theorem AU (l:List Fm):Tot (W6 l) fun f=>f.sz=l.length+VF ZV l:=⟨_,rfl,by simp only;rw [Dx];show 0+0+_+_=_;omega⟩
def Pw (d:Nat):Nat:=100 * 4 ^ d
theorem Ql4 (d:Nat):Pw (d+1)=4 * Pw d:=by simp only [Pw,Nat.pow_succ];omega
theorem Qic (d:Nat):100<=Pw d:=by simp only [Pw];have:0 < 4 ^ d:=Nat.pow_pos (by omega);omega
def Qg7:List ByteArray:=[(Qd #[97]),(Qd #[98]),(Qd #[120]),(Qd #[121]),(Qd #[102]),(Qd #[105,102]),(Qd #[108,101,116]),(Qd #[43])]
theorem Qki:∀(d:Nat) {c:Rdr} {k:Nat},RdI c k->d < 20->k+Pw d < 1099511627776->Tot (Ih d c) fun r=>r.1.sz<=Pw d/\RdI r.2 (k+Pw d):=by
 have base:∀{c:Rdr} {k n:Nat} {p:Int->Prop} {q:ByteArray->Prop},RdI c k->100<=n->k+n < 1099511627776+1->Tot (Yv 4 c>>=fun x=>if x.1=0 then (YX [0,1,2,7,42,999] x.2>>=fun y=>pure (KU 2 (Qd #[]) y.1 [] [],y.2)) else (Wa Qg7 x.2>>=fun y=>VK y.1>>=fun z=>pure (z,y.2))) fun r=>r.1.sz<=100/\RdI r.2 (k+2):=by
  intro c k n p q h hn hk;refine ZN (Jn h (by omega) (by omega)) fun x hx=>?_;refine ZP (fun _=>?_) (fun _=>?_)
  ·exact ZN (Cb hx.2.2 (by omega) (by simp)) fun y hy=>ZO ⟨by simp only;rw [Dx];show 0+0+0+0<=100;omega,hy.2⟩
  ·refine ZN (Qbk hx.2.2 (by omega) (by simp [Qg7])) fun y hy=>?_;refine ZN (Bt _) fun z hz=>ZO ⟨?_,hy.2⟩
   have:∀s∈Qg7,s.size<=100:=by decide
   simp only;rw [hz];exact this _ hy.1
 intro d
 induction d with
 | zero =>
  intro c k h hd hk;rw [Ih];rw [if_pos (by rfl)];exact (base (p:=fun _=>True) (q:=fun _=>True) h (Qt 100) (by have:=Qic 0;omega)).mono fun r hr=>⟨by have:=Qic 0;omega,hr.2.mono (by have:=Qic 0;omega)⟩
 | succ d ih =>
  intro c k h hd hk;have hp:=Qic d;have hs:=Ql4 d
  have loop:∀(n:Nat) {z:List Fm} {b:List Int} {p:Int} {k:Nat},n<=3->z.length+n<=3->RdI ⟨b,p⟩ k->k+n * Pw d < 1099511627776->Tot (Hw ((d+1:Nat):Int) z n b p) fun r=>r.1.length<=z.length+n/\VF ZV r.1<=VF ZV z+n * Pw d/\RdI ⟨r.2.1,r.2.2⟩ (k+n * Pw d):=by
   intro n
   induction n with
   | zero =>
    intro z b p k _ _ h _;rw [Hw,if_neg (by omega)];exact ZO ⟨by simp,by simp,by simpa using h⟩
   | succ n ihn =>
    intro z b p k hn hz h hk;rw [Nat.succ_mul] at hk;rw [Hw,if_pos (by omega)]
    have w1:i64.wrap (((d+1:Nat):Int) - 1)=(d:Int):=by rw [Y3 (by omega) (by omega)];omega
    have w2:i64.wrap (((n+1:Nat):Int) - 1)=(n:Int):=by rw [Y3 (by omega) (by omega)];omega
    rw [w1,w2];refine ZN (ih h (by omega) (by omega)) fun x hx=>?_;refine ZN (AT (by simp only [ZR,ZQ];omega)) fun y hy=>?_;subst hy;refine (ihn (by omega) (by simp only [QX,ZR,ZQ];omega) hx.2 (by omega)).mono fun r hr=>?_;obtain ⟨r1,r2,r3⟩:=hr;simp only [QX,ZR,ZQ,EY,VF] at r1 r2;rw [Nat.succ_mul];exact ⟨by omega,by have:=hx.1;omega,r3.mono (by omega)⟩
  rw [Ih,if_neg (by omega)];refine ZN (Jn h (by omega) (by omega)) fun x hx=>?_;refine ZP (fun _=>?_) (fun _=>?_)
  ·exact (base (p:=fun _=>True) (q:=fun _=>True) hx.2.2 (Qt 100) (by omega)).mono fun r hr=>⟨by omega,hr.2.mono (by omega)⟩
  ·refine ZN (Jn hx.2.2 (by omega) (by omega)) fun y hy=>?_;obtain ⟨m,hm⟩:=Int.eq_ofNat_of_zero_le hy.1
   have hm3:m<=3:=by have:=hy.2.1;omega
   have hmul:m * Pw d<=3 * Pw d:=Nat.mul_le_mul_right _ hm3;rw [hm];refine ZN (loop m hm3 (by simp;omega) hy.2.2 (by omega)) fun r hr=>?_;obtain ⟨r1,r2,r3⟩:=hr;simp only [ZQ,VF] at r1 r2;refine ZO ⟨?_,r3.mono (by omega)⟩
   simp only;rw [Dx]
   show 0+0+_+_<=_;omega
end Go.Proofs.SA
namespace Go.Proofs.SA
def Qw (d:Nat):Nat:=1000 * 4 ^ d
theorem Ql5 (d:Nat):Qw (d+1)=4 * Qw d:=by simp only [Qw,Nat.pow_succ];omega
theorem Qo7 (d:Nat):1000<=Qw d:=by simp only [Qw];have:0 < 4 ^ d:=Nat.pow_pos (by omega);omega
def NmI (l:List ByteArray) (d:Nat):Prop:=1<=l.length/\l.length+d<=1000/\∀s∈l,s.size<=10
theorem Qhl:∀(d:Nat) {a:List ByteArray} {c:Rdr} {k:Nat},RdI c k->NmI a d->d < 20->k+Qw d < 1099511627776->Tot (Wf a d c) fun r=>r.1.sz<=Qw d/\RdI r.2 (k+Qw d):=by
 have base:∀{a:List ByteArray} {c:Rdr} {k:Nat},RdI c k->1<=a.length->(∀s∈a,s.size<=10)->k+99 < 1099511627776->Tot (Yv 3 c>>=fun x=>if x.1=0 then (YX [0,1,2,7] x.2>>=fun y=>pure (KU 2 (Qd #[]) y.1 [] [],y.2)) else (Yv (a.length:Int) x.2>>=fun y=>idx a y.1>>=fun u=>VK u>>=fun z=>pure (z,y.2))) fun r=>r.1.sz<=100/\RdI r.2 (k+2):=by
  intro a c k h ha hs hk;refine ZN (Jn h (by omega) (by omega)) fun x hx=>?_;refine ZP (fun _=>?_) (fun _=>?_)
  ·exact ZN (Cb hx.2.2 (by omega) (by simp)) fun y hy=>ZO ⟨by simp only;rw [Dx];show 0+0+0+0<=100;omega,hy.2⟩
  ·refine ZN (Jn hx.2.2 (by omega) (by omega)) fun y hy=>?_;refine ZN (H8 hy.1 hy.2.1) fun u hu=>?_;refine ZN (Bt _) fun z hz=>ZO ⟨?_,hy.2.2⟩;have:=hs u hu
   simp only;omega
 intro d
 induction d with
 | zero =>
  intro a c k h ha hd hk;have:=Qo7 0;rw [Wf,if_pos (by rfl)];exact (base h ha.1 ha.2.2 (by omega)).mono fun r hr=>⟨by omega,hr.2.mono (by omega)⟩
 | succ d ih =>
  intro a c k h ha hd hk;have hp:=Qo7 d;have hs:=Ql5 d
  have w1:i64.wrap (((d+1:Nat):Int) - 1)=(d:Int):=by rw [Y3 (by omega) (by omega)];omega
  rw [Wf,if_neg (by omega)];simp only [w1];refine ZN (Jn h (by omega) (by omega)) fun x hx=>?_;refine ZP (fun _=>?_) (fun _=>?_)
  ·exact (base hx.2.2 ha.1 ha.2.2 (by omega)).mono fun r hr=>⟨by omega,hr.2.mono (by omega)⟩
  refine ZN (Qbk hx.2.2 (by omega) (by simp)) fun v hv=>?_
  have hv10:v.1.size<=10:=by
   have:∀s∈[(Qd #[120]),(Qd #[121]),(Qd #[116])],s.size<=10:=by decide
   exact this _ hv.1
  refine ZN (AT (by have:=ha.2.1;simp only [ZQ];omega)) fun y hy=>?_;rw [QU] at hy;rw [hy];refine ZN (AT (by have:=ha.2.1;simp only [ZQ,ZR];omega)) fun y hy=>?_;subst hy;have ha0:NmI a d:=⟨ha.1,by have:=ha.2.1;omega,ha.2.2⟩
  have ha2:NmI (a++[v.1]) d:=⟨by simp,by have:=ha.2.1;simp;omega,fun s hs=>by
   simp only [List.mem_append,ZI] at hs
   rcases hs with hs | rfl
   ·exact ha.2.2 s hs
   ·exact hv10⟩
  refine ZN (Jn hv.2 (by omega) (by omega)) fun p hp'=>?_;obtain ⟨p0,p8,hR⟩:=hp';refine ZN (p:=fun _=>True) (ZP (fun _=>ZO trivial) (fun _=>ZO trivial)) fun b _=>?_;refine ZP (fun _=>?_) (fun _=>?_)
  ·
   refine ZN (Bt _) fun n1 h1=>?_;refine ZN (Bt _) fun n2 h2=>?_;refine ZN (AU _) fun n3 h3=>?_;refine ZN (ih hR ha2 (by omega) (by omega)) fun n4 h4=>?_;refine ZN (AU _) fun n5 h5=>ZO ⟨?_,h4.2.mono (by omega)⟩;have e:(Qd #[108,97,109,98,100,97]).size=6:=rfl;have:=h4.1;simp only [VF,ZR,ZQ] at h3 h5
   simp only;omega
  refine ZN (p:=fun _=>True) (ZP (fun _=>ZO trivial) (fun _=>ZO trivial)) fun b _=>?_;refine ZP (fun _=>?_) (fun _=>?_)
  ·
   refine ZN (Bt _) fun n1 h1=>?_;refine ZN (ih hR ha0 (by omega) (by omega)) fun n2 h2=>?_;refine ZN (AU _) fun n3 h3=>?_;refine ZN (Bt _) fun n4 h4=>?_;refine ZN (AU _) fun n5 h5=>?_;refine ZN (ih h2.2 ha2 (by omega) (by omega)) fun n6 h6=>?_;refine ZN (AU _) fun n7 h7=>ZO ⟨?_,h6.2.mono (by omega)⟩;have e:(Qd #[108,101,116]).size=3:=rfl;have:=h2.1;have:=h6.1;simp only [VF,ZR,ZQ] at h3 h5 h7
   simp only;omega
  refine ZP (fun _=>?_) (fun _=>?_)
  ·
   refine ZN (Bt _) fun n1 h1=>?_;refine ZN (ih hR ha0 (by omega) (by omega)) fun n2 h2=>?_;refine ZN (ih h2.2 ha0 (by omega) (by omega)) fun n3 h3=>?_
   have hz:Tot (Wf a 0 n3.2) fun r=>r.1.sz<=100/\RdI r.2 (k+1+1+1+Qw d+Qw d+2):=by
    rw [Wf,if_pos (by rfl)];exact base h3.2 ha.1 ha.2.2 (by omega)
   refine ZN hz fun n4 h4=>?_;refine ZN (AU _) fun n5 h5=>ZO ⟨?_,h4.2.mono (by omega)⟩;have e:(Qd #[105,102]).size=2:=rfl;have:=h2.1;have:=h3.1;have:=h4.1;simp only [VF,ZR,ZQ] at h5
   simp only;omega
  refine ZP (fun _=>?_) (fun _=>?_)
  ·
   have q:Tot (Ih 1 p.2) fun r=>r.1.sz<=3 * Qw d+50/\RdI r.2 (k+1+1+1+(3 * Qw d+50)):=by
    have:=Qki 1 hR (by omega) (by show k+1+1+1+400 < _;omega);refine this.mono fun r hr=>⟨?_,hr.2.mono ?_⟩
    ·have:=hr.1;change r.1.sz<=400 at this;omega
    ·show k+1+1+1+400<=_;omega
   refine ZN (Bt _) fun n1 h1=>?_;refine ZN q fun n2 h2=>?_;refine ZN (AU _) fun n3 h3=>ZO ⟨?_,h2.2.mono (by omega)⟩;have e:(Qd #[113,117,111,116,101]).size=5:=rfl;have:=h2.1;simp only [VF,ZR,ZQ] at h3
   simp only;omega
  ·refine ZN (ih hR ha0 (by omega) (by omega)) fun n2 h2=>?_;refine ZN (ih h2.2 ha0 (by omega) (by omega)) fun n3 h3=>?_;refine ZN (AU _) fun n5 h5=>ZO ⟨?_,h3.2.mono (by omega)⟩;have:=h2.1;have:=h3.1;simp only [VF,ZR,ZQ] at h5
   simp only;omega
theorem DB:∀(f:Fm),f.sz < 1099511627776->Wd f=some f:=by
 intro f
 induction f using Fm.ind with
 | h f ih =>
  intro hf;have hz:=Fm.G6 f;rw [Wd];rw [Y6 (by simp only [ZQ];omega)];simp only [QU,ZS,Qh]
  have key:∀n (i:Nat),i+n=f.kids.length->Gi f f.sc (f.kids.take i) i=some f.kids:=by
   intro n
   induction n with
   | zero =>
    intro i hi;rw [Gi,if_neg (by omega),show i=f.kids.length by omega,List.take_length];rfl
   | succ n ihn =>
    intro i hi
    have hil:i < f.kids.length:=by omega
    rw [Gi,if_pos (by omega),Yk _ i hil];simp only [ZS,Qh];rw [ih _ (ZU _) (by have:=Fm.J7 (ZU hil);omega)];simp only [Qh];rw [Y6 (by simp only [List.length_take,ZR,ZQ];omega)];simp only [Qh];rw [VV (by omega),← ZT hil];exact ihn (i+1) (by omega)
  have:=key f.kids.length 0 (by omega);simp only [List.take_zero] at this;show (Gi f f.sc [] 0>>=fun e=>pure (KU f.kind f.name f.num f.sc e))=_;have e0:((0:Nat):Int)=0:=rfl;rw [e0] at this;rw [this];cases f;rfl
theorem Qjb (f:Fm) (hf:f.sz < 1099511627776):GQ f=some f:=by
  have hz:=Fm.G6 f;rw [GQ];rw [Y6 (by simp only [ZQ];omega)];simp only [QU,ZS,Qh]
  have key:∀n (i:Nat),i+n=f.kids.length->VM f f.sc (f.kids.take i) i=some f.kids:=by
   intro n
   induction n with
   | zero =>
    intro i hi;rw [VM,if_neg (by omega),show i=f.kids.length by omega,List.take_length];rfl
   | succ n ihn =>
    intro i hi
    have hil:i < f.kids.length:=by omega
    rw [VM,if_pos (by omega),Yk _ i hil];simp only [ZS,Qh];rw [DB _ (by have:=Fm.J7 (ZU hil);omega)];simp only [Qh];rw [Y6 (by simp only [List.length_take,ZR,ZQ];omega)];simp only [Qh];rw [VV (by omega),← ZT hil];exact ihn (i+1) (by omega)
  have:=key f.kids.length 0 (by omega);simp only [List.take_zero] at this;have e0:((0:Nat):Int)=0:=rfl;rw [e0] at this;rw [this];cases f;rfl
theorem SF {α:Type} (g:α->Nat):∀(l:List α) (i:Nat) (x:α) (h:i < l.length),VF g (l.set i x)+g l[i]=VF g l+g x
 | [],i,x,h=>by simp at h
 | a :: l,0,x,h=>by simp [VF];omega
 | a :: l,i+1,x,h=>by
  simp only [List.set_cons_succ,VF,List.getElem_cons_succ];have:=SF g l i x (by simpa using h);omega
theorem Qjo {α:Type} {l:List α} {i:Int} (h0:0<=i) (h:i < l.length):Tot (idx l i) fun x=>∃hi:i.toNat < l.length,x=l[i.toNat]:=by
 rw [UL l i h0 h];exact ⟨_,rfl,by omega,rfl⟩
theorem RA:∀(f:Fm) {c:Rdr} {k:Nat},RdI c k->f.sz < 1000000000->k+3 * (f.sz+1) < 1099511627776->Tot (Hi f c) fun r=>r.1.sz<=f.sz+20/\RdI r.2 (k+3 * (f.sz+1)):=by
 intro f
 induction f using Fm.ind with
 | h f ih =>
  intro c k h hf hk;have hz:=Fm.G6 f
  have tail:∀{c:Rdr} {k:Nat} {q:Nat},RdI c k->k+2 < 1099511627776->Tot (Yv 14 c>>=fun x36 =>
   if x36.1=0 then (YX [0,4,1,3] x36.2>>=fun x41=>pure (KU x41.1 f.name f.num f.sc f.kids,x41.2))
   else if x36.1=1 then (Wa [(Qd #[]),(Qd #[65]),(Qd #[116,111,111,108,111,110,103,97,110,97,109,101,49]),(Qd #[122]),(Qd #[120,32,121])] x36.2>>=fun x47=>pure (KU f.kind x47.1 f.num f.sc f.kids,x47.2))
   else if x36.1=2 then (YX [1000,-1,5] x36.2>>=fun x53=>pure (KU f.kind f.name x53.1 f.sc f.kids,x53.2))
   else if x36.1=3 then (YX [0,100,1,50] x36.2>>=fun x61=>WT 8 f.sc [x61.1]>>=fun x63=>pure (KU f.kind f.name f.num x63 f.kids,x61.2))
   else pure (KU f.kind f.name f.num f.sc f.kids,x36.2)) fun r=>r.1.sz<=f.sz+20/\RdI r.2 (k+2):=by
   intro c k q h hk;refine ZN (Jn h (by omega) (by omega)) fun x hx=>?_;obtain ⟨_,_,hR⟩:=hx;refine ZP (fun _=>ZN (Cb hR (by omega) (by simp)) fun y hy=>ZO ⟨by simp only;rw [Dx];omega,hy.2⟩) (fun _=>?_);refine ZP (fun _=>ZN (Qbk hR (by omega) (by simp)) fun y hy=>ZO ⟨?_,hy.2⟩) (fun _=>?_)
   ·have:∀s∈[(Qd #[]),(Qd #[65]),(Qd #[116,111,111,108,111,110,103,97,110,97,109,101,49]),(Qd #[122]),(Qd #[120,32,121])],s.size<=20:=by decide
    have:=this _ hy.1
    simp only;rw [Dx];omega
   refine ZP (fun _=>ZN (Cb hR (by omega) (by simp)) fun y hy=>ZO ⟨by simp only;rw [Dx];omega,hy.2⟩) (fun _=>?_);refine ZP (fun _=>ZN (Cb hR (by omega) (by simp)) fun y hy=>?_) (fun _=>?_)
   ·refine ZN (AT (by simp only [ZR,ZQ];omega)) fun z hz'=>ZO ⟨?_,hy.2⟩;subst hz'
    simp only;rw [Dx];simp only [QX,ZR,ZQ];omega
   ·exact ZO ⟨by simp only;rw [Dx];omega,hR.mono (by omega)⟩
  rw [Hi,Qjb f (by omega)];refine ZN (p:=fun x=>x=f) ⟨f,rfl,rfl⟩ fun x hx=>?_;subst hx;refine ZP (fun hl=>?_) (fun hl=>?_)
  ·refine ZN (Jn h (by omega) (by omega)) fun p hp=>?_;refine ZP (fun _=>?_) (fun _=>?_)
   ·refine ZN (Jn hp.2.2 (by omega) (by omega)) fun q hq=>?_;refine ZN (Qjo hq.1 hq.2.1) fun g hg=>?_;obtain ⟨hi,rfl⟩:=hg;have hm:x.kids[q.1.toNat]∈x.kids:=ZU _;have:=CO ZV x.kids _ hm;refine ZN (ih _ hm hq.2.2 (by omega) (by omega)) fun g' hg'=>?_;refine ZN (H8 hq.1 hq.2.1) fun u _=>ZO ⟨?_,hg'.2.mono (by omega)⟩;have h3:=SF ZV x.kids q.1.toNat g'.1 hi;have:=hg'.1
    simp only;rw [Dx,List.length_set];omega
   ·exact (tail (q:=0) hp.2.2 (by omega)).mono fun r hr=>⟨hr.1,hr.2.mono (by omega)⟩
  ·exact (tail (q:=0) h (by omega)).mono fun r hr=>⟨hr.1,hr.2.mono (by omega)⟩
end Go.Proofs.SA
namespace Go.Proofs.SA
theorem Bw {c:Prop} [Decidable c] {o:Option Bool} (h:c->Tot o fun _=>True):Tot (if c then o else pure false) fun b=>b=true->c:=by
 refine ZP (fun hc=>(h hc).mono fun _ _ _=>hc) (fun hc=>ZO fun h=>by cases h)
theorem Qbm {c:Prop} [Decidable c] {o:Option Bool} (h:¬c->Tot o fun _=>True):Tot (if c then pure true else o) fun b=>b=false->¬c:=by
 refine ZP (fun hc=>ZO fun h=>by cases h) (fun hc=>(h hc).mono fun _ _ _=>hc)
theorem Qkg {s:ByteArray} (hs:s.size < 1099511627776):∀(n:Nat) (i:Int),0<=i->i+n=s.size->Tot (Gm s i) fun r=>i<=r/\r<=s.size:=by
 intro n
 induction n with
 | zero =>
  intro i h0 h;rw [Gm,if_neg (by omega)];exact ⟨i,rfl,by omega,by omega⟩
 | succ n ih =>
  intro i h0 h;rw [Gm];refine ZN (Bw fun hc=>ZN (Ib h0 hc) fun _ _=>ZO trivial) fun b hb=>?_;refine ZP (fun hb'=>?_) (fun _=>ZO ⟨by omega,by omega⟩);rw [Y3 (by omega) (by omega)];exact (ih (i+1) (by omega) (by omega)).mono fun r hr=>⟨by omega,hr.2⟩
theorem Es {s:ByteArray} (hs:s.size < 1099511627776) {i:Int} (h0:0<=i) (h:i<=s.size):Tot (IX s i) fun r=>i<=r/\r<=s.size:=by
 unfold IX;exact ZN (Qkg hs (s.size - i.toNat) i h0 (by omega)) fun r hr=>ZO hr
theorem Qk0 {s:ByteArray} (hs:s.size < 1099511627776):∀(n:Nat) (i:Int),0<=i->i+n=s.size->Tot (Gn s i) fun r=>i<=r/\r<=s.size:=by
 intro n
 induction n with
 | zero =>
  intro i h0 h;rw [Gn,if_neg (by omega)];exact ⟨i,rfl,by omega,by omega⟩
 | succ n ih =>
  intro i h0 h;rw [Gn];refine ZN (Bw fun hc=>ZN (Ib h0 hc) fun _ _=>ZO trivial) fun b hb=>?_;refine ZN (Bw fun hc=>ZN (Ib h0 (hb hc)) fun _ _=>ZO trivial) fun b2 hb2=>?_;refine ZN (Bw fun hc=>ZN (Ib h0 (hb (hb2 hc))) fun _ _=>ZO trivial) fun b3 hb3=>?_;refine ZN (Bw fun hc=>ZN (Ib h0 (hb (hb2 (hb3 hc)))) fun _ _=>ZO trivial) fun b4 hb4=>?_;refine ZP (fun hb'=>?_) (fun _=>ZO ⟨by omega,by omega⟩);rw [Y3 (by omega) (by omega)];exact (ih (i+1) (by omega) (by omega)).mono fun r hr=>⟨by omega,hr.2⟩
theorem Qhz {s:ByteArray} (hs:s.size < 1099511627776) {i:Int} (h0:0<=i) (h:i<=s.size):Tot (Cj s i) fun r=>i<=r/\r<=s.size:=by
 unfold Cj;exact ZN (Qk0 hs (s.size - i.toNat) i h0 (by omega)) fun r hr=>ZO hr
theorem Qdc {s:ByteArray} {x:Bool} (hs:s.size < 1099511627776):∀(n:Nat) (v i:Int),0<=i->i+n=s.size->Tot (Gh x s v i) fun _=>True:=by
 intro n
 induction n with
 | zero =>
  intro v i h0 h;rw [Gh,if_neg (by omega)];exact ⟨_,rfl,trivial⟩
 | succ n ih =>
  intro v i h0 h;rw [Gh,if_pos (by omega)];have hx:=Ib (s:=s) h0 (by omega);refine ZN hx fun a _=>?_;refine ZN (p:=fun _=>True) (ZP (fun _=>ZO trivial) (fun _=>ZN hx fun _ _=>ZO trivial)) fun b _=>?_;refine ZP (fun _=>ZO trivial) (fun _=>?_);refine ZN hx fun a _=>?_;rw [Y3 (a:=i+1) (by omega) (by omega)];exact ih _ (i+1) (by omega) (by omega)
theorem TD {s:ByteArray} (hs:s.size < 1099511627776):Tot (Bk s) fun r=>r.2=true->1<=s.size:=by
 unfold Bk;refine ZN (Bw fun hc=>ZN (Ib (by omega) (by omega)) fun _ _=>ZO trivial) fun b hb=>?_;refine ZN (p:=fun z=>z.size<=s.size) (ZP (fun hb'=>?_) (fun _=>ZO (Qt _))) fun z hz=>?_
 ·exact ZN (NG (by omega) (by have:=hb hb';omega) (by omega)) fun z hz=>ZO (by omega)
 simp only [pure_bind];refine ZN (p:=fun b=>b=false->1<=z.size) (ZP (fun hb'=>ZO fun h=>by cases h) (fun hb'=>?_)) fun b2 hb2=>?_
 ·simp only [Bool.or_eq_true,decide_eq_true_eq,not_or] at hb';refine ZN (Ib (by omega) (by omega)) fun a _=>?_
  refine ZN (p:=fun _=>True) (ZP (fun _=>ZO trivial) (fun _=>ZO trivial)) fun _ _=>ZO fun _=>by omega
 refine ZP (fun _=>ZO fun h=>by cases h) (fun hb'=>?_);have h1:=hb2 (by simpa using hb');refine ZN (Qdc (by omega) z.size 0 0 (by omega) (by omega)) fun o _=>?_
 cases o with
 | inl r=>exact ZO fun _=>by omega
 | inr e=>exact ZP (fun _=>ZO fun _=>by omega) (fun _=>ZO fun _=>by omega)
theorem Qc1 {s:ByteArray} {c:Int} (hs:s.size < 1099511627):∀(n:Nat) (z:List ByteArray) (a i:Int),0<=a->a<=i->i+n=s.size+1->z.length+n<=s.size+1->(∀x∈z,x.size<=s.size)->Tot (Jz s c z a i) fun r=>∀x∈r,x.size<=s.size:=by
 intro n
 induction n with
 | zero =>
  intro z a i h0 h1 h2 h3 h4;rw [Jz,if_neg (by omega)];exact ⟨_,rfl,h4⟩
 | succ n ih =>
  intro z a i h0 h1 h2 h3 h4;rw [Jz,if_pos (by omega)];refine ZN (Qbm fun hc=>ZN (Ib (by omega) (by omega)) fun _ _=>ZO trivial) fun b hb=>?_;rw [Y3 (a:=i+1) (by omega) (by omega)];refine ZP (fun _=>?_) (fun _=>ih z a (i+1) h0 (by omega) (by omega) (by omega) h4);refine ZN (NG h0 h1 (by omega)) fun y hy=>?_;refine ZN (AT (by simp only [ZR,ZQ];omega)) fun w hw=>?_;subst hw;refine ih _ (i+1) (i+1) (by omega) (by omega) (by omega) (by simp only [QX,ZR,ZQ];omega) fun x hx=>?_
  rcases List.mem_append.1 hx with hx | hx
  ·exact h4 x hx
  ·rw [ZI] at hx;subst hx;omega
theorem U1 {s:ByteArray} {a:Int} (hs:s.size < 1099511627776):∀(n:Nat) (i:Int),0<=i->i+n=s.size->Tot (WX s a i) fun r=>i<=r/\r<=s.size:=by
 intro n
 induction n with
 | zero =>
  intro i h0 h;rw [WX,if_neg (by omega)];exact ⟨i,rfl,by omega,by omega⟩
 | succ n ih =>
  intro i h0 h;rw [WX];refine ZN (Bw fun hc=>ZN (Ib h0 hc) fun _ _=>ZO trivial) fun b hb=>?_;refine ZP (fun hb'=>?_) (fun _=>ZO ⟨by omega,by omega⟩);rw [Y3 (by omega) (by omega)];exact (ih (i+1) (by omega) (by omega)).mono fun r hr=>⟨by omega,hr.2⟩
theorem U2 {e:Int} {l:List ByteArray} (hl:∀x∈l,x.size < 1099511627776):∀(n:Nat) (z:List Int) (i:Int),0<=i->i+n=25->z.length<=i->Tot (Gl e l z i) fun r=>match r with | .inl r=>r.2=-1/\r.1.length<=25 | .inr r=>r.length<=25:=by
 intro n
 induction n with
 | zero =>
  intro z i h0 h1 h2;rw [Gl];refine ZN (p:=fun b=>b=true->i < l.length/\i<=24) (ZO fun h=>by simpa using h) fun b hb=>?_;refine ZP (fun h=>by have:=hb h;omega) (fun _=>ZO (by simp only;omega))
 | succ n ih =>
  intro z i h0 h1 h2;rw [Gl];refine ZN (p:=fun b=>b=true->i < l.length/\i<=24) (ZO fun h=>by simpa using h) fun b hb=>?_;refine ZP (fun h=>?_) (fun _=>ZO (by simp only;omega));have:=hb h;refine ZN (H8 h0 this.1) fun x hx=>?_;refine ZN (TD (hl x hx)) fun v _=>?_;refine ZP (fun _=>ZO (by simp only;exact ⟨trivial,by omega⟩)) (fun _=>?_);refine ZN (AT (by simp only [ZR,ZQ];omega)) fun w hw=>?_;subst hw;rw [Y3 (a:=i+1) (by omega) (by omega)];exact ih _ (i+1) (by omega) (by omega) (by simp only [QX,ZR,ZQ];omega)
theorem Qke {s:ByteArray} (hs:s.size < 1099511627) {i:Int} (h0:0<=i) (h:i<=s.size):Tot (Ci s i) fun r=>r.1.length<=25/\(r.2=-1∨(i<=r.2/\r.2<=s.size)):=by
 unfold Ci;refine ZN (p:=fun b=>b=false->i < s.size/\MU s i=some 123) (ZP (fun _=>ZO fun h=>by cases h) (fun hc=>?_)) fun b hb=>?_
 ·obtain ⟨v,hv,_⟩:=Ib (s:=s) h0 (by omega);rw [hv];refine ZN (p:=fun a=>a=v) ⟨v,rfl,rfl⟩ fun a ha=>ZO fun h=>⟨by omega,?_⟩;subst ha
  have:a=123:=by simpa using h
  rw [this]
 refine ZP (fun _=>ZO ⟨by simp,.inr ⟨by simp,h⟩⟩) (fun hb'=>?_);obtain ⟨hi,hv⟩:=hb (by simpa using hb')
 have he:Tot (WX s i i) fun e=>i+1<=e/\e<=s.size:=by
  rw [WX,if_pos hi,hv];refine ZN (p:=fun b=>b=true) ⟨true,rfl,rfl⟩ fun b hb=>?_;rw [if_pos hb,Y3 (by omega) (by omega)];exact U1 (by omega) (s.size - (i+1).toNat) (i+1) (by omega) (by omega)
 refine ZN he fun e he=>?_;refine ZP (fun _=>ZO ⟨by simp,.inl rfl⟩) (fun hne=>?_);rw [Y3 (a:=i+1) (by omega) (by omega),Y3 (a:=e+1) (by omega) (by omega)];refine ZN (NG (by omega) he.1 he.2) fun x hx=>?_
 have hc:Tot (Cf x 44) fun r=>∀y∈r,y.size<=x.size:=by
  unfold Cf;exact ZN (Qc1 (by omega) (x.size+1) [] 0 0 (by omega) (by omega) (by omega) (by simp) (by simp)) fun r hr=>ZO hr
 refine ZN hc fun r hr=>?_;refine ZN (U2 (fun y hy=>by have:=hr y hy;omega) 25 [] 0 (by omega) (by omega) (by simp)) fun o ho=>?_
 cases o with
 | inl r=>exact ZO ⟨ho.2,.inl ho.1⟩
 | inr r=>exact ZO ⟨ho,.inr ⟨by simp only;omega,by simp only;omega⟩⟩
theorem R7 {s:ByteArray} (h:s.size=0):s=Qd #[]:=by
 obtain ⟨⟨l⟩⟩:=s
 congr
 simpa [ByteArray.size] using h
def Qo8 (s:ByteArray) (i:Int) (r:Fm × Int):Prop:=r.2=-1∨(i < r.2/\r.2<=s.size/\(r.1.sz:Int)+1<=27 * (r.2 - i))
theorem Qi5 {s:ByteArray} (hs:s.size < 1099511627) {i:Int} (h0:0<=i) (h:i<=s.size):Tot (Ch s i) (Qo8 s i):=by
 unfold Ch;refine ZN (Qhz (by omega) h0 h) fun j hj=>?_;refine ZN (NG h0 hj.1 hj.2) fun w hw=>?_;refine ZN (TD (by omega)) fun v hv=>?_;refine ZP (fun hb=>?_) (fun _=>?_)
 ·have:=hv hb;refine ZO (.inr ⟨by simp only;omega,by simp only;omega,?_⟩)
  simp only;rw [Dx];show ((0+0+0+0:Nat):Int)+1<=_;omega
 refine ZP (fun _=>ZO (.inl rfl)) (fun hne=>?_)
 have hj1:i < j:=by
  rcases Int.lt_or_le i j with h1 | h1
  ·exact h1
  ·exact absurd (R7 (s:=w) (by omega)) hne
 refine ZN (Qke hs (by omega) hj.2) fun t ht=>ZO ?_
 rcases ht.2 with h2 | h2
 ·exact .inl h2
 ·refine .inr ⟨by simp only;omega,h2.2,?_⟩
  simp only;rw [Dx]
  have:=ht.1;show ((w.size+t.1.length+0+0:Nat):Int)+1<=_;omega
theorem Qj7 {s:ByteArray} (hs:s.size < 1099511627):∀(d:Nat),d < 1000->∀(i:Int),0<=i->i<=s.size->Tot (IW s i d) (Qo8 s i):=by
 intro d
 induction d with
 | zero =>
  intro _ i h0 h;rw [IW];refine ZN (Es (by omega) h0 h) fun j hj=>?_;refine ZN (p:=fun b=>b=true) (ZO (by simp)) fun b hb=>?_;rw [if_pos hb];exact ZO (.inl rfl)
 | succ d ih =>
  intro hd i h0 h
  have loop:∀(n:Nat) (z:List Fm) (a:Int) (j:Int),0<=a->a<=j->j+n=s.size->z.length<=400->(VF ZV z:Int)+z.length<=27 * (j - a)->Tot (Iy s ((d+1:Nat):Int) z j) fun o=>match o with | .inl r=>r.2=-1 | .inr r=>a<=r.2/\r.2<=s.size/\(VF ZV r.1:Int)+r.1.length<=27 * (r.2 - a):=by
   intro n
   induction n using Nat.strongRecOn with
   | _ n ihn =>
    intro z a j ha haj hj hz hsz;rw [Iy];refine ZN (Bw fun hc=>ZN (Ib (by omega) hc) fun _ _=>ZO trivial) fun b hb=>?_;refine ZN (p:=fun b'=>b'=true->b=true/\(z.length:Int) < 400) (ZO fun h=>by simpa using h) fun b' hb'=>?_;refine ZP (fun hbt=>?_) (fun _=>ZO (by simp only;exact ⟨haj,by omega,hsz⟩));obtain ⟨h1,h2⟩:=hb' hbt;have h3:=hb h1;rw [Y3 (by omega) (by omega),show ((d+1:Nat):Int) - 1=(d:Int) by omega];refine ZN (ih (by omega) j (by omega) (by omega)) fun x hx=>?_;refine ZP (fun _=>ZO (by simp only)) (fun hx0=>?_)
    rcases hx with hx | hx
    ·omega
    refine ZN (AT (by simp only [ZR,ZQ];omega)) fun w hw=>?_;subst hw;refine ZN (Es (by omega) (by omega) hx.2.1) fun k hk=>?_;refine ihn (s.size - k.toNat) (by omega) _ a k ha (by omega) (by omega) (by simp only [QX,ZR,ZQ];omega) ?_;simp only [EY,VF,QX,ZR,ZQ];omega
  rw [IW];refine ZN (Es (by omega) h0 h) fun j hj=>?_;refine ZN (p:=fun b=>b=false->j < s.size) (ZO fun h=>by simp at h;omega) fun b hb=>?_;refine ZP (fun _=>ZO (.inl rfl)) (fun hb'=>?_);have hjs:=hb (by simpa using hb');refine ZN (Ib (by omega) hjs) fun c _=>?_;refine ZP (fun _=>?_) (fun _=>?_)
  ·rw [Y3 (a:=j+1) (by omega) (by omega)];refine ZN (Es (by omega) (by omega) (by omega)) fun k hk=>?_;refine ZN (loop (s.size - k.toNat) [] k k (by omega) (by omega) (by omega) (by simp) (by simp [VF])) fun o ho=>?_
   cases o with
   | inl r=>exact ZO (.inl ho)
   | inr r =>
    obtain ⟨r1,r2⟩:=r;simp only at ho ⊢;refine ZN (Qbm fun hc=>ZN (Ib (by omega) (by omega)) fun _ _=>ZO trivial) fun b hb=>?_;refine ZP (fun _=>ZO (.inl rfl)) (fun hb'=>?_);have:=hb (by simpa using hb');rw [Y3 (a:=r2+1) (by omega) (by omega)];refine ZO (.inr ⟨by simp only;omega,by simp only;omega,?_⟩)
    simp only;rw [Dx]
    show ((0+0+r1.length+VF ZV r1:Nat):Int)+1<=_;omega
  ·refine ZN (Qi5 hs (by omega) (by omega)) fun x hx=>ZO ?_
   rcases hx with hx | hx
   ·exact .inl hx
   ·exact .inr ⟨by simp only;omega,hx.2.1,by have:=hx.2.2;simp only;omega⟩
end Go.Proofs.SA
namespace Go.Proofs.SA
theorem Qc8 (c:Int) (b:Bool):Tot (Ig c b) fun _=>True:=by
 unfold Ig;simp only [pure_bind];refine ZP (fun _=>ZO trivial) (fun _=>?_);exact ZN (p:=fun _=>True) (ZP (fun _=>ZO trivial) (fun _=>ZO trivial)) fun _ _=>ZO trivial
theorem M8 {s:ByteArray} : ∀(n:Nat) (i:Int),0<=i->i+n=13->Tot (VR s i) fun _=>True:=by
 intro n
 induction n with
 | zero =>
  intro i h0 h;rw [VR];refine ZN (p:=fun b=>b=true->i < s.size/\i<=12) (ZO fun h=>by simpa using h) fun b hb=>?_;exact ZP (fun h=>by have:=hb h;omega) (fun _=>ZO trivial)
 | succ n ih =>
  intro i h0 h;rw [VR];refine ZN (p:=fun b=>b=true->i < s.size/\i<=12) (ZO fun h=>by simpa using h) fun b hb=>?_;refine ZP (fun h=>?_) (fun _=>ZO trivial);have:=hb h;refine ZN (Ib h0 this.1) fun c _=>?_;refine ZN (Qc8 _ _) fun v _=>?_;refine ZP (fun _=>ZO trivial) (fun _=>?_);rw [Y3 (by omega) (by omega)];exact ih _ (by omega) (by omega)
theorem Sk (s:ByteArray):Tot (Jy s) fun _=>True:=by
 unfold Jy;refine ZN (p:=fun _=>True) (ZO trivial) fun _ _=>?_;refine ZP (fun _=>ZO trivial) (fun _=>?_);refine ZN (M8 13 0 (by omega) (by omega)) fun o _=>?_
 cases o with
 | inl r=>exact ZO trivial
 | inr r=>exact ZN (p:=fun _=>True) (ZO trivial) fun _ _=>ZO trivial
theorem Sr {l:List Int} : ∀(n:Nat) (i:Int),0<=i->i+n=25->Tot (VY l i) fun _=>True:=by
 intro n
 induction n with
 | zero =>
  intro i h0 h;rw [VY];refine ZN (p:=fun b=>b=true->i < l.length/\i<=24) (ZO fun h=>by simpa using h) fun b hb=>?_;exact ZP (fun h=>by have:=hb h;omega) (fun _=>ZO trivial)
 | succ n ih =>
  intro i h0 h;rw [VY];refine ZN (p:=fun b=>b=true->i < l.length/\i<=24) (ZO fun h=>by simpa using h) fun b hb=>?_;refine ZP (fun h=>?_) (fun _=>ZO trivial);have hi:=(hb h).1;have hx:=H8 h0 hi;refine ZN hx fun x _=>?_;refine ZN (p:=fun _=>True) (ZP (fun _=>ZO trivial) (fun _=>ZN hx fun _ _=>ZO trivial)) fun _ _=>?_;refine ZN (p:=fun _=>True) (ZP (fun _=>ZO trivial) (fun _=>?_)) fun _ _=>?_
  ·refine ZN (p:=fun _=>True) (ZP (fun h1=>?_) (fun _=>ZO trivial)) fun _ _=>ZO trivial;rw [Y3 (by omega) (by omega)];exact ZN hx fun _ _=>ZN (H8 (by omega) (by omega)) fun _ _=>ZO trivial
  refine ZP (fun _=>ZO trivial) (fun _=>?_);rw [Y3 (by omega) (by omega)];exact ih _ (by omega) (by omega)
theorem Qdq (l:List Int):Tot (Hj l) fun _=>True:=by
 unfold Hj;refine ZN (Sr 25 0 (by omega) (by omega)) fun o _=>?_
 cases o with
 | inl r=>exact ZO trivial
 | inr r=>exact ZO trivial
theorem pb {α:Type} {b:Bool} {k:Bool->Option α} {p:α->Prop} (h:∀b,Tot (k b) p):Tot ((pure b:Option Bool)>>=k) p:=h b
theorem Qqs:∀(d:Nat),d < 1000->∀(f:Fm),f.sz < 1099511627776->Tot (Is f d) fun _=>True:=by
 intro d
 induction d with
 | zero=>intro _ f _;rw [Is,if_pos (by rfl)];exact ZO trivial
 | succ d ih =>
  intro hd f hf;have hz:=Fm.G6 f
  have loop:∀(n:Nat) (i:Int),0<=i->i+n=f.kids.length->Tot (Gk f ((d+1:Nat):Int) i) fun _=>True:=by
   intro n
   induction n with
   | zero=>intro i h0 h;rw [Gk,if_neg (by omega)];exact ZO trivial
   | succ n ihn =>
    intro i h0 h;rw [Gk,if_pos (by omega)];refine ZN (H8 h0 (by omega)) fun g hg=>?_;rw [Y3 (by omega) (by omega),Y3 (by omega) (by omega),show ((d+1:Nat):Int) - 1=(d:Int) by omega];refine ZN (ih (by omega) g (by have:=Fm.J7 hg;omega)) fun b _=>?_;exact ZP (fun _=>ZO trivial) (fun _=>ihn (i+1) (by omega) (by omega))
  rw [Is,if_neg (by omega)];refine ZP (fun _=>?_) (fun _=>?_)
  ·refine ZN (Sk _) fun _ _=>pb fun b=>?_;refine ZN (p:=fun _=>True) (ZP (fun _=>ZN (Qdq _) fun _ _=>ZO trivial) (fun _=>ZO trivial)) fun _ _=>pb fun _=>ZO trivial
  refine ZP (fun _=>pb fun _=>pb fun _=>pb fun _=>pb fun _=>ZO trivial) (fun _=>?_);refine pb fun _=>pb fun _=>pb fun _=>?_;refine ZP (fun _=>ZO trivial) (fun _=>?_);refine ZN (loop f.kids.length 0 (by omega) (by omega)) fun o _=>?_
  cases o with
  | inl r=>exact ZO trivial
  | inr r=>exact ZO trivial
theorem Qf1:∀(f:Fm),f.sz < 1099511627776->Tot (Gj f) fun _=>True:=by
 intro f
 induction f using Fm.ind with
 | h f ih =>
  intro hf;have hz:=Fm.G6 f
  have loop:∀(n:Nat) (v i:Int),0<=i->i+n=f.kids.length->Tot (WA f v i) fun _=>True:=by
   intro n
   induction n with
   | zero=>intro v i h0 h;rw [WA,if_neg (by omega)];exact ZO trivial
   | succ n ihn =>
    intro v i h0 h;rw [WA,if_pos (by omega)];refine ZN (H8 h0 (by omega)) fun g hg=>?_;refine ZN (ih g hg (by have:=Fm.J7 hg;omega)) fun b _=>?_;rw [Y3 (a:=i+1) (by omega) (by omega)];exact ihn _ (i+1) (by omega) (by omega)
  rw [Gj];exact ZN (loop f.kids.length 1 0 (by omega) (by omega)) fun _ _=>ZO trivial
theorem Sc {f:Fm} (hf:f.sz < 1099511627776):Tot (YW f) fun _=>True:=by
 unfold YW;refine ZN (Qqs 40 (by omega) f hf) fun _ _=>?_;exact ZN (p:=fun _=>True) (ZP (fun _=>ZN (Qf1 f hf) fun _ _=>ZO trivial) (fun _=>ZO trivial)) fun _ _=>ZO trivial
theorem So {s:ByteArray} (hs:s.size < 1099511627):Tot (Al s) fun r=>r.1.sz<=27 * s.size:=by
 unfold Al;refine ZN (Qj7 hs 40 (by omega) 0 (by omega) (by omega)) fun x hx=>?_;refine ZN (p:=fun b=>b=false->0<=x.2) (ZP (fun _=>ZO fun h=>by cases h) (fun h=>?_)) fun b hb=>?_
 ·have h2:x.2<=s.size:=by rcases hx with hx | hx<;>omega
  exact ZN (Es (by omega) (by omega) h2) fun _ _=>ZO fun _=>by omega
 have hsz:0<=x.2->x.1.sz<=27 * s.size:=fun h=>by
  rcases hx with hx | hx
  ·omega
  ·have:=hx.2.1;have:=hx.2.2;omega
 refine ZN (p:=fun b'=>b'=false->0<=x.2) (ZP (fun _=>ZO fun h=>by cases h) (fun h=>?_)) fun b' hb'=>?_
 ·have h0:=hb (by simpa using h);exact ZN (Sc (by have:=hsz h0;omega)) fun _ _=>ZO fun _=>h0
 refine ZP (fun _=>ZO ?_) (fun h=>ZO (hsz (hb' (by simpa using h))))
 simp only;rw [Dx];show 0+0+0+0<=_;omega
theorem TK {s:ByteArray} (hs:s.size<=1000):Tot (AE s) fun r=>r.sz<=27000:=by
 unfold AE;exact ZN (So (by omega)) fun r hr=>ZO (by omega)
theorem Qdw:Tot CN fun l=>1<=l.length/\∀s∈l,s.size<=1000:=⟨_,rfl,by decide,by decide⟩
theorem Qf8 {c:Rdr} {k:Nat} (h:RdI c k) (hk:k < 1000000000):Tot (Cq c) fun r=>r.1.sz<=1000000/\RdI r.2 (k+1000000):=by
 unfold Cq;refine ZN Qdw fun l hl=>?_;refine ZN (Jn h (by omega) (by omega)) fun x hx=>?_;refine ZP (fun _=>?_) (fun _=>?_)
 ·refine ZN (Jn hx.2.2 (by omega) (by omega)) fun y hy=>?_;refine ZN (H8 hy.1 hy.2.1) fun s hs=>?_;exact ZN (TK (hl.2 s hs)) fun r hr=>ZO ⟨by simp only;omega,hy.2.2.mono (by omega)⟩
 refine ZN (Cb hx.2.2 (by omega) (by simp)) fun d hd=>?_
 have hd':d.1=4∨d.1=3∨d.1=2:=by simpa using hd.1
 have hdn:∃n:Nat,n<=4/\d.1=(n:Int):=by
  rcases hd' with h | h | h
  ·exact ⟨4,by omega,h⟩
  ·exact ⟨3,by omega,h⟩
  ·exact ⟨2,by omega,h⟩
 obtain ⟨n,hn,hdn⟩:=hdn
 have hq:Qw n<=256000:=by
  have:Qw n<=Qw 4:=by
   unfold Qw;exact Nat.mul_le_mul_left _ (Nat.pow_le_pow_right (by omega) hn)
  exact this
 rw [hdn];refine ZN (Qhl n hd.2 ⟨by simp,by simp;omega,by decide⟩ (by omega) (by omega)) fun v hv=>?_;refine ZN (Jn hv.2 (by omega) (by omega)) fun u hu=>?_;refine ZP (fun _=>?_) (fun _=>ZO ⟨by have:=hv.1;simp only;omega,hu.2.2.mono (by omega)⟩);refine ZN (TK (by decide)) fun r hr=>?_;refine ZN (Bt _) fun n1 h1=>?_;refine ZN (Bt _) fun n2 h2=>?_;refine ZN (AU _) fun n3 h3=>?_;refine ZN (AU _) fun n4 h4=>?_;refine ZN (AU _) fun n5 h5=>ZO ⟨?_,hu.2.2.mono (by omega)⟩;have e1:(Qd #[108,101,116,45,115,121,110,116,97,120]).size=10:=rfl;have e2:(Qd #[103]).size=1:=rfl;have:=hv.1;simp only [VF,ZR,ZQ] at h3 h4 h5
 simp only;omega
end Go.Proofs.SA
