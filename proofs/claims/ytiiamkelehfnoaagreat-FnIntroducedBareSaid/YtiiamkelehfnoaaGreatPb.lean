/- The draws yield something: the reader, copies, mutations, drawn forms. Imports the plain functions of a seat (gen2). -/
import Derived.Test.YtiiamkelehfnoaaGreatPa
import Derived.Test.YtiiamkelehfnoaaGreatibD
set_option linter.unusedVariables false
set_option linter.unusedSimpArgs false
set_option maxRecDepth 100000
open Go Go.Proofs Go.Proofs.Shadow
open Tot renaming bind → ZK, pure → ZL, ite → ZM
open _root_.List renaming length_nil → ZN, length_cons → ZO, length_append → QV, take_succ_eq_append_getElem → ZQ, getElem_mem → ZR, nil_append → QS, mem_singleton → ZS
open _root_.ByteArray renaming mk → Qk
open _root_.Option renaming bind_some → Qf, bind_eq_bind → ZP
open Fm renaming mk → KS, sz → ZT
open _root_.Nat renaming le_refl → Qt
open Go.IntKind (i64)
namespace Go.Proofs.SA
def RdI (c:Rdr) (k:Nat):Prop:=c.b.length<=2000/\(∀x∈c.b,0<=x/\x < 256)/\0<=c.p/\c.p<=k
theorem RdI.mono {c:Rdr} {k k':Nat} (h:RdI c k) (hk:k<=k'):RdI c k':=⟨h.1,h.2.1,h.2.2.1,by have:=h.2.2.2;omega⟩
theorem ED {l:List Int} (h:∀x∈l,0<=x/\x < 256):Tot (Gg l) fun c=>RdI c 0:=by
 unfold Gg;refine ZM (fun hc=>?_) (fun hc=>?_)
 ·refine ZK (Qfs (by omega) (by omega) (by omega)) fun z hz=>ZL ⟨by have:=hz.1;simp only;omega,fun x hx=>h x (hz.2 x hx),by simp,by simp⟩
 ·exact ZL ⟨by simp only;omega,h,by simp,by simp⟩
theorem WW {c:Rdr} {k:Nat} {n:Int} (h:RdI c k) (hk:k < 1099511627776) (h1:1<=n):Tot (Yq n c) fun r=>0<=r.1/\r.1 < n/\RdI r.2 (k+1):=by
 obtain ⟨hb,hx,hp0,hpk⟩:=h;unfold Yq;have w1:i64.wrap (c.p+1)=c.p+1:=YP (by omega) (by omega)
 have w2:i64.wrap (c.p+1 - 1)=c.p:=by rw [YP (by omega) (by omega)];omega
 simp only [w1,w2,pure_bind];have hR:RdI ⟨c.b,c.p+1⟩ (k+1):=⟨hb,hx,by simp only;omega,by simp only;omega⟩;refine ZM (fun hc=>ZL ⟨by simp,by simp only;omega,hR⟩) (fun hc=>?_);simp only [Bool.or_eq_true,decide_eq_true_eq,not_or] at hc;refine ZM (fun hl=>?_) (fun hl=>?_)
 ·refine ZK (IC hp0 hl) fun x hm=>?_;have:=hx x hm;rw [YP (a:=x) (by omega) (by omega)];exact ZK (LI (by omega) h1) fun y hy=>ZL ⟨hy.1,hy.2,hR⟩
 ·refine ZK (LI hp0 (by omega)) fun i hi=>?_;refine ZK (IC hi.1 hi.2) fun x hm=>?_;have h2:=hx x hm
  have w3:i64.wrap (i64.wrap (c.p * 7)+3)=c.p * 7+3:=by rw [YP (a:=c.p * 7) (by omega) (by omega),YP (by omega) (by omega)]
  rw [w3];refine ZK (LI (by omega) (by omega)) fun j hj=>?_;refine ZK (IC hj.1 hj.2) fun y hm2=>?_;have h3:=hx y hm2;refine ZK (Qfl hp0 (by omega) (by omega)) fun q hq=>?_
  have e:i64.wrap (i64.wrap (i64.wrap (i64.wrap (i64.wrap x * 131)+i64.wrap (i64.wrap y * 1117))+i64.wrap (c.p * 29))+i64.wrap (q * 53))=x * 131+y * 1117+c.p * 29+q * 53:=by
   rw [YP (a:=x) (by omega) (by omega),YP (a:=y) (by omega) (by omega),YP (a:=x * 131) (by omega) (by omega),YP (a:=y * 1117) (by omega) (by omega),YP (a:=c.p * 29) (by omega) (by omega),YP (a:=q * 53) (by omega) (by omega),YP (a:=x * 131+y * 1117) (by omega) (by omega),YP (a:=x * 131+y * 1117+c.p * 29) (by omega) (by omega),YP (by omega) (by omega)]
  rw [e];generalize hv:x * 131+y * 1117+c.p * 29+q * 53=v
  have v0:0<=v:=by omega
  have v1:v < 1099511627776000:=by omega
  have d0:0<=v.tdiv 64:=Int.tdiv_nonneg v0 (by omega);have d1:v.tdiv 64<=v:=Int.tdiv_le_self _ v0;rw [YP (a:=v.tdiv 64) (by omega) (by omega)];have:=Qer v0 (by omega) d0 (by omega);exact ZK (LI this.1 h1) fun z hz=>ZL ⟨hz.1,hz.2,hR⟩
theorem C6 {c:Rdr} {k:Nat} {l:List Int} (h:RdI c k) (hk:k < 1099511627776) (hl:1<=l.length):Tot (YM l c) fun r=>r.1∈l/\RdI r.2 (k+1):=by
 unfold YM;refine ZK (WW h hk (by omega)) fun x hx=>?_;exact ZK (IC hx.1 hx.2.1) fun y hy=>ZL ⟨hy,hx.2.2⟩
theorem Qc0 {c:Rdr} {k:Nat} {l:List ByteArray} (h:RdI c k) (hk:k < 1099511627776) (hl:1<=l.length):Tot (Wv l c) fun r=>r.1∈l/\RdI r.2 (k+1):=by
 unfold Wv;refine ZK (WW h hk (by omega)) fun x hx=>?_;exact ZK (IC hx.1 hx.2.1) fun y hy=>ZL ⟨hy,hx.2.2⟩
theorem CP (k:Int) (s:ByteArray) (n:Int) (sc:List Int) (ks:List Fm):(KS k s n sc ks).sz=s.size+sc.length+ks.length+Y7 ZT ks:=by rw [Fm.Jt];rfl
theorem Av (s:ByteArray):Tot (VD s) fun f=>f.sz=s.size:=⟨_,rfl,by simp only;rw [CP];simp [Y7]⟩
theorem Aa (l:List Fm):Tot (Ww l) fun f=>f.sz=l.length+Y7 ZT l:=⟨_,rfl,by simp only;rw [CP];show 0+0+_+_=_;omega⟩
def Pw (d:Nat):Nat:=100 * 4 ^ d
theorem Qh1 (d:Nat):Pw (d+1)=4 * Pw d:=by simp only [Pw,Nat.pow_succ];omega
theorem Qdx (d:Nat):100<=Pw d:=by simp only [Pw];have:0 < 4 ^ d:=Nat.pow_pos (by omega);omega
def Qcy:List ByteArray:=[(Qk #[97]),(Qk #[98]),(Qk #[120]),(Qk #[121]),(Qk #[102]),(Qk #[105,102]),(Qk #[108,101,116]),(Qk #[43])]
theorem TE:∀(d:Nat) {c:Rdr} {k:Nat},RdI c k->d < 20->k+Pw d < 1099511627776->Tot (GD d c) fun r=>r.1.sz<=Pw d/\RdI r.2 (k+Pw d):=by
 have base:∀{c:Rdr} {k n:Nat} {p:Int->Prop} {q:ByteArray->Prop},RdI c k->100<=n->k+n < 1099511627776+1->Tot (Yq 4 c>>=fun x=>if x.1=0 then (YM [0,1,2,7,42,999] x.2>>=fun y=>pure (KS 2 (Qk #[]) y.1 [] [],y.2)) else (Wv Qcy x.2>>=fun y=>VD y.1>>=fun z=>pure (z,y.2))) fun r=>r.1.sz<=100/\RdI r.2 (k+2):=by
  intro c k n p q h hn hk;refine ZK (WW h (by omega) (by omega)) fun x hx=>?_;refine ZM (fun _=>?_) (fun _=>?_)
  ·exact ZK (C6 hx.2.2 (by omega) (by simp)) fun y hy=>ZL ⟨by simp only;rw [CP];show 0+0+0+0<=100;omega,hy.2⟩
  ·refine ZK (Qc0 hx.2.2 (by omega) (by simp [Qcy])) fun y hy=>?_;refine ZK (Av _) fun z hz=>ZL ⟨?_,hy.2⟩
   have:∀s∈Qcy,s.size<=100:=by decide
   simp only;rw [hz];exact this _ hy.1
 intro d
 induction d with
 | zero =>
  intro c k h hd hk;rw [GD];rw [if_pos (by rfl)];exact (base (p:=fun _=>True) (q:=fun _=>True) h (Qt 100) (by have:=Qdx 0;omega)).mono fun r hr=>⟨by have:=Qdx 0;omega,hr.2.mono (by have:=Qdx 0;omega)⟩
 | succ d ih =>
  intro c k h hd hk;have hp:=Qdx d;have hs:=Qh1 d
  have loop:∀(n:Nat) {z:List Fm} {b:List Int} {p:Int} {k:Nat},n<=3->z.length+n<=3->RdI ⟨b,p⟩ k->k+n * Pw d < 1099511627776->Tot (GF ((d+1:Nat):Int) z n b p) fun r=>r.1.length<=z.length+n/\Y7 ZT r.1<=Y7 ZT z+n * Pw d/\RdI ⟨r.2.1,r.2.2⟩ (k+n * Pw d):=by
   intro n
   induction n with
   | zero =>
    intro z b p k _ _ h _;rw [GF,if_neg (by omega)];exact ZL ⟨by simp,by simp,by simpa using h⟩
   | succ n ihn =>
    intro z b p k hn hz h hk;rw [Nat.succ_mul] at hk;rw [GF,if_pos (by omega)]
    have w1:i64.wrap (((d+1:Nat):Int) - 1)=(d:Int):=by rw [YP (by omega) (by omega)];omega
    have w2:i64.wrap (((n+1:Nat):Int) - 1)=(n:Int):=by rw [YP (by omega) (by omega)];omega
    rw [w1,w2];refine ZK (ih h (by omega) (by omega)) fun x hx=>?_;refine ZK (BD (by simp only [ZO,ZN];omega)) fun y hy=>?_;subst hy;refine (ihn (by omega) (by simp only [QV,ZO,ZN];omega) hx.2 (by omega)).mono fun r hr=>?_;obtain ⟨r1,r2,r3⟩:=hr;simp only [QV,ZO,ZN,Dz,Y7] at r1 r2;rw [Nat.succ_mul];exact ⟨by omega,by have:=hx.1;omega,r3.mono (by omega)⟩
  rw [GD,if_neg (by omega)];refine ZK (WW h (by omega) (by omega)) fun x hx=>?_;refine ZM (fun _=>?_) (fun _=>?_)
  ·exact (base (p:=fun _=>True) (q:=fun _=>True) hx.2.2 (Qt 100) (by omega)).mono fun r hr=>⟨by omega,hr.2.mono (by omega)⟩
  ·refine ZK (WW hx.2.2 (by omega) (by omega)) fun y hy=>?_;obtain ⟨m,hm⟩:=Int.eq_ofNat_of_zero_le hy.1
   have hm3:m<=3:=by have:=hy.2.1;omega
   have hmul:m * Pw d<=3 * Pw d:=Nat.mul_le_mul_right _ hm3;rw [hm];refine ZK (loop m hm3 (by simp;omega) hy.2.2 (by omega)) fun r hr=>?_;obtain ⟨r1,r2,r3⟩:=hr;simp only [ZN,Y7] at r1 r2;refine ZL ⟨?_,r3.mono (by omega)⟩
   simp only;rw [CP]
   show 0+0+_+_<=_;omega
end Go.Proofs.SA
namespace Go.Proofs.SA
def Qw (d:Nat):Nat:=1000 * 4 ^ d
theorem Qh2 (d:Nat):Qw (d+1)=4 * Qw d:=by simp only [Qw,Nat.pow_succ];omega
theorem Qlb (d:Nat):1000<=Qw d:=by simp only [Qw];have:0 < 4 ^ d:=Nat.pow_pos (by omega);omega
def NmI (l:List ByteArray) (d:Nat):Prop:=1<=l.length/\l.length+d<=1000/\∀s∈l,s.size<=10
theorem Qdg:∀(d:Nat) {a:List ByteArray} {c:Rdr} {k:Nat},RdI c k->NmI a d->d < 20->k+Qw d < 1099511627776->Tot (VF a d c) fun r=>r.1.sz<=Qw d/\RdI r.2 (k+Qw d):=by
 have base:∀{a:List ByteArray} {c:Rdr} {k:Nat},RdI c k->1<=a.length->(∀s∈a,s.size<=10)->k+99 < 1099511627776->Tot (Yq 3 c>>=fun x=>if x.1=0 then (YM [0,1,2,7] x.2>>=fun y=>pure (KS 2 (Qk #[]) y.1 [] [],y.2)) else (Yq (a.length:Int) x.2>>=fun y=>idx a y.1>>=fun u=>VD u>>=fun z=>pure (z,y.2))) fun r=>r.1.sz<=100/\RdI r.2 (k+2):=by
  intro a c k h ha hs hk;refine ZK (WW h (by omega) (by omega)) fun x hx=>?_;refine ZM (fun _=>?_) (fun _=>?_)
  ·exact ZK (C6 hx.2.2 (by omega) (by simp)) fun y hy=>ZL ⟨by simp only;rw [CP];show 0+0+0+0<=100;omega,hy.2⟩
  ·refine ZK (WW hx.2.2 (by omega) (by omega)) fun y hy=>?_;refine ZK (IC hy.1 hy.2.1) fun u hu=>?_;refine ZK (Av _) fun z hz=>ZL ⟨?_,hy.2.2⟩;have:=hs u hu
   simp only;omega
 intro d
 induction d with
 | zero =>
  intro a c k h ha hd hk;have:=Qlb 0;rw [VF,if_pos (by rfl)];exact (base h ha.1 ha.2.2 (by omega)).mono fun r hr=>⟨by omega,hr.2.mono (by omega)⟩
 | succ d ih =>
  intro a c k h ha hd hk;have hp:=Qlb d;have hs:=Qh2 d
  have w1:i64.wrap (((d+1:Nat):Int) - 1)=(d:Int):=by rw [YP (by omega) (by omega)];omega
  rw [VF,if_neg (by omega)];simp only [w1];refine ZK (WW h (by omega) (by omega)) fun x hx=>?_;refine ZM (fun _=>?_) (fun _=>?_)
  ·exact (base hx.2.2 ha.1 ha.2.2 (by omega)).mono fun r hr=>⟨by omega,hr.2.mono (by omega)⟩
  refine ZK (Qc0 hx.2.2 (by omega) (by simp)) fun v hv=>?_
  have hv10:v.1.size<=10:=by
   have:∀s∈[(Qk #[120]),(Qk #[121]),(Qk #[116])],s.size<=10:=by decide
   exact this _ hv.1
  refine ZK (BD (by have:=ha.2.1;simp only [ZN];omega)) fun y hy=>?_;rw [QS] at hy;rw [hy];refine ZK (BD (by have:=ha.2.1;simp only [ZN,ZO];omega)) fun y hy=>?_;subst hy;have ha0:NmI a d:=⟨ha.1,by have:=ha.2.1;omega,ha.2.2⟩
  have ha2:NmI (a++[v.1]) d:=⟨by simp,by have:=ha.2.1;simp;omega,fun s hs=>by
   simp only [List.mem_append,ZS] at hs
   rcases hs with hs | rfl
   ·exact ha.2.2 s hs
   ·exact hv10⟩
  refine ZK (WW hv.2 (by omega) (by omega)) fun p hp'=>?_;obtain ⟨p0,p8,hR⟩:=hp';refine ZK (p:=fun _=>True) (ZM (fun _=>ZL trivial) (fun _=>ZL trivial)) fun b _=>?_;refine ZM (fun _=>?_) (fun _=>?_)
  ·
   refine ZK (Av _) fun n1 h1=>?_;refine ZK (Av _) fun n2 h2=>?_;refine ZK (Aa _) fun n3 h3=>?_;refine ZK (ih hR ha2 (by omega) (by omega)) fun n4 h4=>?_;refine ZK (Aa _) fun n5 h5=>ZL ⟨?_,h4.2.mono (by omega)⟩;have e:(Qk #[108,97,109,98,100,97]).size=6:=rfl;have:=h4.1;simp only [Y7,ZO,ZN] at h3 h5
   simp only;omega
  refine ZK (p:=fun _=>True) (ZM (fun _=>ZL trivial) (fun _=>ZL trivial)) fun b _=>?_;refine ZM (fun _=>?_) (fun _=>?_)
  ·
   refine ZK (Av _) fun n1 h1=>?_;refine ZK (ih hR ha0 (by omega) (by omega)) fun n2 h2=>?_;refine ZK (Aa _) fun n3 h3=>?_;refine ZK (Av _) fun n4 h4=>?_;refine ZK (Aa _) fun n5 h5=>?_;refine ZK (ih h2.2 ha2 (by omega) (by omega)) fun n6 h6=>?_;refine ZK (Aa _) fun n7 h7=>ZL ⟨?_,h6.2.mono (by omega)⟩;have e:(Qk #[108,101,116]).size=3:=rfl;have:=h2.1;have:=h6.1;simp only [Y7,ZO,ZN] at h3 h5 h7
   simp only;omega
  refine ZM (fun _=>?_) (fun _=>?_)
  ·
   refine ZK (Av _) fun n1 h1=>?_;refine ZK (ih hR ha0 (by omega) (by omega)) fun n2 h2=>?_;refine ZK (ih h2.2 ha0 (by omega) (by omega)) fun n3 h3=>?_
   have hz:Tot (VF a 0 n3.2) fun r=>r.1.sz<=100/\RdI r.2 (k+1+1+1+Qw d+Qw d+2):=by
    rw [VF,if_pos (by rfl)];exact base h3.2 ha.1 ha.2.2 (by omega)
   refine ZK hz fun n4 h4=>?_;refine ZK (Aa _) fun n5 h5=>ZL ⟨?_,h4.2.mono (by omega)⟩;have e:(Qk #[105,102]).size=2:=rfl;have:=h2.1;have:=h3.1;have:=h4.1;simp only [Y7,ZO,ZN] at h5
   simp only;omega
  refine ZM (fun _=>?_) (fun _=>?_)
  ·
   have q:Tot (GD 1 p.2) fun r=>r.1.sz<=3 * Qw d+50/\RdI r.2 (k+1+1+1+(3 * Qw d+50)):=by
    have:=TE 1 hR (by omega) (by show k+1+1+1+400 < _;omega);refine this.mono fun r hr=>⟨?_,hr.2.mono ?_⟩
    ·have:=hr.1;change r.1.sz<=400 at this;omega
    ·show k+1+1+1+400<=_;omega
   refine ZK (Av _) fun n1 h1=>?_;refine ZK q fun n2 h2=>?_;refine ZK (Aa _) fun n3 h3=>ZL ⟨?_,h2.2.mono (by omega)⟩;have e:(Qk #[113,117,111,116,101]).size=5:=rfl;have:=h2.1;simp only [Y7,ZO,ZN] at h3
   simp only;omega
  ·refine ZK (ih hR ha0 (by omega) (by omega)) fun n2 h2=>?_;refine ZK (ih h2.2 ha0 (by omega) (by omega)) fun n3 h3=>?_;refine ZK (Aa _) fun n5 h5=>ZL ⟨?_,h3.2.mono (by omega)⟩;have:=h2.1;have:=h3.1;simp only [Y7,ZO,ZN] at h5
   simp only;omega
theorem A1:∀(f:Fm),f.sz < 1099511627776->Vh f=some f:=by
 intro f
 induction f using Fm.ind with
 | h f ih =>
  intro hf;have hz:=Fm.Jt f;rw [Vh];rw [YK (by simp only [ZN];omega)];simp only [QS,ZP,Qf]
  have key:∀n (i:Nat),i+n=f.kids.length->JH f f.sc (f.kids.take i) i=some f.kids:=by
   intro n
   induction n with
   | zero =>
    intro i hi;rw [JH,if_neg (by omega),show i=f.kids.length by omega,List.take_length];rfl
   | succ n ihn =>
    intro i hi
    have hil:i < f.kids.length:=by omega
    rw [JH,if_pos (by omega),Yg _ i hil];simp only [ZP,Qf];rw [ih _ (ZR _) (by have:=Fm.WR (ZR hil);omega)];simp only [Qf];rw [YK (by simp only [List.length_take,ZO,ZN];omega)];simp only [Qf];rw [WC (by omega),← ZQ hil];exact ihn (i+1) (by omega)
  have:=key f.kids.length 0 (by omega);simp only [List.take_zero] at this;show (JH f f.sc [] 0>>=fun e=>pure (KS f.kind f.name f.num f.sc e))=_;have e0:((0:Nat):Int)=0:=rfl;rw [e0] at this;rw [this];cases f;rfl
theorem Qez (f:Fm) (hf:f.sz < 1099511627776):J2 f=some f:=by
  have hz:=Fm.Jt f;rw [J2];rw [YK (by simp only [ZN];omega)];simp only [QS,ZP,Qf]
  have key:∀n (i:Nat),i+n=f.kids.length->Vj f f.sc (f.kids.take i) i=some f.kids:=by
   intro n
   induction n with
   | zero =>
    intro i hi;rw [Vj,if_neg (by omega),show i=f.kids.length by omega,List.take_length];rfl
   | succ n ihn =>
    intro i hi
    have hil:i < f.kids.length:=by omega
    rw [Vj,if_pos (by omega),Yg _ i hil];simp only [ZP,Qf];rw [A1 _ (by have:=Fm.WR (ZR hil);omega)];simp only [Qf];rw [YK (by simp only [List.length_take,ZO,ZN];omega)];simp only [Qf];rw [WC (by omega),← ZQ hil];exact ihn (i+1) (by omega)
  have:=key f.kids.length 0 (by omega);simp only [List.take_zero] at this;have e0:((0:Nat):Int)=0:=rfl;rw [e0] at this;rw [this];cases f;rfl
theorem Pf {α:Type} (g:α->Nat):∀(l:List α) (i:Nat) (x:α) (h:i < l.length),Y7 g (l.set i x)+g l[i]=Y7 g l+g x
 | [],i,x,h=>by simp at h
 | a :: l,0,x,h=>by simp [Y7];omega
 | a :: l,i+1,x,h=>by
  simp only [List.set_cons_succ,Y7,List.getElem_cons_succ];have:=Pf g l i x (by simpa using h);omega
theorem Qfh {α:Type} {l:List α} {i:Int} (h0:0<=i) (h:i < l.length):Tot (idx l i) fun x=>∃hi:i.toNat < l.length,x=l[i.toNat]:=by
 rw [Sk l i h0 h];exact ⟨_,rfl,by omega,rfl⟩
theorem Dv:∀(f:Fm) {c:Rdr} {k:Nat},RdI c k->f.sz < 1000000000->k+3 * (f.sz+1) < 1099511627776->Tot (W1 f c) fun r=>r.1.sz<=f.sz+20/\RdI r.2 (k+3 * (f.sz+1)):=by
 intro f
 induction f using Fm.ind with
 | h f ih =>
  intro c k h hf hk;have hz:=Fm.Jt f
  have tail:∀{c:Rdr} {k:Nat} {q:Nat},RdI c k->k+2 < 1099511627776->Tot (Yq 14 c>>=fun x36 =>
   if x36.1=0 then (YM [0,4,1,3] x36.2>>=fun x41=>pure (KS x41.1 f.name f.num f.sc f.kids,x41.2))
   else if x36.1=1 then (Wv [(Qk #[]),(Qk #[65]),(Qk #[116,111,111,108,111,110,103,97,110,97,109,101,49]),(Qk #[122]),(Qk #[120,32,121])] x36.2>>=fun x47=>pure (KS f.kind x47.1 f.num f.sc f.kids,x47.2))
   else if x36.1=2 then (YM [1000,-1,5] x36.2>>=fun x53=>pure (KS f.kind f.name x53.1 f.sc f.kids,x53.2))
   else if x36.1=3 then (YM [0,100,1,50] x36.2>>=fun x61=>V6 8 f.sc [x61.1]>>=fun x63=>pure (KS f.kind f.name f.num x63 f.kids,x61.2))
   else pure (KS f.kind f.name f.num f.sc f.kids,x36.2)) fun r=>r.1.sz<=f.sz+20/\RdI r.2 (k+2):=by
   intro c k q h hk;refine ZK (WW h (by omega) (by omega)) fun x hx=>?_;obtain ⟨_,_,hR⟩:=hx;refine ZM (fun _=>ZK (C6 hR (by omega) (by simp)) fun y hy=>ZL ⟨by simp only;rw [CP];omega,hy.2⟩) (fun _=>?_);refine ZM (fun _=>ZK (Qc0 hR (by omega) (by simp)) fun y hy=>ZL ⟨?_,hy.2⟩) (fun _=>?_)
   ·have:∀s∈[(Qk #[]),(Qk #[65]),(Qk #[116,111,111,108,111,110,103,97,110,97,109,101,49]),(Qk #[122]),(Qk #[120,32,121])],s.size<=20:=by decide
    have:=this _ hy.1
    simp only;rw [CP];omega
   refine ZM (fun _=>ZK (C6 hR (by omega) (by simp)) fun y hy=>ZL ⟨by simp only;rw [CP];omega,hy.2⟩) (fun _=>?_);refine ZM (fun _=>ZK (C6 hR (by omega) (by simp)) fun y hy=>?_) (fun _=>?_)
   ·refine ZK (BD (by simp only [ZO,ZN];omega)) fun z hz'=>ZL ⟨?_,hy.2⟩;subst hz'
    simp only;rw [CP];simp only [QV,ZO,ZN];omega
   ·exact ZL ⟨by simp only;rw [CP];omega,hR.mono (by omega)⟩
  rw [W1,Qez f (by omega)];refine ZK (p:=fun x=>x=f) ⟨f,rfl,rfl⟩ fun x hx=>?_;subst hx;refine ZM (fun hl=>?_) (fun hl=>?_)
  ·refine ZK (WW h (by omega) (by omega)) fun p hp=>?_;refine ZM (fun _=>?_) (fun _=>?_)
   ·refine ZK (WW hp.2.2 (by omega) (by omega)) fun q hq=>?_;refine ZK (Qfh hq.1 hq.2.1) fun g hg=>?_;obtain ⟨hi,rfl⟩:=hg;have hm:x.kids[q.1.toNat]∈x.kids:=ZR _;have:=Ax ZT x.kids _ hm;refine ZK (ih _ hm hq.2.2 (by omega) (by omega)) fun g' hg'=>?_;refine ZK (IC hq.1 hq.2.1) fun u _=>ZL ⟨?_,hg'.2.mono (by omega)⟩;have h3:=Pf ZT x.kids q.1.toNat g'.1 hi;have:=hg'.1
    simp only;rw [CP,List.length_set];omega
   ·exact (tail (q:=0) hp.2.2 (by omega)).mono fun r hr=>⟨hr.1,hr.2.mono (by omega)⟩
  ·exact (tail (q:=0) h (by omega)).mono fun r hr=>⟨hr.1,hr.2.mono (by omega)⟩
end Go.Proofs.SA
namespace Go.Proofs.SA
theorem Az {c:Prop} [Decidable c] {o:Option Bool} (h:c->Tot o fun _=>True):Tot (if c then o else pure false) fun b=>b=true->c:=by
 refine ZM (fun hc=>(h hc).mono fun _ _ _=>hc) (fun hc=>ZL fun h=>by cases h)
theorem Tv {c:Prop} [Decidable c] {o:Option Bool} (h:¬c->Tot o fun _=>True):Tot (if c then pure true else o) fun b=>b=false->¬c:=by
 refine ZM (fun hc=>ZL fun h=>by cases h) (fun hc=>(h hc).mono fun _ _ _=>hc)
theorem Qf9 {s:ByteArray} (hs:s.size < 1099511627776):∀(n:Nat) (i:Int),0<=i->i+n=s.size->Tot (JL s i) fun r=>i<=r/\r<=s.size:=by
 intro n
 induction n with
 | zero =>
  intro i h0 h;rw [JL,if_neg (by omega)];exact ⟨i,rfl,by omega,by omega⟩
 | succ n ih =>
  intro i h0 h;rw [JL];refine ZK (Az fun hc=>ZK (Hc h0 hc) fun _ _=>ZL trivial) fun b hb=>?_;refine ZM (fun hb'=>?_) (fun _=>ZL ⟨by omega,by omega⟩);rw [YP (by omega) (by omega)];exact (ih (i+1) (by omega) (by omega)).mono fun r hr=>⟨by omega,hr.2⟩
theorem C9 {s:ByteArray} (hs:s.size < 1099511627776) {i:Int} (h0:0<=i) (h:i<=s.size):Tot (HT s i) fun r=>i<=r/\r<=s.size:=by
 unfold HT;exact ZK (Qf9 hs (s.size - i.toNat) i h0 (by omega)) fun r hr=>ZL hr
theorem Qgw {s:ByteArray} (hs:s.size < 1099511627776):∀(n:Nat) (i:Int),0<=i->i+n=s.size->Tot (JM s i) fun r=>i<=r/\r<=s.size:=by
 intro n
 induction n with
 | zero =>
  intro i h0 h;rw [JM,if_neg (by omega)];exact ⟨i,rfl,by omega,by omega⟩
 | succ n ih =>
  intro i h0 h;rw [JM];refine ZK (Az fun hc=>ZK (Hc h0 hc) fun _ _=>ZL trivial) fun b hb=>?_;refine ZK (Az fun hc=>ZK (Hc h0 (hb hc)) fun _ _=>ZL trivial) fun b2 hb2=>?_;refine ZK (Az fun hc=>ZK (Hc h0 (hb (hb2 hc))) fun _ _=>ZL trivial) fun b3 hb3=>?_;refine ZK (Az fun hc=>ZK (Hc h0 (hb (hb2 (hb3 hc)))) fun _ _=>ZL trivial) fun b4 hb4=>?_;refine ZM (fun hb'=>?_) (fun _=>ZL ⟨by omega,by omega⟩);rw [YP (by omega) (by omega)];exact (ih (i+1) (by omega) (by omega)).mono fun r hr=>⟨by omega,hr.2⟩
theorem Qdq {s:ByteArray} (hs:s.size < 1099511627776) {i:Int} (h0:0<=i) (h:i<=s.size):Tot (Be s i) fun r=>i<=r/\r<=s.size:=by
 unfold Be;exact ZK (Qgw hs (s.size - i.toNat) i h0 (by omega)) fun r hr=>ZL hr
theorem Ux {s:ByteArray} {x:Bool} (hs:s.size < 1099511627776):∀(n:Nat) (v i:Int),0<=i->i+n=s.size->Tot (JG x s v i) fun _=>True:=by
 intro n
 induction n with
 | zero =>
  intro v i h0 h;rw [JG,if_neg (by omega)];exact ⟨_,rfl,trivial⟩
 | succ n ih =>
  intro v i h0 h;rw [JG,if_pos (by omega)];have hx:=Hc (s:=s) h0 (by omega);refine ZK hx fun a _=>?_;refine ZK (p:=fun _=>True) (ZM (fun _=>ZL trivial) (fun _=>ZK hx fun _ _=>ZL trivial)) fun b _=>?_;refine ZM (fun _=>ZL trivial) (fun _=>?_);refine ZK hx fun a _=>?_;rw [YP (a:=i+1) (by omega) (by omega)];exact ih _ (i+1) (by omega) (by omega)
theorem P8 {s:ByteArray} (hs:s.size < 1099511627776):Tot (Ao s) fun r=>r.2=true->1<=s.size:=by
 unfold Ao;refine ZK (Az fun hc=>ZK (Hc (by omega) (by omega)) fun _ _=>ZL trivial) fun b hb=>?_;refine ZK (p:=fun z=>z.size<=s.size) (ZM (fun hb'=>?_) (fun _=>ZL (Qt _))) fun z hz=>?_
 ·exact ZK (LK (by omega) (by have:=hb hb';omega) (by omega)) fun z hz=>ZL (by omega)
 simp only [pure_bind];refine ZK (p:=fun b=>b=false->1<=z.size) (ZM (fun hb'=>ZL fun h=>by cases h) (fun hb'=>?_)) fun b2 hb2=>?_
 ·simp only [Bool.or_eq_true,decide_eq_true_eq,not_or] at hb';refine ZK (Hc (by omega) (by omega)) fun a _=>?_
  refine ZK (p:=fun _=>True) (ZM (fun _=>ZL trivial) (fun _=>ZL trivial)) fun _ _=>ZL fun _=>by omega
 refine ZM (fun _=>ZL fun h=>by cases h) (fun hb'=>?_);have h1:=hb2 (by simpa using hb');refine ZK (Ux (by omega) z.size 0 0 (by omega) (by omega)) fun o _=>?_
 cases o with
 | inl r=>exact ZL fun _=>by omega
 | inr e=>exact ZM (fun _=>ZL fun _=>by omega) (fun _=>ZL fun _=>by omega)
theorem Um {s:ByteArray} {c:Int} (hs:s.size < 1099511627):∀(n:Nat) (z:List ByteArray) (a i:Int),0<=a->a<=i->i+n=s.size+1->z.length+n<=s.size+1->(∀x∈z,x.size<=s.size)->Tot (WZ s c z a i) fun r=>∀x∈r,x.size<=s.size:=by
 intro n
 induction n with
 | zero =>
  intro z a i h0 h1 h2 h3 h4;rw [WZ,if_neg (by omega)];exact ⟨_,rfl,h4⟩
 | succ n ih =>
  intro z a i h0 h1 h2 h3 h4;rw [WZ,if_pos (by omega)];refine ZK (Tv fun hc=>ZK (Hc (by omega) (by omega)) fun _ _=>ZL trivial) fun b hb=>?_;rw [YP (a:=i+1) (by omega) (by omega)];refine ZM (fun _=>?_) (fun _=>ih z a (i+1) h0 (by omega) (by omega) (by omega) h4);refine ZK (LK h0 h1 (by omega)) fun y hy=>?_;refine ZK (BD (by simp only [ZO,ZN];omega)) fun w hw=>?_;subst hw;refine ih _ (i+1) (i+1) (by omega) (by omega) (by omega) (by simp only [QV,ZO,ZN];omega) fun x hx=>?_
  rcases List.mem_append.1 hx with hx | hx
  ·exact h4 x hx
  ·rw [ZS] at hx;subst hx;omega
theorem Sz {s:ByteArray} {a:Int} (hs:s.size < 1099511627776):∀(n:Nat) (i:Int),0<=i->i+n=s.size->Tot (Wl s a i) fun r=>i<=r/\r<=s.size:=by
 intro n
 induction n with
 | zero =>
  intro i h0 h;rw [Wl,if_neg (by omega)];exact ⟨i,rfl,by omega,by omega⟩
 | succ n ih =>
  intro i h0 h;rw [Wl];refine ZK (Az fun hc=>ZK (Hc h0 hc) fun _ _=>ZL trivial) fun b hb=>?_;refine ZM (fun hb'=>?_) (fun _=>ZL ⟨by omega,by omega⟩);rw [YP (by omega) (by omega)];exact (ih (i+1) (by omega) (by omega)).mono fun r hr=>⟨by omega,hr.2⟩
theorem SB {e:Int} {l:List ByteArray} (hl:∀x∈l,x.size < 1099511627776):∀(n:Nat) (z:List Int) (i:Int),0<=i->i+n=25->z.length<=i->Tot (JK e l z i) fun r=>match r with | .inl r=>r.2=-1/\r.1.length<=25 | .inr r=>r.length<=25:=by
 intro n
 induction n with
 | zero =>
  intro z i h0 h1 h2;rw [JK];refine ZK (p:=fun b=>b=true->i < l.length/\i<=24) (ZL fun h=>by simpa using h) fun b hb=>?_;refine ZM (fun h=>by have:=hb h;omega) (fun _=>ZL (by simp only;omega))
 | succ n ih =>
  intro z i h0 h1 h2;rw [JK];refine ZK (p:=fun b=>b=true->i < l.length/\i<=24) (ZL fun h=>by simpa using h) fun b hb=>?_;refine ZM (fun h=>?_) (fun _=>ZL (by simp only;omega));have:=hb h;refine ZK (IC h0 this.1) fun x hx=>?_;refine ZK (P8 (hl x hx)) fun v _=>?_;refine ZM (fun _=>ZL (by simp only;exact ⟨trivial,by omega⟩)) (fun _=>?_);refine ZK (BD (by simp only [ZO,ZN];omega)) fun w hw=>?_;subst hw;rw [YP (a:=i+1) (by omega) (by omega)];exact ih _ (i+1) (by omega) (by omega) (by simp only [QV,ZO,ZN];omega)
theorem Qf8 {s:ByteArray} (hs:s.size < 1099511627) {i:Int} (h0:0<=i) (h:i<=s.size):Tot (Bd s i) fun r=>r.1.length<=25/\(r.2=-1∨(i<=r.2/\r.2<=s.size)):=by
 unfold Bd;refine ZK (p:=fun b=>b=false->i < s.size/\F3 s i=some 123) (ZM (fun _=>ZL fun h=>by cases h) (fun hc=>?_)) fun b hb=>?_
 ·obtain ⟨v,hv,_⟩:=Hc (s:=s) h0 (by omega);rw [hv];refine ZK (p:=fun a=>a=v) ⟨v,rfl,rfl⟩ fun a ha=>ZL fun h=>⟨by omega,?_⟩;subst ha
  have:a=123:=by simpa using h
  rw [this]
 refine ZM (fun _=>ZL ⟨by simp,.inr ⟨by simp,h⟩⟩) (fun hb'=>?_);obtain ⟨hi,hv⟩:=hb (by simpa using hb')
 have he:Tot (Wl s i i) fun e=>i+1<=e/\e<=s.size:=by
  rw [Wl,if_pos hi,hv];refine ZK (p:=fun b=>b=true) ⟨true,rfl,rfl⟩ fun b hb=>?_;rw [if_pos hb,YP (by omega) (by omega)];exact Sz (by omega) (s.size - (i+1).toNat) (i+1) (by omega) (by omega)
 refine ZK he fun e he=>?_;refine ZM (fun _=>ZL ⟨by simp,.inl rfl⟩) (fun hne=>?_);rw [YP (a:=i+1) (by omega) (by omega),YP (a:=e+1) (by omega) (by omega)];refine ZK (LK (by omega) he.1 he.2) fun x hx=>?_
 have hc:Tot (Ba x 44) fun r=>∀y∈r,y.size<=x.size:=by
  unfold Ba;exact ZK (Um (by omega) (x.size+1) [] 0 0 (by omega) (by omega) (by omega) (by simp) (by simp)) fun r hr=>ZL hr
 refine ZK hc fun r hr=>?_;refine ZK (SB (fun y hy=>by have:=hr y hy;omega) 25 [] 0 (by omega) (by omega) (by simp)) fun o ho=>?_
 cases o with
 | inl r=>exact ZL ⟨ho.2,.inl ho.1⟩
 | inr r=>exact ZL ⟨ho,.inr ⟨by simp only;omega,by simp only;omega⟩⟩
theorem OG {s:ByteArray} (h:s.size=0):s=Qk #[]:=by
 obtain ⟨⟨l⟩⟩:=s
 congr
 simpa [ByteArray.size] using h
def Qlc (s:ByteArray) (i:Int) (r:Fm × Int):Prop:=r.2=-1∨(i < r.2/\r.2<=s.size/\(r.1.sz:Int)+1<=27 * (r.2 - i))
theorem Qeq {s:ByteArray} (hs:s.size < 1099511627) {i:Int} (h0:0<=i) (h:i<=s.size):Tot (Bb s i) (Qlc s i):=by
 unfold Bb;refine ZK (Qdq (by omega) h0 h) fun j hj=>?_;refine ZK (LK h0 hj.1 hj.2) fun w hw=>?_;refine ZK (P8 (by omega)) fun v hv=>?_;refine ZM (fun hb=>?_) (fun _=>?_)
 ·have:=hv hb;refine ZL (.inr ⟨by simp only;omega,by simp only;omega,?_⟩)
  simp only;rw [CP];show ((0+0+0+0:Nat):Int)+1<=_;omega
 refine ZM (fun _=>ZL (.inl rfl)) (fun hne=>?_)
 have hj1:i < j:=by
  rcases Int.lt_or_le i j with h1 | h1
  ·exact h1
  ·exact absurd (OG (s:=w) (by omega)) hne
 refine ZK (Qf8 hs (by omega) hj.2) fun t ht=>ZL ?_
 rcases ht.2 with h2 | h2
 ·exact .inl h2
 ·refine .inr ⟨by simp only;omega,h2.2,?_⟩
  simp only;rw [CP]
  have:=ht.1;show ((w.size+t.1.length+0+0:Nat):Int)+1<=_;omega
theorem Qf0 {s:ByteArray} (hs:s.size < 1099511627):∀(d:Nat),d < 1000->∀(i:Int),0<=i->i<=s.size->Tot (HR s i d) (Qlc s i):=by
 intro d
 induction d with
 | zero =>
  intro _ i h0 h;rw [HR];refine ZK (C9 (by omega) h0 h) fun j hj=>?_;refine ZK (p:=fun b=>b=true) (ZL (by simp)) fun b hb=>?_;rw [if_pos hb];exact ZL (.inl rfl)
 | succ d ih =>
  intro hd i h0 h
  have loop:∀(n:Nat) (z:List Fm) (a:Int) (j:Int),0<=a->a<=j->j+n=s.size->z.length<=400->(Y7 ZT z:Int)+z.length<=27 * (j - a)->Tot (Hu s ((d+1:Nat):Int) z j) fun o=>match o with | .inl r=>r.2=-1 | .inr r=>a<=r.2/\r.2<=s.size/\(Y7 ZT r.1:Int)+r.1.length<=27 * (r.2 - a):=by
   intro n
   induction n using Nat.strongRecOn with
   | _ n ihn =>
    intro z a j ha haj hj hz hsz;rw [Hu];refine ZK (Az fun hc=>ZK (Hc (by omega) hc) fun _ _=>ZL trivial) fun b hb=>?_;refine ZK (p:=fun b'=>b'=true->b=true/\(z.length:Int) < 400) (ZL fun h=>by simpa using h) fun b' hb'=>?_;refine ZM (fun hbt=>?_) (fun _=>ZL (by simp only;exact ⟨haj,by omega,hsz⟩));obtain ⟨h1,h2⟩:=hb' hbt;have h3:=hb h1;rw [YP (by omega) (by omega),show ((d+1:Nat):Int) - 1=(d:Int) by omega];refine ZK (ih (by omega) j (by omega) (by omega)) fun x hx=>?_;refine ZM (fun _=>ZL (by simp only)) (fun hx0=>?_)
    rcases hx with hx | hx
    ·omega
    refine ZK (BD (by simp only [ZO,ZN];omega)) fun w hw=>?_;subst hw;refine ZK (C9 (by omega) (by omega) hx.2.1) fun k hk=>?_;refine ihn (s.size - k.toNat) (by omega) _ a k ha (by omega) (by omega) (by simp only [QV,ZO,ZN];omega) ?_;simp only [Dz,Y7,QV,ZO,ZN];omega
  rw [HR];refine ZK (C9 (by omega) h0 h) fun j hj=>?_;refine ZK (p:=fun b=>b=false->j < s.size) (ZL fun h=>by simp at h;omega) fun b hb=>?_;refine ZM (fun _=>ZL (.inl rfl)) (fun hb'=>?_);have hjs:=hb (by simpa using hb');refine ZK (Hc (by omega) hjs) fun c _=>?_;refine ZM (fun _=>?_) (fun _=>?_)
  ·rw [YP (a:=j+1) (by omega) (by omega)];refine ZK (C9 (by omega) (by omega) (by omega)) fun k hk=>?_;refine ZK (loop (s.size - k.toNat) [] k k (by omega) (by omega) (by omega) (by simp) (by simp [Y7])) fun o ho=>?_
   cases o with
   | inl r=>exact ZL (.inl ho)
   | inr r =>
    obtain ⟨r1,r2⟩:=r;simp only at ho ⊢;refine ZK (Tv fun hc=>ZK (Hc (by omega) (by omega)) fun _ _=>ZL trivial) fun b hb=>?_;refine ZM (fun _=>ZL (.inl rfl)) (fun hb'=>?_);have:=hb (by simpa using hb');rw [YP (a:=r2+1) (by omega) (by omega)];refine ZL (.inr ⟨by simp only;omega,by simp only;omega,?_⟩)
    simp only;rw [CP]
    show ((0+0+r1.length+Y7 ZT r1:Nat):Int)+1<=_;omega
  ·refine ZK (Qeq hs (by omega) (by omega)) fun x hx=>ZL ?_
   rcases hx with hx | hx
   ·exact .inl hx
   ·exact .inr ⟨by simp only;omega,hx.2.1,by have:=hx.2.2;simp only;omega⟩
end Go.Proofs.SA
namespace Go.Proofs.SA
theorem Us (c:Int) (b:Bool):Tot (Hf c b) fun _=>True:=by
 unfold Hf;simp only [pure_bind];refine ZM (fun _=>ZL trivial) (fun _=>?_);exact ZK (p:=fun _=>True) (ZM (fun _=>ZL trivial) (fun _=>ZL trivial)) fun _ _=>ZL trivial
theorem Lc {s:ByteArray} : ∀(n:Nat) (i:Int),0<=i->i+n=13->Tot (Vn s i) fun _=>True:=by
 intro n
 induction n with
 | zero =>
  intro i h0 h;rw [Vn];refine ZK (p:=fun b=>b=true->i < s.size/\i<=12) (ZL fun h=>by simpa using h) fun b hb=>?_;exact ZM (fun h=>by have:=hb h;omega) (fun _=>ZL trivial)
 | succ n ih =>
  intro i h0 h;rw [Vn];refine ZK (p:=fun b=>b=true->i < s.size/\i<=12) (ZL fun h=>by simpa using h) fun b hb=>?_;refine ZM (fun h=>?_) (fun _=>ZL trivial);have:=hb h;refine ZK (Hc h0 this.1) fun c _=>?_;refine ZK (Us _ _) fun v _=>?_;refine ZM (fun _=>ZL trivial) (fun _=>?_);rw [YP (by omega) (by omega)];exact ih _ (by omega) (by omega)
theorem OR (s:ByteArray):Tot (WX s) fun _=>True:=by
 unfold WX;refine ZK (p:=fun _=>True) (ZL trivial) fun _ _=>?_;refine ZM (fun _=>ZL trivial) (fun _=>?_);refine ZK (Lc 13 0 (by omega) (by omega)) fun o _=>?_
 cases o with
 | inl r=>exact ZL trivial
 | inr r=>exact ZK (p:=fun _=>True) (ZL trivial) fun _ _=>ZL trivial
theorem OY {l:List Int} : ∀(n:Nat) (i:Int),0<=i->i+n=25->Tot (Vs l i) fun _=>True:=by
 intro n
 induction n with
 | zero =>
  intro i h0 h;rw [Vs];refine ZK (p:=fun b=>b=true->i < l.length/\i<=24) (ZL fun h=>by simpa using h) fun b hb=>?_;exact ZM (fun h=>by have:=hb h;omega) (fun _=>ZL trivial)
 | succ n ih =>
  intro i h0 h;rw [Vs];refine ZK (p:=fun b=>b=true->i < l.length/\i<=24) (ZL fun h=>by simpa using h) fun b hb=>?_;refine ZM (fun h=>?_) (fun _=>ZL trivial);have hi:=(hb h).1;have hx:=IC h0 hi;refine ZK hx fun x _=>?_;refine ZK (p:=fun _=>True) (ZM (fun _=>ZL trivial) (fun _=>ZK hx fun _ _=>ZL trivial)) fun _ _=>?_;refine ZK (p:=fun _=>True) (ZM (fun _=>ZL trivial) (fun _=>?_)) fun _ _=>?_
  ·refine ZK (p:=fun _=>True) (ZM (fun h1=>?_) (fun _=>ZL trivial)) fun _ _=>ZL trivial;rw [YP (by omega) (by omega)];exact ZK hx fun _ _=>ZK (IC (by omega) (by omega)) fun _ _=>ZL trivial
  refine ZM (fun _=>ZL trivial) (fun _=>?_);rw [YP (by omega) (by omega)];exact ih _ (by omega) (by omega)
theorem UK (l:List Int):Tot (Gh l) fun _=>True:=by
 unfold Gh;refine ZK (OY 25 0 (by omega) (by omega)) fun o _=>?_
 cases o with
 | inl r=>exact ZL trivial
 | inr r=>exact ZL trivial
theorem pb {α:Type} {b:Bool} {k:Bool->Option α} {p:α->Prop} (h:∀b,Tot (k b) p):Tot ((pure b:Option Bool)>>=k) p:=h b
theorem Qm1:∀(d:Nat),d < 1000->∀(f:Fm),f.sz < 1099511627776->Tot (Hp f d) fun _=>True:=by
 intro d
 induction d with
 | zero=>intro _ f _;rw [Hp,if_pos (by rfl)];exact ZL trivial
 | succ d ih =>
  intro hd f hf;have hz:=Fm.Jt f
  have loop:∀(n:Nat) (i:Int),0<=i->i+n=f.kids.length->Tot (JJ f ((d+1:Nat):Int) i) fun _=>True:=by
   intro n
   induction n with
   | zero=>intro i h0 h;rw [JJ,if_neg (by omega)];exact ZL trivial
   | succ n ihn =>
    intro i h0 h;rw [JJ,if_pos (by omega)];refine ZK (IC h0 (by omega)) fun g hg=>?_;rw [YP (by omega) (by omega),YP (by omega) (by omega),show ((d+1:Nat):Int) - 1=(d:Int) by omega];refine ZK (ih (by omega) g (by have:=Fm.WR hg;omega)) fun b _=>?_;exact ZM (fun _=>ZL trivial) (fun _=>ihn (i+1) (by omega) (by omega))
  rw [Hp,if_neg (by omega)];refine ZM (fun _=>?_) (fun _=>?_)
  ·refine ZK (OR _) fun _ _=>pb fun b=>?_;refine ZK (p:=fun _=>True) (ZM (fun _=>ZK (UK _) fun _ _=>ZL trivial) (fun _=>ZL trivial)) fun _ _=>pb fun _=>ZL trivial
  refine ZM (fun _=>pb fun _=>pb fun _=>pb fun _=>pb fun _=>ZL trivial) (fun _=>?_);refine pb fun _=>pb fun _=>pb fun _=>?_;refine ZM (fun _=>ZL trivial) (fun _=>?_);refine ZK (loop f.kids.length 0 (by omega) (by omega)) fun o _=>?_
  cases o with
  | inl r=>exact ZL trivial
  | inr r=>exact ZL trivial
theorem Qby:∀(f:Fm),f.sz < 1099511627776->Tot (JI f) fun _=>True:=by
 intro f
 induction f using Fm.ind with
 | h f ih =>
  intro hf;have hz:=Fm.Jt f
  have loop:∀(n:Nat) (v i:Int),0<=i->i+n=f.kids.length->Tot (VX f v i) fun _=>True:=by
   intro n
   induction n with
   | zero=>intro v i h0 h;rw [VX,if_neg (by omega)];exact ZL trivial
   | succ n ihn =>
    intro v i h0 h;rw [VX,if_pos (by omega)];refine ZK (IC h0 (by omega)) fun g hg=>?_;refine ZK (ih g hg (by have:=Fm.WR hg;omega)) fun b _=>?_;rw [YP (a:=i+1) (by omega) (by omega)];exact ihn _ (i+1) (by omega) (by omega)
  rw [JI];exact ZK (loop f.kids.length 1 0 (by omega) (by omega)) fun _ _=>ZL trivial
theorem OK {f:Fm} (hf:f.sz < 1099511627776):Tot (Yu f) fun _=>True:=by
 unfold Yu;refine ZK (Qm1 40 (by omega) f hf) fun _ _=>?_;exact ZK (p:=fun _=>True) (ZM (fun _=>ZK (Qby f hf) fun _ _=>ZL trivial) (fun _=>ZL trivial)) fun _ _=>ZL trivial
theorem OU {s:ByteArray} (hs:s.size < 1099511627):Tot (Iv s) fun r=>r.1.sz<=27 * s.size:=by
 unfold Iv;refine ZK (Qf0 hs 40 (by omega) 0 (by omega) (by omega)) fun x hx=>?_;refine ZK (p:=fun b=>b=false->0<=x.2) (ZM (fun _=>ZL fun h=>by cases h) (fun h=>?_)) fun b hb=>?_
 ·have h2:x.2<=s.size:=by rcases hx with hx | hx<;>omega
  exact ZK (C9 (by omega) (by omega) h2) fun _ _=>ZL fun _=>by omega
 have hsz:0<=x.2->x.1.sz<=27 * s.size:=fun h=>by
  rcases hx with hx | hx
  ·omega
  ·have:=hx.2.1;have:=hx.2.2;omega
 refine ZK (p:=fun b'=>b'=false->0<=x.2) (ZM (fun _=>ZL fun h=>by cases h) (fun h=>?_)) fun b' hb'=>?_
 ·have h0:=hb (by simpa using h);exact ZK (OK (by have:=hsz h0;omega)) fun _ _=>ZL fun _=>h0
 refine ZM (fun _=>ZL ?_) (fun h=>ZL (hsz (hb' (by simpa using h))))
 simp only;rw [CP];show 0+0+0+0<=_;omega
theorem Mv {s:ByteArray} (hs:s.size<=1000):Tot (HQ s) fun r=>r.sz<=27000:=by
 unfold HQ;exact ZK (OU (by omega)) fun r hr=>ZL (by omega)
theorem UQ:Tot BL fun l=>1<=l.length/\∀s∈l,s.size<=1000:=⟨_,rfl,by decide,by decide⟩
theorem Qb5 {c:Rdr} {k:Nat} (h:RdI c k) (hk:k < 1000000000):Tot (Bj c) fun r=>r.1.sz<=1000000/\RdI r.2 (k+1000000):=by
 unfold Bj;refine ZK UQ fun l hl=>?_;refine ZK (WW h (by omega) (by omega)) fun x hx=>?_;refine ZM (fun _=>?_) (fun _=>?_)
 ·refine ZK (WW hx.2.2 (by omega) (by omega)) fun y hy=>?_;refine ZK (IC hy.1 hy.2.1) fun s hs=>?_;exact ZK (Mv (hl.2 s hs)) fun r hr=>ZL ⟨by simp only;omega,hy.2.2.mono (by omega)⟩
 refine ZK (C6 hx.2.2 (by omega) (by simp)) fun d hd=>?_
 have hd':d.1=4∨d.1=3∨d.1=2:=by simpa using hd.1
 have hdn:∃n:Nat,n<=4/\d.1=(n:Int):=by
  rcases hd' with h | h | h
  ·exact ⟨4,by omega,h⟩
  ·exact ⟨3,by omega,h⟩
  ·exact ⟨2,by omega,h⟩
 obtain ⟨n,hn,hdn⟩:=hdn
 have hq:Qw n<=256000:=by
  have:Qw n<=Qw 4:=by
   unfold Qw;exact Nat.mul_le_mul_left _ (Nat.pow_le_pow_right (by omega) hn)
  exact this
 rw [hdn];refine ZK (Qdg n hd.2 ⟨by simp,by simp;omega,by decide⟩ (by omega) (by omega)) fun v hv=>?_;refine ZK (WW hv.2 (by omega) (by omega)) fun u hu=>?_;refine ZM (fun _=>?_) (fun _=>ZL ⟨by have:=hv.1;simp only;omega,hu.2.2.mono (by omega)⟩);refine ZK (Mv (by decide)) fun r hr=>?_;refine ZK (Av _) fun n1 h1=>?_;refine ZK (Av _) fun n2 h2=>?_;refine ZK (Aa _) fun n3 h3=>?_;refine ZK (Aa _) fun n4 h4=>?_;refine ZK (Aa _) fun n5 h5=>ZL ⟨?_,hu.2.2.mono (by omega)⟩;have e1:(Qk #[108,101,116,45,115,121,110,116,97,120]).size=10:=rfl;have e2:(Qk #[103]).size=1:=rfl;have:=hv.1;simp only [Y7,ZO,ZN] at h3 h4 h5
 simp only;omega
theorem Qb6 {c:Rdr} {k:Nat} (h:RdI c k) (hk:k < 100000000):Tot (Bn c) fun r=>r.1.sz<=1000000/\RdI r.2 (k+1000001):=by
 unfold Bn;refine ZK (WW h (by omega) (by omega)) fun x hx=>?_;refine ZM (fun _=>?_) (fun _=>?_)
 ·refine ZK (WW hx.2.2 (by omega) (by omega)) fun y hy=>?_;refine ZK (p:=fun s=>s.size<=1000) ((IC hy.1 (by simpa using hy.2.1)).mono fun s hs=>?_) fun s hs=>?_
  ·revert s hs;decide
  exact ZK (Mv hs) fun r hr=>ZL ⟨by simp only;omega,hy.2.2.mono (by omega)⟩
 ·exact ZK (Qb5 hx.2.2 (by omega)) fun r hr=>ZL ⟨hr.1,hr.2.mono (by omega)⟩
theorem Qbr {l:List Int} (h:∀x∈l,0<=x/\x < 256):Tot (Bm l) fun r=>r.1.sz<=1000100:=by
 unfold Bm;refine ZK (ED h) fun c hc=>?_;refine ZK (Qb6 hc (by omega)) fun f hf=>?_;refine ZK (WW hf.2 (by omega) (by omega)) fun x hx=>?_;have hf1:=hf.1;refine ZK (p:=fun y=>(KS y.1 y.2.1 y.2.2.1 y.2.2.2.1 y.2.2.2.2.1).sz<=1000100/\RdI ⟨y.2.2.2.2.2.1,y.2.2.2.2.2.2⟩ 100000000) (ZM (fun _=>?_) (fun _=>ZL ⟨?_,hx.2.2.mono (by omega)⟩)) fun y hy=>?_
 ·refine ZK (Dv f.1 hx.2.2 (by omega) (by omega)) fun g hg=>?_;have:=hg.1;refine ZK (Dv g.1 hg.2 (by omega) (by omega)) fun g2 hg2=>ZL ⟨?_,hg2.2.mono (by omega)⟩;have h1:=hg2.1;rw [Fm.Jt] at h1
  simp only;rw [CP];omega
 ·rw [Fm.Jt] at hf1
  simp only;rw [CP];omega
 obtain ⟨y1,y2,y3,y4,y5,y6,y7⟩:=y;exact ZK (C6 hy.2 (by omega) (by simp)) fun z hz=>ZL hy.1
end Go.Proofs.SA
