/- The draws yield something: the reader, copies, mutations, drawn forms. Imports the plain functions of a seat (gen2). -/
import Derived.Test.YthdghhllcllneaaGreatDoorPa
import Derived.Test.YthdghhllcllneaaGreatDooreiD
set_option linter.unusedVariables false
set_option linter.unusedSimpArgs false
set_option maxRecDepth 100000
open Go Go.Proofs Go.Proofs.Shadow
open Tot renaming bind → Zz, pure → ZA, ite → ZB
open _root_.List renaming length_nil → ZC, length_cons → ZD, length_append → QV, mem_singleton → ZF
open _root_.ByteArray renaming mk → Qk
open _root_.Option renaming bind_some → Qe, bind_eq_bind → ZE
open _root_.Nat renaming le_refl → Qt
open Fm renaming sz → ZG
open Go.IntKind (i64)
namespace Go.Proofs.SA
def RdI (c:Rdr) (k:Nat):Prop:=c.b.length<=2000/\(∀x∈c.b,0<=x/\x < 256)/\0<=c.p/\c.p<=k
theorem RdI.mono {c:Rdr} {k k':Nat} (h:RdI c k) (hk:k<=k'):RdI c k':=⟨h.1,h.2.1,h.2.2.1,by have:=h.2.2.2;omega⟩
theorem Qbq {l:List Int} (h:∀x∈l,0<=x/\x < 256):Tot (An l) fun c=>RdI c 0:=by
 unfold An;refine ZB (fun hc=>?_) (fun hc=>?_)
 ·refine Zz (Qkl (by omega) (by omega) (by omega)) fun z hz=>ZA ⟨by have:=hz.1;simp only;omega,fun x hx=>h x (hz.2 x hx),by simp,by simp⟩
 ·exact ZA ⟨by simp only;omega,h,by simp,by simp⟩
theorem V6 {c:Rdr} {k:Nat} {n:Int} (h:RdI c k) (hk:k < 1099511627776) (h1:1<=n):Tot (Yh n c) fun r=>0<=r.1/\r.1 < n/\RdI r.2 (k+1):=by
 obtain ⟨hb,hx,hp0,hpk⟩:=h;unfold Yh;have w1:i64.wrap (c.p+1)=c.p+1:=YB (by omega) (by omega)
 have w2:i64.wrap (c.p+1 - 1)=c.p:=by rw [YB (by omega) (by omega)];omega
 simp only [w1,w2,pure_bind];have hR:RdI ⟨c.b,c.p+1⟩ (k+1):=⟨hb,hx,by simp only;omega,by simp only;omega⟩;refine ZB (fun hc=>ZA ⟨by simp,by simp only;omega,hR⟩) (fun hc=>?_);simp only [Bool.or_eq_true,decide_eq_true_eq,not_or] at hc;refine ZB (fun hl=>?_) (fun hl=>?_)
 ·refine Zz (Ax hp0 hl) fun x hm=>?_;have:=hx x hm;rw [YB (a:=x) (by omega) (by omega)];exact Zz (Np (by omega) h1) fun y hy=>ZA ⟨hy.1,hy.2,hR⟩
 ·refine Zz (Np hp0 (by omega)) fun i hi=>?_;refine Zz (Ax hi.1 hi.2) fun x hm=>?_;have h2:=hx x hm
  have w3:i64.wrap (i64.wrap (c.p * 7)+3)=c.p * 7+3:=by rw [YB (a:=c.p * 7) (by omega) (by omega),YB (by omega) (by omega)]
  rw [w3];refine Zz (Np (by omega) (by omega)) fun j hj=>?_;refine Zz (Ax hj.1 hj.2) fun y hm2=>?_;have h3:=hx y hm2;refine Zz (Qj9 hp0 (by omega) (by omega)) fun q hq=>?_
  have e:i64.wrap (i64.wrap (i64.wrap (i64.wrap (i64.wrap x * 131)+i64.wrap (i64.wrap y * 1117))+i64.wrap (c.p * 29))+i64.wrap (q * 53))=x * 131+y * 1117+c.p * 29+q * 53:=by
   rw [YB (a:=x) (by omega) (by omega),YB (a:=y) (by omega) (by omega),YB (a:=x * 131) (by omega) (by omega),YB (a:=y * 1117) (by omega) (by omega),YB (a:=c.p * 29) (by omega) (by omega),YB (a:=q * 53) (by omega) (by omega),YB (a:=x * 131+y * 1117) (by omega) (by omega),YB (a:=x * 131+y * 1117+c.p * 29) (by omega) (by omega),YB (by omega) (by omega)]
  rw [e];generalize hv:x * 131+y * 1117+c.p * 29+q * 53=v
  have v0:0<=v:=by omega
  have v1:v < 1099511627776000:=by omega
  have d0:0<=v.tdiv 64:=Int.tdiv_nonneg v0 (by omega);have d1:v.tdiv 64<=v:=Int.tdiv_le_self _ v0;rw [YB (a:=v.tdiv 64) (by omega) (by omega)];have:=Qjh v0 (by omega) d0 (by omega);exact Zz (Np this.1 h1) fun z hz=>ZA ⟨hz.1,hz.2,hR⟩
theorem AF {c:Rdr} {k:Nat} {l:List Int} (h:RdI c k) (hk:k < 1099511627776) (hl:1<=l.length):Tot (Yu l c) fun r=>r.1∈l/\RdI r.2 (k+1):=by
 unfold Yu;refine Zz (V6 h hk (by omega)) fun x hx=>?_;exact Zz (Ax hx.1 hx.2.1) fun y hy=>ZA ⟨hy,hx.2.2⟩
theorem TA {c:Rdr} {k:Nat} {l:List ByteArray} (h:RdI c k) (hk:k < 1099511627776) (hl:1<=l.length):Tot (Vb l c) fun r=>r.1∈l/\RdI r.2 (k+1):=by
 unfold Vb;refine Zz (V6 h hk (by omega)) fun x hx=>?_;exact Zz (Ax hx.1 hx.2.1) fun y hy=>ZA ⟨hy,hx.2.2⟩
theorem Qoq (s:ByteArray):Vv s=some (Fm.mk 1 s 0 [] []):=rfl
theorem SB (k:Int) (s:ByteArray) (n:Int) (sc:List Int) (ks:List Fm):(Fm.mk k s n sc ks).sz=s.size+sc.length+ks.length+YY ZG ks:=by rw [Fm.GR];rfl
theorem A8 (s:ByteArray):Tot (Vv s) fun f=>f.sz=s.size:=⟨_,rfl,by simp only;rw [SB];simp [YY]⟩
theorem AB (l:List Fm):Tot (WV l) fun f=>f.sz=l.length+YY ZG l:=⟨_,rfl,by simp only;rw [SB];show 0+0+_+_=_;omega⟩
def Pw (d:Nat):Nat:=100 * 4 ^ d
theorem Qet (d:Nat):Pw (d+1)=4 * Pw d:=by simp only [Pw,Nat.pow_succ];omega
theorem Ug (d:Nat):100<=Pw d:=by simp only [Pw];have:0 < 4 ^ d:=Nat.pow_pos (by omega);omega
def Ru:List ByteArray:=[(Qk #[97]),(Qk #[98]),(Qk #[120]),(Qk #[121]),(Qk #[102]),(Qk #[105,102]),(Qk #[108,101,116]),(Qk #[43])]
theorem Qby:∀(d:Nat) {c:Rdr} {k:Nat},RdI c k->d < 20->k+Pw d < 1099511627776->Tot (Vw d c) fun r=>r.1.sz<=Pw d/\RdI r.2 (k+Pw d):=by
 have base:∀{c:Rdr} {k n:Nat} {p:Int->Prop} {q:ByteArray->Prop},RdI c k->100<=n->k+n < 1099511627776+1->Tot (Yh 4 c>>=fun x=>if x.1=0 then (Yu [0,1,2,7,42,999] x.2>>=fun y=>pure (Fm.mk 2 (Qk #[]) y.1 [] [],y.2)) else (Vb Ru x.2>>=fun y=>Vv y.1>>=fun z=>pure (z,y.2))) fun r=>r.1.sz<=100/\RdI r.2 (k+2):=by
  intro c k n p q h hn hk;refine Zz (V6 h (by omega) (by omega)) fun x hx=>?_;refine ZB (fun _=>?_) (fun _=>?_)
  ·exact Zz (AF hx.2.2 (by omega) (by simp)) fun y hy=>ZA ⟨by simp only;rw [SB];show 0+0+0+0<=100;omega,hy.2⟩
  ·refine Zz (TA hx.2.2 (by omega) (by simp [Ru])) fun y hy=>?_;refine Zz (A8 _) fun z hz=>ZA ⟨?_,hy.2⟩
   have:∀s∈Ru,s.size<=100:=by decide
   simp only;rw [hz];exact this _ hy.1
 intro d
 induction d with
 | zero =>
  intro c k h hd hk;rw [Vw];rw [if_pos (by rfl)];exact (base (p:=fun _=>True) (q:=fun _=>True) h (Qt 100) (by have:=Ug 0;omega)).mono fun r hr=>⟨by have:=Ug 0;omega,hr.2.mono (by have:=Ug 0;omega)⟩
 | succ d ih =>
  intro c k h hd hk;have hp:=Ug d;have hs:=Qet d
  have loop:∀(n:Nat) {z:List Fm} {b:List Int} {p:Int} {k:Nat},n<=3->z.length+n<=3->RdI ⟨b,p⟩ k->k+n * Pw d < 1099511627776->Tot (WL ((d+1:Nat):Int) z n b p) fun r=>r.1.length<=z.length+n/\YY ZG r.1<=YY ZG z+n * Pw d/\RdI ⟨r.2.1,r.2.2⟩ (k+n * Pw d):=by
   intro n
   induction n with
   | zero =>
    intro z b p k _ _ h _;rw [WL,if_neg (by omega)];exact ZA ⟨by simp,by simp,by simpa using h⟩
   | succ n ihn =>
    intro z b p k hn hz h hk;rw [Nat.succ_mul] at hk;rw [WL,if_pos (by omega)]
    have w1:i64.wrap (((d+1:Nat):Int) - 1)=(d:Int):=by rw [YB (by omega) (by omega)];omega
    have w2:i64.wrap (((n+1:Nat):Int) - 1)=(n:Int):=by rw [YB (by omega) (by omega)];omega
    rw [w1,w2];refine Zz (ih h (by omega) (by omega)) fun x hx=>?_;refine Zz (Dm (by simp only [ZD,ZC];omega)) fun y hy=>?_;subst hy;refine (ihn (by omega) (by simp only [QV,ZD,ZC];omega) hx.2 (by omega)).mono fun r hr=>?_;obtain ⟨r1,r2,r3⟩:=hr;simp only [QV,ZD,ZC,Dx,YY] at r1 r2;rw [Nat.succ_mul];exact ⟨by omega,by have:=hx.1;omega,r3.mono (by omega)⟩
  rw [Vw,if_neg (by omega)];refine Zz (V6 h (by omega) (by omega)) fun x hx=>?_;refine ZB (fun _=>?_) (fun _=>?_)
  ·exact (base (p:=fun _=>True) (q:=fun _=>True) hx.2.2 (Qt 100) (by omega)).mono fun r hr=>⟨by omega,hr.2.mono (by omega)⟩
  ·refine Zz (V6 hx.2.2 (by omega) (by omega)) fun y hy=>?_;obtain ⟨m,hm⟩:=Int.eq_ofNat_of_zero_le hy.1
   have hm3:m<=3:=by have:=hy.2.1;omega
   have hmul:m * Pw d<=3 * Pw d:=Nat.mul_le_mul_right _ hm3;rw [hm];refine Zz (loop m hm3 (by simp;omega) hy.2.2 (by omega)) fun r hr=>?_;obtain ⟨r1,r2,r3⟩:=hr;simp only [ZC,YY] at r1 r2;refine ZA ⟨?_,r3.mono (by omega)⟩
   simp only;rw [SB]
   show 0+0+_+_<=_;omega
end Go.Proofs.SA
namespace Go.Proofs.SA
def Qw (d:Nat):Nat:=1000 * 4 ^ d
theorem Qmt (d:Nat):Qw (d+1)=4 * Qw d:=by simp only [Qw,Nat.pow_succ];omega
theorem Qp6 (d:Nat):1000<=Qw d:=by simp only [Qw];have:0 < 4 ^ d:=Nat.pow_pos (by omega);omega
def NmI (l:List ByteArray) (d:Nat):Prop:=1<=l.length/\l.length+d<=1000/\∀s∈l,s.size<=10
theorem Qh6:∀(d:Nat) {a:List ByteArray} {c:Rdr} {k:Nat},RdI c k->NmI a d->d < 20->k+Qw d < 1099511627776->Tot (VQ a d c) fun r=>r.1.sz<=Qw d/\RdI r.2 (k+Qw d):=by
 have base:∀{a:List ByteArray} {c:Rdr} {k:Nat},RdI c k->1<=a.length->(∀s∈a,s.size<=10)->k+99 < 1099511627776->Tot (Yh 3 c>>=fun x=>if x.1=0 then (Yu [0,1,2,7] x.2>>=fun y=>pure (Fm.mk 2 (Qk #[]) y.1 [] [],y.2)) else (Yh (a.length:Int) x.2>>=fun y=>idx a y.1>>=fun u=>Vv u>>=fun z=>pure (z,y.2))) fun r=>r.1.sz<=100/\RdI r.2 (k+2):=by
  intro a c k h ha hs hk;refine Zz (V6 h (by omega) (by omega)) fun x hx=>?_;refine ZB (fun _=>?_) (fun _=>?_)
  ·exact Zz (AF hx.2.2 (by omega) (by simp)) fun y hy=>ZA ⟨by simp only;rw [SB];show 0+0+0+0<=100;omega,hy.2⟩
  ·refine Zz (V6 hx.2.2 (by omega) (by omega)) fun y hy=>?_;refine Zz (Ax hy.1 hy.2.1) fun u hu=>?_;refine Zz (A8 _) fun z hz=>ZA ⟨?_,hy.2.2⟩;have:=hs u hu
   simp only;omega
 intro d
 induction d with
 | zero =>
  intro a c k h ha hd hk;have:=Qp6 0;rw [VQ,if_pos (by rfl)];exact (base h ha.1 ha.2.2 (by omega)).mono fun r hr=>⟨by omega,hr.2.mono (by omega)⟩
 | succ d ih =>
  intro a c k h ha hd hk;have hp:=Qp6 d;have hs:=Qmt d
  have w1:i64.wrap (((d+1:Nat):Int) - 1)=(d:Int):=by rw [YB (by omega) (by omega)];omega
  rw [VQ,if_neg (by omega)];simp only [w1];refine Zz (V6 h (by omega) (by omega)) fun x hx=>?_;refine ZB (fun _=>?_) (fun _=>?_)
  ·exact (base hx.2.2 ha.1 ha.2.2 (by omega)).mono fun r hr=>⟨by omega,hr.2.mono (by omega)⟩
  refine Zz (TA hx.2.2 (by omega) (by simp)) fun v hv=>?_
  have hv10:v.1.size<=10:=by
   have:∀s∈[(Qk #[120]),(Qk #[121]),(Qk #[116])],s.size<=10:=by decide
   exact this _ hv.1
  refine Zz (Dm (by have:=ha.2.1;simp only [ZC];omega)) fun y hy=>?_;rw [List.nil_append] at hy;rw [hy];refine Zz (Dm (by have:=ha.2.1;simp only [ZC,ZD];omega)) fun y hy=>?_;subst hy;have ha0:NmI a d:=⟨ha.1,by have:=ha.2.1;omega,ha.2.2⟩
  have ha2:NmI (a++[v.1]) d:=⟨by simp,by have:=ha.2.1;simp;omega,fun s hs=>by
   simp only [List.mem_append,ZF] at hs
   rcases hs with hs | rfl
   ·exact ha.2.2 s hs
   ·exact hv10⟩
  refine Zz (V6 hv.2 (by omega) (by omega)) fun p hp'=>?_;obtain ⟨p0,p8,hR⟩:=hp';refine Zz (p:=fun _=>True) (ZB (fun _=>ZA trivial) (fun _=>ZA trivial)) fun b _=>?_;refine ZB (fun _=>?_) (fun _=>?_)
  ·
   refine Zz (A8 _) fun n1 h1=>?_;refine Zz (A8 _) fun n2 h2=>?_;refine Zz (AB _) fun n3 h3=>?_;refine Zz (ih hR ha2 (by omega) (by omega)) fun n4 h4=>?_;refine Zz (AB _) fun n5 h5=>ZA ⟨?_,h4.2.mono (by omega)⟩;have e:(Qk #[108,97,109,98,100,97]).size=6:=rfl;have:=h4.1;simp only [YY,ZD,ZC] at h3 h5
   simp only;omega
  refine Zz (p:=fun _=>True) (ZB (fun _=>ZA trivial) (fun _=>ZA trivial)) fun b _=>?_;refine ZB (fun _=>?_) (fun _=>?_)
  ·
   refine Zz (A8 _) fun n1 h1=>?_;refine Zz (ih hR ha0 (by omega) (by omega)) fun n2 h2=>?_;refine Zz (AB _) fun n3 h3=>?_;refine Zz (A8 _) fun n4 h4=>?_;refine Zz (AB _) fun n5 h5=>?_;refine Zz (ih h2.2 ha2 (by omega) (by omega)) fun n6 h6=>?_;refine Zz (AB _) fun n7 h7=>ZA ⟨?_,h6.2.mono (by omega)⟩;have e:(Qk #[108,101,116]).size=3:=rfl;have:=h2.1;have:=h6.1;simp only [YY,ZD,ZC] at h3 h5 h7
   simp only;omega
  refine ZB (fun _=>?_) (fun _=>?_)
  ·
   refine Zz (A8 _) fun n1 h1=>?_;refine Zz (ih hR ha0 (by omega) (by omega)) fun n2 h2=>?_;refine Zz (ih h2.2 ha0 (by omega) (by omega)) fun n3 h3=>?_
   have hz:Tot (VQ a 0 n3.2) fun r=>r.1.sz<=100/\RdI r.2 (k+1+1+1+Qw d+Qw d+2):=by
    rw [VQ,if_pos (by rfl)];exact base h3.2 ha.1 ha.2.2 (by omega)
   refine Zz hz fun n4 h4=>?_;refine Zz (AB _) fun n5 h5=>ZA ⟨?_,h4.2.mono (by omega)⟩;have e:(Qk #[105,102]).size=2:=rfl;have:=h2.1;have:=h3.1;have:=h4.1;simp only [YY,ZD,ZC] at h5
   simp only;omega
  refine ZB (fun _=>?_) (fun _=>?_)
  ·
   have q:Tot (Vw 1 p.2) fun r=>r.1.sz<=3 * Qw d+50/\RdI r.2 (k+1+1+1+(3 * Qw d+50)):=by
    have:=Qby 1 hR (by omega) (by show k+1+1+1+400 < _;omega);refine this.mono fun r hr=>⟨?_,hr.2.mono ?_⟩
    ·have:=hr.1;change r.1.sz<=400 at this;omega
    ·show k+1+1+1+400<=_;omega
   refine Zz (A8 _) fun n1 h1=>?_;refine Zz q fun n2 h2=>?_;refine Zz (AB _) fun n3 h3=>ZA ⟨?_,h2.2.mono (by omega)⟩;have e:(Qk #[113,117,111,116,101]).size=5:=rfl;have:=h2.1;simp only [YY,ZD,ZC] at h3
   simp only;omega
  ·refine Zz (ih hR ha0 (by omega) (by omega)) fun n2 h2=>?_;refine Zz (ih h2.2 ha0 (by omega) (by omega)) fun n3 h3=>?_;refine Zz (AB _) fun n5 h5=>ZA ⟨?_,h3.2.mono (by omega)⟩;have:=h2.1;have:=h3.1;simp only [YY,ZD,ZC] at h5
   simp only;omega
theorem Lt:∀(f:Fm),f.sz < 1099511627776->Jq f=some f:=by
 intro f
 induction f using Fm.ind with
 | h f ih =>
  intro hf;have hz:=Fm.GR f;rw [Jq];rw [YA (by simp only [ZC];omega)];simp only [List.nil_append,ZE,Qe]
  have key:∀n (i:Nat),i+n=f.kids.length->Gm f f.sc (f.kids.take i) i=some f.kids:=by
   intro n
   induction n with
   | zero =>
    intro i hi;rw [Gm,if_neg (by omega),show i=f.kids.length by omega,List.take_length];rfl
   | succ n ihn =>
    intro i hi
    have hil:i < f.kids.length:=by omega
    rw [Gm,if_pos (by omega),Yf _ i hil];simp only [ZE,Qe];rw [ih _ (List.getElem_mem _) (by have:=Fm.G8 (List.getElem_mem hil);omega)];simp only [Qe];rw [YA (by simp only [List.length_take,ZD,ZC];omega)];simp only [Qe];rw [Ws (by omega),← List.take_succ_eq_append_getElem hil];exact ihn (i+1) (by omega)
  have:=key f.kids.length 0 (by omega);simp only [List.take_zero] at this;show (Gm f f.sc [] 0>>=fun e=>pure (Fm.mk f.kind f.name f.num f.sc e))=_;have e0:((0:Nat):Int)=0:=rfl;rw [e0] at this;rw [this];cases f;rfl
theorem Qb3 {α:Type} (g:α->Nat):∀(l:List α) (i:Nat) (x:α) (h:i < l.length),YY g (l.set i x)+g l[i]=YY g l+g x
 | [],i,x,h=>by simp at h
 | a :: l,0,x,h=>by simp [YY];omega
 | a :: l,i+1,x,h=>by
  simp only [List.set_cons_succ,YY,List.getElem_cons_succ];have:=Qb3 g l i x (by simpa using h);omega
end Go.Proofs.SA
namespace Go.Proofs.SA
theorem Bc {c:Prop} [Decidable c] {o:Option Bool} (h:c->Tot o fun _=>True):Tot (if c then o else pure false) fun b=>b=true->c:=by
 refine ZB (fun hc=>(h hc).mono fun _ _ _=>hc) (fun hc=>ZA fun h=>by cases h)
theorem Qbr {c:Prop} [Decidable c] {o:Option Bool} (h:¬c->Tot o fun _=>True):Tot (if c then pure true else o) fun b=>b=false->¬c:=by
 refine ZB (fun hc=>ZA fun h=>by cases h) (fun hc=>(h hc).mono fun _ _ _=>hc)
theorem Qk4 {s:ByteArray} (hs:s.size < 1099511627776):∀(n:Nat) (i:Int),0<=i->i+n=s.size->Tot (Gr s i) fun r=>i<=r/\r<=s.size:=by
 intro n
 induction n with
 | zero =>
  intro i h0 h;rw [Gr,if_neg (by omega)];exact ⟨i,rfl,by omega,by omega⟩
 | succ n ih =>
  intro i h0 h;rw [Gr];refine Zz (Bc fun hc=>Zz (H5 h0 hc) fun _ _=>ZA trivial) fun b hb=>?_;refine ZB (fun hb'=>?_) (fun _=>ZA ⟨by omega,by omega⟩);rw [YB (by omega) (by omega)];exact (ih (i+1) (by omega) (by omega)).mono fun r hr=>⟨by omega,hr.2⟩
theorem D9 {s:ByteArray} (hs:s.size < 1099511627776) {i:Int} (h0:0<=i) (h:i<=s.size):Tot (IF s i) fun r=>i<=r/\r<=s.size:=by
 unfold IF;exact Zz (Qk4 hs (s.size - i.toNat) i h0 (by omega)) fun r hr=>ZA hr
theorem Qlq {s:ByteArray} (hs:s.size < 1099511627776):∀(n:Nat) (i:Int),0<=i->i+n=s.size->Tot (Gs s i) fun r=>i<=r/\r<=s.size:=by
 intro n
 induction n with
 | zero =>
  intro i h0 h;rw [Gs,if_neg (by omega)];exact ⟨i,rfl,by omega,by omega⟩
 | succ n ih =>
  intro i h0 h;rw [Gs];refine Zz (Bc fun hc=>Zz (H5 h0 hc) fun _ _=>ZA trivial) fun b hb=>?_;refine Zz (Bc fun hc=>Zz (H5 h0 (hb hc)) fun _ _=>ZA trivial) fun b2 hb2=>?_;refine Zz (Bc fun hc=>Zz (H5 h0 (hb (hb2 hc))) fun _ _=>ZA trivial) fun b3 hb3=>?_;refine Zz (Bc fun hc=>Zz (H5 h0 (hb (hb2 (hb3 hc)))) fun _ _=>ZA trivial) fun b4 hb4=>?_;refine ZB (fun hb'=>?_) (fun _=>ZA ⟨by omega,by omega⟩);rw [YB (by omega) (by omega)];exact (ih (i+1) (by omega) (by omega)).mono fun r hr=>⟨by omega,hr.2⟩
theorem Qif {s:ByteArray} (hs:s.size < 1099511627776) {i:Int} (h0:0<=i) (h:i<=s.size):Tot (BT s i) fun r=>i<=r/\r<=s.size:=by
 unfold BT;exact Zz (Qlq hs (s.size - i.toNat) i h0 (by omega)) fun r hr=>ZA hr
theorem Qdh {s:ByteArray} {x:Bool} (hs:s.size < 1099511627776):∀(n:Nat) (v i:Int),0<=i->i+n=s.size->Tot (Gl x s v i) fun _=>True:=by
 intro n
 induction n with
 | zero =>
  intro v i h0 h;rw [Gl,if_neg (by omega)];exact ⟨_,rfl,trivial⟩
 | succ n ih =>
  intro v i h0 h;rw [Gl,if_pos (by omega)];have hx:=H5 (s:=s) h0 (by omega);refine Zz hx fun a _=>?_;refine Zz (p:=fun _=>True) (ZB (fun _=>ZA trivial) (fun _=>Zz hx fun _ _=>ZA trivial)) fun b _=>?_;refine ZB (fun _=>ZA trivial) (fun _=>?_);refine Zz hx fun a _=>?_;rw [YB (a:=i+1) (by omega) (by omega)];exact ih _ (i+1) (by omega) (by omega)
theorem Tz {s:ByteArray} (hs:s.size < 1099511627776):Tot (A0 s) fun r=>r.2=true->1<=s.size:=by
 unfold A0;refine Zz (Bc fun hc=>Zz (H5 (by omega) (by omega)) fun _ _=>ZA trivial) fun b hb=>?_;refine Zz (p:=fun z=>z.size<=s.size) (ZB (fun hb'=>?_) (fun _=>ZA (Qt _))) fun z hz=>?_
 ·exact Zz (Nr (by omega) (by have:=hb hb';omega) (by omega)) fun z hz=>ZA (by omega)
 simp only [pure_bind];refine Zz (p:=fun b=>b=false->1<=z.size) (ZB (fun hb'=>ZA fun h=>by cases h) (fun hb'=>?_)) fun b2 hb2=>?_
 ·simp only [Bool.or_eq_true,decide_eq_true_eq,not_or] at hb';refine Zz (H5 (by omega) (by omega)) fun a _=>?_
  refine Zz (p:=fun _=>True) (ZB (fun _=>ZA trivial) (fun _=>ZA trivial)) fun _ _=>ZA fun _=>by omega
 refine ZB (fun _=>ZA fun h=>by cases h) (fun hb'=>?_);have h1:=hb2 (by simpa using hb');refine Zz (Qdh (by omega) z.size 0 0 (by omega) (by omega)) fun o _=>?_
 cases o with
 | inl r=>exact ZA fun _=>by omega
 | inr e=>exact ZB (fun _=>ZA fun _=>by omega) (fun _=>ZA fun _=>by omega)
theorem Qc5 {s:ByteArray} {c:Int} (hs:s.size < 1099511627):∀(n:Nat) (z:List ByteArray) (a i:Int),0<=a->a<=i->i+n=s.size+1->z.length+n<=s.size+1->(∀x∈z,x.size<=s.size)->Tot (JA s c z a i) fun r=>∀x∈r,x.size<=s.size:=by
 intro n
 induction n with
 | zero =>
  intro z a i h0 h1 h2 h3 h4;rw [JA,if_neg (by omega)];exact ⟨_,rfl,h4⟩
 | succ n ih =>
  intro z a i h0 h1 h2 h3 h4;rw [JA,if_pos (by omega)];refine Zz (Qbr fun hc=>Zz (H5 (by omega) (by omega)) fun _ _=>ZA trivial) fun b hb=>?_;rw [YB (a:=i+1) (by omega) (by omega)];refine ZB (fun _=>?_) (fun _=>ih z a (i+1) h0 (by omega) (by omega) (by omega) h4);refine Zz (Nr h0 h1 (by omega)) fun y hy=>?_;refine Zz (Dm (by simp only [ZD,ZC];omega)) fun w hw=>?_;subst hw;refine ih _ (i+1) (i+1) (by omega) (by omega) (by omega) (by simp only [QV,ZD,ZC];omega) fun x hx=>?_
  rcases List.mem_append.1 hx with hx | hx
  ·exact h4 x hx
  ·rw [ZF] at hx;subst hx;omega
theorem U1 {s:ByteArray} {a:Int} (hs:s.size < 1099511627776):∀(n:Nat) (i:Int),0<=i->i+n=s.size->Tot (WK s a i) fun r=>i<=r/\r<=s.size:=by
 intro n
 induction n with
 | zero =>
  intro i h0 h;rw [WK,if_neg (by omega)];exact ⟨i,rfl,by omega,by omega⟩
 | succ n ih =>
  intro i h0 h;rw [WK];refine Zz (Bc fun hc=>Zz (H5 h0 hc) fun _ _=>ZA trivial) fun b hb=>?_;refine ZB (fun hb'=>?_) (fun _=>ZA ⟨by omega,by omega⟩);rw [YB (by omega) (by omega)];exact (ih (i+1) (by omega) (by omega)).mono fun r hr=>⟨by omega,hr.2⟩
theorem U2 {e:Int} {l:List ByteArray} (hl:∀x∈l,x.size < 1099511627776):∀(n:Nat) (z:List Int) (i:Int),0<=i->i+n=25->z.length<=i->Tot (Gq e l z i) fun r=>match r with | .inl r=>r.2=-1/\r.1.length<=25 | .inr r=>r.length<=25:=by
 intro n
 induction n with
 | zero =>
  intro z i h0 h1 h2;rw [Gq];refine Zz (p:=fun b=>b=true->i < l.length/\i<=24) (ZA fun h=>by simpa using h) fun b hb=>?_;refine ZB (fun h=>by have:=hb h;omega) (fun _=>ZA (by simp only;omega))
 | succ n ih =>
  intro z i h0 h1 h2;rw [Gq];refine Zz (p:=fun b=>b=true->i < l.length/\i<=24) (ZA fun h=>by simpa using h) fun b hb=>?_;refine ZB (fun h=>?_) (fun _=>ZA (by simp only;omega));have:=hb h;refine Zz (Ax h0 this.1) fun x hx=>?_;refine Zz (Tz (hl x hx)) fun v _=>?_;refine ZB (fun _=>ZA (by simp only;exact ⟨trivial,by omega⟩)) (fun _=>?_);refine Zz (Dm (by simp only [ZD,ZC];omega)) fun w hw=>?_;subst hw;rw [YB (a:=i+1) (by omega) (by omega)];exact ih _ (i+1) (by omega) (by omega) (by simp only [QV,ZD,ZC];omega)
theorem Qk3 {s:ByteArray} (hs:s.size < 1099511627) {i:Int} (h0:0<=i) (h:i<=s.size):Tot (BR s i) fun r=>r.1.length<=25/\(r.2=-1∨(i<=r.2/\r.2<=s.size)):=by
 unfold BR;refine Zz (p:=fun b=>b=false->i < s.size/\Mu s i=some 123) (ZB (fun _=>ZA fun h=>by cases h) (fun hc=>?_)) fun b hb=>?_
 ·obtain ⟨v,hv,_⟩:=H5 (s:=s) h0 (by omega);rw [hv];refine Zz (p:=fun a=>a=v) ⟨v,rfl,rfl⟩ fun a ha=>ZA fun h=>⟨by omega,?_⟩;subst ha
  have:a=123:=by simpa using h
  rw [this]
 refine ZB (fun _=>ZA ⟨by simp,.inr ⟨by simp,h⟩⟩) (fun hb'=>?_);obtain ⟨hi,hv⟩:=hb (by simpa using hb')
 have he:Tot (WK s i i) fun e=>i+1<=e/\e<=s.size:=by
  rw [WK,if_pos hi,hv];refine Zz (p:=fun b=>b=true) ⟨true,rfl,rfl⟩ fun b hb=>?_;rw [if_pos hb,YB (by omega) (by omega)];exact U1 (by omega) (s.size - (i+1).toNat) (i+1) (by omega) (by omega)
 refine Zz he fun e he=>?_;refine ZB (fun _=>ZA ⟨by simp,.inl rfl⟩) (fun hne=>?_);rw [YB (a:=i+1) (by omega) (by omega),YB (a:=e+1) (by omega) (by omega)];refine Zz (Nr (by omega) he.1 he.2) fun x hx=>?_
 have hc:Tot (BO x 44) fun r=>∀y∈r,y.size<=x.size:=by
  unfold BO;exact Zz (Qc5 (by omega) (x.size+1) [] 0 0 (by omega) (by omega) (by omega) (by simp) (by simp)) fun r hr=>ZA hr
 refine Zz hc fun r hr=>?_;refine Zz (U2 (fun y hy=>by have:=hr y hy;omega) 25 [] 0 (by omega) (by omega) (by simp)) fun o ho=>?_
 cases o with
 | inl r=>exact ZA ⟨ho.2,.inl ho.1⟩
 | inr r=>exact ZA ⟨ho,.inr ⟨by simp only;omega,by simp only;omega⟩⟩
theorem RV {s:ByteArray} (h:s.size=0):s=Qk #[]:=by
 obtain ⟨⟨l⟩⟩:=s
 congr
 simpa [ByteArray.size] using h
def Qp7 (s:ByteArray) (i:Int) (r:Fm × Int):Prop:=r.2=-1∨(i < r.2/\r.2<=s.size/\(r.1.sz:Int)+1<=27 * (r.2 - i))
theorem Qjf {s:ByteArray} (hs:s.size < 1099511627) {i:Int} (h0:0<=i) (h:i<=s.size):Tot (BP s i) (Qp7 s i):=by
 unfold BP;refine Zz (Qif (by omega) h0 h) fun j hj=>?_;refine Zz (Nr h0 hj.1 hj.2) fun w hw=>?_;refine Zz (Tz (by omega)) fun v hv=>?_;refine ZB (fun hb=>?_) (fun _=>?_)
 ·have:=hv hb;refine ZA (.inr ⟨by simp only;omega,by simp only;omega,?_⟩)
  simp only;rw [SB];show ((0+0+0+0:Nat):Int)+1<=_;omega
 refine ZB (fun _=>ZA (.inl rfl)) (fun hne=>?_)
 have hj1:i < j:=by
  rcases Int.lt_or_le i j with h1 | h1
  ·exact h1
  ·exact absurd (RV (s:=w) (by omega)) hne
 refine Zz (Qk3 hs (by omega) hj.2) fun t ht=>ZA ?_
 rcases ht.2 with h2 | h2
 ·exact .inl h2
 ·refine .inr ⟨by simp only;omega,h2.2,?_⟩
  simp only;rw [SB]
  have:=ht.1;show ((w.size+t.1.length+0+0:Nat):Int)+1<=_;omega
theorem Qku {s:ByteArray} (hs:s.size < 1099511627):∀(d:Nat),d < 1000->∀(i:Int),0<=i->i<=s.size->Tot (IE s i d) (Qp7 s i):=by
 intro d
 induction d with
 | zero =>
  intro _ i h0 h;rw [IE];refine Zz (D9 (by omega) h0 h) fun j hj=>?_;refine Zz (p:=fun b=>b=true) (ZA (by simp)) fun b hb=>?_;rw [if_pos hb];exact ZA (.inl rfl)
 | succ d ih =>
  intro hd i h0 h
  have loop:∀(n:Nat) (z:List Fm) (a:Int) (j:Int),0<=a->a<=j->j+n=s.size->z.length<=400->(YY ZG z:Int)+z.length<=27 * (j - a)->Tot (Ir s ((d+1:Nat):Int) z j) fun o=>match o with | .inl r=>r.2=-1 | .inr r=>a<=r.2/\r.2<=s.size/\(YY ZG r.1:Int)+r.1.length<=27 * (r.2 - a):=by
   intro n
   induction n using Nat.strongRecOn with
   | _ n ihn =>
    intro z a j ha haj hj hz hsz;rw [Ir];refine Zz (Bc fun hc=>Zz (H5 (by omega) hc) fun _ _=>ZA trivial) fun b hb=>?_;refine Zz (p:=fun b'=>b'=true->b=true/\(z.length:Int) < 400) (ZA fun h=>by simpa using h) fun b' hb'=>?_;refine ZB (fun hbt=>?_) (fun _=>ZA (by simp only;exact ⟨haj,by omega,hsz⟩));obtain ⟨h1,h2⟩:=hb' hbt;have h3:=hb h1;rw [YB (by omega) (by omega),show ((d+1:Nat):Int) - 1=(d:Int) by omega];refine Zz (ih (by omega) j (by omega) (by omega)) fun x hx=>?_;refine ZB (fun _=>ZA (by simp only)) (fun hx0=>?_)
    rcases hx with hx | hx
    ·omega
    refine Zz (Dm (by simp only [ZD,ZC];omega)) fun w hw=>?_;subst hw;refine Zz (D9 (by omega) (by omega) hx.2.1) fun k hk=>?_;refine ihn (s.size - k.toNat) (by omega) _ a k ha (by omega) (by omega) (by simp only [QV,ZD,ZC];omega) ?_;simp only [Dx,YY,QV,ZD,ZC];omega
  rw [IE];refine Zz (D9 (by omega) h0 h) fun j hj=>?_;refine Zz (p:=fun b=>b=false->j < s.size) (ZA fun h=>by simp at h;omega) fun b hb=>?_;refine ZB (fun _=>ZA (.inl rfl)) (fun hb'=>?_);have hjs:=hb (by simpa using hb');refine Zz (H5 (by omega) hjs) fun c _=>?_;refine ZB (fun _=>?_) (fun _=>?_)
  ·rw [YB (a:=j+1) (by omega) (by omega)];refine Zz (D9 (by omega) (by omega) (by omega)) fun k hk=>?_;refine Zz (loop (s.size - k.toNat) [] k k (by omega) (by omega) (by omega) (by simp) (by simp [YY])) fun o ho=>?_
   cases o with
   | inl r=>exact ZA (.inl ho)
   | inr r =>
    obtain ⟨r1,r2⟩:=r;simp only at ho ⊢;refine Zz (Qbr fun hc=>Zz (H5 (by omega) (by omega)) fun _ _=>ZA trivial) fun b hb=>?_;refine ZB (fun _=>ZA (.inl rfl)) (fun hb'=>?_);have:=hb (by simpa using hb');rw [YB (a:=r2+1) (by omega) (by omega)];refine ZA (.inr ⟨by simp only;omega,by simp only;omega,?_⟩)
    simp only;rw [SB]
    show ((0+0+r1.length+YY ZG r1:Nat):Int)+1<=_;omega
  ·refine Zz (Qjf hs (by omega) (by omega)) fun x hx=>ZA ?_
   rcases hx with hx | hx
   ·exact .inl hx
   ·exact .inr ⟨by simp only;omega,hx.2.1,by have:=hx.2.2;simp only;omega⟩
end Go.Proofs.SA
namespace Go.Proofs.SA
theorem Qdb (c:Int) (b:Bool):Tot (H7 c b) fun _=>True:=by
 unfold H7;simp only [pure_bind];refine ZB (fun _=>ZA trivial) (fun _=>?_);exact Zz (p:=fun _=>True) (ZB (fun _=>ZA trivial) (fun _=>ZA trivial)) fun _ _=>ZA trivial
theorem MN {s:ByteArray} : ∀(n:Nat) (i:Int),0<=i->i+n=13->Tot (Vq s i) fun _=>True:=by
 intro n
 induction n with
 | zero =>
  intro i h0 h;rw [Vq];refine Zz (p:=fun b=>b=true->i < s.size/\i<=12) (ZA fun h=>by simpa using h) fun b hb=>?_;exact ZB (fun h=>by have:=hb h;omega) (fun _=>ZA trivial)
 | succ n ih =>
  intro i h0 h;rw [Vq];refine Zz (p:=fun b=>b=true->i < s.size/\i<=12) (ZA fun h=>by simpa using h) fun b hb=>?_;refine ZB (fun h=>?_) (fun _=>ZA trivial);have:=hb h;refine Zz (H5 h0 this.1) fun c _=>?_;refine Zz (Qdb _ _) fun v _=>?_;refine ZB (fun _=>ZA trivial) (fun _=>?_);rw [YB (by omega) (by omega)];exact ih _ (by omega) (by omega)
theorem R9 (s:ByteArray):Tot (Jz s) fun _=>True:=by
 unfold Jz;refine Zz (p:=fun _=>True) (ZA trivial) fun _ _=>?_;refine ZB (fun _=>ZA trivial) (fun _=>?_);refine Zz (MN 13 0 (by omega) (by omega)) fun o _=>?_
 cases o with
 | inl r=>exact ZA trivial
 | inr r=>exact Zz (p:=fun _=>True) (ZA trivial) fun _ _=>ZA trivial
theorem Sn {l:List Int} : ∀(n:Nat) (i:Int),0<=i->i+n=25->Tot (Vy l i) fun _=>True:=by
 intro n
 induction n with
 | zero =>
  intro i h0 h;rw [Vy];refine Zz (p:=fun b=>b=true->i < l.length/\i<=24) (ZA fun h=>by simpa using h) fun b hb=>?_;exact ZB (fun h=>by have:=hb h;omega) (fun _=>ZA trivial)
 | succ n ih =>
  intro i h0 h;rw [Vy];refine Zz (p:=fun b=>b=true->i < l.length/\i<=24) (ZA fun h=>by simpa using h) fun b hb=>?_;refine ZB (fun h=>?_) (fun _=>ZA trivial);have hi:=(hb h).1;have hx:=Ax h0 hi;refine Zz hx fun x _=>?_;refine Zz (p:=fun _=>True) (ZB (fun _=>ZA trivial) (fun _=>Zz hx fun _ _=>ZA trivial)) fun _ _=>?_;refine Zz (p:=fun _=>True) (ZB (fun _=>ZA trivial) (fun _=>?_)) fun _ _=>?_
  ·refine Zz (p:=fun _=>True) (ZB (fun h1=>?_) (fun _=>ZA trivial)) fun _ _=>ZA trivial;rw [YB (by omega) (by omega)];exact Zz hx fun _ _=>Zz (Ax (by omega) (by omega)) fun _ _=>ZA trivial
  refine ZB (fun _=>ZA trivial) (fun _=>?_);rw [YB (by omega) (by omega)];exact ih _ (by omega) (by omega)
theorem Qdv (l:List Int):Tot (Hj l) fun _=>True:=by
 unfold Hj;refine Zz (Sn 25 0 (by omega) (by omega)) fun o _=>?_
 cases o with
 | inl r=>exact ZA trivial
 | inr r=>exact ZA trivial
theorem pb {α:Type} {b:Bool} {k:Bool->Option α} {p:α->Prop} (h:∀b,Tot (k b) p):Tot ((pure b:Option Bool)>>=k) p:=h b
theorem Qr9:∀(d:Nat),d < 1000->∀(f:Fm),f.sz < 1099511627776->Tot (Ih f d) fun _=>True:=by
 intro d
 induction d with
 | zero=>intro _ f _;rw [Ih,if_pos (by rfl)];exact ZA trivial
 | succ d ih =>
  intro hd f hf;have hz:=Fm.GR f
  have loop:∀(n:Nat) (i:Int),0<=i->i+n=f.kids.length->Tot (Gp f ((d+1:Nat):Int) i) fun _=>True:=by
   intro n
   induction n with
   | zero=>intro i h0 h;rw [Gp,if_neg (by omega)];exact ZA trivial
   | succ n ihn =>
    intro i h0 h;rw [Gp,if_pos (by omega)];refine Zz (Ax h0 (by omega)) fun g hg=>?_;rw [YB (by omega) (by omega),YB (by omega) (by omega),show ((d+1:Nat):Int) - 1=(d:Int) by omega];refine Zz (ih (by omega) g (by have:=Fm.G8 hg;omega)) fun b _=>?_;exact ZB (fun _=>ZA trivial) (fun _=>ihn (i+1) (by omega) (by omega))
  rw [Ih,if_neg (by omega)];refine ZB (fun _=>?_) (fun _=>?_)
  ·refine Zz (R9 _) fun _ _=>pb fun b=>?_;refine Zz (p:=fun _=>True) (ZB (fun _=>Zz (Qdv _) fun _ _=>ZA trivial) (fun _=>ZA trivial)) fun _ _=>pb fun _=>ZA trivial
  refine ZB (fun _=>pb fun _=>pb fun _=>pb fun _=>pb fun _=>ZA trivial) (fun _=>?_);refine pb fun _=>pb fun _=>pb fun _=>?_;refine ZB (fun _=>ZA trivial) (fun _=>?_);refine Zz (loop f.kids.length 0 (by omega) (by omega)) fun o _=>?_
  cases o with
  | inl r=>exact ZA trivial
  | inr r=>exact ZA trivial
theorem Qgd:∀(f:Fm),f.sz < 1099511627776->Tot (Gn f) fun _=>True:=by
 intro f
 induction f using Fm.ind with
 | h f ih =>
  intro hf;have hz:=Fm.GR f
  have loop:∀(n:Nat) (v i:Int),0<=i->i+n=f.kids.length->Tot (Wj f v i) fun _=>True:=by
   intro n
   induction n with
   | zero=>intro v i h0 h;rw [Wj,if_neg (by omega)];exact ZA trivial
   | succ n ihn =>
    intro v i h0 h;rw [Wj,if_pos (by omega)];refine Zz (Ax h0 (by omega)) fun g hg=>?_;refine Zz (ih g hg (by have:=Fm.G8 hg;omega)) fun b _=>?_;rw [YB (a:=i+1) (by omega) (by omega)];exact ihn _ (i+1) (by omega) (by omega)
  rw [Gn];exact Zz (loop f.kids.length 1 0 (by omega) (by omega)) fun _ _=>ZA trivial
theorem RZ {f:Fm} (hf:f.sz < 1099511627776):Tot (YL f) fun _=>True:=by
 unfold YL;refine Zz (Qr9 40 (by omega) f hf) fun _ _=>?_;exact Zz (p:=fun _=>True) (ZB (fun _=>Zz (Qgd f hf) fun _ _=>ZA trivial) (fun _=>ZA trivial)) fun _ _=>ZA trivial
theorem Si {s:ByteArray} (hs:s.size < 1099511627):Tot (I8 s) fun r=>r.1.sz<=27 * s.size:=by
 unfold I8;refine Zz (Qku hs 40 (by omega) 0 (by omega) (by omega)) fun x hx=>?_;refine Zz (p:=fun b=>b=false->0<=x.2) (ZB (fun _=>ZA fun h=>by cases h) (fun h=>?_)) fun b hb=>?_
 ·have h2:x.2<=s.size:=by rcases hx with hx | hx<;>omega
  exact Zz (D9 (by omega) (by omega) h2) fun _ _=>ZA fun _=>by omega
 have hsz:0<=x.2->x.1.sz<=27 * s.size:=fun h=>by
  rcases hx with hx | hx
  ·omega
  ·have:=hx.2.1;have:=hx.2.2;omega
 refine Zz (p:=fun b'=>b'=false->0<=x.2) (ZB (fun _=>ZA fun h=>by cases h) (fun h=>?_)) fun b' hb'=>?_
 ·have h0:=hb (by simpa using h);exact Zz (RZ (by have:=hsz h0;omega)) fun _ _=>ZA fun _=>h0
 refine ZB (fun _=>ZA ?_) (fun h=>ZA (hsz (hb' (by simpa using h))))
 simp only;rw [SB];show 0+0+0+0<=_;omega
theorem Oa {s:ByteArray} (hs:s.size<=1000):Tot (ID s) fun r=>r.sz<=27000:=by
 unfold ID;exact Zz (Si (by omega)) fun r hr=>ZA (by omega)
theorem Qd5:Tot Cr fun l=>1<=l.length/\∀s∈l,s.size<=1000:=⟨_,rfl,by decide,by decide⟩
theorem Qgi {c:Rdr} {k:Nat} (h:RdI c k) (hk:k < 1000000000):Tot (BZ c) fun r=>r.1.sz<=1000000/\RdI r.2 (k+1000000):=by
 unfold BZ;refine Zz Qd5 fun l hl=>?_;refine Zz (V6 h (by omega) (by omega)) fun x hx=>?_;refine ZB (fun _=>?_) (fun _=>?_)
 ·refine Zz (V6 hx.2.2 (by omega) (by omega)) fun y hy=>?_;refine Zz (Ax hy.1 hy.2.1) fun s hs=>?_;exact Zz (Oa (hl.2 s hs)) fun r hr=>ZA ⟨by simp only;omega,hy.2.2.mono (by omega)⟩
 refine Zz (AF hx.2.2 (by omega) (by simp)) fun d hd=>?_
 have hd':d.1=4∨d.1=3∨d.1=2:=by simpa using hd.1
 have hdn:∃n:Nat,n<=4/\d.1=(n:Int):=by
  rcases hd' with h | h | h
  ·exact ⟨4,by omega,h⟩
  ·exact ⟨3,by omega,h⟩
  ·exact ⟨2,by omega,h⟩
 obtain ⟨n,hn,hdn⟩:=hdn
 have hq:Qw n<=256000:=by
  have:Qw n<=Qw 4:=by
   unfold Qw;exact Nat.mul_le_mul_left _ (Nat.pow_le_pow_right (by omega) hn)
  exact this
 rw [hdn];refine Zz (Qh6 n hd.2 ⟨by simp,by simp;omega,by decide⟩ (by omega) (by omega)) fun v hv=>?_;refine Zz (V6 hv.2 (by omega) (by omega)) fun u hu=>?_;refine ZB (fun _=>?_) (fun _=>ZA ⟨by have:=hv.1;simp only;omega,hu.2.2.mono (by omega)⟩);refine Zz (Oa (by decide)) fun r hr=>?_;refine Zz (A8 _) fun n1 h1=>?_;refine Zz (A8 _) fun n2 h2=>?_;refine Zz (AB _) fun n3 h3=>?_;refine Zz (AB _) fun n4 h4=>?_;refine Zz (AB _) fun n5 h5=>ZA ⟨?_,hu.2.2.mono (by omega)⟩;have e1:(Qk #[108,101,116,45,115,121,110,116,97,120]).size=10:=rfl;have e2:(Qk #[103]).size=1:=rfl;have:=hv.1;simp only [YY,ZD,ZC] at h3 h4 h5
 simp only;omega
end Go.Proofs.SA
