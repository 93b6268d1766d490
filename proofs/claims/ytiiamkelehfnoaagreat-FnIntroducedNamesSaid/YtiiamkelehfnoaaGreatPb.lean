/- The draws yield something: the reader, copies, mutations, drawn forms. Imports the plain functions of a seat (gen2). -/
import Derived.Test.YtiiamkelehfnoaaGreatPa
import Derived.Test.YtiiamkelehfnoaaGreatinD
set_option linter.unusedVariables false
set_option linter.unusedSimpArgs false
set_option maxRecDepth 100000
open Go Go.Proofs Go.Proofs.Shadow
open Tot renaming bind → ZI, pure → ZJ, ite → ZK
open _root_.List renaming length_nil → ZL, length_cons → ZM, length_append → QV, take_succ_eq_append_getElem → ZO, getElem_mem → ZP, nil_append → QS, mem_singleton → ZQ
open _root_.ByteArray renaming mk → Qk
open _root_.Option renaming bind_some → Qf, bind_eq_bind → ZN
open Fm renaming mk → KQ, sz → ZR
open _root_.Nat renaming le_refl → Qt
open Go.IntKind (i64)
namespace Go.Proofs.SA
def RdI (c:Rdr) (k:Nat):Prop:=c.b.length<=2000/\(∀x∈c.b,0<=x/\x < 256)/\0<=c.p/\c.p<=k
theorem RdI.mono {c:Rdr} {k k':Nat} (h:RdI c k) (hk:k<=k'):RdI c k':=⟨h.1,h.2.1,h.2.2.1,by have:=h.2.2.2;omega⟩
theorem Ec {l:List Int} (h:∀x∈l,0<=x/\x < 256):Tot (J7 l) fun c=>RdI c 0:=by
 unfold J7;refine ZK (fun hc=>?_) (fun hc=>?_)
 ·refine ZI (Qd6 (by omega) (by omega) (by omega)) fun z hz=>ZJ ⟨by have:=hz.1;simp only;omega,fun x hx=>h x (hz.2 x hx),by simp,by simp⟩
 ·exact ZJ ⟨by simp only;omega,h,by simp,by simp⟩
theorem WL {c:Rdr} {k:Nat} {n:Int} (h:RdI c k) (hk:k < 1099511627776) (h1:1<=n):Tot (Yq n c) fun r=>0<=r.1/\r.1 < n/\RdI r.2 (k+1):=by
 obtain ⟨hb,hx,hp0,hpk⟩:=h;unfold Yq;have w1:i64.wrap (c.p+1)=c.p+1:=YJ (by omega) (by omega)
 have w2:i64.wrap (c.p+1 - 1)=c.p:=by rw [YJ (by omega) (by omega)];omega
 simp only [w1,w2,pure_bind];have hR:RdI ⟨c.b,c.p+1⟩ (k+1):=⟨hb,hx,by simp only;omega,by simp only;omega⟩;refine ZK (fun hc=>ZJ ⟨by simp,by simp only;omega,hR⟩) (fun hc=>?_);simp only [Bool.or_eq_true,decide_eq_true_eq,not_or] at hc;refine ZK (fun hl=>?_) (fun hl=>?_)
 ·refine ZI (Il hp0 hl) fun x hm=>?_;have:=hx x hm;rw [YJ (a:=x) (by omega) (by omega)];exact ZI (Li (by omega) h1) fun y hy=>ZJ ⟨hy.1,hy.2,hR⟩
 ·refine ZI (Li hp0 (by omega)) fun i hi=>?_;refine ZI (Il hi.1 hi.2) fun x hm=>?_;have h2:=hx x hm
  have w3:i64.wrap (i64.wrap (c.p * 7)+3)=c.p * 7+3:=by rw [YJ (a:=c.p * 7) (by omega) (by omega),YJ (by omega) (by omega)]
  rw [w3];refine ZI (Li (by omega) (by omega)) fun j hj=>?_;refine ZI (Il hj.1 hj.2) fun y hm2=>?_;have h3:=hx y hm2;refine ZI (Qdz hp0 (by omega) (by omega)) fun q hq=>?_
  have e:i64.wrap (i64.wrap (i64.wrap (i64.wrap (i64.wrap x * 131)+i64.wrap (i64.wrap y * 1117))+i64.wrap (c.p * 29))+i64.wrap (q * 53))=x * 131+y * 1117+c.p * 29+q * 53:=by
   rw [YJ (a:=x) (by omega) (by omega),YJ (a:=y) (by omega) (by omega),YJ (a:=x * 131) (by omega) (by omega),YJ (a:=y * 1117) (by omega) (by omega),YJ (a:=c.p * 29) (by omega) (by omega),YJ (a:=q * 53) (by omega) (by omega),YJ (a:=x * 131+y * 1117) (by omega) (by omega),YJ (a:=x * 131+y * 1117+c.p * 29) (by omega) (by omega),YJ (by omega) (by omega)]
  rw [e];generalize hv:x * 131+y * 1117+c.p * 29+q * 53=v
  have v0:0<=v:=by omega
  have v1:v < 1099511627776000:=by omega
  have d0:0<=v.tdiv 64:=Int.tdiv_nonneg v0 (by omega);have d1:v.tdiv 64<=v:=Int.tdiv_le_self _ v0;rw [YJ (a:=v.tdiv 64) (by omega) (by omega)];have:=Qdb v0 (by omega) d0 (by omega);exact ZI (Li this.1 h1) fun z hz=>ZJ ⟨hz.1,hz.2,hR⟩
theorem CF {c:Rdr} {k:Nat} {l:List Int} (h:RdI c k) (hk:k < 1099511627776) (hl:1<=l.length):Tot (YI l c) fun r=>r.1∈l/\RdI r.2 (k+1):=by
 unfold YI;refine ZI (WL h hk (by omega)) fun x hx=>?_;exact ZI (Il hx.1 hx.2.1) fun y hy=>ZJ ⟨hy,hx.2.2⟩
theorem Qbm {c:Rdr} {k:Nat} {l:List ByteArray} (h:RdI c k) (hk:k < 1099511627776) (hl:1<=l.length):Tot (Wp l c) fun r=>r.1∈l/\RdI r.2 (k+1):=by
 unfold Wp;refine ZI (WL h hk (by omega)) fun x hx=>?_;exact ZI (Il hx.1 hx.2.1) fun y hy=>ZJ ⟨hy,hx.2.2⟩
theorem Cx (k:Int) (s:ByteArray) (n:Int) (sc:List Int) (ks:List Fm):(KQ k s n sc ks).sz=s.size+sc.length+ks.length+Y4 ZR ks:=by rw [Fm.JM];rfl
theorem Ab (s:ByteArray):Tot (Vx s) fun f=>f.sz=s.size:=⟨_,rfl,by simp only;rw [Cx];simp [Y4]⟩
theorem IQ (l:List Fm):Tot (Wq l) fun f=>f.sz=l.length+Y4 ZR l:=⟨_,rfl,by simp only;rw [Cx];show 0+0+_+_=_;omega⟩
def Pw (d:Nat):Nat:=100 * 4 ^ d
theorem Qf2 (d:Nat):Pw (d+1)=4 * Pw d:=by simp only [Pw,Nat.pow_succ];omega
theorem Qch (d:Nat):100<=Pw d:=by simp only [Pw];have:0 < 4 ^ d:=Nat.pow_pos (by omega);omega
def Qbl:List ByteArray:=[(Qk #[97]),(Qk #[98]),(Qk #[120]),(Qk #[121]),(Qk #[102]),(Qk #[105,102]),(Qk #[108,101,116]),(Qk #[43])]
theorem SQ:∀(d:Nat) {c:Rdr} {k:Nat},RdI c k->d < 20->k+Pw d < 1099511627776->Tot (Gl d c) fun r=>r.1.sz<=Pw d/\RdI r.2 (k+Pw d):=by
 have base:∀{c:Rdr} {k n:Nat} {p:Int->Prop} {q:ByteArray->Prop},RdI c k->100<=n->k+n < 1099511627776+1->Tot (Yq 4 c>>=fun x=>if x.1=0 then (YI [0,1,2,7,42,999] x.2>>=fun y=>pure (KQ 2 (Qk #[]) y.1 [] [],y.2)) else (Wp Qbl x.2>>=fun y=>Vx y.1>>=fun z=>pure (z,y.2))) fun r=>r.1.sz<=100/\RdI r.2 (k+2):=by
  intro c k n p q h hn hk;refine ZI (WL h (by omega) (by omega)) fun x hx=>?_;refine ZK (fun _=>?_) (fun _=>?_)
  ·exact ZI (CF hx.2.2 (by omega) (by simp)) fun y hy=>ZJ ⟨by simp only;rw [Cx];show 0+0+0+0<=100;omega,hy.2⟩
  ·refine ZI (Qbm hx.2.2 (by omega) (by simp [Qbl])) fun y hy=>?_;refine ZI (Ab _) fun z hz=>ZJ ⟨?_,hy.2⟩
   have:∀s∈Qbl,s.size<=100:=by decide
   simp only;rw [hz];exact this _ hy.1
 intro d
 induction d with
 | zero =>
  intro c k h hd hk;rw [Gl];rw [if_pos (by rfl)];exact (base (p:=fun _=>True) (q:=fun _=>True) h (Qt 100) (by have:=Qch 0;omega)).mono fun r hr=>⟨by have:=Qch 0;omega,hr.2.mono (by have:=Qch 0;omega)⟩
 | succ d ih =>
  intro c k h hd hk;have hp:=Qch d;have hs:=Qf2 d
  have loop:∀(n:Nat) {z:List Fm} {b:List Int} {p:Int} {k:Nat},n<=3->z.length+n<=3->RdI ⟨b,p⟩ k->k+n * Pw d < 1099511627776->Tot (Gm ((d+1:Nat):Int) z n b p) fun r=>r.1.length<=z.length+n/\Y4 ZR r.1<=Y4 ZR z+n * Pw d/\RdI ⟨r.2.1,r.2.2⟩ (k+n * Pw d):=by
   intro n
   induction n with
   | zero =>
    intro z b p k _ _ h _;rw [Gm,if_neg (by omega)];exact ZJ ⟨by simp,by simp,by simpa using h⟩
   | succ n ihn =>
    intro z b p k hn hz h hk;rw [Nat.succ_mul] at hk;rw [Gm,if_pos (by omega)]
    have w1:i64.wrap (((d+1:Nat):Int) - 1)=(d:Int):=by rw [YJ (by omega) (by omega)];omega
    have w2:i64.wrap (((n+1:Nat):Int) - 1)=(n:Int):=by rw [YJ (by omega) (by omega)];omega
    rw [w1,w2];refine ZI (ih h (by omega) (by omega)) fun x hx=>?_;refine ZI (Bl (by simp only [ZM,ZL];omega)) fun y hy=>?_;subst hy;refine (ihn (by omega) (by simp only [QV,ZM,ZL];omega) hx.2 (by omega)).mono fun r hr=>?_;obtain ⟨r1,r2,r3⟩:=hr;simp only [QV,ZM,ZL,Dd,Y4] at r1 r2;rw [Nat.succ_mul];exact ⟨by omega,by have:=hx.1;omega,r3.mono (by omega)⟩
  rw [Gl,if_neg (by omega)];refine ZI (WL h (by omega) (by omega)) fun x hx=>?_;refine ZK (fun _=>?_) (fun _=>?_)
  ·exact (base (p:=fun _=>True) (q:=fun _=>True) hx.2.2 (Qt 100) (by omega)).mono fun r hr=>⟨by omega,hr.2.mono (by omega)⟩
  ·refine ZI (WL hx.2.2 (by omega) (by omega)) fun y hy=>?_;obtain ⟨m,hm⟩:=Int.eq_ofNat_of_zero_le hy.1
   have hm3:m<=3:=by have:=hy.2.1;omega
   have hmul:m * Pw d<=3 * Pw d:=Nat.mul_le_mul_right _ hm3;rw [hm];refine ZI (loop m hm3 (by simp;omega) hy.2.2 (by omega)) fun r hr=>?_;obtain ⟨r1,r2,r3⟩:=hr;simp only [ZL,Y4] at r1 r2;refine ZJ ⟨?_,r3.mono (by omega)⟩
   simp only;rw [Cx]
   show 0+0+_+_<=_;omega
end Go.Proofs.SA
namespace Go.Proofs.SA
def Qw (d:Nat):Nat:=1000 * 4 ^ d
theorem Qf3 (d:Nat):Qw (d+1)=4 * Qw d:=by simp only [Qw,Nat.pow_succ];omega
theorem Qjc (d:Nat):1000<=Qw d:=by simp only [Qw];have:0 < 4 ^ d:=Nat.pow_pos (by omega);omega
def NmI (l:List ByteArray) (d:Nat):Prop:=1<=l.length/\l.length+d<=1000/\∀s∈l,s.size<=10
theorem Qb1:∀(d:Nat) {a:List ByteArray} {c:Rdr} {k:Nat},RdI c k->NmI a d->d < 20->k+Qw d < 1099511627776->Tot (Vz a d c) fun r=>r.1.sz<=Qw d/\RdI r.2 (k+Qw d):=by
 have base:∀{a:List ByteArray} {c:Rdr} {k:Nat},RdI c k->1<=a.length->(∀s∈a,s.size<=10)->k+99 < 1099511627776->Tot (Yq 3 c>>=fun x=>if x.1=0 then (YI [0,1,2,7] x.2>>=fun y=>pure (KQ 2 (Qk #[]) y.1 [] [],y.2)) else (Yq (a.length:Int) x.2>>=fun y=>idx a y.1>>=fun u=>Vx u>>=fun z=>pure (z,y.2))) fun r=>r.1.sz<=100/\RdI r.2 (k+2):=by
  intro a c k h ha hs hk;refine ZI (WL h (by omega) (by omega)) fun x hx=>?_;refine ZK (fun _=>?_) (fun _=>?_)
  ·exact ZI (CF hx.2.2 (by omega) (by simp)) fun y hy=>ZJ ⟨by simp only;rw [Cx];show 0+0+0+0<=100;omega,hy.2⟩
  ·refine ZI (WL hx.2.2 (by omega) (by omega)) fun y hy=>?_;refine ZI (Il hy.1 hy.2.1) fun u hu=>?_;refine ZI (Ab _) fun z hz=>ZJ ⟨?_,hy.2.2⟩;have:=hs u hu
   simp only;omega
 intro d
 induction d with
 | zero =>
  intro a c k h ha hd hk;have:=Qjc 0;rw [Vz,if_pos (by rfl)];exact (base h ha.1 ha.2.2 (by omega)).mono fun r hr=>⟨by omega,hr.2.mono (by omega)⟩
 | succ d ih =>
  intro a c k h ha hd hk;have hp:=Qjc d;have hs:=Qf3 d
  have w1:i64.wrap (((d+1:Nat):Int) - 1)=(d:Int):=by rw [YJ (by omega) (by omega)];omega
  rw [Vz,if_neg (by omega)];simp only [w1];refine ZI (WL h (by omega) (by omega)) fun x hx=>?_;refine ZK (fun _=>?_) (fun _=>?_)
  ·exact (base hx.2.2 ha.1 ha.2.2 (by omega)).mono fun r hr=>⟨by omega,hr.2.mono (by omega)⟩
  refine ZI (Qbm hx.2.2 (by omega) (by simp)) fun v hv=>?_
  have hv10:v.1.size<=10:=by
   have:∀s∈[(Qk #[120]),(Qk #[121]),(Qk #[116])],s.size<=10:=by decide
   exact this _ hv.1
  refine ZI (Bl (by have:=ha.2.1;simp only [ZL];omega)) fun y hy=>?_;rw [QS] at hy;rw [hy];refine ZI (Bl (by have:=ha.2.1;simp only [ZL,ZM];omega)) fun y hy=>?_;subst hy;have ha0:NmI a d:=⟨ha.1,by have:=ha.2.1;omega,ha.2.2⟩
  have ha2:NmI (a++[v.1]) d:=⟨by simp,by have:=ha.2.1;simp;omega,fun s hs=>by
   simp only [List.mem_append,ZQ] at hs
   rcases hs with hs | rfl
   ·exact ha.2.2 s hs
   ·exact hv10⟩
  refine ZI (WL hv.2 (by omega) (by omega)) fun p hp'=>?_;obtain ⟨p0,p8,hR⟩:=hp';refine ZI (p:=fun _=>True) (ZK (fun _=>ZJ trivial) (fun _=>ZJ trivial)) fun b _=>?_;refine ZK (fun _=>?_) (fun _=>?_)
  ·
   refine ZI (Ab _) fun n1 h1=>?_;refine ZI (Ab _) fun n2 h2=>?_;refine ZI (IQ _) fun n3 h3=>?_;refine ZI (ih hR ha2 (by omega) (by omega)) fun n4 h4=>?_;refine ZI (IQ _) fun n5 h5=>ZJ ⟨?_,h4.2.mono (by omega)⟩;have e:(Qk #[108,97,109,98,100,97]).size=6:=rfl;have:=h4.1;simp only [Y4,ZM,ZL] at h3 h5
   simp only;omega
  refine ZI (p:=fun _=>True) (ZK (fun _=>ZJ trivial) (fun _=>ZJ trivial)) fun b _=>?_;refine ZK (fun _=>?_) (fun _=>?_)
  ·
   refine ZI (Ab _) fun n1 h1=>?_;refine ZI (ih hR ha0 (by omega) (by omega)) fun n2 h2=>?_;refine ZI (IQ _) fun n3 h3=>?_;refine ZI (Ab _) fun n4 h4=>?_;refine ZI (IQ _) fun n5 h5=>?_;refine ZI (ih h2.2 ha2 (by omega) (by omega)) fun n6 h6=>?_;refine ZI (IQ _) fun n7 h7=>ZJ ⟨?_,h6.2.mono (by omega)⟩;have e:(Qk #[108,101,116]).size=3:=rfl;have:=h2.1;have:=h6.1;simp only [Y4,ZM,ZL] at h3 h5 h7
   simp only;omega
  refine ZK (fun _=>?_) (fun _=>?_)
  ·
   refine ZI (Ab _) fun n1 h1=>?_;refine ZI (ih hR ha0 (by omega) (by omega)) fun n2 h2=>?_;refine ZI (ih h2.2 ha0 (by omega) (by omega)) fun n3 h3=>?_
   have hz:Tot (Vz a 0 n3.2) fun r=>r.1.sz<=100/\RdI r.2 (k+1+1+1+Qw d+Qw d+2):=by
    rw [Vz,if_pos (by rfl)];exact base h3.2 ha.1 ha.2.2 (by omega)
   refine ZI hz fun n4 h4=>?_;refine ZI (IQ _) fun n5 h5=>ZJ ⟨?_,h4.2.mono (by omega)⟩;have e:(Qk #[105,102]).size=2:=rfl;have:=h2.1;have:=h3.1;have:=h4.1;simp only [Y4,ZM,ZL] at h5
   simp only;omega
  refine ZK (fun _=>?_) (fun _=>?_)
  ·
   have q:Tot (Gl 1 p.2) fun r=>r.1.sz<=3 * Qw d+50/\RdI r.2 (k+1+1+1+(3 * Qw d+50)):=by
    have:=SQ 1 hR (by omega) (by show k+1+1+1+400 < _;omega);refine this.mono fun r hr=>⟨?_,hr.2.mono ?_⟩
    ·have:=hr.1;change r.1.sz<=400 at this;omega
    ·show k+1+1+1+400<=_;omega
   refine ZI (Ab _) fun n1 h1=>?_;refine ZI q fun n2 h2=>?_;refine ZI (IQ _) fun n3 h3=>ZJ ⟨?_,h2.2.mono (by omega)⟩;have e:(Qk #[113,117,111,116,101]).size=5:=rfl;have:=h2.1;simp only [Y4,ZM,ZL] at h3
   simp only;omega
  ·refine ZI (ih hR ha0 (by omega) (by omega)) fun n2 h2=>?_;refine ZI (ih h2.2 ha0 (by omega) (by omega)) fun n3 h3=>?_;refine ZI (IQ _) fun n5 h5=>ZJ ⟨?_,h3.2.mono (by omega)⟩;have:=h2.1;have:=h3.1;simp only [Y4,ZM,ZL] at h5
   simp only;omega
theorem AG:∀(f:Fm),f.sz < 1099511627776->Vb f=some f:=by
 intro f
 induction f using Fm.ind with
 | h f ih =>
  intro hf;have hz:=Fm.JM f;rw [Vb];rw [YH (by simp only [ZL];omega)];simp only [QS,ZN,Qf]
  have key:∀n (i:Nat),i+n=f.kids.length->Jw f f.sc (f.kids.take i) i=some f.kids:=by
   intro n
   induction n with
   | zero =>
    intro i hi;rw [Jw,if_neg (by omega),show i=f.kids.length by omega,List.take_length];rfl
   | succ n ihn =>
    intro i hi
    have hil:i < f.kids.length:=by omega
    rw [Jw,if_pos (by omega),Yg _ i hil];simp only [ZN,Qf];rw [ih _ (ZP _) (by have:=Fm.W7 (ZP hil);omega)];simp only [Qf];rw [YH (by simp only [List.length_take,ZM,ZL];omega)];simp only [Qf];rw [Wb (by omega),← ZO hil];exact ihn (i+1) (by omega)
  have:=key f.kids.length 0 (by omega);simp only [List.take_zero] at this;show (Jw f f.sc [] 0>>=fun e=>pure (KQ f.kind f.name f.num f.sc e))=_;have e0:((0:Nat):Int)=0:=rfl;rw [e0] at this;rw [this];cases f;rfl
theorem Qdf (f:Fm) (hf:f.sz < 1099511627776):JT f=some f:=by
  have hz:=Fm.JM f;rw [JT];rw [YH (by simp only [ZL];omega)];simp only [QS,ZN,Qf]
  have key:∀n (i:Nat),i+n=f.kids.length->Vd f f.sc (f.kids.take i) i=some f.kids:=by
   intro n
   induction n with
   | zero =>
    intro i hi;rw [Vd,if_neg (by omega),show i=f.kids.length by omega,List.take_length];rfl
   | succ n ihn =>
    intro i hi
    have hil:i < f.kids.length:=by omega
    rw [Vd,if_pos (by omega),Yg _ i hil];simp only [ZN,Qf];rw [AG _ (by have:=Fm.W7 (ZP hil);omega)];simp only [Qf];rw [YH (by simp only [List.length_take,ZM,ZL];omega)];simp only [Qf];rw [Wb (by omega),← ZO hil];exact ihn (i+1) (by omega)
  have:=key f.kids.length 0 (by omega);simp only [List.take_zero] at this;have e0:((0:Nat):Int)=0:=rfl;rw [e0] at this;rw [this];cases f;rfl
theorem OA {α:Type} (g:α->Nat):∀(l:List α) (i:Nat) (x:α) (h:i < l.length),Y4 g (l.set i x)+g l[i]=Y4 g l+g x
 | [],i,x,h=>by simp at h
 | a :: l,0,x,h=>by simp [Y4];omega
 | a :: l,i+1,x,h=>by
  simp only [List.set_cons_succ,Y4,List.getElem_cons_succ];have:=OA g l i x (by simpa using h);omega
theorem Qdv {α:Type} {l:List α} {i:Int} (h0:0<=i) (h:i < l.length):Tot (idx l i) fun x=>∃hi:i.toNat < l.length,x=l[i.toNat]:=by
 rw [RB l i h0 h];exact ⟨_,rfl,by omega,rfl⟩
theorem C9:∀(f:Fm) {c:Rdr} {k:Nat},RdI c k->f.sz < 1000000000->k+3 * (f.sz+1) < 1099511627776->Tot (WR f c) fun r=>r.1.sz<=f.sz+20/\RdI r.2 (k+3 * (f.sz+1)):=by
 intro f
 induction f using Fm.ind with
 | h f ih =>
  intro c k h hf hk;have hz:=Fm.JM f
  have tail:∀{c:Rdr} {k:Nat} {q:Nat},RdI c k->k+2 < 1099511627776->Tot (Yq 14 c>>=fun x36 =>
   if x36.1=0 then (YI [0,4,1,3] x36.2>>=fun x41=>pure (KQ x41.1 f.name f.num f.sc f.kids,x41.2))
   else if x36.1=1 then (Wp [(Qk #[]),(Qk #[65]),(Qk #[116,111,111,108,111,110,103,97,110,97,109,101,49]),(Qk #[122]),(Qk #[120,32,121])] x36.2>>=fun x47=>pure (KQ f.kind x47.1 f.num f.sc f.kids,x47.2))
   else if x36.1=2 then (YI [1000,-1,5] x36.2>>=fun x53=>pure (KQ f.kind f.name x53.1 f.sc f.kids,x53.2))
   else if x36.1=3 then (YI [0,100,1,50] x36.2>>=fun x61=>Wm 8 f.sc [x61.1]>>=fun x63=>pure (KQ f.kind f.name f.num x63 f.kids,x61.2))
   else pure (KQ f.kind f.name f.num f.sc f.kids,x36.2)) fun r=>r.1.sz<=f.sz+20/\RdI r.2 (k+2):=by
   intro c k q h hk;refine ZI (WL h (by omega) (by omega)) fun x hx=>?_;obtain ⟨_,_,hR⟩:=hx;refine ZK (fun _=>ZI (CF hR (by omega) (by simp)) fun y hy=>ZJ ⟨by simp only;rw [Cx];omega,hy.2⟩) (fun _=>?_);refine ZK (fun _=>ZI (Qbm hR (by omega) (by simp)) fun y hy=>ZJ ⟨?_,hy.2⟩) (fun _=>?_)
   ·have:∀s∈[(Qk #[]),(Qk #[65]),(Qk #[116,111,111,108,111,110,103,97,110,97,109,101,49]),(Qk #[122]),(Qk #[120,32,121])],s.size<=20:=by decide
    have:=this _ hy.1
    simp only;rw [Cx];omega
   refine ZK (fun _=>ZI (CF hR (by omega) (by simp)) fun y hy=>ZJ ⟨by simp only;rw [Cx];omega,hy.2⟩) (fun _=>?_);refine ZK (fun _=>ZI (CF hR (by omega) (by simp)) fun y hy=>?_) (fun _=>?_)
   ·refine ZI (Bl (by simp only [ZM,ZL];omega)) fun z hz'=>ZJ ⟨?_,hy.2⟩;subst hz'
    simp only;rw [Cx];simp only [QV,ZM,ZL];omega
   ·exact ZJ ⟨by simp only;rw [Cx];omega,hR.mono (by omega)⟩
  rw [WR,Qdf f (by omega)];refine ZI (p:=fun x=>x=f) ⟨f,rfl,rfl⟩ fun x hx=>?_;subst hx;refine ZK (fun hl=>?_) (fun hl=>?_)
  ·refine ZI (WL h (by omega) (by omega)) fun p hp=>?_;refine ZK (fun _=>?_) (fun _=>?_)
   ·refine ZI (WL hp.2.2 (by omega) (by omega)) fun q hq=>?_;refine ZI (Qdv hq.1 hq.2.1) fun g hg=>?_;obtain ⟨hi,rfl⟩:=hg;have hm:x.kids[q.1.toNat]∈x.kids:=ZP _;have:=Ad ZR x.kids _ hm;refine ZI (ih _ hm hq.2.2 (by omega) (by omega)) fun g' hg'=>?_;refine ZI (Il hq.1 hq.2.1) fun u _=>ZJ ⟨?_,hg'.2.mono (by omega)⟩;have h3:=OA ZR x.kids q.1.toNat g'.1 hi;have:=hg'.1
    simp only;rw [Cx,List.length_set];omega
   ·exact (tail (q:=0) hp.2.2 (by omega)).mono fun r hr=>⟨hr.1,hr.2.mono (by omega)⟩
  ·exact (tail (q:=0) h (by omega)).mono fun r hr=>⟨hr.1,hr.2.mono (by omega)⟩
end Go.Proofs.SA
namespace Go.Proofs.SA
theorem Af {c:Prop} [Decidable c] {o:Option Bool} (h:c->Tot o fun _=>True):Tot (if c then o else pure false) fun b=>b=true->c:=by
 refine ZK (fun hc=>(h hc).mono fun _ _ _=>hc) (fun hc=>ZJ fun h=>by cases h)
theorem SH {c:Prop} [Decidable c] {o:Option Bool} (h:¬c->Tot o fun _=>True):Tot (if c then pure true else o) fun b=>b=false->¬c:=by
 refine ZK (fun hc=>ZJ fun h=>by cases h) (fun hc=>(h hc).mono fun _ _ _=>hc)
theorem Qem {s:ByteArray} (hs:s.size < 1099511627776):∀(n:Nat) (i:Int),0<=i->i+n=s.size->Tot (JA s i) fun r=>i<=r/\r<=s.size:=by
 intro n
 induction n with
 | zero =>
  intro i h0 h;rw [JA,if_neg (by omega)];exact ⟨i,rfl,by omega,by omega⟩
 | succ n ih =>
  intro i h0 h;rw [JA];refine ZI (Af fun hc=>ZI (G3 h0 hc) fun _ _=>ZJ trivial) fun b hb=>?_;refine ZK (fun hb'=>?_) (fun _=>ZJ ⟨by omega,by omega⟩);rw [YJ (by omega) (by omega)];exact (ih (i+1) (by omega) (by omega)).mono fun r hr=>⟨by omega,hr.2⟩
theorem CI {s:ByteArray} (hs:s.size < 1099511627776) {i:Int} (h0:0<=i) (h:i<=s.size):Tot (HH s i) fun r=>i<=r/\r<=s.size:=by
 unfold HH;exact ZI (Qem hs (s.size - i.toNat) i h0 (by omega)) fun r hr=>ZJ hr
theorem Qe6 {s:ByteArray} (hs:s.size < 1099511627776):∀(n:Nat) (i:Int),0<=i->i+n=s.size->Tot (JB s i) fun r=>i<=r/\r<=s.size:=by
 intro n
 induction n with
 | zero =>
  intro i h0 h;rw [JB,if_neg (by omega)];exact ⟨i,rfl,by omega,by omega⟩
 | succ n ih =>
  intro i h0 h;rw [JB];refine ZI (Af fun hc=>ZI (G3 h0 hc) fun _ _=>ZJ trivial) fun b hb=>?_;refine ZI (Af fun hc=>ZI (G3 h0 (hb hc)) fun _ _=>ZJ trivial) fun b2 hb2=>?_;refine ZI (Af fun hc=>ZI (G3 h0 (hb (hb2 hc))) fun _ _=>ZJ trivial) fun b3 hb3=>?_;refine ZI (Af fun hc=>ZI (G3 h0 (hb (hb2 (hb3 hc)))) fun _ _=>ZJ trivial) fun b4 hb4=>?_;refine ZK (fun hb'=>?_) (fun _=>ZJ ⟨by omega,by omega⟩);rw [YJ (by omega) (by omega)];exact (ih (i+1) (by omega) (by omega)).mono fun r hr=>⟨by omega,hr.2⟩
theorem Qca {s:ByteArray} (hs:s.size < 1099511627776) {i:Int} (h0:0<=i) (h:i<=s.size):Tot (AU s i) fun r=>i<=r/\r<=s.size:=by
 unfold AU;exact ZI (Qe6 hs (s.size - i.toNat) i h0 (by omega)) fun r hr=>ZJ hr
theorem TG {s:ByteArray} {x:Bool} (hs:s.size < 1099511627776):∀(n:Nat) (v i:Int),0<=i->i+n=s.size->Tot (Jv x s v i) fun _=>True:=by
 intro n
 induction n with
 | zero =>
  intro v i h0 h;rw [Jv,if_neg (by omega)];exact ⟨_,rfl,trivial⟩
 | succ n ih =>
  intro v i h0 h;rw [Jv,if_pos (by omega)];have hx:=G3 (s:=s) h0 (by omega);refine ZI hx fun a _=>?_;refine ZI (p:=fun _=>True) (ZK (fun _=>ZJ trivial) (fun _=>ZI hx fun _ _=>ZJ trivial)) fun b _=>?_;refine ZK (fun _=>ZJ trivial) (fun _=>?_);refine ZI hx fun a _=>?_;rw [YJ (a:=i+1) (by omega) (by omega)];exact ih _ (i+1) (by omega) (by omega)
theorem Ps {s:ByteArray} (hs:s.size < 1099511627776):Tot (I4 s) fun r=>r.2=true->1<=s.size:=by
 unfold I4;refine ZI (Af fun hc=>ZI (G3 (by omega) (by omega)) fun _ _=>ZJ trivial) fun b hb=>?_;refine ZI (p:=fun z=>z.size<=s.size) (ZK (fun hb'=>?_) (fun _=>ZJ (Qt _))) fun z hz=>?_
 ·exact ZI (Lk (by omega) (by have:=hb hb';omega) (by omega)) fun z hz=>ZJ (by omega)
 simp only [pure_bind];refine ZI (p:=fun b=>b=false->1<=z.size) (ZK (fun hb'=>ZJ fun h=>by cases h) (fun hb'=>?_)) fun b2 hb2=>?_
 ·simp only [Bool.or_eq_true,decide_eq_true_eq,not_or] at hb';refine ZI (G3 (by omega) (by omega)) fun a _=>?_
  refine ZI (p:=fun _=>True) (ZK (fun _=>ZJ trivial) (fun _=>ZJ trivial)) fun _ _=>ZJ fun _=>by omega
 refine ZK (fun _=>ZJ fun h=>by cases h) (fun hb'=>?_);have h1:=hb2 (by simpa using hb');refine ZI (TG (by omega) z.size 0 0 (by omega) (by omega)) fun o _=>?_
 cases o with
 | inl r=>exact ZJ fun _=>by omega
 | inr e=>exact ZK (fun _=>ZJ fun _=>by omega) (fun _=>ZJ fun _=>by omega)
theorem Tw {s:ByteArray} {c:Int} (hs:s.size < 1099511627):∀(n:Nat) (z:List ByteArray) (a i:Int),0<=a->a<=i->i+n=s.size+1->z.length+n<=s.size+1->(∀x∈z,x.size<=s.size)->Tot (WO s c z a i) fun r=>∀x∈r,x.size<=s.size:=by
 intro n
 induction n with
 | zero =>
  intro z a i h0 h1 h2 h3 h4;rw [WO,if_neg (by omega)];exact ⟨_,rfl,h4⟩
 | succ n ih =>
  intro z a i h0 h1 h2 h3 h4;rw [WO,if_pos (by omega)];refine ZI (SH fun hc=>ZI (G3 (by omega) (by omega)) fun _ _=>ZJ trivial) fun b hb=>?_;rw [YJ (a:=i+1) (by omega) (by omega)];refine ZK (fun _=>?_) (fun _=>ih z a (i+1) h0 (by omega) (by omega) (by omega) h4);refine ZI (Lk h0 h1 (by omega)) fun y hy=>?_;refine ZI (Bl (by simp only [ZM,ZL];omega)) fun w hw=>?_;subst hw;refine ih _ (i+1) (i+1) (by omega) (by omega) (by omega) (by simp only [QV,ZM,ZL];omega) fun x hx=>?_
  rcases List.mem_append.1 hx with hx | hx
  ·exact h4 x hx
  ·rw [ZQ] at hx;subst hx;omega
theorem RM {s:ByteArray} {a:Int} (hs:s.size < 1099511627776):∀(n:Nat) (i:Int),0<=i->i+n=s.size->Tot (We s a i) fun r=>i<=r/\r<=s.size:=by
 intro n
 induction n with
 | zero =>
  intro i h0 h;rw [We,if_neg (by omega)];exact ⟨i,rfl,by omega,by omega⟩
 | succ n ih =>
  intro i h0 h;rw [We];refine ZI (Af fun hc=>ZI (G3 h0 hc) fun _ _=>ZJ trivial) fun b hb=>?_;refine ZK (fun hb'=>?_) (fun _=>ZJ ⟨by omega,by omega⟩);rw [YJ (by omega) (by omega)];exact (ih (i+1) (by omega) (by omega)).mono fun r hr=>⟨by omega,hr.2⟩
theorem RN {e:Int} {l:List ByteArray} (hl:∀x∈l,x.size < 1099511627776):∀(n:Nat) (z:List Int) (i:Int),0<=i->i+n=25->z.length<=i->Tot (Jz e l z i) fun r=>match r with | .inl r=>r.2=-1/\r.1.length<=25 | .inr r=>r.length<=25:=by
 intro n
 induction n with
 | zero =>
  intro z i h0 h1 h2;rw [Jz];refine ZI (p:=fun b=>b=true->i < l.length/\i<=24) (ZJ fun h=>by simpa using h) fun b hb=>?_;refine ZK (fun h=>by have:=hb h;omega) (fun _=>ZJ (by simp only;omega))
 | succ n ih =>
  intro z i h0 h1 h2;rw [Jz];refine ZI (p:=fun b=>b=true->i < l.length/\i<=24) (ZJ fun h=>by simpa using h) fun b hb=>?_;refine ZK (fun h=>?_) (fun _=>ZJ (by simp only;omega));have:=hb h;refine ZI (Il h0 this.1) fun x hx=>?_;refine ZI (Ps (hl x hx)) fun v _=>?_;refine ZK (fun _=>ZJ (by simp only;exact ⟨trivial,by omega⟩)) (fun _=>?_);refine ZI (Bl (by simp only [ZM,ZL];omega)) fun w hw=>?_;subst hw;rw [YJ (a:=i+1) (by omega) (by omega)];exact ih _ (i+1) (by omega) (by omega) (by simp only [QV,ZM,ZL];omega)
theorem Qel {s:ByteArray} (hs:s.size < 1099511627) {i:Int} (h0:0<=i) (h:i<=s.size):Tot (AT s i) fun r=>r.1.length<=25/\(r.2=-1∨(i<=r.2/\r.2<=s.size)):=by
 unfold AT;refine ZI (p:=fun b=>b=false->i < s.size/\Fw s i=some 123) (ZK (fun _=>ZJ fun h=>by cases h) (fun hc=>?_)) fun b hb=>?_
 ·obtain ⟨v,hv,_⟩:=G3 (s:=s) h0 (by omega);rw [hv];refine ZI (p:=fun a=>a=v) ⟨v,rfl,rfl⟩ fun a ha=>ZJ fun h=>⟨by omega,?_⟩;subst ha
  have:a=123:=by simpa using h
  rw [this]
 refine ZK (fun _=>ZJ ⟨by simp,.inr ⟨by simp,h⟩⟩) (fun hb'=>?_);obtain ⟨hi,hv⟩:=hb (by simpa using hb')
 have he:Tot (We s i i) fun e=>i+1<=e/\e<=s.size:=by
  rw [We,if_pos hi,hv];refine ZI (p:=fun b=>b=true) ⟨true,rfl,rfl⟩ fun b hb=>?_;rw [if_pos hb,YJ (by omega) (by omega)];exact RM (by omega) (s.size - (i+1).toNat) (i+1) (by omega) (by omega)
 refine ZI he fun e he=>?_;refine ZK (fun _=>ZJ ⟨by simp,.inl rfl⟩) (fun hne=>?_);rw [YJ (a:=i+1) (by omega) (by omega),YJ (a:=e+1) (by omega) (by omega)];refine ZI (Lk (by omega) he.1 he.2) fun x hx=>?_
 have hc:Tot (AP x 44) fun r=>∀y∈r,y.size<=x.size:=by
  unfold AP;exact ZI (Tw (by omega) (x.size+1) [] 0 0 (by omega) (by omega) (by omega) (by simp) (by simp)) fun r hr=>ZJ hr
 refine ZI hc fun r hr=>?_;refine ZI (RN (fun y hy=>by have:=hr y hy;omega) 25 [] 0 (by omega) (by omega) (by simp)) fun o ho=>?_
 cases o with
 | inl r=>exact ZJ ⟨ho.2,.inl ho.1⟩
 | inr r=>exact ZJ ⟨ho,.inr ⟨by simp only;omega,by simp only;omega⟩⟩
theorem N5 {s:ByteArray} (h:s.size=0):s=Qk #[]:=by
 obtain ⟨⟨l⟩⟩:=s
 congr
 simpa [ByteArray.size] using h
def Qjd (s:ByteArray) (i:Int) (r:Fm × Int):Prop:=r.2=-1∨(i < r.2/\r.2<=s.size/\(r.1.sz:Int)+1<=27 * (r.2 - i))
theorem Qda {s:ByteArray} (hs:s.size < 1099511627) {i:Int} (h0:0<=i) (h:i<=s.size):Tot (AQ s i) (Qjd s i):=by
 unfold AQ;refine ZI (Qca (by omega) h0 h) fun j hj=>?_;refine ZI (Lk h0 hj.1 hj.2) fun w hw=>?_;refine ZI (Ps (by omega)) fun v hv=>?_;refine ZK (fun hb=>?_) (fun _=>?_)
 ·have:=hv hb;refine ZJ (.inr ⟨by simp only;omega,by simp only;omega,?_⟩)
  simp only;rw [Cx];show ((0+0+0+0:Nat):Int)+1<=_;omega
 refine ZK (fun _=>ZJ (.inl rfl)) (fun hne=>?_)
 have hj1:i < j:=by
  rcases Int.lt_or_le i j with h1 | h1
  ·exact h1
  ·exact absurd (N5 (s:=w) (by omega)) hne
 refine ZI (Qel hs (by omega) hj.2) fun t ht=>ZJ ?_
 rcases ht.2 with h2 | h2
 ·exact .inl h2
 ·refine .inr ⟨by simp only;omega,h2.2,?_⟩
  simp only;rw [Cx]
  have:=ht.1;show ((w.size+t.1.length+0+0:Nat):Int)+1<=_;omega
theorem Qed {s:ByteArray} (hs:s.size < 1099511627):∀(d:Nat),d < 1000->∀(i:Int),0<=i->i<=s.size->Tot (HG s i d) (Qjd s i):=by
 intro d
 induction d with
 | zero =>
  intro _ i h0 h;rw [HG];refine ZI (CI (by omega) h0 h) fun j hj=>?_;refine ZI (p:=fun b=>b=true) (ZJ (by simp)) fun b hb=>?_;rw [if_pos hb];exact ZJ (.inl rfl)
 | succ d ih =>
  intro hd i h0 h
  have loop:∀(n:Nat) (z:List Fm) (a:Int) (j:Int),0<=a->a<=j->j+n=s.size->z.length<=400->(Y4 ZR z:Int)+z.length<=27 * (j - a)->Tot (Hk s ((d+1:Nat):Int) z j) fun o=>match o with | .inl r=>r.2=-1 | .inr r=>a<=r.2/\r.2<=s.size/\(Y4 ZR r.1:Int)+r.1.length<=27 * (r.2 - a):=by
   intro n
   induction n using Nat.strongRecOn with
   | _ n ihn =>
    intro z a j ha haj hj hz hsz;rw [Hk];refine ZI (Af fun hc=>ZI (G3 (by omega) hc) fun _ _=>ZJ trivial) fun b hb=>?_;refine ZI (p:=fun b'=>b'=true->b=true/\(z.length:Int) < 400) (ZJ fun h=>by simpa using h) fun b' hb'=>?_;refine ZK (fun hbt=>?_) (fun _=>ZJ (by simp only;exact ⟨haj,by omega,hsz⟩));obtain ⟨h1,h2⟩:=hb' hbt;have h3:=hb h1;rw [YJ (by omega) (by omega),show ((d+1:Nat):Int) - 1=(d:Int) by omega];refine ZI (ih (by omega) j (by omega) (by omega)) fun x hx=>?_;refine ZK (fun _=>ZJ (by simp only)) (fun hx0=>?_)
    rcases hx with hx | hx
    ·omega
    refine ZI (Bl (by simp only [ZM,ZL];omega)) fun w hw=>?_;subst hw;refine ZI (CI (by omega) (by omega) hx.2.1) fun k hk=>?_;refine ihn (s.size - k.toNat) (by omega) _ a k ha (by omega) (by omega) (by simp only [QV,ZM,ZL];omega) ?_;simp only [Dd,Y4,QV,ZM,ZL];omega
  rw [HG];refine ZI (CI (by omega) h0 h) fun j hj=>?_;refine ZI (p:=fun b=>b=false->j < s.size) (ZJ fun h=>by simp at h;omega) fun b hb=>?_;refine ZK (fun _=>ZJ (.inl rfl)) (fun hb'=>?_);have hjs:=hb (by simpa using hb');refine ZI (G3 (by omega) hjs) fun c _=>?_;refine ZK (fun _=>?_) (fun _=>?_)
  ·rw [YJ (a:=j+1) (by omega) (by omega)];refine ZI (CI (by omega) (by omega) (by omega)) fun k hk=>?_;refine ZI (loop (s.size - k.toNat) [] k k (by omega) (by omega) (by omega) (by simp) (by simp [Y4])) fun o ho=>?_
   cases o with
   | inl r=>exact ZJ (.inl ho)
   | inr r =>
    obtain ⟨r1,r2⟩:=r;simp only at ho ⊢;refine ZI (SH fun hc=>ZI (G3 (by omega) (by omega)) fun _ _=>ZJ trivial) fun b hb=>?_;refine ZK (fun _=>ZJ (.inl rfl)) (fun hb'=>?_);have:=hb (by simpa using hb');rw [YJ (a:=r2+1) (by omega) (by omega)];refine ZJ (.inr ⟨by simp only;omega,by simp only;omega,?_⟩)
    simp only;rw [Cx]
    show ((0+0+r1.length+Y4 ZR r1:Nat):Int)+1<=_;omega
  ·refine ZI (Qda hs (by omega) (by omega)) fun x hx=>ZJ ?_
   rcases hx with hx | hx
   ·exact .inl hx
   ·exact .inr ⟨by simp only;omega,hx.2.1,by have:=hx.2.2;simp only;omega⟩
end Go.Proofs.SA
namespace Go.Proofs.SA
theorem TB (c:Int) (b:Bool):Tot (G6 c b) fun _=>True:=by
 unfold G6;simp only [pure_bind];refine ZK (fun _=>ZJ trivial) (fun _=>?_);exact ZI (p:=fun _=>True) (ZK (fun _=>ZJ trivial) (fun _=>ZJ trivial)) fun _ _=>ZJ trivial
theorem FJ {s:ByteArray} : ∀(n:Nat) (i:Int),0<=i->i+n=13->Tot (Vh s i) fun _=>True:=by
 intro n
 induction n with
 | zero =>
  intro i h0 h;rw [Vh];refine ZI (p:=fun b=>b=true->i < s.size/\i<=12) (ZJ fun h=>by simpa using h) fun b hb=>?_;exact ZK (fun h=>by have:=hb h;omega) (fun _=>ZJ trivial)
 | succ n ih =>
  intro i h0 h;rw [Vh];refine ZI (p:=fun b=>b=true->i < s.size/\i<=12) (ZJ fun h=>by simpa using h) fun b hb=>?_;refine ZK (fun h=>?_) (fun _=>ZJ trivial);have:=hb h;refine ZI (G3 h0 this.1) fun c _=>?_;refine ZI (TB _ _) fun v _=>?_;refine ZK (fun _=>ZJ trivial) (fun _=>?_);rw [YJ (by omega) (by omega)];exact ih _ (by omega) (by omega)
theorem Of (s:ByteArray):Tot (WM s) fun _=>True:=by
 unfold WM;refine ZI (p:=fun _=>True) (ZJ trivial) fun _ _=>?_;refine ZK (fun _=>ZJ trivial) (fun _=>?_);refine ZI (FJ 13 0 (by omega) (by omega)) fun o _=>?_
 cases o with
 | inl r=>exact ZJ trivial
 | inr r=>exact ZI (p:=fun _=>True) (ZJ trivial) fun _ _=>ZJ trivial
theorem Om {l:List Int} : ∀(n:Nat) (i:Int),0<=i->i+n=25->Tot (Vn l i) fun _=>True:=by
 intro n
 induction n with
 | zero =>
  intro i h0 h;rw [Vn];refine ZI (p:=fun b=>b=true->i < l.length/\i<=24) (ZJ fun h=>by simpa using h) fun b hb=>?_;exact ZK (fun h=>by have:=hb h;omega) (fun _=>ZJ trivial)
 | succ n ih =>
  intro i h0 h;rw [Vn];refine ZI (p:=fun b=>b=true->i < l.length/\i<=24) (ZJ fun h=>by simpa using h) fun b hb=>?_;refine ZK (fun h=>?_) (fun _=>ZJ trivial);have hi:=(hb h).1;have hx:=Il h0 hi;refine ZI hx fun x _=>?_;refine ZI (p:=fun _=>True) (ZK (fun _=>ZJ trivial) (fun _=>ZI hx fun _ _=>ZJ trivial)) fun _ _=>?_;refine ZI (p:=fun _=>True) (ZK (fun _=>ZJ trivial) (fun _=>?_)) fun _ _=>?_
  ·refine ZI (p:=fun _=>True) (ZK (fun h1=>?_) (fun _=>ZJ trivial)) fun _ _=>ZJ trivial;rw [YJ (by omega) (by omega)];exact ZI hx fun _ _=>ZI (Il (by omega) (by omega)) fun _ _=>ZJ trivial
  refine ZK (fun _=>ZJ trivial) (fun _=>?_);rw [YJ (by omega) (by omega)];exact ih _ (by omega) (by omega)
theorem TU (l:List Int):Tot (J8 l) fun _=>True:=by
 unfold J8;refine ZI (Om 25 0 (by omega) (by omega)) fun o _=>?_
 cases o with
 | inl r=>exact ZJ trivial
 | inr r=>exact ZJ trivial
theorem pb {α:Type} {b:Bool} {k:Bool->Option α} {p:α->Prop} (h:∀b,Tot (k b) p):Tot ((pure b:Option Bool)>>=k) p:=h b
theorem Qk0:∀(d:Nat),d < 1000->∀(f:Fm),f.sz < 1099511627776->Tot (Hg f d) fun _=>True:=by
 intro d
 induction d with
 | zero=>intro _ f _;rw [Hg,if_pos (by rfl)];exact ZJ trivial
 | succ d ih =>
  intro hd f hf;have hz:=Fm.JM f
  have loop:∀(n:Nat) (i:Int),0<=i->i+n=f.kids.length->Tot (Jy f ((d+1:Nat):Int) i) fun _=>True:=by
   intro n
   induction n with
   | zero=>intro i h0 h;rw [Jy,if_neg (by omega)];exact ZJ trivial
   | succ n ihn =>
    intro i h0 h;rw [Jy,if_pos (by omega)];refine ZI (Il h0 (by omega)) fun g hg=>?_;rw [YJ (by omega) (by omega),YJ (by omega) (by omega),show ((d+1:Nat):Int) - 1=(d:Int) by omega];refine ZI (ih (by omega) g (by have:=Fm.W7 hg;omega)) fun b _=>?_;exact ZK (fun _=>ZJ trivial) (fun _=>ihn (i+1) (by omega) (by omega))
  rw [Hg,if_neg (by omega)];refine ZK (fun _=>?_) (fun _=>?_)
  ·refine ZI (Of _) fun _ _=>pb fun b=>?_;refine ZI (p:=fun _=>True) (ZK (fun _=>ZI (TU _) fun _ _=>ZJ trivial) (fun _=>ZJ trivial)) fun _ _=>pb fun _=>ZJ trivial
  refine ZK (fun _=>pb fun _=>pb fun _=>pb fun _=>pb fun _=>ZJ trivial) (fun _=>?_);refine pb fun _=>pb fun _=>pb fun _=>?_;refine ZK (fun _=>ZJ trivial) (fun _=>?_);refine ZI (loop f.kids.length 0 (by omega) (by omega)) fun o _=>?_
  cases o with
  | inl r=>exact ZJ trivial
  | inr r=>exact ZJ trivial
theorem Qan:∀(f:Fm),f.sz < 1099511627776->Tot (Jx f) fun _=>True:=by
 intro f
 induction f using Fm.ind with
 | h f ih =>
  intro hf;have hz:=Fm.JM f
  have loop:∀(n:Nat) (v i:Int),0<=i->i+n=f.kids.length->Tot (VR f v i) fun _=>True:=by
   intro n
   induction n with
   | zero=>intro v i h0 h;rw [VR,if_neg (by omega)];exact ZJ trivial
   | succ n ihn =>
    intro v i h0 h;rw [VR,if_pos (by omega)];refine ZI (Il h0 (by omega)) fun g hg=>?_;refine ZI (ih g hg (by have:=Fm.W7 hg;omega)) fun b _=>?_;rw [YJ (a:=i+1) (by omega) (by omega)];exact ihn _ (i+1) (by omega) (by omega)
  rw [Jx];exact ZI (loop f.kids.length 1 0 (by omega) (by omega)) fun _ _=>ZJ trivial
theorem N8 {f:Fm} (hf:f.sz < 1099511627776):Tot (Yu f) fun _=>True:=by
 unfold Yu;refine ZI (Qk0 40 (by omega) f hf) fun _ _=>?_;exact ZI (p:=fun _=>True) (ZK (fun _=>ZI (Qan f hf) fun _ _=>ZJ trivial) (fun _=>ZJ trivial)) fun _ _=>ZJ trivial
theorem Oh {s:ByteArray} (hs:s.size < 1099511627):Tot (Ic s) fun r=>r.1.sz<=27 * s.size:=by
 unfold Ic;refine ZI (Qed hs 40 (by omega) 0 (by omega) (by omega)) fun x hx=>?_;refine ZI (p:=fun b=>b=false->0<=x.2) (ZK (fun _=>ZJ fun h=>by cases h) (fun h=>?_)) fun b hb=>?_
 ·have h2:x.2<=s.size:=by rcases hx with hx | hx<;>omega
  exact ZI (CI (by omega) (by omega) h2) fun _ _=>ZJ fun _=>by omega
 have hsz:0<=x.2->x.1.sz<=27 * s.size:=fun h=>by
  rcases hx with hx | hx
  ·omega
  ·have:=hx.2.1;have:=hx.2.2;omega
 refine ZI (p:=fun b'=>b'=false->0<=x.2) (ZK (fun _=>ZJ fun h=>by cases h) (fun h=>?_)) fun b' hb'=>?_
 ·have h0:=hb (by simpa using h);exact ZI (N8 (by have:=hsz h0;omega)) fun _ _=>ZJ fun _=>h0
 refine ZK (fun _=>ZJ ?_) (fun h=>ZJ (hsz (hb' (by simpa using h))))
 simp only;rw [Cx];show 0+0+0+0<=_;omega
theorem L2 {s:ByteArray} (hs:s.size<=1000):Tot (HF s) fun r=>r.sz<=27000:=by
 unfold HF;exact ZI (Oh (by omega)) fun r hr=>ZJ (by omega)
theorem T1:Tot Bt fun l=>1<=l.length/\∀s∈l,s.size<=1000:=⟨_,rfl,by decide,by decide⟩
theorem Qat {c:Rdr} {k:Nat} (h:RdI c k) (hk:k < 1000000000):Tot (A1 c) fun r=>r.1.sz<=1000000/\RdI r.2 (k+1000000):=by
 unfold A1;refine ZI T1 fun l hl=>?_;refine ZI (WL h (by omega) (by omega)) fun x hx=>?_;refine ZK (fun _=>?_) (fun _=>?_)
 ·refine ZI (WL hx.2.2 (by omega) (by omega)) fun y hy=>?_;refine ZI (Il hy.1 hy.2.1) fun s hs=>?_;exact ZI (L2 (hl.2 s hs)) fun r hr=>ZJ ⟨by simp only;omega,hy.2.2.mono (by omega)⟩
 refine ZI (CF hx.2.2 (by omega) (by simp)) fun d hd=>?_
 have hd':d.1=4∨d.1=3∨d.1=2:=by simpa using hd.1
 have hdn:∃n:Nat,n<=4/\d.1=(n:Int):=by
  rcases hd' with h | h | h
  ·exact ⟨4,by omega,h⟩
  ·exact ⟨3,by omega,h⟩
  ·exact ⟨2,by omega,h⟩
 obtain ⟨n,hn,hdn⟩:=hdn
 have hq:Qw n<=256000:=by
  have:Qw n<=Qw 4:=by
   unfold Qw;exact Nat.mul_le_mul_left _ (Nat.pow_le_pow_right (by omega) hn)
  exact this
 rw [hdn];refine ZI (Qb1 n hd.2 ⟨by simp,by simp;omega,by decide⟩ (by omega) (by omega)) fun v hv=>?_;refine ZI (WL hv.2 (by omega) (by omega)) fun u hu=>?_;refine ZK (fun _=>?_) (fun _=>ZJ ⟨by have:=hv.1;simp only;omega,hu.2.2.mono (by omega)⟩);refine ZI (L2 (by decide)) fun r hr=>?_;refine ZI (Ab _) fun n1 h1=>?_;refine ZI (Ab _) fun n2 h2=>?_;refine ZI (IQ _) fun n3 h3=>?_;refine ZI (IQ _) fun n4 h4=>?_;refine ZI (IQ _) fun n5 h5=>ZJ ⟨?_,hu.2.2.mono (by omega)⟩;have e1:(Qk #[108,101,116,45,115,121,110,116,97,120]).size=10:=rfl;have e2:(Qk #[103]).size=1:=rfl;have:=hv.1;simp only [Y4,ZM,ZL] at h3 h4 h5
 simp only;omega
theorem Qau {c:Rdr} {k:Nat} (h:RdI c k) (hk:k < 100000000):Tot (A5 c) fun r=>r.1.sz<=1000000/\RdI r.2 (k+1000001):=by
 unfold A5;refine ZI (WL h (by omega) (by omega)) fun x hx=>?_;refine ZK (fun _=>?_) (fun _=>?_)
 ·refine ZI (WL hx.2.2 (by omega) (by omega)) fun y hy=>?_;refine ZI (p:=fun s=>s.size<=1000) ((Il hy.1 (by simpa using hy.2.1)).mono fun s hs=>?_) fun s hs=>?_
  ·revert s hs;decide
  exact ZI (L2 hs) fun r hr=>ZJ ⟨by simp only;omega,hy.2.2.mono (by omega)⟩
 ·exact ZI (Qat hx.2.2 (by omega)) fun r hr=>ZJ ⟨hr.1,hr.2.mono (by omega)⟩
theorem Qah {l:List Int} (h:∀x∈l,0<=x/\x < 256):Tot (A4 l) fun r=>r.1.sz<=1000100:=by
 unfold A4;refine ZI (Ec h) fun c hc=>?_;refine ZI (Qau hc (by omega)) fun f hf=>?_;refine ZI (WL hf.2 (by omega) (by omega)) fun x hx=>?_;have hf1:=hf.1;refine ZI (p:=fun y=>(KQ y.1 y.2.1 y.2.2.1 y.2.2.2.1 y.2.2.2.2.1).sz<=1000100/\RdI ⟨y.2.2.2.2.2.1,y.2.2.2.2.2.2⟩ 100000000) (ZK (fun _=>?_) (fun _=>ZJ ⟨?_,hx.2.2.mono (by omega)⟩)) fun y hy=>?_
 ·refine ZI (C9 f.1 hx.2.2 (by omega) (by omega)) fun g hg=>?_;have:=hg.1;refine ZI (C9 g.1 hg.2 (by omega) (by omega)) fun g2 hg2=>ZJ ⟨?_,hg2.2.mono (by omega)⟩;have h1:=hg2.1;rw [Fm.JM] at h1
  simp only;rw [Cx];omega
 ·rw [Fm.JM] at hf1
  simp only;rw [Cx];omega
 obtain ⟨y1,y2,y3,y4,y5,y6,y7⟩:=y;exact ZI (CF hy.2 (by omega) (by simp)) fun z hz=>ZJ hy.1
end Go.Proofs.SA
