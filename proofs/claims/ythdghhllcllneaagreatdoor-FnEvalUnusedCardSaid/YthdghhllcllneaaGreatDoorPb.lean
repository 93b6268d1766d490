/- The draws yield something: the reader, copies, mutations, drawn forms. Imports the plain functions of a seat (gen2). -/
import Derived.Test.YthdghhllcllneaaGreatDoorPa
import Derived.Test.YthdghhllcllneaaGreatDooreuD
set_option linter.unusedVariables false
set_option linter.unusedSimpArgs false
set_option maxRecDepth 100000
open Go Go.Proofs Go.Proofs.Shadow
open Tot renaming bind → ZA, pure → ZB, ite → ZC
open _root_.List renaming length_nil → ZD, length_cons → ZE, length_append → QV, mem_singleton → ZG
open _root_.ByteArray renaming mk → Qk
open _root_.Option renaming bind_some → Qe, bind_eq_bind → ZF
open _root_.Nat renaming le_refl → Qt
open Fm renaming sz → ZH
open Go.IntKind (i64)
namespace Go.Proofs.SA
def RdI (c:Rdr) (k:Nat):Prop:=c.b.length<=2000/\(∀x∈c.b,0<=x/\x < 256)/\0<=c.p/\c.p<=k
theorem RdI.mono {c:Rdr} {k k':Nat} (h:RdI c k) (hk:k<=k'):RdI c k':=⟨h.1,h.2.1,h.2.2.1,by have:=h.2.2.2;omega⟩
theorem Qby {l:List Int} (h:∀x∈l,0<=x/\x < 256):Tot (Ap l) fun c=>RdI c 0:=by
 unfold Ap;refine ZC (fun hc=>?_) (fun hc=>?_)
 ·refine ZA (Qkr (by omega) (by omega) (by omega)) fun z hz=>ZB ⟨by have:=hz.1;simp only;omega,fun x hx=>h x (hz.2 x hx),by simp,by simp⟩
 ·exact ZB ⟨by simp only;omega,h,by simp,by simp⟩
theorem V8 {c:Rdr} {k:Nat} {n:Int} (h:RdI c k) (hk:k < 1099511627776) (h1:1<=n):Tot (Yi n c) fun r=>0<=r.1/\r.1 < n/\RdI r.2 (k+1):=by
 obtain ⟨hb,hx,hp0,hpk⟩:=h;unfold Yi;have w1:i64.wrap (c.p+1)=c.p+1:=YC (by omega) (by omega)
 have w2:i64.wrap (c.p+1 - 1)=c.p:=by rw [YC (by omega) (by omega)];omega
 simp only [w1,w2,pure_bind];have hR:RdI ⟨c.b,c.p+1⟩ (k+1):=⟨hb,hx,by simp only;omega,by simp only;omega⟩;refine ZC (fun hc=>ZB ⟨by simp,by simp only;omega,hR⟩) (fun hc=>?_);simp only [Bool.or_eq_true,decide_eq_true_eq,not_or] at hc;refine ZC (fun hl=>?_) (fun hl=>?_)
 ·refine ZA (Az hp0 hl) fun x hm=>?_;have:=hx x hm;rw [YC (a:=x) (by omega) (by omega)];exact ZA (Nu (by omega) h1) fun y hy=>ZB ⟨hy.1,hy.2,hR⟩
 ·refine ZA (Nu hp0 (by omega)) fun i hi=>?_;refine ZA (Az hi.1 hi.2) fun x hm=>?_;have h2:=hx x hm
  have w3:i64.wrap (i64.wrap (c.p * 7)+3)=c.p * 7+3:=by rw [YC (a:=c.p * 7) (by omega) (by omega),YC (by omega) (by omega)]
  rw [w3];refine ZA (Nu (by omega) (by omega)) fun j hj=>?_;refine ZA (Az hj.1 hj.2) fun y hm2=>?_;have h3:=hx y hm2;refine ZA (Qkf hp0 (by omega) (by omega)) fun q hq=>?_
  have e:i64.wrap (i64.wrap (i64.wrap (i64.wrap (i64.wrap x * 131)+i64.wrap (i64.wrap y * 1117))+i64.wrap (c.p * 29))+i64.wrap (q * 53))=x * 131+y * 1117+c.p * 29+q * 53:=by
   rw [YC (a:=x) (by omega) (by omega),YC (a:=y) (by omega) (by omega),YC (a:=x * 131) (by omega) (by omega),YC (a:=y * 1117) (by omega) (by omega),YC (a:=c.p * 29) (by omega) (by omega),YC (a:=q * 53) (by omega) (by omega),YC (a:=x * 131+y * 1117) (by omega) (by omega),YC (a:=x * 131+y * 1117+c.p * 29) (by omega) (by omega),YC (by omega) (by omega)]
  rw [e];generalize hv:x * 131+y * 1117+c.p * 29+q * 53=v
  have v0:0<=v:=by omega
  have v1:v < 1099511627776000:=by omega
  have d0:0<=v.tdiv 64:=Int.tdiv_nonneg v0 (by omega);have d1:v.tdiv 64<=v:=Int.tdiv_le_self _ v0;rw [YC (a:=v.tdiv 64) (by omega) (by omega)];have:=Qjn v0 (by omega) d0 (by omega);exact ZA (Nu this.1 h1) fun z hz=>ZB ⟨hz.1,hz.2,hR⟩
theorem AG {c:Rdr} {k:Nat} {l:List Int} (h:RdI c k) (hk:k < 1099511627776) (hl:1<=l.length):Tot (Yu l c) fun r=>r.1∈l/\RdI r.2 (k+1):=by
 unfold Yu;refine ZA (V8 h hk (by omega)) fun x hx=>?_;exact ZA (Az hx.1 hx.2.1) fun y hy=>ZB ⟨hy,hx.2.2⟩
theorem TJ {c:Rdr} {k:Nat} {l:List ByteArray} (h:RdI c k) (hk:k < 1099511627776) (hl:1<=l.length):Tot (Vb l c) fun r=>r.1∈l/\RdI r.2 (k+1):=by
 unfold Vb;refine ZA (V8 h hk (by omega)) fun x hx=>?_;exact ZA (Az hx.1 hx.2.1) fun y hy=>ZB ⟨hy,hx.2.2⟩
theorem Qoy (s:ByteArray):Vx s=some (Fm.mk 1 s 0 [] []):=rfl
theorem SI (k:Int) (s:ByteArray) (n:Int) (sc:List Int) (ks:List Fm):(Fm.mk k s n sc ks).sz=s.size+sc.length+ks.length+YY ZH ks:=by rw [Fm.Gb];rfl
theorem A9 (s:ByteArray):Tot (Vx s) fun f=>f.sz=s.size:=⟨_,rfl,by simp only;rw [SI];simp [YY]⟩
theorem AD (l:List Fm):Tot (WX l) fun f=>f.sz=l.length+YY ZH l:=⟨_,rfl,by simp only;rw [SI];show 0+0+_+_=_;omega⟩
def Pw (d:Nat):Nat:=100 * 4 ^ d
theorem Qez (d:Nat):Pw (d+1)=4 * Pw d:=by simp only [Pw,Nat.pow_succ];omega
theorem Uo (d:Nat):100<=Pw d:=by simp only [Pw];have:0 < 4 ^ d:=Nat.pow_pos (by omega);omega
def RC:List ByteArray:=[(Qk #[97]),(Qk #[98]),(Qk #[120]),(Qk #[121]),(Qk #[102]),(Qk #[105,102]),(Qk #[108,101,116]),(Qk #[43])]
theorem Qb6:∀(d:Nat) {c:Rdr} {k:Nat},RdI c k->d < 20->k+Pw d < 1099511627776->Tot (Vy d c) fun r=>r.1.sz<=Pw d/\RdI r.2 (k+Pw d):=by
 have base:∀{c:Rdr} {k n:Nat} {p:Int->Prop} {q:ByteArray->Prop},RdI c k->100<=n->k+n < 1099511627776+1->Tot (Yi 4 c>>=fun x=>if x.1=0 then (Yu [0,1,2,7,42,999] x.2>>=fun y=>pure (Fm.mk 2 (Qk #[]) y.1 [] [],y.2)) else (Vb RC x.2>>=fun y=>Vx y.1>>=fun z=>pure (z,y.2))) fun r=>r.1.sz<=100/\RdI r.2 (k+2):=by
  intro c k n p q h hn hk;refine ZA (V8 h (by omega) (by omega)) fun x hx=>?_;refine ZC (fun _=>?_) (fun _=>?_)
  ·exact ZA (AG hx.2.2 (by omega) (by simp)) fun y hy=>ZB ⟨by simp only;rw [SI];show 0+0+0+0<=100;omega,hy.2⟩
  ·refine ZA (TJ hx.2.2 (by omega) (by simp [RC])) fun y hy=>?_;refine ZA (A9 _) fun z hz=>ZB ⟨?_,hy.2⟩
   have:∀s∈RC,s.size<=100:=by decide
   simp only;rw [hz];exact this _ hy.1
 intro d
 induction d with
 | zero =>
  intro c k h hd hk;rw [Vy];rw [if_pos (by rfl)];exact (base (p:=fun _=>True) (q:=fun _=>True) h (Qt 100) (by have:=Uo 0;omega)).mono fun r hr=>⟨by have:=Uo 0;omega,hr.2.mono (by have:=Uo 0;omega)⟩
 | succ d ih =>
  intro c k h hd hk;have hp:=Uo d;have hs:=Qez d
  have loop:∀(n:Nat) {z:List Fm} {b:List Int} {p:Int} {k:Nat},n<=3->z.length+n<=3->RdI ⟨b,p⟩ k->k+n * Pw d < 1099511627776->Tot (WN ((d+1:Nat):Int) z n b p) fun r=>r.1.length<=z.length+n/\YY ZH r.1<=YY ZH z+n * Pw d/\RdI ⟨r.2.1,r.2.2⟩ (k+n * Pw d):=by
   intro n
   induction n with
   | zero =>
    intro z b p k _ _ h _;rw [WN,if_neg (by omega)];exact ZB ⟨by simp,by simp,by simpa using h⟩
   | succ n ihn =>
    intro z b p k hn hz h hk;rw [Nat.succ_mul] at hk;rw [WN,if_pos (by omega)]
    have w1:i64.wrap (((d+1:Nat):Int) - 1)=(d:Int):=by rw [YC (by omega) (by omega)];omega
    have w2:i64.wrap (((n+1:Nat):Int) - 1)=(n:Int):=by rw [YC (by omega) (by omega)];omega
    rw [w1,w2];refine ZA (ih h (by omega) (by omega)) fun x hx=>?_;refine ZA (Dt (by simp only [ZE,ZD];omega)) fun y hy=>?_;subst hy;refine (ihn (by omega) (by simp only [QV,ZE,ZD];omega) hx.2 (by omega)).mono fun r hr=>?_;obtain ⟨r1,r2,r3⟩:=hr;simp only [QV,ZE,ZD,DC,YY] at r1 r2;rw [Nat.succ_mul];exact ⟨by omega,by have:=hx.1;omega,r3.mono (by omega)⟩
  rw [Vy,if_neg (by omega)];refine ZA (V8 h (by omega) (by omega)) fun x hx=>?_;refine ZC (fun _=>?_) (fun _=>?_)
  ·exact (base (p:=fun _=>True) (q:=fun _=>True) hx.2.2 (Qt 100) (by omega)).mono fun r hr=>⟨by omega,hr.2.mono (by omega)⟩
  ·refine ZA (V8 hx.2.2 (by omega) (by omega)) fun y hy=>?_;obtain ⟨m,hm⟩:=Int.eq_ofNat_of_zero_le hy.1
   have hm3:m<=3:=by have:=hy.2.1;omega
   have hmul:m * Pw d<=3 * Pw d:=Nat.mul_le_mul_right _ hm3;rw [hm];refine ZA (loop m hm3 (by simp;omega) hy.2.2 (by omega)) fun r hr=>?_;obtain ⟨r1,r2,r3⟩:=hr;simp only [ZD,YY] at r1 r2;refine ZB ⟨?_,r3.mono (by omega)⟩
   simp only;rw [SI]
   show 0+0+_+_<=_;omega
end Go.Proofs.SA
namespace Go.Proofs.SA
def Qw (d:Nat):Nat:=1000 * 4 ^ d
theorem Qm0 (d:Nat):Qw (d+1)=4 * Qw d:=by simp only [Qw,Nat.pow_succ];omega
theorem Qqh (d:Nat):1000<=Qw d:=by simp only [Qw];have:0 < 4 ^ d:=Nat.pow_pos (by omega);omega
def NmI (l:List ByteArray) (d:Nat):Prop:=1<=l.length/\l.length+d<=1000/\∀s∈l,s.size<=10
theorem Qic:∀(d:Nat) {a:List ByteArray} {c:Rdr} {k:Nat},RdI c k->NmI a d->d < 20->k+Qw d < 1099511627776->Tot (VU a d c) fun r=>r.1.sz<=Qw d/\RdI r.2 (k+Qw d):=by
 have base:∀{a:List ByteArray} {c:Rdr} {k:Nat},RdI c k->1<=a.length->(∀s∈a,s.size<=10)->k+99 < 1099511627776->Tot (Yi 3 c>>=fun x=>if x.1=0 then (Yu [0,1,2,7] x.2>>=fun y=>pure (Fm.mk 2 (Qk #[]) y.1 [] [],y.2)) else (Yi (a.length:Int) x.2>>=fun y=>idx a y.1>>=fun u=>Vx u>>=fun z=>pure (z,y.2))) fun r=>r.1.sz<=100/\RdI r.2 (k+2):=by
  intro a c k h ha hs hk;refine ZA (V8 h (by omega) (by omega)) fun x hx=>?_;refine ZC (fun _=>?_) (fun _=>?_)
  ·exact ZA (AG hx.2.2 (by omega) (by simp)) fun y hy=>ZB ⟨by simp only;rw [SI];show 0+0+0+0<=100;omega,hy.2⟩
  ·refine ZA (V8 hx.2.2 (by omega) (by omega)) fun y hy=>?_;refine ZA (Az hy.1 hy.2.1) fun u hu=>?_;refine ZA (A9 _) fun z hz=>ZB ⟨?_,hy.2.2⟩;have:=hs u hu
   simp only;omega
 intro d
 induction d with
 | zero =>
  intro a c k h ha hd hk;have:=Qqh 0;rw [VU,if_pos (by rfl)];exact (base h ha.1 ha.2.2 (by omega)).mono fun r hr=>⟨by omega,hr.2.mono (by omega)⟩
 | succ d ih =>
  intro a c k h ha hd hk;have hp:=Qqh d;have hs:=Qm0 d
  have w1:i64.wrap (((d+1:Nat):Int) - 1)=(d:Int):=by rw [YC (by omega) (by omega)];omega
  rw [VU,if_neg (by omega)];simp only [w1];refine ZA (V8 h (by omega) (by omega)) fun x hx=>?_;refine ZC (fun _=>?_) (fun _=>?_)
  ·exact (base hx.2.2 ha.1 ha.2.2 (by omega)).mono fun r hr=>⟨by omega,hr.2.mono (by omega)⟩
  refine ZA (TJ hx.2.2 (by omega) (by simp)) fun v hv=>?_
  have hv10:v.1.size<=10:=by
   have:∀s∈[(Qk #[120]),(Qk #[121]),(Qk #[116])],s.size<=10:=by decide
   exact this _ hv.1
  refine ZA (Dt (by have:=ha.2.1;simp only [ZD];omega)) fun y hy=>?_;rw [List.nil_append] at hy;rw [hy];refine ZA (Dt (by have:=ha.2.1;simp only [ZD,ZE];omega)) fun y hy=>?_;subst hy;have ha0:NmI a d:=⟨ha.1,by have:=ha.2.1;omega,ha.2.2⟩
  have ha2:NmI (a++[v.1]) d:=⟨by simp,by have:=ha.2.1;simp;omega,fun s hs=>by
   simp only [List.mem_append,ZG] at hs
   rcases hs with hs | rfl
   ·exact ha.2.2 s hs
   ·exact hv10⟩
  refine ZA (V8 hv.2 (by omega) (by omega)) fun p hp'=>?_;obtain ⟨p0,p8,hR⟩:=hp';refine ZA (p:=fun _=>True) (ZC (fun _=>ZB trivial) (fun _=>ZB trivial)) fun b _=>?_;refine ZC (fun _=>?_) (fun _=>?_)
  ·
   refine ZA (A9 _) fun n1 h1=>?_;refine ZA (A9 _) fun n2 h2=>?_;refine ZA (AD _) fun n3 h3=>?_;refine ZA (ih hR ha2 (by omega) (by omega)) fun n4 h4=>?_;refine ZA (AD _) fun n5 h5=>ZB ⟨?_,h4.2.mono (by omega)⟩;have e:(Qk #[108,97,109,98,100,97]).size=6:=rfl;have:=h4.1;simp only [YY,ZE,ZD] at h3 h5
   simp only;omega
  refine ZA (p:=fun _=>True) (ZC (fun _=>ZB trivial) (fun _=>ZB trivial)) fun b _=>?_;refine ZC (fun _=>?_) (fun _=>?_)
  ·
   refine ZA (A9 _) fun n1 h1=>?_;refine ZA (ih hR ha0 (by omega) (by omega)) fun n2 h2=>?_;refine ZA (AD _) fun n3 h3=>?_;refine ZA (A9 _) fun n4 h4=>?_;refine ZA (AD _) fun n5 h5=>?_;refine ZA (ih h2.2 ha2 (by omega) (by omega)) fun n6 h6=>?_;refine ZA (AD _) fun n7 h7=>ZB ⟨?_,h6.2.mono (by omega)⟩;have e:(Qk #[108,101,116]).size=3:=rfl;have:=h2.1;have:=h6.1;simp only [YY,ZE,ZD] at h3 h5 h7
   simp only;omega
  refine ZC (fun _=>?_) (fun _=>?_)
  ·
   refine ZA (A9 _) fun n1 h1=>?_;refine ZA (ih hR ha0 (by omega) (by omega)) fun n2 h2=>?_;refine ZA (ih h2.2 ha0 (by omega) (by omega)) fun n3 h3=>?_
   have hz:Tot (VU a 0 n3.2) fun r=>r.1.sz<=100/\RdI r.2 (k+1+1+1+Qw d+Qw d+2):=by
    rw [VU,if_pos (by rfl)];exact base h3.2 ha.1 ha.2.2 (by omega)
   refine ZA hz fun n4 h4=>?_;refine ZA (AD _) fun n5 h5=>ZB ⟨?_,h4.2.mono (by omega)⟩;have e:(Qk #[105,102]).size=2:=rfl;have:=h2.1;have:=h3.1;have:=h4.1;simp only [YY,ZE,ZD] at h5
   simp only;omega
  refine ZC (fun _=>?_) (fun _=>?_)
  ·
   have q:Tot (Vy 1 p.2) fun r=>r.1.sz<=3 * Qw d+50/\RdI r.2 (k+1+1+1+(3 * Qw d+50)):=by
    have:=Qb6 1 hR (by omega) (by show k+1+1+1+400 < _;omega);refine this.mono fun r hr=>⟨?_,hr.2.mono ?_⟩
    ·have:=hr.1;change r.1.sz<=400 at this;omega
    ·show k+1+1+1+400<=_;omega
   refine ZA (A9 _) fun n1 h1=>?_;refine ZA q fun n2 h2=>?_;refine ZA (AD _) fun n3 h3=>ZB ⟨?_,h2.2.mono (by omega)⟩;have e:(Qk #[113,117,111,116,101]).size=5:=rfl;have:=h2.1;simp only [YY,ZE,ZD] at h3
   simp only;omega
  ·refine ZA (ih hR ha0 (by omega) (by omega)) fun n2 h2=>?_;refine ZA (ih h2.2 ha0 (by omega) (by omega)) fun n3 h3=>?_;refine ZA (AD _) fun n5 h5=>ZB ⟨?_,h3.2.mono (by omega)⟩;have:=h2.1;have:=h3.1;simp only [YY,ZE,ZD] at h5
   simp only;omega
theorem LA:∀(f:Fm),f.sz < 1099511627776->Jr f=some f:=by
 intro f
 induction f using Fm.ind with
 | h f ih =>
  intro hf;have hz:=Fm.Gb f;rw [Jr];rw [YB (by simp only [ZD];omega)];simp only [List.nil_append,ZF,Qe]
  have key:∀n (i:Nat),i+n=f.kids.length->Gr f f.sc (f.kids.take i) i=some f.kids:=by
   intro n
   induction n with
   | zero =>
    intro i hi;rw [Gr,if_neg (by omega),show i=f.kids.length by omega,List.take_length];rfl
   | succ n ihn =>
    intro i hi
    have hil:i < f.kids.length:=by omega
    rw [Gr,if_pos (by omega),Yg _ i hil];simp only [ZF,Qe];rw [ih _ (List.getElem_mem _) (by have:=Fm.Hb (List.getElem_mem hil);omega)];simp only [Qe];rw [YB (by simp only [List.length_take,ZE,ZD];omega)];simp only [Qe];rw [Wu (by omega),← List.take_succ_eq_append_getElem hil];exact ihn (i+1) (by omega)
  have:=key f.kids.length 0 (by omega);simp only [List.take_zero] at this;show (Gr f f.sc [] 0>>=fun e=>pure (Fm.mk f.kind f.name f.num f.sc e))=_;have e0:((0:Nat):Int)=0:=rfl;rw [e0] at this;rw [this];cases f;rfl
theorem Qcb {α:Type} (g:α->Nat):∀(l:List α) (i:Nat) (x:α) (h:i < l.length),YY g (l.set i x)+g l[i]=YY g l+g x
 | [],i,x,h=>by simp at h
 | a :: l,0,x,h=>by simp [YY];omega
 | a :: l,i+1,x,h=>by
  simp only [List.set_cons_succ,YY,List.getElem_cons_succ];have:=Qcb g l i x (by simpa using h);omega
end Go.Proofs.SA
namespace Go.Proofs.SA
theorem Bd {c:Prop} [Decidable c] {o:Option Bool} (h:c->Tot o fun _=>True):Tot (if c then o else pure false) fun b=>b=true->c:=by
 refine ZC (fun hc=>(h hc).mono fun _ _ _=>hc) (fun hc=>ZB fun h=>by cases h)
theorem Qbz {c:Prop} [Decidable c] {o:Option Bool} (h:¬c->Tot o fun _=>True):Tot (if c then pure true else o) fun b=>b=false->¬c:=by
 refine ZC (fun hc=>ZB fun h=>by cases h) (fun hc=>(h hc).mono fun _ _ _=>hc)
theorem Qla {s:ByteArray} (hs:s.size < 1099511627776):∀(n:Nat) (i:Int),0<=i->i+n=s.size->Tot (GB s i) fun r=>i<=r/\r<=s.size:=by
 intro n
 induction n with
 | zero =>
  intro i h0 h;rw [GB,if_neg (by omega)];exact ⟨i,rfl,by omega,by omega⟩
 | succ n ih =>
  intro i h0 h;rw [GB];refine ZA (Bd fun hc=>ZA (H7 h0 hc) fun _ _=>ZB trivial) fun b hb=>?_;refine ZC (fun hb'=>?_) (fun _=>ZB ⟨by omega,by omega⟩);rw [YC (by omega) (by omega)];exact (ih (i+1) (by omega) (by omega)).mono fun r hr=>⟨by omega,hr.2⟩
theorem Eg {s:ByteArray} (hs:s.size < 1099511627776) {i:Int} (h0:0<=i) (h:i<=s.size):Tot (IJ s i) fun r=>i<=r/\r<=s.size:=by
 unfold IJ;exact ZA (Qla hs (s.size - i.toNat) i h0 (by omega)) fun r hr=>ZB hr
theorem Qlw {s:ByteArray} (hs:s.size < 1099511627776):∀(n:Nat) (i:Int),0<=i->i+n=s.size->Tot (GC s i) fun r=>i<=r/\r<=s.size:=by
 intro n
 induction n with
 | zero =>
  intro i h0 h;rw [GC,if_neg (by omega)];exact ⟨i,rfl,by omega,by omega⟩
 | succ n ih =>
  intro i h0 h;rw [GC];refine ZA (Bd fun hc=>ZA (H7 h0 hc) fun _ _=>ZB trivial) fun b hb=>?_;refine ZA (Bd fun hc=>ZA (H7 h0 (hb hc)) fun _ _=>ZB trivial) fun b2 hb2=>?_;refine ZA (Bd fun hc=>ZA (H7 h0 (hb (hb2 hc))) fun _ _=>ZB trivial) fun b3 hb3=>?_;refine ZA (Bd fun hc=>ZA (H7 h0 (hb (hb2 (hb3 hc)))) fun _ _=>ZB trivial) fun b4 hb4=>?_;refine ZC (fun hb'=>?_) (fun _=>ZB ⟨by omega,by omega⟩);rw [YC (by omega) (by omega)];exact (ih (i+1) (by omega) (by omega)).mono fun r hr=>⟨by omega,hr.2⟩
theorem Qil {s:ByteArray} (hs:s.size < 1099511627776) {i:Int} (h0:0<=i) (h:i<=s.size):Tot (BU s i) fun r=>i<=r/\r<=s.size:=by
 unfold BU;exact ZA (Qlw hs (s.size - i.toNat) i h0 (by omega)) fun r hr=>ZB hr
theorem Qdo {s:ByteArray} {x:Bool} (hs:s.size < 1099511627776):∀(n:Nat) (v i:Int),0<=i->i+n=s.size->Tot (Gq x s v i) fun _=>True:=by
 intro n
 induction n with
 | zero =>
  intro v i h0 h;rw [Gq,if_neg (by omega)];exact ⟨_,rfl,trivial⟩
 | succ n ih =>
  intro v i h0 h;rw [Gq,if_pos (by omega)];have hx:=H7 (s:=s) h0 (by omega);refine ZA hx fun a _=>?_;refine ZA (p:=fun _=>True) (ZC (fun _=>ZB trivial) (fun _=>ZA hx fun _ _=>ZB trivial)) fun b _=>?_;refine ZC (fun _=>ZB trivial) (fun _=>?_);refine ZA hx fun a _=>?_;rw [YC (a:=i+1) (by omega) (by omega)];exact ih _ (i+1) (by omega) (by omega)
theorem TH {s:ByteArray} (hs:s.size < 1099511627776):Tot (A1 s) fun r=>r.2=true->1<=s.size:=by
 unfold A1;refine ZA (Bd fun hc=>ZA (H7 (by omega) (by omega)) fun _ _=>ZB trivial) fun b hb=>?_;refine ZA (p:=fun z=>z.size<=s.size) (ZC (fun hb'=>?_) (fun _=>ZB (Qt _))) fun z hz=>?_
 ·exact ZA (Nw (by omega) (by have:=hb hb';omega) (by omega)) fun z hz=>ZB (by omega)
 simp only [pure_bind];refine ZA (p:=fun b=>b=false->1<=z.size) (ZC (fun hb'=>ZB fun h=>by cases h) (fun hb'=>?_)) fun b2 hb2=>?_
 ·simp only [Bool.or_eq_true,decide_eq_true_eq,not_or] at hb';refine ZA (H7 (by omega) (by omega)) fun a _=>?_
  refine ZA (p:=fun _=>True) (ZC (fun _=>ZB trivial) (fun _=>ZB trivial)) fun _ _=>ZB fun _=>by omega
 refine ZC (fun _=>ZB fun h=>by cases h) (fun hb'=>?_);have h1:=hb2 (by simpa using hb');refine ZA (Qdo (by omega) z.size 0 0 (by omega) (by omega)) fun o _=>?_
 cases o with
 | inl r=>exact ZB fun _=>by omega
 | inr e=>exact ZC (fun _=>ZB fun _=>by omega) (fun _=>ZB fun _=>by omega)
theorem Qdd {s:ByteArray} {c:Int} (hs:s.size < 1099511627):∀(n:Nat) (z:List ByteArray) (a i:Int),0<=a->a<=i->i+n=s.size+1->z.length+n<=s.size+1->(∀x∈z,x.size<=s.size)->Tot (JB s c z a i) fun r=>∀x∈r,x.size<=s.size:=by
 intro n
 induction n with
 | zero =>
  intro z a i h0 h1 h2 h3 h4;rw [JB,if_neg (by omega)];exact ⟨_,rfl,h4⟩
 | succ n ih =>
  intro z a i h0 h1 h2 h3 h4;rw [JB,if_pos (by omega)];refine ZA (Qbz fun hc=>ZA (H7 (by omega) (by omega)) fun _ _=>ZB trivial) fun b hb=>?_;rw [YC (a:=i+1) (by omega) (by omega)];refine ZC (fun _=>?_) (fun _=>ih z a (i+1) h0 (by omega) (by omega) (by omega) h4);refine ZA (Nw h0 h1 (by omega)) fun y hy=>?_;refine ZA (Dt (by simp only [ZE,ZD];omega)) fun w hw=>?_;subst hw;refine ih _ (i+1) (i+1) (by omega) (by omega) (by omega) (by simp only [QV,ZE,ZD];omega) fun x hx=>?_
  rcases List.mem_append.1 hx with hx | hx
  ·exact h4 x hx
  ·rw [ZG] at hx;subst hx;omega
theorem U8 {s:ByteArray} {a:Int} (hs:s.size < 1099511627776):∀(n:Nat) (i:Int),0<=i->i+n=s.size->Tot (WM s a i) fun r=>i<=r/\r<=s.size:=by
 intro n
 induction n with
 | zero =>
  intro i h0 h;rw [WM,if_neg (by omega)];exact ⟨i,rfl,by omega,by omega⟩
 | succ n ih =>
  intro i h0 h;rw [WM];refine ZA (Bd fun hc=>ZA (H7 h0 hc) fun _ _=>ZB trivial) fun b hb=>?_;refine ZC (fun hb'=>?_) (fun _=>ZB ⟨by omega,by omega⟩);rw [YC (by omega) (by omega)];exact (ih (i+1) (by omega) (by omega)).mono fun r hr=>⟨by omega,hr.2⟩
theorem U9 {e:Int} {l:List ByteArray} (hl:∀x∈l,x.size < 1099511627776):∀(n:Nat) (z:List Int) (i:Int),0<=i->i+n=25->z.length<=i->Tot (GA e l z i) fun r=>match r with | .inl r=>r.2=-1/\r.1.length<=25 | .inr r=>r.length<=25:=by
 intro n
 induction n with
 | zero =>
  intro z i h0 h1 h2;rw [GA];refine ZA (p:=fun b=>b=true->i < l.length/\i<=24) (ZB fun h=>by simpa using h) fun b hb=>?_;refine ZC (fun h=>by have:=hb h;omega) (fun _=>ZB (by simp only;omega))
 | succ n ih =>
  intro z i h0 h1 h2;rw [GA];refine ZA (p:=fun b=>b=true->i < l.length/\i<=24) (ZB fun h=>by simpa using h) fun b hb=>?_;refine ZC (fun h=>?_) (fun _=>ZB (by simp only;omega));have:=hb h;refine ZA (Az h0 this.1) fun x hx=>?_;refine ZA (TH (hl x hx)) fun v _=>?_;refine ZC (fun _=>ZB (by simp only;exact ⟨trivial,by omega⟩)) (fun _=>?_);refine ZA (Dt (by simp only [ZE,ZD];omega)) fun w hw=>?_;subst hw;rw [YC (a:=i+1) (by omega) (by omega)];exact ih _ (i+1) (by omega) (by omega) (by simp only [QV,ZE,ZD];omega)
theorem Qk9 {s:ByteArray} (hs:s.size < 1099511627) {i:Int} (h0:0<=i) (h:i<=s.size):Tot (BT s i) fun r=>r.1.length<=25/\(r.2=-1∨(i<=r.2/\r.2<=s.size)):=by
 unfold BT;refine ZA (p:=fun b=>b=false->i < s.size/\MA s i=some 123) (ZC (fun _=>ZB fun h=>by cases h) (fun hc=>?_)) fun b hb=>?_
 ·obtain ⟨v,hv,_⟩:=H7 (s:=s) h0 (by omega);rw [hv];refine ZA (p:=fun a=>a=v) ⟨v,rfl,rfl⟩ fun a ha=>ZB fun h=>⟨by omega,?_⟩;subst ha
  have:a=123:=by simpa using h
  rw [this]
 refine ZC (fun _=>ZB ⟨by simp,.inr ⟨by simp,h⟩⟩) (fun hb'=>?_);obtain ⟨hi,hv⟩:=hb (by simpa using hb')
 have he:Tot (WM s i i) fun e=>i+1<=e/\e<=s.size:=by
  rw [WM,if_pos hi,hv];refine ZA (p:=fun b=>b=true) ⟨true,rfl,rfl⟩ fun b hb=>?_;rw [if_pos hb,YC (by omega) (by omega)];exact U8 (by omega) (s.size - (i+1).toNat) (i+1) (by omega) (by omega)
 refine ZA he fun e he=>?_;refine ZC (fun _=>ZB ⟨by simp,.inl rfl⟩) (fun hne=>?_);rw [YC (a:=i+1) (by omega) (by omega),YC (a:=e+1) (by omega) (by omega)];refine ZA (Nw (by omega) he.1 he.2) fun x hx=>?_
 have hc:Tot (BP x 44) fun r=>∀y∈r,y.size<=x.size:=by
  unfold BP;exact ZA (Qdd (by omega) (x.size+1) [] 0 0 (by omega) (by omega) (by omega) (by simp) (by simp)) fun r hr=>ZB hr
 refine ZA hc fun r hr=>?_;refine ZA (U9 (fun y hy=>by have:=hr y hy;omega) 25 [] 0 (by omega) (by omega) (by simp)) fun o ho=>?_
 cases o with
 | inl r=>exact ZB ⟨ho.2,.inl ho.1⟩
 | inr r=>exact ZB ⟨ho,.inr ⟨by simp only;omega,by simp only;omega⟩⟩
theorem R5 {s:ByteArray} (h:s.size=0):s=Qk #[]:=by
 obtain ⟨⟨l⟩⟩:=s
 congr
 simpa [ByteArray.size] using h
def Qqi (s:ByteArray) (i:Int) (r:Fm × Int):Prop:=r.2=-1∨(i < r.2/\r.2<=s.size/\(r.1.sz:Int)+1<=27 * (r.2 - i))
theorem Qjl {s:ByteArray} (hs:s.size < 1099511627) {i:Int} (h0:0<=i) (h:i<=s.size):Tot (BQ s i) (Qqi s i):=by
 unfold BQ;refine ZA (Qil (by omega) h0 h) fun j hj=>?_;refine ZA (Nw h0 hj.1 hj.2) fun w hw=>?_;refine ZA (TH (by omega)) fun v hv=>?_;refine ZC (fun hb=>?_) (fun _=>?_)
 ·have:=hv hb;refine ZB (.inr ⟨by simp only;omega,by simp only;omega,?_⟩)
  simp only;rw [SI];show ((0+0+0+0:Nat):Int)+1<=_;omega
 refine ZC (fun _=>ZB (.inl rfl)) (fun hne=>?_)
 have hj1:i < j:=by
  rcases Int.lt_or_le i j with h1 | h1
  ·exact h1
  ·exact absurd (R5 (s:=w) (by omega)) hne
 refine ZA (Qk9 hs (by omega) hj.2) fun t ht=>ZB ?_
 rcases ht.2 with h2 | h2
 ·exact .inl h2
 ·refine .inr ⟨by simp only;omega,h2.2,?_⟩
  simp only;rw [SI]
  have:=ht.1;show ((w.size+t.1.length+0+0:Nat):Int)+1<=_;omega
theorem Qk0 {s:ByteArray} (hs:s.size < 1099511627):∀(d:Nat),d < 1000->∀(i:Int),0<=i->i<=s.size->Tot (II s i d) (Qqi s i):=by
 intro d
 induction d with
 | zero =>
  intro _ i h0 h;rw [II];refine ZA (Eg (by omega) h0 h) fun j hj=>?_;refine ZA (p:=fun b=>b=true) (ZB (by simp)) fun b hb=>?_;rw [if_pos hb];exact ZB (.inl rfl)
 | succ d ih =>
  intro hd i h0 h
  have loop:∀(n:Nat) (z:List Fm) (a:Int) (j:Int),0<=a->a<=j->j+n=s.size->z.length<=400->(YY ZH z:Int)+z.length<=27 * (j - a)->Tot (Iu s ((d+1:Nat):Int) z j) fun o=>match o with | .inl r=>r.2=-1 | .inr r=>a<=r.2/\r.2<=s.size/\(YY ZH r.1:Int)+r.1.length<=27 * (r.2 - a):=by
   intro n
   induction n using Nat.strongRecOn with
   | _ n ihn =>
    intro z a j ha haj hj hz hsz;rw [Iu];refine ZA (Bd fun hc=>ZA (H7 (by omega) hc) fun _ _=>ZB trivial) fun b hb=>?_;refine ZA (p:=fun b'=>b'=true->b=true/\(z.length:Int) < 400) (ZB fun h=>by simpa using h) fun b' hb'=>?_;refine ZC (fun hbt=>?_) (fun _=>ZB (by simp only;exact ⟨haj,by omega,hsz⟩));obtain ⟨h1,h2⟩:=hb' hbt;have h3:=hb h1;rw [YC (by omega) (by omega),show ((d+1:Nat):Int) - 1=(d:Int) by omega];refine ZA (ih (by omega) j (by omega) (by omega)) fun x hx=>?_;refine ZC (fun _=>ZB (by simp only)) (fun hx0=>?_)
    rcases hx with hx | hx
    ·omega
    refine ZA (Dt (by simp only [ZE,ZD];omega)) fun w hw=>?_;subst hw;refine ZA (Eg (by omega) (by omega) hx.2.1) fun k hk=>?_;refine ihn (s.size - k.toNat) (by omega) _ a k ha (by omega) (by omega) (by simp only [QV,ZE,ZD];omega) ?_;simp only [DC,YY,QV,ZE,ZD];omega
  rw [II];refine ZA (Eg (by omega) h0 h) fun j hj=>?_;refine ZA (p:=fun b=>b=false->j < s.size) (ZB fun h=>by simp at h;omega) fun b hb=>?_;refine ZC (fun _=>ZB (.inl rfl)) (fun hb'=>?_);have hjs:=hb (by simpa using hb');refine ZA (H7 (by omega) hjs) fun c _=>?_;refine ZC (fun _=>?_) (fun _=>?_)
  ·rw [YC (a:=j+1) (by omega) (by omega)];refine ZA (Eg (by omega) (by omega) (by omega)) fun k hk=>?_;refine ZA (loop (s.size - k.toNat) [] k k (by omega) (by omega) (by omega) (by simp) (by simp [YY])) fun o ho=>?_
   cases o with
   | inl r=>exact ZB (.inl ho)
   | inr r =>
    obtain ⟨r1,r2⟩:=r;simp only at ho ⊢;refine ZA (Qbz fun hc=>ZA (H7 (by omega) (by omega)) fun _ _=>ZB trivial) fun b hb=>?_;refine ZC (fun _=>ZB (.inl rfl)) (fun hb'=>?_);have:=hb (by simpa using hb');rw [YC (a:=r2+1) (by omega) (by omega)];refine ZB (.inr ⟨by simp only;omega,by simp only;omega,?_⟩)
    simp only;rw [SI]
    show ((0+0+r1.length+YY ZH r1:Nat):Int)+1<=_;omega
  ·refine ZA (Qjl hs (by omega) (by omega)) fun x hx=>ZB ?_
   rcases hx with hx | hx
   ·exact .inl hx
   ·exact .inr ⟨by simp only;omega,hx.2.1,by have:=hx.2.2;simp only;omega⟩
end Go.Proofs.SA
namespace Go.Proofs.SA
theorem Qdj (c:Int) (b:Bool):Tot (H9 c b) fun _=>True:=by
 unfold H9;simp only [pure_bind];refine ZC (fun _=>ZB trivial) (fun _=>?_);exact ZA (p:=fun _=>True) (ZC (fun _=>ZB trivial) (fun _=>ZB trivial)) fun _ _=>ZB trivial
theorem MU {s:ByteArray} : ∀(n:Nat) (i:Int),0<=i->i+n=13->Tot (Vr s i) fun _=>True:=by
 intro n
 induction n with
 | zero =>
  intro i h0 h;rw [Vr];refine ZA (p:=fun b=>b=true->i < s.size/\i<=12) (ZB fun h=>by simpa using h) fun b hb=>?_;exact ZC (fun h=>by have:=hb h;omega) (fun _=>ZB trivial)
 | succ n ih =>
  intro i h0 h;rw [Vr];refine ZA (p:=fun b=>b=true->i < s.size/\i<=12) (ZB fun h=>by simpa using h) fun b hb=>?_;refine ZC (fun h=>?_) (fun _=>ZB trivial);have:=hb h;refine ZA (H7 h0 this.1) fun c _=>?_;refine ZA (Qdj _ _) fun v _=>?_;refine ZC (fun _=>ZB trivial) (fun _=>?_);rw [YC (by omega) (by omega)];exact ih _ (by omega) (by omega)
theorem Sn (s:ByteArray):Tot (JA s) fun _=>True:=by
 unfold JA;refine ZA (p:=fun _=>True) (ZB trivial) fun _ _=>?_;refine ZC (fun _=>ZB trivial) (fun _=>?_);refine ZA (MU 13 0 (by omega) (by omega)) fun o _=>?_
 cases o with
 | inl r=>exact ZB trivial
 | inr r=>exact ZA (p:=fun _=>True) (ZB trivial) fun _ _=>ZB trivial
theorem St {l:List Int} : ∀(n:Nat) (i:Int),0<=i->i+n=25->Tot (VA l i) fun _=>True:=by
 intro n
 induction n with
 | zero =>
  intro i h0 h;rw [VA];refine ZA (p:=fun b=>b=true->i < l.length/\i<=24) (ZB fun h=>by simpa using h) fun b hb=>?_;exact ZC (fun h=>by have:=hb h;omega) (fun _=>ZB trivial)
 | succ n ih =>
  intro i h0 h;rw [VA];refine ZA (p:=fun b=>b=true->i < l.length/\i<=24) (ZB fun h=>by simpa using h) fun b hb=>?_;refine ZC (fun h=>?_) (fun _=>ZB trivial);have hi:=(hb h).1;have hx:=Az h0 hi;refine ZA hx fun x _=>?_;refine ZA (p:=fun _=>True) (ZC (fun _=>ZB trivial) (fun _=>ZA hx fun _ _=>ZB trivial)) fun _ _=>?_;refine ZA (p:=fun _=>True) (ZC (fun _=>ZB trivial) (fun _=>?_)) fun _ _=>?_
  ·refine ZA (p:=fun _=>True) (ZC (fun h1=>?_) (fun _=>ZB trivial)) fun _ _=>ZB trivial;rw [YC (by omega) (by omega)];exact ZA hx fun _ _=>ZA (Az (by omega) (by omega)) fun _ _=>ZB trivial
  refine ZC (fun _=>ZB trivial) (fun _=>?_);rw [YC (by omega) (by omega)];exact ih _ (by omega) (by omega)
theorem Qd2 (l:List Int):Tot (Hm l) fun _=>True:=by
 unfold Hm;refine ZA (St 25 0 (by omega) (by omega)) fun o _=>?_
 cases o with
 | inl r=>exact ZB trivial
 | inr r=>exact ZB trivial
theorem pb {α:Type} {b:Bool} {k:Bool->Option α} {p:α->Prop} (h:∀b,Tot (k b) p):Tot ((pure b:Option Bool)>>=k) p:=h b
theorem Qsk:∀(d:Nat),d < 1000->∀(f:Fm),f.sz < 1099511627776->Tot (Ij f d) fun _=>True:=by
 intro d
 induction d with
 | zero=>intro _ f _;rw [Ij,if_pos (by rfl)];exact ZB trivial
 | succ d ih =>
  intro hd f hf;have hz:=Fm.Gb f
  have loop:∀(n:Nat) (i:Int),0<=i->i+n=f.kids.length->Tot (Gu f ((d+1:Nat):Int) i) fun _=>True:=by
   intro n
   induction n with
   | zero=>intro i h0 h;rw [Gu,if_neg (by omega)];exact ZB trivial
   | succ n ihn =>
    intro i h0 h;rw [Gu,if_pos (by omega)];refine ZA (Az h0 (by omega)) fun g hg=>?_;rw [YC (by omega) (by omega),YC (by omega) (by omega),show ((d+1:Nat):Int) - 1=(d:Int) by omega];refine ZA (ih (by omega) g (by have:=Fm.Hb hg;omega)) fun b _=>?_;exact ZC (fun _=>ZB trivial) (fun _=>ihn (i+1) (by omega) (by omega))
  rw [Ij,if_neg (by omega)];refine ZC (fun _=>?_) (fun _=>?_)
  ·refine ZA (Sn _) fun _ _=>pb fun b=>?_;refine ZA (p:=fun _=>True) (ZC (fun _=>ZA (Qd2 _) fun _ _=>ZB trivial) (fun _=>ZB trivial)) fun _ _=>pb fun _=>ZB trivial
  refine ZC (fun _=>pb fun _=>pb fun _=>pb fun _=>pb fun _=>ZB trivial) (fun _=>?_);refine pb fun _=>pb fun _=>pb fun _=>?_;refine ZC (fun _=>ZB trivial) (fun _=>?_);refine ZA (loop f.kids.length 0 (by omega) (by omega)) fun o _=>?_
  cases o with
  | inl r=>exact ZB trivial
  | inr r=>exact ZB trivial
theorem Qgj:∀(f:Fm),f.sz < 1099511627776->Tot (Gs f) fun _=>True:=by
 intro f
 induction f using Fm.ind with
 | h f ih =>
  intro hf;have hz:=Fm.Gb f
  have loop:∀(n:Nat) (v i:Int),0<=i->i+n=f.kids.length->Tot (Wm f v i) fun _=>True:=by
   intro n
   induction n with
   | zero=>intro v i h0 h;rw [Wm,if_neg (by omega)];exact ZB trivial
   | succ n ihn =>
    intro v i h0 h;rw [Wm,if_pos (by omega)];refine ZA (Az h0 (by omega)) fun g hg=>?_;refine ZA (ih g hg (by have:=Fm.Hb hg;omega)) fun b _=>?_;rw [YC (a:=i+1) (by omega) (by omega)];exact ihn _ (i+1) (by omega) (by omega)
  rw [Gs];exact ZA (loop f.kids.length 1 0 (by omega) (by omega)) fun _ _=>ZB trivial
theorem R8 {f:Fm} (hf:f.sz < 1099511627776):Tot (YM f) fun _=>True:=by
 unfold YM;refine ZA (Qsk 40 (by omega) f hf) fun _ _=>?_;exact ZA (p:=fun _=>True) (ZC (fun _=>ZA (Qgj f hf) fun _ _=>ZB trivial) (fun _=>ZB trivial)) fun _ _=>ZB trivial
theorem Sp {s:ByteArray} (hs:s.size < 1099511627):Tot (Aa s) fun r=>r.1.sz<=27 * s.size:=by
 unfold Aa;refine ZA (Qk0 hs 40 (by omega) 0 (by omega) (by omega)) fun x hx=>?_;refine ZA (p:=fun b=>b=false->0<=x.2) (ZC (fun _=>ZB fun h=>by cases h) (fun h=>?_)) fun b hb=>?_
 ·have h2:x.2<=s.size:=by rcases hx with hx | hx<;>omega
  exact ZA (Eg (by omega) (by omega) h2) fun _ _=>ZB fun _=>by omega
 have hsz:0<=x.2->x.1.sz<=27 * s.size:=fun h=>by
  rcases hx with hx | hx
  ·omega
  ·have:=hx.2.1;have:=hx.2.2;omega
 refine ZA (p:=fun b'=>b'=false->0<=x.2) (ZC (fun _=>ZB fun h=>by cases h) (fun h=>?_)) fun b' hb'=>?_
 ·have h0:=hb (by simpa using h);exact ZA (R8 (by have:=hsz h0;omega)) fun _ _=>ZB fun _=>h0
 refine ZC (fun _=>ZB ?_) (fun h=>ZB (hsz (hb' (by simpa using h))))
 simp only;rw [SI];show 0+0+0+0<=_;omega
theorem Oj {s:ByteArray} (hs:s.size<=1000):Tot (IG s) fun r=>r.sz<=27000:=by
 unfold IG;exact ZA (Sp (by omega)) fun r hr=>ZB (by omega)
theorem Qec:Tot Cu fun l=>1<=l.length/\∀s∈l,s.size<=1000:=⟨_,rfl,by decide,by decide⟩
theorem Qgo {c:Rdr} {k:Nat} (h:RdI c k) (hk:k < 1000000000):Tot (B0 c) fun r=>r.1.sz<=1000000/\RdI r.2 (k+1000000):=by
 unfold B0;refine ZA Qec fun l hl=>?_;refine ZA (V8 h (by omega) (by omega)) fun x hx=>?_;refine ZC (fun _=>?_) (fun _=>?_)
 ·refine ZA (V8 hx.2.2 (by omega) (by omega)) fun y hy=>?_;refine ZA (Az hy.1 hy.2.1) fun s hs=>?_;exact ZA (Oj (hl.2 s hs)) fun r hr=>ZB ⟨by simp only;omega,hy.2.2.mono (by omega)⟩
 refine ZA (AG hx.2.2 (by omega) (by simp)) fun d hd=>?_
 have hd':d.1=4∨d.1=3∨d.1=2:=by simpa using hd.1
 have hdn:∃n:Nat,n<=4/\d.1=(n:Int):=by
  rcases hd' with h | h | h
  ·exact ⟨4,by omega,h⟩
  ·exact ⟨3,by omega,h⟩
  ·exact ⟨2,by omega,h⟩
 obtain ⟨n,hn,hdn⟩:=hdn
 have hq:Qw n<=256000:=by
  have:Qw n<=Qw 4:=by
   unfold Qw;exact Nat.mul_le_mul_left _ (Nat.pow_le_pow_right (by omega) hn)
  exact this
 rw [hdn];refine ZA (Qic n hd.2 ⟨by simp,by simp;omega,by decide⟩ (by omega) (by omega)) fun v hv=>?_;refine ZA (V8 hv.2 (by omega) (by omega)) fun u hu=>?_;refine ZC (fun _=>?_) (fun _=>ZB ⟨by have:=hv.1;simp only;omega,hu.2.2.mono (by omega)⟩);refine ZA (Oj (by decide)) fun r hr=>?_;refine ZA (A9 _) fun n1 h1=>?_;refine ZA (A9 _) fun n2 h2=>?_;refine ZA (AD _) fun n3 h3=>?_;refine ZA (AD _) fun n4 h4=>?_;refine ZA (AD _) fun n5 h5=>ZB ⟨?_,hu.2.2.mono (by omega)⟩;have e1:(Qk #[108,101,116,45,115,121,110,116,97,120]).size=10:=rfl;have e2:(Qk #[103]).size=1:=rfl;have:=hv.1;simp only [YY,ZE,ZD] at h3 h4 h5
 simp only;omega
end Go.Proofs.SA
