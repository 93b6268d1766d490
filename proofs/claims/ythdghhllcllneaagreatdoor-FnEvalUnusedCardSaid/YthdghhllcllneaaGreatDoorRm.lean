/- The reference's expansion from the beginning; core programs checked. -/
import Derived.Test.YthdghhllcllneaaGreatDoorRj
set_option linter.unusedVariables false
set_option linter.unusedSimpArgs false
set_option maxRecDepth 100000
open Go Go.Proofs Go.Proofs.Shadow
open _root_.ByteArray renaming mk → Qk
open Tot renaming bind → ZA, ite → ZC, pure → ZB
open _root_.Bool renaming false_eq_true → Qq, not_false → ZT, not_true → ZU, and_eq_true → QG, or_eq_true → Q9, not_eq_true' → ZP
open _root_.List renaming getElem_mem → ZK, mem_cons_self → KB, mem_cons_of_mem → Kf, mem_cons → Kj, not_mem_nil → KC, nil_append → QS, length_cons → ZE, map_cons → QH, length_map → ZI, mem_singleton → ZG, append_assoc → QD, length_drop → Xe, mem_append → QR, length_append → QV
open Cor renaming mk → KR, nodes → Xh, kids → Zk
open Fm renaming nodes → ZL, mk → KS, strip → Xi
open _root_.Nat renaming mul_le_mul_right → Kz, le_refl → Qt, succ_mul → QL
open _root_.Int renaming le_refl → Xf
open Rdr renaming mk → KW
namespace Go.Proofs.SA
def RK (f:Fm):Prop:=f.kind=3/\∀k∈f.kids,k.kind=3/\k.kids.length=2
theorem U1 {f:Fm} (hf:f.sz<=100000):Tot (Bi f) fun r=>(RK f/\r=(f.kids.map fun k=>k.kids.getD 0 default,f.kids.map fun k=>k.kids.getD 1 default,true))∨(¬RK f/\r.2.2=false):=by
 have hz:=Fm.Gb f
 have loop:∀(r:List Fm) (i:Nat) (z w:List Fm),z.length+r.length<=200000->w.length+r.length<=200000->Tot (J6 f z w i r) fun o=>((∀k∈r,k.kind=3/\k.kids.length=2)/\o=.inr (z++r.map fun k=>k.kids.getD 0 default,w++r.map fun k=>k.kids.getD 1 default))∨(¬(∀k∈r,k.kind=3/\k.kids.length=2)/\∃q,o=.inl q/\q.2.2=false):=by
  intro r
  induction r with
  | nil=>intro i z w _ _;rw [J6];exact ⟨_,rfl,.inl ⟨by simp,by simp⟩⟩
  | cons k r ih =>
   intro i z w hz hw;simp only [ZE] at hz hw;rw [J6];simp only [Yd,X5]
   by_cases h3:k.kind=3
   rotate_left
   ·rw [if_neg h3];simp only [X5,if_true];exact ⟨_,rfl,.inr ⟨fun h=>h3 (h k (KB ..)).1,_,rfl,rfl⟩⟩
   rw [if_pos h3]
   by_cases h2:k.kids.length=2
   rotate_left
   ·simp only [X5,decide_eq_false (show ¬(k.kids.length:Int)=2 by omega),ZT,if_true];exact ⟨_,rfl,.inr ⟨fun h=>h2 (h k (KB ..)).2,_,rfl,rfl⟩⟩
   have j0:0 < k.kids.length:=by omega
   have j1:1 < k.kids.length:=by omega
   simp only [X5,decide_eq_true (show (k.kids.length:Int)=2 by omega),ZU,Qq,if_false,show idx k.kids 0=some k.kids[0] from Yg _ 0 j0,show idx k.kids 1=some k.kids[1] from Yg _ 1 j1];rw [YB (by simp;omega),X5,YB (by simp;omega),X5];refine (ih (i+1) _ _ (by simp;omega) (by simp;omega)).mono fun o ho=>?_
   rcases ho with ⟨r1,r2⟩ | ⟨r1,r2⟩
   ·refine .inl ⟨fun x hx=>?_,?_⟩
    ·rcases Kj.1 hx with rfl | hx
     ·exact ⟨h3,h2⟩
     ·exact r1 x hx
    ·rw [r2,QH,QH,Vv j0,Vv j1,QD,QD];rfl
   ·exact .inr ⟨fun h=>r1 fun x hx=>h x (Kf _ hx),r2⟩
 rw [Bi,Mn _ _ _ (by omega)];obtain ⟨o,ho,hop⟩:=loop f.kids 0 [] [] (by simp;omega) (by simp;omega);rw [ho,X5]
 rcases hop with ⟨r1,r2⟩ | ⟨r1,q,r2,r3⟩
 ·subst r2;simp only [QS]
  by_cases h3:f.kind=3
  ·exact ⟨_,rfl,.inl ⟨⟨h3,r1⟩,by rw [decide_eq_true h3]⟩⟩
  ·exact ⟨_,rfl,.inr ⟨fun h=>h3 h.1,decide_eq_false h3⟩⟩
 ·subst r2;exact ⟨_,rfl,.inr ⟨fun h=>r1 h.2,r3⟩⟩
theorem TN {f:Fm} (hf:FV f) (hp:RK f) {j:Nat} (hj:j < 2):∀x∈f.kids.map fun k=>k.kids.getD j default,FV x:=fun x hx=>by
 obtain ⟨k,hk,rfl⟩:=List.mem_map.1 hx;have h2:=(hp.2 k hk).2;simp only [Vv (show j < k.kids.length by omega)];exact (hf.kid hk).kid (ZK _)
theorem U2 {f:Fm} (hp:RK f):YY ZL (f.kids.map fun k=>k.kids.getD 1 default)+1<=f.nodes:=by
 have:∀l:List Fm,(∀k∈l,k.kids.length=2)->YY ZL (l.map fun k=>k.kids.getD 1 default)<=YY ZL l:=by
  intro l
  induction l with
  | nil=>intro _;exact Qt _
  | cons k l ih =>
   intro h;have h1:=ih (fun x hx=>h x (Kf _ hx));have h2:=h k (KB ..)
   have h3:1 < k.kids.length:=by omega
   have h4:=I9 (ZK h3);simp only [QH,YY,Vv h3];omega
 have h:=this f.kids (fun k hk=>(hp.2 k hk).2);have:=Fm.Yx f;omega
theorem Qd5 {x:Xpn} (hx:XI x) {f:Fm} (hf:FV f) {id b:Int} (hb:b<=60) (hid:Qbs x.macs id≥0):Tot (B4 x f id b) fun r=>r.2.2=0->XI r.1/\r.1.steps=x.steps+1/\x.steps < b/\FV r.2.1:=by
 have ht0:=hx.t0;have hs0:=hx.s0;rw [B4];split
 ·exact ⟨_,rfl,fun h=>by simp at h⟩
 rename_i hst;rw [Qh3 hx,X5]
 by_cases h1:x.scope+1<=99
 rotate_left
 ·rw [decide_eq_false h1];simp only [ZT,if_true];exact ⟨_,rfl,fun h=>by simp at h⟩
 rw [decide_eq_true h1];simp only [ZU,Qq,if_false];have hml:=Qov hid;have hsm:=hx.sm;rw [YC (by omega) (by omega),Qhr _ _ (by exact hsm),X5,EF (l:=x.macs) hid hml.1,X5,BH _ _ f (by have:=hf.sz;omega),X5]
 have hm:MS (x.macs.getD (Qbs x.macs id).toNat default):=by
  have:(Qbs x.macs id).toNat < x.macs.length:=by omega
  rw [Vv this];exact hx.mm _ (ZK this)
 have hcs:=Dj hf (x.scope+1) 1;refine ZA (Ah (by omega)) fun b1 hb1=>?_;cases b1
 ·simp only [ZT,if_true];exact ⟨_,rfl,fun h=>by simp at h⟩
 simp only [ZU,Qq,if_false];refine ZA (Oa hx.b.bs hm.1 hm.2.1 (by omega)).true fun r1 _=>?_;split
 ·exact ⟨_,rfl,fun h=>by simp at h⟩
 refine ZA (Uy hx.b.bs hm.1 hm.2.1 (by have:=hm.2.2;omega) (by omega)) fun r2 hr2=>?_
 cases hap:Qf3 x.binds (x.macs.getD (Qbs x.macs id).toNat default).lits (x.macs.getD (Qbs x.macs id).toNat default).rules (chg (x.scope+1) 1 f) with
 | none =>
  rw [hap] at hr2;simp only at hr2;rw [hr2];simp only [ZT,if_true];exact ⟨_,rfl,fun h=>by simp at h⟩
 | some g =>
  rw [hap] at hr2;obtain ⟨rfl,hg⟩:=hr2;have hcg:=Dj hg (x.scope+1) 1;simp only [ZU,Qq,if_false];rw [BH _ _ g (by have:=hg.sz;omega),X5];obtain ⟨b2,e2,hb2⟩:=Ah (f:=chg (x.scope+1) 1 g) (by omega);rw [e2,X5];cases b2
  ·simp only [ZT,if_true];exact ⟨_,rfl,fun h=>by simp at h⟩
  ·simp only [ZU,Qq,if_false];refine ⟨_,rfl,fun _=>⟨⟨hx.b,hx.m,hx.i,by show 0<=x.scope+1;omega,h1,by show 0<=x.steps+1;omega,by show x.steps+1<=60;omega,hx.mm⟩,rfl,by omega,hb2.1 rfl⟩⟩
theorem Qb8:∀(d:Nat) (f:Fm),LN d f->LN d f.strip
 | 0,_,h=>h.elim
 | d+1,f,h=>by
  rw [Fm.EJ];refine ⟨h.1,by show 0<=24;omega,fun k hk=>?_⟩;have hk':k∈f.kids.map Xi:=hk;obtain ⟨y,hy,rfl⟩:=List.mem_map.1 hk';exact Qb8 d y (h.2.2 y hy)
theorem Qab (f:Fm):f.strip.nodes=f.nodes:=by
 induction f using Fm.ind with
 | h f ih =>
  rw [Fm.Yx,Fm.Yx f,Fm.EJ]
  have:∀l:List Fm,(∀g∈l,g.strip.nodes=g.nodes)->YY ZL (l.map Xi)=YY ZL l:=by
   intro l
   induction l with
   | nil=>intro _;rfl
   | cons g l ihl=>intro h;rw [QH,YY,YY,h g (KB ..),ihl (fun x hx=>h x (Kf _ hx))]
  show 1+YY ZL (f.kids.map Xi)=_;rw [this _ ih]
theorem Qw5:∀(l:List Fm) (h:l.length=3),l[0].nodes+l[1].nodes+l[2].nodes=YY ZL l
 | [a,b,c],_=>by simp [YY];omega
theorem Tt {b:Int} (hb:b<=60):∀(N:Nat) (x:Xpn) (f:Fm),XI x->FV f->(60 - x.steps).toNat * 1000+f.nodes<=N->Tot (Vf x f b) (P7 x f.nodes):=by
 intro N
 induction N with
 | zero=>intro x f _ _ h;have:=Be f;omega
 | succ N ih =>
  intro x f hx hf hN;have hnf:=Fm.Yx f;have hkl:=hf.LU;rw [Vf]
  by_cases k2:f.kind=2
  ·rw [if_pos k2];exact ⟨_,rfl,fun _=>⟨hx,Xf _,Tc _ _ _ e0 _ _ (by simp) _ (by simp) (by simp),by have:=Be f;simp [Cor.Yx,Zk,YY];omega⟩⟩
  rw [if_neg k2]
  by_cases k1:f.kind=1
  ·rw [if_pos k1];refine ZA (Qdn hx hf) fun r hr=>⟨_,rfl,fun h=>?_⟩;obtain ⟨a1,a2,a3,a4⟩:=hr h;exact ⟨a1,a2,a3,by have:=Be f;show (r.2.1.nodes:Int)<=_+400 * (r.1.steps - x.steps);omega⟩
  rw [if_neg k1]
  by_cases hl0:(f.kids.length:Int)=0
  ·rw [if_pos hl0];exact ⟨_,rfl,.bad (by decide)⟩
  rw [if_neg hl0]
  have l0:0 < f.kids.length:=by omega
  rw [show idx f.kids 0=some f.kids[0] from Yg f.kids 0 l0,X5]
  have kid:∀(l:List Fm),(∀g∈l,FV g/\g.nodes < f.nodes)->l.length<=400->∀y,XI y->x.steps<=y.steps->Tot (HV y l b) (PA y l):=fun l hl hll y hy hxy =>
   Qfl (s0:=x.steps) (fun z g hz hs hg=>ih z g hz (hl g hg).1 (by have:=(hl g hg).2;omega)) hll hy hxy
  have hkids:∀g∈f.kids,FV g/\g.nodes < f.nodes:=fun g hg=>⟨hf.kid hg,by have:=I9 hg;omega⟩
  have call:Tot ((HV x f.kids b>>=fun x80=>pure (x80.1,KR 6 0 (Qk #[]) 0 [] (KS 0 (Qk #[]) 0 [] []) x80.2.1,x80.2.2)):Option (Xpn × Cor × Int)) (P7 x f.nodes):=by
   refine ZA (kid f.kids hkids (by omega) x hx (Xf _)) fun r hr=>⟨_,rfl,fun h=>?_⟩;obtain ⟨a1,a2,a3,a4,a5⟩:=hr h;refine ⟨a1,a2,Tc _ _ _ e0 _ _ (by simp) _ (by omega) a4,?_⟩;show ((KR _ _ _ _ _ _ r.2.1).nodes:Int)<=_+400 * (r.1.steps - x.steps);rw [Cor.Yx];simp only [Zk];omega
  by_cases k3:f.kids[0].kind=1
  rotate_left
  ·rw [if_neg k3];exact call
  have hf0:=hf.kid (ZK l0);rw [if_pos k3,X5,Qbu x _ hx.b.bs hf0.smc hx.sm,X5]
  by_cases m4:(Px x f.kids[0]).1=4
  ·rw [if_pos m4];exact ⟨_,rfl,.bad (by decide)⟩
  rw [if_neg m4]
  by_cases m1:(Px x f.kids[0]).1=1
  rotate_left
  ·rw [if_neg m1]
   by_cases m2:(Px x f.kids[0]).1=2
   rotate_left
   ·rw [if_neg m2];exact call
   rw [if_pos m2,Cs];obtain ⟨r,hr1,hr⟩:=Qd5 hx hf hb (Qhs m2);rw [hr1,X5]
   by_cases h0:r.2.2=0
   rotate_left
   ·rw [if_neg h0];exact ⟨_,rfl,.bad h0⟩
   obtain ⟨a1,a2,a3,a4⟩:=hr h0;rw [if_pos h0];have ht0:=hx.t0;refine ZA (ZA (ih r.1 r.2.1 a1 a4 (by have:=a4.2;have:=a1.t1;rw [a2] at *;omega)) fun q hq=>⟨_,rfl,hq⟩) fun q hq=>⟨_,rfl,fun h=>?_⟩;obtain ⟨c1,c2,c3,c4⟩:=hq h;have hn4:=a4.2;refine ⟨c1,by show x.steps<=q.1.steps;omega,c3,?_⟩;show (q.2.1.nodes:Int)<=_+400 * (q.1.steps - x.steps);omega
  rw [if_pos m1]
  have hform:Tot (B1 x f (Px x f.kids[0]).2 b) (P7 x f.nodes):=by
   generalize (Px x f.kids[0]).2=id;rw [B1];simp only [Yd,X5];split
   ·rename_i hq;rw [QG,decide_eq_true_iff,decide_eq_true_iff] at hq
    have l1:1 < f.kids.length:=by omega
    have hv:=hf.kid (ZK l1);rw [show idx f.kids 1=some f.kids[1] from Yg f.kids 1 l1,X5,MB _ (by have:=hv.sz;omega),X5];refine ⟨_,rfl,fun _=>⟨hx,Xf _,.mk e0 (by simp) (Qb8 _ _ hv.ln) (by rw [Qab];exact hv.2) (by simp) (by simp),?_⟩⟩;have:=Be f;simp [Cor.Yx,Zk,YY];omega
   split
   ·rename_i hq;rw [QG,decide_eq_true_iff,decide_eq_true_iff] at hq
    have hsub:E4 f.kids 1 (f.kids.length:Int)=some (f.kids.drop 1):=by
     unfold E4;rw [if_pos ⟨by omega,by omega,by omega⟩]
     congr 1
     rw [List.take_of_length_le];rfl;rw [Xe];omega
    rw [hsub,X5];refine ZA (kid (f.kids.drop 1) (fun g hg=>hkids g (List.mem_of_mem_drop hg)) (by rw [Xe];omega) x hx (Xf _)) fun r hr=>⟨_,rfl,fun h=>?_⟩;obtain ⟨a1,a2,a3,a4,a5⟩:=hr h;refine ⟨a1,a2,Tc _ _ _ e0 _ _ (by simp) _ (by rw [a3,Xe];omega) a4,?_⟩;show ((KR _ _ _ _ _ _ r.2.1).nodes:Int)<=_+400 * (r.1.steps - x.steps);rw [Cor.Yx];simp only [Zk]
    have:YY ZL (f.kids.drop 1)<=YY ZL f.kids:=by
     conv=>rhs;rw [← List.take_append_drop 1 f.kids,A7]
     omega
    omega
   have body:∀(hb2:2 < f.kids.length) (names:List Fm),(∀n∈names,FV n)->names.length<=400->∀y,XI y->x.steps<=y.steps->Tot (A6 y names f.kids[2] b) (P7 y (f.kids[2].nodes+1)):=fun hb2 names hn hnl y hy hxy=>by
    have hv:=hf.kid (ZK hb2);have hk:=I9 (ZK hb2);exact Qha (s0:=x.steps) hv (fun z g hz hs hg hgn=>ih z g hz hg (by omega)) hn hnl hy hxy
   have lam:Tot ((if (decide (id=1)&&decide ((f.kids.length:Int)=3))=true then (idx f.kids 1>>=fun x72=>some (decide (x72.kind=3))) else some false:Option Bool)) fun c=>c=true->id=1/\f.kids.length=3:=by
    split
    ·rename_i hq;rw [QG,decide_eq_true_iff,decide_eq_true_iff] at hq
     have l1:1 < f.kids.length:=by omega
     rw [show idx f.kids 1=some f.kids[1] from Yg f.kids 1 l1,X5];exact ⟨_,rfl,fun _=>⟨hq.1,by omega⟩⟩
    ·exact ⟨_,rfl,fun h=>by cases h⟩
   refine ZA lam fun c hc=>?_
   by_cases hct:c=true
   ·rw [if_pos hct];obtain ⟨_,h3⟩:=hc hct
    have l1:1 < f.kids.length:=by omega
    have l2:2 < f.kids.length:=by omega
    rw [show idx f.kids 1=some f.kids[1] from Yg f.kids 1 l1,X5,show idx f.kids 2=some f.kids[2] from Yg f.kids 2 l2,X5];have hv1:=hf.kid (ZK l1);have hk2:=I9 (ZK l2);refine ZA (body l2 f.kids[1].kids (fun n hn=>hv1.kid hn) (by have:=hv1.LU;omega) x hx (Xf _)) fun r hr=>⟨_,rfl,fun h=>?_⟩;obtain ⟨a1,a2,a3,a4⟩:=hr h;exact ⟨a1,a2,a3,by show (r.2.1.nodes:Int)<=_+400 * (r.1.steps - x.steps);omega⟩
   rw [if_neg hct];split
   ·exact ⟨_,rfl,.bad (by decide)⟩
   rename_i hq
   have h3:f.kids.length=3:=by
    rw [Q9,not_or] at hq;have:=hq.2;simp only [ZP,decide_eq_false_iff_not,Classical.not_not] at this;omega
   have l1:1 < f.kids.length:=by omega
   have l2:2 < f.kids.length:=by omega
   have hv1:=hf.kid (ZK l1);have hv2:=hf.kid (ZK l2);have hk1:=I9 (ZK l1);have hk2:=I9 (ZK l2);have hsum:=Qw5 f.kids h3;have hp0:=Be f.kids[0];rw [show idx f.kids 1=some f.kids[1] from Yg f.kids 1 l1,X5];refine ZA (U1 (by have:=hv1.sz;omega)) fun r hr=>?_
   rcases hr with ⟨hpo,rfl⟩ | ⟨_,hpf⟩
   rotate_left
   ·rw [hpf];simp only [ZT,if_true];exact ⟨_,rfl,.bad (by decide)⟩
   simp only [ZU,Qq,if_false,show idx f.kids 2=some f.kids[2] from Yg f.kids 2 l2,X5];have hn:=TN hv1 hpo (j:=0) (by omega);have hvs:=TN hv1 hpo (j:=1) (by omega);have hpn:=U2 hpo;have hkl1:=hv1.LU;split
   ·refine ZA (TE (s0:=x.steps) hv2 (fun z g hz hs hg hgn=>ih z g hz hg (by omega)) hn hvs (by simp) (by rw [ZI];omega) hx (Xf _)) fun r hr=>⟨_,rfl,fun h=>?_⟩;obtain ⟨a1,a2,a3,a4⟩:=hr h;exact ⟨a1,a2,a3,by show (r.2.1.nodes:Int)<=_+400 * (r.1.steps - x.steps);omega⟩
   ·refine ZA (kid _ (fun g hg=>⟨hvs g hg,by have:=Gl ZL _ g hg;omega⟩) (by rw [ZI];omega) x hx (Xf _)) fun r hr=>?_
    by_cases h0:r.2.2=0
    rotate_left
    ·rw [if_neg h0];exact ⟨_,rfl,.bad h0⟩
    rw [if_pos h0];obtain ⟨a1,a2,a3,a4,a5⟩:=hr h0;refine ZA (body l2 _ hn (by rw [ZI];omega) r.1 a1 a2) fun q hq=>?_;rw [ZI] at a3;rw [YB (by simp;omega),X5];refine ⟨_,rfl,fun h=>?_⟩;obtain ⟨c1,c2,c3,c4⟩:=hq h;refine ⟨c1,by show x.steps<=q.1.steps;omega,Tc _ _ _ e0 _ _ (by simp) _ (by simp;omega) (fun c hc=>?_),?_⟩
    ·rcases Kj.1 hc with rfl | hc
     ·exact c3
     ·exact a4 c hc
    ·show ((KR _ _ _ _ _ _ ([q.2.1]++r.2.1)).nodes:Int)<=_+400 * (q.1.steps - x.steps);rw [Cor.Yx];simp only [Zk,List.cons_append,QS,YY];omega
  exact ZA hform fun r hr=>⟨_,rfl,hr⟩
end Go.Proofs.SA
namespace Go.Proofs.SA
inductive SO:Cor->Prop
 | mk {k i:Int} {s:ByteArray} {n:Int} {l:List Int} {d:Fm} {ks:List Cor} (hl:l.length<=1000000) (hd:d.sz<=1000000) (hk:ks.length<=1000000) (h:∀x∈ks,SO x):SO (.mk k i s n l d ks)
theorem SO.out {c:Cor} (h:SO c):c.ids.length<=1000000/\c.data.sz<=1000000/\c.kids.length<=1000000/\∀x∈c.kids,SO x:=by
 cases h;exact ⟨by assumption,by assumption,by assumption,by assumption⟩
theorem Uj.b {c:Cor} (h:Uj c):SO c:=by
 induction h with
 | mk hs hl hd hn hk _ ih=>exact .mk (by omega) (by have:=LN.sz _ _ hd;omega) (by omega) ih
def arity (k:Int) (n:Nat):Prop:=((k=1∨k=2∨k=3∨k=4)/\n=0)∨(k=5/\n=1)∨(k=6/\1<=n)∨(k=7/\n=3)
def zF:Fm:=KS 0 (Qk #[]) 0 [] []
def R6 (c:Cor):Prop:=((c.kind=1->1<=c.id/\c.id<=999)/\(c.kind≠1->c.id=0))/\((c.kind=2->NV c.name)/\(c.kind≠2->c.name=Qk #[]))/\((c.kind=3->0<=c.num/\c.num<=999)/\(c.kind≠3->c.num=0))/\((c.kind=4->FV c.data/\c.data.strip=c.data)/\(c.kind≠4->c.data=zF))/\(c.kind≠5->c.ids=[])
def CIs:Nat->List Int->Cor->Prop
 | 0,_,_=>False
 | d+1,sc,c=>arity c.kind c.kids.length/\R6 c/\(c.kind=1->c.id∈sc)/\(∀i∈c.ids,1<=i/\i<=999/\i∉sc)/\c.ids.Nodup/\∀k∈c.kids,CIs d (sc++c.ids) k
def CV (c:Cor):Prop:=CIs 120 [] c/\c.nodes<=600
theorem Qdi (k:Int) (n:Nat):Tot (BZ k n) fun b=>b=true↔arity k n:=by
 rw [BZ]
 by_cases h1:k=1
 ·subst h1;simp [Yd,X5,arity,Tot]
 by_cases h2:k=2
 ·subst h2;simp [Yd,X5,arity,Tot]
 by_cases h3:k=3
 ·subst h3;simp [Yd,X5,arity,Tot]
 by_cases h4:k=4
 ·subst h4;simp [Yd,X5,arity,Tot]
 by_cases h5:k=5
 ·subst h5;simp [Yd,X5,arity,Tot];omega
 by_cases h6:k=6
 ·subst h6;simp [Yd,X5,arity,Tot];omega
 by_cases h7:k=7
 ·subst h7;simp [Yd,X5,arity,Tot];omega
 simp [Yd,X5,arity,Tot,h1,h2,h3,h4,h5,h6,h7]
theorem Tu {c:Cor} (hd:c.data.sz<=1000000):Tot (IY c) fun b=>b=true↔R6 c:=by
 have hs:Vh c.data (KS 0 (Qk #[]) 0 [] [])=some (decide (c.data=zF)):=EI _ hd _;obtain ⟨bn,en,hn⟩:=UX c.name;obtain ⟨bf,ef,hf⟩:=Ah (f:=c.data) (by omega);have est:WL c.data=some c.data.strip:=MB c.data (by omega);have esm:Vh c.data.strip c.data=some (decide (c.data.strip=c.data)):=EI _ (by have:=Fm.Qb9 c.data;omega) _
 have hi:decide ((c.ids.length:Int)=0)=decide (c.ids=[]):=by
  by_cases h:c.ids=[]
  ·rw [h];rfl
  ·rw [decide_eq_false h,decide_eq_false];intro h2;exact h (List.eq_nil_of_length_eq_zero (by omega))
 have key:∀(k1 k2 k3 k4 k5:Bool) (iL iG iZ nZ mL mG mZ dS dZ iN:Bool),k1=decide (c.kind=1)->k2=decide (c.kind=2)->k3=decide (c.kind=3)->k4=decide (c.kind=4)->k5=decide (c.kind=5) ->
   iL=decide (c.id < 1)->iG=decide (c.id > 999)->iZ=decide (c.id=0)->nZ=decide (c.name=Qk #[])->mL=decide (c.num < 0)->mG=decide (c.num > 999)->mZ=decide (c.num=0)->dS=decide (c.data.strip=c.data)->dZ=decide (c.data=zF)->iN=decide (c.ids=[]) ->
   IY c=some (!(if k1 then iL||iG else !iZ)&&!(if k2 then !bn else !nZ)&&!(if k3 then mL||mG else !mZ)&&!(if k4 then !bf||!dS else !dZ)&&(k5||iN)):=by
  intro k1 k2 k3 k4 k5 iL iG iZ nZ mL mG mZ dS dZ iN e1 e2 e3 e4 e5 f1 f2 f3 f4 f5 f6 f7 f8 f9 f10
  have c1:(c.kind=1)=(k1=true):=by rw [e1];simp
  have c2:(c.kind=2)=(k2=true):=by rw [e2];simp
  have c3:(c.kind=3)=(k3=true):=by rw [e3];simp
  have c4:(c.kind=4)=(k4=true):=by rw [e4];simp
  rw [IY];simp only [← e1,← e2,← e3,← e4,← e5,← f1,← f2,← f3,← f4,← f5,← f6,← f7,c1,c2,c3,c4,en,ef,est,esm,hs,hi,← f8,← f9,← f10,Yd,X5];cases k1<;>cases k2<;>cases k3<;>cases k4<;>simp only [X5,Yd,Qq,if_false,if_true,ZU,ZT,Bool.true_and,Bool.false_and,esm,← f8]
  all_goals (cases iL<;>cases iG<;>cases iZ<;>cases nZ<;>first | rfl | (cases bn<;>cases mL<;>cases mG<;>cases mZ<;>first | rfl | (cases bf<;>cases dS<;>cases dZ<;>first | rfl | (cases k5<;>cases iN<;>rfl))))
 refine ⟨_,key _ _ _ _ _ _ _ _ _ _ _ _ _ _ _ rfl rfl rfl rfl rfl rfl rfl rfl rfl rfl rfl rfl rfl rfl rfl,?_⟩;unfold R6;simp only [QG,ZP,Q9,decide_eq_true_eq];rw [← hn,← hf]
 have q1:(if decide (c.kind=1)=true then (decide (c.id < 1)||decide (c.id > 999)) else !decide (c.id=0))=false↔((c.kind=1->1<=c.id/\c.id<=999)/\(c.kind≠1->c.id=0)):=by
  by_cases h:c.kind=1
  ·simp [h]
  ·simp [h]
 have q2:(if decide (c.kind=2)=true then !bn else !decide (c.name=Qk #[]))=false↔((c.kind=2->bn=true)/\(c.kind≠2->c.name=Qk #[])):=by
  by_cases h:c.kind=2
  ·simp [h]
  ·simp [h]
 have q3:(if decide (c.kind=3)=true then (decide (c.num < 0)||decide (c.num > 999)) else !decide (c.num=0))=false↔((c.kind=3->0<=c.num/\c.num<=999)/\(c.kind≠3->c.num=0)):=by
  by_cases h:c.kind=3
  ·simp [h]
  ·simp [h]
 have q4:(if decide (c.kind=4)=true then (!bf||!decide (c.data.strip=c.data)) else !decide (c.data=zF))=false↔((c.kind=4->bf=true/\c.data.strip=c.data)/\(c.kind≠4->c.data=zF)):=by
  by_cases h:c.kind=4
  ·simp [h]
  ·simp [h]
 have q5:(c.kind=5∨c.ids=[])↔(c.kind≠5->c.ids=[]):=by
  by_cases h:c.kind=5
  ·simp [h]
  ·simp [h]
 simp only [decide_eq_true_eq] at q1 q2 q3 q4;rw [q1,q2,q3,q4,q5,and_assoc,and_assoc,and_assoc]
theorem Qvw (c:Cor) (d:Int):∀(r:List Int) (i:Nat) (sc:List Int),sc.length+r.length<=1000000000->(∀x∈r,True)->Tot (Ic c d sc i r) fun o=>match o with
  | .inl q=>q=false/\¬((∀x∈r,1<=x/\x<=999/\x∉sc)/\r.Nodup)
  | .inr q=>q=sc++r/\(∀x∈r,1<=x/\x<=999/\x∉sc)/\r.Nodup:=by
 intro r
 induction r with
 | nil=>intro i sc _ _;rw [Ic];exact ⟨_,rfl,by simp,by simp,by simp⟩
 | cons x r ih =>
  intro i sc hl _;simp only [ZE] at hl;rw [Ic];simp only [Yd,X5]
  have bad:¬(1<=x/\x<=999/\x∉sc)->Tot (some (Sum.inl false):Option (Bool ⊕ List Int)) fun o=>match o with
   | .inl q=>q=false/\¬((∀y∈x :: r,1<=y/\y<=999/\y∉sc)/\(x :: r).Nodup)
   | .inr q=>q=sc++(x :: r)/\(∀y∈x :: r,1<=y/\y<=999/\y∉sc)/\(x :: r).Nodup:=fun h=>⟨_,rfl,rfl,fun h2=>h (h2.1 x (KB ..))⟩
  by_cases h1:x < 1
  ·simp only [h1,if_true,X5];exact bad (by omega)
  by_cases h2:x > 999
  ·simp only [h1,h2,if_false,if_true,X5,decide_true];exact bad (by omega)
  simp only [h1,h2,if_false,X5,decide_false,Qq,Tx sc x (show Sm sc.length by unfold Sm;omega)]
  by_cases h3:x∈sc
  ·simp only [h3,decide_true,if_true];exact bad (fun h=>h.2.2 h3)
  simp only [h3,decide_false,Qq,if_false];rw [YB (by simp;omega)];simp only [X5,QS];rw [YB (by simp;omega)];simp only [X5];refine (ih (i+1) (sc++[x]) (by simp;omega) (fun _ _=>trivial)).mono fun o ho=>?_
  have conv:((∀y∈r,1<=y/\y<=999/\y∉sc++[x])/\r.Nodup)↔((∀y∈x :: r,1<=y/\y<=999/\y∉sc)/\(x :: r).Nodup):=by
   rw [List.nodup_cons];constructor
   ·rintro ⟨a,b⟩;refine ⟨fun y hy=>?_,fun hx=>?_,b⟩
    ·rcases Kj.1 hy with rfl | hy
     ·exact ⟨by omega,by omega,h3⟩
     ·have:=a y hy;exact ⟨this.1,this.2.1,fun h=>this.2.2 (List.mem_append_left _ h)⟩
    ·exact (a x hx).2.2 (by simp)
   ·rintro ⟨a,b,e⟩;refine ⟨fun y hy=>?_,e⟩;have:=a y (Kf _ hy);refine ⟨this.1,this.2.1,fun h=>?_⟩
    rcases QR.1 h with h | h
    ·exact this.2.2 h
    ·rw [ZG.1 h] at hy;exact b hy
  cases o with
  | inl q=>exact ⟨ho.1,fun h=>ho.2 (conv.2 h)⟩
  | inr q =>
   obtain ⟨a,b⟩:=ho;exact ⟨by rw [a,QD];rfl,conv.1 b⟩
theorem Qki:∀(d:Nat),d<=120->∀(c:Cor),SO c->∀sc:List Int,sc.length+d * 1000000<=900000000->Tot (AN c sc d) fun b=>b=true↔CIs d sc c:=by
 intro d
 induction d with
 | zero=>intro _ c _ sc _;rw [AN,if_pos (by rfl)];simp only [Yd,X5,if_true];exact ⟨_,rfl,fun h=>(by cases h),fun h=>(show False from h).elim⟩
 | succ d ih =>
  intro hd c hc sc hsc;obtain ⟨c1,c2,c3,c4⟩:=hc.out;rw [AN,if_neg (by omega)];have bad:¬CIs (d+1) sc c->Tot (some false:Option Bool) fun b=>b=true↔CIs (d+1) sc c:=fun h=>⟨_,rfl,fun h2=>(by cases h2),fun h2=>absurd h2 h⟩;obtain ⟨b1,e1,h1⟩:=Qdi c.kind c.kids.length;rw [e1];simp only [Yd,X5];cases b1
  ·simp only [ZT,if_true,X5]
   exact bad fun h=>by have:=h1.2 h.1;cases this
  obtain ⟨b2,e2,h2⟩:=Tu c2;simp only [ZU,Qq,if_false,e2,X5];cases b2
  ·simp only [ZT,if_true,X5]
   exact bad fun h=>by have:=h2.2 h.2.1;cases this
  simp only [ZU,Qq,if_false]
  have h3:((if c.kind=1 then (GV sc c.id>>=fun x34=>some (!x34)) else some false:Option Bool))=some (decide (c.kind=1/\c.id∉sc)):=by
   by_cases hk:c.kind=1
   ·rw [if_pos hk,Tx sc c.id (by unfold Sm;omega),X5];by_cases hm:c.id∈sc<;>simp [hk,hm]
   ·rw [if_neg hk];simp [hk]
  rw [h3];simp only [X5]
  by_cases h4:c.kind=1/\c.id∉sc
  ·rw [decide_eq_true h4];simp only [if_true];exact bad fun h=>h4.2 (h.2.2.1 h4.1)
  rw [decide_eq_false h4];simp only [Qq,if_false];rw [PU _ _ _ (by omega)];obtain ⟨o,ho,hop⟩:=Qvw c ((d+1:Nat):Int) c.ids 0 sc (by omega) (fun _ _=>trivial);rw [ho];simp only [X5]
  cases o with
  | inl q =>
   obtain ⟨rfl,hn⟩:=hop;exact bad fun h=>hn ⟨h.2.2.2.1,h.2.2.2.2.1⟩
  | inr q =>
   obtain ⟨rfl,hi1,hi2⟩:=hop
   simp only
   rw [PV _ _ _ (by omega)]
   have loop:∀(r:List Cor) (i:Nat),(∀x∈r,x∈c.kids)->Tot (Ie c ((d+1:Nat):Int) (sc++c.ids) i r) fun o=>match o with | .inl b=>b=false/\¬∀k∈r,CIs d (sc++c.ids) k | .inr _=>∀k∈r,CIs d (sc++c.ids) k:=by
    intro r
    induction r with
    | nil=>intro i _;rw [Ie];exact ⟨_,rfl,by simp⟩
    | cons k r ihr =>
     intro i hr;rw [Ie];simp only [Yd,X5];rw [YC (by omega) (by omega),show ((d+1:Nat):Int) - 1=(d:Int) by omega];refine ZA (ih (by omega) k (c4 k (hr k (KB ..))) _ (by rw [QV];omega)) fun b hb=>?_;cases b
     ·simp only [ZT,if_true];exact ⟨_,rfl,rfl,fun h=>by have:=hb.2 (h k (KB ..));cases this⟩
     ·simp only [ZU,Qq,if_false];refine (ihr (i+1) (fun x hx=>hr x (Kf _ hx))).mono fun o ho=>?_
      cases o with
      | inl q=>exact ⟨ho.1,fun h=>ho.2 fun x hx=>h x (Kf _ hx)⟩
      | inr q =>
       exact fun x hx=>by
        rcases Kj.1 hx with rfl | hx
        ·exact hb.1 rfl
        ·exact ho x hx
   obtain ⟨o,ho2,hop2⟩:=loop c.kids 0 (fun _ h=>h);rw [ho2];simp only [X5]
   cases o with
   | inl q=>obtain ⟨rfl,hn⟩:=hop2;exact bad fun h=>hn h.2.2.2.2.2
   | inr q =>
    refine ⟨_,rfl,fun _=>⟨h1.1 rfl,h2.1 rfl,fun hk=>Classical.byContradiction fun hm=>h4 ⟨hk,hm⟩,hi1,hi2,hop2⟩,fun _=>rfl⟩
theorem Qgi:∀(c:Cor),SO c->c.nodes<=1000000000->H3 c=some (c.nodes:Int):=by
 intro c
 induction c using Cor.ind with
 | h c ih =>
  intro hc hn;obtain ⟨c1,c2,c3,c4⟩:=hc.out;have hne:=Cor.Yx c
  have loop:∀(r:List Cor) (i:Nat) (m:Nat),(∀x∈r,x∈c.kids)->m+YY Xh r<=1000000000->J5 c (m:Int) i r=some ((m+YY Xh r:Nat):Int):=by
   intro r
   induction r with
   | nil=>intro i m _ _;rw [J5];rfl
   | cons k r ihr =>
    intro i m hr hm;rw [YY] at hm;have hk:=hr k (KB ..);rw [J5,Yd,X5,ih k hk (c4 k hk) (by omega),X5,YC (by omega) (by omega),show (m:Int)+(k.nodes:Int)=((m+k.nodes:Nat):Int) by omega,ihr _ _ (fun x hx=>hr x (Kf _ hx)) (by omega),YY,Nat.add_assoc]
  rw [H3,Mj _ _ (by omega),show (1:Int)=((1:Nat):Int) from rfl,loop c.kids 0 1 (fun _ h=>h) (by omega),X5,hne];rfl
theorem EZ {c:Cor} (hc:SO c) (hn:c.nodes<=1000000000):Tot (Ir c) fun b=>b=true↔CV c:=by
 rw [Ir];refine ZA (Qki 120 (by omega) c hc [] (by simp)) fun b hb=>?_;cases b
 ·simp only [Qq,if_false,Yd,X5];exact ⟨_,rfl,fun h=>(by cases h),fun h=>(by have:=hb.2 h.1;cases this)⟩
 ·simp only [if_true,Qgi c hc hn,Yd,X5];refine ⟨_,rfl,?_⟩;simp only [decide_eq_true_iff];exact ⟨fun h=>⟨hb.1 rfl,by omega⟩,fun h=>by have:=h.2;omega⟩
theorem Qie:Ww=some ⟨[⟨(Qk #[108,97,109,98,100,97]),[],1⟩,⟨(Qk #[105,102]),[],2⟩,⟨(Qk #[113,117,111,116,101]),[],3⟩,⟨(Qk #[108,101,116]),[],4⟩,⟨(Qk #[108,101,116,45,115,121,110,116,97,120]),[],5⟩],[],0,10,0⟩:=by
 rw [Ww,Ct,Yd,X5]
 have st:∀(i:Nat) (z:List Bnd) (hi:i < 6),z.length<=5->Vd [(Qk #[]),(Qk #[108,97,109,98,100,97]),(Qk #[105,102]),(Qk #[113,117,111,116,101]),(Qk #[108,101,116]),(Qk #[108,101,116,45,115,121,110,116,97,120])] z (i:Int)=Vd [(Qk #[]),(Qk #[108,97,109,98,100,97]),(Qk #[105,102]),(Qk #[113,117,111,116,101]),(Qk #[108,101,116]),(Qk #[108,101,116,45,115,121,110,116,97,120])] (z++[⟨[(Qk #[]),(Qk #[108,97,109,98,100,97]),(Qk #[105,102]),(Qk #[113,117,111,116,101]),(Qk #[108,101,116]),(Qk #[108,101,116,45,115,121,110,116,97,120])][i]'hi,[],(i:Int)⟩]) ((i+1:Nat):Int):=fun i z hi hz=>by
  conv=>lhs;rw [Vd,if_pos (by simp;omega),Yg _ i (by simpa using hi),X5,YB (by simp;omega),X5,Wu (i:=i) (by omega)]
 rw [show (1:Int)=((1:Nat):Int) from rfl,st 1 [] (by omega) (by simp),st 2 _ (by omega) (by simp),st 3 _ (by omega) (by simp),st 4 _ (by omega) (by simp),st 5 _ (by omega) (by simp),Vd,if_neg (by simp)];rfl
theorem Qpg {x:Xpn} (h:Ww=some x):XI x:=by
 rw [Qie] at h
 injection h with h
 subst h;have nv:∀s:ByteArray,(1<=s.size/\s.size<=12/\∀j,j < s.size->NP s j)->NV s:=fun s h=>.inr (.inr h);have np:∀s:ByteArray,(∀j:Fin s.size,ltr (byt s j.val) (decide ((j.val:Int)=0))=true)->∀j,j < s.size->NP s j:=fun s h j hj=>h ⟨j,hj⟩;refine ⟨⟨by decide,fun b hb=>?_,?_⟩,by decide,by decide,by decide,by decide,by decide,by decide,fun m hm=>by cases hm⟩
 ·have sv:SV []:=⟨by decide,fun j hj=>by simp at hj⟩;simp only [Kj,KC,or_false] at hb
  rcases hb with rfl | rfl | rfl | rfl | rfl
  ·exact ⟨nv _ ⟨by decide,by decide,np _ (by decide)⟩,sv,by decide,by decide⟩
  ·exact ⟨nv _ ⟨by decide,by decide,np _ (by decide)⟩,sv,by decide,by decide⟩
  ·exact ⟨nv _ ⟨by decide,by decide,np _ (by decide)⟩,sv,by decide,by decide⟩
  ·exact ⟨nv _ ⟨by decide,by decide,np _ (by decide)⟩,sv,by decide,by decide⟩
  ·exact ⟨nv _ ⟨by decide,by decide,np _ (by decide)⟩,sv,by decide,by decide⟩
 ·have h5:([(Qk #[108,97,109,98,100,97]),(Qk #[105,102]),(Qk #[113,117,111,116,101]),(Qk #[108,101,116]),(Qk #[108,101,116,45,115,121,110,116,97,120])]:List ByteArray).Pairwise (· ≠ ·):=by decide
  refine (List.pairwise_map (f:=Bnd.name).1 h5).imp ?_;exact fun h e=>h e.1
theorem Qh1 {f:Fm} (hf:f.sz < 1000000000) (b:Int):Tot (Dd f b) fun r=>(r.2.2=0->XI r.1/\Uj r.2.1/\CV r.2.1)/\(r.2.2≠0->r.1=⟨[],[],0,0,0⟩/\r.2.1=KR 0 0 (Qk #[]) 0 [] (KS 0 (Qk #[]) 0 [] []) []):=by
 rw [Dd];refine ZA (Ah hf) fun b1 hb1=>?_;simp only [Yd,X5];split
 ·exact ⟨_,rfl,fun h=>by simp at h,fun _=>⟨rfl,rfl⟩⟩
 rename_i hc;rw [Q9,Q9,not_or,not_or] at hc;have hv:FV f:=hb1.1 (by have:=hc.1.1;simpa using this)
 have hb60:b<=60:=by have:=hc.2;simp at this;omega
 obtain ⟨x0,hx0⟩:∃x,Ww=some x:=⟨_,Qie⟩;have hXI:=Qpg hx0;rw [hx0];simp only [X5]
 have ht:x0.steps=0:=by rw [Qie] at hx0;injection hx0 with hx0;rw [← hx0]
 obtain ⟨r,hr1,hr⟩:=Tt hb60 _ x0 f hXI hv (Qt _);rw [hr1];simp only [X5]
 by_cases h0:r.2.2=0
 rotate_left
 ·rw [if_neg h0];exact ⟨_,rfl,fun h=>absurd h h0,fun _=>⟨rfl,rfl⟩⟩
 rw [if_pos h0];obtain ⟨a1,a2,a3,a4⟩:=hr h0
 have hn:r.2.1.nodes<=1000000000:=by have:=a1.t1;have:=hv.2;omega
 obtain ⟨b2,e2,hb2⟩:=EZ a3.b hn;rw [e2];simp only [X5];cases b2
 ·simp only [ZT,if_true];exact ⟨_,rfl,fun h=>by simp at h,fun _=>⟨rfl,rfl⟩⟩
 ·simp only [ZU,Qq,if_false];exact ⟨_,rfl,fun _=>⟨a1,a3,hb2.1 rfl⟩,fun h=>absurd rfl h⟩
theorem RW:∀c:Cor,SO c->G4 c=some c:=by
 intro c
 induction c using Cor.ind with
 | h c ih =>
  intro hc;obtain ⟨c1,c2,c3,c4⟩:=hc.out
  rw [G4,YB (by simp;omega),X5,QS,LA _ (by omega),X5,Nf _ _ _ _ (by omega),G9 (HU c c.ids c.data) id (fun _ _=>rfl) c.kids [] 0 (fun x hx z i r hz=>by
   rw [HU,Yd,X5,ih x hx (c4 x hx),X5,YB (by simp;omega),X5];rfl) (by simp;omega)]
  simp only [X5,Yd,QS,List.map_id,Cor.eta]
theorem N8 {f:Fm} (hf:f.sz < 1000000000) (b:Int):Tot (IE f b) fun r=>(r.2=0->Uj r.1/\CV r.1)/\Uj r.1:=by
 rw [IE];refine ZA (Qh1 hf b) fun r hr=>?_
 have hs:Uj r.2.1:=by
  by_cases h:r.2.2=0
  ·exact (hr.1 h).2.1
  ·rw [(hr.2 h).2];exact Tc _ _ _ e0 _ _ (by simp) _ (by simp) (by simp)
 rw [RW _ hs.b,X5];exact ⟨_,rfl,fun h=>⟨hs,(hr.1 h).2.2⟩,hs⟩
end Go.Proofs.SA
open Go.IntKind (i64)
namespace Go.Proofs.SA
def FB (d:Nat) (f:Fm):Prop:=FIs d f/\f.strip=f
theorem Qbt:∀{l:List Fm},(∀x∈l,x.strip=x)->l.map Xi=l
 | [],_=>rfl
 | x :: l,h=>by rw [QH,h x (KB ..),Qbt (fun y hy=>h y (Kf _ hy))]
theorem nvD (s:ByteArray) (h1:1<=s.size) (h2:s.size<=12) (h:∀j:Fin s.size,ltr (byt s j.val) (decide ((j.val:Int)=0))=true):NV s:=.inr (.inr ⟨h1,h2,fun j hj=>h ⟨j,hj⟩⟩)
theorem Qid:∀(d:Nat) {c:Rdr} {k:Nat},RdI c k->d < 20->k+Pw d < 1099511627776->Tot (Vy d c) fun r=>(FB (d+1) r.1/\r.1.nodes<=4 ^ d)/\RdI r.2 (k+Pw d):=by
 have base:∀{c:Rdr} {k:Nat} (d:Nat),RdI c k->k+100 < 1099511627776+1->Tot (Yi 4 c>>=fun x=>if x.1=0 then (Yu [0,1,2,7,42,999] x.2>>=fun y=>pure (KS 2 (Qk #[]) y.1 [] [],y.2)) else (Vb RC x.2>>=fun y=>Vx y.1>>=fun z=>pure (z,y.2))) fun r=>(FB (d+1) r.1/\r.1.nodes<=1)/\RdI r.2 (k+2):=by
  intro c k d h hk;refine ZA (V8 h (by omega) (by omega)) fun x hx=>?_;refine ZC (fun _=>?_) (fun _=>?_)
  ·refine ZA (AG hx.2.2 (by omega) (by simp)) fun y hy=>ZB ⟨⟨⟨.inr (.inl ⟨rfl,rfl,?_,?_,rfl,rfl⟩),rfl⟩,by rw [Fm.Yx];exact Qt _⟩,hy.2⟩
   ·have:=hy.1;simp only [Kj,KC,or_false] at this;show 0<=y.1;omega
   ·have:=hy.1;simp only [Kj,KC,or_false] at this;show y.1<=999;omega
  ·refine ZA (TJ hx.2.2 (by omega) (by simp [RC])) fun y hy=>?_;rw [Qoy,X5];refine ZB ⟨⟨⟨.inl ⟨rfl,?_,rfl,⟨Nat.zero_le _,fun j hj=>by simp [Fm.sc] at hj⟩,rfl⟩,rfl⟩,by rw [Fm.Yx];exact Qt _⟩,hy.2⟩;have:=hy.1;simp only [RC,Kj,KC,or_false] at this;show NV y.1
   rcases this with h | h | h | h | h | h | h | h<;>rw [h]<;>exact nvD _ (by decide) (by decide) (by decide)
 intro d
 induction d with
 | zero =>
  intro c k h hd hk;rw [Vy];rw [if_pos (by rfl)];exact (base 0 h (by have:=Uo 0;omega)).mono fun r hr=>⟨⟨hr.1.1,by have:=hr.1.2;simpa using this⟩,hr.2.mono (by have:=Uo 0;omega)⟩
 | succ d ih =>
  intro c k h hd hk;have hp:=Uo d;have hs:=Qez d
  have h4:4 ^ (d+1)=4 * 4 ^ d:=by rw [Nat.pow_succ];omega
  have h41:1<=4 ^ d:=Nat.pow_pos (by omega)
  have loop:∀(n:Nat) {z:List Fm} {b:List Int} {p:Int} {k:Nat},n<=3->z.length+n<=3->RdI ⟨b,p⟩ k->k+n * Pw d < 1099511627776->(∀x∈z,FB (d+1) x)->Tot (WN ((d+1:Nat):Int) z n b p) fun r=>(∀x∈r.1,FB (d+1) x)/\YY ZL r.1<=YY ZL z+n * 4 ^ d/\RdI ⟨r.2.1,r.2.2⟩ (k+n * Pw d):=by
   intro n
   induction n with
   | zero =>
    intro z b p k _ _ h _ hz;rw [WN,if_neg (by omega)];exact ZB ⟨hz,by simp,by simpa using h⟩
   | succ n ihn =>
    intro z b p k hn hz h hk hzf;rw [QL] at hk;rw [WN,if_pos (by omega)]
    have w1:i64.wrap (((d+1:Nat):Int) - 1)=(d:Int):=by rw [YC (by omega) (by omega)];omega
    have w2:i64.wrap (((n+1:Nat):Int) - 1)=(n:Int):=by rw [YC (by omega) (by omega)];omega
    rw [w1,w2];refine ZA (ih h (by omega) (by omega)) fun x hx=>?_;refine ZA (Dt (by simp only [ZE,List.length_nil];omega)) fun y hy=>?_;subst hy
    refine (ihn (by omega) (by simp only [QV,ZE,List.length_nil];omega) hx.2 (by omega) (fun y hy=>by
     rcases QR.1 hy with hy | hy
     ·exact hzf y hy
     ·rw [ZG.1 hy];exact hx.1.1)).mono fun r hr=>?_
    obtain ⟨r1,r2,r3⟩:=hr;simp only [DC,YY] at r2;rw [QL,QL];exact ⟨r1,by have:=hx.1.2;omega,r3.mono (by omega)⟩
  rw [Vy,if_neg (by omega)];refine ZA (V8 h (by omega) (by omega)) fun x hx=>?_;refine ZC (fun _=>?_) (fun _=>?_)
  ·exact (base (d+1) hx.2.2 (by omega)).mono fun r hr=>⟨⟨hr.1.1,by have:=hr.1.2;omega⟩,hr.2.mono (by omega)⟩
  ·refine ZA (V8 hx.2.2 (by omega) (by omega)) fun y hy=>?_;obtain ⟨m,hm⟩:=Int.eq_ofNat_of_zero_le hy.1
   have hm3:m<=3:=by have:=hy.2.1;omega
   have hmul:m * Pw d<=3 * Pw d:=Kz _ hm3;have hmul4:m * 4 ^ d<=3 * 4 ^ d:=Kz _ hm3;rw [hm];refine ZA (loop m hm3 (by simp;omega) hy.2.2 (by omega) (by simp)) fun r hr=>?_;obtain ⟨r1,r2,r3⟩:=hr;simp only [YY] at r2;refine ZB ⟨⟨⟨.inr (.inr ⟨rfl,rfl,rfl,rfl,fun x hx=>(r1 x hx).1⟩),?_⟩,?_⟩,r3.mono (by omega)⟩
   ·rw [Fm.EJ];show KS 3 (Qk #[]) 0 [] (r.1.map Xi)=KS 3 (Qk #[]) 0 [] r.1;rw [Qbt fun x hx=>(r1 x hx).2]
   rw [Fm.Yx];show 1+YY ZL r.1<=_;omega
inductive NK (m:Nat):Cor->Prop
 | mk {k i:Int} {s:ByteArray} {n:Int} {l:List Int} {d:Fm} {ks:List Cor} (hl:l.length<=m) (hd:d.sz<=1000/\d.strip=d) (hs:s.size<=1000) (hk:ks.length<=1000) (h:∀x∈ks,NK m x):NK m (.mk k i s n l d ks)
theorem NK.out {m:Nat} {c:Cor} (h:NK m c):c.ids.length<=m/\(c.data.sz<=1000/\c.data.strip=c.data)/\c.name.size<=1000/\c.kids.length<=1000/\∀x∈c.kids,NK m x:=by
 cases h;exact ⟨by assumption,by assumption,by assumption,by assumption,by assumption⟩
theorem NK.mono {m n:Nat} (hmn:m<=n) {c:Cor} (h:NK m c):NK n c:=by
 induction h with
 | mk hl hd hs hk _ ih=>exact .mk (by omega) hd hs hk ih
theorem NK.b {m:Nat} (hm:m<=1000000) {c:Cor} (h:NK m c):SO c:=by
 induction h with
 | mk hl hd hs hk _ ih=>exact .mk (by omega) (by omega) (by omega) ih
def Sw (d:Nat):Nat:=1000 * 4 ^ d
theorem Qm2 (d:Nat):Sw (d+1)=4 * Sw d:=by simp only [Sw,Nat.pow_succ];omega
theorem Qm1 (d:Nat):1000<=Sw d:=by simp only [Sw];have:0 < 4 ^ d:=Nat.pow_pos (by omega);omega
theorem zsz:(KS 0 (Qk #[]) 0 [] []).sz<=1000/\(KS 0 (Qk #[]) 0 [] []).strip=KS 0 (Qk #[]) 0 [] []:=⟨by decide,rfl⟩
def Dr (d k:Nat) (r:Cor × Int × Rdr):Prop:=NK 2 r.1/\r.1.nodes<=Sw d/\RdI r.2.2 (k+Sw d)
theorem Qsm {k i:Int} {s:ByteArray} {n:Int} {d:Fm} (hs:s.size<=1000) (hd:d.sz<=1000/\d.strip=d):NK 2 (.mk k i s n [] d [])/\(KR k i s n [] d []).nodes=1:=⟨.mk (by simp) hd hs (by simp) (by simp),by rw [Cor.Yx];rfl⟩
theorem Qkn {d kk:Nat} {k i:Int} {s:ByteArray} {n:Int} {f:Fm} {a:Int} {c:Rdr} (hs:s.size<=1000) (hf:f.sz<=1000/\f.strip=f) (hc:RdI c (kk+600)):Dr d kk (.mk k i s n [] f [],a,c):=by
 have:=Qm1 d;exact ⟨(Qsm hs hf).1,by rw [(Qsm hs hf).2];omega,hc.mono (by omega)⟩
theorem Qjv:(Qk #[]).size<=1000:=by decide
theorem Qsl {c:Rdr} {k:Nat} (h:RdI c k) (hk:k < 100000000) (d kk:Nat) (hkk:k<=kk+5) (a3:Int):Tot (Yi 4 c>>=fun x41 =>
     if x41.1=0 then (
      (Vy 1 x41.2>>=fun x45 =>
      pure (KR 4 0 (Qk #[]) 0 [] x45.1 [],a3,x45.2)
      )
     ) else (
      if x41.1=1 then (
       (Vb [(Qk #[102]),(Qk #[43]),(Qk #[108,105,115,116])] x41.2>>=fun x52 =>
       pure (KR 2 0 x52.1 0 [] (KS 0 (Qk #[]) 0 [] []) [],a3,x52.2)
       )
      ) else (
       (Yu [0,1,5,42] x41.2>>=fun x57 =>
       pure (KR 3 0 (Qk #[]) x57.1 [] (KS 0 (Qk #[]) 0 [] []) [],a3,x57.2)
       )
      )
     )) (Dr d kk):=by
 refine ZA (V8 h (by omega) (by omega)) fun r hr=>?_;obtain ⟨_,_,hr⟩:=hr;refine ZC (fun _=>?_) (fun _=>ZC (fun _=>?_) (fun _=>?_))
 ·have p1:Pw 1=400:=rfl;refine ZA ((Qb6 1 hr (by omega) (by rw [p1];omega)).both (Qid 1 hr (by omega) (by rw [p1];omega))) fun q hq=>⟨_,rfl,?_⟩;rw [p1] at hq;exact Qkn Qjv ⟨by omega,hq.2.1.1.2⟩ (hq.1.2.mono (by omega))
 ·refine ZA (TJ hr (by omega) (by simp)) fun q hq=>⟨_,rfl,?_⟩;refine Qkn ?_ zsz (hq.2.mono (by omega));have:=hq.1;simp only [Kj,KC,or_false] at this
  rcases this with h | h | h<;>rw [h]<;>decide
 ·refine ZA (AG hr (by omega) (by simp)) fun q hq=>⟨_,rfl,?_⟩;exact Qkn Qjv zsz (hq.2.mono (by omega))
theorem Qsn {c:Rdr} {k:Nat} (h:RdI c k) (hk:k < 99999900) (d kk:Nat) (hkk:k<=kk+2) (a1:List Int) (a3:Int):Tot (if (a1.length:Int) > 0 then (
   (Yi 3 c>>=fun Ru =>
   if Ru.1 > 0 then (
    (Yi (a1.length:Int) Ru.2>>=fun Qep =>
    (idx a1 Qep.1>>=fun Dg =>
    pure (KR 1 Dg (Qk #[]) 0 [] (KS 0 (Qk #[]) 0 [] []) [],a3,Qep.2)
    )
    )
   ) else (
    (Yi 4 Ru.2>>=fun x41 =>
     if x41.1=0 then (
      (Vy 1 x41.2>>=fun x45 =>
      pure (KR 4 0 (Qk #[]) 0 [] x45.1 [],a3,x45.2)
      )
     ) else (
      if x41.1=1 then (
       (Vb [(Qk #[102]),(Qk #[43]),(Qk #[108,105,115,116])] x41.2>>=fun x52 =>
       pure (KR 2 0 x52.1 0 [] (KS 0 (Qk #[]) 0 [] []) [],a3,x52.2)
       )
      ) else (
       (Yu [0,1,5,42] x41.2>>=fun x57 =>
       pure (KR 3 0 (Qk #[]) x57.1 [] (KS 0 (Qk #[]) 0 [] []) [],a3,x57.2)
       )
      )
     ))
   )
   )
  ) else (
   (Yi 4 c>>=fun x41 =>
     if x41.1=0 then (
      (Vy 1 x41.2>>=fun x45 =>
      pure (KR 4 0 (Qk #[]) 0 [] x45.1 [],a3,x45.2)
      )
     ) else (
      if x41.1=1 then (
       (Vb [(Qk #[102]),(Qk #[43]),(Qk #[108,105,115,116])] x41.2>>=fun x52 =>
       pure (KR 2 0 x52.1 0 [] (KS 0 (Qk #[]) 0 [] []) [],a3,x52.2)
       )
      ) else (
       (Yu [0,1,5,42] x41.2>>=fun x57 =>
       pure (KR 3 0 (Qk #[]) x57.1 [] (KS 0 (Qk #[]) 0 [] []) [],a3,x57.2)
       )
      )
     ))):Option (Cor × Int × Rdr)) (Dr d kk):=by
 refine ZC (fun hl=>?_) (fun _=>Qsl h (by omega) d kk (by omega) a3);refine ZA (V8 h (by omega) (by omega)) fun r hr=>?_;obtain ⟨_,_,hr⟩:=hr;refine ZC (fun _=>?_) (fun _=>Qsl hr (by omega) d kk (by omega) a3);refine ZA (V8 hr (by omega) (by omega)) fun q hq=>?_;refine ZA (Az hq.1 hq.2.1) fun y _=>⟨_,rfl,?_⟩;exact Qkn Qjv zsz (hq.2.2.mono (by omega))
theorem Qka (a2:Int) (x62:Int × Rdr):∀(n:Nat) (z t:List Int) (a3:Int) {b:List Int} {p:Int} {k:Nat},RdI (KW b p) k->k+n < 1000000000->z.length+n<=1000->t.length+n<=1000->Tot (GJ a2 x62 z t (n:Int) a3 b p) fun r=>r.1.length=z.length+n/\r.2.1.length=t.length+n/\RdI (KW r.2.2.2.1 r.2.2.2.2) (k+n):=by
 intro n
 induction n with
 | zero=>intro z t a3 b p k h _ _ _;rw [GJ,if_neg (by omega)];exact ⟨_,rfl,rfl,rfl,h⟩
 | succ n ih =>
  intro z t a3 b p k h hk hz ht;rw [GJ,if_pos (by omega)];refine ZA (AG h (by omega) (by simp)) fun r hr=>?_;rw [YB (by simp;omega),X5,YB (by simp;omega),X5,YB (by simp;omega),X5,show i64.wrap (((n+1:Nat):Int) - 1)=(n:Int) by rw [YC (by omega) (by omega)];omega];have hr2:RdI (KW r.2.b r.2.p) (k+1):=hr.2;refine (ih _ _ _ hr2 (by omega) (by simp;omega) (by simp;omega)).mono fun q hq=>?_;obtain ⟨q1,q2,q3⟩:=hq;exact ⟨by rw [q1];simp;omega,by rw [q2];simp;omega,q3.mono (by omega)⟩
theorem Qib:∀(d:Nat),d < 10->∀(sc:List Int) (a3:Int) {c:Rdr} {k:Nat},RdI c k->sc.length+2 * d<=100->k+Sw d < 100000000->Tot (IK sc (d:Int) a3 c) (Dr d k):=by
 intro d
 induction d with
 | zero =>
  intro _ sc a3 c k h hsc hk;rw [IK,if_pos (by rfl)];have:=Qm1 0;exact Qsn h (by omega) 0 k (by omega) sc a3
 | succ d ih =>
  intro hd sc a3 c k h hsc hk;have hS:=Qm2 d;have hG:=Qm1 d;rw [IK,if_neg (by omega)];refine ZA (V8 h (by omega) (by omega)) fun r hr=>?_;obtain ⟨_,_,hr⟩:=hr;refine ZC (fun _=>Qsn hr (by omega) (d+1) k (by omega) sc a3) (fun _=>?_);refine ZA (AG hr (by omega) (by simp)) fun q hq=>?_;obtain ⟨hq1,hq2⟩:=hq
  have kids:∀(ids:List Int) (sc2:List Int) (hsc2:sc2.length+2 * d<=100) (n:Nat) (k0:Nat),n<=3->∀(m i:Nat) (z:List Cor) (a:Int) (b:List Int) (p:Int),i+m=n->z.length=i->(∀x∈z,NK 2 x)->YY Xh z<=i * Sw d->RdI (KW b p) (k0+i * Sw d)->k0+3 * Sw d < 100000000 ->
    Tot (Hy ((d+1:Nat):Int) q ids sc2 (n:Int) z (i:Int) a b p) fun r=>r.1.length=n/\(∀x∈r.1,NK 2 x)/\YY Xh r.1<=n * Sw d/\RdI (KW r.2.2.1 r.2.2.2) (k0+n * Sw d):=by
   intro ids sc2 hsc2 n k0 hn m
   induction m with
   | zero=>intro i z a b p hi hz h1 h2 h3 _;rw [Hy,if_neg (by omega)];obtain rfl:i=n:=(by omega);exact ⟨_,rfl,hz,h1,h2,h3⟩
   | succ m ihm =>
    intro i z a b p hi hz h1 h2 h3 hk0;have hmul:i * Sw d<=2 * Sw d:=Kz _ (by omega);rw [Hy,if_pos (by omega),YC (by omega) (by omega),show ((d+1:Nat):Int) - 1=(d:Int) by omega];refine ZA (ih (by omega) sc2 a h3 hsc2 (by omega)) fun r hr=>?_;obtain ⟨r1,r2,r3⟩:=hr;rw [YB (by simp;omega),X5,Wu (i:=i) (by omega)]
    have hs1:(i+1) * Sw d=i * Sw d+Sw d:=by rw [Nat.add_mul];omega
    have r3':RdI (KW r.2.2.b r.2.2.p) (k0+(i+1) * Sw d):=r3.mono (by omega)
    exact ihm (i+1) (z++[r.1]) _ _ _ (by omega) (by simp;omega) (fun x hx=>by
     rcases QR.1 hx with hx | hx
     ·exact h1 x hx
     ·rw [ZG.1 hx];exact r1) (by rw [A7,hs1];simp only [YY];omega) r3' hk0
  refine ZA (p:=fun y=>∃n:Nat,y.1.length<=2/\y.2.1.length+2 * d<=100/\y.2.2.1=(n:Int)/\n<=3/\RdI (KW y.2.2.2.2.1 y.2.2.2.2.2) (k+6)) ?_ fun y hy=>?_
  ·refine ZC (fun _=>?_) (fun _=>ZC (fun _=>?_) (fun _=>?_))
   ·refine ZA (AG hq2 (by omega) (by simp)) fun w hw=>?_;obtain ⟨hw1,hw2⟩:=hw;have hw2':RdI (KW w.2.b w.2.p) (k+1+1+1):=hw2
    have:∃n:Nat,w.1=(n:Int)/\n<=2:=by
     simp only [Kj,KC,or_false] at hw1
     rcases hw1 with h | h | h
     ·exact ⟨1,h,by omega⟩
     ·exact ⟨2,h,by omega⟩
     ·exact ⟨0,h,by omega⟩
    obtain ⟨n,hn,hn2⟩:=this;rw [hn];refine ZA (Qka _ q n [] sc a3 hw2' (by omega) (by simp;omega) (by omega)) fun v hv=>⟨_,rfl,1,?_⟩;obtain ⟨v1,v2,v3⟩:=hv;exact ⟨by rw [v1];simp;omega,by rw [v2];omega,rfl,by omega,v3.mono (by omega)⟩
   ·refine ZA (AG hq2 (by omega) (by simp)) fun w hw=>⟨_,rfl,?_⟩;obtain ⟨hw1,hw2⟩:=hw;have hw2':RdI (KW w.2.b w.2.p) (k+1+1+1):=hw2;simp only [Kj,KC,or_false] at hw1
    rcases hw1 with h | h | h
    ·exact ⟨2,by simp,by simp only;omega,h,by omega,hw2'.mono (by omega)⟩
    ·exact ⟨1,by simp,by simp only;omega,h,by omega,hw2'.mono (by omega)⟩
    ·exact ⟨3,by simp,by simp only;omega,h,by omega,hw2'.mono (by omega)⟩
   ·have hq2':RdI (KW q.2.b q.2.p) (k+1+1):=hq2;exact ⟨_,rfl,3,by simp,by simp only;omega,rfl,by omega,hq2'.mono (by omega)⟩
  ·obtain ⟨y1,y2,y3,y4,y5,y6⟩:=y;obtain ⟨n,g1,g2,g3,g4,g5⟩:=hy;simp only at g1 g2 g3 g5 ⊢;subst g3;have hn3:n * Sw d<=3 * Sw d:=Kz _ g4;refine ZA (kids y1 y2 g2 n (k+6) g4 n 0 [] y4 y5 y6 (by omega) rfl (by simp) (by simp [YY]) (by simpa using g5) (by omega)) fun v hv=>⟨_,rfl,?_⟩;obtain ⟨v1,v2,v3,v4⟩:=hv;refine ⟨.mk g1 zsz Qjv (by omega) v2,?_,v4.mono (by omega)⟩;rw [Cor.Yx];show 1+YY Xh v.1<=Sw (d+1);omega
theorem Qgg (c:Cor) (hc:SO c):Ga c=some c:=by
 obtain ⟨c1,c2,c3,c4⟩:=hc.out
 rw [Ga,YB (by simp;omega),X5,QS,LA _ (by omega),X5,CK _ _ _ _ (by omega),G9 (VN c c.ids c.data) id (fun _ _=>rfl) c.kids [] 0 (fun x hx z i r hz=>by
  rw [VN,Yd,X5,RW x (c4 x hx),X5,YB (by simp;omega),X5];rfl) (by simp;omega)]
 simp only [X5,Yd,QS,List.map_id,Cor.eta]
theorem Og {m:Nat} (hm:m<=100):∀(c:Cor),NK m c->∀{r:Rdr} {k:Nat},RdI r k->k+3 * c.nodes < 100000000->Tot (Hs c r) fun q=>NK (m+1) q.1/\q.1.nodes=c.nodes/\RdI q.2 (k+3 * c.nodes):=by
 intro c
 induction c using Cor.ind with
 | h c ih =>
  intro hc r k hr hk;obtain ⟨c1,c2,c3,c4,c5⟩:=hc.out;have hnn:=Cor.Yx c;have c5':∀x∈c.kids,NK (m+1) x:=fun x hx=>(c5 x hx).mono (by omega);rw [Hs,Qgg c (hc.b (by omega)),X5]
  have here:∀{r:Rdr} {k0:Nat},RdI r k0->k0<=k+1->Tot (Yi 12 r>>=fun x36 =>
   if x36.1=0 then (
    (Yu [0,8,3,6] x36.2>>=fun x41 =>
    pure (KR x41.1 c.id c.name c.num c.ids c.data c.kids,x41.2)
    )
   ) else (
    if x36.1=1 then (
     (Yu [0,1,1000,2] x36.2>>=fun x47 =>
     pure (KR c.kind x47.1 c.name c.num c.ids c.data c.kids,x47.2)
     )
    ) else (
     if x36.1=2 then (
      (Yu [1,900,0] x36.2>>=fun x55 =>
      (VQ 8 c.ids [x55.1]>>=fun x57 =>
      pure (KR c.kind c.id c.name c.num x57 c.data c.kids,x55.2)
      )
      )
     ) else (
      if x36.1=3 then (
       (Vb [(Qk #[]),(Qk #[103]),(Qk #[65])] x36.2>>=fun x63 =>
       pure (KR c.kind c.id x63.1 c.num c.ids c.data c.kids,x63.2)
       )
      ) else (
       pure (KR c.kind c.id c.name c.num c.ids c.data c.kids,x36.2)
      )
     )
    )
   )) fun q=>NK (m+1) q.1/\q.1.nodes=c.nodes/\RdI q.2 (k+3 * c.nodes):=by
   intro r k0 hr hk0
   have nn:∀(a b:Int) (s:ByteArray) (n:Int) (l:List Int) (d:Fm),(KR a b s n l d c.kids).nodes=c.nodes:=fun a b s n l d=>by rw [Cor.Yx,Cor.Yx c];rfl
   refine ZA (V8 hr (by omega) (by omega)) fun q hq=>?_;obtain ⟨_,_,hq⟩:=hq;refine ZC (fun _=>?_) (fun _=>ZC (fun _=>?_) (fun _=>ZC (fun _=>?_) (fun _=>ZC (fun _=>?_) (fun _=>?_))))
   ·refine ZA (AG hq (by omega) (by simp)) fun w hw=>⟨_,rfl,.mk (by omega) c2 c3 c4 c5',nn ..,hw.2.mono (by omega)⟩
   ·refine ZA (AG hq (by omega) (by simp)) fun w hw=>⟨_,rfl,.mk (by omega) c2 c3 c4 c5',nn ..,hw.2.mono (by omega)⟩
   ·refine ZA (AG hq (by omega) (by simp)) fun w hw=>?_;rw [YB (by simp;omega),X5];exact ⟨_,rfl,.mk (by simp;omega) c2 c3 c4 c5',nn ..,hw.2.mono (by omega)⟩
   ·refine ZA (TJ hq (by omega) (by simp)) fun w hw=>⟨_,rfl,.mk (by omega) c2 ?_ c4 c5',nn ..,hw.2.mono (by omega)⟩;have:=hw.1;simp only [Kj,KC,or_false] at this
    rcases this with h | h | h<;>rw [h]<;>decide
   ·exact ⟨_,rfl,.mk (by omega) c2 c3 c4 c5',nn ..,hq.mono (by omega)⟩
  refine ZC (fun hl=>?_) (fun _=>here hr (by omega));refine ZA (V8 hr (by omega) (by omega)) fun q hq=>?_;obtain ⟨_,_,hq⟩:=hq;refine ZC (fun _=>?_) (fun _=>here hq (by omega));refine ZA (V8 hq (by omega) (by omega)) fun w hw=>?_;obtain ⟨w1,w2,w3⟩:=hw
  have hi:w.1.toNat < c.kids.length:=by omega
  have hmm:=ZK hi;have hs:=Gl Xh c.kids _ hmm;rw [UP c.kids w.1 w1 w2,X5];refine ZA (ih _ hmm (c5 _ hmm) w3 (by omega)) fun v hv=>?_;obtain ⟨v1,v2,v3⟩:=hv;rw [X5];refine ⟨_,rfl,.mk (by omega) c2 c3 (by rw [List.length_set];exact c4) (fun x hx=>?_),?_,v3.mono (by omega)⟩
  ·rcases List.mem_or_eq_of_mem_set hx with hx | rfl
   ·exact c5' x hx
   ·exact v1
  ·rw [Cor.Yx];show 1+YY Xh (c.kids.set w.1.toNat v.1)=c.nodes;have:=Qcb Xh c.kids w.1.toNat v.1 hi;omega
theorem Th {l:List Int} (h:∀x∈l,0<=x/\x < 256):Tot (A5 l) fun c=>NK 4 c/\c.nodes<=256000:=by
 rw [A5];refine ZA (Qby h) fun c hc=>?_;refine ZA (AG hc (by omega) (by simp)) fun q hq=>?_;obtain ⟨q1,q2⟩:=hq
 have:∃d:Nat,q.1=(d:Int)/\d<=4:=by
  simp only [Kj,KC,or_false] at q1
  rcases q1 with h | h | h
  ·exact ⟨3,h,by omega⟩
  ·exact ⟨4,h,by omega⟩
  ·exact ⟨2,h,by omega⟩
 obtain ⟨d,hd,hd4⟩:=this;rw [hd]
 have hSw:Sw d<=256000:=by
  unfold Sw;have:4 ^ d<=4 ^ 4:=Nat.pow_le_pow_right (by omega) hd4;omega
 refine ZA (Qib d (by omega) [] 0 q2 (by simp;omega) (by omega)) fun r hr=>?_;obtain ⟨r1,r2,r3⟩:=hr;refine ZA (V8 r3 (by omega) (by omega)) fun w hw=>?_;obtain ⟨_,_,hw⟩:=hw;refine ZC (fun _=>?_) (fun _=>⟨_,rfl,r1.mono (by omega),by omega⟩);refine ZA (Og (by omega) _ r1 hw (by omega)) fun v hv=>?_;obtain ⟨v1,v2,v3⟩:=hv;refine ZA (Og (by omega) _ v1 v3 (by omega)) fun u hu=>⟨_,rfl,hu.1,by omega⟩
theorem Qdh:Tot Cv fun l=>1<=l.length/\∀s∈l,s.size<=1000:=⟨_,rfl,by decide,by decide⟩
theorem Qgp {c:Rdr} {k:Nat} (h:RdI c k) (hk:k < 100000000):Tot (B5 c) fun r=>r.1.sz<=1000000/\RdI r.2 (k+1000002):=by
 rw [B5];refine ZA Qdh fun fs hfs=>?_;refine ZA (V8 h (by omega) (by omega)) fun q hq=>?_;obtain ⟨_,_,hq⟩:=hq;refine ZC (fun _=>?_) (fun _=>?_)
 ·refine ZA (V8 hq (by omega) (by have:=hfs.1;omega)) fun w hw=>?_;obtain ⟨w1,w2,w3⟩:=hw;refine ZA (Az w1 w2) fun s hs=>?_;refine ZA (Oj (hfs.2 s hs)) fun f hf=>⟨_,rfl,by simp only;omega,w3.mono (by omega)⟩
 ·refine ZA (Qgo hq (by omega)) fun w hw=>⟨_,rfl,hw.1,hw.2.mono (by omega)⟩
theorem MG {l:List Int} (h:∀x∈l,0<=x/\x < 256):Tot (GR l) fun r=>(NK 4 r.1∨Uj r.1/\CV r.1)/\r.1.nodes<=256000/\(r.2=200∨r.2∈[500,100,20,5,0,3001]):=by
 rw [GR];refine ZA (Qby h) fun c hc=>?_;refine ZA (V8 hc (by omega) (by omega)) fun q hq=>?_;obtain ⟨_,_,hq⟩:=hq;refine ZC (fun _=>?_) (fun _=>?_)
 ·refine ZA (Th h) fun c hc=>⟨_,rfl,.inl hc.1,hc.2,.inl rfl⟩
 refine ZA (Qgp hq (by omega)) fun f hf=>?_;refine ZA (N8 (by omega) 20) fun e he=>?_;refine ZA (p:=fun y=>∃c:Cor,y=(c.kind,c.id,c.kids,c.name,c.num,c.ids,c.data.kind,c.data.name,c.data.num,c.data.sc,c.data.kids)/\(NK 4 c∨Uj c/\CV c)/\c.nodes<=256000) ?_ fun y hy=>?_
 ·refine ZC (fun h0=>⟨_,rfl,e.1,rfl,.inr (he.1 h0),by have:=(he.1 h0).2.2;omega⟩) (fun _=>?_);refine ZA (Th h) fun c hc=>⟨_,rfl,c,rfl,.inl hc.1,hc.2⟩
 ·obtain ⟨c,rfl,hc1,hc2⟩:=hy
  simp only
  refine ZA (AG hf.2 (by omega) (by simp)) fun w hw=>⟨_,rfl,?_⟩;simp only [Fm.eta,Cor.eta];exact ⟨hc1,hc2,.inr hw.1⟩
end Go.Proofs.SA
