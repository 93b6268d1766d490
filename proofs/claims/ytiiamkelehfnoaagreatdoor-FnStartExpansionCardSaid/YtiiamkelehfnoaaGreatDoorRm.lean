/- The reference's expansion from the beginning; core programs checked. -/
import Derived.Test.YtiiamkelehfnoaaGreatDoorRj
import Derived.Test.YtiiamkelehfnoaaGreatDoorFmA
set_option linter.unusedVariables false
set_option linter.unusedSimpArgs false
set_option maxRecDepth 100000
open Go Go.Proofs Go.Proofs.Shadow
open _root_.ByteArray renaming mk → Qd
open _root_.Bool renaming false_eq_true → Qo, not_false → ZZ, not_true → Z0, and_eq_true → QG, or_eq_true → Kb, not_eq_true' → ZY
open _root_.List renaming getElem_mem → ZU, mem_cons_self → KF, mem_cons_of_mem → Kh, drop_eq_getElem_cons → ZL, drop_of_length_le → KR, drop_zero → KT, nil_append → QU, length_drop → Xl, mem_cons → Kl, length_map → Xe, append_assoc → QD, map_cons → QH
open Tot renaming bind → ZN
open Fm renaming nodes → ZW
open _root_.Int renaming le_refl → Xm
open Cor renaming kids → Zl, mk → KW
namespace Go.Proofs.SA
def RI (f:Fm):Prop:=f.kind=3/\∀k∈f.kids,k.kind=3/\k.kids.length=2
theorem UW {f:Fm} (hf:f.sz<=100000):Tot (BH f) fun r=>(RI f/\r=(f.kids.map fun k=>k.kids.getD 0 default,f.kids.map fun k=>k.kids.getD 1 default,true))∨(¬RI f/\r.2.2=false):=by
 have hz:=Fm.G6 f
 have loop:∀(r:List Fm) (i:Nat) (z w:List Fm),z.length+r.length<=200000->w.length+r.length<=200000->Tot (J5 f z w i r) fun o=>((∀k∈r,k.kind=3/\k.kids.length=2)/\o=.inr (z++r.map fun k=>k.kids.getD 0 default,w++r.map fun k=>k.kids.getD 1 default))∨(¬(∀k∈r,k.kind=3/\k.kids.length=2)/\∃q,o=.inl q/\q.2.2=false):=by
  intro r
  induction r with
  | nil=>intro i z w _ _;rw [J5];exact ⟨_,rfl,.inl ⟨by simp,by simp⟩⟩
  | cons k r ih =>
   intro i z w hz hw;simp only [List.length_cons] at hz hw;rw [J5];simp only [Yf,X8]
   by_cases h3:k.kind=3
   rotate_left
   ·rw [if_neg h3];simp only [X8,if_true];exact ⟨_,rfl,.inr ⟨fun h=>h3 (h k (KF ..)).1,_,rfl,rfl⟩⟩
   rw [if_pos h3]
   by_cases h2:k.kids.length=2
   rotate_left
   ·simp only [X8,decide_eq_false (show ¬(k.kids.length:Int)=2 by omega),ZZ,if_true];exact ⟨_,rfl,.inr ⟨fun h=>h2 (h k (KF ..)).2,_,rfl,rfl⟩⟩
   have j0:0 < k.kids.length:=by omega
   have j1:1 < k.kids.length:=by omega
   simp only [X8,decide_eq_true (show (k.kids.length:Int)=2 by omega),Z0,Qo,if_false,show idx k.kids 0=some k.kids[0] from Yk _ 0 j0,show idx k.kids 1=some k.kids[1] from Yk _ 1 j1];rw [Y6 (by simp;omega),X8,Y6 (by simp;omega),X8];refine (ih (i+1) _ _ (by simp;omega) (by simp;omega)).mono fun o ho=>?_
   rcases ho with ⟨r1,r2⟩ | ⟨r1,r2⟩
   ·refine .inl ⟨fun x hx=>?_,?_⟩
    ·rcases Kl.1 hx with rfl | hx
     ·exact ⟨h3,h2⟩
     ·exact r1 x hx
    ·rw [r2,QH,QH,Jr j0,Jr j1,QD,QD];rfl
   ·exact .inr ⟨fun h=>r1 fun x hx=>h x (Kh _ hx),r2⟩
 rw [BH,MD _ _ _ (by omega)];obtain ⟨o,ho,hop⟩:=loop f.kids 0 [] [] (by simp;omega) (by simp;omega);rw [ho,X8]
 rcases hop with ⟨r1,r2⟩ | ⟨r1,q,r2,r3⟩
 ·subst r2;simp only [QU]
  by_cases h3:f.kind=3
  ·exact ⟨_,rfl,.inl ⟨⟨h3,r1⟩,by rw [decide_eq_true h3]⟩⟩
  ·exact ⟨_,rfl,.inr ⟨fun h=>h3 h.1,decide_eq_false h3⟩⟩
 ·subst r2;exact ⟨_,rfl,.inr ⟨fun h=>r1 h.2,r3⟩⟩
theorem TJ {f:Fm} (hf:FV f) (hp:RI f) {j:Nat} (hj:j < 2):∀x∈f.kids.map fun k=>k.kids.getD j default,FV x:=fun x hx=>by
 obtain ⟨k,hk,rfl⟩:=List.mem_map.1 hx;have h2:=(hp.2 k hk).2;simp only [Jr (show j < k.kids.length by omega)];exact (hf.kid hk).kid (ZU _)
theorem UX {f:Fm} (hp:RI f):VF ZW (f.kids.map fun k=>k.kids.getD 1 default)+1<=f.nodes:=by
 have:∀l:List Fm,(∀k∈l,k.kids.length=2)->VF ZW (l.map fun k=>k.kids.getD 1 default)<=VF ZW l:=by
  intro l
  induction l with
  | nil=>intro _;exact Nat.le_refl _
  | cons k l ih =>
   intro h;have h1:=ih (fun x hx=>h x (Kh _ hx));have h2:=h k (KF ..)
   have h3:1 < k.kids.length:=by omega
   have h4:=Ip (ZU h3);simp only [QH,VF,Jr h3];omega
 have h:=this f.kids (fun k hk=>(hp.2 k hk).2);have:=Fm.Vr f;omega
theorem Qdr {x:Xpn} (hx:XI x) {f:Fm} (hf:FV f) {id b:Int} (hb:b<=60) (hid:Ry x.macs id≥0):Tot (Cu x f id b) fun r=>r.2.2=0->XI r.1/\r.1.steps=x.steps+1/\x.steps < b/\FV r.2.1:=by
 have ht0:=hx.t0;have hs0:=hx.s0;rw [Cu];split
 ·exact ⟨_,rfl,fun h=>by simp at h⟩
 rename_i hst;rw [Qhg hx,X8]
 by_cases h1:x.scope+1<=99
 rotate_left
 ·rw [decide_eq_false h1];simp only [ZZ,if_true];exact ⟨_,rfl,fun h=>by simp at h⟩
 rw [decide_eq_true h1];simp only [Z0,Qo,if_false];have hml:=Qno hid;have hsm:=hx.sm;rw [Y3 (by omega) (by omega),Qg3 _ _ (by exact hsm),X8,CG (l:=x.macs) hid hml.1,X8,B4 _ _ f (by have:=hf.sz;omega),X8]
 have hm:MS (x.macs.getD (Ry x.macs id).toNat default):=by
  have:(Ry x.macs id).toNat < x.macs.length:=by omega
  rw [Jr this];exact hx.mm _ (ZU this)
 have hcs:=DC hf (x.scope+1) 1;refine ZN (Ao (by omega)) fun b1 hb1=>?_;cases b1
 ·simp only [ZZ,if_true];exact ⟨_,rfl,fun h=>by simp at h⟩
 simp only [Z0,Qo,if_false];refine ZN (Oa hx.b.bs hm.1 hm.2.1 (by omega)).true fun r1 _=>?_;split
 ·exact ⟨_,rfl,fun h=>by simp at h⟩
 refine ZN (Uv hx.b.bs hm.1 hm.2.1 (by have:=hm.2.2;omega) (by omega)) fun r2 hr2=>?_
 cases hap:Qfl x.binds (x.macs.getD (Ry x.macs id).toNat default).lits (x.macs.getD (Ry x.macs id).toNat default).rules (chg (x.scope+1) 1 f) with
 | none =>
  rw [hap] at hr2;simp only at hr2;rw [hr2];simp only [ZZ,if_true];exact ⟨_,rfl,fun h=>by simp at h⟩
 | some g =>
  rw [hap] at hr2;obtain ⟨rfl,hg⟩:=hr2;have hcg:=DC hg (x.scope+1) 1;simp only [Z0,Qo,if_false];rw [B4 _ _ g (by have:=hg.sz;omega),X8];obtain ⟨b2,e2,hb2⟩:=Ao (f:=chg (x.scope+1) 1 g) (by omega);rw [e2,X8];cases b2
  ·simp only [ZZ,if_true];exact ⟨_,rfl,fun h=>by simp at h⟩
  ·simp only [Z0,Qo,if_false];refine ⟨_,rfl,fun _=>⟨⟨hx.b,hx.m,hx.i,by show 0<=x.scope+1;omega,h1,by show 0<=x.steps+1;omega,by show x.steps+1<=60;omega,hx.mm⟩,rfl,by omega,hb2.1 rfl⟩⟩
theorem Qb0:∀(d:Nat) (f:Fm),LN d f->LN d f.strip
 | 0,_,h=>h.elim
 | d+1,f,h=>by
  rw [Fm.NH];refine ⟨h.1,by show 0<=24;omega,fun k hk=>?_⟩;have hk':k∈f.kids.map Fm.strip:=hk;obtain ⟨y,hy,rfl⟩:=List.mem_map.1 hk';exact Qb0 d y (h.2.2 y hy)
theorem U5 (f:Fm):f.strip.nodes=f.nodes:=by
 induction f using Fm.ind with
 | h f ih =>
  rw [Fm.Vr,Fm.Vr f,Fm.NH]
  have:∀l:List Fm,(∀g∈l,g.strip.nodes=g.nodes)->VF ZW (l.map Fm.strip)=VF ZW l:=by
   intro l
   induction l with
   | nil=>intro _;rfl
   | cons g l ihl=>intro h;rw [QH,VF,VF,h g (KF ..),ihl (fun x hx=>h x (Kh _ hx))]
  show 1+VF ZW (f.kids.map Fm.strip)=_;rw [this _ ih]
theorem Qus:∀(l:List Fm) (h:l.length=3),l[0].nodes+l[1].nodes+l[2].nodes=VF ZW l
 | [a,b,c],_=>by simp [VF];omega
theorem Tl {b:Int} (hb:b<=60):∀(N:Nat) (x:Xpn) (f:Fm),XI x->FV f->(60 - x.steps).toNat * 1000+f.nodes<=N->Tot (VC x f b) (P7 x f.nodes):=by
 intro N
 induction N with
 | zero=>intro x f _ _ h;have:=BC f;omega
 | succ N ih =>
  intro x f hx hf hN;have hnf:=Fm.Vr f;have hkl:=hf.L9;rw [VC]
  by_cases k2:f.kind=2
  ·rw [if_pos k2];exact ⟨_,rfl,fun _=>⟨hx,Xm _,UF _ _ _ e0 _ _ (by simp) _ (by simp) (by simp),by have:=BC f;simp [Cor.Vr,Zl,VF];omega⟩⟩
  rw [if_neg k2]
  by_cases k1:f.kind=1
  ·rw [if_pos k1];refine ZN (Qdb hx hf) fun r hr=>⟨_,rfl,fun h=>?_⟩;obtain ⟨a1,a2,a3,a4⟩:=hr h;exact ⟨a1,a2,a3,by have:=BC f;show (r.2.1.nodes:Int)<=_+400 * (r.1.steps - x.steps);omega⟩
  rw [if_neg k1]
  by_cases hl0:(f.kids.length:Int)=0
  ·rw [if_pos hl0];exact ⟨_,rfl,.bad (by decide)⟩
  rw [if_neg hl0]
  have l0:0 < f.kids.length:=by omega
  rw [show idx f.kids 0=some f.kids[0] from Yk f.kids 0 l0,X8]
  have kid:∀(l:List Fm),(∀g∈l,FV g/\g.nodes < f.nodes)->l.length<=400->∀y,XI y->x.steps<=y.steps->Tot (HZ y l b) (PA y l):=fun l hl hll y hy hxy =>
   Qe3 (s0:=x.steps) (fun z g hz hs hg=>ih z g hz (hl g hg).1 (by have:=(hl g hg).2;omega)) hll hy hxy
  have hkids:∀g∈f.kids,FV g/\g.nodes < f.nodes:=fun g hg=>⟨hf.kid hg,by have:=Ip hg;omega⟩
  have call:Tot ((HZ x f.kids b>>=fun x80=>pure (x80.1,KW 6 0 (Qd #[]) 0 [] (Fm.mk 0 (Qd #[]) 0 [] []) x80.2.1,x80.2.2)):Option (Xpn × Cor × Int)) (P7 x f.nodes):=by
   refine ZN (kid f.kids hkids (by omega) x hx (Xm _)) fun r hr=>⟨_,rfl,fun h=>?_⟩;obtain ⟨a1,a2,a3,a4,a5⟩:=hr h;refine ⟨a1,a2,UF _ _ _ e0 _ _ (by simp) _ (by omega) a4,?_⟩;show ((KW _ _ _ _ _ _ r.2.1).nodes:Int)<=_+400 * (r.1.steps - x.steps);rw [Cor.Vr];simp only [Zl];omega
  by_cases k3:f.kids[0].kind=1
  rotate_left
  ·rw [if_neg k3];exact call
  have hf0:=hf.kid (ZU l0);rw [if_pos k3,X8,Qbg x _ hx.b.bs hf0.smc hx.sm,X8]
  by_cases m4:(DK x f.kids[0]).1=4
  ·rw [if_pos m4];exact ⟨_,rfl,.bad (by decide)⟩
  rw [if_neg m4]
  by_cases m1:(DK x f.kids[0]).1=1
  rotate_left
  ·rw [if_neg m1]
   by_cases m2:(DK x f.kids[0]).1=2
   rotate_left
   ·rw [if_neg m2];exact call
   rw [if_pos m2,CM];obtain ⟨r,hr1,hr⟩:=Qdr hx hf hb (Qg5 m2);rw [hr1,X8]
   by_cases h0:r.2.2=0
   rotate_left
   ·rw [if_neg h0];exact ⟨_,rfl,.bad h0⟩
   obtain ⟨a1,a2,a3,a4⟩:=hr h0;rw [if_pos h0];have ht0:=hx.t0;refine ZN (ZN (ih r.1 r.2.1 a1 a4 (by have:=a4.2;have:=a1.t1;rw [a2] at *;omega)) fun q hq=>⟨_,rfl,hq⟩) fun q hq=>⟨_,rfl,fun h=>?_⟩;obtain ⟨c1,c2,c3,c4⟩:=hq h;have hn4:=a4.2;refine ⟨c1,by show x.steps<=q.1.steps;omega,c3,?_⟩;show (q.2.1.nodes:Int)<=_+400 * (q.1.steps - x.steps);omega
  rw [if_pos m1]
  have hform:Tot (Cr x f (DK x f.kids[0]).2 b) (P7 x f.nodes):=by
   generalize (DK x f.kids[0]).2=id;rw [Cr];simp only [Yf,X8];split
   ·rename_i hq;rw [QG,decide_eq_true_iff,decide_eq_true_iff] at hq
    have l1:1 < f.kids.length:=by omega
    have hv:=hf.kid (ZU l1);rw [show idx f.kids 1=some f.kids[1] from Yk f.kids 1 l1,X8,MV _ (by have:=hv.sz;omega),X8];refine ⟨_,rfl,fun _=>⟨hx,Xm _,.mk e0 (by simp) (Qb0 _ _ hv.ln) (by rw [U5];exact hv.2) (by simp) (by simp),?_⟩⟩;have:=BC f;simp [Cor.Vr,Zl,VF];omega
   split
   ·rename_i hq;rw [QG,decide_eq_true_iff,decide_eq_true_iff] at hq
    have hsub:Lp f.kids 1 (f.kids.length:Int)=some (f.kids.drop 1):=by
     unfold Lp;rw [if_pos ⟨by omega,by omega,by omega⟩]
     congr 1
     rw [List.take_of_length_le];rfl;rw [Xl];omega
    rw [hsub,X8];refine ZN (kid (f.kids.drop 1) (fun g hg=>hkids g (List.mem_of_mem_drop hg)) (by rw [Xl];omega) x hx (Xm _)) fun r hr=>⟨_,rfl,fun h=>?_⟩;obtain ⟨a1,a2,a3,a4,a5⟩:=hr h;refine ⟨a1,a2,UF _ _ _ e0 _ _ (by simp) _ (by rw [a3,Xl];omega) a4,?_⟩;show ((KW _ _ _ _ _ _ r.2.1).nodes:Int)<=_+400 * (r.1.steps - x.steps);rw [Cor.Vr];simp only [Zl]
    have:VF ZW (f.kids.drop 1)<=VF ZW f.kids:=by
     conv=>rhs;rw [← List.take_append_drop 1 f.kids,Cv]
     omega
    omega
   have body:∀(hb2:2 < f.kids.length) (names:List Fm),(∀n∈names,FV n)->names.length<=400->∀y,XI y->x.steps<=y.steps->Tot (Bp y names f.kids[2] b) (P7 y (f.kids[2].nodes+1)):=fun hb2 names hn hnl y hy hxy=>by
    have hv:=hf.kid (ZU hb2);have hk:=Ip (ZU hb2);exact Qgo (s0:=x.steps) hv (fun z g hz hs hg hgn=>ih z g hz hg (by omega)) hn hnl hy hxy
   have lam:Tot ((if (decide (id=1)&&decide ((f.kids.length:Int)=3))=true then (idx f.kids 1>>=fun x72=>some (decide (x72.kind=3))) else some false:Option Bool)) fun c=>c=true->id=1/\f.kids.length=3:=by
    split
    ·rename_i hq;rw [QG,decide_eq_true_iff,decide_eq_true_iff] at hq
     have l1:1 < f.kids.length:=by omega
     rw [show idx f.kids 1=some f.kids[1] from Yk f.kids 1 l1,X8];exact ⟨_,rfl,fun _=>⟨hq.1,by omega⟩⟩
    ·exact ⟨_,rfl,fun h=>by cases h⟩
   refine ZN lam fun c hc=>?_
   by_cases hct:c=true
   ·rw [if_pos hct];obtain ⟨_,h3⟩:=hc hct
    have l1:1 < f.kids.length:=by omega
    have l2:2 < f.kids.length:=by omega
    rw [show idx f.kids 1=some f.kids[1] from Yk f.kids 1 l1,X8,show idx f.kids 2=some f.kids[2] from Yk f.kids 2 l2,X8];have hv1:=hf.kid (ZU l1);have hk2:=Ip (ZU l2);refine ZN (body l2 f.kids[1].kids (fun n hn=>hv1.kid hn) (by have:=hv1.L9;omega) x hx (Xm _)) fun r hr=>⟨_,rfl,fun h=>?_⟩;obtain ⟨a1,a2,a3,a4⟩:=hr h;exact ⟨a1,a2,a3,by show (r.2.1.nodes:Int)<=_+400 * (r.1.steps - x.steps);omega⟩
   rw [if_neg hct];split
   ·exact ⟨_,rfl,.bad (by decide)⟩
   rename_i hq
   have h3:f.kids.length=3:=by
    rw [Kb,not_or] at hq;have:=hq.2;simp only [ZY,decide_eq_false_iff_not,Classical.not_not] at this;omega
   have l1:1 < f.kids.length:=by omega
   have l2:2 < f.kids.length:=by omega
   have hv1:=hf.kid (ZU l1);have hv2:=hf.kid (ZU l2);have hk1:=Ip (ZU l1);have hk2:=Ip (ZU l2);have hsum:=Qus f.kids h3;have hp0:=BC f.kids[0];rw [show idx f.kids 1=some f.kids[1] from Yk f.kids 1 l1,X8];refine ZN (UW (by have:=hv1.sz;omega)) fun r hr=>?_
   rcases hr with ⟨hpo,rfl⟩ | ⟨_,hpf⟩
   rotate_left
   ·rw [hpf];simp only [ZZ,if_true];exact ⟨_,rfl,.bad (by decide)⟩
   simp only [Z0,Qo,if_false,show idx f.kids 2=some f.kids[2] from Yk f.kids 2 l2,X8];have hn:=TJ hv1 hpo (j:=0) (by omega);have hvs:=TJ hv1 hpo (j:=1) (by omega);have hpn:=UX hpo;have hkl1:=hv1.L9;split
   ·refine ZN (Tz (s0:=x.steps) hv2 (fun z g hz hs hg hgn=>ih z g hz hg (by omega)) hn hvs (by simp) (by rw [Xe];omega) hx (Xm _)) fun r hr=>⟨_,rfl,fun h=>?_⟩;obtain ⟨a1,a2,a3,a4⟩:=hr h;exact ⟨a1,a2,a3,by show (r.2.1.nodes:Int)<=_+400 * (r.1.steps - x.steps);omega⟩
   ·refine ZN (kid _ (fun g hg=>⟨hvs g hg,by have:=CO ZW _ g hg;omega⟩) (by rw [Xe];omega) x hx (Xm _)) fun r hr=>?_
    by_cases h0:r.2.2=0
    rotate_left
    ·rw [if_neg h0];exact ⟨_,rfl,.bad h0⟩
    rw [if_pos h0];obtain ⟨a1,a2,a3,a4,a5⟩:=hr h0;refine ZN (body l2 _ hn (by rw [Xe];omega) r.1 a1 a2) fun q hq=>?_;rw [Xe] at a3;rw [Y6 (by simp;omega),X8];refine ⟨_,rfl,fun h=>?_⟩;obtain ⟨c1,c2,c3,c4⟩:=hq h;refine ⟨c1,by show x.steps<=q.1.steps;omega,UF _ _ _ e0 _ _ (by simp) _ (by simp;omega) (fun c hc=>?_),?_⟩
    ·rcases Kl.1 hc with rfl | hc
     ·exact c3
     ·exact a4 c hc
    ·show ((KW _ _ _ _ _ _ ([q.2.1]++r.2.1)).nodes:Int)<=_+400 * (q.1.steps - x.steps);rw [Cor.Vr];simp only [Zl,List.cons_append,QU,VF];omega
  exact ZN hform fun r hr=>⟨_,rfl,hr⟩
end Go.Proofs.SA
namespace Go.Proofs.SA
inductive Qia:Cor->Prop
 | mk {k i:Int} {s:ByteArray} {n:Int} {l:List Int} {d:Fm} {ks:List Cor} (hl:l.length<=1000000) (hd:d.sz<=1000000) (hk:ks.length<=1000000) (h:∀x∈ks,Qia x):Qia (.mk k i s n l d ks)
theorem Qia.out {c:Cor} (h:Qia c):c.ids.length<=1000000/\c.data.sz<=1000000/\c.kids.length<=1000000/\∀x∈c.kids,Qia x:=by
 cases h;exact ⟨by assumption,by assumption,by assumption,by assumption⟩
theorem Qeg.b {c:Cor} (h:Qeg c):Qia c:=by
 induction h with
 | mk hs hl hd hn hk _ ih=>exact .mk (by omega) (by have:=LN.sz _ _ hd;omega) (by omega) ih
def arity (k:Int) (n:Nat):Prop:=((k=1∨k=2∨k=3∨k=4)/\n=0)∨(k=5/\n=1)∨(k=6/\1<=n)∨(k=7/\n=3)
def zF:Fm:=Fm.mk 0 (Qd #[]) 0 [] []
def R8 (c:Cor):Prop:=((c.kind=1->1<=c.id/\c.id<=999)/\(c.kind≠1->c.id=0))/\((c.kind=2->NV c.name)/\(c.kind≠2->c.name=Qd #[]))/\((c.kind=3->0<=c.num/\c.num<=999)/\(c.kind≠3->c.num=0))/\((c.kind=4->FV c.data/\c.data.strip=c.data)/\(c.kind≠4->c.data=zF))/\(c.kind≠5->c.ids=[])
def CIs:Nat->List Int->Cor->Prop
 | 0,_,_=>False
 | d+1,sc,c=>arity c.kind c.kids.length/\R8 c/\(c.kind=1->c.id∈sc)/\(∀i∈c.ids,1<=i/\i<=999/\i∉sc)/\c.ids.Nodup/\∀k∈c.kids,CIs d (sc++c.ids) k
def CV (c:Cor):Prop:=CIs 120 [] c/\c.nodes<=600
theorem Qc7 (k:Int) (n:Nat):Tot (Co k n) fun b=>b=true↔arity k n:=by
 rw [Co]
 by_cases h1:k=1
 ·subst h1;simp [Yf,X8,arity,Tot]
 by_cases h2:k=2
 ·subst h2;simp [Yf,X8,arity,Tot]
 by_cases h3:k=3
 ·subst h3;simp [Yf,X8,arity,Tot]
 by_cases h4:k=4
 ·subst h4;simp [Yf,X8,arity,Tot]
 by_cases h5:k=5
 ·subst h5;simp [Yf,X8,arity,Tot];omega
 by_cases h6:k=6
 ·subst h6;simp [Yf,X8,arity,Tot];omega
 by_cases h7:k=7
 ·subst h7;simp [Yf,X8,arity,Tot];omega
 simp [Yf,X8,arity,Tot,h1,h2,h3,h4,h5,h6,h7]
theorem Tm {c:Cor} (hd:c.data.sz<=1000000):Tot (I7 c) fun b=>b=true↔R8 c:=by
 have hs:VH c.data (Fm.mk 0 (Qd #[]) 0 [] [])=some (decide (c.data=zF)):=EX _ hd _;obtain ⟨bn,en,hn⟩:=US c.name;obtain ⟨bf,ef,hf⟩:=Ao (f:=c.data) (by omega);have est:WW c.data=some c.data.strip:=MV c.data (by omega);have esm:VH c.data.strip c.data=some (decide (c.data.strip=c.data)):=EX _ (by have:=Fm.Qkl c.data;omega) _
 have hi:decide ((c.ids.length:Int)=0)=decide (c.ids=[]):=by
  by_cases h:c.ids=[]
  ·rw [h];rfl
  ·rw [decide_eq_false h,decide_eq_false];intro h2;exact h (List.eq_nil_of_length_eq_zero (by omega))
 have key:∀(k1 k2 k3 k4 k5:Bool) (iL iG iZ nZ mL mG mZ dS dZ iN:Bool),k1=decide (c.kind=1)->k2=decide (c.kind=2)->k3=decide (c.kind=3)->k4=decide (c.kind=4)->k5=decide (c.kind=5) ->
   iL=decide (c.id < 1)->iG=decide (c.id > 999)->iZ=decide (c.id=0)->nZ=decide (c.name=Qd #[])->mL=decide (c.num < 0)->mG=decide (c.num > 999)->mZ=decide (c.num=0)->dS=decide (c.data.strip=c.data)->dZ=decide (c.data=zF)->iN=decide (c.ids=[]) ->
   I7 c=some (!(if k1 then iL||iG else !iZ)&&!(if k2 then !bn else !nZ)&&!(if k3 then mL||mG else !mZ)&&!(if k4 then !bf||!dS else !dZ)&&(k5||iN)):=by
  intro k1 k2 k3 k4 k5 iL iG iZ nZ mL mG mZ dS dZ iN e1 e2 e3 e4 e5 f1 f2 f3 f4 f5 f6 f7 f8 f9 f10
  have c1:(c.kind=1)=(k1=true):=by rw [e1];simp
  have c2:(c.kind=2)=(k2=true):=by rw [e2];simp
  have c3:(c.kind=3)=(k3=true):=by rw [e3];simp
  have c4:(c.kind=4)=(k4=true):=by rw [e4];simp
  rw [I7];simp only [← e1,← e2,← e3,← e4,← e5,← f1,← f2,← f3,← f4,← f5,← f6,← f7,c1,c2,c3,c4,en,ef,est,esm,hs,hi,← f8,← f9,← f10,Yf,X8];cases k1<;>cases k2<;>cases k3<;>cases k4<;>simp only [X8,Yf,Qo,if_false,if_true,Z0,ZZ,Bool.true_and,Bool.false_and,esm,← f8]
  all_goals (cases iL<;>cases iG<;>cases iZ<;>cases nZ<;>first | rfl | (cases bn<;>cases mL<;>cases mG<;>cases mZ<;>first | rfl | (cases bf<;>cases dS<;>cases dZ<;>first | rfl | (cases k5<;>cases iN<;>rfl))))
 refine ⟨_,key _ _ _ _ _ _ _ _ _ _ _ _ _ _ _ rfl rfl rfl rfl rfl rfl rfl rfl rfl rfl rfl rfl rfl rfl rfl,?_⟩;unfold R8;simp only [QG,ZY,Kb,decide_eq_true_eq];rw [← hn,← hf]
 have q1:(if decide (c.kind=1)=true then (decide (c.id < 1)||decide (c.id > 999)) else !decide (c.id=0))=false↔((c.kind=1->1<=c.id/\c.id<=999)/\(c.kind≠1->c.id=0)):=by
  by_cases h:c.kind=1
  ·simp [h]
  ·simp [h]
 have q2:(if decide (c.kind=2)=true then !bn else !decide (c.name=Qd #[]))=false↔((c.kind=2->bn=true)/\(c.kind≠2->c.name=Qd #[])):=by
  by_cases h:c.kind=2
  ·simp [h]
  ·simp [h]
 have q3:(if decide (c.kind=3)=true then (decide (c.num < 0)||decide (c.num > 999)) else !decide (c.num=0))=false↔((c.kind=3->0<=c.num/\c.num<=999)/\(c.kind≠3->c.num=0)):=by
  by_cases h:c.kind=3
  ·simp [h]
  ·simp [h]
 have q4:(if decide (c.kind=4)=true then (!bf||!decide (c.data.strip=c.data)) else !decide (c.data=zF))=false↔((c.kind=4->bf=true/\c.data.strip=c.data)/\(c.kind≠4->c.data=zF)):=by
  by_cases h:c.kind=4
  ·simp [h]
  ·simp [h]
 have q5:(c.kind=5∨c.ids=[])↔(c.kind≠5->c.ids=[]):=by
  by_cases h:c.kind=5
  ·simp [h]
  ·simp [h]
 simp only [decide_eq_true_eq] at q1 q2 q3 q4;rw [q1,q2,q3,q4,q5,and_assoc,and_assoc,and_assoc]
theorem Qto (c:Cor) (d:Int):∀(r:List Int) (i:Nat) (sc:List Int),sc.length+r.length<=1000000000->(∀x∈r,True)->Tot (Ik c d sc i r) fun o=>match o with
  | .inl q=>q=false/\¬((∀x∈r,1<=x/\x<=999/\x∉sc)/\r.Nodup)
  | .inr q=>q=sc++r/\(∀x∈r,1<=x/\x<=999/\x∉sc)/\r.Nodup:=by
 intro r
 induction r with
 | nil=>intro i sc _ _;rw [Ik];exact ⟨_,rfl,by simp,by simp,by simp⟩
 | cons x r ih =>
  intro i sc hl _;simp only [List.length_cons] at hl;rw [Ik];simp only [Yf,X8]
  have bad:¬(1<=x/\x<=999/\x∉sc)->Tot (some (Sum.inl false):Option (Bool ⊕ List Int)) fun o=>match o with
   | .inl q=>q=false/\¬((∀y∈x :: r,1<=y/\y<=999/\y∉sc)/\(x :: r).Nodup)
   | .inr q=>q=sc++(x :: r)/\(∀y∈x :: r,1<=y/\y<=999/\y∉sc)/\(x :: r).Nodup:=fun h=>⟨_,rfl,rfl,fun h2=>h (h2.1 x (KF ..))⟩
  by_cases h1:x < 1
  ·simp only [h1,if_true,X8];exact bad (by omega)
  by_cases h2:x > 999
  ·simp only [h1,h2,if_false,if_true,X8,decide_true];exact bad (by omega)
  simp only [h1,h2,if_false,X8,decide_false,Qo,Tp sc x (show Sm sc.length by unfold Sm;omega)]
  by_cases h3:x∈sc
  ·simp only [h3,decide_true,if_true];exact bad (fun h=>h.2.2 h3)
  simp only [h3,decide_false,Qo,if_false];rw [Y6 (by simp;omega)];simp only [X8,QU];rw [Y6 (by simp;omega)];simp only [X8];refine (ih (i+1) (sc++[x]) (by simp;omega) (fun _ _=>trivial)).mono fun o ho=>?_
  have conv:((∀y∈r,1<=y/\y<=999/\y∉sc++[x])/\r.Nodup)↔((∀y∈x :: r,1<=y/\y<=999/\y∉sc)/\(x :: r).Nodup):=by
   rw [List.nodup_cons];constructor
   ·rintro ⟨a,b⟩;refine ⟨fun y hy=>?_,fun hx=>?_,b⟩
    ·rcases Kl.1 hy with rfl | hy
     ·exact ⟨by omega,by omega,h3⟩
     ·have:=a y hy;exact ⟨this.1,this.2.1,fun h=>this.2.2 (List.mem_append_left _ h)⟩
    ·exact (a x hx).2.2 (by simp)
   ·rintro ⟨a,b,e⟩;refine ⟨fun y hy=>?_,e⟩;have:=a y (Kh _ hy);refine ⟨this.1,this.2.1,fun h=>?_⟩
    rcases List.mem_append.1 h with h | h
    ·exact this.2.2 h
    ·rw [List.mem_singleton.1 h] at hy;exact b hy
  cases o with
  | inl q=>exact ⟨ho.1,fun h=>ho.2 (conv.2 h)⟩
  | inr q =>
   obtain ⟨a,b⟩:=ho;exact ⟨by rw [a,QD];rfl,conv.1 b⟩
theorem Qjw:∀(d:Nat),d<=120->∀(c:Cor),Qia c->∀sc:List Int,sc.length+d * 1000000<=900000000->Tot (A3 c sc d) fun b=>b=true↔CIs d sc c:=by
 intro d
 induction d with
 | zero=>intro _ c _ sc _;rw [A3,if_pos (by rfl)];simp only [Yf,X8,if_true];exact ⟨_,rfl,fun h=>(by cases h),fun h=>(show False from h).elim⟩
 | succ d ih =>
  intro hd c hc sc hsc;obtain ⟨c1,c2,c3,c4⟩:=hc.out;rw [A3,if_neg (by omega)];have bad:¬CIs (d+1) sc c->Tot (some false:Option Bool) fun b=>b=true↔CIs (d+1) sc c:=fun h=>⟨_,rfl,fun h2=>(by cases h2),fun h2=>absurd h2 h⟩;obtain ⟨b1,e1,h1⟩:=Qc7 c.kind c.kids.length;rw [e1];simp only [Yf,X8];cases b1
  ·simp only [ZZ,if_true,X8]
   exact bad fun h=>by have:=h1.2 h.1;cases this
  obtain ⟨b2,e2,h2⟩:=Tm c2;simp only [Z0,Qo,if_false,e2,X8];cases b2
  ·simp only [ZZ,if_true,X8]
   exact bad fun h=>by have:=h2.2 h.2.1;cases this
  simp only [Z0,Qo,if_false]
  have h3:((if c.kind=1 then (GG sc c.id>>=fun x34=>some (!x34)) else some false:Option Bool))=some (decide (c.kind=1/\c.id∉sc)):=by
   by_cases hk:c.kind=1
   ·rw [if_pos hk,Tp sc c.id (by unfold Sm;omega),X8];by_cases hm:c.id∈sc<;>simp [hk,hm]
   ·rw [if_neg hk];simp [hk]
  rw [h3];simp only [X8]
  by_cases h4:c.kind=1/\c.id∉sc
  ·rw [decide_eq_true h4];simp only [if_true];exact bad fun h=>h4.2 (h.2.2.1 h4.1)
  rw [decide_eq_false h4];simp only [Qo,if_false];rw [PU _ _ _ (by omega)];obtain ⟨o,ho,hop⟩:=Qto c ((d+1:Nat):Int) c.ids 0 sc (by omega) (fun _ _=>trivial);rw [ho];simp only [X8]
  cases o with
  | inl q =>
   obtain ⟨rfl,hn⟩:=hop;exact bad fun h=>hn ⟨h.2.2.2.1,h.2.2.2.2.1⟩
  | inr q =>
   obtain ⟨rfl,hi1,hi2⟩:=hop
   simp only
   rw [PV _ _ _ (by omega)]
   have loop:∀(r:List Cor) (i:Nat),(∀x∈r,x∈c.kids)->Tot (Il c ((d+1:Nat):Int) (sc++c.ids) i r) fun o=>match o with | .inl b=>b=false/\¬∀k∈r,CIs d (sc++c.ids) k | .inr _=>∀k∈r,CIs d (sc++c.ids) k:=by
    intro r
    induction r with
    | nil=>intro i _;rw [Il];exact ⟨_,rfl,by simp⟩
    | cons k r ihr =>
     intro i hr;rw [Il];simp only [Yf,X8];rw [Y3 (by omega) (by omega),show ((d+1:Nat):Int) - 1=(d:Int) by omega];refine ZN (ih (by omega) k (c4 k (hr k (KF ..))) _ (by rw [List.length_append];omega)) fun b hb=>?_;cases b
     ·simp only [ZZ,if_true];exact ⟨_,rfl,rfl,fun h=>by have:=hb.2 (h k (KF ..));cases this⟩
     ·simp only [Z0,Qo,if_false];refine (ihr (i+1) (fun x hx=>hr x (Kh _ hx))).mono fun o ho=>?_
      cases o with
      | inl q=>exact ⟨ho.1,fun h=>ho.2 fun x hx=>h x (Kh _ hx)⟩
      | inr q =>
       exact fun x hx=>by
        rcases Kl.1 hx with rfl | hx
        ·exact hb.1 rfl
        ·exact ho x hx
   obtain ⟨o,ho2,hop2⟩:=loop c.kids 0 (fun _ h=>h);rw [ho2];simp only [X8]
   cases o with
   | inl q=>obtain ⟨rfl,hn⟩:=hop2;exact bad fun h=>hn h.2.2.2.2.2
   | inr q =>
    refine ⟨_,rfl,fun _=>⟨h1.1 rfl,h2.1 rfl,fun hk=>Classical.byContradiction fun hm=>h4 ⟨hk,hm⟩,hi1,hi2,hop2⟩,fun _=>rfl⟩
theorem Qf0:∀(c:Cor),Qia c->c.nodes<=1000000000->H6 c=some (c.nodes:Int):=by
 intro c
 induction c using Cor.ind with
 | h c ih =>
  intro hc hn;obtain ⟨c1,c2,c3,c4⟩:=hc.out;have hne:=Cor.Vr c
  have loop:∀(r:List Cor) (i:Nat) (m:Nat),(∀x∈r,x∈c.kids)->m+VF Cor.nodes r<=1000000000->J4 c (m:Int) i r=some ((m+VF Cor.nodes r:Nat):Int):=by
   intro r
   induction r with
   | nil=>intro i m _ _;rw [J4];rfl
   | cons k r ihr =>
    intro i m hr hm;rw [VF] at hm;have hk:=hr k (KF ..);rw [J4,Yf,X8,ih k hk (c4 k hk) (by omega),X8,Y3 (by omega) (by omega),show (m:Int)+(k.nodes:Int)=((m+k.nodes:Nat):Int) by omega,ihr _ _ (fun x hx=>hr x (Kh _ hx)) (by omega),VF,Nat.add_assoc]
  rw [H6,MA _ _ (by omega),show (1:Int)=((1:Nat):Int) from rfl,loop c.kids 0 1 (fun _ h=>h) (by omega),X8,hne];rfl
theorem Pp {c:Cor} (hc:Qia c) (hn:c.nodes<=1000000000):Tot (Ak c) fun b=>b=true↔CV c:=by
 rw [Ak];refine ZN (Qjw 120 (by omega) c hc [] (by simp)) fun b hb=>?_;cases b
 ·simp only [Qo,if_false,Yf,X8];exact ⟨_,rfl,fun h=>(by cases h),fun h=>(by have:=hb.2 h.1;cases this)⟩
 ·simp only [if_true,Qf0 c hc hn,Yf,X8];refine ⟨_,rfl,?_⟩;simp only [decide_eq_true_iff];exact ⟨fun h=>⟨hb.1 rfl,by omega⟩,fun h=>by have:=h.2;omega⟩
theorem Qby:VJ=some ⟨[⟨(Qd #[108,97,109,98,100,97]),[],1⟩,⟨(Qd #[105,102]),[],2⟩,⟨(Qd #[113,117,111,116,101]),[],3⟩,⟨(Qd #[108,101,116]),[],4⟩,⟨(Qd #[108,101,116,45,115,121,110,116,97,120]),[],5⟩],[],0,10,0⟩:=by
 rw [VJ,IZ,Yf,X8]
 have st:∀(i:Nat) (z:List Bnd) (hi:i < 6),z.length<=5->YQ [(Qd #[]),(Qd #[108,97,109,98,100,97]),(Qd #[105,102]),(Qd #[113,117,111,116,101]),(Qd #[108,101,116]),(Qd #[108,101,116,45,115,121,110,116,97,120])] z (i:Int)=YQ [(Qd #[]),(Qd #[108,97,109,98,100,97]),(Qd #[105,102]),(Qd #[113,117,111,116,101]),(Qd #[108,101,116]),(Qd #[108,101,116,45,115,121,110,116,97,120])] (z++[⟨[(Qd #[]),(Qd #[108,97,109,98,100,97]),(Qd #[105,102]),(Qd #[113,117,111,116,101]),(Qd #[108,101,116]),(Qd #[108,101,116,45,115,121,110,116,97,120])][i]'hi,[],(i:Int)⟩]) ((i+1:Nat):Int):=fun i z hi hz=>by
  conv=>lhs;rw [YQ,if_pos (by simp;omega),Yk _ i (by simpa using hi),X8,Y6 (by simp;omega),X8,VV (i:=i) (by omega)]
 rw [show (1:Int)=((1:Nat):Int) from rfl,st 1 [] (by omega) (by simp),st 2 _ (by omega) (by simp),st 3 _ (by omega) (by simp),st 4 _ (by omega) (by simp),st 5 _ (by omega) (by simp),YQ,if_neg (by simp)];rfl
theorem Qhn {x:Xpn} (h:VJ=some x):XI x:=by
 rw [Qby] at h
 injection h with h
 subst h;have nv:∀s:ByteArray,(1<=s.size/\s.size<=12/\∀j,j < s.size->NP s j)->NV s:=fun s h=>.inr (.inr h);have np:∀s:ByteArray,(∀j:Fin s.size,ltr (byt s j.val) (decide ((j.val:Int)=0))=true)->∀j,j < s.size->NP s j:=fun s h j hj=>h ⟨j,hj⟩;refine ⟨⟨by decide,fun b hb=>?_,?_⟩,by decide,by decide,by decide,by decide,by decide,by decide,fun m hm=>by cases hm⟩
 ·have sv:SV []:=⟨by decide,fun j hj=>by simp at hj⟩;simp only [Kl,List.not_mem_nil,or_false] at hb
  rcases hb with rfl | rfl | rfl | rfl | rfl
  ·exact ⟨nv _ ⟨by decide,by decide,np _ (by decide)⟩,sv,by decide,by decide⟩
  ·exact ⟨nv _ ⟨by decide,by decide,np _ (by decide)⟩,sv,by decide,by decide⟩
  ·exact ⟨nv _ ⟨by decide,by decide,np _ (by decide)⟩,sv,by decide,by decide⟩
  ·exact ⟨nv _ ⟨by decide,by decide,np _ (by decide)⟩,sv,by decide,by decide⟩
  ·exact ⟨nv _ ⟨by decide,by decide,np _ (by decide)⟩,sv,by decide,by decide⟩
 ·have h5:([(Qd #[108,97,109,98,100,97]),(Qd #[105,102]),(Qd #[113,117,111,116,101]),(Qd #[108,101,116]),(Qd #[108,101,116,45,115,121,110,116,97,120])]:List ByteArray).Pairwise (· ≠ ·):=by decide
  refine (List.pairwise_map (f:=Bnd.name).1 h5).imp ?_;exact fun h e=>h e.1
theorem Qhf {f:Fm} (hf:f.sz < 1000000000) (b:Int):Tot (Dw f b) fun r=>(r.2.2=0->XI r.1/\Qeg r.2.1/\CV r.2.1)/\(r.2.2≠0->r.1=⟨[],[],0,0,0⟩/\r.2.1=KW 0 0 (Qd #[]) 0 [] (Fm.mk 0 (Qd #[]) 0 [] []) []):=by
 rw [Dw];refine ZN (Ao hf) fun b1 hb1=>?_;simp only [Yf,X8];split
 ·exact ⟨_,rfl,fun h=>by simp at h,fun _=>⟨rfl,rfl⟩⟩
 rename_i hc;rw [Kb,Kb,not_or,not_or] at hc;have hv:FV f:=hb1.1 (by have:=hc.1.1;simpa using this)
 have hb60:b<=60:=by have:=hc.2;simp at this;omega
 obtain ⟨x0,hx0⟩:∃x,VJ=some x:=⟨_,Qby⟩;have hXI:=Qhn hx0;rw [hx0];simp only [X8]
 have ht:x0.steps=0:=by rw [Qby] at hx0;injection hx0 with hx0;rw [← hx0]
 obtain ⟨r,hr1,hr⟩:=Tl hb60 _ x0 f hXI hv (Nat.le_refl _);rw [hr1];simp only [X8]
 by_cases h0:r.2.2=0
 rotate_left
 ·rw [if_neg h0];exact ⟨_,rfl,fun h=>absurd h h0,fun _=>⟨rfl,rfl⟩⟩
 rw [if_pos h0];obtain ⟨a1,a2,a3,a4⟩:=hr h0
 have hn:r.2.1.nodes<=1000000000:=by have:=a1.t1;have:=hv.2;omega
 obtain ⟨b2,e2,hb2⟩:=Pp a3.b hn;rw [e2];simp only [X8];cases b2
 ·simp only [ZZ,if_true];exact ⟨_,rfl,fun h=>by simp at h,fun _=>⟨rfl,rfl⟩⟩
 ·simp only [Z0,Qo,if_false];exact ⟨_,rfl,fun _=>⟨a1,a3,hb2.1 rfl⟩,fun h=>absurd rfl h⟩
end Go.Proofs.SA
namespace Go.Proofs.SA
inductive Qo5 (m:Nat):Cor->Prop
 | mk {k i:Int} {s:ByteArray} {n:Int} {l:List Int} {d:Fm} {ks:List Cor} (hl:l.length<=m) (hd:d.sz<=1000/\d.strip=d) (hs:s.size<=1000) (hk:ks.length<=1000) (h:∀x∈ks,Qo5 m x):Qo5 m (.mk k i s n l d ks)
theorem Qo5.mono {m n:Nat} (hmn:m<=n) {c:Cor} (h:Qo5 m c):Qo5 n c:=by
 induction h with
 | mk hl hd hs hk _ ih=>exact .mk (by omega) hd hs hk ih
end Go.Proofs.SA
namespace Go.Proofs.Shadow
def zC:Cor:=KW 0 0 (Qd #[]) 0 [] (Fm.mk 0 (Qd #[]) 0 [] []) []
def zV:Val:=Val.mk 0 0 (Qd #[]) [] zC []
instance:Inhabited Cor:=⟨zC⟩
instance:Inhabited Val:=⟨zV⟩
mutual
def Val.nodes:Val->Nat
 | .mk _ _ _ l _ e=>1+Val.AW l+Slt.AW e
def Val.AW:List Val->Nat
 | []=>0
 | v :: l=>v.nodes+Val.AW l
def Slt.nodes:Slt->Nat
 | .mk _ v=>v.nodes
def Slt.AW:List Slt->Nat
 | []=>0
 | s :: l=>s.nodes+Slt.AW l
end
theorem Val.IS:∀l,Val.AW l=VF Val.nodes l
 | []=>rfl
 | v :: l=>by rw [Val.AW,VF,Val.IS l]
theorem Slt.Vr (s:Slt):s.nodes=s.val.nodes:=by cases s;rw [Slt.nodes];rfl
theorem Slt.IS:∀l,Slt.AW l=VF Slt.nodes l
 | []=>rfl
 | v :: l=>by rw [Slt.AW,VF,Slt.IS l]
theorem Val.Vr (v:Val):v.nodes=1+VF Val.nodes v.items+VF Slt.nodes v.env:=by cases v;rw [Val.nodes,Val.IS,Slt.IS];rfl
end Go.Proofs.Shadow
namespace Go.Proofs.SA
end Go.Proofs.SA
namespace Go.Proofs.SA
theorem Qfy (f:Fm) (hf:f.sz < 1000000000):Ir f=some f:=by
 have hz:=Fm.G6 f
 rw [Ir,Y6 (by simp only [List.length_nil];omega),X8,QU,Ey _ _ _ (by omega),BR (Jg f f.sc) id (fun _ _=>rfl) f.kids [] 0 (fun x hx z i r hz=>by
  have:=Fm.J7 hx
  rw [Jg,Yf,X8,DB x (by omega),X8,Y6 (by simp;omega),X8];rfl) (by simp;omega),X8,Yf,QU,List.map_id]
 cases f;rfl
theorem Qga:∀(f:Fm) {c:Rdr} {k:Nat},RdI c k->f.sz < 1000000000->k+f.nodes < 1099511627776->Tot (Hh f c) fun r=>r.1.sz<=f.sz+3 * f.nodes/\RdI r.2 (k+f.nodes):=by
 intro f
 induction f using Fm.ind with
 | h f ih =>
  intro c k h hf hk;have hz:=Fm.G6 f;have hn:=Fm.Vr f;rw [Hh,Qfy f (by omega),X8]
  have loop:∀(s:List Int) (n i:Nat) (z:List Fm) {b:List Int} {p:Int} {k:Nat},i+n=f.kids.length->z.length=f.kids.length->z.drop i=f.kids.drop i->RdI ⟨b,p⟩ k->k+VF ZW (z.drop i) < 1099511627776->Tot (JN f f s z (i:Int) b p) fun r=>r.1.length=f.kids.length/\VF Fm.sz r.1<=VF Fm.sz z+3 * VF ZW (z.drop i)/\RdI ⟨r.2.1,r.2.2⟩ (k+VF ZW (z.drop i)):=by
   intro s n
   induction n with
   | zero =>
    intro i z b p k hi hl _ hR _;rw [JN,if_neg (by omega)];exact Tot.pure ⟨hl,by simp,hR.mono (by omega)⟩
   | succ n ihn =>
    intro i z b p k hi hl hd hR hk
    have hiz:i < z.length:=by omega
    have hik:i < f.kids.length:=by omega
    have he:z[i]=f.kids[i]:=by
     have:=congrArg (fun l:List Fm=>l[0]?) hd;simpa [hiz,hik] using this
    have hm:z[i]∈f.kids:=by rw [he];exact ZU _
    have hs:=Fm.J7 hm;have hds:=Qax hiz;have hdl:(z.drop i).length=z.length - i:=Xl;rw [JN,if_pos (by omega),Yk z i hiz,X8];rw [hds] at hk ⊢;refine ZN (ih _ hm hR (by omega) (by omega)) fun r hr=>?_;rw [X8]
    have hw:IntKind.i64.wrap ((i:Int)+1)=((i+1:Nat):Int):=by rw [Y3 (by omega) (by omega)];omega
    rw [hw]
    have e1:(z.set ((i:Int).toNat) r.1).drop (i+1)=z.drop (i+1):=by
     rw [Int.toNat_natCast,List.drop_set_of_lt (by omega)]
    have e2:(z.drop (i+1))=f.kids.drop (i+1):=by
     have:=congrArg (List.drop 1) hd;simpa [List.drop_drop,Nat.add_comm] using this
    have h3:=SF Fm.sz z (i:Int).toNat r.1 (by simpa using hiz);refine (ihn (i+1) _ (by omega) (by rw [List.length_set];exact hl) (by rw [e1,e2]) hr.2 (by rw [e1];omega)).mono fun q hq=>?_;rw [e1] at hq;obtain ⟨q1,q2,q3⟩:=hq;have:=hr.1;simp only [Int.toNat_natCast] at h3 q2;exact ⟨q1,by omega,q3.mono (by omega)⟩
  have tail:∀(s:List Int) {b:List Int} {p:Int},s.length<=f.sc.length+3->RdI ⟨b,p⟩ (k+1)->Tot (JN f f s f.kids 0 b p>>=fun (q:List Fm × List Int × Int)=>(pure (Fm.mk f.kind f.name f.num s q.1,Rdr.mk q.2.1 q.2.2):Option (Fm × Rdr))) fun r=>r.1.sz<=f.sz+3 * f.nodes/\RdI r.2 (k+f.nodes):=by
   intro s b p hs hR;refine ZN (loop s f.kids.length 0 f.kids (by omega) rfl rfl hR (by rw [KT];omega)) fun q hq=>?_;rw [KT] at hq;obtain ⟨q1,q2,q3⟩:=hq;refine Tot.pure ⟨?_,q3.mono (by omega)⟩
   simp only;rw [Dx];omega
  by_cases h1:f.kind=1
  ·rw [if_pos h1];refine ZN (p:=fun (y:List Int × List Int × Int)=>y.1.length<=3/\RdI ⟨y.2.1,y.2.2⟩ (k+1)) ?_ fun y hy=>tail y.1 (by omega) hy.2;refine ZN (Jn h (by omega) (by omega)) fun q hq=>?_;refine ZN (H8 hq.1 hq.2.1) fun s hs=>?_
   have h3:∀s∈([[],[1],[2],[1,2],[1,3],[1,2,3],[99]]:List (List Int)),s.length<=3:=by decide
   have:=h3 s hs;refine ZN (AT (by simp only [List.length_nil];omega)) fun z hz'=>?_;subst hz';exact Tot.pure ⟨by simpa using this,hq.2.2⟩
  ·rw [if_neg h1,Yf,X8];exact tail f.sc (by omega) (h.mono (by omega))
theorem Fu (a b:List Int) (ha:a.length<=1000000):Jf a b=some (decide (a=b)):=by
 rw [Jf]
 by_cases hl:a.length=b.length
 rotate_left
 ·rw [if_neg (by omega),decide_eq_false (fun h=>hl (by rw [h]))];rfl
 rw [if_pos (by omega),CY _ _ (by omega)]
 have key:∀(l:List Int) (i:Nat),a.drop i=l->Wb a b i l=some (if l=b.drop i then .inr () else .inl false):=by
  intro l
  induction l with
  | nil =>
   intro i h
   have:a.length<=i:=by have:=congrArg List.length h;simp at this;omega
   rw [if_pos (by rw [KR (by omega)])];rfl
  | cons x l ih =>
   intro i h
   have hi:i < a.length:=by
    rcases Nat.lt_or_ge i a.length with h2 | h2
    ·exact h2
    ·rw [KR h2] at h;cases h
   rw [ZL hi] at h
   injection h with e1 e2
   have hib:i < b.length:=by omega
   rw [Wb,Yf,X8,Yk _ _ hib,X8,ZL hib]
   by_cases hx:x=b[i]
   ·rw [if_pos hx,ih _ e2];simp only [hx,List.cons.injEq,true_and]
   ·rw [if_neg hx,if_neg (fun h=>hx (by injection h))];rfl
 rw [key a 0 (KT ..),KT,X8]
 by_cases h:a=b
 ·rw [if_pos h,decide_eq_true h];rfl
 ·rw [if_neg h,decide_eq_false h];rfl
theorem Oe:∀f:Fm,f.sz<=1000000->∀g:Fm,Wi f g=some (decide (f=g)):=by
 intro f
 induction f using Fm.ind with
 | h f ih =>
  intro hf g;have hz:=Fm.G6 f
  have kids:f.kids.length=g.kids.length->Yx f.kids g.kids 0 f.kids=some (if f.kids=g.kids then .inr () else .inl false):=by
   intro hl
   have key:∀(l:List Fm) (i:Nat),f.kids.drop i=l->Yx f.kids g.kids i l=some (if l=g.kids.drop i then .inr () else .inl false):=by
    intro l
    induction l with
    | nil =>
     intro i h
     have:f.kids.length<=i:=by have:=congrArg List.length h;simp at this;omega
     rw [if_pos (by rw [KR (by omega)])];rfl
    | cons x l ihl =>
     intro i h
     have hi:i < f.kids.length:=by
      rcases Nat.lt_or_ge i f.kids.length with h2 | h2
      ·exact h2
      ·rw [KR h2] at h;cases h
     rw [ZL hi] at h
     injection h with e1 e2
     have hib:i < g.kids.length:=by omega
     have hm:x∈f.kids:=e1▸ZU hi;have:=Fm.J7 hm;rw [Yx,Yf,X8,Yk _ _ hib,X8,ih x hm (by omega),X8,ZL hib]
     by_cases hx:x=g.kids[i]
     ·rw [decide_eq_true hx];simp only [Z0,Qo,if_false];rw [ihl _ e2];simp only [hx,List.cons.injEq,true_and]
     ·rw [decide_eq_false hx];show some (Sum.inl false)=_;rw [if_neg (fun h=>hx (by injection h))]
   have:=key f.kids 0 (KT ..);rwa [KT] at this
  rw [Wi,Yf,X8,Yf,X8]
  by_cases h:f=g
  ·subst h;simp only [decide_true,Bool.and_self,if_true,Fu _ _ (show f.sc.length<=1000000 by omega),X8,Yf];rw [YU,if_pos rfl,VX _ _ (by omega),kids rfl,if_pos rfl];rfl
  ·rw [decide_eq_false h]
   by_cases c1:(decide (f.kind=g.kind)&&decide (f.name=g.name)&&decide (f.num=g.num))=true
   rotate_left
   ·rw [if_neg c1];rfl
   rw [if_pos c1,Fu _ _ (show f.sc.length<=1000000 by omega),X8,Yf,X8]
   by_cases c2:f.sc=g.sc
   rotate_left
   ·rw [decide_eq_false c2];rfl
   rw [decide_eq_true c2,if_pos rfl,YU]
   by_cases c3:f.kids.length=g.kids.length
   rotate_left
   ·rw [if_neg (by omega)];rfl
   rw [if_pos (by omega),VX _ _ (by omega),kids c3,if_neg]
   ·rfl
   ·intro c4;simp only [QG,decide_eq_true_eq] at c1;apply h;cases f;cases g;simp only [Fm.kind,Fm.name,Fm.num,Fm.sc,Fm.kids] at c1 c2 c4;rw [c1.1.1,c1.1.2,c1.2,c2,c4]
end Go.Proofs.SA
