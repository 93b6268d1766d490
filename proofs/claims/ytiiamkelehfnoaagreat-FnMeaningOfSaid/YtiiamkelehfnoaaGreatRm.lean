/- The reference's expansion from the beginning; core programs checked. -/
import Derived.Test.YtiiamkelehfnoaaGreatRj
import Derived.Test.YtiiamkelehfnoaaGreatFmA
set_option linter.unusedVariables false
set_option linter.unusedSimpArgs false
set_option maxRecDepth 100000
open Go Go.Proofs Go.Proofs.Shadow
open _root_.ByteArray renaming mk → Qk
open _root_.Bool renaming false_eq_true → Qq, not_false → ZX, not_true → ZY, and_eq_true → QG, or_eq_true → Q9, not_eq_true' → ZW
open _root_.List renaming getElem_mem → ZS, mem_cons_self → KD, mem_cons_of_mem → Kf, drop_eq_getElem_cons → ZJ, nil_append → QS, drop_of_length_le → KP, drop_zero → KR, length_drop → Xj, mem_cons → Kj, length_map → Xc, append_assoc → QD, map_cons → QH, length_nil → ZO
open Tot renaming bind → ZL
open Fm renaming nodes → ZU
open _root_.Int renaming le_refl → Xk
open Cor renaming kids → Zj, mk → KU
namespace Go.Proofs.SA
def RU (f:Fm):Prop:=f.kind=3/\∀k∈f.kids,k.kind=3/\k.kids.length=2
theorem U5 {f:Fm} (hf:f.sz<=100000):Tot (BO f) fun r=>(RU f/\r=(f.kids.map fun k=>k.kids.getD 0 default,f.kids.map fun k=>k.kids.getD 1 default,true))∨(¬RU f/\r.2.2=false):=by
 have hz:=Fm.G3 f
 have loop:∀(r:List Fm) (i:Nat) (z w:List Fm),z.length+r.length<=200000->w.length+r.length<=200000->Tot (Gd f z w i r) fun o=>((∀k∈r,k.kind=3/\k.kids.length=2)/\o=.inr (z++r.map fun k=>k.kids.getD 0 default,w++r.map fun k=>k.kids.getD 1 default))∨(¬(∀k∈r,k.kind=3/\k.kids.length=2)/\∃q,o=.inl q/\q.2.2=false):=by
  intro r
  induction r with
  | nil=>intro i z w _ _;rw [Gd];exact ⟨_,rfl,.inl ⟨by simp,by simp⟩⟩
  | cons k r ih =>
   intro i z w hz hw;simp only [List.length_cons] at hz hw;rw [Gd];simp only [Yf,X6]
   by_cases h3:k.kind=3
   rotate_left
   ·rw [if_neg h3];simp only [X6,if_true];exact ⟨_,rfl,.inr ⟨fun h=>h3 (h k (KD ..)).1,_,rfl,rfl⟩⟩
   rw [if_pos h3]
   by_cases h2:k.kids.length=2
   rotate_left
   ·simp only [X6,decide_eq_false (show ¬(k.kids.length:Int)=2 by omega),ZX,if_true];exact ⟨_,rfl,.inr ⟨fun h=>h2 (h k (KD ..)).2,_,rfl,rfl⟩⟩
   have j0:0 < k.kids.length:=by omega
   have j1:1 < k.kids.length:=by omega
   simp only [X6,decide_eq_true (show (k.kids.length:Int)=2 by omega),ZY,Qq,if_false,show idx k.kids 0=some k.kids[0] from Yi _ 0 j0,show idx k.kids 1=some k.kids[1] from Yi _ 1 j1];rw [Y1 (by simp;omega),X6,Y1 (by simp;omega),X6];refine (ih (i+1) _ _ (by simp;omega) (by simp;omega)).mono fun o ho=>?_
   rcases ho with ⟨r1,r2⟩ | ⟨r1,r2⟩
   ·refine .inl ⟨fun x hx=>?_,?_⟩
    ·rcases Kj.1 hx with rfl | hx
     ·exact ⟨h3,h2⟩
     ·exact r1 x hx
    ·rw [r2,QH,QH,Jt j0,Jt j1,QD,QD];rfl
   ·exact .inr ⟨fun h=>r1 fun x hx=>h x (Kf _ hx),r2⟩
 rw [BO,MV _ _ _ (by omega)];obtain ⟨o,ho,hop⟩:=loop f.kids 0 [] [] (by simp;omega) (by simp;omega);rw [ho,X6]
 rcases hop with ⟨r1,r2⟩ | ⟨r1,q,r2,r3⟩
 ·subst r2;simp only [QS]
  by_cases h3:f.kind=3
  ·exact ⟨_,rfl,.inl ⟨⟨h3,r1⟩,by rw [decide_eq_true h3]⟩⟩
  ·exact ⟨_,rfl,.inr ⟨fun h=>h3 h.1,decide_eq_false h3⟩⟩
 ·subst r2;exact ⟨_,rfl,.inr ⟨fun h=>r1 h.2,r3⟩⟩
theorem TS {f:Fm} (hf:FV f) (hp:RU f) {j:Nat} (hj:j < 2):∀x∈f.kids.map fun k=>k.kids.getD j default,FV x:=fun x hx=>by
 obtain ⟨k,hk,rfl⟩:=List.mem_map.1 hx;have h2:=(hp.2 k hk).2;simp only [Jt (show j < k.kids.length by omega)];exact (hf.kid hk).kid (ZS _)
theorem U6 {f:Fm} (hp:RU f):VF ZU (f.kids.map fun k=>k.kids.getD 1 default)+1<=f.nodes:=by
 have:∀l:List Fm,(∀k∈l,k.kids.length=2)->VF ZU (l.map fun k=>k.kids.getD 1 default)<=VF ZU l:=by
  intro l
  induction l with
  | nil=>intro _;exact Nat.le_refl _
  | cons k l ih =>
   intro h;have h1:=ih (fun x hx=>h x (Kf _ hx));have h2:=h k (KD ..)
   have h3:1 < k.kids.length:=by omega
   have h4:=IA (ZS h3);simp only [QH,VF,Jt h3];omega
 have h:=this f.kids (fun k hk=>(hp.2 k hk).2);have:=Fm.Vo f;omega
theorem Qd4 {x:Xpn} (hx:XI x) {f:Fm} (hf:FV f) {id b:Int} (hb:b<=60) (hid:Fv x.macs id≥0):Tot (CC x f id b) fun r=>r.2.2=0->XI r.1/\r.1.steps=x.steps+1/\x.steps < b/\FV r.2.1:=by
 have ht0:=hx.t0;have hs0:=hx.s0;rw [CC];split
 ·exact ⟨_,rfl,fun h=>by simp at h⟩
 rename_i hst;rw [Qhn hx,X6]
 by_cases h1:x.scope+1<=99
 rotate_left
 ·rw [decide_eq_false h1];simp only [ZX,if_true];exact ⟨_,rfl,fun h=>by simp at h⟩
 rw [decide_eq_true h1];simp only [ZY,Qq,if_false];have hml:=Qha hid;have hsm:=hx.sm;rw [Y2 (by omega) (by omega),UZ _ _ (by exact hsm),X6,B0 (l:=x.macs) hid hml.1,X6,B8 _ _ f (by have:=hf.sz;omega),X6]
 have hm:MS (x.macs.getD (Fv x.macs id).toNat default):=by
  have:(Fv x.macs id).toNat < x.macs.length:=by omega
  rw [Jt this];exact hx.mm _ (ZS this)
 have hcs:=DO hf (x.scope+1) 1;refine ZL (Ay (by omega)) fun b1 hb1=>?_;cases b1
 ·simp only [ZX,if_true];exact ⟨_,rfl,fun h=>by simp at h⟩
 simp only [ZY,Qq,if_false];refine ZL (Ov hx.b.bs hm.1 hm.2.1 (by omega)).true fun r1 _=>?_;split
 ·exact ⟨_,rfl,fun h=>by simp at h⟩
 refine ZL (UA hx.b.bs hm.1 hm.2.1 (by have:=hm.2.2;omega) (by omega)) fun r2 hr2=>?_
 cases hap:Qfv x.binds (x.macs.getD (Fv x.macs id).toNat default).lits (x.macs.getD (Fv x.macs id).toNat default).rules (chg (x.scope+1) 1 f) with
 | none =>
  rw [hap] at hr2;simp only at hr2;rw [hr2];simp only [ZX,if_true];exact ⟨_,rfl,fun h=>by simp at h⟩
 | some g =>
  rw [hap] at hr2;obtain ⟨rfl,hg⟩:=hr2;have hcg:=DO hg (x.scope+1) 1;simp only [ZY,Qq,if_false];rw [B8 _ _ g (by have:=hg.sz;omega),X6];obtain ⟨b2,e2,hb2⟩:=Ay (f:=chg (x.scope+1) 1 g) (by omega);rw [e2,X6];cases b2
  ·simp only [ZX,if_true];exact ⟨_,rfl,fun h=>by simp at h⟩
  ·simp only [ZY,Qq,if_false];refine ⟨_,rfl,fun _=>⟨⟨hx.b,hx.m,hx.i,by show 0<=x.scope+1;omega,h1,by show 0<=x.steps+1;omega,by show x.steps+1<=60;omega,hx.mm⟩,rfl,by omega,hb2.1 rfl⟩⟩
theorem Qcc:∀(d:Nat) (f:Fm),LN d f->LN d f.strip
 | 0,_,h=>h.elim
 | d+1,f,h=>by
  rw [Fm.N1];refine ⟨h.1,by show 0<=24;omega,fun k hk=>?_⟩;have hk':k∈f.kids.map Fm.strip:=hk;obtain ⟨y,hy,rfl⟩:=List.mem_map.1 hk';exact Qcc d y (h.2.2 y hy)
theorem Qaf (f:Fm):f.strip.nodes=f.nodes:=by
 induction f using Fm.ind with
 | h f ih =>
  rw [Fm.Vo,Fm.Vo f,Fm.N1]
  have:∀l:List Fm,(∀g∈l,g.strip.nodes=g.nodes)->VF ZU (l.map Fm.strip)=VF ZU l:=by
   intro l
   induction l with
   | nil=>intro _;rfl
   | cons g l ihl=>intro h;rw [QH,VF,VF,h g (KD ..),ihl (fun x hx=>h x (Kf _ hx))]
  show 1+VF ZU (f.kids.map Fm.strip)=_;rw [this _ ih]
theorem Qul:∀(l:List Fm) (h:l.length=3),l[0].nodes+l[1].nodes+l[2].nodes=VF ZU l
 | [a,b,c],_=>by simp [VF];omega
theorem Tv {b:Int} (hb:b<=60):∀(N:Nat) (x:Xpn) (f:Fm),XI x->FV f->(60 - x.steps).toNat * 1000+f.nodes<=N->Tot (VC x f b) (P7 x f.nodes):=by
 intro N
 induction N with
 | zero=>intro x f _ _ h;have:=BH f;omega
 | succ N ih =>
  intro x f hx hf hN;have hnf:=Fm.Vo f;have hkl:=hf.Mo;rw [VC]
  by_cases k2:f.kind=2
  ·rw [if_pos k2];exact ⟨_,rfl,fun _=>⟨hx,Xk _,UK _ _ _ e0 _ _ (by simp) _ (by simp) (by simp),by have:=BH f;simp [Cor.Vo,Zj,VF];omega⟩⟩
  rw [if_neg k2]
  by_cases k1:f.kind=1
  ·rw [if_pos k1];refine ZL (Qdo hx hf) fun r hr=>⟨_,rfl,fun h=>?_⟩;obtain ⟨a1,a2,a3,a4⟩:=hr h;exact ⟨a1,a2,a3,by have:=BH f;show (r.2.1.nodes:Int)<=_+400 * (r.1.steps - x.steps);omega⟩
  rw [if_neg k1]
  by_cases hl0:(f.kids.length:Int)=0
  ·rw [if_pos hl0];exact ⟨_,rfl,.bad (by decide)⟩
  rw [if_neg hl0]
  have l0:0 < f.kids.length:=by omega
  rw [show idx f.kids 0=some f.kids[0] from Yi f.kids 0 l0,X6]
  have kid:∀(l:List Fm),(∀g∈l,FV g/\g.nodes < f.nodes)->l.length<=400->∀y,XI y->x.steps<=y.steps->Tot (H9 y l b) (PA y l):=fun l hl hll y hy hxy =>
   Qfe (s0:=x.steps) (fun z g hz hs hg=>ih z g hz (hl g hg).1 (by have:=(hl g hg).2;omega)) hll hy hxy
  have hkids:∀g∈f.kids,FV g/\g.nodes < f.nodes:=fun g hg=>⟨hf.kid hg,by have:=IA hg;omega⟩
  have call:Tot ((H9 x f.kids b>>=fun x80=>pure (x80.1,KU 6 0 (Qk #[]) 0 [] (Fm.mk 0 (Qk #[]) 0 [] []) x80.2.1,x80.2.2)):Option (Xpn × Cor × Int)) (P7 x f.nodes):=by
   refine ZL (kid f.kids hkids (by omega) x hx (Xk _)) fun r hr=>⟨_,rfl,fun h=>?_⟩;obtain ⟨a1,a2,a3,a4,a5⟩:=hr h;refine ⟨a1,a2,UK _ _ _ e0 _ _ (by simp) _ (by omega) a4,?_⟩;show ((KU _ _ _ _ _ _ r.2.1).nodes:Int)<=_+400 * (r.1.steps - x.steps);rw [Cor.Vo];simp only [Zj];omega
  by_cases k3:f.kids[0].kind=1
  rotate_left
  ·rw [if_neg k3];exact call
  have hf0:=hf.kid (ZS l0);rw [if_pos k3,X6,Sv x _ hx.b.bs hf0.smc hx.sm,X6]
  by_cases m4:(FP x f.kids[0]).1=4
  ·rw [if_pos m4];exact ⟨_,rfl,.bad (by decide)⟩
  rw [if_neg m4]
  by_cases m1:(FP x f.kids[0]).1=1
  rotate_left
  ·rw [if_neg m1]
   by_cases m2:(FP x f.kids[0]).1=2
   rotate_left
   ·rw [if_neg m2];exact call
   rw [if_pos m2,CW];obtain ⟨r,hr1,hr⟩:=Qd4 hx hf hb (Qhb m2);rw [hr1,X6]
   by_cases h0:r.2.2=0
   rotate_left
   ·rw [if_neg h0];exact ⟨_,rfl,.bad h0⟩
   obtain ⟨a1,a2,a3,a4⟩:=hr h0;rw [if_pos h0];have ht0:=hx.t0;refine ZL (ZL (ih r.1 r.2.1 a1 a4 (by have:=a4.2;have:=a1.t1;rw [a2] at *;omega)) fun q hq=>⟨_,rfl,hq⟩) fun q hq=>⟨_,rfl,fun h=>?_⟩;obtain ⟨c1,c2,c3,c4⟩:=hq h;have hn4:=a4.2;refine ⟨c1,by show x.steps<=q.1.steps;omega,c3,?_⟩;show (q.2.1.nodes:Int)<=_+400 * (q.1.steps - x.steps);omega
  rw [if_pos m1]
  have hform:Tot (Cy x f (FP x f.kids[0]).2 b) (P7 x f.nodes):=by
   generalize (FP x f.kids[0]).2=id;rw [Cy];simp only [Yf,X6];split
   ·rename_i hq;rw [QG,decide_eq_true_iff,decide_eq_true_iff] at hq
    have l1:1 < f.kids.length:=by omega
    have hv:=hf.kid (ZS l1);rw [show idx f.kids 1=some f.kids[1] from Yi f.kids 1 l1,X6,Nd _ (by have:=hv.sz;omega),X6];refine ⟨_,rfl,fun _=>⟨hx,Xk _,.mk e0 (by simp) (Qcc _ _ hv.ln) (by rw [Qaf];exact hv.2) (by simp) (by simp),?_⟩⟩;have:=BH f;simp [Cor.Vo,Zj,VF];omega
   split
   ·rename_i hq;rw [QG,decide_eq_true_iff,decide_eq_true_iff] at hq
    have hsub:LG f.kids 1 (f.kids.length:Int)=some (f.kids.drop 1):=by
     unfold LG;rw [if_pos ⟨by omega,by omega,by omega⟩]
     congr 1
     rw [List.take_of_length_le];rfl;rw [Xj];omega
    rw [hsub,X6];refine ZL (kid (f.kids.drop 1) (fun g hg=>hkids g (List.mem_of_mem_drop hg)) (by rw [Xj];omega) x hx (Xk _)) fun r hr=>⟨_,rfl,fun h=>?_⟩;obtain ⟨a1,a2,a3,a4,a5⟩:=hr h;refine ⟨a1,a2,UK _ _ _ e0 _ _ (by simp) _ (by rw [a3,Xj];omega) a4,?_⟩;show ((KU _ _ _ _ _ _ r.2.1).nodes:Int)<=_+400 * (r.1.steps - x.steps);rw [Cor.Vo];simp only [Zj]
    have:VF ZU (f.kids.drop 1)<=VF ZU f.kids:=by
     conv=>rhs;rw [← List.take_append_drop 1 f.kids,CD]
     omega
    omega
   have body:∀(hb2:2 < f.kids.length) (names:List Fm),(∀n∈names,FV n)->names.length<=400->∀y,XI y->x.steps<=y.steps->Tot (Bu y names f.kids[2] b) (P7 y (f.kids[2].nodes+1)):=fun hb2 names hn hnl y hy hxy=>by
    have hv:=hf.kid (ZS hb2);have hk:=IA (ZS hb2);exact Qgw (s0:=x.steps) hv (fun z g hz hs hg hgn=>ih z g hz hg (by omega)) hn hnl hy hxy
   have lam:Tot ((if (decide (id=1)&&decide ((f.kids.length:Int)=3))=true then (idx f.kids 1>>=fun x72=>some (decide (x72.kind=3))) else some false:Option Bool)) fun c=>c=true->id=1/\f.kids.length=3:=by
    split
    ·rename_i hq;rw [QG,decide_eq_true_iff,decide_eq_true_iff] at hq
     have l1:1 < f.kids.length:=by omega
     rw [show idx f.kids 1=some f.kids[1] from Yi f.kids 1 l1,X6];exact ⟨_,rfl,fun _=>⟨hq.1,by omega⟩⟩
    ·exact ⟨_,rfl,fun h=>by cases h⟩
   refine ZL lam fun c hc=>?_
   by_cases hct:c=true
   ·rw [if_pos hct];obtain ⟨_,h3⟩:=hc hct
    have l1:1 < f.kids.length:=by omega
    have l2:2 < f.kids.length:=by omega
    rw [show idx f.kids 1=some f.kids[1] from Yi f.kids 1 l1,X6,show idx f.kids 2=some f.kids[2] from Yi f.kids 2 l2,X6];have hv1:=hf.kid (ZS l1);have hk2:=IA (ZS l2);refine ZL (body l2 f.kids[1].kids (fun n hn=>hv1.kid hn) (by have:=hv1.Mo;omega) x hx (Xk _)) fun r hr=>⟨_,rfl,fun h=>?_⟩;obtain ⟨a1,a2,a3,a4⟩:=hr h;exact ⟨a1,a2,a3,by show (r.2.1.nodes:Int)<=_+400 * (r.1.steps - x.steps);omega⟩
   rw [if_neg hct];split
   ·exact ⟨_,rfl,.bad (by decide)⟩
   rename_i hq
   have h3:f.kids.length=3:=by
    rw [Q9,not_or] at hq;have:=hq.2;simp only [ZW,decide_eq_false_iff_not,Classical.not_not] at this;omega
   have l1:1 < f.kids.length:=by omega
   have l2:2 < f.kids.length:=by omega
   have hv1:=hf.kid (ZS l1);have hv2:=hf.kid (ZS l2);have hk1:=IA (ZS l1);have hk2:=IA (ZS l2);have hsum:=Qul f.kids h3;have hp0:=BH f.kids[0];rw [show idx f.kids 1=some f.kids[1] from Yi f.kids 1 l1,X6];refine ZL (U5 (by have:=hv1.sz;omega)) fun r hr=>?_
   rcases hr with ⟨hpo,rfl⟩ | ⟨_,hpf⟩
   rotate_left
   ·rw [hpf];simp only [ZX,if_true];exact ⟨_,rfl,.bad (by decide)⟩
   simp only [ZY,Qq,if_false,show idx f.kids 2=some f.kids[2] from Yi f.kids 2 l2,X6];have hn:=TS hv1 hpo (j:=0) (by omega);have hvs:=TS hv1 hpo (j:=1) (by omega);have hpn:=U6 hpo;have hkl1:=hv1.Mo;split
   ·refine ZL (TJ (s0:=x.steps) hv2 (fun z g hz hs hg hgn=>ih z g hz hg (by omega)) hn hvs (by simp) (by rw [Xc];omega) hx (Xk _)) fun r hr=>⟨_,rfl,fun h=>?_⟩;obtain ⟨a1,a2,a3,a4⟩:=hr h;exact ⟨a1,a2,a3,by show (r.2.1.nodes:Int)<=_+400 * (r.1.steps - x.steps);omega⟩
   ·refine ZL (kid _ (fun g hg=>⟨hvs g hg,by have:=CY ZU _ g hg;omega⟩) (by rw [Xc];omega) x hx (Xk _)) fun r hr=>?_
    by_cases h0:r.2.2=0
    rotate_left
    ·rw [if_neg h0];exact ⟨_,rfl,.bad h0⟩
    rw [if_pos h0];obtain ⟨a1,a2,a3,a4,a5⟩:=hr h0;refine ZL (body l2 _ hn (by rw [Xc];omega) r.1 a1 a2) fun q hq=>?_;rw [Xc] at a3;rw [Y1 (by simp;omega),X6];refine ⟨_,rfl,fun h=>?_⟩;obtain ⟨c1,c2,c3,c4⟩:=hq h;refine ⟨c1,by show x.steps<=q.1.steps;omega,UK _ _ _ e0 _ _ (by simp) _ (by simp;omega) (fun c hc=>?_),?_⟩
    ·rcases Kj.1 hc with rfl | hc
     ·exact c3
     ·exact a4 c hc
    ·show ((KU _ _ _ _ _ _ ([q.2.1]++r.2.1)).nodes:Int)<=_+400 * (q.1.steps - x.steps);rw [Cor.Vo];simp only [Zj,List.cons_append,QS,VF];omega
  exact ZL hform fun r hr=>⟨_,rfl,hr⟩
end Go.Proofs.SA
namespace Go.Proofs.SA
inductive Qif:Cor->Prop
 | mk {k i:Int} {s:ByteArray} {n:Int} {l:List Int} {d:Fm} {ks:List Cor} (hl:l.length<=1000000) (hd:d.sz<=1000000) (hk:ks.length<=1000000) (h:∀x∈ks,Qif x):Qif (.mk k i s n l d ks)
theorem Qif.out {c:Cor} (h:Qif c):c.ids.length<=1000000/\c.data.sz<=1000000/\c.kids.length<=1000000/\∀x∈c.kids,Qif x:=by
 cases h;exact ⟨by assumption,by assumption,by assumption,by assumption⟩
theorem Qes.b {c:Cor} (h:Qes c):Qif c:=by
 induction h with
 | mk hs hl hd hn hk _ ih=>exact .mk (by omega) (by have:=LN.sz _ _ hd;omega) (by omega) ih
def arity (k:Int) (n:Nat):Prop:=((k=1∨k=2∨k=3∨k=4)/\n=0)∨(k=5/\n=1)∨(k=6/\1<=n)∨(k=7/\n=3)
def zF:Fm:=Fm.mk 0 (Qk #[]) 0 [] []
def Si (c:Cor):Prop:=((c.kind=1->1<=c.id/\c.id<=999)/\(c.kind≠1->c.id=0))/\((c.kind=2->NV c.name)/\(c.kind≠2->c.name=Qk #[]))/\((c.kind=3->0<=c.num/\c.num<=999)/\(c.kind≠3->c.num=0))/\((c.kind=4->FV c.data/\c.data.strip=c.data)/\(c.kind≠4->c.data=zF))/\(c.kind≠5->c.ids=[])
def CIs:Nat->List Int->Cor->Prop
 | 0,_,_=>False
 | d+1,sc,c=>arity c.kind c.kids.length/\Si c/\(c.kind=1->c.id∈sc)/\(∀i∈c.ids,1<=i/\i<=999/\i∉sc)/\c.ids.Nodup/\∀k∈c.kids,CIs d (sc++c.ids) k
def CV (c:Cor):Prop:=CIs 120 [] c/\c.nodes<=600
theorem Qdk (k:Int) (n:Nat):Tot (Cv k n) fun b=>b=true↔arity k n:=by
 rw [Cv]
 by_cases h1:k=1
 ·subst h1;simp [Yf,X6,arity,Tot]
 by_cases h2:k=2
 ·subst h2;simp [Yf,X6,arity,Tot]
 by_cases h3:k=3
 ·subst h3;simp [Yf,X6,arity,Tot]
 by_cases h4:k=4
 ·subst h4;simp [Yf,X6,arity,Tot]
 by_cases h5:k=5
 ·subst h5;simp [Yf,X6,arity,Tot];omega
 by_cases h6:k=6
 ·subst h6;simp [Yf,X6,arity,Tot];omega
 by_cases h7:k=7
 ·subst h7;simp [Yf,X6,arity,Tot];omega
 simp [Yf,X6,arity,Tot,h1,h2,h3,h4,h5,h6,h7]
theorem Tw {c:Cor} (hd:c.data.sz<=1000000):Tot (Ab c) fun b=>b=true↔Si c:=by
 have hs:VH c.data (Fm.mk 0 (Qk #[]) 0 [] [])=some (decide (c.data=zF)):=E8 _ hd _;obtain ⟨bn,en,hn⟩:=U2 c.name;obtain ⟨bf,ef,hf⟩:=Ay (f:=c.data) (by omega);have est:W0 c.data=some c.data.strip:=Nd c.data (by omega);have esm:VH c.data.strip c.data=some (decide (c.data.strip=c.data)):=E8 _ (by have:=Fm.Qkn c.data;omega) _
 have hi:decide ((c.ids.length:Int)=0)=decide (c.ids=[]):=by
  by_cases h:c.ids=[]
  ·rw [h];rfl
  ·rw [decide_eq_false h,decide_eq_false];intro h2;exact h (List.eq_nil_of_length_eq_zero (by omega))
 have key:∀(k1 k2 k3 k4 k5:Bool) (iL iG iZ nZ mL mG mZ dS dZ iN:Bool),k1=decide (c.kind=1)->k2=decide (c.kind=2)->k3=decide (c.kind=3)->k4=decide (c.kind=4)->k5=decide (c.kind=5) ->
   iL=decide (c.id < 1)->iG=decide (c.id > 999)->iZ=decide (c.id=0)->nZ=decide (c.name=Qk #[])->mL=decide (c.num < 0)->mG=decide (c.num > 999)->mZ=decide (c.num=0)->dS=decide (c.data.strip=c.data)->dZ=decide (c.data=zF)->iN=decide (c.ids=[]) ->
   Ab c=some (!(if k1 then iL||iG else !iZ)&&!(if k2 then !bn else !nZ)&&!(if k3 then mL||mG else !mZ)&&!(if k4 then !bf||!dS else !dZ)&&(k5||iN)):=by
  intro k1 k2 k3 k4 k5 iL iG iZ nZ mL mG mZ dS dZ iN e1 e2 e3 e4 e5 f1 f2 f3 f4 f5 f6 f7 f8 f9 f10
  have c1:(c.kind=1)=(k1=true):=by rw [e1];simp
  have c2:(c.kind=2)=(k2=true):=by rw [e2];simp
  have c3:(c.kind=3)=(k3=true):=by rw [e3];simp
  have c4:(c.kind=4)=(k4=true):=by rw [e4];simp
  rw [Ab];simp only [← e1,← e2,← e3,← e4,← e5,← f1,← f2,← f3,← f4,← f5,← f6,← f7,c1,c2,c3,c4,en,ef,est,esm,hs,hi,← f8,← f9,← f10,Yf,X6];cases k1<;>cases k2<;>cases k3<;>cases k4<;>simp only [X6,Yf,Qq,if_false,if_true,ZY,ZX,Bool.true_and,Bool.false_and,esm,← f8]
  all_goals (cases iL<;>cases iG<;>cases iZ<;>cases nZ<;>first | rfl | (cases bn<;>cases mL<;>cases mG<;>cases mZ<;>first | rfl | (cases bf<;>cases dS<;>cases dZ<;>first | rfl | (cases k5<;>cases iN<;>rfl))))
 refine ⟨_,key _ _ _ _ _ _ _ _ _ _ _ _ _ _ _ rfl rfl rfl rfl rfl rfl rfl rfl rfl rfl rfl rfl rfl rfl rfl,?_⟩;unfold Si;simp only [QG,ZW,Q9,decide_eq_true_eq];rw [← hn,← hf]
 have q1:(if decide (c.kind=1)=true then (decide (c.id < 1)||decide (c.id > 999)) else !decide (c.id=0))=false↔((c.kind=1->1<=c.id/\c.id<=999)/\(c.kind≠1->c.id=0)):=by
  by_cases h:c.kind=1
  ·simp [h]
  ·simp [h]
 have q2:(if decide (c.kind=2)=true then !bn else !decide (c.name=Qk #[]))=false↔((c.kind=2->bn=true)/\(c.kind≠2->c.name=Qk #[])):=by
  by_cases h:c.kind=2
  ·simp [h]
  ·simp [h]
 have q3:(if decide (c.kind=3)=true then (decide (c.num < 0)||decide (c.num > 999)) else !decide (c.num=0))=false↔((c.kind=3->0<=c.num/\c.num<=999)/\(c.kind≠3->c.num=0)):=by
  by_cases h:c.kind=3
  ·simp [h]
  ·simp [h]
 have q4:(if decide (c.kind=4)=true then (!bf||!decide (c.data.strip=c.data)) else !decide (c.data=zF))=false↔((c.kind=4->bf=true/\c.data.strip=c.data)/\(c.kind≠4->c.data=zF)):=by
  by_cases h:c.kind=4
  ·simp [h]
  ·simp [h]
 have q5:(c.kind=5∨c.ids=[])↔(c.kind≠5->c.ids=[]):=by
  by_cases h:c.kind=5
  ·simp [h]
  ·simp [h]
 simp only [decide_eq_true_eq] at q1 q2 q3 q4;rw [q1,q2,q3,q4,q5,and_assoc,and_assoc,and_assoc]
theorem Qth (c:Cor) (d:Int):∀(r:List Int) (i:Nat) (sc:List Int),sc.length+r.length<=1000000000->(∀x∈r,True)->Tot (Ix c d sc i r) fun o=>match o with
  | .inl q=>q=false/\¬((∀x∈r,1<=x/\x<=999/\x∉sc)/\r.Nodup)
  | .inr q=>q=sc++r/\(∀x∈r,1<=x/\x<=999/\x∉sc)/\r.Nodup:=by
 intro r
 induction r with
 | nil=>intro i sc _ _;rw [Ix];exact ⟨_,rfl,by simp,by simp,by simp⟩
 | cons x r ih =>
  intro i sc hl _;simp only [List.length_cons] at hl;rw [Ix];simp only [Yf,X6]
  have bad:¬(1<=x/\x<=999/\x∉sc)->Tot (some (Sum.inl false):Option (Bool ⊕ List Int)) fun o=>match o with
   | .inl q=>q=false/\¬((∀y∈x :: r,1<=y/\y<=999/\y∉sc)/\(x :: r).Nodup)
   | .inr q=>q=sc++(x :: r)/\(∀y∈x :: r,1<=y/\y<=999/\y∉sc)/\(x :: r).Nodup:=fun h=>⟨_,rfl,rfl,fun h2=>h (h2.1 x (KD ..))⟩
  by_cases h1:x < 1
  ·simp only [h1,if_true,X6];exact bad (by omega)
  by_cases h2:x > 999
  ·simp only [h1,h2,if_false,if_true,X6,decide_true];exact bad (by omega)
  simp only [h1,h2,if_false,X6,decide_false,Qq,Tz sc x (show Sm sc.length by unfold Sm;omega)]
  by_cases h3:x∈sc
  ·simp only [h3,decide_true,if_true];exact bad (fun h=>h.2.2 h3)
  simp only [h3,decide_false,Qq,if_false];rw [Y1 (by simp;omega)];simp only [X6,QS];rw [Y1 (by simp;omega)];simp only [X6];refine (ih (i+1) (sc++[x]) (by simp;omega) (fun _ _=>trivial)).mono fun o ho=>?_
  have conv:((∀y∈r,1<=y/\y<=999/\y∉sc++[x])/\r.Nodup)↔((∀y∈x :: r,1<=y/\y<=999/\y∉sc)/\(x :: r).Nodup):=by
   rw [List.nodup_cons];constructor
   ·rintro ⟨a,b⟩;refine ⟨fun y hy=>?_,fun hx=>?_,b⟩
    ·rcases Kj.1 hy with rfl | hy
     ·exact ⟨by omega,by omega,h3⟩
     ·have:=a y hy;exact ⟨this.1,this.2.1,fun h=>this.2.2 (List.mem_append_left _ h)⟩
    ·exact (a x hx).2.2 (by simp)
   ·rintro ⟨a,b,e⟩;refine ⟨fun y hy=>?_,e⟩;have:=a y (Kf _ hy);refine ⟨this.1,this.2.1,fun h=>?_⟩
    rcases List.mem_append.1 h with h | h
    ·exact this.2.2 h
    ·rw [List.mem_singleton.1 h] at hy;exact b hy
  cases o with
  | inl q=>exact ⟨ho.1,fun h=>ho.2 (conv.2 h)⟩
  | inr q =>
   obtain ⟨a,b⟩:=ho;exact ⟨by rw [a,QD];rfl,conv.1 b⟩
theorem Qj1:∀(d:Nat),d<=120->∀(c:Cor),Qif c->∀sc:List Int,sc.length+d * 1000000<=900000000->Tot (Bc c sc d) fun b=>b=true↔CIs d sc c:=by
 intro d
 induction d with
 | zero=>intro _ c _ sc _;rw [Bc,if_pos (by rfl)];simp only [Yf,X6,if_true];exact ⟨_,rfl,fun h=>(by cases h),fun h=>(show False from h).elim⟩
 | succ d ih =>
  intro hd c hc sc hsc;obtain ⟨c1,c2,c3,c4⟩:=hc.out;rw [Bc,if_neg (by omega)];have bad:¬CIs (d+1) sc c->Tot (some false:Option Bool) fun b=>b=true↔CIs (d+1) sc c:=fun h=>⟨_,rfl,fun h2=>(by cases h2),fun h2=>absurd h2 h⟩;obtain ⟨b1,e1,h1⟩:=Qdk c.kind c.kids.length;rw [e1];simp only [Yf,X6];cases b1
  ·simp only [ZX,if_true,X6]
   exact bad fun h=>by have:=h1.2 h.1;cases this
  obtain ⟨b2,e2,h2⟩:=Tw c2;simp only [ZY,Qq,if_false,e2,X6];cases b2
  ·simp only [ZX,if_true,X6]
   exact bad fun h=>by have:=h2.2 h.2.1;cases this
  simp only [ZY,Qq,if_false]
  have h3:((if c.kind=1 then (GQ sc c.id>>=fun x34=>some (!x34)) else some false:Option Bool))=some (decide (c.kind=1/\c.id∉sc)):=by
   by_cases hk:c.kind=1
   ·rw [if_pos hk,Tz sc c.id (by unfold Sm;omega),X6];by_cases hm:c.id∈sc<;>simp [hk,hm]
   ·rw [if_neg hk];simp [hk]
  rw [h3];simp only [X6]
  by_cases h4:c.kind=1/\c.id∉sc
  ·rw [decide_eq_true h4];simp only [if_true];exact bad fun h=>h4.2 (h.2.2.1 h4.1)
  rw [decide_eq_false h4];simp only [Qq,if_false];rw [P8 _ _ _ (by omega)];obtain ⟨o,ho,hop⟩:=Qth c ((d+1:Nat):Int) c.ids 0 sc (by omega) (fun _ _=>trivial);rw [ho];simp only [X6]
  cases o with
  | inl q =>
   obtain ⟨rfl,hn⟩:=hop;exact bad fun h=>hn ⟨h.2.2.2.1,h.2.2.2.2.1⟩
  | inr q =>
   obtain ⟨rfl,hi1,hi2⟩:=hop
   simp only
   rw [P9 _ _ _ (by omega)]
   have loop:∀(r:List Cor) (i:Nat),(∀x∈r,x∈c.kids)->Tot (Iy c ((d+1:Nat):Int) (sc++c.ids) i r) fun o=>match o with | .inl b=>b=false/\¬∀k∈r,CIs d (sc++c.ids) k | .inr _=>∀k∈r,CIs d (sc++c.ids) k:=by
    intro r
    induction r with
    | nil=>intro i _;rw [Iy];exact ⟨_,rfl,by simp⟩
    | cons k r ihr =>
     intro i hr;rw [Iy];simp only [Yf,X6];rw [Y2 (by omega) (by omega),show ((d+1:Nat):Int) - 1=(d:Int) by omega];refine ZL (ih (by omega) k (c4 k (hr k (KD ..))) _ (by rw [List.length_append];omega)) fun b hb=>?_;cases b
     ·simp only [ZX,if_true];exact ⟨_,rfl,rfl,fun h=>by have:=hb.2 (h k (KD ..));cases this⟩
     ·simp only [ZY,Qq,if_false];refine (ihr (i+1) (fun x hx=>hr x (Kf _ hx))).mono fun o ho=>?_
      cases o with
      | inl q=>exact ⟨ho.1,fun h=>ho.2 fun x hx=>h x (Kf _ hx)⟩
      | inr q =>
       exact fun x hx=>by
        rcases Kj.1 hx with rfl | hx
        ·exact hb.1 rfl
        ·exact ho x hx
   obtain ⟨o,ho2,hop2⟩:=loop c.kids 0 (fun _ h=>h);rw [ho2];simp only [X6]
   cases o with
   | inl q=>obtain ⟨rfl,hn⟩:=hop2;exact bad fun h=>hn h.2.2.2.2.2
   | inr q =>
    refine ⟨_,rfl,fun _=>⟨h1.1 rfl,h2.1 rfl,fun hk=>Classical.byContradiction fun hm=>h4 ⟨hk,hm⟩,hi1,hi2,hop2⟩,fun _=>rfl⟩
theorem Qga:∀(c:Cor),Qif c->c.nodes<=1000000000->Ij c=some (c.nodes:Int):=by
 intro c
 induction c using Cor.ind with
 | h c ih =>
  intro hc hn;obtain ⟨c1,c2,c3,c4⟩:=hc.out;have hne:=Cor.Vo c
  have loop:∀(r:List Cor) (i:Nat) (m:Nat),(∀x∈r,x∈c.kids)->m+VF Cor.nodes r<=1000000000->Gc c (m:Int) i r=some ((m+VF Cor.nodes r:Nat):Int):=by
   intro r
   induction r with
   | nil=>intro i m _ _;rw [Gc];rfl
   | cons k r ihr =>
    intro i m hr hm;rw [VF] at hm;have hk:=hr k (KD ..);rw [Gc,Yf,X6,ih k hk (c4 k hk) (by omega),X6,Y2 (by omega) (by omega),show (m:Int)+(k.nodes:Int)=((m+k.nodes:Nat):Int) by omega,ihr _ _ (fun x hx=>hr x (Kf _ hx)) (by omega),VF,Nat.add_assoc]
  rw [Ij,MQ _ _ (by omega),show (1:Int)=((1:Nat):Int) from rfl,loop c.kids 0 1 (fun _ h=>h) (by omega),X6,hne];rfl
theorem PE {c:Cor} (hc:Qif c) (hn:c.nodes<=1000000000):Tot (Aq c) fun b=>b=true↔CV c:=by
 rw [Aq];refine ZL (Qj1 120 (by omega) c hc [] (by simp)) fun b hb=>?_;cases b
 ·simp only [Qq,if_false,Yf,X6];exact ⟨_,rfl,fun h=>(by cases h),fun h=>(by have:=hb.2 h.1;cases this)⟩
 ·simp only [if_true,Qga c hc hn,Yf,X6];refine ⟨_,rfl,?_⟩;simp only [decide_eq_true_iff];exact ⟨fun h=>⟨hb.1 rfl,by omega⟩,fun h=>by have:=h.2;omega⟩
theorem Qca:WM=some ⟨[⟨(Qk #[108,97,109,98,100,97]),[],1⟩,⟨(Qk #[105,102]),[],2⟩,⟨(Qk #[113,117,111,116,101]),[],3⟩,⟨(Qk #[108,101,116]),[],4⟩,⟨(Qk #[108,101,116,45,115,121,110,116,97,120]),[],5⟩],[],0,10,0⟩:=by
 rw [WM,AR,Yf,X6]
 have st:∀(i:Nat) (z:List Bnd) (hi:i < 6),z.length<=5->VA [(Qk #[]),(Qk #[108,97,109,98,100,97]),(Qk #[105,102]),(Qk #[113,117,111,116,101]),(Qk #[108,101,116]),(Qk #[108,101,116,45,115,121,110,116,97,120])] z (i:Int)=VA [(Qk #[]),(Qk #[108,97,109,98,100,97]),(Qk #[105,102]),(Qk #[113,117,111,116,101]),(Qk #[108,101,116]),(Qk #[108,101,116,45,115,121,110,116,97,120])] (z++[⟨[(Qk #[]),(Qk #[108,97,109,98,100,97]),(Qk #[105,102]),(Qk #[113,117,111,116,101]),(Qk #[108,101,116]),(Qk #[108,101,116,45,115,121,110,116,97,120])][i]'hi,[],(i:Int)⟩]) ((i+1:Nat):Int):=fun i z hi hz=>by
  conv=>lhs;rw [VA,if_pos (by simp;omega),Yi _ i (by simpa using hi),X6,Y1 (by simp;omega),X6,Wp (i:=i) (by omega)]
 rw [show (1:Int)=((1:Nat):Int) from rfl,st 1 [] (by omega) (by simp),st 2 _ (by omega) (by simp),st 3 _ (by omega) (by simp),st 4 _ (by omega) (by simp),st 5 _ (by omega) (by simp),VA,if_neg (by simp)];rfl
theorem Qhu {x:Xpn} (h:WM=some x):XI x:=by
 rw [Qca] at h
 injection h with h
 subst h;have nv:∀s:ByteArray,(1<=s.size/\s.size<=12/\∀j,j < s.size->NP s j)->NV s:=fun s h=>.inr (.inr h);have np:∀s:ByteArray,(∀j:Fin s.size,ltr (byt s j.val) (decide ((j.val:Int)=0))=true)->∀j,j < s.size->NP s j:=fun s h j hj=>h ⟨j,hj⟩;refine ⟨⟨by decide,fun b hb=>?_,?_⟩,by decide,by decide,by decide,by decide,by decide,by decide,fun m hm=>by cases hm⟩
 ·have sv:SV []:=⟨by decide,fun j hj=>by simp at hj⟩;simp only [Kj,List.not_mem_nil,or_false] at hb
  rcases hb with rfl | rfl | rfl | rfl | rfl
  ·exact ⟨nv _ ⟨by decide,by decide,np _ (by decide)⟩,sv,by decide,by decide⟩
  ·exact ⟨nv _ ⟨by decide,by decide,np _ (by decide)⟩,sv,by decide,by decide⟩
  ·exact ⟨nv _ ⟨by decide,by decide,np _ (by decide)⟩,sv,by decide,by decide⟩
  ·exact ⟨nv _ ⟨by decide,by decide,np _ (by decide)⟩,sv,by decide,by decide⟩
  ·exact ⟨nv _ ⟨by decide,by decide,np _ (by decide)⟩,sv,by decide,by decide⟩
 ·have h5:([(Qk #[108,97,109,98,100,97]),(Qk #[105,102]),(Qk #[113,117,111,116,101]),(Qk #[108,101,116]),(Qk #[108,101,116,45,115,121,110,116,97,120])]:List ByteArray).Pairwise (· ≠ ·):=by decide
  refine (List.pairwise_map (f:=Bnd.name).1 h5).imp ?_;exact fun h e=>h e.1
theorem Qhl {f:Fm} (hf:f.sz < 1000000000) (b:Int):Tot (DH f b) fun r=>(r.2.2=0->XI r.1/\Qes r.2.1/\CV r.2.1)/\(r.2.2≠0->r.1=⟨[],[],0,0,0⟩/\r.2.1=KU 0 0 (Qk #[]) 0 [] (Fm.mk 0 (Qk #[]) 0 [] []) []):=by
 rw [DH];refine ZL (Ay hf) fun b1 hb1=>?_;simp only [Yf,X6];split
 ·exact ⟨_,rfl,fun h=>by simp at h,fun _=>⟨rfl,rfl⟩⟩
 rename_i hc;rw [Q9,Q9,not_or,not_or] at hc;have hv:FV f:=hb1.1 (by have:=hc.1.1;simpa using this)
 have hb60:b<=60:=by have:=hc.2;simp at this;omega
 obtain ⟨x0,hx0⟩:∃x,WM=some x:=⟨_,Qca⟩;have hXI:=Qhu hx0;rw [hx0];simp only [X6]
 have ht:x0.steps=0:=by rw [Qca] at hx0;injection hx0 with hx0;rw [← hx0]
 obtain ⟨r,hr1,hr⟩:=Tv hb60 _ x0 f hXI hv (Nat.le_refl _);rw [hr1];simp only [X6]
 by_cases h0:r.2.2=0
 rotate_left
 ·rw [if_neg h0];exact ⟨_,rfl,fun h=>absurd h h0,fun _=>⟨rfl,rfl⟩⟩
 rw [if_pos h0];obtain ⟨a1,a2,a3,a4⟩:=hr h0
 have hn:r.2.1.nodes<=1000000000:=by have:=a1.t1;have:=hv.2;omega
 obtain ⟨b2,e2,hb2⟩:=PE a3.b hn;rw [e2];simp only [X6];cases b2
 ·simp only [ZX,if_true];exact ⟨_,rfl,fun h=>by simp at h,fun _=>⟨rfl,rfl⟩⟩
 ·simp only [ZY,Qq,if_false];exact ⟨_,rfl,fun _=>⟨a1,a3,hb2.1 rfl⟩,fun h=>absurd rfl h⟩
end Go.Proofs.SA
namespace Go.Proofs.SA
inductive Qo2 (m:Nat):Cor->Prop
 | mk {k i:Int} {s:ByteArray} {n:Int} {l:List Int} {d:Fm} {ks:List Cor} (hl:l.length<=m) (hd:d.sz<=1000/\d.strip=d) (hs:s.size<=1000) (hk:ks.length<=1000) (h:∀x∈ks,Qo2 m x):Qo2 m (.mk k i s n l d ks)
theorem Qo2.mono {m n:Nat} (hmn:m<=n) {c:Cor} (h:Qo2 m c):Qo2 n c:=by
 induction h with
 | mk hl hd hs hk _ ih=>exact .mk (by omega) hd hs hk ih
end Go.Proofs.SA
namespace Go.Proofs.Shadow
def zC:Cor:=KU 0 0 (Qk #[]) 0 [] (Fm.mk 0 (Qk #[]) 0 [] []) []
def zV:Val:=Val.mk 0 0 (Qk #[]) [] zC []
instance:Inhabited Cor:=⟨zC⟩
instance:Inhabited Val:=⟨zV⟩
mutual
def Val.nodes:Val->Nat
 | .mk _ _ _ l _ e=>1+Val.A7 l+Slt.A7 e
def Val.A7:List Val->Nat
 | []=>0
 | v :: l=>v.nodes+Val.A7 l
def Slt.nodes:Slt->Nat
 | .mk _ v=>v.nodes
def Slt.A7:List Slt->Nat
 | []=>0
 | s :: l=>s.nodes+Slt.A7 l
end
theorem Val.IY:∀l,Val.A7 l=VF Val.nodes l
 | []=>rfl
 | v :: l=>by rw [Val.A7,VF,Val.IY l]
theorem Slt.Vo (s:Slt):s.nodes=s.val.nodes:=by cases s;rw [Slt.nodes];rfl
theorem Slt.IY:∀l,Slt.A7 l=VF Slt.nodes l
 | []=>rfl
 | v :: l=>by rw [Slt.A7,VF,Slt.IY l]
theorem Val.Vo (v:Val):v.nodes=1+VF Val.nodes v.items+VF Slt.nodes v.env:=by cases v;rw [Val.nodes,Val.IY,Slt.IY];rfl
end Go.Proofs.Shadow
namespace Go.Proofs.SA
end Go.Proofs.SA
namespace Go.Proofs.SA
theorem Qf8 (f:Fm) (hf:f.sz < 1000000000):IC f=some f:=by
 have hz:=Fm.G3 f
 rw [IC,Y1 (by simp only [ZO];omega),X6,QS,EK _ _ _ (by omega),AY (Ji f f.sc) id (fun _ _=>rfl) f.kids [] 0 (fun x hx z i r hz=>by
  have:=Fm.J3 hx
  rw [Ji,Yf,X6,DM x (by omega),X6,Y1 (by simp;omega),X6];rfl) (by simp;omega),X6,Yf,QS,List.map_id]
 cases f;rfl
theorem Qgl:∀(f:Fm) {c:Rdr} {k:Nat},RdI c k->f.sz < 1000000000->k+f.nodes < 1099511627776->Tot (Ho f c) fun r=>r.1.sz<=f.sz+3 * f.nodes/\RdI r.2 (k+f.nodes):=by
 intro f
 induction f using Fm.ind with
 | h f ih =>
  intro c k h hf hk;have hz:=Fm.G3 f;have hn:=Fm.Vo f;rw [Ho,Qf8 f (by omega),X6]
  have loop:∀(s:List Int) (n i:Nat) (z:List Fm) {b:List Int} {p:Int} {k:Nat},i+n=f.kids.length->z.length=f.kids.length->z.drop i=f.kids.drop i->RdI ⟨b,p⟩ k->k+VF ZU (z.drop i) < 1099511627776->Tot (JR f f s z (i:Int) b p) fun r=>r.1.length=f.kids.length/\VF Fm.sz r.1<=VF Fm.sz z+3 * VF ZU (z.drop i)/\RdI ⟨r.2.1,r.2.2⟩ (k+VF ZU (z.drop i)):=by
   intro s n
   induction n with
   | zero =>
    intro i z b p k hi hl _ hR _;rw [JR,if_neg (by omega)];exact Tot.pure ⟨hl,by simp,hR.mono (by omega)⟩
   | succ n ihn =>
    intro i z b p k hi hl hd hR hk
    have hiz:i < z.length:=by omega
    have hik:i < f.kids.length:=by omega
    have he:z[i]=f.kids[i]:=by
     have:=congrArg (fun l:List Fm=>l[0]?) hd;simpa [hiz,hik] using this
    have hm:z[i]∈f.kids:=by rw [he];exact ZS _
    have hs:=Fm.J3 hm;have hds:=Qa8 hiz;have hdl:(z.drop i).length=z.length - i:=Xj;rw [JR,if_pos (by omega),Yi z i hiz,X6];rw [hds] at hk ⊢;refine ZL (ih _ hm hR (by omega) (by omega)) fun r hr=>?_;rw [X6]
    have hw:IntKind.i64.wrap ((i:Int)+1)=((i+1:Nat):Int):=by rw [Y2 (by omega) (by omega)];omega
    rw [hw]
    have e1:(z.set ((i:Int).toNat) r.1).drop (i+1)=z.drop (i+1):=by
     rw [Int.toNat_natCast,List.drop_set_of_lt (by omega)]
    have e2:(z.drop (i+1))=f.kids.drop (i+1):=by
     have:=congrArg (List.drop 1) hd;simpa [List.drop_drop,Nat.add_comm] using this
    have h3:=SR Fm.sz z (i:Int).toNat r.1 (by simpa using hiz);refine (ihn (i+1) _ (by omega) (by rw [List.length_set];exact hl) (by rw [e1,e2]) hr.2 (by rw [e1];omega)).mono fun q hq=>?_;rw [e1] at hq;obtain ⟨q1,q2,q3⟩:=hq;have:=hr.1;simp only [Int.toNat_natCast] at h3 q2;exact ⟨q1,by omega,q3.mono (by omega)⟩
  have tail:∀(s:List Int) {b:List Int} {p:Int},s.length<=f.sc.length+3->RdI ⟨b,p⟩ (k+1)->Tot (JR f f s f.kids 0 b p>>=fun (q:List Fm × List Int × Int)=>(pure (Fm.mk f.kind f.name f.num s q.1,Rdr.mk q.2.1 q.2.2):Option (Fm × Rdr))) fun r=>r.1.sz<=f.sz+3 * f.nodes/\RdI r.2 (k+f.nodes):=by
   intro s b p hs hR;refine ZL (loop s f.kids.length 0 f.kids (by omega) rfl rfl hR (by rw [KR];omega)) fun q hq=>?_;rw [KR] at hq;obtain ⟨q1,q2,q3⟩:=hq;refine Tot.pure ⟨?_,q3.mono (by omega)⟩
   simp only;rw [DI];omega
  by_cases h1:f.kind=1
  ·rw [if_pos h1];refine ZL (p:=fun (y:List Int × List Int × Int)=>y.1.length<=3/\RdI ⟨y.2.1,y.2.2⟩ (k+1)) ?_ fun y hy=>tail y.1 (by omega) hy.2;refine ZL (Jq h (by omega) (by omega)) fun q hq=>?_;refine ZL (Im hq.1 hq.2.1) fun s hs=>?_
   have h3:∀s∈([[],[1],[2],[1,2],[1,3],[1,2,3],[99]]:List (List Int)),s.length<=3:=by decide
   have:=h3 s hs;refine ZL (A5 (by simp only [ZO];omega)) fun z hz'=>?_;subst hz';exact Tot.pure ⟨by simpa using this,hq.2.2⟩
  ·rw [if_neg h1,Yf,X6];exact tail f.sc (by omega) (h.mono (by omega))
theorem Cc:∀f:Fm,f.sz<=1000000->Wg f=some f:=by
 intro f
 induction f using Fm.ind with
 | h f ih =>
  intro hf;have hz:=Fm.G3 f
  rw [Wg,HQ,Y1 (by simp only [ZO];omega),X6,QS,Lx _ _ _ (by omega),AY (GJ f f.sc) id (fun _ _=>rfl) f.kids [] 0 (fun x hx z i r hz=>by
   have:=Fm.J3 hx
   rw [GJ,Yf,X6,ih x hx (by omega),X6,Y1 (by simp;omega),X6];rfl) (by simp;omega),X6,Yf,QS,List.map_id]
  cases f;rfl
theorem FI (a b:List Int) (ha:a.length<=1000000):Jh a b=some (decide (a=b)):=by
 rw [Jh]
 by_cases hl:a.length=b.length
 rotate_left
 ·rw [if_neg (by omega),decide_eq_false (fun h=>hl (by rw [h]))];rfl
 rw [if_pos (by omega),Dc _ _ (by omega)]
 have key:∀(l:List Int) (i:Nat),a.drop i=l->V9 a b i l=some (if l=b.drop i then .inr () else .inl false):=by
  intro l
  induction l with
  | nil =>
   intro i h
   have:a.length<=i:=by have:=congrArg List.length h;simp at this;omega
   rw [if_pos (by rw [KP (by omega)])];rfl
  | cons x l ih =>
   intro i h
   have hi:i < a.length:=by
    rcases Nat.lt_or_ge i a.length with h2 | h2
    ·exact h2
    ·rw [KP h2] at h;cases h
   rw [ZJ hi] at h
   injection h with e1 e2
   have hib:i < b.length:=by omega
   rw [V9,Yf,X6,Yi _ _ hib,X6,ZJ hib]
   by_cases hx:x=b[i]
   ·rw [if_pos hx,ih _ e2];simp only [hx,List.cons.injEq,true_and]
   ·rw [if_neg hx,if_neg (fun h=>hx (by injection h))];rfl
 rw [key a 0 (KR ..),KR,X6]
 by_cases h:a=b
 ·rw [if_pos h,decide_eq_true h];rfl
 ·rw [if_neg h,decide_eq_false h];rfl
theorem Oz:∀f:Fm,f.sz<=1000000->∀g:Fm,Jz f g=some (decide (f=g)):=by
 intro f
 induction f using Fm.ind with
 | h f ih =>
  intro hf g;have hz:=Fm.G3 f
  have kids:f.kids.length=g.kids.length->Yx f.kids g.kids 0 f.kids=some (if f.kids=g.kids then .inr () else .inl false):=by
   intro hl
   have key:∀(l:List Fm) (i:Nat),f.kids.drop i=l->Yx f.kids g.kids i l=some (if l=g.kids.drop i then .inr () else .inl false):=by
    intro l
    induction l with
    | nil =>
     intro i h
     have:f.kids.length<=i:=by have:=congrArg List.length h;simp at this;omega
     rw [if_pos (by rw [KP (by omega)])];rfl
    | cons x l ihl =>
     intro i h
     have hi:i < f.kids.length:=by
      rcases Nat.lt_or_ge i f.kids.length with h2 | h2
      ·exact h2
      ·rw [KP h2] at h;cases h
     rw [ZJ hi] at h
     injection h with e1 e2
     have hib:i < g.kids.length:=by omega
     have hm:x∈f.kids:=e1▸ZS hi;have:=Fm.J3 hm;rw [Yx,Yf,X6,Yi _ _ hib,X6,ih x hm (by omega),X6,ZJ hib]
     by_cases hx:x=g.kids[i]
     ·rw [decide_eq_true hx];simp only [ZY,Qq,if_false];rw [ihl _ e2];simp only [hx,List.cons.injEq,true_and]
     ·rw [decide_eq_false hx];show some (Sum.inl false)=_;rw [if_neg (fun h=>hx (by injection h))]
   have:=key f.kids 0 (KR ..);rwa [KR] at this
  rw [Jz,Yf,X6,Yf,X6]
  by_cases h:f=g
  ·subst h;simp only [decide_true,Bool.and_self,if_true,FI _ _ (show f.sc.length<=1000000 by omega),X6,Yf];rw [YR,if_pos rfl,VW _ _ (by omega),kids rfl,if_pos rfl];rfl
  ·rw [decide_eq_false h]
   by_cases c1:(decide (f.kind=g.kind)&&decide (f.name=g.name)&&decide (f.num=g.num))=true
   rotate_left
   ·rw [if_neg c1];rfl
   rw [if_pos c1,FI _ _ (show f.sc.length<=1000000 by omega),X6,Yf,X6]
   by_cases c2:f.sc=g.sc
   rotate_left
   ·rw [decide_eq_false c2];rfl
   rw [decide_eq_true c2,if_pos rfl,YR]
   by_cases c3:f.kids.length=g.kids.length
   rotate_left
   ·rw [if_neg (by omega)];rfl
   rw [if_pos (by omega),VW _ _ (by omega),kids c3,if_neg]
   ·rfl
   ·intro c4;simp only [QG,decide_eq_true_eq] at c1;apply h;cases f;cases g;simp only [Fm.kind,Fm.name,Fm.num,Fm.sc,Fm.kids] at c1 c2 c4;rw [c1.1.1,c1.1.2,c1.2,c2,c4]
end Go.Proofs.SA
