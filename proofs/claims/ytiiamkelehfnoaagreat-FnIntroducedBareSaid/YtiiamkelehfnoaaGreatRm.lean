/- The reference's expansion from the beginning; core programs checked. -/
import Derived.Test.YtiiamkelehfnoaaGreatRj
import Derived.Test.YtiiamkelehfnoaaGreatFmA
set_option linter.unusedVariables false
set_option linter.unusedSimpArgs false
set_option maxRecDepth 100000
open Go Go.Proofs Go.Proofs.Shadow
open _root_.List renaming getElem_mem → ZR, mem_cons_of_mem → Kf, mem_cons_self → Kx, length_map → Xd, nil_append → QS, eq_nil_of_length_eq_zero → KB, mem_append → QR, drop_eq_getElem_cons → ZH, length_drop → Xk, drop_of_length_le → ZI, mem_singleton → ZS, mem_cons → Kj, length_append → QV, append_assoc → QD, drop_zero → Z5, map_cons → QH, mem_filter → Kg, mem_map → QX, take_of_length_le → Xo, length_filter_le → Xp, length_cons → ZO, mem_of_mem_drop → QA, mem_append_left → Kb, length_nil → ZN, pairwise_iff_getElem → Kn, mem_append_right → Ka, mem_iff_getElem → ZZ, mem_range → Kd, map_id → Xt
open Tot renaming bind → ZK
open _root_.Bool renaming false_eq_true → Qq, not_false → ZX, not_true → ZY, and_eq_true → QG, or_eq_true → Q9, and_self → Xq, not_eq_true' → ZW
open _root_.ByteArray renaming mk → Qk
open _root_.Int renaming le_refl → Xl
open Fm renaming nodes → ZU, mk → KS, sz → ZT
open Lib renaming compact → Xn, keeps → Xs
open _root_.Nat renaming le_refl → Qt, add_sub_cancel → Xr, lt_or_ge → Kz
open Cor renaming kids → Zo, mk → KT
namespace Go.Proofs.SA
def On (f:Fm):Prop:=f.kind=3/\∀k∈f.kids,k.kind=3/\k.kids.length=2
theorem A6 {f:Fm} (hf:f.sz<=100000):Tot (Gr f) fun r=>(On f/\r=(f.kids.map fun k=>k.kids.getD 0 default,f.kids.map fun k=>k.kids.getD 1 default,true))∨(¬On f/\r.2.2=false):=by
 have hz:=Fm.Jt f
 have loop:∀(r:List Fm) (i:Nat) (z w:List Fm),z.length+r.length<=200000->w.length+r.length<=200000->Tot (Js f z w i r) fun o=>((∀k∈r,k.kind=3/\k.kids.length=2)/\o=.inr (z++r.map fun k=>k.kids.getD 0 default,w++r.map fun k=>k.kids.getD 1 default))∨(¬(∀k∈r,k.kind=3/\k.kids.length=2)/\∃q,o=.inl q/\q.2.2=false):=by
  intro r
  induction r with
  | nil=>intro i z w _ _;rw [Js];exact ⟨_,rfl,.inl ⟨by simp,by simp⟩⟩
  | cons k r ih =>
   intro i z w hz hw;simp only [ZO] at hz hw;rw [Js];simp only [Yd,X7]
   by_cases h3:k.kind=3
   rotate_left
   ·rw [if_neg h3];simp only [X7,if_true];exact ⟨_,rfl,.inr ⟨fun h=>h3 (h k (Kx ..)).1,_,rfl,rfl⟩⟩
   rw [if_pos h3]
   by_cases h2:k.kids.length=2
   rotate_left
   ·simp only [X7,decide_eq_false (show ¬(k.kids.length:Int)=2 by omega),ZX,if_true];exact ⟨_,rfl,.inr ⟨fun h=>h2 (h k (Kx ..)).2,_,rfl,rfl⟩⟩
   have j0:0 < k.kids.length:=by omega
   have j1:1 < k.kids.length:=by omega
   simp only [X7,decide_eq_true (show (k.kids.length:Int)=2 by omega),ZY,Qq,if_false,show idx k.kids 0=some k.kids[0] from Yg _ 0 j0,show idx k.kids 1=some k.kids[1] from Yg _ 1 j1];rw [YK (by simp;omega),X7,YK (by simp;omega),X7];refine (ih (i+1) _ _ (by simp;omega) (by simp;omega)).mono fun o ho=>?_
   rcases ho with ⟨r1,r2⟩ | ⟨r1,r2⟩
   ·refine .inl ⟨fun x hx=>?_,?_⟩
    ·rcases Kj.1 hx with rfl | hx
     ·exact ⟨h3,h2⟩
     ·exact r1 x hx
    ·rw [r2,QH,QH,Jc j0,Jc j1,QD,QD];rfl
   ·exact .inr ⟨fun h=>r1 fun x hx=>h x (Kf _ hx),r2⟩
 rw [Gr,FL _ _ _ (by omega)];obtain ⟨o,ho,hop⟩:=loop f.kids 0 [] [] (by simp;omega) (by simp;omega);rw [ho,X7]
 rcases hop with ⟨r1,r2⟩ | ⟨r1,q,r2,r3⟩
 ·subst r2;simp only [QS]
  by_cases h3:f.kind=3
  ·exact ⟨_,rfl,.inl ⟨⟨h3,r1⟩,by rw [decide_eq_true h3]⟩⟩
  ·exact ⟨_,rfl,.inr ⟨fun h=>h3 h.1,decide_eq_false h3⟩⟩
 ·subst r2;exact ⟨_,rfl,.inr ⟨fun h=>r1 h.2,r3⟩⟩
theorem It {f:Fm} (hf:FV f) (hp:On f) {j:Nat} (hj:j < 2):∀x∈f.kids.map fun k=>k.kids.getD j default,FV x:=fun x hx=>by
 obtain ⟨k,hk,rfl⟩:=QX.1 hx;have h2:=(hp.2 k hk).2;simp only [Jc (show j < k.kids.length by omega)];exact (hf.kid hk).kid (ZR _)
theorem D8 {f:Fm} (hp:On f):Y7 ZU (f.kids.map fun k=>k.kids.getD 1 default)+1<=f.nodes:=by
 have:∀l:List Fm,(∀k∈l,k.kids.length=2)->Y7 ZU (l.map fun k=>k.kids.getD 1 default)<=Y7 ZU l:=by
  intro l
  induction l with
  | nil=>intro _;exact Qt _
  | cons k l ih =>
   intro h;have h1:=ih (fun x hx=>h x (Kf _ hx));have h2:=h k (Kx ..)
   have h3:1 < k.kids.length:=by omega
   have h4:=V7 (ZR h3);simp only [QH,Y7,Jc h3];omega
 have h:=this f.kids (fun k hk=>(hp.2 k hk).2);have:=Fm.YO f;omega
theorem FM {x:Xpn} (hx:XI x) {f:Fm} (hf:FV f) {id b:Int} (hb:b<=60) (hid:Oc x.macs id≥0):Tot (IN x f id b) fun r=>r.2.2=0->XI r.1/\r.1.steps=x.steps+1/\x.steps < b/\FV r.2.1:=by
 have ht0:=hx.t0;have hs0:=hx.s0;rw [IN];split
 ·exact ⟨_,rfl,fun h=>by simp at h⟩
 rename_i hst;rw [Qc8 hx,X7]
 by_cases h1:x.scope+1<=99
 rotate_left
 ·rw [decide_eq_false h1];simp only [ZX,if_true];exact ⟨_,rfl,fun h=>by simp at h⟩
 rw [decide_eq_true h1];simp only [ZY,Qq,if_false];have hml:=Sq hid;have hsm:=hx.sm;rw [YP (by omega) (by omega),OQ _ _ (by exact hsm),X7,BB (l:=x.macs) hid hml.1,X7,GO _ _ f (by have:=hf.sz;omega),X7]
 have hm:MS (x.macs.getD (Oc x.macs id).toNat default):=by
  have:(Oc x.macs id).toNat < x.macs.length:=by omega
  rw [Jc this];exact hx.mm _ (ZR this)
 have hcs:=H2 hf (x.scope+1) 1;refine ZK (Gv (by omega)) fun b1 hb1=>?_;cases b1
 ·simp only [ZX,if_true];exact ⟨_,rfl,fun h=>by simp at h⟩
 simp only [ZY,Qq,if_false];refine ZK (Ci hx.b.bs hm.1 hm.2.1 (by omega)).true fun r1 _=>?_;split
 ·exact ⟨_,rfl,fun h=>by simp at h⟩
 refine ZK (RZ hx.b.bs hm.1 hm.2.1 (by have:=hm.2.2;omega) (by omega)) fun r2 hr2=>?_
 cases hap:Qbg x.binds (x.macs.getD (Oc x.macs id).toNat default).lits (x.macs.getD (Oc x.macs id).toNat default).rules (chg (x.scope+1) 1 f) with
 | none =>
  rw [hap] at hr2;simp only at hr2;rw [hr2];simp only [ZX,if_true];exact ⟨_,rfl,fun h=>by simp at h⟩
 | some g =>
  rw [hap] at hr2;obtain ⟨rfl,hg⟩:=hr2;have hcg:=H2 hg (x.scope+1) 1;simp only [ZY,Qq,if_false];rw [GO _ _ g (by have:=hg.sz;omega),X7];obtain ⟨b2,e2,hb2⟩:=Gv (f:=chg (x.scope+1) 1 g) (by omega);rw [e2,X7];cases b2
  ·simp only [ZX,if_true];exact ⟨_,rfl,fun h=>by simp at h⟩
  ·simp only [ZY,Qq,if_false];refine ⟨_,rfl,fun _=>⟨⟨hx.b,hx.m,hx.i,by show 0<=x.scope+1;omega,h1,by show 0<=x.steps+1;omega,by show x.steps+1<=60;omega,hx.mm⟩,rfl,by omega,hb2.1 rfl⟩⟩
theorem TG:∀(d:Nat) (f:Fm),LN d f->LN d f.strip
 | 0,_,h=>h.elim
 | d+1,f,h=>by
  rw [Fm.LL];refine ⟨h.1,by show 0<=24;omega,fun k hk=>?_⟩;have hk':k∈f.kids.map Fm.strip:=hk;obtain ⟨y,hy,rfl⟩:=QX.1 hk';exact TG d y (h.2.2 y hy)
theorem SE (f:Fm):f.strip.nodes=f.nodes:=by
 induction f using Fm.ind with
 | h f ih =>
  rw [Fm.YO,Fm.YO f,Fm.LL]
  have:∀l:List Fm,(∀g∈l,g.strip.nodes=g.nodes)->Y7 ZU (l.map Fm.strip)=Y7 ZU l:=by
   intro l
   induction l with
   | nil=>intro _;rfl
   | cons g l ihl=>intro h;rw [QH,Y7,Y7,h g (Kx ..),ihl (fun x hx=>h x (Kf _ hx))]
  show 1+Y7 ZU (f.kids.map Fm.strip)=_;rw [this _ ih]
theorem Qq9:∀(l:List Fm) (h:l.length=3),l[0].nodes+l[1].nodes+l[2].nodes=Y7 ZU l
 | [a,b,c],_=>by simp [Y7];omega
theorem FZ {b:Int} (hb:b<=60):∀(N:Nat) (x:Xpn) (f:Fm),XI x->FV f->(60 - x.steps).toNat * 1000+f.nodes<=N->Tot (YV x f b) (P7 x f.nodes):=by
 intro N
 induction N with
 | zero=>intro x f _ _ h;have:=HH f;omega
 | succ N ih =>
  intro x f hx hf hN;have hnf:=Fm.YO f;have hkl:=hf.Ik;rw [YV]
  by_cases k2:f.kind=2
  ·rw [if_pos k2];exact ⟨_,rfl,fun _=>⟨hx,Xl _,PG _ _ _ e0 _ _ (by simp) _ (by simp) (by simp),by have:=HH f;simp [Cor.YO,Zo,Y7];omega⟩⟩
  rw [if_neg k2]
  by_cases k1:f.kind=1
  ·rw [if_pos k1];refine ZK (Uv hx hf) fun r hr=>⟨_,rfl,fun h=>?_⟩;obtain ⟨a1,a2,a3,a4⟩:=hr h;exact ⟨a1,a2,a3,by have:=HH f;show (r.2.1.nodes:Int)<=_+400 * (r.1.steps - x.steps);omega⟩
  rw [if_neg k1]
  by_cases hl0:(f.kids.length:Int)=0
  ·rw [if_pos hl0];exact ⟨_,rfl,.bad (by decide)⟩
  rw [if_neg hl0]
  have l0:0 < f.kids.length:=by omega
  rw [show idx f.kids 0=some f.kids[0] from Yg f.kids 0 l0,X7]
  have kid:∀(l:List Fm),(∀g∈l,FV g/\g.nodes < f.nodes)->l.length<=400->∀y,XI y->x.steps<=y.steps->Tot (G3 y l b) (PA y l):=fun l hl hll y hy hxy =>
   Qaz (s0:=x.steps) (fun z g hz hs hg=>ih z g hz (hl g hg).1 (by have:=(hl g hg).2;omega)) hll hy hxy
  have hkids:∀g∈f.kids,FV g/\g.nodes < f.nodes:=fun g hg=>⟨hf.kid hg,by have:=V7 hg;omega⟩
  have call:Tot ((G3 x f.kids b>>=fun x80=>pure (x80.1,KT 6 0 (Qk #[]) 0 [] (KS 0 (Qk #[]) 0 [] []) x80.2.1,x80.2.2)):Option (Xpn × Cor × Int)) (P7 x f.nodes):=by
   refine ZK (kid f.kids hkids (by omega) x hx (Xl _)) fun r hr=>⟨_,rfl,fun h=>?_⟩;obtain ⟨a1,a2,a3,a4,a5⟩:=hr h;refine ⟨a1,a2,PG _ _ _ e0 _ _ (by simp) _ (by omega) a4,?_⟩;show ((KT _ _ _ _ _ _ r.2.1).nodes:Int)<=_+400 * (r.1.steps - x.steps);rw [Cor.YO];simp only [Zo];omega
  by_cases k3:f.kids[0].kind=1
  rotate_left
  ·rw [if_neg k3];exact call
  have hf0:=hf.kid (ZR l0);rw [if_pos k3,X7,EC x _ hx.b.bs hf0.smc hx.sm,X7]
  by_cases m4:(Cm x f.kids[0]).1=4
  ·rw [if_pos m4];exact ⟨_,rfl,.bad (by decide)⟩
  rw [if_neg m4]
  by_cases m1:(Cm x f.kids[0]).1=1
  rotate_left
  ·rw [if_neg m1]
   by_cases m2:(Cm x f.kids[0]).1=2
   rotate_left
   ·rw [if_neg m2];exact call
   rw [if_pos m2,BJ];obtain ⟨r,hr1,hr⟩:=FM hx hf hb (Mq m2);rw [hr1,X7]
   by_cases h0:r.2.2=0
   rotate_left
   ·rw [if_neg h0];exact ⟨_,rfl,.bad h0⟩
   obtain ⟨a1,a2,a3,a4⟩:=hr h0;rw [if_pos h0];have ht0:=hx.t0;refine ZK (ZK (ih r.1 r.2.1 a1 a4 (by have:=a4.2;have:=a1.t1;rw [a2] at *;omega)) fun q hq=>⟨_,rfl,hq⟩) fun q hq=>⟨_,rfl,fun h=>?_⟩;obtain ⟨c1,c2,c3,c4⟩:=hq h;have hn4:=a4.2;refine ⟨c1,by show x.steps<=q.1.steps;omega,c3,?_⟩;show (q.2.1.nodes:Int)<=_+400 * (q.1.steps - x.steps);omega
  rw [if_pos m1]
  have hform:Tot (Jr x f (Cm x f.kids[0]).2 b) (P7 x f.nodes):=by
   generalize (Cm x f.kids[0]).2=id;rw [Jr];simp only [Yd,X7];split
   ·rename_i hq;rw [QG,decide_eq_true_iff,decide_eq_true_iff] at hq
    have l1:1 < f.kids.length:=by omega
    have hv:=hf.kid (ZR l1);rw [show idx f.kids 1=some f.kids[1] from Yg f.kids 1 l1,X7,F4 _ (by have:=hv.sz;omega),X7];refine ⟨_,rfl,fun _=>⟨hx,Xl _,.mk e0 (by simp) (TG _ _ hv.ln) (by rw [SE];exact hv.2) (by simp) (by simp),?_⟩⟩;have:=HH f;simp [Cor.YO,Zo,Y7];omega
   split
   ·rename_i hq;rw [QG,decide_eq_true_iff,decide_eq_true_iff] at hq
    have hsub:Fc f.kids 1 (f.kids.length:Int)=some (f.kids.drop 1):=by
     unfold Fc;rw [if_pos ⟨by omega,by omega,by omega⟩]
     congr 1
     rw [Xo];rfl;rw [Xk];omega
    rw [hsub,X7];refine ZK (kid (f.kids.drop 1) (fun g hg=>hkids g (QA hg)) (by rw [Xk];omega) x hx (Xl _)) fun r hr=>⟨_,rfl,fun h=>?_⟩;obtain ⟨a1,a2,a3,a4,a5⟩:=hr h;refine ⟨a1,a2,PG _ _ _ e0 _ _ (by simp) _ (by rw [a3,Xk];omega) a4,?_⟩;show ((KT _ _ _ _ _ _ r.2.1).nodes:Int)<=_+400 * (r.1.steps - x.steps);rw [Cor.YO];simp only [Zo]
    have:Y7 ZU (f.kids.drop 1)<=Y7 ZU f.kids:=by
     conv=>rhs;rw [← List.take_append_drop 1 f.kids,Bo]
     omega
    omega
   have body:∀(hb2:2 < f.kids.length) (names:List Fm),(∀n∈names,FV n)->names.length<=400->∀y,XI y->x.steps<=y.steps->Tot (Hy y names f.kids[2] b) (P7 y (f.kids[2].nodes+1)):=fun hb2 names hn hnl y hy hxy=>by
    have hv:=hf.kid (ZR hb2);have hk:=V7 (ZR hb2);exact Mg (s0:=x.steps) hv (fun z g hz hs hg hgn=>ih z g hz hg (by omega)) hn hnl hy hxy
   have lam:Tot ((if (decide (id=1)&&decide ((f.kids.length:Int)=3))=true then (idx f.kids 1>>=fun x72=>some (decide (x72.kind=3))) else some false:Option Bool)) fun c=>c=true->id=1/\f.kids.length=3:=by
    split
    ·rename_i hq;rw [QG,decide_eq_true_iff,decide_eq_true_iff] at hq
     have l1:1 < f.kids.length:=by omega
     rw [show idx f.kids 1=some f.kids[1] from Yg f.kids 1 l1,X7];exact ⟨_,rfl,fun _=>⟨hq.1,by omega⟩⟩
    ·exact ⟨_,rfl,fun h=>by cases h⟩
   refine ZK lam fun c hc=>?_
   by_cases hct:c=true
   ·rw [if_pos hct];obtain ⟨_,h3⟩:=hc hct
    have l1:1 < f.kids.length:=by omega
    have l2:2 < f.kids.length:=by omega
    rw [show idx f.kids 1=some f.kids[1] from Yg f.kids 1 l1,X7,show idx f.kids 2=some f.kids[2] from Yg f.kids 2 l2,X7];have hv1:=hf.kid (ZR l1);have hk2:=V7 (ZR l2);refine ZK (body l2 f.kids[1].kids (fun n hn=>hv1.kid hn) (by have:=hv1.Ik;omega) x hx (Xl _)) fun r hr=>⟨_,rfl,fun h=>?_⟩;obtain ⟨a1,a2,a3,a4⟩:=hr h;exact ⟨a1,a2,a3,by show (r.2.1.nodes:Int)<=_+400 * (r.1.steps - x.steps);omega⟩
   rw [if_neg hct];split
   ·exact ⟨_,rfl,.bad (by decide)⟩
   rename_i hq
   have h3:f.kids.length=3:=by
    rw [Q9,not_or] at hq;have:=hq.2;simp only [ZW,decide_eq_false_iff_not,Classical.not_not] at this;omega
   have l1:1 < f.kids.length:=by omega
   have l2:2 < f.kids.length:=by omega
   have hv1:=hf.kid (ZR l1);have hv2:=hf.kid (ZR l2);have hk1:=V7 (ZR l1);have hk2:=V7 (ZR l2);have hsum:=Qq9 f.kids h3;have hp0:=HH f.kids[0];rw [show idx f.kids 1=some f.kids[1] from Yg f.kids 1 l1,X7];refine ZK (A6 (by have:=hv1.sz;omega)) fun r hr=>?_
   rcases hr with ⟨hpo,rfl⟩ | ⟨_,hpf⟩
   rotate_left
   ·rw [hpf];simp only [ZX,if_true];exact ⟨_,rfl,.bad (by decide)⟩
   simp only [ZY,Qq,if_false,show idx f.kids 2=some f.kids[2] from Yg f.kids 2 l2,X7];have hn:=It hv1 hpo (j:=0) (by omega);have hvs:=It hv1 hpo (j:=1) (by omega);have hpn:=D8 hpo;have hkl1:=hv1.Ik;split
   ·refine ZK (CZ (s0:=x.steps) hv2 (fun z g hz hs hg hgn=>ih z g hz hg (by omega)) hn hvs (by simp) (by rw [Xd];omega) hx (Xl _)) fun r hr=>⟨_,rfl,fun h=>?_⟩;obtain ⟨a1,a2,a3,a4⟩:=hr h;exact ⟨a1,a2,a3,by show (r.2.1.nodes:Int)<=_+400 * (r.1.steps - x.steps);omega⟩
   ·refine ZK (kid _ (fun g hg=>⟨hvs g hg,by have:=Ax ZU _ g hg;omega⟩) (by rw [Xd];omega) x hx (Xl _)) fun r hr=>?_
    by_cases h0:r.2.2=0
    rotate_left
    ·rw [if_neg h0];exact ⟨_,rfl,.bad h0⟩
    rw [if_pos h0];obtain ⟨a1,a2,a3,a4,a5⟩:=hr h0;refine ZK (body l2 _ hn (by rw [Xd];omega) r.1 a1 a2) fun q hq=>?_;rw [Xd] at a3;rw [YK (by simp;omega),X7];refine ⟨_,rfl,fun h=>?_⟩;obtain ⟨c1,c2,c3,c4⟩:=hq h;refine ⟨c1,by show x.steps<=q.1.steps;omega,PG _ _ _ e0 _ _ (by simp) _ (by simp;omega) (fun c hc=>?_),?_⟩
    ·rcases Kj.1 hc with rfl | hc
     ·exact c3
     ·exact a4 c hc
    ·show ((KT _ _ _ _ _ _ ([q.2.1]++r.2.1)).nodes:Int)<=_+400 * (q.1.steps - x.steps);rw [Cor.YO];simp only [Zo,List.cons_append,QS,Y7];omega
  exact ZK hform fun r hr=>⟨_,rfl,hr⟩
end Go.Proofs.SA
namespace Go.Proofs.SA
inductive Qdv:Cor->Prop
 | mk {k i:Int} {s:ByteArray} {n:Int} {l:List Int} {d:Fm} {ks:List Cor} (hl:l.length<=1000000) (hd:d.sz<=1000000) (hk:ks.length<=1000000) (h:∀x∈ks,Qdv x):Qdv (.mk k i s n l d ks)
theorem Qdv.out {c:Cor} (h:Qdv c):c.ids.length<=1000000/\c.data.sz<=1000000/\c.kids.length<=1000000/\∀x∈c.kids,Qdv x:=by
 cases h;exact ⟨by assumption,by assumption,by assumption,by assumption⟩
theorem SS.b {c:Cor} (h:SS c):Qdv c:=by
 induction h with
 | mk hs hl hd hn hk _ ih=>exact .mk (by omega) (by have:=LN.sz _ _ hd;omega) (by omega) ih
def arity (k:Int) (n:Nat):Prop:=((k=1∨k=2∨k=3∨k=4)/\n=0)∨(k=5/\n=1)∨(k=6/\1<=n)∨(k=7/\n=3)
def zF:Fm:=KS 0 (Qk #[]) 0 [] []
def OH (c:Cor):Prop:=((c.kind=1->1<=c.id/\c.id<=999)/\(c.kind≠1->c.id=0))/\((c.kind=2->NV c.name)/\(c.kind≠2->c.name=Qk #[]))/\((c.kind=3->0<=c.num/\c.num<=999)/\(c.kind≠3->c.num=0))/\((c.kind=4->FV c.data/\c.data.strip=c.data)/\(c.kind≠4->c.data=zF))/\(c.kind≠5->c.ids=[])
def CIs:Nat->List Int->Cor->Prop
 | 0,_,_=>False
 | d+1,sc,c=>arity c.kind c.kids.length/\OH c/\(c.kind=1->c.id∈sc)/\(∀i∈c.ids,1<=i/\i<=999/\i∉sc)/\c.ids.Nodup/\∀k∈c.kids,CIs d (sc++c.ids) k
def CV (c:Cor):Prop:=CIs 120 [] c/\c.nodes<=600
theorem Ur (k:Int) (n:Nat):Tot (Bi k n) fun b=>b=true↔arity k n:=by
 rw [Bi]
 by_cases h1:k=1
 ·subst h1;simp [Yd,X7,arity,Tot]
 by_cases h2:k=2
 ·subst h2;simp [Yd,X7,arity,Tot]
 by_cases h3:k=3
 ·subst h3;simp [Yd,X7,arity,Tot]
 by_cases h4:k=4
 ·subst h4;simp [Yd,X7,arity,Tot]
 by_cases h5:k=5
 ·subst h5;simp [Yd,X7,arity,Tot];omega
 by_cases h6:k=6
 ·subst h6;simp [Yd,X7,arity,Tot];omega
 by_cases h7:k=7
 ·subst h7;simp [Yd,X7,arity,Tot];omega
 simp [Yd,X7,arity,Tot,h1,h2,h3,h4,h5,h6,h7]
theorem PW {c:Cor} (hd:c.data.sz<=1000000):Tot (Ie c) fun b=>b=true↔OH c:=by
 have hs:Vf c.data (KS 0 (Qk #[]) 0 [] [])=some (decide (c.data=zF)):=Dy _ hd _;obtain ⟨bn,en,hn⟩:=Sr c.name;obtain ⟨bf,ef,hf⟩:=Gv (f:=c.data) (by omega);have est:Wj c.data=some c.data.strip:=F4 c.data (by omega);have esm:Vf c.data.strip c.data=some (decide (c.data.strip=c.data)):=Dy _ (by have:=Fm.Qgf c.data;omega) _
 have hi:decide ((c.ids.length:Int)=0)=decide (c.ids=[]):=by
  by_cases h:c.ids=[]
  ·rw [h];rfl
  ·rw [decide_eq_false h,decide_eq_false];intro h2;exact h (KB (by omega))
 have key:∀(k1 k2 k3 k4 k5:Bool) (iL iG iZ nZ mL mG mZ dS dZ iN:Bool),k1=decide (c.kind=1)->k2=decide (c.kind=2)->k3=decide (c.kind=3)->k4=decide (c.kind=4)->k5=decide (c.kind=5) ->
   iL=decide (c.id < 1)->iG=decide (c.id > 999)->iZ=decide (c.id=0)->nZ=decide (c.name=Qk #[])->mL=decide (c.num < 0)->mG=decide (c.num > 999)->mZ=decide (c.num=0)->dS=decide (c.data.strip=c.data)->dZ=decide (c.data=zF)->iN=decide (c.ids=[]) ->
   Ie c=some (!(if k1 then iL||iG else !iZ)&&!(if k2 then !bn else !nZ)&&!(if k3 then mL||mG else !mZ)&&!(if k4 then !bf||!dS else !dZ)&&(k5||iN)):=by
  intro k1 k2 k3 k4 k5 iL iG iZ nZ mL mG mZ dS dZ iN e1 e2 e3 e4 e5 f1 f2 f3 f4 f5 f6 f7 f8 f9 f10
  have c1:(c.kind=1)=(k1=true):=by rw [e1];simp
  have c2:(c.kind=2)=(k2=true):=by rw [e2];simp
  have c3:(c.kind=3)=(k3=true):=by rw [e3];simp
  have c4:(c.kind=4)=(k4=true):=by rw [e4];simp
  rw [Ie];simp only [← e1,← e2,← e3,← e4,← e5,← f1,← f2,← f3,← f4,← f5,← f6,← f7,c1,c2,c3,c4,en,ef,est,esm,hs,hi,← f8,← f9,← f10,Yd,X7];cases k1<;>cases k2<;>cases k3<;>cases k4<;>simp only [X7,Yd,Qq,if_false,if_true,ZY,ZX,Bool.true_and,Bool.false_and,esm,← f8]
  all_goals (cases iL<;>cases iG<;>cases iZ<;>cases nZ<;>first | rfl | (cases bn<;>cases mL<;>cases mG<;>cases mZ<;>first | rfl | (cases bf<;>cases dS<;>cases dZ<;>first | rfl | (cases k5<;>cases iN<;>rfl))))
 refine ⟨_,key _ _ _ _ _ _ _ _ _ _ _ _ _ _ _ rfl rfl rfl rfl rfl rfl rfl rfl rfl rfl rfl rfl rfl rfl rfl,?_⟩;unfold OH;simp only [QG,ZW,Q9,decide_eq_true_eq];rw [← hn,← hf]
 have q1:(if decide (c.kind=1)=true then (decide (c.id < 1)||decide (c.id > 999)) else !decide (c.id=0))=false↔((c.kind=1->1<=c.id/\c.id<=999)/\(c.kind≠1->c.id=0)):=by
  by_cases h:c.kind=1
  ·simp [h]
  ·simp [h]
 have q2:(if decide (c.kind=2)=true then !bn else !decide (c.name=Qk #[]))=false↔((c.kind=2->bn=true)/\(c.kind≠2->c.name=Qk #[])):=by
  by_cases h:c.kind=2
  ·simp [h]
  ·simp [h]
 have q3:(if decide (c.kind=3)=true then (decide (c.num < 0)||decide (c.num > 999)) else !decide (c.num=0))=false↔((c.kind=3->0<=c.num/\c.num<=999)/\(c.kind≠3->c.num=0)):=by
  by_cases h:c.kind=3
  ·simp [h]
  ·simp [h]
 have q4:(if decide (c.kind=4)=true then (!bf||!decide (c.data.strip=c.data)) else !decide (c.data=zF))=false↔((c.kind=4->bf=true/\c.data.strip=c.data)/\(c.kind≠4->c.data=zF)):=by
  by_cases h:c.kind=4
  ·simp [h]
  ·simp [h]
 have q5:(c.kind=5∨c.ids=[])↔(c.kind≠5->c.ids=[]):=by
  by_cases h:c.kind=5
  ·simp [h]
  ·simp [h]
 simp only [decide_eq_true_eq] at q1 q2 q3 q4;rw [q1,q2,q3,q4,q5,and_assoc,and_assoc,and_assoc]
theorem Qp3 (c:Cor) (d:Int):∀(r:List Int) (i:Nat) (sc:List Int),sc.length+r.length<=1000000000->(∀x∈r,True)->Tot (Hj c d sc i r) fun o=>match o with
  | .inl q=>q=false/\¬((∀x∈r,1<=x/\x<=999/\x∉sc)/\r.Nodup)
  | .inr q=>q=sc++r/\(∀x∈r,1<=x/\x<=999/\x∉sc)/\r.Nodup:=by
 intro r
 induction r with
 | nil=>intro i sc _ _;rw [Hj];exact ⟨_,rfl,by simp,by simp,by simp⟩
 | cons x r ih =>
  intro i sc hl _;simp only [ZO] at hl;rw [Hj];simp only [Yd,X7]
  have bad:¬(1<=x/\x<=999/\x∉sc)->Tot (some (Sum.inl false):Option (Bool ⊕ List Int)) fun o=>match o with
   | .inl q=>q=false/\¬((∀y∈x :: r,1<=y/\y<=999/\y∉sc)/\(x :: r).Nodup)
   | .inr q=>q=sc++(x :: r)/\(∀y∈x :: r,1<=y/\y<=999/\y∉sc)/\(x :: r).Nodup:=fun h=>⟨_,rfl,rfl,fun h2=>h (h2.1 x (Kx ..))⟩
  by_cases h1:x < 1
  ·simp only [h1,if_true,X7];exact bad (by omega)
  by_cases h2:x > 999
  ·simp only [h1,h2,if_false,if_true,X7,decide_true];exact bad (by omega)
  simp only [h1,h2,if_false,X7,decide_false,Qq,Mi sc x (show Sm sc.length by unfold Sm;omega)]
  by_cases h3:x∈sc
  ·simp only [h3,decide_true,if_true];exact bad (fun h=>h.2.2 h3)
  simp only [h3,decide_false,Qq,if_false];rw [YK (by simp;omega)];simp only [X7,QS];rw [YK (by simp;omega)];simp only [X7];refine (ih (i+1) (sc++[x]) (by simp;omega) (fun _ _=>trivial)).mono fun o ho=>?_
  have conv:((∀y∈r,1<=y/\y<=999/\y∉sc++[x])/\r.Nodup)↔((∀y∈x :: r,1<=y/\y<=999/\y∉sc)/\(x :: r).Nodup):=by
   rw [List.nodup_cons];constructor
   ·rintro ⟨a,b⟩;refine ⟨fun y hy=>?_,fun hx=>?_,b⟩
    ·rcases Kj.1 hy with rfl | hy
     ·exact ⟨by omega,by omega,h3⟩
     ·have:=a y hy;exact ⟨this.1,this.2.1,fun h=>this.2.2 (Kb _ h)⟩
    ·exact (a x hx).2.2 (by simp)
   ·rintro ⟨a,b,e⟩;refine ⟨fun y hy=>?_,e⟩;have:=a y (Kf _ hy);refine ⟨this.1,this.2.1,fun h=>?_⟩
    rcases QR.1 h with h | h
    ·exact this.2.2 h
    ·rw [ZS.1 h] at hy;exact b hy
  cases o with
  | inl q=>exact ⟨ho.1,fun h=>ho.2 (conv.2 h)⟩
  | inr q =>
   obtain ⟨a,b⟩:=ho;exact ⟨by rw [a,QD];rfl,conv.1 b⟩
theorem Qfo:∀(d:Nat),d<=120->∀(c:Cor),Qdv c->∀sc:List Int,sc.length+d * 1000000<=900000000->Tot (Af c sc d) fun b=>b=true↔CIs d sc c:=by
 intro d
 induction d with
 | zero=>intro _ c _ sc _;rw [Af,if_pos (by rfl)];simp only [Yd,X7,if_true];exact ⟨_,rfl,fun h=>(by cases h),fun h=>(show False from h).elim⟩
 | succ d ih =>
  intro hd c hc sc hsc;obtain ⟨c1,c2,c3,c4⟩:=hc.out;rw [Af,if_neg (by omega)];have bad:¬CIs (d+1) sc c->Tot (some false:Option Bool) fun b=>b=true↔CIs (d+1) sc c:=fun h=>⟨_,rfl,fun h2=>(by cases h2),fun h2=>absurd h2 h⟩;obtain ⟨b1,e1,h1⟩:=Ur c.kind c.kids.length;rw [e1];simp only [Yd,X7];cases b1
  ·simp only [ZX,if_true,X7]
   exact bad fun h=>by have:=h1.2 h.1;cases this
  obtain ⟨b2,e2,h2⟩:=PW c2;simp only [ZY,Qq,if_false,e2,X7];cases b2
  ·simp only [ZX,if_true,X7]
   exact bad fun h=>by have:=h2.2 h.2.1;cases this
  simp only [ZY,Qq,if_false]
  have h3:((if c.kind=1 then (WS sc c.id>>=fun x34=>some (!x34)) else some false:Option Bool))=some (decide (c.kind=1/\c.id∉sc)):=by
   by_cases hk:c.kind=1
   ·rw [if_pos hk,Mi sc c.id (by unfold Sm;omega),X7];by_cases hm:c.id∈sc<;>simp [hk,hm]
   ·rw [if_neg hk];simp [hk]
  rw [h3];simp only [X7]
  by_cases h4:c.kind=1/\c.id∉sc
  ·rw [decide_eq_true h4];simp only [if_true];exact bad fun h=>h4.2 (h.2.2.1 h4.1)
  rw [decide_eq_false h4];simp only [Qq,if_false];rw [NS _ _ _ (by omega)];obtain ⟨o,ho,hop⟩:=Qp3 c ((d+1:Nat):Int) c.ids 0 sc (by omega) (fun _ _=>trivial);rw [ho];simp only [X7]
  cases o with
  | inl q =>
   obtain ⟨rfl,hn⟩:=hop;exact bad fun h=>hn ⟨h.2.2.2.1,h.2.2.2.2.1⟩
  | inr q =>
   obtain ⟨rfl,hi1,hi2⟩:=hop
   simp only
   rw [NT _ _ _ (by omega)]
   have loop:∀(r:List Cor) (i:Nat),(∀x∈r,x∈c.kids)->Tot (Hk c ((d+1:Nat):Int) (sc++c.ids) i r) fun o=>match o with | .inl b=>b=false/\¬∀k∈r,CIs d (sc++c.ids) k | .inr _=>∀k∈r,CIs d (sc++c.ids) k:=by
    intro r
    induction r with
    | nil=>intro i _;rw [Hk];exact ⟨_,rfl,by simp⟩
    | cons k r ihr =>
     intro i hr;rw [Hk];simp only [Yd,X7];rw [YP (by omega) (by omega),show ((d+1:Nat):Int) - 1=(d:Int) by omega];refine ZK (ih (by omega) k (c4 k (hr k (Kx ..))) _ (by rw [QV];omega)) fun b hb=>?_;cases b
     ·simp only [ZX,if_true];exact ⟨_,rfl,rfl,fun h=>by have:=hb.2 (h k (Kx ..));cases this⟩
     ·simp only [ZY,Qq,if_false];refine (ihr (i+1) (fun x hx=>hr x (Kf _ hx))).mono fun o ho=>?_
      cases o with
      | inl q=>exact ⟨ho.1,fun h=>ho.2 fun x hx=>h x (Kf _ hx)⟩
      | inr q =>
       exact fun x hx=>by
        rcases Kj.1 hx with rfl | hx
        ·exact hb.1 rfl
        ·exact ho x hx
   obtain ⟨o,ho2,hop2⟩:=loop c.kids 0 (fun _ h=>h);rw [ho2];simp only [X7]
   cases o with
   | inl q=>obtain ⟨rfl,hn⟩:=hop2;exact bad fun h=>hn h.2.2.2.2.2
   | inr q =>
    refine ⟨_,rfl,fun _=>⟨h1.1 rfl,h2.1 rfl,fun hk=>Classical.byContradiction fun hm=>h4 ⟨hk,hm⟩,hi1,hi2,hop2⟩,fun _=>rfl⟩
theorem Qbx:∀(c:Cor),Qdv c->c.nodes<=1000000000->G7 c=some (c.nodes:Int):=by
 intro c
 induction c using Cor.ind with
 | h c ih =>
  intro hc hn;obtain ⟨c1,c2,c3,c4⟩:=hc.out;have hne:=Cor.YO c
  have loop:∀(r:List Cor) (i:Nat) (m:Nat),(∀x∈r,x∈c.kids)->m+Y7 Cor.nodes r<=1000000000->Jq c (m:Int) i r=some ((m+Y7 Cor.nodes r:Nat):Int):=by
   intro r
   induction r with
   | nil=>intro i m _ _;rw [Jq];rfl
   | cons k r ihr =>
    intro i m hr hm;rw [Y7] at hm;have hk:=hr k (Kx ..);rw [Jq,Yd,X7,ih k hk (c4 k hk) (by omega),X7,YP (by omega) (by omega),show (m:Int)+(k.nodes:Int)=((m+k.nodes:Nat):Int) by omega,ihr _ _ (fun x hx=>hr x (Kf _ hx)) (by omega),Y7,Nat.add_assoc]
  rw [G7,FJ _ _ (by omega),show (1:Int)=((1:Nat):Int) from rfl,loop c.kids 0 1 (fun _ h=>h) (by omega),X7,hne];rfl
theorem Ns {c:Cor} (hc:Qdv c) (hn:c.nodes<=1000000000):Tot (Iu c) fun b=>b=true↔CV c:=by
 rw [Iu];refine ZK (Qfo 120 (by omega) c hc [] (by simp)) fun b hb=>?_;cases b
 ·simp only [Qq,if_false,Yd,X7];exact ⟨_,rfl,fun h=>(by cases h),fun h=>(by have:=hb.2 h.1;cases this)⟩
 ·simp only [if_true,Qbx c hc hn,Yd,X7];refine ⟨_,rfl,?_⟩;simp only [decide_eq_true_iff];exact ⟨fun h=>⟨hb.1 rfl,by omega⟩,fun h=>by have:=h.2;omega⟩
theorem RC:Vg=some ⟨[⟨(Qk #[108,97,109,98,100,97]),[],1⟩,⟨(Qk #[105,102]),[],2⟩,⟨(Qk #[113,117,111,116,101]),[],3⟩,⟨(Qk #[108,101,116]),[],4⟩,⟨(Qk #[108,101,116,45,115,121,110,116,97,120]),[],5⟩],[],0,10,0⟩:=by
 rw [Vg,BK,Yd,X7]
 have st:∀(i:Nat) (z:List Bnd) (hi:i < 6),z.length<=5->Y9 [(Qk #[]),(Qk #[108,97,109,98,100,97]),(Qk #[105,102]),(Qk #[113,117,111,116,101]),(Qk #[108,101,116]),(Qk #[108,101,116,45,115,121,110,116,97,120])] z (i:Int)=Y9 [(Qk #[]),(Qk #[108,97,109,98,100,97]),(Qk #[105,102]),(Qk #[113,117,111,116,101]),(Qk #[108,101,116]),(Qk #[108,101,116,45,115,121,110,116,97,120])] (z++[⟨[(Qk #[]),(Qk #[108,97,109,98,100,97]),(Qk #[105,102]),(Qk #[113,117,111,116,101]),(Qk #[108,101,116]),(Qk #[108,101,116,45,115,121,110,116,97,120])][i]'hi,[],(i:Int)⟩]) ((i+1:Nat):Int):=fun i z hi hz=>by
  conv=>lhs;rw [Y9,if_pos (by simp;omega),Yg _ i (by simpa using hi),X7,YK (by simp;omega),X7,WC (i:=i) (by omega)]
 rw [show (1:Int)=((1:Nat):Int) from rfl,st 1 [] (by omega) (by simp),st 2 _ (by omega) (by simp),st 3 _ (by omega) (by simp),st 4 _ (by omega) (by simp),st 5 _ (by omega) (by simp),Y9,if_neg (by simp)];rfl
theorem Qdi {x:Xpn} (h:Vg=some x):XI x:=by
 rw [RC] at h
 injection h with h
 subst h;have nv:∀s:ByteArray,(1<=s.size/\s.size<=12/\∀j,j < s.size->NP s j)->NV s:=fun s h=>.inr (.inr h);have np:∀s:ByteArray,(∀j:Fin s.size,ltr (byt s j.val) (decide ((j.val:Int)=0))=true)->∀j,j < s.size->NP s j:=fun s h j hj=>h ⟨j,hj⟩;refine ⟨⟨by decide,fun b hb=>?_,?_⟩,by decide,by decide,by decide,by decide,by decide,by decide,fun m hm=>by cases hm⟩
 ·have sv:SV []:=⟨by decide,fun j hj=>by simp at hj⟩;simp only [Kj,List.not_mem_nil,or_false] at hb
  rcases hb with rfl | rfl | rfl | rfl | rfl
  ·exact ⟨nv _ ⟨by decide,by decide,np _ (by decide)⟩,sv,by decide,by decide⟩
  ·exact ⟨nv _ ⟨by decide,by decide,np _ (by decide)⟩,sv,by decide,by decide⟩
  ·exact ⟨nv _ ⟨by decide,by decide,np _ (by decide)⟩,sv,by decide,by decide⟩
  ·exact ⟨nv _ ⟨by decide,by decide,np _ (by decide)⟩,sv,by decide,by decide⟩
  ·exact ⟨nv _ ⟨by decide,by decide,np _ (by decide)⟩,sv,by decide,by decide⟩
 ·have h5:([(Qk #[108,97,109,98,100,97]),(Qk #[105,102]),(Qk #[113,117,111,116,101]),(Qk #[108,101,116]),(Qk #[108,101,116,45,115,121,110,116,97,120])]:List ByteArray).Pairwise (· ≠ ·):=by decide
  refine (List.pairwise_map (f:=Bnd.name).1 h5).imp ?_;exact fun h e=>h e.1
theorem Qc6 {f:Fm} (hf:f.sz < 1000000000) (b:Int):Tot (Ce f b) fun r=>(r.2.2=0->XI r.1/\SS r.2.1/\CV r.2.1)/\(r.2.2≠0->r.1=⟨[],[],0,0,0⟩/\r.2.1=KT 0 0 (Qk #[]) 0 [] (KS 0 (Qk #[]) 0 [] []) []):=by
 rw [Ce];refine ZK (Gv hf) fun b1 hb1=>?_;simp only [Yd,X7];split
 ·exact ⟨_,rfl,fun h=>by simp at h,fun _=>⟨rfl,rfl⟩⟩
 rename_i hc;rw [Q9,Q9,not_or,not_or] at hc;have hv:FV f:=hb1.1 (by have:=hc.1.1;simpa using this)
 have hb60:b<=60:=by have:=hc.2;simp at this;omega
 obtain ⟨x0,hx0⟩:∃x,Vg=some x:=⟨_,RC⟩;have hXI:=Qdi hx0;rw [hx0];simp only [X7]
 have ht:x0.steps=0:=by rw [RC] at hx0;injection hx0 with hx0;rw [← hx0]
 obtain ⟨r,hr1,hr⟩:=FZ hb60 _ x0 f hXI hv (Qt _);rw [hr1];simp only [X7]
 by_cases h0:r.2.2=0
 rotate_left
 ·rw [if_neg h0];exact ⟨_,rfl,fun h=>absurd h h0,fun _=>⟨rfl,rfl⟩⟩
 rw [if_pos h0];obtain ⟨a1,a2,a3,a4⟩:=hr h0
 have hn:r.2.1.nodes<=1000000000:=by have:=a1.t1;have:=hv.2;omega
 obtain ⟨b2,e2,hb2⟩:=Ns a3.b hn;rw [e2];simp only [X7];cases b2
 ·simp only [ZX,if_true];exact ⟨_,rfl,fun h=>by simp at h,fun _=>⟨rfl,rfl⟩⟩
 ·simp only [ZY,Qq,if_false];exact ⟨_,rfl,fun _=>⟨a1,a3,hb2.1 rfl⟩,fun h=>absurd rfl h⟩
theorem Qey:∀c:Cor,Qdv c->HV c=some c:=by
 intro c
 induction c using Cor.ind with
 | h c ih =>
  intro hc;obtain ⟨c1,c2,c3,c4⟩:=hc.out
  rw [HV,YK (by simp;omega),X7,QS,A1 _ (by omega),X7,Lx _ _ _ _ (by omega),H0 (G2 c c.ids c.data) id (fun _ _=>rfl) c.kids [] 0 (fun x hx z i r hz=>by
   rw [G2,Yd,X7,ih x hx (c4 x hx),X7,YK (by simp;omega),X7];rfl) (by simp;omega)]
  simp only [X7,Yd,QS,Xt,Cor.eta]
theorem Me {f:Fm} (hf:f.sz < 1000000000) (b:Int):Tot (HJ f b) fun r=>(r.2=0->SS r.1/\CV r.1)/\SS r.1:=by
 rw [HJ];refine ZK (Qc6 hf b) fun r hr=>?_
 have hs:SS r.2.1:=by
  by_cases h:r.2.2=0
  ·exact (hr.1 h).2.1
  ·rw [(hr.2 h).2];exact PG _ _ _ e0 _ _ (by simp) _ (by simp) (by simp)
 rw [Qey _ hs.b,X7];exact ⟨_,rfl,fun h=>⟨hs,(hr.1 h).2.2⟩,hs⟩
end Go.Proofs.SA
namespace Go.Proofs.SA
inductive Qk9 (m:Nat):Cor->Prop
 | mk {k i:Int} {s:ByteArray} {n:Int} {l:List Int} {d:Fm} {ks:List Cor} (hl:l.length<=m) (hd:d.sz<=1000/\d.strip=d) (hs:s.size<=1000) (hk:ks.length<=1000) (h:∀x∈ks,Qk9 m x):Qk9 m (.mk k i s n l d ks)
theorem Qk9.mono {m n:Nat} (hmn:m<=n) {c:Cor} (h:Qk9 m c):Qk9 n c:=by
 induction h with
 | mk hl hd hs hk _ ih=>exact .mk (by omega) hd hs hk ih
end Go.Proofs.SA
namespace Go.Proofs.Shadow
def zC:Cor:=KT 0 0 (Qk #[]) 0 [] (KS 0 (Qk #[]) 0 [] []) []
def zV:Val:=Val.mk 0 0 (Qk #[]) [] zC []
instance:Inhabited Cor:=⟨zC⟩
instance:Inhabited Val:=⟨zV⟩
mutual
def Val.nodes:Val->Nat
 | .mk _ _ _ l _ e=>1+Val.Ab l+Slt.Ab e
def Val.Ab:List Val->Nat
 | []=>0
 | v :: l=>v.nodes+Val.Ab l
def Slt.nodes:Slt->Nat
 | .mk _ v=>v.nodes
def Slt.Ab:List Slt->Nat
 | []=>0
 | s :: l=>s.nodes+Slt.Ab l
end
theorem Val.HG:∀l,Val.Ab l=Y7 Val.nodes l
 | []=>rfl
 | v :: l=>by rw [Val.Ab,Y7,Val.HG l]
theorem Slt.YO (s:Slt):s.nodes=s.val.nodes:=by cases s;rw [Slt.nodes];rfl
theorem Slt.HG:∀l,Slt.Ab l=Y7 Slt.nodes l
 | []=>rfl
 | v :: l=>by rw [Slt.Ab,Y7,Slt.HG l]
theorem Val.YO (v:Val):v.nodes=1+Y7 Val.nodes v.items+Y7 Slt.nodes v.env:=by cases v;rw [Val.nodes,Val.HG,Slt.HG];rfl
end Go.Proofs.Shadow
namespace Go.Proofs.SA
end Go.Proofs.SA
namespace Go.Proofs.SA
theorem Cn:∀f:Fm,f.nodes<=f.sz+1:=by
 intro f
 induction f using Fm.ind with
 | h f ih =>
  rw [Fm.YO,Fm.Jt]
  have key:∀l:List Fm,(∀g∈l,g.nodes<=g.sz+1)->Y7 ZU l<=Y7 ZT l+l.length:=by
   intro l
   induction l with
   | nil=>intro _;exact Qt _
   | cons x l ihl =>
    intro h;have h1:=h x (Kx ..);have h2:=ihl (fun y hy=>h y (Kf _ hy));simp only [Y7,ZO];omega
  have:=key f.kids ih;omega
theorem Qbv (f:Fm) (hf:f.sz < 1000000000):Ho f=some f:=by
 have hz:=Fm.Jt f
 rw [Ho,YK (by simp only [ZN];omega),X7,QS,De _ _ _ (by omega),H0 (WH f f.sc) id (fun _ _=>rfl) f.kids [] 0 (fun x hx z i r hz=>by
  have:=Fm.WR hx
  rw [WH,Yd,X7,A1 x (by omega),X7,YK (by simp;omega),X7];rfl) (by simp;omega),X7,Yd,QS,Xt]
 cases f;rfl
theorem Qb8:∀(f:Fm) {c:Rdr} {k:Nat},RdI c k->f.sz < 1000000000->k+f.nodes < 1099511627776->Tot (HP f c) fun r=>r.1.sz<=f.sz+3 * f.nodes/\RdI r.2 (k+f.nodes):=by
 intro f
 induction f using Fm.ind with
 | h f ih =>
  intro c k h hf hk;have hz:=Fm.Jt f;have hn:=Fm.YO f;rw [HP,Qbv f (by omega),X7]
  have loop:∀(s:List Int) (n i:Nat) (z:List Fm) {b:List Int} {p:Int} {k:Nat},i+n=f.kids.length->z.length=f.kids.length->z.drop i=f.kids.drop i->RdI ⟨b,p⟩ k->k+Y7 ZU (z.drop i) < 1099511627776->Tot (Jd f f s z (i:Int) b p) fun r=>r.1.length=f.kids.length/\Y7 ZT r.1<=Y7 ZT z+3 * Y7 ZU (z.drop i)/\RdI ⟨r.2.1,r.2.2⟩ (k+Y7 ZU (z.drop i)):=by
   intro s n
   induction n with
   | zero =>
    intro i z b p k hi hl _ hR _;rw [Jd,if_neg (by omega)];exact Tot.pure ⟨hl,by simp,hR.mono (by omega)⟩
   | succ n ihn =>
    intro i z b p k hi hl hd hR hk
    have hiz:i < z.length:=by omega
    have hik:i < f.kids.length:=by omega
    have he:z[i]=f.kids[i]:=by
     have:=congrArg (fun l:List Fm=>l[0]?) hd;simpa [hiz,hik] using this
    have hm:z[i]∈f.kids:=by rw [he];exact ZR _
    have hs:=Fm.WR hm;have hds:=S4 hiz;have hdl:(z.drop i).length=z.length - i:=Xk;rw [Jd,if_pos (by omega),Yg z i hiz,X7];rw [hds] at hk ⊢;refine ZK (ih _ hm hR (by omega) (by omega)) fun r hr=>?_;rw [X7]
    have hw:IntKind.i64.wrap ((i:Int)+1)=((i+1:Nat):Int):=by rw [YP (by omega) (by omega)];omega
    rw [hw]
    have e1:(z.set ((i:Int).toNat) r.1).drop (i+1)=z.drop (i+1):=by
     rw [Int.toNat_natCast,List.drop_set_of_lt (by omega)]
    have e2:(z.drop (i+1))=f.kids.drop (i+1):=by
     have:=congrArg (List.drop 1) hd;simpa [List.drop_drop,Nat.add_comm] using this
    have h3:=Pf ZT z (i:Int).toNat r.1 (by simpa using hiz);refine (ihn (i+1) _ (by omega) (by rw [List.length_set];exact hl) (by rw [e1,e2]) hr.2 (by rw [e1];omega)).mono fun q hq=>?_;rw [e1] at hq;obtain ⟨q1,q2,q3⟩:=hq;have:=hr.1;simp only [Int.toNat_natCast] at h3 q2;exact ⟨q1,by omega,q3.mono (by omega)⟩
  have tail:∀(s:List Int) {b:List Int} {p:Int},s.length<=f.sc.length+3->RdI ⟨b,p⟩ (k+1)->Tot (Jd f f s f.kids 0 b p>>=fun (q:List Fm × List Int × Int)=>(pure (KS f.kind f.name f.num s q.1,Rdr.mk q.2.1 q.2.2):Option (Fm × Rdr))) fun r=>r.1.sz<=f.sz+3 * f.nodes/\RdI r.2 (k+f.nodes):=by
   intro s b p hs hR;refine ZK (loop s f.kids.length 0 f.kids (by omega) rfl rfl hR (by rw [Z5];omega)) fun q hq=>?_;rw [Z5] at hq;obtain ⟨q1,q2,q3⟩:=hq;refine Tot.pure ⟨?_,q3.mono (by omega)⟩
   simp only;rw [CP];omega
  by_cases h1:f.kind=1
  ·rw [if_pos h1];refine ZK (p:=fun (y:List Int × List Int × Int)=>y.1.length<=3/\RdI ⟨y.2.1,y.2.2⟩ (k+1)) ?_ fun y hy=>tail y.1 (by omega) hy.2;refine ZK (WW h (by omega) (by omega)) fun q hq=>?_;refine ZK (IC hq.1 hq.2.1) fun s hs=>?_
   have h3:∀s∈([[],[1],[2],[1,2],[1,3],[1,2,3],[99]]:List (List Int)),s.length<=3:=by decide
   have:=h3 s hs;refine ZK (BD (by simp only [ZN];omega)) fun z hz'=>?_;subst hz';exact Tot.pure ⟨by simpa using this,hq.2.2⟩
  ·rw [if_neg h1,Yd,X7];exact tail f.sc (by omega) (h.mono (by omega))
theorem CW:∀f:Fm,f.sz<=1000000->Jy f=some f:=by
 intro f
 induction f using Fm.ind with
 | h f ih =>
  intro hf;have hz:=Fm.Jt f
  rw [Jy,GM,YK (by simp only [ZN];omega),X7,QS,Ez _ _ _ (by omega),H0 (JT f f.sc) id (fun _ _=>rfl) f.kids [] 0 (fun x hx z i r hz=>by
   have:=Fm.WR hx
   rw [JT,Yd,X7,ih x hx (by omega),X7,YK (by simp;omega),X7];rfl) (by simp;omega),X7,Yd,QS,Xt]
  cases f;rfl
theorem Mk (a b:List Int) (ha:a.length<=1000000):Ju a b=some (decide (a=b)):=by
 rw [Ju]
 by_cases hl:a.length=b.length
 rotate_left
 ·rw [if_neg (by omega),decide_eq_false (fun h=>hl (by rw [h]))];rfl
 rw [if_pos (by omega),BT _ _ (by omega)]
 have key:∀(l:List Int) (i:Nat),a.drop i=l->Vz a b i l=some (if l=b.drop i then .inr () else .inl false):=by
  intro l
  induction l with
  | nil =>
   intro i h
   have:a.length<=i:=by have:=congrArg List.length h;simp at this;omega
   rw [if_pos (by rw [ZI (by omega)])];rfl
  | cons x l ih =>
   intro i h
   have hi:i < a.length:=by
    rcases Kz i a.length with h2 | h2
    ·exact h2
    ·rw [ZI h2] at h;cases h
   rw [ZH hi] at h
   injection h with e1 e2
   have hib:i < b.length:=by omega
   rw [Vz,Yd,X7,Yg _ _ hib,X7,ZH hib]
   by_cases hx:x=b[i]
   ·rw [if_pos hx,ih _ e2];simp only [hx,List.cons.injEq,true_and]
   ·rw [if_neg hx,if_neg (fun h=>hx (by injection h))];rfl
 rw [key a 0 (Z5 ..),Z5,X7]
 by_cases h:a=b
 ·rw [if_pos h,decide_eq_true h];rfl
 ·rw [if_neg h,decide_eq_false h];rfl
theorem Ml:∀f:Fm,f.sz<=1000000->∀g:Fm,Wq f g=some (decide (f=g)):=by
 intro f
 induction f using Fm.ind with
 | h f ih =>
  intro hf g;have hz:=Fm.Jt f
  have kids:f.kids.length=g.kids.length->Yp f.kids g.kids 0 f.kids=some (if f.kids=g.kids then .inr () else .inl false):=by
   intro hl
   have key:∀(l:List Fm) (i:Nat),f.kids.drop i=l->Yp f.kids g.kids i l=some (if l=g.kids.drop i then .inr () else .inl false):=by
    intro l
    induction l with
    | nil =>
     intro i h
     have:f.kids.length<=i:=by have:=congrArg List.length h;simp at this;omega
     rw [if_pos (by rw [ZI (by omega)])];rfl
    | cons x l ihl =>
     intro i h
     have hi:i < f.kids.length:=by
      rcases Kz i f.kids.length with h2 | h2
      ·exact h2
      ·rw [ZI h2] at h;cases h
     rw [ZH hi] at h
     injection h with e1 e2
     have hib:i < g.kids.length:=by omega
     have hm:x∈f.kids:=e1▸ZR hi;have:=Fm.WR hm;rw [Yp,Yd,X7,Yg _ _ hib,X7,ih x hm (by omega),X7,ZH hib]
     by_cases hx:x=g.kids[i]
     ·rw [decide_eq_true hx];simp only [ZY,Qq,if_false];rw [ihl _ e2];simp only [hx,List.cons.injEq,true_and]
     ·rw [decide_eq_false hx];show some (Sum.inl false)=_;rw [if_neg (fun h=>hx (by injection h))]
   have:=key f.kids 0 (Z5 ..);rwa [Z5] at this
  rw [Wq,Yd,X7,Yd,X7]
  by_cases h:f=g
  ·subst h;simp only [decide_true,Xq,if_true,Mk _ _ (show f.sc.length<=1000000 by omega),X7,Yd];rw [YE,if_pos rfl,Vq _ _ (by omega),kids rfl,if_pos rfl];rfl
  ·rw [decide_eq_false h]
   by_cases c1:(decide (f.kind=g.kind)&&decide (f.name=g.name)&&decide (f.num=g.num))=true
   rotate_left
   ·rw [if_neg c1];rfl
   rw [if_pos c1,Mk _ _ (show f.sc.length<=1000000 by omega),X7,Yd,X7]
   by_cases c2:f.sc=g.sc
   rotate_left
   ·rw [decide_eq_false c2];rfl
   rw [decide_eq_true c2,if_pos rfl,YE]
   by_cases c3:f.kids.length=g.kids.length
   rotate_left
   ·rw [if_neg (by omega)];rfl
   rw [if_pos (by omega),Vq _ _ (by omega),kids c3,if_neg]
   ·rfl
   ·intro c4;simp only [QG,decide_eq_true_eq] at c1;apply h;cases f;cases g;simp only [Fm.kind,Fm.name,Fm.num,Fm.sc,Fm.kids] at c1 c2 c4;rw [c1.1.1,c1.1.2,c1.2,c2,c4]
end Go.Proofs.SA
namespace Go.Proofs.SA
theorem Qji (l:List Int) (x:Int) (h:l.length<=1000000000):Wt l x=some (decide (x∈l)):=by
 have key:∀(r:List Int) (i:Nat),(x∈r->∃k:Nat,Vm l x i r=some (.inl (k:Int)))/\(x∉r->Vm l x i r=some (.inr ())):=by
  intro r
  induction r with
  | nil=>intro i;exact ⟨fun h=>(by cases h),fun _=>rfl⟩
  | cons y r ih =>
   intro i;rw [Vm,Yd,X7]
   by_cases hxy:x=y
   ·rw [if_pos hxy];exact ⟨fun _=>⟨i,rfl⟩,fun h=>absurd (hxy▸Kx ..) h⟩
   ·rw [if_neg hxy];obtain ⟨h1,h2⟩:=ih (i+1);exact ⟨fun h=>h1 (by rcases Kj.1 h with h | h;exact absurd h hxy;exact h),fun h=>h2 fun h3=>h (Kf _ h3)⟩
 obtain ⟨h1,h2⟩:=key l 0;rw [Wt,GN,BU _ _ (by omega)]
 by_cases hx:x∈l
 ·obtain ⟨k,hk⟩:=h1 hx;rw [hk,X7,decide_eq_true hx];simp only [Yd,X7];rw [decide_eq_true (by omega)]
 ·rw [h2 hx,X7,decide_eq_false hx];rfl
noncomputable instance:DecidableEq Cor:=fun a b=>Classical.propDecidable (a=b)
theorem Qhj (a b c:Int):Jm a b c=some (decide (b<=a/\a<=c)):=by
 rw [Jm,Yd,X7,Yd,Bool.decide_and]
end Go.Proofs.SA
namespace Go.Proofs.SA
def SOk (s:Stp):Prop:=FV s.use/\FV s.res
def HE (x:Xpn) (out:List Stp):Prop:=(∀s∈out,SOk s)/\(out.length:Int)<=x.steps
def P10 (x:Xpn) (r:Xpn × List Stp × Int):Prop:=(∀s∈r.2.1,SOk s)/\r.2.1.length<=60/\(r.2.2=0->XI r.1/\x.steps<=r.1.steps/\(r.2.1.length:Int)<=r.1.steps)
theorem HE.le {x:Xpn} (hx:XI x) {out:List Stp} (h:HE x out):out.length<=60:=by have:=h.2;have:=hx.t1;omega
theorem HE.to {x y:Xpn} {out:List Stp} (h:HE x out) (hs:x.steps<=y.steps):HE y out:=⟨h.1,by have:=h.2;omega⟩
theorem P10.bad {x y:Xpn} (hx:XI x) {out:List Stp} (h:HE x out) {e:Int} (he:e≠0):P10 x (y,out,e):=⟨h.1,h.le hx,fun h0=>absurd h0 he⟩
theorem P10.to {x y:Xpn} {r:Xpn × List Stp × Int} (h:P10 y r) (hs:x.steps<=y.steps):P10 x r:=⟨h.1,h.2.1,fun h0=>by obtain ⟨a,b,c⟩:=h.2.2 h0;exact ⟨a,by omega,c⟩⟩
theorem P10.of7 {x y:Xpn} (hx:XI x) {out:List Stp} (h:HE x out) {n:Nat} {c:Cor} {e:Int} (h7:P7 x n (y,c,e)):P10 x (y,out,e):=⟨h.1,h.le hx,fun h0=>by
 obtain ⟨a,b,_⟩:=h7 h0
 exact ⟨a,b,Int.le_trans h.2 b⟩⟩
theorem Qiy {b:Int} (hb:b<=60) (x:Xpn) (f:Fm) (hx:XI x) (hf:FV f):Tot (YV x f b) (P7 x f.nodes):=FZ hb _ x f hx hf (Qt _)
theorem Qfw:FV (KS 2 (Qk #[]) 0 [] []):=⟨.inr (.inl ⟨rfl,rfl,by decide,by decide,rfl,rfl⟩),by rw [Fm.YO];decide⟩
theorem Qe6 (e:Int):∃r,An e=some r/\r≠0:=by
 rw [An];split
 ·exact ⟨_,rfl,by decide⟩
 ·rename_i h;exact ⟨_,rfl,h⟩
theorem Tk {b:Int} (hb:b<=60) {x:Xpn} {f:Fm} (hx:XI x) (hf:FV f) (hk:f.kind=3) (l0:0 < f.kids.length) (h0:f.kids[0].kind=1) (hm:(Cm x f.kids[0]).1=1):Tot (Jr x f (Cm x f.kids[0]).2 b) (P7 x f.nodes):=by
 obtain ⟨r,hr,hp⟩:=Qiy hb x f hx hf;have hf0:=hf.kid (ZR l0);rw [YV,if_neg (by omega),if_neg (by omega),if_neg (by omega),show idx f.kids 0=some f.kids[0] from Yg f.kids 0 l0,X7,if_pos h0,X7,EC x _ hx.b.bs hf0.smc hx.sm,X7,if_neg (by rw [hm];decide),if_pos hm] at hr
 cases hq:Jr x f (Cm x f.kids[0]).2 b with
 | none=>rw [hq] at hr;cases hr
 | some q =>
  rw [hq,X7] at hr
  injection hr with hr
  subst hr;exact ⟨q,rfl,hp⟩
theorem Ot {b s0:Int} {l:List Fm} (hE:∀x f out,XI x->s0<=x.steps->f∈l->HE x out->Tot (Yy x f b out) (P10 x)) (hl:l.length<=400) {x:Xpn} (hx:XI x) (hs:s0<=x.steps) {out:List Stp} (ho:HE x out):Tot (Vb x l b out) (P10 x):=by
 have loop:∀(r:List Fm) (i:Nat) (y:Xpn) (z:List Stp),(∀f∈r,f∈l)->XI y->s0<=y.steps->x.steps<=y.steps->HE y z ->
   Tot (Wu l b y.binds y.macs y.scope y.id y.steps z i r) fun o=>match o with
    | .inl q=>q.2.2≠0/\(∀s∈q.2.1,SOk s)/\q.2.1.length<=60
    | .inr (q0,q1,q2,q3,q4,z')=>XI ⟨q0,q1,q2,q3,q4⟩/\x.steps<=q4/\HE ⟨q0,q1,q2,q3,q4⟩ z':=by
  intro r
  induction r with
  | nil=>intro i y z _ hy _ hxy hz;rw [Wu];exact ⟨_,rfl,hy,hxy,hz⟩
  | cons f r ih =>
   intro i y z hr hy hs hxy hz;rw [Wu,Yd,X7];refine ZK (hE ⟨y.binds,y.macs,y.scope,y.id,y.steps⟩ f z hy hs (hr f (Kx ..)) hz) fun q hq=>?_
   by_cases h0:q.2.2=0
   ·rw [if_pos h0];obtain ⟨c1,c2,c3⟩:=hq.2.2 h0;have c2':y.steps<=q.1.steps:=c2;exact ih (i+1) q.1 q.2.1 (fun g hg=>hr g (Kf _ hg)) c1 (by omega) (by omega) ⟨hq.1,c3⟩
   ·rw [if_neg h0];exact ⟨_,rfl,h0,hq.1,hq.2.1⟩
 rw [Vb,Ec _ _ _ _ _ _ _ _ (by omega)];obtain ⟨o,ho1,hop⟩:=loop l 0 x out (fun _ h=>h) hx hs (Xl _) ho;rw [ho1,X7]
 cases o with
 | inl q=>exact ⟨_,rfl,hop.2.1,hop.2.2,fun h=>absurd h hop.1⟩
 | inr q =>
  obtain ⟨q0,q1,q2,q3,q4,z⟩:=q;obtain ⟨a1,a2,a3⟩:=hop;exact ⟨_,rfl,a3.1,a3.le a1,fun _=>⟨a1,a2,a3.2⟩⟩
theorem Qfc {b:Int} (hb:b<=60) {body:Fm} (hf:FV body) {x:Xpn} (hE:∀y g out,XI y->x.steps<=y.steps->FV g->g.nodes=body.nodes->HE y out->Tot (Yy y g b out) (P10 y)) {names:List Fm} (hn:∀n∈names,FV n) (hl:names.length<=400) (hx:XI x) {out:List Stp} (ho:HE x out):Tot (GC x names body b out) (P10 x):=by
 rw [GC];refine ZK (Mg (s0:=x.steps) Qfw (fun y g hy _ hg _=>Qiy hb y g hy hg) hn hl hx (Xl _)) fun r hr=>?_
 by_cases h0:r.2.2=0
 rotate_left
 ·rw [if_neg h0];exact ⟨_,rfl,.bad hx ho h0⟩
 rw [if_pos h0];obtain ⟨a1,a2,_⟩:=hr h0;have hcs:=H2 hf r.1.scope 0;rw [GO _ _ body (by have:=hf.sz;omega),X7];refine ZK (Gv (by omega)) fun b1 hb1=>?_;cases b1
 ·simp only [ZX,if_true];exact ⟨_,rfl,.bad hx ho (by decide)⟩
 simp only [ZY,Qq,if_false];exact ZK (hE r.1 _ out a1 a2 (hb1.1 rfl) (AA _ _ _) (ho.to a2)) fun q hq=>⟨_,rfl,hq.to a2⟩
theorem Qdj {b:Int} (hb:b<=60) {x:Xpn} (hx:XI x) {f:Fm} (hf:FV f) {id:Int} (hid:Oc x.macs id≥0) (hE:∀y g out,XI y->y.steps=x.steps+1->x.steps < 60->FV g->HE y out->Tot (Yy y g b out) (P10 y)) {out:List Stp} (ho:HE x out):Tot (HM x f id b out) (P10 x):=by
 have hml:=Sq hid
 have hm:MS (x.macs.getD (Oc x.macs id).toNat default):=by
  have:(Oc x.macs id).toNat < x.macs.length:=by omega
  rw [Jc this];exact hx.mm _ (ZR this)
 rw [HM,OQ _ _ hx.sm,X7,BB (l:=x.macs) hid hml.1,X7];refine ZK (FM hx hf hb hid) fun r hr=>?_
 by_cases h0:r.2.2=0
 rotate_left
 ·rw [if_neg h0];exact ⟨_,rfl,.bad hx ho h0⟩
 rw [if_pos h0];obtain ⟨a1,a2,a3,a4⟩:=hr h0;have hcs:=H2 hf r.1.scope 1;rw [GO _ _ f (by have:=hf.sz;omega),X7];refine ZK (Ci hx.b.bs hm.1 hm.2.1 (by omega)).true fun r1 _=>?_;have hol:=ho.le hx;rw [YK (by simp;omega),X7];refine ZK (hE r.1 r.2.1 _ a1 a2 (by omega) a4 ⟨fun s hs=>?_,by have:=ho.2;simp;omega⟩) fun q hq=>⟨_,rfl,hq.to (by omega)⟩
 rcases QR.1 hs with hs | hs
 ·exact ho.1 s hs
 ·rw [ZS.1 hs];exact ⟨hf,a4⟩
theorem Qck {b:Int} (hb:b<=60) {x:Xpn} (hx:XI x) {f:Fm} (hf:FV f) {id:Int} (hF:Tot (Jr x f id b) (P7 x f.nodes)) (hA:∀y g out,XI y->x.steps<=y.steps->FV g->g.nodes < f.nodes->HE y out->Tot (Yy y g b out) (P10 y)) (hB:∀y g out,XI y->x.steps<=y.steps->FV g->g.nodes < f.nodes->HE y out->Tot (Yy y g b out) (P10 y)) {out:List Stp} (ho:HE x out):Tot (HK x f id b out) (P10 x):=by
 have hnf:=Fm.YO f;have hkl:=hf.Ik
 have kid:∀(l:List Fm),(∀g∈l,FV g/\g.nodes < f.nodes)->l.length<=400->Tot (Vb x l b out) (P10 x):=fun l hl hll =>
  Ot (s0:=x.steps) (fun z g o hz hs hg hoz=>hA z g o hz hs (hl g hg).1 (hl g hg).2 hoz) hll hx (Xl _) ho
 have hkids:∀g∈f.kids,FV g/\g.nodes < f.nodes:=fun g hg=>⟨hf.kid hg,by have:=V7 hg;omega⟩
 have body:∀(hb2:2 < f.kids.length) (names:List Fm),(∀n∈names,FV n)->names.length<=400->∀y o,XI y->x.steps<=y.steps->HE y o->Tot (GC y names f.kids[2] b o) (P10 y):=fun hb2 names hn hnl y o hy hxy hoy=>by
  have hv:=hf.kid (ZR hb2);have hk:=V7 (ZR hb2);exact Qfc hb hv (fun z g o2 hz hs hg hgn hoz=>hB z g o2 hz (by omega) hg (by omega) hoz) hn hnl hy hoy
 rw [HK];simp only [Yd,X7];split
 ·rename_i hq;rw [QG,decide_eq_true_iff,decide_eq_true_iff] at hq
  have hsub:Fc f.kids 1 (f.kids.length:Int)=some (f.kids.drop 1):=by
   unfold Fc;rw [if_pos ⟨by omega,by omega,by omega⟩]
   congr 1
   rw [Xo];rfl;rw [Xk];omega
  rw [hsub,X7];exact ZK (kid (f.kids.drop 1) (fun g hg=>hkids g (QA hg)) (by rw [Xk];omega)) fun r hr=>⟨_,rfl,hr⟩
 have lam:Tot ((if (decide (id=1)&&decide ((f.kids.length:Int)=3))=true then (idx f.kids 1>>=fun x72=>some (decide (x72.kind=3))) else some false:Option Bool)) fun c=>c=true->id=1/\f.kids.length=3:=by
  split
  ·rename_i hq;rw [QG,decide_eq_true_iff,decide_eq_true_iff] at hq
   have l1:1 < f.kids.length:=by omega
   rw [show idx f.kids 1=some f.kids[1] from Yg f.kids 1 l1,X7];exact ⟨_,rfl,fun _=>⟨hq.1,by omega⟩⟩
  ·exact ⟨_,rfl,fun h=>by cases h⟩
 refine ZK lam fun c hc=>?_
 by_cases hct:c=true
 ·rw [if_pos hct];obtain ⟨_,h3⟩:=hc hct
  have l1:1 < f.kids.length:=by omega
  have l2:2 < f.kids.length:=by omega
  rw [show idx f.kids 1=some f.kids[1] from Yg f.kids 1 l1,X7,show idx f.kids 2=some f.kids[2] from Yg f.kids 2 l2,X7];have hv1:=hf.kid (ZR l1);exact ZK (body l2 f.kids[1].kids (fun n hn=>hv1.kid hn) (by have:=hv1.Ik;omega) x out hx (Xl _) ho) fun r hr=>⟨_,rfl,hr⟩
 rw [if_neg hct]
 have pairs:∀(h3:f.kids.length=3),∃l1:1 < f.kids.length,∃l2:2 < f.kids.length,idx f.kids 1=some f.kids[1]/\idx f.kids 2=some f.kids[2]/\FV f.kids[1]/\FV f.kids[2]:=fun h3=>by
  have l1:1 < f.kids.length:=by omega
  have l2:2 < f.kids.length:=by omega
  exact ⟨l1,l2,Yg f.kids 1 l1,Yg f.kids 2 l2,hf.kid (ZR l1),hf.kid (ZR l2)⟩
 split
 ·rename_i hq;rw [QG,decide_eq_true_iff,decide_eq_true_iff] at hq;obtain ⟨l1,l2,e1,e2,hv1,hv2⟩:=pairs (by omega);have hk1:=V7 (ZR l1);rw [e1,X7];refine ZK (A6 (by have:=hv1.sz;omega)) fun r hr=>?_
  rcases hr with ⟨hpo,rfl⟩ | ⟨_,hpf⟩
  rotate_left
  ·rw [hpf];simp only [ZX,if_true];exact ⟨_,rfl,.bad hx ho (by decide)⟩
  simp only [ZY,Qq,if_false];have hn:=It hv1 hpo (j:=0) (by omega);have hvs:=It hv1 hpo (j:=1) (by omega);have hpn:=D8 hpo;have hkl1:=hv1.Ik;refine ZK (kid _ (fun g hg=>⟨hvs g hg,by have:=Ax ZU _ g hg;omega⟩) (by rw [Xd];omega)) fun r hr=>?_
  by_cases h0:r.2.2=0
  rotate_left
  ·rw [if_neg h0];exact ⟨_,rfl,hr⟩
  rw [if_pos h0];obtain ⟨a1,a2,a3⟩:=hr.2.2 h0;rw [e2,X7];exact ZK (body l2 _ hn (by rw [Xd];omega) r.1 r.2.1 a1 a2 ⟨hr.1,a3⟩) fun q hq=>⟨_,rfl,hq.to a2⟩
 split
 ·rename_i hq;rw [QG,decide_eq_true_iff,decide_eq_true_iff] at hq;obtain ⟨l1,l2,e1,e2,hv1,hv2⟩:=pairs (by omega);have hk2:=V7 (ZR l2);rw [e1,X7];refine ZK (A6 (by have:=hv1.sz;omega)) fun r hr=>?_
  rcases hr with ⟨hpo,rfl⟩ | ⟨_,hpf⟩
  rotate_left
  ·rw [hpf];simp only [ZX,if_true];exact ⟨_,rfl,.bad hx ho (by decide)⟩
  simp only [ZY,Qq,if_false];have hn:=It hv1 hpo (j:=0) (by omega);have hvs:=It hv1 hpo (j:=1) (by omega);have hkl1:=hv1.Ik;refine ZK (CZ (s0:=x.steps) Qfw (fun y g hy _ hg _=>Qiy hb y g hy hg) hn hvs (by simp) (by rw [Xd];omega) hx (Xl _)) fun r hr=>?_;have hcs:=H2 hv2 r.1.scope 0;rw [e2,X7,GO _ _ _ (by have:=hv2.sz;omega),X7]
  by_cases h0:r.2.2=0
  rotate_left
  ·rw [if_neg h0,X7,if_pos rfl];obtain ⟨e,he,hne⟩:=Qe6 r.2.2;rw [he,X7];exact ⟨_,rfl,.bad hx ho hne⟩
  rw [if_pos h0];obtain ⟨b1,hb0,hb1⟩:=Gv (f:=chg r.1.scope 0 f.kids[2]) (by omega);rw [hb0,X7];cases b1
  ·rw [X7];simp only [ZX,if_true];obtain ⟨e,he,hne⟩:=Qe6 r.2.2;rw [he,X7];exact ⟨_,rfl,.bad hx ho hne⟩
  rw [X7];simp only [ZY,Qq,if_false];obtain ⟨a1,a2,_⟩:=hr h0;exact ZK (hB r.1 _ out a1 a2 (hb1.1 rfl) (by rw [AA];omega) (ho.to a2)) fun q hq=>⟨_,rfl,hq.to a2⟩
 exact ZK hF fun r hr=>⟨_,rfl,.of7 hx ho hr⟩
theorem UR {b:Int} (hb:b<=60):∀(N:Nat) (x:Xpn) (f:Fm) (out:List Stp),XI x->FV f->(60 - x.steps).toNat * 1000+f.nodes<=N->HE x out->Tot (Yy x f b out) (P10 x):=by
 intro N
 induction N with
 | zero=>intro x f _ _ _ h;have:=HH f;omega
 | succ N ih =>
  intro x f out hx hf hN ho;have hnf:=Fm.YO f;have hkl:=hf.Ik;have ht0:=hx.t0;rw [Yy];simp only [Yd,X7];split
  ·exact ZK (Qiy hb x f hx hf) fun r hr=>⟨_,rfl,.of7 hx ho hr⟩
  rename_i hq;rw [Q9,not_or] at hq
  have k3:f.kind=3:=by
   have:=hq.1;simpa using this
  have l0:0 < f.kids.length:=by
   have:=hq.2;simp only [decide_eq_true_iff] at this;omega
  have e0':idx f.kids 0=some f.kids[0]:=Yg f.kids 0 l0;have hkids:∀g∈f.kids,FV g/\g.nodes < f.nodes:=fun g hg=>⟨hf.kid hg,by have:=V7 hg;omega⟩;have hA:∀y g o,XI y->x.steps<=y.steps->FV g->g.nodes < f.nodes->HE y o->Tot (Yy y g b o) (P10 y):=fun y g o hy hs hg hgn hoy=>ih y g o hy hg (by omega) hoy
  have call:Tot ((Vb x f.kids b out>>=fun x80=>some (x80.1,x80.2.1,x80.2.2)):Option (Xpn × List Stp × Int)) (P10 x) :=
   ZK (Ot (s0:=x.steps) (fun z g o hz hs hg hoz=>hA z g o hz hs (hkids g hg).1 (hkids g hg).2 hoz) (by omega) hx (Xl _) ho) fun r hr=>⟨_,rfl,hr⟩
  rw [e0',X7]
  by_cases k1:f.kids[0].kind=1
  rotate_left
  ·rw [if_neg k1];exact call
  have hf0:=hf.kid (ZR l0);rw [if_pos k1,X7,EC x _ hx.b.bs hf0.smc hx.sm,X7]
  by_cases m4:(Cm x f.kids[0]).1=4
  ·rw [if_pos m4];exact ⟨_,rfl,.bad hx ho (by decide)⟩
  rw [if_neg m4]
  by_cases m1:(Cm x f.kids[0]).1=1
  ·rw [if_pos m1];exact ZK (Qck hb hx hf (Tk hb hx hf k3 l0 k1 m1) hA (fun y g o hy hs hg hgn hoy=>ih y g o hy hg (by omega) hoy) ho) fun r hr=>⟨_,rfl,hr⟩
  rw [if_neg m1]
  by_cases m2:(Cm x f.kids[0]).1=2
  rotate_left
  ·rw [if_neg m2];exact call
  rw [if_pos m2];exact ZK (Qdj hb hx hf (Mq m2) (fun y g o hy hs hlt hg hoy=>ih y g o hy hg (by have:=hg.2;rw [hs];omega) hoy) ho) fun r hr=>⟨_,rfl,hr⟩
theorem Qn5 {b s0:Int} {l:List Fm} (hE:∀x f out,XI x->s0<=x.steps->f∈l->HE x out->Tot (Yy x f b out) (P10 x)) (hl:l.length<=400) {x:Xpn} (hx:XI x) (hs:s0<=x.steps) {out:List Stp} (ho:HE x out):Tot (IG x l b out) (P10 x):=by
 have loop:∀(r:List Fm) (i:Nat) (y:Xpn) (z:List Stp),(∀f∈r,f∈l)->XI y->s0<=y.steps->x.steps<=y.steps->HE y z ->
   Tot (J0 l b y.binds y.macs y.scope y.id y.steps z i r) fun o=>match o with
    | .inl q=>q.2.2≠0/\(∀s∈q.2.1,SOk s)/\q.2.1.length<=60
    | .inr (q0,q1,q2,q3,q4,z')=>XI ⟨q0,q1,q2,q3,q4⟩/\x.steps<=q4/\HE ⟨q0,q1,q2,q3,q4⟩ z':=by
  intro r
  induction r with
  | nil=>intro i y z _ hy _ hxy hz;rw [J0];exact ⟨_,rfl,hy,hxy,hz⟩
  | cons f r ih =>
   intro i y z hr hy hs hxy hz;rw [J0,Yd,X7];refine ZK (hE ⟨y.binds,y.macs,y.scope,y.id,y.steps⟩ f z hy hs (hr f (Kx ..)) hz) fun q hq=>?_
   by_cases h0:q.2.2=0
   ·rw [if_pos h0];obtain ⟨c1,c2,c3⟩:=hq.2.2 h0;have c2':y.steps<=q.1.steps:=c2;exact ih (i+1) q.1 q.2.1 (fun g hg=>hr g (Kf _ hg)) c1 (by omega) (by omega) ⟨hq.1,c3⟩
   ·rw [if_neg h0];exact ⟨_,rfl,h0,hq.1,hq.2.1⟩
 rw [IG,Ld _ _ _ _ _ _ _ _ (by omega)];obtain ⟨o,ho1,hop⟩:=loop l 0 x out (fun _ h=>h) hx hs (Xl _) ho;rw [ho1,X7]
 cases o with
 | inl q=>exact ⟨_,rfl,hop.2.1,hop.2.2,fun h=>absurd h hop.1⟩
 | inr q =>
  obtain ⟨q0,q1,q2,q3,q4,z⟩:=q;obtain ⟨a1,a2,a3⟩:=hop;exact ⟨_,rfl,a3.1,a3.le a1,fun _=>⟨a1,a2,a3.2⟩⟩
theorem Qoi {b:Int} (hb:b<=60) {body:Fm} (hf:FV body) {x:Xpn} (hE:∀y g out,XI y->x.steps<=y.steps->FV g->g.nodes=body.nodes->HE y out->Tot (Vo y g b out) (P10 y)) {names:List Fm} (hn:∀n∈names,FV n) (hl:names.length<=400) (hx:XI x) {out:List Stp} (ho:HE x out):Tot (II x names body b out) (P10 x):=by
 rw [II];refine ZK (Mg (s0:=x.steps) Qfw (fun y g hy _ hg _=>Qiy hb y g hy hg) hn hl hx (Xl _)) fun r hr=>?_
 by_cases h0:r.2.2=0
 rotate_left
 ·rw [if_neg h0];exact ⟨_,rfl,.bad hx ho h0⟩
 rw [if_pos h0];obtain ⟨a1,a2,_⟩:=hr h0;have hcs:=H2 hf r.1.scope 0;rw [GO _ _ body (by have:=hf.sz;omega),X7];refine ZK (Gv (by omega)) fun b1 hb1=>?_;cases b1
 ·simp only [ZX,if_true];exact ⟨_,rfl,.bad hx ho (by decide)⟩
 simp only [ZY,Qq,if_false];exact ZK (hE r.1 _ out a1 a2 (hb1.1 rfl) (AA _ _ _) (ho.to a2)) fun q hq=>⟨_,rfl,hq.to a2⟩
theorem Qnh {b:Int} (hb:b<=60) {x:Xpn} (hx:XI x) {f:Fm} (hf:FV f) {id:Int} (hid:Oc x.macs id≥0) (hE:∀y g out,XI y->y.steps=x.steps+1->x.steps < 60->FV g->HE y out->Tot (Vo y g b out) (P10 y)) {out:List Stp} (ho:HE x out):Tot (AH x f id b out) (P10 x):=by
 have hml:=Sq hid
 have hm:MS (x.macs.getD (Oc x.macs id).toNat default):=by
  have:(Oc x.macs id).toNat < x.macs.length:=by omega
  rw [Jc this];exact hx.mm _ (ZR this)
 rw [AH,OQ _ _ hx.sm,X7,BB (l:=x.macs) hid hml.1,X7];refine ZK (FM hx hf hb hid) fun r hr=>?_
 by_cases h0:r.2.2=0
 rotate_left
 ·rw [if_neg h0];exact ⟨_,rfl,.bad hx ho h0⟩
 rw [if_pos h0];obtain ⟨a1,a2,a3,a4⟩:=hr h0;have hcs:=H2 hf r.1.scope 1;rw [GO _ _ f (by have:=hf.sz;omega),X7];refine ZK (Ci hx.b.bs hm.1 hm.2.1 (by omega)).true fun r1 _=>?_;have hol:=ho.le hx;rw [YK (by simp;omega),X7];refine ZK (hE r.1 r.2.1 _ a1 a2 (by omega) a4 ⟨fun s hs=>?_,by have:=ho.2;simp;omega⟩) fun q hq=>⟨_,rfl,hq.to (by omega)⟩
 rcases QR.1 hs with hs | hs
 ·exact ho.1 s hs
 ·rw [ZS.1 hs];exact ⟨hf,a4⟩
theorem Qmj {b:Int} (hb:b<=60) {x:Xpn} (hx:XI x) {f:Fm} (hf:FV f) {id:Int} (hF:Tot (Jr x f id b) (P7 x f.nodes)) (hA:∀y g out,XI y->x.steps<=y.steps->FV g->g.nodes < f.nodes->HE y out->Tot (Yy y g b out) (P10 y)) (hB:∀y g out,XI y->x.steps<=y.steps->FV g->g.nodes < f.nodes->HE y out->Tot (Vo y g b out) (P10 y)) {out:List Stp} (ho:HE x out):Tot (AG x f id b out) (P10 x):=by
 have hnf:=Fm.YO f;have hkl:=hf.Ik
 have kid:∀(l:List Fm),(∀g∈l,FV g/\g.nodes < f.nodes)->l.length<=400->Tot (Vb x l b out) (P10 x):=fun l hl hll =>
  Ot (s0:=x.steps) (fun z g o hz hs hg hoz=>hA z g o hz hs (hl g hg).1 (hl g hg).2 hoz) hll hx (Xl _) ho
 have hkids:∀g∈f.kids,FV g/\g.nodes < f.nodes:=fun g hg=>⟨hf.kid hg,by have:=V7 hg;omega⟩
 have body:∀(hb2:2 < f.kids.length) (names:List Fm),(∀n∈names,FV n)->names.length<=400->∀y o,XI y->x.steps<=y.steps->HE y o->Tot (II y names f.kids[2] b o) (P10 y):=fun hb2 names hn hnl y o hy hxy hoy=>by
  have hv:=hf.kid (ZR hb2);have hk:=V7 (ZR hb2);exact Qoi hb hv (fun z g o2 hz hs hg hgn hoz=>hB z g o2 hz (by omega) hg (by omega) hoz) hn hnl hy hoy
 rw [AG];simp only [Yd,X7];split
 ·rename_i hq;rw [QG,decide_eq_true_iff,decide_eq_true_iff] at hq
  have hsub:Fc f.kids 1 (f.kids.length:Int)=some (f.kids.drop 1):=by
   unfold Fc;rw [if_pos ⟨by omega,by omega,by omega⟩]
   congr 1
   rw [Xo];rfl;rw [Xk];omega
  rw [hsub,X7];exact ZK (kid (f.kids.drop 1) (fun g hg=>hkids g (QA hg)) (by rw [Xk];omega)) fun r hr=>⟨_,rfl,hr⟩
 have lam:Tot ((if (decide (id=1)&&decide ((f.kids.length:Int)=3))=true then (idx f.kids 1>>=fun x72=>some (decide (x72.kind=3))) else some false:Option Bool)) fun c=>c=true->id=1/\f.kids.length=3:=by
  split
  ·rename_i hq;rw [QG,decide_eq_true_iff,decide_eq_true_iff] at hq
   have l1:1 < f.kids.length:=by omega
   rw [show idx f.kids 1=some f.kids[1] from Yg f.kids 1 l1,X7];exact ⟨_,rfl,fun _=>⟨hq.1,by omega⟩⟩
  ·exact ⟨_,rfl,fun h=>by cases h⟩
 refine ZK lam fun c hc=>?_
 by_cases hct:c=true
 ·rw [if_pos hct];obtain ⟨_,h3⟩:=hc hct
  have l1:1 < f.kids.length:=by omega
  have l2:2 < f.kids.length:=by omega
  rw [show idx f.kids 1=some f.kids[1] from Yg f.kids 1 l1,X7,show idx f.kids 2=some f.kids[2] from Yg f.kids 2 l2,X7];have hv1:=hf.kid (ZR l1);exact ZK (body l2 f.kids[1].kids (fun n hn=>hv1.kid hn) (by have:=hv1.Ik;omega) x out hx (Xl _) ho) fun r hr=>⟨_,rfl,hr⟩
 rw [if_neg hct]
 have pairs:∀(h3:f.kids.length=3),∃l1:1 < f.kids.length,∃l2:2 < f.kids.length,idx f.kids 1=some f.kids[1]/\idx f.kids 2=some f.kids[2]/\FV f.kids[1]/\FV f.kids[2]:=fun h3=>by
  have l1:1 < f.kids.length:=by omega
  have l2:2 < f.kids.length:=by omega
  exact ⟨l1,l2,Yg f.kids 1 l1,Yg f.kids 2 l2,hf.kid (ZR l1),hf.kid (ZR l2)⟩
 split
 ·rename_i hq;rw [QG,decide_eq_true_iff,decide_eq_true_iff] at hq;obtain ⟨l1,l2,e1,e2,hv1,hv2⟩:=pairs (by omega);have hk1:=V7 (ZR l1);rw [e1,X7];refine ZK (A6 (by have:=hv1.sz;omega)) fun r hr=>?_
  rcases hr with ⟨hpo,rfl⟩ | ⟨_,hpf⟩
  rotate_left
  ·rw [hpf];simp only [ZX,if_true];exact ⟨_,rfl,.bad hx ho (by decide)⟩
  simp only [ZY,Qq,if_false];have hn:=It hv1 hpo (j:=0) (by omega);have hvs:=It hv1 hpo (j:=1) (by omega);have hpn:=D8 hpo;have hkl1:=hv1.Ik;refine ZK (kid _ (fun g hg=>⟨hvs g hg,by have:=Ax ZU _ g hg;omega⟩) (by rw [Xd];omega)) fun r hr=>?_
  by_cases h0:r.2.2=0
  rotate_left
  ·rw [if_neg h0];exact ⟨_,rfl,hr⟩
  rw [if_pos h0];obtain ⟨a1,a2,a3⟩:=hr.2.2 h0;rw [e2,X7];exact ZK (body l2 _ hn (by rw [Xd];omega) r.1 r.2.1 a1 a2 ⟨hr.1,a3⟩) fun q hq=>⟨_,rfl,hq.to a2⟩
 split
 ·rename_i hq;rw [QG,decide_eq_true_iff,decide_eq_true_iff] at hq;obtain ⟨l1,l2,e1,e2,hv1,hv2⟩:=pairs (by omega);have hk2:=V7 (ZR l2);rw [e1,X7];refine ZK (A6 (by have:=hv1.sz;omega)) fun r hr=>?_
  rcases hr with ⟨hpo,rfl⟩ | ⟨_,hpf⟩
  rotate_left
  ·rw [hpf];simp only [ZX,if_true];exact ⟨_,rfl,.bad hx ho (by decide)⟩
  simp only [ZY,Qq,if_false];have hn:=It hv1 hpo (j:=0) (by omega);have hvs:=It hv1 hpo (j:=1) (by omega);have hkl1:=hv1.Ik;refine ZK (CZ (s0:=x.steps) Qfw (fun y g hy _ hg _=>Qiy hb y g hy hg) hn hvs (by simp) (by rw [Xd];omega) hx (Xl _)) fun r hr=>?_;have hcs:=H2 hv2 r.1.scope 0;rw [e2,X7,GO _ _ _ (by have:=hv2.sz;omega),X7]
  by_cases h0:r.2.2=0
  rotate_left
  ·rw [if_neg h0,X7,if_pos rfl];obtain ⟨e,he,hne⟩:=Qe6 r.2.2;rw [he,X7];exact ⟨_,rfl,.bad hx ho hne⟩
  rw [if_pos h0];obtain ⟨b1,hb0,hb1⟩:=Gv (f:=chg r.1.scope 0 f.kids[2]) (by omega);rw [hb0,X7];cases b1
  ·rw [X7];simp only [ZX,if_true];obtain ⟨e,he,hne⟩:=Qe6 r.2.2;rw [he,X7];exact ⟨_,rfl,.bad hx ho hne⟩
  rw [X7];simp only [ZY,Qq,if_false];obtain ⟨a1,a2,_⟩:=hr h0;exact ZK (hB r.1 _ out a1 a2 (hb1.1 rfl) (by rw [AA];omega) (ho.to a2)) fun q hq=>⟨_,rfl,hq.to a2⟩
 exact ZK hF fun r hr=>⟨_,rfl,.of7 hx ho hr⟩
theorem Qkr {b:Int} (hb:b<=60):∀(N:Nat) (x:Xpn) (f:Fm) (out:List Stp),XI x->FV f->(60 - x.steps).toNat * 1000+f.nodes<=N->HE x out->Tot (Vo x f b out) (P10 x):=by
 intro N
 induction N with
 | zero=>intro x f _ _ _ h;have:=HH f;omega
 | succ N ih =>
  intro x f out hx hf hN ho;have hnf:=Fm.YO f;have hkl:=hf.Ik;have ht0:=hx.t0;rw [Vo];simp only [Yd,X7];split
  ·exact ZK (Qiy hb x f hx hf) fun r hr=>⟨_,rfl,.of7 hx ho hr⟩
  rename_i hq;rw [Q9,not_or] at hq
  have k3:f.kind=3:=by
   have:=hq.1;simpa using this
  have l0:0 < f.kids.length:=by
   have:=hq.2;simp only [decide_eq_true_iff] at this;omega
  have e0':idx f.kids 0=some f.kids[0]:=Yg f.kids 0 l0;have hkids:∀g∈f.kids,FV g/\g.nodes < f.nodes:=fun g hg=>⟨hf.kid hg,by have:=V7 hg;omega⟩;have hA:∀y g o,XI y->x.steps<=y.steps->FV g->g.nodes < f.nodes->HE y o->Tot (Yy y g b o) (P10 y):=fun y g o hy hs hg hgn hoy=>UR hb _ y g o hy hg (Qt _) hoy
  have call:Tot ((IG x f.kids b out>>=fun x80=>some (x80.1,x80.2.1,x80.2.2)):Option (Xpn × List Stp × Int)) (P10 x) :=
   ZK (Qn5 (s0:=x.steps) (fun z g o hz hs hg hoz=>hA z g o hz hs (hkids g hg).1 (hkids g hg).2 hoz) (by omega) hx (Xl _) ho) fun r hr=>⟨_,rfl,hr⟩
  rw [e0',X7]
  by_cases k1:f.kids[0].kind=1
  rotate_left
  ·rw [if_neg k1];exact call
  have hf0:=hf.kid (ZR l0);rw [if_pos k1,X7,EC x _ hx.b.bs hf0.smc hx.sm,X7]
  by_cases m4:(Cm x f.kids[0]).1=4
  ·rw [if_pos m4];exact ⟨_,rfl,.bad hx ho (by decide)⟩
  rw [if_neg m4]
  by_cases m1:(Cm x f.kids[0]).1=1
  ·rw [if_pos m1];exact ZK (Qmj hb hx hf (Tk hb hx hf k3 l0 k1 m1) hA (fun y g o hy hs hg hgn hoy=>ih y g o hy hg (by omega) hoy) ho) fun r hr=>⟨_,rfl,hr⟩
  rw [if_neg m1]
  by_cases m2:(Cm x f.kids[0]).1=2
  rotate_left
  ·rw [if_neg m2];exact call
  rw [if_pos m2];exact ZK (Qnh hb hx hf (Mq m2) (fun y g o hy hs hlt hg hoy=>ih y g o hy hg (by have:=hg.2;rw [hs];omega) hoy) ho) fun r hr=>⟨_,rfl,hr⟩
theorem UL {x:Xpn} (h:Vg=some x):x.steps=0:=by rw [RC] at h;injection h with h;rw [← h]
theorem Qo8 {f:Fm} (hf:f.sz < 1000000000) (b:Int):Tot (A8 f b) fun r=>(∀s∈r.1,SOk s)/\r.1.length<=60:=by
 rw [A8];refine ZK (Gv hf) fun b1 hb1=>?_;simp only [Yd,X7];split
 ·exact ⟨_,rfl,by simp,by simp⟩
 rename_i hq;rw [Q9,Q9,not_or,not_or] at hq;obtain ⟨⟨q1,q2⟩,q3⟩:=hq;have hv:FV f:=hb1.1 (by cases b1<;>simp_all);simp only [decide_eq_true_iff] at q2 q3;obtain ⟨x0,hx0⟩:∃x,Vg=some x:=⟨_,RC⟩;rw [hx0,X7];refine ZK (Qkr (by omega) _ x0 f [] (Qdi hx0) hv (Qt _) ⟨by simp,by rw [UL hx0];simp⟩) fun r hr=>?_
 by_cases h0:r.2.2=0
 ·rw [if_pos h0];exact ZK (Me hf b) fun q _=>⟨_,rfl,hr.1,hr.2.1⟩
 ·rw [if_neg h0];exact ⟨_,rfl,hr.1,hr.2.1⟩
theorem RI {f:Fm} (hf:f.sz < 1000000000) (b:Int):Tot (GU f b) fun r=>(∀s∈r.1,SOk s)/\r.1.length<=60:=by
 rw [GU];refine ZK (Qo8 hf b) fun r hr=>?_
 have loop:∀(l:List Stp) (i:Nat) (z:List Stp),(∀s∈l,SOk s)->(∀s∈z,SOk s)->z.length+l.length<=60->Tot (VB f r z i l) fun o=>(∀s∈o,SOk s)/\o.length<=60:=by
  intro l
  induction l with
  | nil=>intro i z _ hz hl;rw [VB];exact ⟨_,rfl,hz,by simpa using hl⟩
  | cons s l ih =>
   intro i z hs hz hl;simp only [ZO] at hl;obtain ⟨h1,h2⟩:=hs s (Kx ..);rw [VB,Yd,X7,A1 _ (by have:=h1.sz;omega),X7,A1 _ (by have:=h2.sz;omega),X7,YK (by simp;omega),X7];refine ih (i+1) _ (fun y hy=>hs y (Kf _ hy)) (fun y hy=>?_) (by simp;omega)
   rcases QR.1 hy with hy | hy
   ·exact hz y hy
   ·rw [ZS.1 hy];exact ⟨h1,h2⟩
 rw [CL _ _ _ (by omega)];exact ZK (loop r.1 0 [] hr.1 (by simp) (by simpa using hr.2)) fun o ho=>⟨_,rfl,ho⟩
def SDr (s:Stp):Prop:=s.use.sz<=30000/\FV s.res
theorem Qfr {l:List Int} (h:∀x∈l,0<=x/\x < 256):Tot (Ae l) fun r=>r.length<=3/\∀s∈r,SDr s:=by
 rw [Ae];refine ZK (Qbr h) fun r hr=>ZK (RI (by omega) 20) fun t ht=>ZK (ED h) fun c hc=>?_;have hdr:∀s,SOk s->s.use.sz<=20000/\FV s.res:=fun s hs=>⟨by have:=hs.1.sz;have:=hs.1.2;omega,hs.2⟩
 have cut:Tot (if (t.1.length:Int) > 3 then (idx t.1 0>>=fun x24n=>Fc t.1 0 3>>=fun x24=>pure x24) else pure t.1:Option (List Stp)) fun y=>y.length<=3/\∀s∈y,s.use.sz<=20000/\FV s.res:=by
  split
  ·rename_i hl
   have l0:0 < t.1.length:=by omega
   rw [show idx t.1 0=some t.1[0] from Yg t.1 0 l0,X7]
   have:Fc t.1 0 3=some (t.1.take 3):=by
    unfold Fc;rw [if_pos ⟨by omega,by omega,by omega⟩];rfl
   rw [this,X7];exact ⟨_,rfl,by rw [List.length_take];omega,fun s hs=>hdr s (ht.1 s (List.mem_of_mem_take hs))⟩
  ·rename_i hl;exact ⟨_,rfl,by omega,fun s hs=>hdr s (ht.1 s hs)⟩
 refine ZK cut fun y hy=>?_;split
 ·rename_i hl
  have l0:0 < y.length:=by omega
  refine ZK (WW hc (by omega) (by omega)) fun p hp=>?_;split
  ·have e:idx y 0=some y[0]:=Yg y 0 l0;have h0:=hy.2 _ (ZR l0);rw [e,X7];refine ZK (Dv y[0].use hp.2.2 (by have:=h0.1;omega) (by have:=h0.1;omega)) fun m1 hm1=>?_;refine ZK (Dv m1.1 hm1.2 (by have:=h0.1;have:=hm1.1;omega) (by have:=h0.1;have:=hm1.1;omega)) fun m2 hm2=>?_;rw [X7];refine ZK (C6 hm2.2 (by have:=h0.1;have:=hm1.1;omega) (by simp)) fun n hn=>?_
   have e2:idx (y.set (0:Int).toNat (Stp.mk y[0].id y[0].rule y[0].scope m2.1 y[0].res)) 0=some (Stp.mk y[0].id y[0].rule y[0].scope m2.1 y[0].res):=by
    have:=Yg (y.set (0:Int).toNat (Stp.mk y[0].id y[0].rule y[0].scope m2.1 y[0].res)) 0 (by simpa using l0);simpa using this
   rw [e2,X7];refine ⟨_,rfl,by simpa using hy.1,fun s hs=>?_⟩;simp only [List.set_set,Int.toNat_zero] at hs
   rcases List.mem_or_eq_of_mem_set hs with hs | hs
   ·exact ⟨by have:=(hy.2 s hs).1;omega,(hy.2 s hs).2⟩
   ·rw [hs];exact ⟨by show m2.1.sz<=30000;have:=h0.1;have:=hm1.1;have:=hm2.1;omega,h0.2⟩
  ·exact ⟨_,rfl,hy.1,fun s hs=>⟨by have:=(hy.2 s hs).1;omega,(hy.2 s hs).2⟩⟩
 ·exact ⟨_,rfl,hy.1,fun s hs=>⟨by have:=(hy.2 s hs).1;omega,(hy.2 s hs).2⟩⟩
end Go.Proofs.SA
namespace Go.Proofs.SA
noncomputable def inN (s:Int) (o:List Fm) (f:Fm):List Fm:=if f.kind=1/\s∈f.sc/\f∉o then o++[f] else o
mutual
noncomputable def nmF (s:Int):Fm->List Fm->List Fm
 | .mk k n m c ks,o=>nmL s ks (inN s o (.mk k n m c ks))
noncomputable def nmL (s:Int):List Fm->List Fm->List Fm
 | [],o=>o
 | f :: fs,o=>nmL s fs (nmF s f o)
end
theorem F1 (s:Int) (f:Fm) (o:List Fm):nmF s f o=nmL s f.kids (inN s o f):=by cases f;rw [nmF];rfl
inductive Part:Fm->Fm->Prop
 | refl (f:Fm):Part f f
 | kid {x k f:Fm} (hk:k∈f.kids) (h:Part x k):Part x f
theorem Part.sz {x f:Fm} (h:Part x f):x.sz<=f.sz:=by
 induction h with
 | refl=>exact Qt _
 | kid hk _ ih=>have:=Fm.WR hk;omega
structure Qpt (s:Int) (f:Fm) (o r:List Fm):Prop where
 nd:o.Nodup->r.Nodup
 mem:∀x∈r,x∈o∨(s∈x.sc/\Part x f)
 len:r.length<=o.length+f.nodes
theorem Qhk (s:Int) (f:Fm) (o:List Fm):Qpt s f o (inN s o f):=by
 have:=HH f;unfold inN;split
 ·rename_i h;refine ⟨fun hn=>?_,fun x hx=>?_,by simp;omega⟩
  ·rw [List.nodup_append];exact ⟨hn,by simp,fun a ha b hb he=>h.2.2 (by rw [ZS.1 hb] at he;exact he▸ha)⟩
  ·rcases QR.1 hx with hx | hx
   ·exact .inl hx
   ·rw [ZS.1 hx];exact .inr ⟨h.2.1,.refl _⟩
 ·exact ⟨id,fun x hx=>.inl hx,by omega⟩
theorem P6 (s:Int) (f:Fm):∀o,Qpt s f o (nmF s f o):=by
 induction f using Fm.ind with
 | h f ih =>
  intro o;have hne:=Fm.YO f
  have kids:∀(l:List Fm),(∀k∈l,k∈f.kids)->∀o:List Fm,(o.Nodup->(nmL s l o).Nodup)/\(∀x∈nmL s l o,x∈o∨(s∈x.sc/\Part x f))/\(nmL s l o).length<=o.length+Y7 ZU l:=by
   intro l
   induction l with
   | nil=>intro _ o;rw [nmL];exact ⟨id,fun x hx=>.inl hx,by simp [Y7]⟩
   | cons k l ihl =>
    intro hl o;have hk:=hl k (Kx ..);have h1:=ih k hk o;obtain ⟨a1,a2,a3⟩:=ihl (fun x hx=>hl x (Kf _ hx)) (nmF s k o);rw [nmL,Y7];refine ⟨fun hn=>a1 (h1.nd hn),fun x hx=>?_,by have:=h1.len;omega⟩
    rcases a2 x hx with h | h
    ·rcases h1.mem x h with h | h
     ·exact .inl h
     ·exact .inr ⟨h.1,.kid hk h.2⟩
    ·exact .inr h
  have h1:=Qhk s f o;obtain ⟨a1,a2,a3⟩:=kids f.kids (fun _ h=>h) (inN s o f);rw [F1]
  have hl1:(inN s o f).length<=o.length+1:=by unfold inN;split<;>simp
  refine ⟨fun hn=>a1 (h1.nd hn),fun x hx=>?_,by omega⟩
  rcases a2 x hx with h | h
  ·exact h1.mem x h
  ·exact .inr h
def OS (o:List Fm):Prop:=∀x∈o,x.sz<=1000000
theorem Tr {s:Int} {f:Fm} {o:List Fm} (h:OS o) (hf:f.sz<=1000000):OS (nmF s f o):=fun x hx=>by
 rcases (P6 s f o).mem x hx with h2 | h2
 ·exact h x h2
 ·have:=h2.2.sz;omega
theorem Qcs {s:Int} {f:Fm} {o:List Fm} (h:OS o) (hf:f.sz<=1000000):OS (inN s o f):=fun x hx=>by
 rcases (Qhk s f o).mem x hx with h2 | h2
 ·exact h x h2
 ·have:=h2.2.sz;omega
theorem Qjm (o:List Fm) (f:Fm) (h:OS o) (hl:o.length<=1000000000):CX o f=some (decide (f∈o)):=by
 have key:∀(r:List Fm) (i:Nat),(∀x∈r,x.sz<=1000000)->(f∈r->∃k:Nat,Yx o f i r=some (.inl (k:Int)))/\(f∉r->Yx o f i r=some (.inr ())):=by
  intro r
  induction r with
  | nil=>intro i _;exact ⟨fun h=>(by cases h),fun _=>rfl⟩
  | cons y r ih =>
   intro i hs;rw [Yx,Yd,X7,AD,Ml y (hs y (Kx ..))];simp only [Yd,X7];obtain ⟨h1,h2⟩:=ih (i+1) fun x hx=>hs x (Kf _ hx)
   by_cases hy:y=f
   ·rw [decide_eq_true hy,if_pos rfl];exact ⟨fun _=>⟨i,rfl⟩,fun h=>absurd (hy▸Kx ..) h⟩
   ·rw [decide_eq_false hy,if_neg (by decide)];exact ⟨fun h=>h1 (by rcases Kj.1 h with h | h;exact absurd h.symm hy;exact h),fun h=>h2 fun h3=>h (Kf _ h3)⟩
 obtain ⟨h1,h2⟩:=key o 0 h;rw [CX,Y3,Vc,GR _ _ (by omega)]
 by_cases hx:f∈o
 ·obtain ⟨k,hk⟩:=h1 hx;rw [hk,X7,decide_eq_true hx];simp only [Yd,X7];rw [decide_eq_true (by omega)]
 ·rw [h2 hx,X7,decide_eq_false hx];rfl
theorem Qct (f:Fm) (st:Stp) (o:List Fm) (hf:f.sz<=1000000) (ho:OS o) (hl:o.length<=1000000000):Wr f st o=some (inN st.scope o f):=by
 have hz:=Fm.Jt f;rw [Wr,Qji _ _ (by omega)];unfold inN;simp only [Yd,X7]
 by_cases h1:f.kind=1
 rotate_left
 ·rw [if_neg h1,X7,if_neg (by decide),X7,if_neg (by decide),if_neg (fun h=>h1 h.1)]
 rw [if_pos h1,X7]
 by_cases h2:st.scope∈f.sc
 rotate_left
 ·rw [decide_eq_false h2,if_neg (by decide),X7,if_neg (by decide),if_neg (fun h=>h2 h.2.1)]
 rw [decide_eq_true h2,if_pos rfl,Qjm o f ho hl,X7,X7]
 by_cases h3:f∈o
 ·rw [decide_eq_true h3,if_neg (by decide),if_neg (fun h=>h.2.2 h3)]
 rw [decide_eq_false h3,if_pos (by decide),if_pos ⟨h1,h2,h3⟩,CW f hf,X7,YK (by simp;omega),X7]
 have hi:idx (o++[KS 0 (Qk #[]) 0 [] []]) (o.length:Int)=some (KS 0 (Qk #[]) 0 [] []):=by
  rw [Yg _ o.length (by simp)];simp
 rw [hi,X7]
 simp
theorem Qe4 (st:Stp):∀(f:Fm),f.sz<=1000000->∀o:List Fm,OS o->o.length+f.nodes<=1000000000->YB f st o=some (nmF st.scope f o):=by
 intro f
 induction f using Fm.ind with
 | h f ih =>
  intro hf o ho hl;have hz:=Fm.Jt f;have hne:=Fm.YO f
  have loop:∀(r:List Fm) (i:Nat) (z:List Fm),(∀k∈r,k∈f.kids)->OS z->z.length+Y7 ZU r<=1000000000->YJ f st z i r=some (nmL st.scope r z):=by
   intro r
   induction r with
   | nil=>intro i z _ _ _;rw [nmL];rfl
   | cons k r ihr =>
    intro i z hr hzo hzl;rw [Y7] at hzl;have hk:=hr k (Kx ..);have hks:=Fm.WR hk;have hnl:=(P6 st.scope k z).len;rw [YJ,Yd,X7,ih k hk (by omega) z hzo (by omega),X7,nmL];exact ihr (i+1) _ (fun x hx=>hr x (Kf _ hx)) (Tr hzo (by omega)) (by omega)
  have hl1:(inN st.scope o f).length<=o.length+1:=by unfold inN;split<;>simp
  rw [YB,Qct f st o hf ho (by omega),X7,Hb _ _ _ (by omega),loop f.kids 0 _ (fun _ h=>h) (Qcs ho hf) (by omega),X7,F1];rfl
theorem Uw (s:Int):∀(f:Fm),f.sz<=1000000->∀o:List Fm,OS o->o.length+f.nodes<=100000000->V3 o f s=some (nmF s f o):=by
 intro f
 induction f using Fm.ind with
 | h f ih =>
  intro hf o ho hl;have hz:=Fm.Jt f;have hne:=Fm.YO f
  have loop:∀(r:List Fm) (i:Nat) (z:List Fm),(∀k∈r,k∈f.kids)->OS z->z.length+Y7 ZU r<=100000000->WG f s z i r=some (nmL s r z):=by
   intro r
   induction r with
   | nil=>intro i z _ _ _;rw [nmL];rfl
   | cons k r ihr =>
    intro i z hr hzo hzl;rw [Y7] at hzl;have hk:=hr k (Kx ..);have hks:=Fm.WR hk;have hnl:=(P6 s k z).len;rw [WG,Yd,X7,ih k hk (by omega) z hzo (by omega),X7,nmL];exact ihr (i+1) _ (fun x hx=>hr x (Kf _ hx)) (Tr hzo (by omega)) (by omega)
  have hl1:(inN s o f).length<=o.length+1:=by unfold inN;split<;>simp
  have hlp:=loop f.kids 0 _ (fun _ h=>h) (Qcs (s:=s) ho hf) (by omega);rw [V3,F1];simp only [Yd,X7,Mi f.sc s (by unfold Sm;omega)]
  by_cases h1:f.kind=1
  rotate_left
  ·rw [show inN s o f=o from if_neg (fun h=>h1 h.1)] at hlp ⊢;rw [if_neg h1,X7,if_neg (by decide),X7,if_neg (by decide),X7,Gf _ _ _ (by omega),hlp,X7]
  rw [if_pos h1,X7]
  by_cases h2:s∈f.sc
  rotate_left
  ·rw [show inN s o f=o from if_neg (fun h=>h2 h.2.1)] at hlp ⊢;rw [decide_eq_false h2,if_neg (by decide),X7,if_neg (by decide),X7,Gf _ _ _ (by omega),hlp,X7]
  rw [decide_eq_true h2,if_pos rfl,Ob o f ⟨by unfold Sm;omega,ho⟩,X7,X7]
  by_cases h3:f∈o
  ·rw [show inN s o f=o from if_neg (fun h=>h.2.2 h3)] at hlp ⊢;rw [decide_eq_true h3,if_neg (by decide),X7,Gf _ _ _ (by omega),hlp,X7]
  rw [show inN s o f=o++[f] from if_pos ⟨h1,h2,h3⟩] at hlp ⊢;rw [decide_eq_false h3,if_pos (by decide),A1 f (by omega),X7,YK (by simp;omega),X7,X7,Gf _ _ _ (by omega),hlp,X7]
theorem Qjx (s:Int):∀(f:Fm),f.sz<=1000000->∀o:List Fm,OS o->o.length+f.nodes<=100000000->Ad o f s=some (nmF s f o):=by
 intro f
 ·skip
  intro hf o ho hl;have hz:=Fm.Jt f;have hne:=Fm.YO f
  have loop:∀(r:List Fm) (i:Nat) (z:List Fm),(∀k∈r,k∈f.kids)->OS z->z.length+Y7 ZU r<=100000000->JV f s z i r=some (nmL s r z):=by
   intro r
   induction r with
   | nil=>intro i z _ _ _;rw [nmL];rfl
   | cons k r ihr =>
    intro i z hr hzo hzl;rw [Y7] at hzl;have hk:=hr k (Kx ..);have hks:=Fm.WR hk;have hnl:=(P6 s k z).len;rw [JV,Yd,X7,Uw s k (by omega) z hzo (by omega),X7,nmL];exact ihr (i+1) _ (fun x hx=>hr x (Kf _ hx)) (Tr hzo (by omega)) (by omega)
  have hl1:(inN s o f).length<=o.length+1:=by unfold inN;split<;>simp
  have hlp:=loop f.kids 0 _ (fun _ h=>h) (Qcs (s:=s) ho hf) (by omega);rw [Ad,F1];simp only [Yd,X7,Mi f.sc s (by unfold Sm;omega)]
  by_cases h1:f.kind=1
  rotate_left
  ·rw [show inN s o f=o from if_neg (fun h=>h1 h.1)] at hlp ⊢;rw [if_neg h1,X7,if_neg (by decide),X7,if_neg (by decide),X7,HA _ _ _ (by omega),hlp,X7]
  rw [if_pos h1,X7]
  by_cases h2:s∈f.sc
  rotate_left
  ·rw [show inN s o f=o from if_neg (fun h=>h2 h.2.1)] at hlp ⊢;rw [decide_eq_false h2,if_neg (by decide),X7,if_neg (by decide),X7,HA _ _ _ (by omega),hlp,X7]
  rw [decide_eq_true h2,if_pos rfl,Ob o f ⟨by unfold Sm;omega,ho⟩,X7,X7]
  by_cases h3:f∈o
  ·rw [show inN s o f=o from if_neg (fun h=>h.2.2 h3)] at hlp ⊢;rw [decide_eq_true h3,if_neg (by decide),X7,HA _ _ _ (by omega),hlp,X7]
  rw [show inN s o f=o++[f] from if_pos ⟨h1,h2,h3⟩] at hlp ⊢;rw [decide_eq_false h3,if_pos (by decide),A1 f (by omega),X7,YK (by simp;omega),X7,X7,HA _ _ _ (by omega),hlp,X7]
noncomputable def Mn (st:Stp):List Fm:=@ite _ (FV st.res/\1<=st.scope/\st.scope<=99) (Classical.propDecidable _) (nmF st.scope st.res []) []
theorem Mj (st:Stp) (h:st.res.sz<=1000000):WE st=some (Mn st):=by
 obtain ⟨b,hb,hv⟩:=Mh (f:=st.res) (by omega);have:=Cn st.res;rw [WE,hb,X7,Mn];cases b
 ·simp only [ZX,if_true,Yd,X7];rw [if_neg (fun hh=>by cases hv.2 hh.1)]
 simp only [ZY,Qq,if_false,Qhj,Yd,X7]
 by_cases hs:1<=st.scope/\st.scope<=99
 ·simp only [decide_eq_true hs,ZY,Qq,if_false];rw [if_pos ⟨hv.1 rfl,hs.1,hs.2⟩,Qe4 st st.res h [] (fun _ h=>by cases h) (by simp;omega),X7]
 ·simp only [decide_eq_false hs,ZX,if_true];rw [if_neg (fun hh=>hs ⟨hh.2.1,hh.2.2⟩)]
theorem SD (st:Stp) (h:st.res.sz<=1000000):Jv st=some (Mn st):=by
 obtain ⟨b,hb,hv⟩:=Gv (f:=st.res) (by omega);have:=Cn st.res;rw [Jv,hb,X7,Mn];cases b
 ·simp only [ZX,if_true,Yd,X7];rw [if_neg (fun hh=>by cases hv.2 hh.1)]
 simp only [ZY,Qq,if_false,ER,Yd,X7]
 by_cases h1:st.scope≥1
 rotate_left
 ·simp only [decide_eq_false h1,Bool.false_and,ZX,if_true];rw [if_neg (fun hh=>h1 hh.2.1)]
 by_cases h2:st.scope<=99
 rotate_left
 ·simp only [decide_eq_false h2,Bool.and_false,ZX,if_true];rw [if_neg (fun hh=>h2 hh.2.2)]
 simp only [decide_eq_true h1,decide_eq_true h2,Xq,ZY,Qq,if_false];rw [if_pos ⟨hv.1 rfl,h1,h2⟩,Qjx st.scope st.res h [] (fun _ h=>by cases h) (by simp;omega),X7]
theorem Qfb (l:List Fm) (h:OS l) (hl:l.length<=1000000000):AE l l=some true:=by
 have key:∀(r:List Fm) (i:Nat),l.drop i=r->J9 l l i r=some (.inr ()):=by
  intro r
  induction r with
  | nil=>intro i _;rfl
  | cons y r ih =>
   intro i hd
   have hi:i < l.length:=by
    rcases Kz i l.length with h | h
    ·exact h
    ·rw [ZI h] at hd;cases hd
   rw [ZH hi] at hd
   injection hd with e1 e2
   rw [J9,Yd,X7,Yg _ i hi,X7,e1,Ml y (h y (e1▸ZR hi)),X7,decide_eq_true rfl];exact ih (i+1) e2
 rw [AE,if_pos rfl,Fa _ _ (by omega),key l 0 rfl];rfl
theorem Qjv (l:List Int) (n:Int) (h:n∈l) (hl:l.length<=1000000000):A4 l n=some true:=by
 have key:∀(r:List Int) (i:Nat),n∈r->Ge l n i r=some (.inl true):=by
  intro r
  induction r with
  | nil=>intro i h;cases h
  | cons y r ih =>
   intro i h;rw [Ge,Yd,X7]
   by_cases hy:y=n
   ·rw [if_pos hy];rfl
   ·rw [if_neg hy];exact ih (i+1) (by rcases Kj.1 h with h | h;exact absurd h.symm hy;exact h)
 rw [A4,DN _ _ (by omega),key l 0 h];rfl
theorem Qe2 {l:List Int} (h:∀x∈l,0<=x/\x < 256):Tot (V8 l) fun s=>s.res.sz<=1000000:=by
 rw [V8];refine ZK (Qfr h) fun r hr=>?_;split
 ·refine ZK (ED h) fun c hc=>ZK (ED h) fun c2 hc2=>?_
  have hp:Pw 2=1600:=by decide
  refine ZK (TE 2 hc2 (by omega) (by omega)) fun f hf=>?_;have hn:=Cn f.1;refine ZK (Qb8 f.1 hc (by omega) (by omega)) fun g hg=>⟨_,rfl,?_⟩;show g.1.sz<=1000000;omega
 ·rename_i hl;refine ZK (ED h) fun c hc=>ZK (WW hc (by omega) (by omega)) fun p hp=>?_
  have hlt:p.1.toNat < r.length:=by have:=hp.1;have:=hp.2.1;omega
  have hi:idx r p.1=some r[p.1.toNat]:=by
   have:=Yg r p.1.toNat hlt;rwa [Int.toNat_of_nonneg hp.1] at this
  rw [hi,X7];refine ⟨_,rfl,?_⟩;have hm:r[p.1.toNat]∈r:=ZR hlt;have:=(hr.2 _ hm).2;have h1:=this.sz;have h2:=this.2;omega
end Go.Proofs.SA
namespace Go.Proofs.SA
theorem Qnj (l:List Int):SV l↔l.length<=24/\(∀x∈l,1<=x/\x<=99)/\l.Pairwise (· < ·):=by
 have gd:∀(j:Nat) (h:j < l.length),l.getD j 0=l[j]:=fun j h=>by rw [List.getD_eq_getElem?_getD,List.getElem?_eq_getElem h];rfl
 constructor
 ·rintro ⟨h1,h2⟩;refine ⟨h1,fun x hx=>?_,?_⟩
  ·obtain ⟨j,hj,rfl⟩:=ZZ.1 hx;have:=h2 j hj;unfold SP at this;rw [gd j hj] at this;exact ⟨this.1,this.2.1⟩
  ·rw [Kn]
   have key:∀(k i j:Nat) (hi:i < l.length) (hj:j < l.length),i+k+1=j->l[i] < l[j]:=by
    intro k
    induction k with
    | zero =>
     intro i j hi hj hij
     obtain rfl:j=i+1:=by omega
     have:=(h2 (i+1) hj).2.2 (by omega);rwa [Xr,gd i hi,gd (i+1) hj] at this
    | succ k ih =>
     intro i j hi hj hij;obtain ⟨m,rfl⟩:∃m,j=m+1:=⟨j - 1,by omega⟩;have h3:=ih i m hi (by omega) (by omega);have:=(h2 (m+1) hj).2.2 (by omega);rw [Xr,gd m (by omega),gd (m+1) hj] at this;omega
   intro i j hi hj hij;exact key (j - i - 1) i j hi hj (by omega)
 ·rintro ⟨h1,h2,h3⟩;refine ⟨h1,fun j hj=>?_⟩;unfold SP;rw [gd j hj];have:=h2 _ (ZR hj);refine ⟨this.1,this.2,fun h0=>?_⟩;rw [gd (j - 1) (by omega)];exact Kn.1 h3 (j - 1) j (by omega) hj (by omega)
theorem Qni {l:List Int} (h:SV l) (s:Int):SV (L6 l s):=by
 rw [Qnj] at h ⊢;unfold L6;exact ⟨Nat.le_trans (Xp _ _) h.1,fun x hx=>h.2.1 x (Kg.1 hx).1,h.2.2.sublist List.filter_sublist⟩
theorem Qiu (l:List Int) (s:Int):s∉L6 l s:=fun h=>by
 unfold L6 at h;have:=(Kg.1 h).2;simp at this
theorem Qev (l:List Int) (s:Int):s∈Xn l↔s∈l:=by
 unfold Xn Lib.compactUpTo;constructor
 ·intro h;obtain ⟨j,hj,rfl⟩:=QX.1 h;have hj':=Kd.1 (Kg.1 hj).1;simp [hj']
 ·intro h;obtain ⟨j,hj,rfl⟩:=ZZ.1 h
  have key:∀(k:Nat) (hk:k < l.length),l[k]∈((List.range l.length).filter (Xs l.toArray)).map (l.toArray[·]!):=by
   intro k
   induction k with
   | zero =>
    intro hk;exact QX.2 ⟨0,Kg.2 ⟨Kd.2 hk,by simp [Xs]⟩,by simp [hk]⟩
   | succ k ih =>
    intro hk
    by_cases he:l[k+1]=l[k]
    ·rw [he];exact ih (by omega)
    ·refine QX.2 ⟨k+1,Kg.2 ⟨Kd.2 hk,?_⟩,by simp [hk]⟩
     have hk':k < l.length:=by omega
     simp [Xs,hk,hk',he]
  exact key j hj
theorem Qeu (l:List Int):(Xn l).length<=l.length:=by
 unfold Xn Lib.compactUpTo;rw [Xd];have:=Xp (Xs l.toArray) (List.range l.length);rwa [List.length_range] at this
mutual
def drF (s:Int):Fm->Fm
 | .mk k n m sc ks=>.mk k n m (if k=1 then L6 sc s else []) (drL s ks)
def drL (s:Int):List Fm->List Fm
 | []=>[]
 | f :: fs=>drF s f :: drL s fs
end
theorem Qg7 (s:Int):∀l,drL s l=l.map (drF s)
 | []=>rfl
 | f :: fs=>by rw [drL,Qg7 s fs];rfl
theorem N7 (s:Int) (f:Fm):drF s f=.mk f.kind f.name f.num (if f.kind=1 then L6 f.sc s else []) (f.kids.map (drF s)):=by cases f;rw [drF,Qg7];rfl
theorem Qg6 (s:Int) (f:Fm):(drF s f).sz<=f.sz:=by
 induction f using Fm.ind with
 | h f ih =>
  rw [Fm.Jt,Fm.Jt f,N7];have:=MZ (fun x=>ZT (drF s x)) ZT f.kids ih
  have hd:(if f.kind=1 then L6 f.sc s else []).length<=f.sc.length:=by
   split
   ·exact Xp _ _
   ·simp
  simp only [Fm.name,Fm.sc,Fm.kids,O9,Xd] at this hd ⊢;omega
theorem Qb4 (s:Int) (f:Fm):(drF s f).nodes=f.nodes:=by
 induction f using Fm.ind with
 | h f ih =>
  rw [Fm.YO,Fm.YO f,N7]
  have:∀l:List Fm,(∀g∈l,(drF s g).nodes=g.nodes)->Y7 ZU (l.map (drF s))=Y7 ZU l:=by
   intro l
   induction l with
   | nil=>intro _;rfl
   | cons g l ihl=>intro h;rw [QH,Y7,Y7,h g (Kx ..),ihl (fun x hx=>h x (Kf _ hx))]
  show 1+Y7 ZU (f.kids.map (drF s))=_;rw [this _ ih]
theorem Qb3 (s:Int):∀(d:Nat) (f:Fm),FIs d f->FIs d (drF s f)
 | 0,_,h=>h.elim
 | d+1,f,h=>by
  rw [N7]
  rcases h with h | h | h
  ·refine .inl ⟨h.1,h.2.1,h.2.2.1,?_,by show (f.kids.map (drF s)).length=0;rw [Xd];exact h.2.2.2.2⟩;show SV (if f.kind=1 then L6 f.sc s else []);rw [if_pos h.1];exact Qni h.2.2.2.1 s
  ·refine .inr (.inl ⟨h.1,h.2.1,h.2.2.1,h.2.2.2.1,?_,by show (f.kids.map (drF s)).length=0;rw [Xd];exact h.2.2.2.2.2⟩);show (if f.kind=1 then L6 f.sc s else []).length=0;rw [if_neg (by omega)];rfl
  ·refine .inr (.inr ⟨h.1,h.2.1,h.2.2.1,?_,fun k hk=>?_⟩)
   ·show (if f.kind=1 then L6 f.sc s else []).length=0;rw [if_neg (by omega)];rfl
   ·have hk':k∈f.kids.map (drF s):=hk;obtain ⟨g,hg,rfl⟩:=QX.1 hk';exact Qb3 s d g (h.2.2.2.2 g hg)
theorem Qls {f:Fm} (h:FV f) (s:Int):FV (drF s f):=⟨Qb3 s 40 f h.1,by rw [Qb4];exact h.2⟩
theorem Qjz (s:Int):∀(f:Fm),∀o,nmF s (drF s f) o=o:=by
 intro f
 induction f using Fm.ind with
 | h f ih =>
  intro o
  have kids:∀(l:List Fm),(∀g∈l,g∈f.kids)->∀o,nmL s (l.map (drF s)) o=o:=by
   intro l
   induction l with
   | nil=>intro _ o;rw [List.map_nil,nmL]
   | cons g l ihl=>intro h o;rw [QH,nmL,ih g (h g (Kx ..)),ihl (fun x hx=>h x (Kf _ hx))]
  rw [F1]
  have h1:inN s o (drF s f)=o:=by
   unfold inN;refine if_neg (fun h=>?_);rw [N7] at h;have h2:s∈(if f.kind=1 then L6 f.sc s else []):=h.2.1;split at h2
   ·exact Qiu _ _ h2
   ·cases h2
  have hk:(drF s f).kids=f.kids.map (drF s):=by rw [N7];rfl
  rw [h1,hk,kids f.kids (fun _ h=>h)]
theorem Un (s:Int):∀f:Fm,f.sz<=1000000->Yw f s=some (drF s f):=by
 intro f
 induction f using Fm.ind with
 | h f ih =>
  intro hf;have hz:=Fm.Jt f;rw [Yw,N7]
  by_cases hk:f.kind=1
  ·rw [if_pos hk,if_pos hk,Jz,YK (by simp;omega),X7,QS,H7,H8,Qnv];simp only [Yd,X7]
   rw [Iq _ _ _ _ (by omega),H0 (YW f s (L6 f.sc s)) (drF s) (fun _ _=>rfl) f.kids [] 0 (fun x hx z i r hzb=>by
    have:=Fm.WR hx
    rw [YW,Yd,X7,ih x hx (by omega),X7,YK (by simp;omega),X7]) (by simp;omega),X7,QS]
  ·rw [if_neg hk,if_neg hk,Ij _ _ _ (by omega),H0 (YU f s) (drF s) (fun _ _=>rfl) f.kids [] 0 (fun x hx z i r hzb=>by
    have:=Fm.WR hx
    rw [YU,Yd,X7,ih x hx (by omega),X7,YK (by simp;omega),X7]) (by simp;omega),X7,QS]
   rfl
theorem Qhy {f:Fm} (hf:FV f) {s:Int} (hs:1<=s/\s<=99):Io f s=some (drF s f,true):=by
 have hz:=hf.sz;obtain ⟨b,hb,hv⟩:=Mh (f:=f) (by omega);obtain rfl:=hv.2 hf;have hd:=Qls hf s;have hdz:=Qg6 s f;obtain ⟨b2,hb2,hv2⟩:=Mh (f:=drF s f) (by omega);obtain rfl:=hv2.2 hd;rw [Io,VA,hb,X7];simp only [ZY,Qq,if_false,Qhj,Yd,X7,decide_eq_true hs,Un s f (by omega),Cj,hb2,CW _ (show (drF s f).sz<=1000000 by omega)]
mutual
def scF:Fm->List Int
 | .mk _ _ _ sc ks=>sc++scL ks
def scL:List Fm->List Int
 | []=>[]
 | f :: fs=>scF f++scL fs
end
theorem TB (f:Fm):scF f=f.sc++scL f.kids:=by cases f;rw [scF];rfl
theorem Sy:∀f:Fm,(scF f).length<=f.sz:=by
 intro f
 induction f using Fm.ind with
 | h f ih =>
  have:∀l:List Fm,(∀g∈l,(scF g).length<=g.sz)->(scL l).length<=Y7 ZT l:=by
   intro l
   induction l with
   | nil=>intro _;rw [scL];simp
   | cons g l ihl =>
    intro h;have h1:=h g (Kx ..);have h2:=ihl fun x hx=>h x (Kf _ hx);rw [scL,QV,Y7];omega
  have h1:=this f.kids ih;rw [TB,QV,Fm.Jt f];omega
theorem Qe5:∀(f:Fm),f.sz<=1000000->∀o:List Int,o.length+f.sz<=100000000->YN f o=some (o++scF f):=by
 intro f
 induction f using Fm.ind with
 | h f ih =>
  intro hf o ho;have hz:=Fm.Jt f
  have loop:∀(r:List Fm) (i:Nat) (z:List Int),(∀k∈r,k∈f.kids)->z.length+Y7 ZT r<=100000000->YX f z i r=some (z++scL r):=by
   intro r
   induction r with
   | nil=>intro i z _ _;rw [scL,List.append_nil];rfl
   | cons k r ihr =>
    intro i z hr hzl;rw [Y7] at hzl;have hk:=hr k (Kx ..);have hks:=Fm.WR hk;have hl:=Sy k;rw [YX,Yd,X7,ih k hk (by omega) z (by omega),X7,scL,← QD];exact ihr (i+1) _ (fun x hx=>hr x (Kf _ hx)) (by rw [QV];omega)
  rw [YN,Iz,YK (by omega),X7,Yd,X7,Ir _ _ (by omega),loop f.kids 0 _ (fun _ h=>h) (by rw [QV];omega),X7,TB,← QD];rfl
theorem Qc9 {f:Fm} (hf:FV f):I8 f=some (Xn (EG (scF f))):=by
 have hz:=hf.sz;obtain ⟨b,hb,hv⟩:=Mh (f:=f) (by omega);obtain rfl:=hv.2 hf;have hl:=Sy f;rw [I8,hb,X7,if_neg (by decide),Qe5 f (by omega) [] (by simp;omega),X7,QS,Qgb,if_pos (by omega),X7,Qet,X7];rfl
theorem Of (f:Fm) (s:Int):s∈Xn (EG (scF f))↔s∈scF f:=by
 rw [Qev,EG,List.mem_mergeSort]
theorem Qjy (s:Int):∀(f:Fm) (o:List Fm),o≠[]->nmF s f o≠[]:=by
 intro f
 induction f using Fm.ind with
 | h f ih =>
  intro o ho
  have kids:∀(l:List Fm),(∀g∈l,g∈f.kids)->∀o:List Fm,o≠[]->nmL s l o≠[]:=by
   intro l
   induction l with
   | nil=>intro _ o h;rw [nmL];exact h
   | cons g l ihl=>intro h o ho;rw [nmL];exact ihl (fun x hx=>h x (Kf _ hx)) _ (ih g (h g (Kx ..)) o ho)
  rw [F1];refine kids f.kids (fun _ h=>h) _ ?_;unfold inN;split
  ·simp
  ·exact ho
theorem Qcz (s:Int):∀(d:Nat) (f:Fm),FIs d f->s∈scF f->∀o,nmF s f o≠[]
 | 0,_,h,_,_=>h.elim
 | d+1,f,h,hm,o=>by
  have growL:∀(l:List Fm) (o:List Fm),o≠[]->nmL s l o≠[]:=by
   intro l
   induction l with
   | nil=>intro o h;rw [nmL];exact h
   | cons g l ihl=>intro o ho;rw [nmL];exact ihl _ (Qjy s g o ho)
  rw [TB] at hm;rw [F1]
  have leaf:s∈f.sc->f.kind=1->nmL s f.kids (inN s o f)≠[]:=fun hs hk=>by
   refine growL _ _ ?_;unfold inN
   by_cases ho:f∈o
   ·rw [if_neg (fun h=>h.2.2 ho)];exact List.ne_nil_of_mem ho
   ·rw [if_pos ⟨hk,hs,ho⟩];simp
  rcases h with h | h | h
  ·rcases QR.1 hm with hm | hm
   ·exact leaf hm h.1
   ·rw [KB h.2.2.2.2,scL] at hm;cases hm
  ·rcases QR.1 hm with hm | hm
   ·rw [KB h.2.2.2.2.1] at hm;cases hm
   ·rw [KB h.2.2.2.2.2,scL] at hm;cases hm
  ·rcases QR.1 hm with hm | hm
   ·rw [KB h.2.2.2.1] at hm;cases hm
   ·have:∀(l:List Fm),(∀g∈l,FIs d g)->s∈scL l->∀o,nmL s l o≠[]:=by
     intro l
     induction l with
     | nil=>intro _ h;rw [scL] at h;cases h
     | cons g l ihl =>
      intro hl hs o;rw [scL] at hs;rw [nmL]
      rcases QR.1 hs with hs | hs
      ·exact growL _ _ (Qcz s d g (hl g (Kx ..)) hs o)
      ·exact ihl (fun x hx=>hl x (Kf _ hx)) hs _
    exact this f.kids h.2.2.2.2 hm _
theorem Qm6 (s:Int):∀(f:Fm),s∉scF f->∀o,nmF s f o=o:=by
 intro f
 induction f using Fm.ind with
 | h f ih =>
  intro hs o;rw [TB] at hs
  have kids:∀(l:List Fm),(∀g∈l,g∈f.kids)->s∉scL l->∀o,nmL s l o=o:=by
   intro l
   induction l with
   | nil=>intro _ _ o;rw [nmL]
   | cons g l ihl =>
    intro h hn o;rw [scL] at hn;rw [nmL,ih g (h g (Kx ..)) (fun h=>hn (Kb _ h)),ihl (fun x hx=>h x (Kf _ hx)) (fun h=>hn (Ka _ h))]
  have h1:inN s o f=o:=if_neg (fun h=>hs (Kb _ h.2.1));rw [F1,h1,kids f.kids (fun _ h=>h) (fun h=>hs (Ka _ h))]
theorem Qfu (l:List Int) (n:Int) (hl:l.length<=1000000000):A4 l n=some (decide (n∈l)):=by
 by_cases h:n∈l
 ·rw [Qjv l n h hl,decide_eq_true h]
 have key:∀(r:List Int) (i:Nat),n∉r->Ge l n i r=some (.inr ()):=by
  intro r
  induction r with
  | nil=>intro i _;rfl
  | cons y r ih =>
   intro i h;rw [Ge,Yd,X7,if_neg (fun he:y=n=>h (he▸Kx ..))];exact ih (i+1) fun hh=>h (Kf _ hh)
 rw [A4,DN _ _ (by omega),key l 0 h,decide_eq_false h];rfl
theorem D4 {l:List Int} (h:∀x∈l,0<=x/\x < 256):Gc l=some true:=by
 rw [Gc];split
 ·rfl
 obtain ⟨st,hr,hs⟩:=Qe2 h;have hn:=Cn st.res
 have key:OS (Mn st)/\(Mn st).length<=1000000000:=by
  unfold Mn;split
  ·have:=P6 st.scope st.res [];exact ⟨Tr (fun _ h=>by cases h) hs,by have:=this.len;simp at this;omega⟩
  ·exact ⟨(fun _ h=>by cases h),by simp⟩
 obtain ⟨k1,k3⟩:=key;obtain ⟨b,hb,hv⟩:=Mh (f:=st.res) (by omega);rw [hr,X7,Mj st hs,X7,SD st hs,X7,Qfb _ k1 k3,X7,if_neg (by decide),hb,X7];simp only [Yd,X7]
 by_cases hc:FV st.res/\1<=st.scope/\st.scope<=99
 ·obtain ⟨c1,c2,c3⟩:=hc;obtain rfl:=hv.2 c1;rw [decide_eq_true (show st.scope≥1 from c2),decide_eq_true c3,if_pos (by decide),Qhy c1 ⟨c2,c3⟩,X7];have hdz:=Qg6 st.scope st.res
  have hbare:Mn ⟨0,0,st.scope,KS 0 (Qk #[]) 0 [] [],drF st.scope st.res⟩=[]:=by
   unfold Mn;split
   ·exact Qjz st.scope st.res []
   ·rfl
  rw [Mj _ (show (drF st.scope st.res).sz<=1000000 by omega),X7,hbare];have hl:=Sy st.res;have hcl:(Xn (EG (scF st.res))).length<=(scF st.res).length:=Nat.le_trans (Qeu _) (by simp [EG]);simp only [ZN,Int.natCast_zero,decide_true,Xq,if_true,Qc9 c1,X7,Qfu _ _ (show (Xn (EG (scF st.res))).length<=1000000000 by omega)];have he:Mn st=nmF st.scope st.res []:=if_pos ⟨c1,c2,c3⟩;rw [he]
  by_cases hm:st.scope∈scF st.res
  ·have:=Qcz st.scope 40 st.res c1.1 hm []
   have hp:((nmF st.scope st.res []).length:Int) > 0:=by
    have:=List.length_pos_iff.2 this;omega
   rw [decide_eq_true hp,decide_eq_true ((Of _ _).2 hm)];rfl
  ·rw [Qm6 st.scope st.res hm,decide_eq_false (fun h=>hm ((Of _ _).1 h))];rfl
 ·have he:Mn st=[]:=if_neg hc;rw [he]
  have hcond:¬((b&&decide (st.scope≥1))&&decide (st.scope<=99))=true:=fun h=>by
   rw [QG,QG,decide_eq_true_iff,decide_eq_true_iff] at h;exact hc ⟨hv.1 h.1.1,h.1.2,h.2⟩
  rw [if_neg hcond];rfl
end Go.Proofs.SA
