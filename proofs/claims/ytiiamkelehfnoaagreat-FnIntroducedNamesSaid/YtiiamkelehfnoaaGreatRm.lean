/- The reference's expansion from the beginning; core programs checked. -/
import Derived.Test.YtiiamkelehfnoaaGreatRj
import Derived.Test.YtiiamkelehfnoaaGreatFmA
set_option linter.unusedVariables false
set_option linter.unusedSimpArgs false
set_option maxRecDepth 100000
open Go Go.Proofs Go.Proofs.Shadow
open _root_.List renaming getElem_mem → ZP, mem_cons_of_mem → Kf, mem_cons_self → Kx, drop_eq_getElem_cons → ZF, length_map → Xb, drop_of_length_le → ZG, nil_append → QS, length_drop → Xi, mem_cons → Kj, mem_singleton → ZQ, drop_zero → Z3, mem_append → QR, take_of_length_le → Xl, length_cons → ZM, mem_of_mem_drop → QA, append_assoc → QD, map_cons → QH, length_nil → ZL, map_id → Xm
open Tot renaming bind → ZI
open _root_.Bool renaming false_eq_true → Qq, not_false → ZV, not_true → ZW, and_eq_true → QG, or_eq_true → Q9, not_eq_true' → ZU
open _root_.ByteArray renaming mk → Qk
open _root_.Int renaming le_refl → Xj
open Fm renaming nodes → ZS, mk → KQ
open _root_.Nat renaming le_refl → Qt, lt_or_ge → Kz
open Cor renaming kids → Zm, mk → KR
namespace Go.Proofs.SA
def NN (f:Fm):Prop:=f.kind=3/\∀k∈f.kids,k.kind=3/\k.kids.length=2
theorem AL {f:Fm} (hf:f.sz<=100000):Tot (Gg f) fun r=>(NN f/\r=(f.kids.map fun k=>k.kids.getD 0 default,f.kids.map fun k=>k.kids.getD 1 default,true))∨(¬NN f/\r.2.2=false):=by
 have hz:=Fm.JM f
 have loop:∀(r:List Fm) (i:Nat) (z w:List Fm),z.length+r.length<=200000->w.length+r.length<=200000->Tot (Ji f z w i r) fun o=>((∀k∈r,k.kind=3/\k.kids.length=2)/\o=.inr (z++r.map fun k=>k.kids.getD 0 default,w++r.map fun k=>k.kids.getD 1 default))∨(¬(∀k∈r,k.kind=3/\k.kids.length=2)/\∃q,o=.inl q/\q.2.2=false):=by
  intro r
  induction r with
  | nil=>intro i z w _ _;rw [Ji];exact ⟨_,rfl,.inl ⟨by simp,by simp⟩⟩
  | cons k r ih =>
   intro i z w hz hw;simp only [ZM] at hz hw;rw [Ji];simp only [Ye,X7]
   by_cases h3:k.kind=3
   rotate_left
   ·rw [if_neg h3];simp only [X7,if_true];exact ⟨_,rfl,.inr ⟨fun h=>h3 (h k (Kx ..)).1,_,rfl,rfl⟩⟩
   rw [if_pos h3]
   by_cases h2:k.kids.length=2
   rotate_left
   ·simp only [X7,decide_eq_false (show ¬(k.kids.length:Int)=2 by omega),ZV,if_true];exact ⟨_,rfl,.inr ⟨fun h=>h2 (h k (Kx ..)).2,_,rfl,rfl⟩⟩
   have j0:0 < k.kids.length:=by omega
   have j1:1 < k.kids.length:=by omega
   simp only [X7,decide_eq_true (show (k.kids.length:Int)=2 by omega),ZW,Qq,if_false,show idx k.kids 0=some k.kids[0] from Yg _ 0 j0,show idx k.kids 1=some k.kids[1] from Yg _ 1 j1];rw [YH (by simp;omega),X7,YH (by simp;omega),X7];refine (ih (i+1) _ _ (by simp;omega) (by simp;omega)).mono fun o ho=>?_
   rcases ho with ⟨r1,r2⟩ | ⟨r1,r2⟩
   ·refine .inl ⟨fun x hx=>?_,?_⟩
    ·rcases Kj.1 hx with rfl | hx
     ·exact ⟨h3,h2⟩
     ·exact r1 x hx
    ·rw [r2,QH,QH,W1 j0,W1 j1,QD,QD];rfl
   ·exact .inr ⟨fun h=>r1 fun x hx=>h x (Kf _ hx),r2⟩
 rw [Gg,Fg _ _ _ (by omega)];obtain ⟨o,ho,hop⟩:=loop f.kids 0 [] [] (by simp;omega) (by simp;omega);rw [ho,X7]
 rcases hop with ⟨r1,r2⟩ | ⟨r1,q,r2,r3⟩
 ·subst r2;simp only [QS]
  by_cases h3:f.kind=3
  ·exact ⟨_,rfl,.inl ⟨⟨h3,r1⟩,by rw [decide_eq_true h3]⟩⟩
  ·exact ⟨_,rfl,.inr ⟨fun h=>h3 h.1,decide_eq_false h3⟩⟩
 ·subst r2;exact ⟨_,rfl,.inr ⟨fun h=>r1 h.2,r3⟩⟩
theorem Ia {f:Fm} (hf:FV f) (hp:NN f) {j:Nat} (hj:j < 2):∀x∈f.kids.map fun k=>k.kids.getD j default,FV x:=fun x hx=>by
 obtain ⟨k,hk,rfl⟩:=List.mem_map.1 hx;have h2:=(hp.2 k hk).2;simp only [W1 (show j < k.kids.length by omega)];exact (hf.kid hk).kid (ZP _)
theorem DI {f:Fm} (hp:NN f):Y4 ZS (f.kids.map fun k=>k.kids.getD 1 default)+1<=f.nodes:=by
 have:∀l:List Fm,(∀k∈l,k.kids.length=2)->Y4 ZS (l.map fun k=>k.kids.getD 1 default)<=Y4 ZS l:=by
  intro l
  induction l with
  | nil=>intro _;exact Qt _
  | cons k l ih =>
   intro h;have h1:=ih (fun x hx=>h x (Kf _ hx));have h2:=h k (Kx ..)
   have h3:1 < k.kids.length:=by omega
   have h4:=V1 (ZP h3);simp only [QH,Y4,W1 h3];omega
 have h:=this f.kids (fun k hk=>(hp.2 k hk).2);have:=Fm.YK f;omega
theorem Fh {x:Xpn} (hx:XI x) {f:Fm} (hf:FV f) {id b:Int} (hb:b<=60) (hid:NF x.macs id≥0):Tot (Iv x f id b) fun r=>r.2.2=0->XI r.1/\r.1.steps=x.steps+1/\x.steps < b/\FV r.2.1:=by
 have ht0:=hx.t0;have hs0:=hx.s0;rw [Iv];split
 ·exact ⟨_,rfl,fun h=>by simp at h⟩
 rename_i hst;rw [Qbu hx,X7]
 by_cases h1:x.scope+1<=99
 rotate_left
 ·rw [decide_eq_false h1];simp only [ZV,if_true];exact ⟨_,rfl,fun h=>by simp at h⟩
 rw [decide_eq_true h1];simp only [ZW,Qq,if_false];have hml:=RF hid;have hsm:=hx.sm;rw [YJ (by omega) (by omega),Oe _ _ (by exact hsm),X7,Bj (l:=x.macs) hid hml.1,X7,GC _ _ f (by have:=hf.sz;omega),X7]
 have hm:MS (x.macs.getD (NF x.macs id).toNat default):=by
  have:(NF x.macs id).toNat < x.macs.length:=by omega
  rw [W1 this];exact hx.mm _ (ZP this)
 have hcs:=HP hf (x.scope+1) 1;refine ZI (Gh (by omega)) fun b1 hb1=>?_;cases b1
 ·simp only [ZV,if_true];exact ⟨_,rfl,fun h=>by simp at h⟩
 simp only [ZW,Qq,if_false];refine ZI (B0 hx.b.bs hm.1 hm.2.1 (by omega)).true fun r1 _=>?_;split
 ·exact ⟨_,rfl,fun h=>by simp at h⟩
 refine ZI (P4 hx.b.bs hm.1 hm.2.1 (by have:=hm.2.2;omega) (by omega)) fun r2 hr2=>?_
 cases hap:U6 x.binds (x.macs.getD (NF x.macs id).toNat default).lits (x.macs.getD (NF x.macs id).toNat default).rules (chg (x.scope+1) 1 f) with
 | none =>
  rw [hap] at hr2;simp only at hr2;rw [hr2];simp only [ZV,if_true];exact ⟨_,rfl,fun h=>by simp at h⟩
 | some g =>
  rw [hap] at hr2;obtain ⟨rfl,hg⟩:=hr2;have hcg:=HP hg (x.scope+1) 1;simp only [ZW,Qq,if_false];rw [GC _ _ g (by have:=hg.sz;omega),X7];obtain ⟨b2,e2,hb2⟩:=Gh (f:=chg (x.scope+1) 1 g) (by omega);rw [e2,X7];cases b2
  ·simp only [ZV,if_true];exact ⟨_,rfl,fun h=>by simp at h⟩
  ·simp only [ZW,Qq,if_false];refine ⟨_,rfl,fun _=>⟨⟨hx.b,hx.m,hx.i,by show 0<=x.scope+1;omega,h1,by show 0<=x.steps+1;omega,by show x.steps+1<=60;omega,hx.mm⟩,rfl,by omega,hb2.1 rfl⟩⟩
theorem SS:∀(d:Nat) (f:Fm),LN d f->LN d f.strip
 | 0,_,h=>h.elim
 | d+1,f,h=>by
  rw [Fm.Ll];refine ⟨h.1,by show 0<=24;omega,fun k hk=>?_⟩;have hk':k∈f.kids.map Fm.strip:=hk;obtain ⟨y,hy,rfl⟩:=List.mem_map.1 hk';exact SS d y (h.2.2 y hy)
theorem RQ (f:Fm):f.strip.nodes=f.nodes:=by
 induction f using Fm.ind with
 | h f ih =>
  rw [Fm.YK,Fm.YK f,Fm.Ll]
  have:∀l:List Fm,(∀g∈l,g.strip.nodes=g.nodes)->Y4 ZS (l.map Fm.strip)=Y4 ZS l:=by
   intro l
   induction l with
   | nil=>intro _;rfl
   | cons g l ihl=>intro h;rw [QH,Y4,Y4,h g (Kx ..),ihl (fun x hx=>h x (Kf _ hx))]
  show 1+Y4 ZS (f.kids.map Fm.strip)=_;rw [this _ ih]
theorem Qoz:∀(l:List Fm) (h:l.length=3),l[0].nodes+l[1].nodes+l[2].nodes=Y4 ZS l
 | [a,b,c],_=>by simp [Y4];omega
theorem Ft {b:Int} (hb:b<=60):∀(N:Nat) (x:Xpn) (f:Fm),XI x->FV f->(60 - x.steps).toNat * 1000+f.nodes<=N->Tot (YN x f b) (P7 x f.nodes):=by
 intro N
 induction N with
 | zero=>intro x f _ _ h;have:=Hw f;omega
 | succ N ih =>
  intro x f hx hf hN;have hnf:=Fm.YK f;have hkl:=hf.H5;rw [YN]
  by_cases k2:f.kind=2
  ·rw [if_pos k2];exact ⟨_,rfl,fun _=>⟨hx,Xj _,OY _ _ _ e0 _ _ (by simp) _ (by simp) (by simp),by have:=Hw f;simp [Cor.YK,Zm,Y4];omega⟩⟩
  rw [if_neg k2]
  by_cases k1:f.kind=1
  ·rw [if_pos k1];refine ZI (TE hx hf) fun r hr=>⟨_,rfl,fun h=>?_⟩;obtain ⟨a1,a2,a3,a4⟩:=hr h;exact ⟨a1,a2,a3,by have:=Hw f;show (r.2.1.nodes:Int)<=_+400 * (r.1.steps - x.steps);omega⟩
  rw [if_neg k1]
  by_cases hl0:(f.kids.length:Int)=0
  ·rw [if_pos hl0];exact ⟨_,rfl,.bad (by decide)⟩
  rw [if_neg hl0]
  have l0:0 < f.kids.length:=by omega
  rw [show idx f.kids 0=some f.kids[0] from Yg f.kids 0 l0,X7]
  have kid:∀(l:List Fm),(∀g∈l,FV g/\g.nodes < f.nodes)->l.length<=400->∀y,XI y->x.steps<=y.steps->Tot (GR y l b) (PA y l):=fun l hl hll y hy hxy =>
   UO (s0:=x.steps) (fun z g hz hs hg=>ih z g hz (hl g hg).1 (by have:=(hl g hg).2;omega)) hll hy hxy
  have hkids:∀g∈f.kids,FV g/\g.nodes < f.nodes:=fun g hg=>⟨hf.kid hg,by have:=V1 hg;omega⟩
  have call:Tot ((GR x f.kids b>>=fun x80=>pure (x80.1,KR 6 0 (Qk #[]) 0 [] (KQ 0 (Qk #[]) 0 [] []) x80.2.1,x80.2.2)):Option (Xpn × Cor × Int)) (P7 x f.nodes):=by
   refine ZI (kid f.kids hkids (by omega) x hx (Xj _)) fun r hr=>⟨_,rfl,fun h=>?_⟩;obtain ⟨a1,a2,a3,a4,a5⟩:=hr h;refine ⟨a1,a2,OY _ _ _ e0 _ _ (by simp) _ (by omega) a4,?_⟩;show ((KR _ _ _ _ _ _ r.2.1).nodes:Int)<=_+400 * (r.1.steps - x.steps);rw [Cor.YK];simp only [Zm];omega
  by_cases k3:f.kids[0].kind=1
  rotate_left
  ·rw [if_neg k3];exact call
  have hf0:=hf.kid (ZP l0);rw [if_pos k3,X7,Ea x _ hx.b.bs hf0.smc hx.sm,X7]
  by_cases m4:(B5 x f.kids[0]).1=4
  ·rw [if_pos m4];exact ⟨_,rfl,.bad (by decide)⟩
  rw [if_neg m4]
  by_cases m1:(B5 x f.kids[0]).1=1
  rotate_left
  ·rw [if_neg m1]
   by_cases m2:(B5 x f.kids[0]).1=2
   rotate_left
   ·rw [if_neg m2];exact call
   rw [if_pos m2,Br];obtain ⟨r,hr1,hr⟩:=Fh hx hf hb (LW m2);rw [hr1,X7]
   by_cases h0:r.2.2=0
   rotate_left
   ·rw [if_neg h0];exact ⟨_,rfl,.bad h0⟩
   obtain ⟨a1,a2,a3,a4⟩:=hr h0;rw [if_pos h0];have ht0:=hx.t0;refine ZI (ZI (ih r.1 r.2.1 a1 a4 (by have:=a4.2;have:=a1.t1;rw [a2] at *;omega)) fun q hq=>⟨_,rfl,hq⟩) fun q hq=>⟨_,rfl,fun h=>?_⟩;obtain ⟨c1,c2,c3,c4⟩:=hq h;have hn4:=a4.2;refine ⟨c1,by show x.steps<=q.1.steps;omega,c3,?_⟩;show (q.2.1.nodes:Int)<=_+400 * (q.1.steps - x.steps);omega
  rw [if_pos m1]
  have hform:Tot (Jh x f (B5 x f.kids[0]).2 b) (P7 x f.nodes):=by
   generalize (B5 x f.kids[0]).2=id;rw [Jh];simp only [Ye,X7];split
   ·rename_i hq;rw [QG,decide_eq_true_iff,decide_eq_true_iff] at hq
    have l1:1 < f.kids.length:=by omega
    have hv:=hf.kid (ZP l1);rw [show idx f.kids 1=some f.kids[1] from Yg f.kids 1 l1,X7,Fy _ (by have:=hv.sz;omega),X7];refine ⟨_,rfl,fun _=>⟨hx,Xj _,.mk e0 (by simp) (SS _ _ hv.ln) (by rw [RQ];exact hv.2) (by simp) (by simp),?_⟩⟩;have:=Hw f;simp [Cor.YK,Zm,Y4];omega
   split
   ·rename_i hq;rw [QG,decide_eq_true_iff,decide_eq_true_iff] at hq
    have hsub:EK f.kids 1 (f.kids.length:Int)=some (f.kids.drop 1):=by
     unfold EK;rw [if_pos ⟨by omega,by omega,by omega⟩]
     congr 1
     rw [Xl];rfl;rw [Xi];omega
    rw [hsub,X7];refine ZI (kid (f.kids.drop 1) (fun g hg=>hkids g (QA hg)) (by rw [Xi];omega) x hx (Xj _)) fun r hr=>⟨_,rfl,fun h=>?_⟩;obtain ⟨a1,a2,a3,a4,a5⟩:=hr h;refine ⟨a1,a2,OY _ _ _ e0 _ _ (by simp) _ (by rw [a3,Xi];omega) a4,?_⟩;show ((KR _ _ _ _ _ _ r.2.1).nodes:Int)<=_+400 * (r.1.steps - x.steps);rw [Cor.YK];simp only [Zm]
    have:Y4 ZS (f.kids.drop 1)<=Y4 ZS f.kids:=by
     conv=>rhs;rw [← List.take_append_drop 1 f.kids,A6]
     omega
    omega
   have body:∀(hb2:2 < f.kids.length) (names:List Fm),(∀n∈names,FV n)->names.length<=400->∀y,XI y->x.steps<=y.steps->Tot (Ho y names f.kids[2] b) (P7 y (f.kids[2].nodes+1)):=fun hb2 names hn hnl y hy hxy=>by
    have hv:=hf.kid (ZP hb2);have hk:=V1 (ZP hb2);exact LM (s0:=x.steps) hv (fun z g hz hs hg hgn=>ih z g hz hg (by omega)) hn hnl hy hxy
   have lam:Tot ((if (decide (id=1)&&decide ((f.kids.length:Int)=3))=true then (idx f.kids 1>>=fun x72=>some (decide (x72.kind=3))) else some false:Option Bool)) fun c=>c=true->id=1/\f.kids.length=3:=by
    split
    ·rename_i hq;rw [QG,decide_eq_true_iff,decide_eq_true_iff] at hq
     have l1:1 < f.kids.length:=by omega
     rw [show idx f.kids 1=some f.kids[1] from Yg f.kids 1 l1,X7];exact ⟨_,rfl,fun _=>⟨hq.1,by omega⟩⟩
    ·exact ⟨_,rfl,fun h=>by cases h⟩
   refine ZI lam fun c hc=>?_
   by_cases hct:c=true
   ·rw [if_pos hct];obtain ⟨_,h3⟩:=hc hct
    have l1:1 < f.kids.length:=by omega
    have l2:2 < f.kids.length:=by omega
    rw [show idx f.kids 1=some f.kids[1] from Yg f.kids 1 l1,X7,show idx f.kids 2=some f.kids[2] from Yg f.kids 2 l2,X7];have hv1:=hf.kid (ZP l1);have hk2:=V1 (ZP l2);refine ZI (body l2 f.kids[1].kids (fun n hn=>hv1.kid hn) (by have:=hv1.H5;omega) x hx (Xj _)) fun r hr=>⟨_,rfl,fun h=>?_⟩;obtain ⟨a1,a2,a3,a4⟩:=hr h;exact ⟨a1,a2,a3,by show (r.2.1.nodes:Int)<=_+400 * (r.1.steps - x.steps);omega⟩
   rw [if_neg hct];split
   ·exact ⟨_,rfl,.bad (by decide)⟩
   rename_i hq
   have h3:f.kids.length=3:=by
    rw [Q9,not_or] at hq;have:=hq.2;simp only [ZU,decide_eq_false_iff_not,Classical.not_not] at this;omega
   have l1:1 < f.kids.length:=by omega
   have l2:2 < f.kids.length:=by omega
   have hv1:=hf.kid (ZP l1);have hv2:=hf.kid (ZP l2);have hk1:=V1 (ZP l1);have hk2:=V1 (ZP l2);have hsum:=Qoz f.kids h3;have hp0:=Hw f.kids[0];rw [show idx f.kids 1=some f.kids[1] from Yg f.kids 1 l1,X7];refine ZI (AL (by have:=hv1.sz;omega)) fun r hr=>?_
   rcases hr with ⟨hpo,rfl⟩ | ⟨_,hpf⟩
   rotate_left
   ·rw [hpf];simp only [ZV,if_true];exact ⟨_,rfl,.bad (by decide)⟩
   simp only [ZW,Qq,if_false,show idx f.kids 2=some f.kids[2] from Yg f.kids 2 l2,X7];have hn:=Ia hv1 hpo (j:=0) (by omega);have hvs:=Ia hv1 hpo (j:=1) (by omega);have hpn:=DI hpo;have hkl1:=hv1.H5;split
   ·refine ZI (CE (s0:=x.steps) hv2 (fun z g hz hs hg hgn=>ih z g hz hg (by omega)) hn hvs (by simp) (by rw [Xb];omega) hx (Xj _)) fun r hr=>⟨_,rfl,fun h=>?_⟩;obtain ⟨a1,a2,a3,a4⟩:=hr h;exact ⟨a1,a2,a3,by show (r.2.1.nodes:Int)<=_+400 * (r.1.steps - x.steps);omega⟩
   ·refine ZI (kid _ (fun g hg=>⟨hvs g hg,by have:=Ad ZS _ g hg;omega⟩) (by rw [Xb];omega) x hx (Xj _)) fun r hr=>?_
    by_cases h0:r.2.2=0
    rotate_left
    ·rw [if_neg h0];exact ⟨_,rfl,.bad h0⟩
    rw [if_pos h0];obtain ⟨a1,a2,a3,a4,a5⟩:=hr h0;refine ZI (body l2 _ hn (by rw [Xb];omega) r.1 a1 a2) fun q hq=>?_;rw [Xb] at a3;rw [YH (by simp;omega),X7];refine ⟨_,rfl,fun h=>?_⟩;obtain ⟨c1,c2,c3,c4⟩:=hq h;refine ⟨c1,by show x.steps<=q.1.steps;omega,OY _ _ _ e0 _ _ (by simp) _ (by simp;omega) (fun c hc=>?_),?_⟩
    ·rcases Kj.1 hc with rfl | hc
     ·exact c3
     ·exact a4 c hc
    ·show ((KR _ _ _ _ _ _ ([q.2.1]++r.2.1)).nodes:Int)<=_+400 * (q.1.steps - x.steps);rw [Cor.YK];simp only [Zm,List.cons_append,QS,Y4];omega
  exact ZI hform fun r hr=>⟨_,rfl,hr⟩
end Go.Proofs.SA
namespace Go.Proofs.SA
inductive Qcf:Cor->Prop
 | mk {k i:Int} {s:ByteArray} {n:Int} {l:List Int} {d:Fm} {ks:List Cor} (hl:l.length<=1000000) (hd:d.sz<=1000000) (hk:ks.length<=1000000) (h:∀x∈ks,Qcf x):Qcf (.mk k i s n l d ks)
theorem Qcf.out {c:Cor} (h:Qcf c):c.ids.length<=1000000/\c.data.sz<=1000000/\c.kids.length<=1000000/\∀x∈c.kids,Qcf x:=by
 cases h;exact ⟨by assumption,by assumption,by assumption,by assumption⟩
theorem R6.b {c:Cor} (h:R6 c):Qcf c:=by
 induction h with
 | mk hs hl hd hn hk _ ih=>exact .mk (by omega) (by have:=LN.sz _ _ hd;omega) (by omega) ih
def arity (k:Int) (n:Nat):Prop:=((k=1∨k=2∨k=3∨k=4)/\n=0)∨(k=5/\n=1)∨(k=6/\1<=n)∨(k=7/\n=3)
def zF:Fm:=KQ 0 (Qk #[]) 0 [] []
def N6 (c:Cor):Prop:=((c.kind=1->1<=c.id/\c.id<=999)/\(c.kind≠1->c.id=0))/\((c.kind=2->NV c.name)/\(c.kind≠2->c.name=Qk #[]))/\((c.kind=3->0<=c.num/\c.num<=999)/\(c.kind≠3->c.num=0))/\((c.kind=4->FV c.data/\c.data.strip=c.data)/\(c.kind≠4->c.data=zF))/\(c.kind≠5->c.ids=[])
def CIs:Nat->List Int->Cor->Prop
 | 0,_,_=>False
 | d+1,sc,c=>arity c.kind c.kids.length/\N6 c/\(c.kind=1->c.id∈sc)/\(∀i∈c.ids,1<=i/\i<=999/\i∉sc)/\c.ids.Nodup/\∀k∈c.kids,CIs d (sc++c.ids) k
def CV (c:Cor):Prop:=CIs 120 [] c/\c.nodes<=600
theorem TA (k:Int) (n:Nat):Tot (A0 k n) fun b=>b=true↔arity k n:=by
 rw [A0]
 by_cases h1:k=1
 ·subst h1;simp [Ye,X7,arity,Tot]
 by_cases h2:k=2
 ·subst h2;simp [Ye,X7,arity,Tot]
 by_cases h3:k=3
 ·subst h3;simp [Ye,X7,arity,Tot]
 by_cases h4:k=4
 ·subst h4;simp [Ye,X7,arity,Tot]
 by_cases h5:k=5
 ·subst h5;simp [Ye,X7,arity,Tot];omega
 by_cases h6:k=6
 ·subst h6;simp [Ye,X7,arity,Tot];omega
 by_cases h7:k=7
 ·subst h7;simp [Ye,X7,arity,Tot];omega
 simp [Ye,X7,arity,Tot,h1,h2,h3,h4,h5,h6,h7]
theorem Pj {c:Cor} (hd:c.data.sz<=1000000):Tot (H0 c) fun b=>b=true↔N6 c:=by
 have hs:Y9 c.data (KQ 0 (Qk #[]) 0 [] [])=some (decide (c.data=zF)):=Dc _ hd _;obtain ⟨bn,en,hn⟩:=RG c.name;obtain ⟨bf,ef,hf⟩:=Gh (f:=c.data) (by omega);have est:Wd c.data=some c.data.strip:=Fy c.data (by omega);have esm:Y9 c.data.strip c.data=some (decide (c.data.strip=c.data)):=Dc _ (by have:=Fm.Qeq c.data;omega) _
 have hi:decide ((c.ids.length:Int)=0)=decide (c.ids=[]):=by
  by_cases h:c.ids=[]
  ·rw [h];rfl
  ·rw [decide_eq_false h,decide_eq_false];intro h2;exact h (List.eq_nil_of_length_eq_zero (by omega))
 have key:∀(k1 k2 k3 k4 k5:Bool) (iL iG iZ nZ mL mG mZ dS dZ iN:Bool),k1=decide (c.kind=1)->k2=decide (c.kind=2)->k3=decide (c.kind=3)->k4=decide (c.kind=4)->k5=decide (c.kind=5) ->
   iL=decide (c.id < 1)->iG=decide (c.id > 999)->iZ=decide (c.id=0)->nZ=decide (c.name=Qk #[])->mL=decide (c.num < 0)->mG=decide (c.num > 999)->mZ=decide (c.num=0)->dS=decide (c.data.strip=c.data)->dZ=decide (c.data=zF)->iN=decide (c.ids=[]) ->
   H0 c=some (!(if k1 then iL||iG else !iZ)&&!(if k2 then !bn else !nZ)&&!(if k3 then mL||mG else !mZ)&&!(if k4 then !bf||!dS else !dZ)&&(k5||iN)):=by
  intro k1 k2 k3 k4 k5 iL iG iZ nZ mL mG mZ dS dZ iN e1 e2 e3 e4 e5 f1 f2 f3 f4 f5 f6 f7 f8 f9 f10
  have c1:(c.kind=1)=(k1=true):=by rw [e1];simp
  have c2:(c.kind=2)=(k2=true):=by rw [e2];simp
  have c3:(c.kind=3)=(k3=true):=by rw [e3];simp
  have c4:(c.kind=4)=(k4=true):=by rw [e4];simp
  rw [H0];simp only [← e1,← e2,← e3,← e4,← e5,← f1,← f2,← f3,← f4,← f5,← f6,← f7,c1,c2,c3,c4,en,ef,est,esm,hs,hi,← f8,← f9,← f10,Ye,X7];cases k1<;>cases k2<;>cases k3<;>cases k4<;>simp only [X7,Ye,Qq,if_false,if_true,ZW,ZV,Bool.true_and,Bool.false_and,esm,← f8]
  all_goals (cases iL<;>cases iG<;>cases iZ<;>cases nZ<;>first | rfl | (cases bn<;>cases mL<;>cases mG<;>cases mZ<;>first | rfl | (cases bf<;>cases dS<;>cases dZ<;>first | rfl | (cases k5<;>cases iN<;>rfl))))
 refine ⟨_,key _ _ _ _ _ _ _ _ _ _ _ _ _ _ _ rfl rfl rfl rfl rfl rfl rfl rfl rfl rfl rfl rfl rfl rfl rfl,?_⟩;unfold N6;simp only [QG,ZU,Q9,decide_eq_true_eq];rw [← hn,← hf]
 have q1:(if decide (c.kind=1)=true then (decide (c.id < 1)||decide (c.id > 999)) else !decide (c.id=0))=false↔((c.kind=1->1<=c.id/\c.id<=999)/\(c.kind≠1->c.id=0)):=by
  by_cases h:c.kind=1
  ·simp [h]
  ·simp [h]
 have q2:(if decide (c.kind=2)=true then !bn else !decide (c.name=Qk #[]))=false↔((c.kind=2->bn=true)/\(c.kind≠2->c.name=Qk #[])):=by
  by_cases h:c.kind=2
  ·simp [h]
  ·simp [h]
 have q3:(if decide (c.kind=3)=true then (decide (c.num < 0)||decide (c.num > 999)) else !decide (c.num=0))=false↔((c.kind=3->0<=c.num/\c.num<=999)/\(c.kind≠3->c.num=0)):=by
  by_cases h:c.kind=3
  ·simp [h]
  ·simp [h]
 have q4:(if decide (c.kind=4)=true then (!bf||!decide (c.data.strip=c.data)) else !decide (c.data=zF))=false↔((c.kind=4->bf=true/\c.data.strip=c.data)/\(c.kind≠4->c.data=zF)):=by
  by_cases h:c.kind=4
  ·simp [h]
  ·simp [h]
 have q5:(c.kind=5∨c.ids=[])↔(c.kind≠5->c.ids=[]):=by
  by_cases h:c.kind=5
  ·simp [h]
  ·simp [h]
 simp only [decide_eq_true_eq] at q1 q2 q3 q4;rw [q1,q2,q3,q4,q5,and_assoc,and_assoc,and_assoc]
theorem Qnu (c:Cor) (d:Int):∀(r:List Int) (i:Nat) (sc:List Int),sc.length+r.length<=1000000000->(∀x∈r,True)->Tot (Ha c d sc i r) fun o=>match o with
  | .inl q=>q=false/\¬((∀x∈r,1<=x/\x<=999/\x∉sc)/\r.Nodup)
  | .inr q=>q=sc++r/\(∀x∈r,1<=x/\x<=999/\x∉sc)/\r.Nodup:=by
 intro r
 induction r with
 | nil=>intro i sc _ _;rw [Ha];exact ⟨_,rfl,by simp,by simp,by simp⟩
 | cons x r ih =>
  intro i sc hl _;simp only [ZM] at hl;rw [Ha];simp only [Ye,X7]
  have bad:¬(1<=x/\x<=999/\x∉sc)->Tot (some (Sum.inl false):Option (Bool ⊕ List Int)) fun o=>match o with
   | .inl q=>q=false/\¬((∀y∈x :: r,1<=y/\y<=999/\y∉sc)/\(x :: r).Nodup)
   | .inr q=>q=sc++(x :: r)/\(∀y∈x :: r,1<=y/\y<=999/\y∉sc)/\(x :: r).Nodup:=fun h=>⟨_,rfl,rfl,fun h2=>h (h2.1 x (Kx ..))⟩
  by_cases h1:x < 1
  ·simp only [h1,if_true,X7];exact bad (by omega)
  by_cases h2:x > 999
  ·simp only [h1,h2,if_false,if_true,X7,decide_true];exact bad (by omega)
  simp only [h1,h2,if_false,X7,decide_false,Qq,LO sc x (show Sm sc.length by unfold Sm;omega)]
  by_cases h3:x∈sc
  ·simp only [h3,decide_true,if_true];exact bad (fun h=>h.2.2 h3)
  simp only [h3,decide_false,Qq,if_false];rw [YH (by simp;omega)];simp only [X7,QS];rw [YH (by simp;omega)];simp only [X7];refine (ih (i+1) (sc++[x]) (by simp;omega) (fun _ _=>trivial)).mono fun o ho=>?_
  have conv:((∀y∈r,1<=y/\y<=999/\y∉sc++[x])/\r.Nodup)↔((∀y∈x :: r,1<=y/\y<=999/\y∉sc)/\(x :: r).Nodup):=by
   rw [List.nodup_cons];constructor
   ·rintro ⟨a,b⟩;refine ⟨fun y hy=>?_,fun hx=>?_,b⟩
    ·rcases Kj.1 hy with rfl | hy
     ·exact ⟨by omega,by omega,h3⟩
     ·have:=a y hy;exact ⟨this.1,this.2.1,fun h=>this.2.2 (List.mem_append_left _ h)⟩
    ·exact (a x hx).2.2 (by simp)
   ·rintro ⟨a,b,e⟩;refine ⟨fun y hy=>?_,e⟩;have:=a y (Kf _ hy);refine ⟨this.1,this.2.1,fun h=>?_⟩
    rcases QR.1 h with h | h
    ·exact this.2.2 h
    ·rw [ZQ.1 h] at hy;exact b hy
  cases o with
  | inl q=>exact ⟨ho.1,fun h=>ho.2 (conv.2 h)⟩
  | inr q =>
   obtain ⟨a,b⟩:=ho;exact ⟨by rw [a,QD];rfl,conv.1 b⟩
theorem Qd2:∀(d:Nat),d<=120->∀(c:Cor),Qcf c->∀sc:List Int,sc.length+d * 1000000<=900000000->Tot (IW c sc d) fun b=>b=true↔CIs d sc c:=by
 intro d
 induction d with
 | zero=>intro _ c _ sc _;rw [IW,if_pos (by rfl)];simp only [Ye,X7,if_true];exact ⟨_,rfl,fun h=>(by cases h),fun h=>(show False from h).elim⟩
 | succ d ih =>
  intro hd c hc sc hsc;obtain ⟨c1,c2,c3,c4⟩:=hc.out;rw [IW,if_neg (by omega)];have bad:¬CIs (d+1) sc c->Tot (some false:Option Bool) fun b=>b=true↔CIs (d+1) sc c:=fun h=>⟨_,rfl,fun h2=>(by cases h2),fun h2=>absurd h2 h⟩;obtain ⟨b1,e1,h1⟩:=TA c.kind c.kids.length;rw [e1];simp only [Ye,X7];cases b1
  ·simp only [ZV,if_true,X7]
   exact bad fun h=>by have:=h1.2 h.1;cases this
  obtain ⟨b2,e2,h2⟩:=Pj c2;simp only [ZW,Qq,if_false,e2,X7];cases b2
  ·simp only [ZV,if_true,X7]
   exact bad fun h=>by have:=h2.2 h.2.1;cases this
  simp only [ZW,Qq,if_false]
  have h3:((if c.kind=1 then (WI sc c.id>>=fun x34=>some (!x34)) else some false:Option Bool))=some (decide (c.kind=1/\c.id∉sc)):=by
   by_cases hk:c.kind=1
   ·rw [if_pos hk,LO sc c.id (by unfold Sm;omega),X7];by_cases hm:c.id∈sc<;>simp [hk,hm]
   ·rw [if_neg hk];simp [hk]
  rw [h3];simp only [X7]
  by_cases h4:c.kind=1/\c.id∉sc
  ·rw [decide_eq_true h4];simp only [if_true];exact bad fun h=>h4.2 (h.2.2.1 h4.1)
  rw [decide_eq_false h4];simp only [Qq,if_false];rw [Nk _ _ _ (by omega)];obtain ⟨o,ho,hop⟩:=Qnu c ((d+1:Nat):Int) c.ids 0 sc (by omega) (fun _ _=>trivial);rw [ho];simp only [X7]
  cases o with
  | inl q =>
   obtain ⟨rfl,hn⟩:=hop;exact bad fun h=>hn ⟨h.2.2.2.1,h.2.2.2.2.1⟩
  | inr q =>
   obtain ⟨rfl,hi1,hi2⟩:=hop
   simp only
   rw [Nl _ _ _ (by omega)]
   have loop:∀(r:List Cor) (i:Nat),(∀x∈r,x∈c.kids)->Tot (Hb c ((d+1:Nat):Int) (sc++c.ids) i r) fun o=>match o with | .inl b=>b=false/\¬∀k∈r,CIs d (sc++c.ids) k | .inr _=>∀k∈r,CIs d (sc++c.ids) k:=by
    intro r
    induction r with
    | nil=>intro i _;rw [Hb];exact ⟨_,rfl,by simp⟩
    | cons k r ihr =>
     intro i hr;rw [Hb];simp only [Ye,X7];rw [YJ (by omega) (by omega),show ((d+1:Nat):Int) - 1=(d:Int) by omega];refine ZI (ih (by omega) k (c4 k (hr k (Kx ..))) _ (by rw [List.length_append];omega)) fun b hb=>?_;cases b
     ·simp only [ZV,if_true];exact ⟨_,rfl,rfl,fun h=>by have:=hb.2 (h k (Kx ..));cases this⟩
     ·simp only [ZW,Qq,if_false];refine (ihr (i+1) (fun x hx=>hr x (Kf _ hx))).mono fun o ho=>?_
      cases o with
      | inl q=>exact ⟨ho.1,fun h=>ho.2 fun x hx=>h x (Kf _ hx)⟩
      | inr q =>
       exact fun x hx=>by
        rcases Kj.1 hx with rfl | hx
        ·exact hb.1 rfl
        ·exact ho x hx
   obtain ⟨o,ho2,hop2⟩:=loop c.kids 0 (fun _ h=>h);rw [ho2];simp only [X7]
   cases o with
   | inl q=>obtain ⟨rfl,hn⟩:=hop2;exact bad fun h=>hn h.2.2.2.2.2
   | inr q =>
    refine ⟨_,rfl,fun _=>⟨h1.1 rfl,h2.1 rfl,fun hk=>Classical.byContradiction fun hm=>h4 ⟨hk,hm⟩,hi1,hi2,hop2⟩,fun _=>rfl⟩
theorem Qam:∀(c:Cor),Qcf c->c.nodes<=1000000000->GX c=some (c.nodes:Int):=by
 intro c
 induction c using Cor.ind with
 | h c ih =>
  intro hc hn;obtain ⟨c1,c2,c3,c4⟩:=hc.out;have hne:=Cor.YK c
  have loop:∀(r:List Cor) (i:Nat) (m:Nat),(∀x∈r,x∈c.kids)->m+Y4 Cor.nodes r<=1000000000->Jg c (m:Int) i r=some ((m+Y4 Cor.nodes r:Nat):Int):=by
   intro r
   induction r with
   | nil=>intro i m _ _;rw [Jg];rfl
   | cons k r ihr =>
    intro i m hr hm;rw [Y4] at hm;have hk:=hr k (Kx ..);rw [Jg,Ye,X7,ih k hk (c4 k hk) (by omega),X7,YJ (by omega) (by omega),show (m:Int)+(k.nodes:Int)=((m+k.nodes:Nat):Int) by omega,ihr _ _ (fun x hx=>hr x (Kf _ hx)) (by omega),Y4,Nat.add_assoc]
  rw [GX,Fe _ _ (by omega),show (1:Int)=((1:Nat):Int) from rfl,loop c.kids 0 1 (fun _ h=>h) (by omega),X7,hne];rfl
theorem MT {c:Cor} (hc:Qcf c) (hn:c.nodes<=1000000000):Tot (Ib c) fun b=>b=true↔CV c:=by
 rw [Ib];refine ZI (Qd2 120 (by omega) c hc [] (by simp)) fun b hb=>?_;cases b
 ·simp only [Qq,if_false,Ye,X7];exact ⟨_,rfl,fun h=>(by cases h),fun h=>(by have:=hb.2 h.1;cases this)⟩
 ·simp only [if_true,Qam c hc hn,Ye,X7];refine ⟨_,rfl,?_⟩;simp only [decide_eq_true_iff];exact ⟨fun h=>⟨hb.1 rfl,by omega⟩,fun h=>by have:=h.2;omega⟩
theorem PG:Va=some ⟨[⟨(Qk #[108,97,109,98,100,97]),[],1⟩,⟨(Qk #[105,102]),[],2⟩,⟨(Qk #[113,117,111,116,101]),[],3⟩,⟨(Qk #[108,101,116]),[],4⟩,⟨(Qk #[108,101,116,45,115,121,110,116,97,120]),[],5⟩],[],0,10,0⟩:=by
 rw [Va,Bs,Ye,X7]
 have st:∀(i:Nat) (z:List Bnd) (hi:i < 6),z.length<=5->Y1 [(Qk #[]),(Qk #[108,97,109,98,100,97]),(Qk #[105,102]),(Qk #[113,117,111,116,101]),(Qk #[108,101,116]),(Qk #[108,101,116,45,115,121,110,116,97,120])] z (i:Int)=Y1 [(Qk #[]),(Qk #[108,97,109,98,100,97]),(Qk #[105,102]),(Qk #[113,117,111,116,101]),(Qk #[108,101,116]),(Qk #[108,101,116,45,115,121,110,116,97,120])] (z++[⟨[(Qk #[]),(Qk #[108,97,109,98,100,97]),(Qk #[105,102]),(Qk #[113,117,111,116,101]),(Qk #[108,101,116]),(Qk #[108,101,116,45,115,121,110,116,97,120])][i]'hi,[],(i:Int)⟩]) ((i+1:Nat):Int):=fun i z hi hz=>by
  conv=>lhs;rw [Y1,if_pos (by simp;omega),Yg _ i (by simpa using hi),X7,YH (by simp;omega),X7,Wb (i:=i) (by omega)]
 rw [show (1:Int)=((1:Nat):Int) from rfl,st 1 [] (by omega) (by simp),st 2 _ (by omega) (by simp),st 3 _ (by omega) (by simp),st 4 _ (by omega) (by simp),st 5 _ (by omega) (by simp),Y1,if_neg (by simp)];rfl
theorem Qb2 {x:Xpn} (h:Va=some x):XI x:=by
 rw [PG] at h
 injection h with h
 subst h;have nv:∀s:ByteArray,(1<=s.size/\s.size<=12/\∀j,j < s.size->NP s j)->NV s:=fun s h=>.inr (.inr h);have np:∀s:ByteArray,(∀j:Fin s.size,ltr (byt s j.val) (decide ((j.val:Int)=0))=true)->∀j,j < s.size->NP s j:=fun s h j hj=>h ⟨j,hj⟩;refine ⟨⟨by decide,fun b hb=>?_,?_⟩,by decide,by decide,by decide,by decide,by decide,by decide,fun m hm=>by cases hm⟩
 ·have sv:SV []:=⟨by decide,fun j hj=>by simp at hj⟩;simp only [Kj,List.not_mem_nil,or_false] at hb
  rcases hb with rfl | rfl | rfl | rfl | rfl
  ·exact ⟨nv _ ⟨by decide,by decide,np _ (by decide)⟩,sv,by decide,by decide⟩
  ·exact ⟨nv _ ⟨by decide,by decide,np _ (by decide)⟩,sv,by decide,by decide⟩
  ·exact ⟨nv _ ⟨by decide,by decide,np _ (by decide)⟩,sv,by decide,by decide⟩
  ·exact ⟨nv _ ⟨by decide,by decide,np _ (by decide)⟩,sv,by decide,by decide⟩
  ·exact ⟨nv _ ⟨by decide,by decide,np _ (by decide)⟩,sv,by decide,by decide⟩
 ·have h5:([(Qk #[108,97,109,98,100,97]),(Qk #[105,102]),(Qk #[113,117,111,116,101]),(Qk #[108,101,116]),(Qk #[108,101,116,45,115,121,110,116,97,120])]:List ByteArray).Pairwise (· ≠ ·):=by decide
  refine (List.pairwise_map (f:=Bnd.name).1 h5).imp ?_;exact fun h e=>h e.1
theorem Qbs {f:Fm} (hf:f.sz < 1000000000) (b:Int):Tot (BW f b) fun r=>(r.2.2=0->XI r.1/\R6 r.2.1/\CV r.2.1)/\(r.2.2≠0->r.1=⟨[],[],0,0,0⟩/\r.2.1=KR 0 0 (Qk #[]) 0 [] (KQ 0 (Qk #[]) 0 [] []) []):=by
 rw [BW];refine ZI (Gh hf) fun b1 hb1=>?_;simp only [Ye,X7];split
 ·exact ⟨_,rfl,fun h=>by simp at h,fun _=>⟨rfl,rfl⟩⟩
 rename_i hc;rw [Q9,Q9,not_or,not_or] at hc;have hv:FV f:=hb1.1 (by have:=hc.1.1;simpa using this)
 have hb60:b<=60:=by have:=hc.2;simp at this;omega
 obtain ⟨x0,hx0⟩:∃x,Va=some x:=⟨_,PG⟩;have hXI:=Qb2 hx0;rw [hx0];simp only [X7]
 have ht:x0.steps=0:=by rw [PG] at hx0;injection hx0 with hx0;rw [← hx0]
 obtain ⟨r,hr1,hr⟩:=Ft hb60 _ x0 f hXI hv (Qt _);rw [hr1];simp only [X7]
 by_cases h0:r.2.2=0
 rotate_left
 ·rw [if_neg h0];exact ⟨_,rfl,fun h=>absurd h h0,fun _=>⟨rfl,rfl⟩⟩
 rw [if_pos h0];obtain ⟨a1,a2,a3,a4⟩:=hr h0
 have hn:r.2.1.nodes<=1000000000:=by have:=a1.t1;have:=hv.2;omega
 obtain ⟨b2,e2,hb2⟩:=MT a3.b hn;rw [e2];simp only [X7];cases b2
 ·simp only [ZV,if_true];exact ⟨_,rfl,fun h=>by simp at h,fun _=>⟨rfl,rfl⟩⟩
 ·simp only [ZW,Qq,if_false];exact ⟨_,rfl,fun _=>⟨a1,a3,hb2.1 rfl⟩,fun h=>absurd rfl h⟩
theorem Qde:∀c:Cor,Qcf c->HJ c=some c:=by
 intro c
 induction c using Cor.ind with
 | h c ih =>
  intro hc;obtain ⟨c1,c2,c3,c4⟩:=hc.out
  rw [HJ,YH (by simp;omega),X7,QS,AG _ (by omega),X7,F8 _ _ _ _ (by omega),IF (GQ c c.ids c.data) id (fun _ _=>rfl) c.kids [] 0 (fun x hx z i r hz=>by
   rw [GQ,Ye,X7,ih x hx (c4 x hx),X7,YH (by simp;omega),X7];rfl) (by simp;omega)]
  simp only [X7,Ye,QS,Xm,Cor.eta]
theorem LK {f:Fm} (hf:f.sz < 1000000000) (b:Int):Tot (Hy f b) fun r=>(r.2=0->R6 r.1/\CV r.1)/\R6 r.1:=by
 rw [Hy];refine ZI (Qbs hf b) fun r hr=>?_
 have hs:R6 r.2.1:=by
  by_cases h:r.2.2=0
  ·exact (hr.1 h).2.1
  ·rw [(hr.2 h).2];exact OY _ _ _ e0 _ _ (by simp) _ (by simp) (by simp)
 rw [Qde _ hs.b,X7];exact ⟨_,rfl,fun h=>⟨hs,(hr.1 h).2.2⟩,hs⟩
end Go.Proofs.SA
namespace Go.Proofs.SA
inductive Qja (m:Nat):Cor->Prop
 | mk {k i:Int} {s:ByteArray} {n:Int} {l:List Int} {d:Fm} {ks:List Cor} (hl:l.length<=m) (hd:d.sz<=1000/\d.strip=d) (hs:s.size<=1000) (hk:ks.length<=1000) (h:∀x∈ks,Qja m x):Qja m (.mk k i s n l d ks)
theorem Qja.mono {m n:Nat} (hmn:m<=n) {c:Cor} (h:Qja m c):Qja n c:=by
 induction h with
 | mk hl hd hs hk _ ih=>exact .mk (by omega) hd hs hk ih
end Go.Proofs.SA
namespace Go.Proofs.Shadow
def zC:Cor:=KR 0 0 (Qk #[]) 0 [] (KQ 0 (Qk #[]) 0 [] []) []
def zV:Val:=Val.mk 0 0 (Qk #[]) [] zC []
instance:Inhabited Cor:=⟨zC⟩
instance:Inhabited Val:=⟨zV⟩
mutual
def Val.nodes:Val->Nat
 | .mk _ _ _ l _ e=>1+Val.IS l+Slt.IS e
def Val.IS:List Val->Nat
 | []=>0
 | v :: l=>v.nodes+Val.IS l
def Slt.nodes:Slt->Nat
 | .mk _ v=>v.nodes
def Slt.IS:List Slt->Nat
 | []=>0
 | s :: l=>s.nodes+Slt.IS l
end
theorem Val.Hv:∀l,Val.IS l=Y4 Val.nodes l
 | []=>rfl
 | v :: l=>by rw [Val.IS,Y4,Val.Hv l]
theorem Slt.YK (s:Slt):s.nodes=s.val.nodes:=by cases s;rw [Slt.nodes];rfl
theorem Slt.Hv:∀l,Slt.IS l=Y4 Slt.nodes l
 | []=>rfl
 | v :: l=>by rw [Slt.IS,Y4,Slt.Hv l]
theorem Val.YK (v:Val):v.nodes=1+Y4 Val.nodes v.items+Y4 Slt.nodes v.env:=by cases v;rw [Val.nodes,Val.Hv,Slt.Hv];rfl
end Go.Proofs.Shadow
namespace Go.Proofs.SA
end Go.Proofs.SA
namespace Go.Proofs.SA
theorem B6:∀f:Fm,f.nodes<=f.sz+1:=by
 intro f
 induction f using Fm.ind with
 | h f ih =>
  rw [Fm.YK,Fm.JM]
  have key:∀l:List Fm,(∀g∈l,g.nodes<=g.sz+1)->Y4 ZS l<=Y4 Fm.sz l+l.length:=by
   intro l
   induction l with
   | nil=>intro _;exact Qt _
   | cons x l ihl =>
    intro h;have h1:=h x (Kx ..);have h2:=ihl (fun y hy=>h y (Kf _ hy));simp only [Y4,ZM];omega
  have:=key f.kids ih;omega
theorem Qak (f:Fm) (hf:f.sz < 1000000000):Hf f=some f:=by
 have hz:=Fm.JM f
 rw [Hf,YH (by simp only [ZL];omega),X7,QS,CN _ _ _ (by omega),IF (Wy f f.sc) id (fun _ _=>rfl) f.kids [] 0 (fun x hx z i r hz=>by
  have:=Fm.W7 hx
  rw [Wy,Ye,X7,AG x (by omega),X7,YH (by simp;omega),X7];rfl) (by simp;omega),X7,Ye,QS,Xm]
 cases f;rfl
theorem Qaw:∀(f:Fm) {c:Rdr} {k:Nat},RdI c k->f.sz < 1000000000->k+f.nodes < 1099511627776->Tot (HE f c) fun r=>r.1.sz<=f.sz+3 * f.nodes/\RdI r.2 (k+f.nodes):=by
 intro f
 induction f using Fm.ind with
 | h f ih =>
  intro c k h hf hk;have hz:=Fm.JM f;have hn:=Fm.YK f;rw [HE,Qak f (by omega),X7]
  have loop:∀(s:List Int) (n i:Nat) (z:List Fm) {b:List Int} {p:Int} {k:Nat},i+n=f.kids.length->z.length=f.kids.length->z.drop i=f.kids.drop i->RdI ⟨b,p⟩ k->k+Y4 ZS (z.drop i) < 1099511627776->Tot (W2 f f s z (i:Int) b p) fun r=>r.1.length=f.kids.length/\Y4 Fm.sz r.1<=Y4 Fm.sz z+3 * Y4 ZS (z.drop i)/\RdI ⟨r.2.1,r.2.2⟩ (k+Y4 ZS (z.drop i)):=by
   intro s n
   induction n with
   | zero =>
    intro i z b p k hi hl _ hR _;rw [W2,if_neg (by omega)];exact Tot.pure ⟨hl,by simp,hR.mono (by omega)⟩
   | succ n ihn =>
    intro i z b p k hi hl hd hR hk
    have hiz:i < z.length:=by omega
    have hik:i < f.kids.length:=by omega
    have he:z[i]=f.kids[i]:=by
     have:=congrArg (fun l:List Fm=>l[0]?) hd;simpa [hiz,hik] using this
    have hm:z[i]∈f.kids:=by rw [he];exact ZP _
    have hs:=Fm.W7 hm;have hds:=Sh hiz;have hdl:(z.drop i).length=z.length - i:=Xi;rw [W2,if_pos (by omega),Yg z i hiz,X7];rw [hds] at hk ⊢;refine ZI (ih _ hm hR (by omega) (by omega)) fun r hr=>?_;rw [X7]
    have hw:IntKind.i64.wrap ((i:Int)+1)=((i+1:Nat):Int):=by rw [YJ (by omega) (by omega)];omega
    rw [hw]
    have e1:(z.set ((i:Int).toNat) r.1).drop (i+1)=z.drop (i+1):=by
     rw [Int.toNat_natCast,List.drop_set_of_lt (by omega)]
    have e2:(z.drop (i+1))=f.kids.drop (i+1):=by
     have:=congrArg (List.drop 1) hd;simpa [List.drop_drop,Nat.add_comm] using this
    have h3:=OA Fm.sz z (i:Int).toNat r.1 (by simpa using hiz);refine (ihn (i+1) _ (by omega) (by rw [List.length_set];exact hl) (by rw [e1,e2]) hr.2 (by rw [e1];omega)).mono fun q hq=>?_;rw [e1] at hq;obtain ⟨q1,q2,q3⟩:=hq;have:=hr.1;simp only [Int.toNat_natCast] at h3 q2;exact ⟨q1,by omega,q3.mono (by omega)⟩
  have tail:∀(s:List Int) {b:List Int} {p:Int},s.length<=f.sc.length+3->RdI ⟨b,p⟩ (k+1)->Tot (W2 f f s f.kids 0 b p>>=fun (q:List Fm × List Int × Int)=>(pure (KQ f.kind f.name f.num s q.1,Rdr.mk q.2.1 q.2.2):Option (Fm × Rdr))) fun r=>r.1.sz<=f.sz+3 * f.nodes/\RdI r.2 (k+f.nodes):=by
   intro s b p hs hR;refine ZI (loop s f.kids.length 0 f.kids (by omega) rfl rfl hR (by rw [Z3];omega)) fun q hq=>?_;rw [Z3] at hq;obtain ⟨q1,q2,q3⟩:=hq;refine Tot.pure ⟨?_,q3.mono (by omega)⟩
   simp only;rw [Cx];omega
  by_cases h1:f.kind=1
  ·rw [if_pos h1];refine ZI (p:=fun (y:List Int × List Int × Int)=>y.1.length<=3/\RdI ⟨y.2.1,y.2.2⟩ (k+1)) ?_ fun y hy=>tail y.1 (by omega) hy.2;refine ZI (WL h (by omega) (by omega)) fun q hq=>?_;refine ZI (Il hq.1 hq.2.1) fun s hs=>?_
   have h3:∀s∈([[],[1],[2],[1,2],[1,3],[1,2,3],[99]]:List (List Int)),s.length<=3:=by decide
   have:=h3 s hs;refine ZI (Bl (by simp only [ZL];omega)) fun z hz'=>?_;subst hz';exact Tot.pure ⟨by simpa using this,hq.2.2⟩
  ·rw [if_neg h1,Ye,X7];exact tail f.sc (by omega) (h.mono (by omega))
theorem LP:∀f:Fm,f.sz<=1000000->J4 f=some f:=by
 intro f
 induction f using Fm.ind with
 | h f ih =>
  intro hf;have hz:=Fm.JM f
  rw [J4,GA,YH (by simp only [ZL];omega),X7,QS,D7 _ _ _ (by omega),IF (JI f f.sc) id (fun _ _=>rfl) f.kids [] 0 (fun x hx z i r hz=>by
   have:=Fm.W7 hx
   rw [JI,Ye,X7,ih x hx (by omega),X7,YH (by simp;omega),X7];rfl) (by simp;omega),X7,Ye,QS,Xm]
  cases f;rfl
theorem LQ (a b:List Int) (ha:a.length<=1000000):Jk a b=some (decide (a=b)):=by
 rw [Jk]
 by_cases hl:a.length=b.length
 rotate_left
 ·rw [if_neg (by omega),decide_eq_false (fun h=>hl (by rw [h]))];rfl
 rw [if_pos (by omega),BA _ _ (by omega)]
 have key:∀(l:List Int) (i:Nat),a.drop i=l->Vt a b i l=some (if l=b.drop i then .inr () else .inl false):=by
  intro l
  induction l with
  | nil =>
   intro i h
   have:a.length<=i:=by have:=congrArg List.length h;simp at this;omega
   rw [if_pos (by rw [ZG (by omega)])];rfl
  | cons x l ih =>
   intro i h
   have hi:i < a.length:=by
    rcases Kz i a.length with h2 | h2
    ·exact h2
    ·rw [ZG h2] at h;cases h
   rw [ZF hi] at h
   injection h with e1 e2
   have hib:i < b.length:=by omega
   rw [Vt,Ye,X7,Yg _ _ hib,X7,ZF hib]
   by_cases hx:x=b[i]
   ·rw [if_pos hx,ih _ e2];simp only [hx,List.cons.injEq,true_and]
   ·rw [if_neg hx,if_neg (fun h=>hx (by injection h))];rfl
 rw [key a 0 (Z3 ..),Z3,X7]
 by_cases h:a=b
 ·rw [if_pos h,decide_eq_true h];rfl
 ·rw [if_neg h,decide_eq_false h];rfl
theorem B1:∀f:Fm,f.sz<=1000000->∀g:Fm,VB f g=some (decide (f=g)):=by
 intro f
 induction f using Fm.ind with
 | h f ih =>
  intro hf g;have hz:=Fm.JM f
  have kids:f.kids.length=g.kids.length->Yp f.kids g.kids 0 f.kids=some (if f.kids=g.kids then .inr () else .inl false):=by
   intro hl
   have key:∀(l:List Fm) (i:Nat),f.kids.drop i=l->Yp f.kids g.kids i l=some (if l=g.kids.drop i then .inr () else .inl false):=by
    intro l
    induction l with
    | nil =>
     intro i h
     have:f.kids.length<=i:=by have:=congrArg List.length h;simp at this;omega
     rw [if_pos (by rw [ZG (by omega)])];rfl
    | cons x l ihl =>
     intro i h
     have hi:i < f.kids.length:=by
      rcases Kz i f.kids.length with h2 | h2
      ·exact h2
      ·rw [ZG h2] at h;cases h
     rw [ZF hi] at h
     injection h with e1 e2
     have hib:i < g.kids.length:=by omega
     have hm:x∈f.kids:=e1▸ZP hi;have:=Fm.W7 hm;rw [Yp,Ye,X7,Yg _ _ hib,X7,ih x hm (by omega),X7,ZF hib]
     by_cases hx:x=g.kids[i]
     ·rw [decide_eq_true hx];simp only [ZW,Qq,if_false];rw [ihl _ e2];simp only [hx,List.cons.injEq,true_and]
     ·rw [decide_eq_false hx];show some (Sum.inl false)=_;rw [if_neg (fun h=>hx (by injection h))]
   have:=key f.kids 0 (Z3 ..);rwa [Z3] at this
  rw [VB,Ye,X7,Ye,X7]
  by_cases h:f=g
  ·subst h;simp only [decide_true,Bool.and_self,if_true,LQ _ _ (show f.sc.length<=1000000 by omega),X7,Ye];rw [YC,if_pos rfl,Vl _ _ (by omega),kids rfl,if_pos rfl];rfl
  ·rw [decide_eq_false h]
   by_cases c1:(decide (f.kind=g.kind)&&decide (f.name=g.name)&&decide (f.num=g.num))=true
   rotate_left
   ·rw [if_neg c1];rfl
   rw [if_pos c1,LQ _ _ (show f.sc.length<=1000000 by omega),X7,Ye,X7]
   by_cases c2:f.sc=g.sc
   rotate_left
   ·rw [decide_eq_false c2];rfl
   rw [decide_eq_true c2,if_pos rfl,YC]
   by_cases c3:f.kids.length=g.kids.length
   rotate_left
   ·rw [if_neg (by omega)];rfl
   rw [if_pos (by omega),Vl _ _ (by omega),kids c3,if_neg]
   ·rfl
   ·intro c4;simp only [QG,decide_eq_true_eq] at c1;apply h;cases f;cases g;simp only [Fm.kind,Fm.name,Fm.num,Fm.sc,Fm.kids] at c1 c2 c4;rw [c1.1.1,c1.1.2,c1.2,c2,c4]
end Go.Proofs.SA
namespace Go.Proofs.SA
theorem Qhk (l:List Int) (x:Int) (h:l.length<=1000000000):Wn l x=some (decide (x∈l)):=by
 have key:∀(r:List Int) (i:Nat),(x∈r->∃k:Nat,Vg l x i r=some (.inl (k:Int)))/\(x∉r->Vg l x i r=some (.inr ())):=by
  intro r
  induction r with
  | nil=>intro i;exact ⟨fun h=>(by cases h),fun _=>rfl⟩
  | cons y r ih =>
   intro i;rw [Vg,Ye,X7]
   by_cases hxy:x=y
   ·rw [if_pos hxy];exact ⟨fun _=>⟨i,rfl⟩,fun h=>absurd (hxy▸Kx ..) h⟩
   ·rw [if_neg hxy];obtain ⟨h1,h2⟩:=ih (i+1);exact ⟨fun h=>h1 (by rcases Kj.1 h with h | h;exact absurd h hxy;exact h),fun h=>h2 fun h3=>h (Kf _ h3)⟩
 obtain ⟨h1,h2⟩:=key l 0;rw [Wn,GB,BB _ _ (by omega)]
 by_cases hx:x∈l
 ·obtain ⟨k,hk⟩:=h1 hx;rw [hk,X7,decide_eq_true hx];simp only [Ye,X7];rw [decide_eq_true (by omega)]
 ·rw [h2 hx,X7,decide_eq_false hx];rfl
noncomputable instance:DecidableEq Cor:=fun a b=>Classical.propDecidable (a=b)
theorem Qku (a b c:Int):JP a b c=some (decide (b<=a/\a<=c)):=by
 rw [JP,Ye,X7,Ye,Bool.decide_and]
end Go.Proofs.SA
namespace Go.Proofs.SA
def SOk (s:Stp):Prop:=FV s.use/\FV s.res
def Ht (x:Xpn) (out:List Stp):Prop:=(∀s∈out,SOk s)/\(out.length:Int)<=x.steps
def P10 (x:Xpn) (r:Xpn × List Stp × Int):Prop:=(∀s∈r.2.1,SOk s)/\r.2.1.length<=60/\(r.2.2=0->XI r.1/\x.steps<=r.1.steps/\(r.2.1.length:Int)<=r.1.steps)
theorem Ht.le {x:Xpn} (hx:XI x) {out:List Stp} (h:Ht x out):out.length<=60:=by have:=h.2;have:=hx.t1;omega
theorem Ht.to {x y:Xpn} {out:List Stp} (h:Ht x out) (hs:x.steps<=y.steps):Ht y out:=⟨h.1,by have:=h.2;omega⟩
theorem P10.bad {x y:Xpn} (hx:XI x) {out:List Stp} (h:Ht x out) {e:Int} (he:e≠0):P10 x (y,out,e):=⟨h.1,h.le hx,fun h0=>absurd h0 he⟩
theorem P10.to {x y:Xpn} {r:Xpn × List Stp × Int} (h:P10 y r) (hs:x.steps<=y.steps):P10 x r:=⟨h.1,h.2.1,fun h0=>by obtain ⟨a,b,c⟩:=h.2.2 h0;exact ⟨a,by omega,c⟩⟩
theorem P10.of7 {x y:Xpn} (hx:XI x) {out:List Stp} (h:Ht x out) {n:Nat} {c:Cor} {e:Int} (h7:P7 x n (y,c,e)):P10 x (y,out,e):=⟨h.1,h.le hx,fun h0=>by
 obtain ⟨a,b,_⟩:=h7 h0
 exact ⟨a,b,Int.le_trans h.2 b⟩⟩
theorem Qgz {b:Int} (hb:b<=60) (x:Xpn) (f:Fm) (hx:XI x) (hf:FV f):Tot (YN x f b) (P7 x f.nodes):=Ft hb _ x f hx hf (Qt _)
theorem Qd9:FV (KQ 2 (Qk #[]) 0 [] []):=⟨.inr (.inl ⟨rfl,rfl,by decide,by decide,rfl,rfl⟩),by rw [Fm.YK];decide⟩
theorem Qdk (e:Int):∃r,I3 e=some r/\r≠0:=by
 rw [I3];split
 ·exact ⟨_,rfl,by decide⟩
 ·rename_i h;exact ⟨_,rfl,h⟩
theorem Su {b:Int} (hb:b<=60) {x:Xpn} {f:Fm} (hx:XI x) (hf:FV f) (hk:f.kind=3) (l0:0 < f.kids.length) (h0:f.kids[0].kind=1) (hm:(B5 x f.kids[0]).1=1):Tot (Jh x f (B5 x f.kids[0]).2 b) (P7 x f.nodes):=by
 obtain ⟨r,hr,hp⟩:=Qgz hb x f hx hf;have hf0:=hf.kid (ZP l0);rw [YN,if_neg (by omega),if_neg (by omega),if_neg (by omega),show idx f.kids 0=some f.kids[0] from Yg f.kids 0 l0,X7,if_pos h0,X7,Ea x _ hx.b.bs hf0.smc hx.sm,X7,if_neg (by rw [hm];decide),if_pos hm] at hr
 cases hq:Jh x f (B5 x f.kids[0]).2 b with
 | none=>rw [hq] at hr;cases hr
 | some q =>
  rw [hq,X7] at hr
  injection hr with hr
  subst hr;exact ⟨q,rfl,hp⟩
theorem NR {b s0:Int} {l:List Fm} (hE:∀x f out,XI x->s0<=x.steps->f∈l->Ht x out->Tot (Yx x f b out) (P10 x)) (hl:l.length<=400) {x:Xpn} (hx:XI x) (hs:s0<=x.steps) {out:List Stp} (ho:Ht x out):Tot (Y3 x l b out) (P10 x):=by
 have loop:∀(r:List Fm) (i:Nat) (y:Xpn) (z:List Stp),(∀f∈r,f∈l)->XI y->s0<=y.steps->x.steps<=y.steps->Ht y z ->
   Tot (Wo l b y.binds y.macs y.scope y.id y.steps z i r) fun o=>match o with
    | .inl q=>q.2.2≠0/\(∀s∈q.2.1,SOk s)/\q.2.1.length<=60
    | .inr (q0,q1,q2,q3,q4,z')=>XI ⟨q0,q1,q2,q3,q4⟩/\x.steps<=q4/\Ht ⟨q0,q1,q2,q3,q4⟩ z':=by
  intro r
  induction r with
  | nil=>intro i y z _ hy _ hxy hz;rw [Wo];exact ⟨_,rfl,hy,hxy,hz⟩
  | cons f r ih =>
   intro i y z hr hy hs hxy hz;rw [Wo,Ye,X7];refine ZI (hE ⟨y.binds,y.macs,y.scope,y.id,y.steps⟩ f z hy hs (hr f (Kx ..)) hz) fun q hq=>?_
   by_cases h0:q.2.2=0
   ·rw [if_pos h0];obtain ⟨c1,c2,c3⟩:=hq.2.2 h0;have c2':y.steps<=q.1.steps:=c2;exact ih (i+1) q.1 q.2.1 (fun g hg=>hr g (Kf _ hg)) c1 (by omega) (by omega) ⟨hq.1,c3⟩
   ·rw [if_neg h0];exact ⟨_,rfl,h0,hq.1,hq.2.1⟩
 rw [Y3,DM _ _ _ _ _ _ _ _ (by omega)];obtain ⟨o,ho1,hop⟩:=loop l 0 x out (fun _ h=>h) hx hs (Xj _) ho;rw [ho1,X7]
 cases o with
 | inl q=>exact ⟨_,rfl,hop.2.1,hop.2.2,fun h=>absurd h hop.1⟩
 | inr q =>
  obtain ⟨q0,q1,q2,q3,q4,z⟩:=q;obtain ⟨a1,a2,a3⟩:=hop;exact ⟨_,rfl,a3.1,a3.le a1,fun _=>⟨a1,a2,a3.2⟩⟩
theorem Qdq {b:Int} (hb:b<=60) {body:Fm} (hf:FV body) {x:Xpn} (hE:∀y g out,XI y->x.steps<=y.steps->FV g->g.nodes=body.nodes->Ht y out->Tot (Yx y g b out) (P10 y)) {names:List Fm} (hn:∀n∈names,FV n) (hl:names.length<=400) (hx:XI x) {out:List Stp} (ho:Ht x out):Tot (Gk x names body b out) (P10 x):=by
 rw [Gk];refine ZI (LM (s0:=x.steps) Qd9 (fun y g hy _ hg _=>Qgz hb y g hy hg) hn hl hx (Xj _)) fun r hr=>?_
 by_cases h0:r.2.2=0
 rotate_left
 ·rw [if_neg h0];exact ⟨_,rfl,.bad hx ho h0⟩
 rw [if_pos h0];obtain ⟨a1,a2,_⟩:=hr h0;have hcs:=HP hf r.1.scope 0;rw [GC _ _ body (by have:=hf.sz;omega),X7];refine ZI (Gh (by omega)) fun b1 hb1=>?_;cases b1
 ·simp only [ZV,if_true];exact ⟨_,rfl,.bad hx ho (by decide)⟩
 simp only [ZW,Qq,if_false];exact ZI (hE r.1 _ out a1 a2 (hb1.1 rfl) (Ag _ _ _) (ho.to a2)) fun q hq=>⟨_,rfl,hq.to a2⟩
theorem Qb3 {b:Int} (hb:b<=60) {x:Xpn} (hx:XI x) {f:Fm} (hf:FV f) {id:Int} (hid:NF x.macs id≥0) (hE:∀y g out,XI y->y.steps=x.steps+1->x.steps < 60->FV g->Ht y out->Tot (Yx y g b out) (P10 y)) {out:List Stp} (ho:Ht x out):Tot (HA x f id b out) (P10 x):=by
 have hml:=RF hid
 have hm:MS (x.macs.getD (NF x.macs id).toNat default):=by
  have:(NF x.macs id).toNat < x.macs.length:=by omega
  rw [W1 this];exact hx.mm _ (ZP this)
 rw [HA,Oe _ _ hx.sm,X7,Bj (l:=x.macs) hid hml.1,X7];refine ZI (Fh hx hf hb hid) fun r hr=>?_
 by_cases h0:r.2.2=0
 rotate_left
 ·rw [if_neg h0];exact ⟨_,rfl,.bad hx ho h0⟩
 rw [if_pos h0];obtain ⟨a1,a2,a3,a4⟩:=hr h0;have hcs:=HP hf r.1.scope 1;rw [GC _ _ f (by have:=hf.sz;omega),X7];refine ZI (B0 hx.b.bs hm.1 hm.2.1 (by omega)).true fun r1 _=>?_;have hol:=ho.le hx;rw [YH (by simp;omega),X7];refine ZI (hE r.1 r.2.1 _ a1 a2 (by omega) a4 ⟨fun s hs=>?_,by have:=ho.2;simp;omega⟩) fun q hq=>⟨_,rfl,hq.to (by omega)⟩
 rcases QR.1 hs with hs | hs
 ·exact ho.1 s hs
 ·rw [ZQ.1 hs];exact ⟨hf,a4⟩
theorem Qa8 {b:Int} (hb:b<=60) {x:Xpn} (hx:XI x) {f:Fm} (hf:FV f) {id:Int} (hF:Tot (Jh x f id b) (P7 x f.nodes)) (hA:∀y g out,XI y->x.steps<=y.steps->FV g->g.nodes < f.nodes->Ht y out->Tot (Yx y g b out) (P10 y)) (hB:∀y g out,XI y->x.steps<=y.steps->FV g->g.nodes < f.nodes->Ht y out->Tot (Yx y g b out) (P10 y)) {out:List Stp} (ho:Ht x out):Tot (Hz x f id b out) (P10 x):=by
 have hnf:=Fm.YK f;have hkl:=hf.H5
 have kid:∀(l:List Fm),(∀g∈l,FV g/\g.nodes < f.nodes)->l.length<=400->Tot (Y3 x l b out) (P10 x):=fun l hl hll =>
  NR (s0:=x.steps) (fun z g o hz hs hg hoz=>hA z g o hz hs (hl g hg).1 (hl g hg).2 hoz) hll hx (Xj _) ho
 have hkids:∀g∈f.kids,FV g/\g.nodes < f.nodes:=fun g hg=>⟨hf.kid hg,by have:=V1 hg;omega⟩
 have body:∀(hb2:2 < f.kids.length) (names:List Fm),(∀n∈names,FV n)->names.length<=400->∀y o,XI y->x.steps<=y.steps->Ht y o->Tot (Gk y names f.kids[2] b o) (P10 y):=fun hb2 names hn hnl y o hy hxy hoy=>by
  have hv:=hf.kid (ZP hb2);have hk:=V1 (ZP hb2);exact Qdq hb hv (fun z g o2 hz hs hg hgn hoz=>hB z g o2 hz (by omega) hg (by omega) hoz) hn hnl hy hoy
 rw [Hz];simp only [Ye,X7];split
 ·rename_i hq;rw [QG,decide_eq_true_iff,decide_eq_true_iff] at hq
  have hsub:EK f.kids 1 (f.kids.length:Int)=some (f.kids.drop 1):=by
   unfold EK;rw [if_pos ⟨by omega,by omega,by omega⟩]
   congr 1
   rw [Xl];rfl;rw [Xi];omega
  rw [hsub,X7];exact ZI (kid (f.kids.drop 1) (fun g hg=>hkids g (QA hg)) (by rw [Xi];omega)) fun r hr=>⟨_,rfl,hr⟩
 have lam:Tot ((if (decide (id=1)&&decide ((f.kids.length:Int)=3))=true then (idx f.kids 1>>=fun x72=>some (decide (x72.kind=3))) else some false:Option Bool)) fun c=>c=true->id=1/\f.kids.length=3:=by
  split
  ·rename_i hq;rw [QG,decide_eq_true_iff,decide_eq_true_iff] at hq
   have l1:1 < f.kids.length:=by omega
   rw [show idx f.kids 1=some f.kids[1] from Yg f.kids 1 l1,X7];exact ⟨_,rfl,fun _=>⟨hq.1,by omega⟩⟩
  ·exact ⟨_,rfl,fun h=>by cases h⟩
 refine ZI lam fun c hc=>?_
 by_cases hct:c=true
 ·rw [if_pos hct];obtain ⟨_,h3⟩:=hc hct
  have l1:1 < f.kids.length:=by omega
  have l2:2 < f.kids.length:=by omega
  rw [show idx f.kids 1=some f.kids[1] from Yg f.kids 1 l1,X7,show idx f.kids 2=some f.kids[2] from Yg f.kids 2 l2,X7];have hv1:=hf.kid (ZP l1);exact ZI (body l2 f.kids[1].kids (fun n hn=>hv1.kid hn) (by have:=hv1.H5;omega) x out hx (Xj _) ho) fun r hr=>⟨_,rfl,hr⟩
 rw [if_neg hct]
 have pairs:∀(h3:f.kids.length=3),∃l1:1 < f.kids.length,∃l2:2 < f.kids.length,idx f.kids 1=some f.kids[1]/\idx f.kids 2=some f.kids[2]/\FV f.kids[1]/\FV f.kids[2]:=fun h3=>by
  have l1:1 < f.kids.length:=by omega
  have l2:2 < f.kids.length:=by omega
  exact ⟨l1,l2,Yg f.kids 1 l1,Yg f.kids 2 l2,hf.kid (ZP l1),hf.kid (ZP l2)⟩
 split
 ·rename_i hq;rw [QG,decide_eq_true_iff,decide_eq_true_iff] at hq;obtain ⟨l1,l2,e1,e2,hv1,hv2⟩:=pairs (by omega);have hk1:=V1 (ZP l1);rw [e1,X7];refine ZI (AL (by have:=hv1.sz;omega)) fun r hr=>?_
  rcases hr with ⟨hpo,rfl⟩ | ⟨_,hpf⟩
  rotate_left
  ·rw [hpf];simp only [ZV,if_true];exact ⟨_,rfl,.bad hx ho (by decide)⟩
  simp only [ZW,Qq,if_false];have hn:=Ia hv1 hpo (j:=0) (by omega);have hvs:=Ia hv1 hpo (j:=1) (by omega);have hpn:=DI hpo;have hkl1:=hv1.H5;refine ZI (kid _ (fun g hg=>⟨hvs g hg,by have:=Ad ZS _ g hg;omega⟩) (by rw [Xb];omega)) fun r hr=>?_
  by_cases h0:r.2.2=0
  rotate_left
  ·rw [if_neg h0];exact ⟨_,rfl,hr⟩
  rw [if_pos h0];obtain ⟨a1,a2,a3⟩:=hr.2.2 h0;rw [e2,X7];exact ZI (body l2 _ hn (by rw [Xb];omega) r.1 r.2.1 a1 a2 ⟨hr.1,a3⟩) fun q hq=>⟨_,rfl,hq.to a2⟩
 split
 ·rename_i hq;rw [QG,decide_eq_true_iff,decide_eq_true_iff] at hq;obtain ⟨l1,l2,e1,e2,hv1,hv2⟩:=pairs (by omega);have hk2:=V1 (ZP l2);rw [e1,X7];refine ZI (AL (by have:=hv1.sz;omega)) fun r hr=>?_
  rcases hr with ⟨hpo,rfl⟩ | ⟨_,hpf⟩
  rotate_left
  ·rw [hpf];simp only [ZV,if_true];exact ⟨_,rfl,.bad hx ho (by decide)⟩
  simp only [ZW,Qq,if_false];have hn:=Ia hv1 hpo (j:=0) (by omega);have hvs:=Ia hv1 hpo (j:=1) (by omega);have hkl1:=hv1.H5;refine ZI (CE (s0:=x.steps) Qd9 (fun y g hy _ hg _=>Qgz hb y g hy hg) hn hvs (by simp) (by rw [Xb];omega) hx (Xj _)) fun r hr=>?_;have hcs:=HP hv2 r.1.scope 0;rw [e2,X7,GC _ _ _ (by have:=hv2.sz;omega),X7]
  by_cases h0:r.2.2=0
  rotate_left
  ·rw [if_neg h0,X7,if_pos rfl];obtain ⟨e,he,hne⟩:=Qdk r.2.2;rw [he,X7];exact ⟨_,rfl,.bad hx ho hne⟩
  rw [if_pos h0];obtain ⟨b1,hb0,hb1⟩:=Gh (f:=chg r.1.scope 0 f.kids[2]) (by omega);rw [hb0,X7];cases b1
  ·rw [X7];simp only [ZV,if_true];obtain ⟨e,he,hne⟩:=Qdk r.2.2;rw [he,X7];exact ⟨_,rfl,.bad hx ho hne⟩
  rw [X7];simp only [ZW,Qq,if_false];obtain ⟨a1,a2,_⟩:=hr h0;exact ZI (hB r.1 _ out a1 a2 (hb1.1 rfl) (by rw [Ag];omega) (ho.to a2)) fun q hq=>⟨_,rfl,hq.to a2⟩
 exact ZI hF fun r hr=>⟨_,rfl,.of7 hx ho hr⟩
theorem T2 {b:Int} (hb:b<=60):∀(N:Nat) (x:Xpn) (f:Fm) (out:List Stp),XI x->FV f->(60 - x.steps).toNat * 1000+f.nodes<=N->Ht x out->Tot (Yx x f b out) (P10 x):=by
 intro N
 induction N with
 | zero=>intro x f _ _ _ h;have:=Hw f;omega
 | succ N ih =>
  intro x f out hx hf hN ho;have hnf:=Fm.YK f;have hkl:=hf.H5;have ht0:=hx.t0;rw [Yx];simp only [Ye,X7];split
  ·exact ZI (Qgz hb x f hx hf) fun r hr=>⟨_,rfl,.of7 hx ho hr⟩
  rename_i hq;rw [Q9,not_or] at hq
  have k3:f.kind=3:=by
   have:=hq.1;simpa using this
  have l0:0 < f.kids.length:=by
   have:=hq.2;simp only [decide_eq_true_iff] at this;omega
  have e0':idx f.kids 0=some f.kids[0]:=Yg f.kids 0 l0;have hkids:∀g∈f.kids,FV g/\g.nodes < f.nodes:=fun g hg=>⟨hf.kid hg,by have:=V1 hg;omega⟩;have hA:∀y g o,XI y->x.steps<=y.steps->FV g->g.nodes < f.nodes->Ht y o->Tot (Yx y g b o) (P10 y):=fun y g o hy hs hg hgn hoy=>ih y g o hy hg (by omega) hoy
  have call:Tot ((Y3 x f.kids b out>>=fun x80=>some (x80.1,x80.2.1,x80.2.2)):Option (Xpn × List Stp × Int)) (P10 x) :=
   ZI (NR (s0:=x.steps) (fun z g o hz hs hg hoz=>hA z g o hz hs (hkids g hg).1 (hkids g hg).2 hoz) (by omega) hx (Xj _) ho) fun r hr=>⟨_,rfl,hr⟩
  rw [e0',X7]
  by_cases k1:f.kids[0].kind=1
  rotate_left
  ·rw [if_neg k1];exact call
  have hf0:=hf.kid (ZP l0);rw [if_pos k1,X7,Ea x _ hx.b.bs hf0.smc hx.sm,X7]
  by_cases m4:(B5 x f.kids[0]).1=4
  ·rw [if_pos m4];exact ⟨_,rfl,.bad hx ho (by decide)⟩
  rw [if_neg m4]
  by_cases m1:(B5 x f.kids[0]).1=1
  ·rw [if_pos m1];exact ZI (Qa8 hb hx hf (Su hb hx hf k3 l0 k1 m1) hA (fun y g o hy hs hg hgn hoy=>ih y g o hy hg (by omega) hoy) ho) fun r hr=>⟨_,rfl,hr⟩
  rw [if_neg m1]
  by_cases m2:(B5 x f.kids[0]).1=2
  rotate_left
  ·rw [if_neg m2];exact call
  rw [if_pos m2];exact ZI (Qb3 hb hx hf (LW m2) (fun y g o hy hs hlt hg hoy=>ih y g o hy hg (by have:=hg.2;rw [hs];omega) hoy) ho) fun r hr=>⟨_,rfl,hr⟩
theorem Qlx {b s0:Int} {l:List Fm} (hE:∀x f out,XI x->s0<=x.steps->f∈l->Ht x out->Tot (Yx x f b out) (P10 x)) (hl:l.length<=400) {x:Xpn} (hx:XI x) (hs:s0<=x.steps) {out:List Stp} (ho:Ht x out):Tot (Ip x l b out) (P10 x):=by
 have loop:∀(r:List Fm) (i:Nat) (y:Xpn) (z:List Stp),(∀f∈r,f∈l)->XI y->s0<=y.steps->x.steps<=y.steps->Ht y z ->
   Tot (JR l b y.binds y.macs y.scope y.id y.steps z i r) fun o=>match o with
    | .inl q=>q.2.2≠0/\(∀s∈q.2.1,SOk s)/\q.2.1.length<=60
    | .inr (q0,q1,q2,q3,q4,z')=>XI ⟨q0,q1,q2,q3,q4⟩/\x.steps<=q4/\Ht ⟨q0,q1,q2,q3,q4⟩ z':=by
  intro r
  induction r with
  | nil=>intro i y z _ hy _ hxy hz;rw [JR];exact ⟨_,rfl,hy,hxy,hz⟩
  | cons f r ih =>
   intro i y z hr hy hs hxy hz;rw [JR,Ye,X7];refine ZI (hE ⟨y.binds,y.macs,y.scope,y.id,y.steps⟩ f z hy hs (hr f (Kx ..)) hz) fun q hq=>?_
   by_cases h0:q.2.2=0
   ·rw [if_pos h0];obtain ⟨c1,c2,c3⟩:=hq.2.2 h0;have c2':y.steps<=q.1.steps:=c2;exact ih (i+1) q.1 q.2.1 (fun g hg=>hr g (Kf _ hg)) c1 (by omega) (by omega) ⟨hq.1,c3⟩
   ·rw [if_neg h0];exact ⟨_,rfl,h0,hq.1,hq.2.1⟩
 rw [Ip,FK _ _ _ _ _ _ _ _ (by omega)];obtain ⟨o,ho1,hop⟩:=loop l 0 x out (fun _ h=>h) hx hs (Xj _) ho;rw [ho1,X7]
 cases o with
 | inl q=>exact ⟨_,rfl,hop.2.1,hop.2.2,fun h=>absurd h hop.1⟩
 | inr q =>
  obtain ⟨q0,q1,q2,q3,q4,z⟩:=q;obtain ⟨a1,a2,a3⟩:=hop;exact ⟨_,rfl,a3.1,a3.le a1,fun _=>⟨a1,a2,a3.2⟩⟩
theorem Ql8 {b:Int} (hb:b<=60) {body:Fm} (hf:FV body) {x:Xpn} (hE:∀y g out,XI y->x.steps<=y.steps->FV g->g.nodes=body.nodes->Ht y out->Tot (Vj y g b out) (P10 y)) {names:List Fm} (hn:∀n∈names,FV n) (hl:names.length<=400) (hx:XI x) {out:List Stp} (ho:Ht x out):Tot (Iq x names body b out) (P10 x):=by
 rw [Iq];refine ZI (LM (s0:=x.steps) Qd9 (fun y g hy _ hg _=>Qgz hb y g hy hg) hn hl hx (Xj _)) fun r hr=>?_
 by_cases h0:r.2.2=0
 rotate_left
 ·rw [if_neg h0];exact ⟨_,rfl,.bad hx ho h0⟩
 rw [if_pos h0];obtain ⟨a1,a2,_⟩:=hr h0;have hcs:=HP hf r.1.scope 0;rw [GC _ _ body (by have:=hf.sz;omega),X7];refine ZI (Gh (by omega)) fun b1 hb1=>?_;cases b1
 ·simp only [ZV,if_true];exact ⟨_,rfl,.bad hx ho (by decide)⟩
 simp only [ZW,Qq,if_false];exact ZI (hE r.1 _ out a1 a2 (hb1.1 rfl) (Ag _ _ _) (ho.to a2)) fun q hq=>⟨_,rfl,hq.to a2⟩
theorem Qlc {b:Int} (hb:b<=60) {x:Xpn} (hx:XI x) {f:Fm} (hf:FV f) {id:Int} (hid:NF x.macs id≥0) (hE:∀y g out,XI y->y.steps=x.steps+1->x.steps < 60->FV g->Ht y out->Tot (Vj y g b out) (P10 y)) {out:List Stp} (ho:Ht x out):Tot (Al x f id b out) (P10 x):=by
 have hml:=RF hid
 have hm:MS (x.macs.getD (NF x.macs id).toNat default):=by
  have:(NF x.macs id).toNat < x.macs.length:=by omega
  rw [W1 this];exact hx.mm _ (ZP this)
 rw [Al,Oe _ _ hx.sm,X7,Bj (l:=x.macs) hid hml.1,X7];refine ZI (Fh hx hf hb hid) fun r hr=>?_
 by_cases h0:r.2.2=0
 rotate_left
 ·rw [if_neg h0];exact ⟨_,rfl,.bad hx ho h0⟩
 rw [if_pos h0];obtain ⟨a1,a2,a3,a4⟩:=hr h0;have hcs:=HP hf r.1.scope 1;rw [GC _ _ f (by have:=hf.sz;omega),X7];refine ZI (B0 hx.b.bs hm.1 hm.2.1 (by omega)).true fun r1 _=>?_;have hol:=ho.le hx;rw [YH (by simp;omega),X7];refine ZI (hE r.1 r.2.1 _ a1 a2 (by omega) a4 ⟨fun s hs=>?_,by have:=ho.2;simp;omega⟩) fun q hq=>⟨_,rfl,hq.to (by omega)⟩
 rcases QR.1 hs with hs | hs
 ·exact ho.1 s hs
 ·rw [ZQ.1 hs];exact ⟨hf,a4⟩
theorem Qkh {b:Int} (hb:b<=60) {x:Xpn} (hx:XI x) {f:Fm} (hf:FV f) {id:Int} (hF:Tot (Jh x f id b) (P7 x f.nodes)) (hA:∀y g out,XI y->x.steps<=y.steps->FV g->g.nodes < f.nodes->Ht y out->Tot (Yx y g b out) (P10 y)) (hB:∀y g out,XI y->x.steps<=y.steps->FV g->g.nodes < f.nodes->Ht y out->Tot (Vj y g b out) (P10 y)) {out:List Stp} (ho:Ht x out):Tot (Ak x f id b out) (P10 x):=by
 have hnf:=Fm.YK f;have hkl:=hf.H5
 have kid:∀(l:List Fm),(∀g∈l,FV g/\g.nodes < f.nodes)->l.length<=400->Tot (Y3 x l b out) (P10 x):=fun l hl hll =>
  NR (s0:=x.steps) (fun z g o hz hs hg hoz=>hA z g o hz hs (hl g hg).1 (hl g hg).2 hoz) hll hx (Xj _) ho
 have hkids:∀g∈f.kids,FV g/\g.nodes < f.nodes:=fun g hg=>⟨hf.kid hg,by have:=V1 hg;omega⟩
 have body:∀(hb2:2 < f.kids.length) (names:List Fm),(∀n∈names,FV n)->names.length<=400->∀y o,XI y->x.steps<=y.steps->Ht y o->Tot (Iq y names f.kids[2] b o) (P10 y):=fun hb2 names hn hnl y o hy hxy hoy=>by
  have hv:=hf.kid (ZP hb2);have hk:=V1 (ZP hb2);exact Ql8 hb hv (fun z g o2 hz hs hg hgn hoz=>hB z g o2 hz (by omega) hg (by omega) hoz) hn hnl hy hoy
 rw [Ak];simp only [Ye,X7];split
 ·rename_i hq;rw [QG,decide_eq_true_iff,decide_eq_true_iff] at hq
  have hsub:EK f.kids 1 (f.kids.length:Int)=some (f.kids.drop 1):=by
   unfold EK;rw [if_pos ⟨by omega,by omega,by omega⟩]
   congr 1
   rw [Xl];rfl;rw [Xi];omega
  rw [hsub,X7];exact ZI (kid (f.kids.drop 1) (fun g hg=>hkids g (QA hg)) (by rw [Xi];omega)) fun r hr=>⟨_,rfl,hr⟩
 have lam:Tot ((if (decide (id=1)&&decide ((f.kids.length:Int)=3))=true then (idx f.kids 1>>=fun x72=>some (decide (x72.kind=3))) else some false:Option Bool)) fun c=>c=true->id=1/\f.kids.length=3:=by
  split
  ·rename_i hq;rw [QG,decide_eq_true_iff,decide_eq_true_iff] at hq
   have l1:1 < f.kids.length:=by omega
   rw [show idx f.kids 1=some f.kids[1] from Yg f.kids 1 l1,X7];exact ⟨_,rfl,fun _=>⟨hq.1,by omega⟩⟩
  ·exact ⟨_,rfl,fun h=>by cases h⟩
 refine ZI lam fun c hc=>?_
 by_cases hct:c=true
 ·rw [if_pos hct];obtain ⟨_,h3⟩:=hc hct
  have l1:1 < f.kids.length:=by omega
  have l2:2 < f.kids.length:=by omega
  rw [show idx f.kids 1=some f.kids[1] from Yg f.kids 1 l1,X7,show idx f.kids 2=some f.kids[2] from Yg f.kids 2 l2,X7];have hv1:=hf.kid (ZP l1);exact ZI (body l2 f.kids[1].kids (fun n hn=>hv1.kid hn) (by have:=hv1.H5;omega) x out hx (Xj _) ho) fun r hr=>⟨_,rfl,hr⟩
 rw [if_neg hct]
 have pairs:∀(h3:f.kids.length=3),∃l1:1 < f.kids.length,∃l2:2 < f.kids.length,idx f.kids 1=some f.kids[1]/\idx f.kids 2=some f.kids[2]/\FV f.kids[1]/\FV f.kids[2]:=fun h3=>by
  have l1:1 < f.kids.length:=by omega
  have l2:2 < f.kids.length:=by omega
  exact ⟨l1,l2,Yg f.kids 1 l1,Yg f.kids 2 l2,hf.kid (ZP l1),hf.kid (ZP l2)⟩
 split
 ·rename_i hq;rw [QG,decide_eq_true_iff,decide_eq_true_iff] at hq;obtain ⟨l1,l2,e1,e2,hv1,hv2⟩:=pairs (by omega);have hk1:=V1 (ZP l1);rw [e1,X7];refine ZI (AL (by have:=hv1.sz;omega)) fun r hr=>?_
  rcases hr with ⟨hpo,rfl⟩ | ⟨_,hpf⟩
  rotate_left
  ·rw [hpf];simp only [ZV,if_true];exact ⟨_,rfl,.bad hx ho (by decide)⟩
  simp only [ZW,Qq,if_false];have hn:=Ia hv1 hpo (j:=0) (by omega);have hvs:=Ia hv1 hpo (j:=1) (by omega);have hpn:=DI hpo;have hkl1:=hv1.H5;refine ZI (kid _ (fun g hg=>⟨hvs g hg,by have:=Ad ZS _ g hg;omega⟩) (by rw [Xb];omega)) fun r hr=>?_
  by_cases h0:r.2.2=0
  rotate_left
  ·rw [if_neg h0];exact ⟨_,rfl,hr⟩
  rw [if_pos h0];obtain ⟨a1,a2,a3⟩:=hr.2.2 h0;rw [e2,X7];exact ZI (body l2 _ hn (by rw [Xb];omega) r.1 r.2.1 a1 a2 ⟨hr.1,a3⟩) fun q hq=>⟨_,rfl,hq.to a2⟩
 split
 ·rename_i hq;rw [QG,decide_eq_true_iff,decide_eq_true_iff] at hq;obtain ⟨l1,l2,e1,e2,hv1,hv2⟩:=pairs (by omega);have hk2:=V1 (ZP l2);rw [e1,X7];refine ZI (AL (by have:=hv1.sz;omega)) fun r hr=>?_
  rcases hr with ⟨hpo,rfl⟩ | ⟨_,hpf⟩
  rotate_left
  ·rw [hpf];simp only [ZV,if_true];exact ⟨_,rfl,.bad hx ho (by decide)⟩
  simp only [ZW,Qq,if_false];have hn:=Ia hv1 hpo (j:=0) (by omega);have hvs:=Ia hv1 hpo (j:=1) (by omega);have hkl1:=hv1.H5;refine ZI (CE (s0:=x.steps) Qd9 (fun y g hy _ hg _=>Qgz hb y g hy hg) hn hvs (by simp) (by rw [Xb];omega) hx (Xj _)) fun r hr=>?_;have hcs:=HP hv2 r.1.scope 0;rw [e2,X7,GC _ _ _ (by have:=hv2.sz;omega),X7]
  by_cases h0:r.2.2=0
  rotate_left
  ·rw [if_neg h0,X7,if_pos rfl];obtain ⟨e,he,hne⟩:=Qdk r.2.2;rw [he,X7];exact ⟨_,rfl,.bad hx ho hne⟩
  rw [if_pos h0];obtain ⟨b1,hb0,hb1⟩:=Gh (f:=chg r.1.scope 0 f.kids[2]) (by omega);rw [hb0,X7];cases b1
  ·rw [X7];simp only [ZV,if_true];obtain ⟨e,he,hne⟩:=Qdk r.2.2;rw [he,X7];exact ⟨_,rfl,.bad hx ho hne⟩
  rw [X7];simp only [ZW,Qq,if_false];obtain ⟨a1,a2,_⟩:=hr h0;exact ZI (hB r.1 _ out a1 a2 (hb1.1 rfl) (by rw [Ag];omega) (ho.to a2)) fun q hq=>⟨_,rfl,hq.to a2⟩
 exact ZI hF fun r hr=>⟨_,rfl,.of7 hx ho hr⟩
theorem Qis {b:Int} (hb:b<=60):∀(N:Nat) (x:Xpn) (f:Fm) (out:List Stp),XI x->FV f->(60 - x.steps).toNat * 1000+f.nodes<=N->Ht x out->Tot (Vj x f b out) (P10 x):=by
 intro N
 induction N with
 | zero=>intro x f _ _ _ h;have:=Hw f;omega
 | succ N ih =>
  intro x f out hx hf hN ho;have hnf:=Fm.YK f;have hkl:=hf.H5;have ht0:=hx.t0;rw [Vj];simp only [Ye,X7];split
  ·exact ZI (Qgz hb x f hx hf) fun r hr=>⟨_,rfl,.of7 hx ho hr⟩
  rename_i hq;rw [Q9,not_or] at hq
  have k3:f.kind=3:=by
   have:=hq.1;simpa using this
  have l0:0 < f.kids.length:=by
   have:=hq.2;simp only [decide_eq_true_iff] at this;omega
  have e0':idx f.kids 0=some f.kids[0]:=Yg f.kids 0 l0;have hkids:∀g∈f.kids,FV g/\g.nodes < f.nodes:=fun g hg=>⟨hf.kid hg,by have:=V1 hg;omega⟩;have hA:∀y g o,XI y->x.steps<=y.steps->FV g->g.nodes < f.nodes->Ht y o->Tot (Yx y g b o) (P10 y):=fun y g o hy hs hg hgn hoy=>T2 hb _ y g o hy hg (Qt _) hoy
  have call:Tot ((Ip x f.kids b out>>=fun x80=>some (x80.1,x80.2.1,x80.2.2)):Option (Xpn × List Stp × Int)) (P10 x) :=
   ZI (Qlx (s0:=x.steps) (fun z g o hz hs hg hoz=>hA z g o hz hs (hkids g hg).1 (hkids g hg).2 hoz) (by omega) hx (Xj _) ho) fun r hr=>⟨_,rfl,hr⟩
  rw [e0',X7]
  by_cases k1:f.kids[0].kind=1
  rotate_left
  ·rw [if_neg k1];exact call
  have hf0:=hf.kid (ZP l0);rw [if_pos k1,X7,Ea x _ hx.b.bs hf0.smc hx.sm,X7]
  by_cases m4:(B5 x f.kids[0]).1=4
  ·rw [if_pos m4];exact ⟨_,rfl,.bad hx ho (by decide)⟩
  rw [if_neg m4]
  by_cases m1:(B5 x f.kids[0]).1=1
  ·rw [if_pos m1];exact ZI (Qkh hb hx hf (Su hb hx hf k3 l0 k1 m1) hA (fun y g o hy hs hg hgn hoy=>ih y g o hy hg (by omega) hoy) ho) fun r hr=>⟨_,rfl,hr⟩
  rw [if_neg m1]
  by_cases m2:(B5 x f.kids[0]).1=2
  rotate_left
  ·rw [if_neg m2];exact call
  rw [if_pos m2];exact ZI (Qlc hb hx hf (LW m2) (fun y g o hy hs hlt hg hoy=>ih y g o hy hg (by have:=hg.2;rw [hs];omega) hoy) ho) fun r hr=>⟨_,rfl,hr⟩
theorem TV {x:Xpn} (h:Va=some x):x.steps=0:=by rw [PG] at h;injection h with h;rw [← h]
theorem Qmz {f:Fm} (hf:f.sz < 1000000000) (b:Int):Tot (AN f b) fun r=>(∀s∈r.1,SOk s)/\r.1.length<=60:=by
 rw [AN];refine ZI (Gh hf) fun b1 hb1=>?_;simp only [Ye,X7];split
 ·exact ⟨_,rfl,by simp,by simp⟩
 rename_i hq;rw [Q9,Q9,not_or,not_or] at hq;obtain ⟨⟨q1,q2⟩,q3⟩:=hq;have hv:FV f:=hb1.1 (by cases b1<;>simp_all);simp only [decide_eq_true_iff] at q2 q3;obtain ⟨x0,hx0⟩:∃x,Va=some x:=⟨_,PG⟩;rw [hx0,X7];refine ZI (Qis (by omega) _ x0 f [] (Qb2 hx0) hv (Qt _) ⟨by simp,by rw [TV hx0];simp⟩) fun r hr=>?_
 by_cases h0:r.2.2=0
 ·rw [if_pos h0];exact ZI (LK hf b) fun q _=>⟨_,rfl,hr.1,hr.2.1⟩
 ·rw [if_neg h0];exact ⟨_,rfl,hr.1,hr.2.1⟩
theorem PN {f:Fm} (hf:f.sz < 1000000000) (b:Int):Tot (GI f b) fun r=>(∀s∈r.1,SOk s)/\r.1.length<=60:=by
 rw [GI];refine ZI (Qmz hf b) fun r hr=>?_
 have loop:∀(l:List Stp) (i:Nat) (z:List Stp),(∀s∈l,SOk s)->(∀s∈z,SOk s)->z.length+l.length<=60->Tot (Vv f r z i l) fun o=>(∀s∈o,SOk s)/\o.length<=60:=by
  intro l
  induction l with
  | nil=>intro i z _ hz hl;rw [Vv];exact ⟨_,rfl,hz,by simpa using hl⟩
  | cons s l ih =>
   intro i z hs hz hl;simp only [ZM] at hl;obtain ⟨h1,h2⟩:=hs s (Kx ..);rw [Vv,Ye,X7,AG _ (by have:=h1.sz;omega),X7,AG _ (by have:=h2.sz;omega),X7,YH (by simp;omega),X7];refine ih (i+1) _ (fun y hy=>hs y (Kf _ hy)) (fun y hy=>?_) (by simp;omega)
   rcases QR.1 hy with hy | hy
   ·exact hz y hy
   ·rw [ZQ.1 hy];exact ⟨h1,h2⟩
 rw [Ct _ _ _ (by omega)];exact ZI (loop r.1 0 [] hr.1 (by simp) (by simpa using hr.2)) fun o ho=>⟨_,rfl,ho⟩
def SDr (s:Stp):Prop:=s.use.sz<=30000/\FV s.res
theorem Qd5 {l:List Int} (h:∀x∈l,0<=x/\x < 256):Tot (IV l) fun r=>r.length<=3/\∀s∈r,SDr s:=by
 rw [IV];refine ZI (Qah h) fun r hr=>ZI (PN (by omega) 20) fun t ht=>ZI (Ec h) fun c hc=>?_;have hdr:∀s,SOk s->s.use.sz<=20000/\FV s.res:=fun s hs=>⟨by have:=hs.1.sz;have:=hs.1.2;omega,hs.2⟩
 have cut:Tot (if (t.1.length:Int) > 3 then (idx t.1 0>>=fun x24n=>EK t.1 0 3>>=fun x24=>pure x24) else pure t.1:Option (List Stp)) fun y=>y.length<=3/\∀s∈y,s.use.sz<=20000/\FV s.res:=by
  split
  ·rename_i hl
   have l0:0 < t.1.length:=by omega
   rw [show idx t.1 0=some t.1[0] from Yg t.1 0 l0,X7]
   have:EK t.1 0 3=some (t.1.take 3):=by
    unfold EK;rw [if_pos ⟨by omega,by omega,by omega⟩];rfl
   rw [this,X7];exact ⟨_,rfl,by rw [List.length_take];omega,fun s hs=>hdr s (ht.1 s (List.mem_of_mem_take hs))⟩
  ·rename_i hl;exact ⟨_,rfl,by omega,fun s hs=>hdr s (ht.1 s hs)⟩
 refine ZI cut fun y hy=>?_;split
 ·rename_i hl
  have l0:0 < y.length:=by omega
  refine ZI (WL hc (by omega) (by omega)) fun p hp=>?_;split
  ·have e:idx y 0=some y[0]:=Yg y 0 l0;have h0:=hy.2 _ (ZP l0);rw [e,X7];refine ZI (C9 y[0].use hp.2.2 (by have:=h0.1;omega) (by have:=h0.1;omega)) fun m1 hm1=>?_;refine ZI (C9 m1.1 hm1.2 (by have:=h0.1;have:=hm1.1;omega) (by have:=h0.1;have:=hm1.1;omega)) fun m2 hm2=>?_;rw [X7];refine ZI (CF hm2.2 (by have:=h0.1;have:=hm1.1;omega) (by simp)) fun n hn=>?_
   have e2:idx (y.set (0:Int).toNat (Stp.mk y[0].id y[0].rule y[0].scope m2.1 y[0].res)) 0=some (Stp.mk y[0].id y[0].rule y[0].scope m2.1 y[0].res):=by
    have:=Yg (y.set (0:Int).toNat (Stp.mk y[0].id y[0].rule y[0].scope m2.1 y[0].res)) 0 (by simpa using l0);simpa using this
   rw [e2,X7];refine ⟨_,rfl,by simpa using hy.1,fun s hs=>?_⟩;simp only [List.set_set,Int.toNat_zero] at hs
   rcases List.mem_or_eq_of_mem_set hs with hs | hs
   ·exact ⟨by have:=(hy.2 s hs).1;omega,(hy.2 s hs).2⟩
   ·rw [hs];exact ⟨by show m2.1.sz<=30000;have:=h0.1;have:=hm1.1;have:=hm2.1;omega,h0.2⟩
  ·exact ⟨_,rfl,hy.1,fun s hs=>⟨by have:=(hy.2 s hs).1;omega,(hy.2 s hs).2⟩⟩
 ·exact ⟨_,rfl,hy.1,fun s hs=>⟨by have:=(hy.2 s hs).1;omega,(hy.2 s hs).2⟩⟩
end Go.Proofs.SA
namespace Go.Proofs.SA
noncomputable def inN (s:Int) (o:List Fm) (f:Fm):List Fm:=if f.kind=1/\s∈f.sc/\f∉o then o++[f] else o
mutual
noncomputable def nmF (s:Int):Fm->List Fm->List Fm
 | .mk k n m c ks,o=>nmL s ks (inN s o (.mk k n m c ks))
noncomputable def nmL (s:Int):List Fm->List Fm->List Fm
 | [],o=>o
 | f :: fs,o=>nmL s fs (nmF s f o)
end
theorem SC (s:Int) (f:Fm) (o:List Fm):nmF s f o=nmL s f.kids (inN s o f):=by cases f;rw [nmF];rfl
inductive Part:Fm->Fm->Prop
 | refl (f:Fm):Part f f
 | kid {x k f:Fm} (hk:k∈f.kids) (h:Part x k):Part x f
theorem Part.sz {x f:Fm} (h:Part x f):x.sz<=f.sz:=by
 induction h with
 | refl=>exact Qt _
 | kid hk _ ih=>have:=Fm.W7 hk;omega
structure Qnj (s:Int) (f:Fm) (o r:List Fm):Prop where
 nd:o.Nodup->r.Nodup
 mem:∀x∈r,x∈o∨(s∈x.sc/\Part x f)
 len:r.length<=o.length+f.nodes
theorem Qfo (s:Int) (f:Fm) (o:List Fm):Qnj s f o (inN s o f):=by
 have:=Hw f;unfold inN;split
 ·rename_i h;refine ⟨fun hn=>?_,fun x hx=>?_,by simp;omega⟩
  ·rw [List.nodup_append];exact ⟨hn,by simp,fun a ha b hb he=>h.2.2 (by rw [ZQ.1 hb] at he;exact he▸ha)⟩
  ·rcases QR.1 hx with hx | hx
   ·exact .inl hx
   ·rw [ZQ.1 hx];exact .inr ⟨h.2.1,.refl _⟩
 ·exact ⟨id,fun x hx=>.inl hx,by omega⟩
theorem Pr (s:Int) (f:Fm):∀o,Qnj s f o (nmF s f o):=by
 induction f using Fm.ind with
 | h f ih =>
  intro o;have hne:=Fm.YK f
  have kids:∀(l:List Fm),(∀k∈l,k∈f.kids)->∀o:List Fm,(o.Nodup->(nmL s l o).Nodup)/\(∀x∈nmL s l o,x∈o∨(s∈x.sc/\Part x f))/\(nmL s l o).length<=o.length+Y4 ZS l:=by
   intro l
   induction l with
   | nil=>intro _ o;rw [nmL];exact ⟨id,fun x hx=>.inl hx,by simp [Y4]⟩
   | cons k l ihl =>
    intro hl o;have hk:=hl k (Kx ..);have h1:=ih k hk o;obtain ⟨a1,a2,a3⟩:=ihl (fun x hx=>hl x (Kf _ hx)) (nmF s k o);rw [nmL,Y4];refine ⟨fun hn=>a1 (h1.nd hn),fun x hx=>?_,by have:=h1.len;omega⟩
    rcases a2 x hx with h | h
    ·rcases h1.mem x h with h | h
     ·exact .inl h
     ·exact .inr ⟨h.1,.kid hk h.2⟩
    ·exact .inr h
  have h1:=Qfo s f o;obtain ⟨a1,a2,a3⟩:=kids f.kids (fun _ h=>h) (inN s o f);rw [SC]
  have hl1:(inN s o f).length<=o.length+1:=by unfold inN;split<;>simp
  refine ⟨fun hn=>a1 (h1.nd hn),fun x hx=>?_,by omega⟩
  rcases a2 x hx with h | h
  ·exact h1.mem x h
  ·exact .inr h
def OS (o:List Fm):Prop:=∀x∈o,x.sz<=1000000
theorem SD {s:Int} {f:Fm} {o:List Fm} (h:OS o) (hf:f.sz<=1000000):OS (nmF s f o):=fun x hx=>by
 rcases (Pr s f o).mem x hx with h2 | h2
 ·exact h x h2
 ·have:=h2.2.sz;omega
theorem Qbg {s:Int} {f:Fm} {o:List Fm} (h:OS o) (hf:f.sz<=1000000):OS (inN s o f):=fun x hx=>by
 rcases (Qfo s f o).mem x hx with h2 | h2
 ·exact h x h2
 ·have:=h2.2.sz;omega
theorem Qhp (o:List Fm) (f:Fm) (h:OS o) (hl:o.length<=1000000000):CC o f=some (decide (f∈o)):=by
 have key:∀(r:List Fm) (i:Nat),(∀x∈r,x.sz<=1000000)->(f∈r->∃k:Nat,Yw o f i r=some (.inl (k:Int)))/\(f∉r->Yw o f i r=some (.inr ())):=by
  intro r
  induction r with
  | nil=>intro i _;exact ⟨fun h=>(by cases h),fun _=>rfl⟩
  | cons y r ih =>
   intro i hs;rw [Yw,Ye,X7,Ah,B1 y (hs y (Kx ..))];simp only [Ye,X7];obtain ⟨h1,h2⟩:=ih (i+1) fun x hx=>hs x (Kf _ hx)
   by_cases hy:y=f
   ·rw [decide_eq_true hy,if_pos rfl];exact ⟨fun _=>⟨i,rfl⟩,fun h=>absurd (hy▸Kx ..) h⟩
   ·rw [decide_eq_false hy,if_neg (by decide)];exact ⟨fun h=>h1 (by rcases Kj.1 h with h | h;exact absurd h.symm hy;exact h),fun h=>h2 fun h3=>h (Kf _ h3)⟩
 obtain ⟨h1,h2⟩:=key o 0 h;rw [CC,YX,Y5,GG _ _ (by omega)]
 by_cases hx:f∈o
 ·obtain ⟨k,hk⟩:=h1 hx;rw [hk,X7,decide_eq_true hx];simp only [Ye,X7];rw [decide_eq_true (by omega)]
 ·rw [h2 hx,X7,decide_eq_false hx];rfl
theorem Qbh (f:Fm) (st:Stp) (o:List Fm) (hf:f.sz<=1000000) (ho:OS o) (hl:o.length<=1000000000):Wj f st o=some (inN st.scope o f):=by
 have hz:=Fm.JM f;rw [Wj,Qhk _ _ (by omega)];unfold inN;simp only [Ye,X7]
 by_cases h1:f.kind=1
 rotate_left
 ·rw [if_neg h1,X7,if_neg (by decide),X7,if_neg (by decide),if_neg (fun h=>h1 h.1)]
 rw [if_pos h1,X7]
 by_cases h2:st.scope∈f.sc
 rotate_left
 ·rw [decide_eq_false h2,if_neg (by decide),X7,if_neg (by decide),if_neg (fun h=>h2 h.2.1)]
 rw [decide_eq_true h2,if_pos rfl,Qhp o f ho hl,X7,X7]
 by_cases h3:f∈o
 ·rw [decide_eq_true h3,if_neg (by decide),if_neg (fun h=>h.2.2 h3)]
 rw [decide_eq_false h3,if_pos (by decide),if_pos ⟨h1,h2,h3⟩,LP f hf,X7,YH (by simp;omega),X7]
 have hi:idx (o++[KQ 0 (Qk #[]) 0 [] []]) (o.length:Int)=some (KQ 0 (Qk #[]) 0 [] []):=by
  rw [Yg _ o.length (by simp)];simp
 rw [hi,X7]
 simp
theorem Qdj (st:Stp):∀(f:Fm),f.sz<=1000000->∀o:List Fm,OS o->o.length+f.nodes<=1000000000->YA f st o=some (nmF st.scope f o):=by
 intro f
 induction f using Fm.ind with
 | h f ih =>
  intro hf o ho hl;have hz:=Fm.JM f;have hne:=Fm.YK f
  have loop:∀(r:List Fm) (i:Nat) (z:List Fm),(∀k∈r,k∈f.kids)->OS z->z.length+Y4 ZS r<=1000000000->YF f st z i r=some (nmL st.scope r z):=by
   intro r
   induction r with
   | nil=>intro i z _ _ _;rw [nmL];rfl
   | cons k r ihr =>
    intro i z hr hzo hzl;rw [Y4] at hzl;have hk:=hr k (Kx ..);have hks:=Fm.W7 hk;have hnl:=(Pr st.scope k z).len;rw [YF,Ye,X7,ih k hk (by omega) z hzo (by omega),X7,nmL];exact ihr (i+1) _ (fun x hx=>hr x (Kf _ hx)) (SD hzo (by omega)) (by omega)
  have hl1:(inN st.scope o f).length<=o.length+1:=by unfold inN;split<;>simp
  rw [YA,Qbh f st o hf ho (by omega),X7,G1 _ _ _ (by omega),loop f.kids 0 _ (fun _ h=>h) (Qbg ho hf) (by omega),X7,SC];rfl
theorem TF (s:Int):∀(f:Fm),f.sz<=1000000->∀o:List Fm,OS o->o.length+f.nodes<=100000000->VX o f s=some (nmF s f o):=by
 intro f
 induction f using Fm.ind with
 | h f ih =>
  intro hf o ho hl;have hz:=Fm.JM f;have hne:=Fm.YK f
  have loop:∀(r:List Fm) (i:Nat) (z:List Fm),(∀k∈r,k∈f.kids)->OS z->z.length+Y4 ZS r<=100000000->Wx f s z i r=some (nmL s r z):=by
   intro r
   induction r with
   | nil=>intro i z _ _ _;rw [nmL];rfl
   | cons k r ihr =>
    intro i z hr hzo hzl;rw [Y4] at hzl;have hk:=hr k (Kx ..);have hks:=Fm.W7 hk;have hnl:=(Pr s k z).len;rw [Wx,Ye,X7,ih k hk (by omega) z hzo (by omega),X7,nmL];exact ihr (i+1) _ (fun x hx=>hr x (Kf _ hx)) (SD hzo (by omega)) (by omega)
  have hl1:(inN s o f).length<=o.length+1:=by unfold inN;split<;>simp
  have hlp:=loop f.kids 0 _ (fun _ h=>h) (Qbg (s:=s) ho hf) (by omega);rw [VX,SC];simp only [Ye,X7,LO f.sc s (by unfold Sm;omega)]
  by_cases h1:f.kind=1
  rotate_left
  ·rw [show inN s o f=o from if_neg (fun h=>h1 h.1)] at hlp ⊢;rw [if_neg h1,X7,if_neg (by decide),X7,if_neg (by decide),X7,J6 _ _ _ (by omega),hlp,X7]
  rw [if_pos h1,X7]
  by_cases h2:s∈f.sc
  rotate_left
  ·rw [show inN s o f=o from if_neg (fun h=>h2 h.2.1)] at hlp ⊢;rw [decide_eq_false h2,if_neg (by decide),X7,if_neg (by decide),X7,J6 _ _ _ (by omega),hlp,X7]
  rw [decide_eq_true h2,if_pos rfl,ND o f ⟨by unfold Sm;omega,ho⟩,X7,X7]
  by_cases h3:f∈o
  ·rw [show inN s o f=o from if_neg (fun h=>h.2.2 h3)] at hlp ⊢;rw [decide_eq_true h3,if_neg (by decide),X7,J6 _ _ _ (by omega),hlp,X7]
  rw [show inN s o f=o++[f] from if_pos ⟨h1,h2,h3⟩] at hlp ⊢;rw [decide_eq_false h3,if_pos (by decide),AG f (by omega),X7,YH (by simp;omega),X7,X7,J6 _ _ _ (by omega),hlp,X7]
theorem Qh0 (s:Int):∀(f:Fm),f.sz<=1000000->∀o:List Fm,OS o->o.length+f.nodes<=100000000->IU o f s=some (nmF s f o):=by
 intro f
 ·skip
  intro hf o ho hl;have hz:=Fm.JM f;have hne:=Fm.YK f
  have loop:∀(r:List Fm) (i:Nat) (z:List Fm),(∀k∈r,k∈f.kids)->OS z->z.length+Y4 ZS r<=100000000->JK f s z i r=some (nmL s r z):=by
   intro r
   induction r with
   | nil=>intro i z _ _ _;rw [nmL];rfl
   | cons k r ihr =>
    intro i z hr hzo hzl;rw [Y4] at hzl;have hk:=hr k (Kx ..);have hks:=Fm.W7 hk;have hnl:=(Pr s k z).len;rw [JK,Ye,X7,TF s k (by omega) z hzo (by omega),X7,nmL];exact ihr (i+1) _ (fun x hx=>hr x (Kf _ hx)) (SD hzo (by omega)) (by omega)
  have hl1:(inN s o f).length<=o.length+1:=by unfold inN;split<;>simp
  have hlp:=loop f.kids 0 _ (fun _ h=>h) (Qbg (s:=s) ho hf) (by omega);rw [IU,SC];simp only [Ye,X7,LO f.sc s (by unfold Sm;omega)]
  by_cases h1:f.kind=1
  rotate_left
  ·rw [show inN s o f=o from if_neg (fun h=>h1 h.1)] at hlp ⊢;rw [if_neg h1,X7,if_neg (by decide),X7,if_neg (by decide),X7,Hq _ _ _ (by omega),hlp,X7]
  rw [if_pos h1,X7]
  by_cases h2:s∈f.sc
  rotate_left
  ·rw [show inN s o f=o from if_neg (fun h=>h2 h.2.1)] at hlp ⊢;rw [decide_eq_false h2,if_neg (by decide),X7,if_neg (by decide),X7,Hq _ _ _ (by omega),hlp,X7]
  rw [decide_eq_true h2,if_pos rfl,ND o f ⟨by unfold Sm;omega,ho⟩,X7,X7]
  by_cases h3:f∈o
  ·rw [show inN s o f=o from if_neg (fun h=>h.2.2 h3)] at hlp ⊢;rw [decide_eq_true h3,if_neg (by decide),X7,Hq _ _ _ (by omega),hlp,X7]
  rw [show inN s o f=o++[f] from if_pos ⟨h1,h2,h3⟩] at hlp ⊢;rw [decide_eq_false h3,if_pos (by decide),AG f (by omega),X7,YH (by simp;omega),X7,X7,Hq _ _ _ (by omega),hlp,X7]
noncomputable def MV (st:Stp):List Fm:=@ite _ (FV st.res/\1<=st.scope/\st.scope<=99) (Classical.propDecidable _) (nmF st.scope st.res []) []
theorem RC (st:Stp) (h:st.res.sz<=1000000):Jj st=some (MV st):=by
 obtain ⟨b,hb,hv⟩:=Qhg (f:=st.res) (by omega);have:=B6 st.res;rw [Jj,hb,X7,MV];cases b
 ·simp only [ZV,if_true,Ye,X7];rw [if_neg (fun hh=>by cases hv.2 hh.1)]
 simp only [ZW,Qq,if_false,Qku,Ye,X7]
 by_cases hs:1<=st.scope/\st.scope<=99
 ·simp only [decide_eq_true hs,ZW,Qq,if_false];rw [if_pos ⟨hv.1 rfl,hs.1,hs.2⟩,Qdj st st.res h [] (fun _ h=>by cases h) (by simp;omega),X7]
 ·simp only [decide_eq_false hs,ZV,if_true];rw [if_neg (fun hh=>hs ⟨hh.2.1,hh.2.2⟩)]
theorem RP (st:Stp) (h:st.res.sz<=1000000):Jl st=some (MV st):=by
 obtain ⟨b,hb,hv⟩:=Gh (f:=st.res) (by omega);have:=B6 st.res;rw [Jl,hb,X7,MV];cases b
 ·simp only [ZV,if_true,Ye,X7];rw [if_neg (fun hh=>by cases hv.2 hh.1)]
 simp only [ZW,Qq,if_false,En,Ye,X7]
 by_cases h1:st.scope≥1
 rotate_left
 ·simp only [decide_eq_false h1,Bool.false_and,ZV,if_true];rw [if_neg (fun hh=>h1 hh.2.1)]
 by_cases h2:st.scope<=99
 rotate_left
 ·simp only [decide_eq_false h2,Bool.and_false,ZV,if_true];rw [if_neg (fun hh=>h2 hh.2.2)]
 simp only [decide_eq_true h1,decide_eq_true h2,Bool.and_self,ZW,Qq,if_false];rw [if_pos ⟨hv.1 rfl,h1,h2⟩,Qh0 st.scope st.res h [] (fun _ h=>by cases h) (by simp;omega),X7]
theorem Qdp (l:List Fm) (h:OS l) (hl:l.length<=1000000000):Ai l l=some true:=by
 have key:∀(r:List Fm) (i:Nat),l.drop i=r->J1 l l i r=some (.inr ()):=by
  intro r
  induction r with
  | nil=>intro i _;rfl
  | cons y r ih =>
   intro i hd
   have hi:i < l.length:=by
    rcases Kz i l.length with h | h
    ·exact h
    ·rw [ZG h] at hd;cases hd
   rw [ZF hi] at hd
   injection hd with e1 e2
   rw [J1,Ye,X7,Yg _ i hi,X7,e1,B1 y (h y (e1▸ZP hi)),X7,decide_eq_true rfl];exact ih (i+1) e2
 rw [Ai,if_pos rfl,EI _ _ (by omega),key l 0 rfl];rfl
theorem Qhy (l:List Int) (n:Int) (h:n∈l) (hl:l.length<=1000000000):BN l n=some true:=by
 have key:∀(r:List Int) (i:Nat),n∈r->HV l n i r=some (.inl true):=by
  intro r
  induction r with
  | nil=>intro i h;cases h
  | cons y r ih =>
   intro i h;rw [HV,Ye,X7]
   by_cases hy:y=n
   ·rw [if_pos hy];rfl
   ·rw [if_neg hy];exact ih (i+1) (by rcases Kj.1 h with h | h;exact absurd h.symm hy;exact h)
 rw [BN,MW _ _ (by omega),key l 0 h];rfl
theorem Qib (x:Fm):∀f:Fm,f.sz<=1000000->∃b,G2 f x=some b/\(Part x f->b=true):=by
 intro f
 induction f using Fm.ind with
 | h f ih =>
  intro hf;have hz:=Fm.JM f
  have loop:∀(r:List Fm) (i:Nat),(∀k∈r,k∈f.kids)->∃o,GD f x i r=some o/\((∃k∈r,Part x k)->o=.inl true):=by
   intro r
   induction r with
   | nil=>intro i _;exact ⟨_,rfl,fun ⟨k,hk,_⟩=>by cases hk⟩
   | cons k r ihr =>
    intro i hr;have hk:=hr k (Kx ..);obtain ⟨b,hb,hp⟩:=ih k hk (by have:=Fm.W7 hk;omega);rw [GD,Ye,X7,hb,X7];cases b
    ·obtain ⟨o,ho,hop⟩:=ihr (i+1) (fun y hy=>hr y (Kf _ hy));refine ⟨o,by rw [if_neg (by decide)];exact ho,fun ⟨y,hy,hpy⟩=>?_⟩
     rcases Kj.1 hy with rfl | hy
     ·cases hp hpy
     ·exact hop ⟨y,hy,hpy⟩
    ·exact ⟨_,by rw [if_pos rfl];rfl,fun _=>rfl⟩
  rw [G2,B1 f hf,X7]
  by_cases hfx:f=x
  ·rw [decide_eq_true hfx,if_pos rfl];exact ⟨_,rfl,fun _=>rfl⟩
  rw [decide_eq_false hfx,if_neg (by decide),FI _ _ (by omega)];obtain ⟨o,ho,hop⟩:=loop f.kids 0 (fun _ h=>h);rw [ho,X7]
  cases o with
  | inl b=>exact ⟨b,rfl,fun hp=>by
    cases hp with
    | refl=>exact absurd rfl hfx
    | kid hk h=>have:=hop ⟨_,hk,h⟩;injection this⟩
  | inr u=>exact ⟨_,rfl,fun hp=>by
    cases hp with
    | refl=>exact absurd rfl hfx
    | kid hk h=>cases hop ⟨_,hk,h⟩⟩
theorem Qgv (st:Stp) (l:List Fm) (h:OS l) (hn:l.Nodup) (hl:l.length<=1000000000) (i:Nat) (hi:i < l.length):∀(n k:Nat),k+n=i->YQ st l (i:Int) (k:Int)=some (.inr ()):=by
 intro n
 induction n with
 | zero=>intro k hk;rw [YQ,if_neg (by omega)];rfl
 | succ n ih =>
  intro k hk
  have hkl:k < l.length:=by omega
  have hne:¬l[i]=l[k]:=fun he=>by
   have:=(List.getElem_inj hn).1 he;omega
  rw [YQ,if_pos (by omega),Yg _ i hi,X7,Yg _ k hkl,X7,B1 _ (h _ (ZP hi)),X7,decide_eq_false hne,if_neg (by decide),Wb (i:=k) (by omega)];exact ih (k+1) (by omega)
theorem Qho (st:Stp) (l:List Fm) (hs:st.res.sz<=1000000) (h:OS l) (hn:l.Nodup) (hl:l.length<=1000000000) (hm:∀x∈l,st.scope∈x.sc/\Part x st.res):∀(r:List Fm) (i:Nat),l.drop i=r->Vi st l i r=some (.inr ()):=by
 intro r
 induction r with
 | nil=>intro i _;rfl
 | cons y r ih =>
  intro i hd
  have hi:i < l.length:=by
   rcases Kz i l.length with h | h
   ·exact h
   ·rw [ZG h] at hd;cases hd
  rw [ZF hi] at hd
  injection hd with e1 e2
  have hy:y∈l:=e1▸ZP hi;obtain ⟨m1,m2⟩:=hm y hy;have hyz:=Fm.JM y;have hys:=h y hy;obtain ⟨b,hb,hbt⟩:=Qib y st.res hs;obtain rfl:=hbt m2;rw [Vi,Ye,X7,Qhy _ _ m1 (by omega),X7,if_neg (by decide),X7,hb,X7];simp only [Ye,X7,ZW,Qq,if_false];rw [show (0:Int)=((0:Nat):Int) from rfl,Qgv st l h hn hl i hi i 0 (Nat.zero_add _),X7];exact ih (i+1) e2
theorem Qdh {l:List Int} (h:∀x∈l,0<=x/\x < 256):Tot (V2 l) fun s=>s.res.sz<=1000000:=by
 rw [V2];refine ZI (Qd5 h) fun r hr=>?_;split
 ·refine ZI (Ec h) fun c hc=>ZI (Ec h) fun c2 hc2=>?_
  have hp:Pw 2=1600:=by decide
  refine ZI (SQ 2 hc2 (by omega) (by omega)) fun f hf=>?_;have hn:=B6 f.1;refine ZI (Qaw f.1 hc (by omega) (by omega)) fun g hg=>⟨_,rfl,?_⟩;show g.1.sz<=1000000;omega
 ·rename_i hl;refine ZI (Ec h) fun c hc=>ZI (WL hc (by omega) (by omega)) fun p hp=>?_
  have hlt:p.1.toNat < r.length:=by have:=hp.1;have:=hp.2.1;omega
  have hi:idx r p.1=some r[p.1.toNat]:=by
   have:=Yg r p.1.toNat hlt;rwa [Int.toNat_of_nonneg hp.1] at this
  rw [hi,X7];refine ⟨_,rfl,?_⟩;have hm:r[p.1.toNat]∈r:=ZP hlt;have:=(hr.2 _ hm).2;have h1:=this.sz;have h2:=this.2;omega
theorem Dh {l:List Int} (h:∀x∈l,0<=x/\x < 256):JX l=some true:=by
 rw [JX];split
 ·rfl
 obtain ⟨st,hr,hs⟩:=Qdh h;have hn:=B6 st.res
 have key:OS (MV st)/\(MV st).Nodup/\(MV st).length<=1000000000/\∀x∈MV st,st.scope∈x.sc/\Part x st.res:=by
  unfold MV;split
  ·have:=Pr st.scope st.res [];refine ⟨SD (fun _ h=>by cases h) hs,this.nd (by simp),by have:=this.len;simp at this;omega,fun x hx=>?_⟩
   rcases this.mem x hx with h | h
   ·cases h
   ·exact h
  ·exact ⟨(fun _ h=>by cases h),by simp,by simp,(fun _ h=>by cases h)⟩
 obtain ⟨k1,k2,k3,k4⟩:=key;rw [hr,X7,RC st hs,X7,RP st hs,X7,Qdp _ k1 k3,X7,if_neg (by decide),AJ _ _ (by omega),Qho st _ hs k1 k2 k3 k4 (MV st) 0 Z3,X7];rfl
end Go.Proofs.SA
