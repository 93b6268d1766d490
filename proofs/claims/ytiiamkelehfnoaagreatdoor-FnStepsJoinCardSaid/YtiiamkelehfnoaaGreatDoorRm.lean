/- The reference's expansion from the beginning; core programs checked. -/
import Derived.Test.YtiiamkelehfnoaaGreatDoorRj
import Derived.Test.YtiiamkelehfnoaaGreatDoorQa
set_option linter.unusedVariables false
set_option linter.unusedSimpArgs false
set_option maxRecDepth 100000
open Go Go.Proofs Go.Proofs.Shadow
open _root_.List renaming getElem_mem → ZR, mem_cons_of_mem → Kg, mem_cons_self → Kw, length_map → ZU, mem_singleton → ZS, mem_append → QS, length_cons → ZO, length_drop → Xt, take_of_length_le → Xw, mem_cons → Kk, nil_append → QU, count_append → Xx, map_cons → QI, mem_of_mem_drop → QB, length_nil → ZN, drop_eq_getElem_cons → ZH, append_assoc → QE, mem_map → QY, take_append_drop → Kt, flatten_cons → Qt
open Tot renaming bind → ZK
open _root_.ByteArray renaming mk → Ql
open _root_.Bool renaming false_eq_true → Qr, not_false → Z7, not_true → Z8, and_eq_true → QH, or_eq_true → Ka, not_eq_true' → Z5
open _root_.Int renaming le_refl → Xu
open Fm renaming nodes → ZX
open _root_.Nat renaming le_refl → Qu
open Cor renaming kids → Zp, mk → KU
namespace Go.Proofs.SA
def M3 (f:Fm):Prop:=f.kind=3/\∀k∈f.kids,k.kind=3/\k.kids.length=2
theorem I8 {f:Fm} (hf:f.sz<=100000):Tot (JO f) fun r=>(M3 f/\r=(f.kids.map fun k=>k.kids.getD 0 default,f.kids.map fun k=>k.kids.getD 1 default,true))∨(¬M3 f/\r.2.2=false):=by
 have hz:=Fm.Ge f
 have loop:∀(r:List Fm) (i:Nat) (z w:List Fm),z.length+r.length<=200000->w.length+r.length<=200000->Tot (WX f z w i r) fun o=>((∀k∈r,k.kind=3/\k.kids.length=2)/\o=.inr (z++r.map fun k=>k.kids.getD 0 default,w++r.map fun k=>k.kids.getD 1 default))∨(¬(∀k∈r,k.kind=3/\k.kids.length=2)/\∃q,o=.inl q/\q.2.2=false):=by
  intro r
  induction r with
  | nil=>intro i z w _ _;rw [WX];exact ⟨_,rfl,.inl ⟨by simp,by simp⟩⟩
  | cons k r ih =>
   intro i z w hz hw;simp only [ZO] at hz hw;rw [WX];simp only [Ye,X7]
   by_cases h3:k.kind=3
   rotate_left
   ·rw [if_neg h3];simp only [X7,if_true];exact ⟨_,rfl,.inr ⟨fun h=>h3 (h k (Kw ..)).1,_,rfl,rfl⟩⟩
   rw [if_pos h3]
   by_cases h2:k.kids.length=2
   rotate_left
   ·simp only [X7,decide_eq_false (show ¬(k.kids.length:Int)=2 by omega),Z7,if_true];exact ⟨_,rfl,.inr ⟨fun h=>h2 (h k (Kw ..)).2,_,rfl,rfl⟩⟩
   have j0:0 < k.kids.length:=by omega
   have j1:1 < k.kids.length:=by omega
   simp only [X7,decide_eq_true (show (k.kids.length:Int)=2 by omega),Z8,Qr,if_false,show idx k.kids 0=some k.kids[0] from Yn _ 0 j0,show idx k.kids 1=some k.kids[1] from Yn _ 1 j1];rw [YD (by simp;omega),X7,YD (by simp;omega),X7];refine (ih (i+1) _ _ (by simp;omega) (by simp;omega)).mono fun o ho=>?_
   rcases ho with ⟨r1,r2⟩ | ⟨r1,r2⟩
   ·refine .inl ⟨fun x hx=>?_,?_⟩
    ·rcases Kk.1 hx with rfl | hx
     ·exact ⟨h3,h2⟩
     ·exact r1 x hx
    ·rw [r2,QI,QI,WB j0,WB j1,QE,QE];rfl
   ·exact .inr ⟨fun h=>r1 fun x hx=>h x (Kg _ hx),r2⟩
 rw [JO,ED _ _ _ (by omega)];obtain ⟨o,ho,hop⟩:=loop f.kids 0 [] [] (by simp;omega) (by simp;omega);rw [ho,X7]
 rcases hop with ⟨r1,r2⟩ | ⟨r1,q,r2,r3⟩
 ·subst r2;simp only [QU]
  by_cases h3:f.kind=3
  ·exact ⟨_,rfl,.inl ⟨⟨h3,r1⟩,by rw [decide_eq_true h3]⟩⟩
  ·exact ⟨_,rfl,.inr ⟨fun h=>h3 h.1,decide_eq_false h3⟩⟩
 ·subst r2;exact ⟨_,rfl,.inr ⟨fun h=>r1 h.2,r3⟩⟩
theorem Hz {f:Fm} (hf:FV f) (hp:M3 f) {j:Nat} (hj:j < 2):∀x∈f.kids.map fun k=>k.kids.getD j default,FV x:=fun x hx=>by
 obtain ⟨k,hk,rfl⟩:=QY.1 hx;have h2:=(hp.2 k hk).2;simp only [WB (show j < k.kids.length by omega)];exact (hf.kid hk).kid (ZR _)
theorem C6 {f:Fm} (hp:M3 f):YT ZX (f.kids.map fun k=>k.kids.getD 1 default)+1<=f.nodes:=by
 have:∀l:List Fm,(∀k∈l,k.kids.length=2)->YT ZX (l.map fun k=>k.kids.getD 1 default)<=YT ZX l:=by
  intro l
  induction l with
  | nil=>intro _;exact Qu _
  | cons k l ih =>
   intro h;have h1:=ih (fun x hx=>h x (Kg _ hx));have h2:=h k (Kw ..)
   have h3:1 < k.kids.length:=by omega
   have h4:=VL (ZR h3);simp only [QI,YT,WB h3];omega
 have h:=this f.kids (fun k hk=>(hp.2 k hk).2);have:=Fm.YM f;omega
theorem EF {x:Xpn} (hx:XI x) {f:Fm} (hf:FV f) {id b:Int} (hb:b<=60) (hid:MT x.macs id≥0):Tot (HT x f id b) fun r=>r.2.2=0->XI r.1/\r.1.steps=x.steps+1/\x.steps < b/\FV r.2.1:=by
 have ht0:=hx.t0;have hs0:=hx.s0;rw [HT];split
 ·exact ⟨_,rfl,fun h=>by simp at h⟩
 rename_i hst;rw [Qa3 hx,X7]
 by_cases h1:x.scope+1<=99
 rotate_left
 ·rw [decide_eq_false h1];simp only [Z7,if_true];exact ⟨_,rfl,fun h=>by simp at h⟩
 rw [decide_eq_true h1];simp only [Z8,Qr,if_false];have hml:=PQ hid;have hsm:=hx.sm;rw [Yz (by omega) (by omega),Nu _ _ (by exact hsm),X7,Av (l:=x.macs) hid hml.1,X7,J0 _ _ f (by have:=hf.sz;omega),X7]
 have hm:MS (x.macs.getD (MT x.macs id).toNat default):=by
  have:(MT x.macs id).toNat < x.macs.length:=by omega
  rw [WB this];exact hx.mm _ (ZR this)
 have hcs:=Hf hf (x.scope+1) 1;refine ZK (JP (by omega)) fun b1 hb1=>?_;cases b1
 ·simp only [Z7,if_true];exact ⟨_,rfl,fun h=>by simp at h⟩
 simp only [Z8,Qr,if_false];refine ZK (Bi hx.b.bs hm.1 hm.2.1 (by omega)).true fun r1 _=>?_;split
 ·exact ⟨_,rfl,fun h=>by simp at h⟩
 refine ZK (Ps hx.b.bs hm.1 hm.2.1 (by have:=hm.2.2;omega) (by omega)) fun r2 hr2=>?_
 cases hap:Uy x.binds (x.macs.getD (MT x.macs id).toNat default).lits (x.macs.getD (MT x.macs id).toNat default).rules (chg (x.scope+1) 1 f) with
 | none =>
  rw [hap] at hr2;simp only at hr2;rw [hr2];simp only [Z7,if_true];exact ⟨_,rfl,fun h=>by simp at h⟩
 | some g =>
  rw [hap] at hr2;obtain ⟨rfl,hg⟩:=hr2;have hcg:=Hf hg (x.scope+1) 1;simp only [Z8,Qr,if_false];rw [J0 _ _ g (by have:=hg.sz;omega),X7];obtain ⟨b2,e2,hb2⟩:=JP (f:=chg (x.scope+1) 1 g) (by omega);rw [e2,X7];cases b2
  ·simp only [Z7,if_true];exact ⟨_,rfl,fun h=>by simp at h⟩
  ·simp only [Z8,Qr,if_false];refine ⟨_,rfl,fun _=>⟨⟨hx.b,hx.m,hx.i,by show 0<=x.scope+1;omega,h1,by show 0<=x.steps+1;omega,by show x.steps+1<=60;omega,hx.mm⟩,rfl,by omega,hb2.1 rfl⟩⟩
theorem Sa:∀(d:Nat) (f:Fm),LN d f->LN d f.strip
 | 0,_,h=>h.elim
 | d+1,f,h=>by
  rw [Fm.AK];refine ⟨h.1,by show 0<=24;omega,fun k hk=>?_⟩;have hk':k∈f.kids.map Fm.strip:=hk;obtain ⟨y,hy,rfl⟩:=QY.1 hk';exact Sa d y (h.2.2 y hy)
theorem P1 (f:Fm):f.strip.nodes=f.nodes:=by
 induction f using Fm.ind with
 | h f ih =>
  rw [Fm.YM,Fm.YM f,Fm.AK]
  have:∀l:List Fm,(∀g∈l,g.strip.nodes=g.nodes)->YT ZX (l.map Fm.strip)=YT ZX l:=by
   intro l
   induction l with
   | nil=>intro _;rfl
   | cons g l ihl=>intro h;rw [QI,YT,YT,h g (Kw ..),ihl (fun x hx=>h x (Kg _ hx))]
  show 1+YT ZX (f.kids.map Fm.strip)=_;rw [this _ ih]
theorem Qop:∀(l:List Fm) (h:l.length=3),l[0].nodes+l[1].nodes+l[2].nodes=YT ZX l
 | [a,b,c],_=>by simp [YT];omega
theorem ES {b:Int} (hb:b<=60):∀(N:Nat) (x:Xpn) (f:Fm),XI x->FV f->(60 - x.steps).toNat * 1000+f.nodes<=N->Tot (YE x f b) (P7 x f.nodes):=by
 intro N
 induction N with
 | zero=>intro x f _ _ h;have:=Hy f;omega
 | succ N ih =>
  intro x f hx hf hN;have hnf:=Fm.YM f;have hkl:=hf.Ht;rw [YE]
  by_cases k2:f.kind=2
  ·rw [if_pos k2];exact ⟨_,rfl,fun _=>⟨hx,Xu _,Og _ _ _ e0 _ _ (by simp) _ (by simp) (by simp),by have:=Hy f;simp [Cor.YM,Zp,YT];omega⟩⟩
  rw [if_neg k2]
  by_cases k1:f.kind=1
  ·rw [if_pos k1];refine ZK (S3 hx hf) fun r hr=>⟨_,rfl,fun h=>?_⟩;obtain ⟨a1,a2,a3,a4⟩:=hr h;exact ⟨a1,a2,a3,by have:=Hy f;show (r.2.1.nodes:Int)<=_+400 * (r.1.steps - x.steps);omega⟩
  rw [if_neg k1]
  by_cases hl0:(f.kids.length:Int)=0
  ·rw [if_pos hl0];exact ⟨_,rfl,.bad (by decide)⟩
  rw [if_neg hl0]
  have l0:0 < f.kids.length:=by omega
  rw [show idx f.kids 0=some f.kids[0] from Yn f.kids 0 l0,X7]
  have kid:∀(l:List Fm),(∀g∈l,FV g/\g.nodes < f.nodes)->l.length<=400->∀y,XI y->x.steps<=y.steps->Tot (Gd y l b) (PA y l):=fun l hl hll y hy hxy =>
   Uh (s0:=x.steps) (fun z g hz hs hg=>ih z g hz (hl g hg).1 (by have:=(hl g hg).2;omega)) hll hy hxy
  have hkids:∀g∈f.kids,FV g/\g.nodes < f.nodes:=fun g hg=>⟨hf.kid hg,by have:=VL hg;omega⟩
  have call:Tot ((Gd x f.kids b>>=fun x80=>pure (x80.1,KU 6 0 (Ql #[]) 0 [] (Fm.mk 0 (Ql #[]) 0 [] []) x80.2.1,x80.2.2)):Option (Xpn × Cor × Int)) (P7 x f.nodes):=by
   refine ZK (kid f.kids hkids (by omega) x hx (Xu _)) fun r hr=>⟨_,rfl,fun h=>?_⟩;obtain ⟨a1,a2,a3,a4,a5⟩:=hr h;refine ⟨a1,a2,Og _ _ _ e0 _ _ (by simp) _ (by omega) a4,?_⟩;show ((KU _ _ _ _ _ _ r.2.1).nodes:Int)<=_+400 * (r.1.steps - x.steps);rw [Cor.YM];simp only [Zp];omega
  by_cases k3:f.kids[0].kind=1
  rotate_left
  ·rw [if_neg k3];exact call
  have hf0:=hf.kid (ZR l0);rw [if_pos k3,X7,Dz x _ hx.b.bs hf0.smc hx.sm,X7]
  by_cases m4:(Bl x f.kids[0]).1=4
  ·rw [if_pos m4];exact ⟨_,rfl,.bad (by decide)⟩
  rw [if_neg m4]
  by_cases m1:(Bl x f.kids[0]).1=1
  rotate_left
  ·rw [if_neg m1]
   by_cases m2:(Bl x f.kids[0]).1=2
   rotate_left
   ·rw [if_neg m2];exact call
   rw [if_pos m2,AH];obtain ⟨r,hr1,hr⟩:=EF hx hf hb (Lg m2);rw [hr1,X7]
   by_cases h0:r.2.2=0
   rotate_left
   ·rw [if_neg h0];exact ⟨_,rfl,.bad h0⟩
   obtain ⟨a1,a2,a3,a4⟩:=hr h0;rw [if_pos h0];have ht0:=hx.t0;refine ZK (ZK (ih r.1 r.2.1 a1 a4 (by have:=a4.2;have:=a1.t1;rw [a2] at *;omega)) fun q hq=>⟨_,rfl,hq⟩) fun q hq=>⟨_,rfl,fun h=>?_⟩;obtain ⟨c1,c2,c3,c4⟩:=hq h;have hn4:=a4.2;refine ⟨c1,by show x.steps<=q.1.steps;omega,c3,?_⟩;show (q.2.1.nodes:Int)<=_+400 * (q.1.steps - x.steps);omega
  rw [if_pos m1]
  have hform:Tot (WW x f (Bl x f.kids[0]).2 b) (P7 x f.nodes):=by
   generalize (Bl x f.kids[0]).2=id;rw [WW];simp only [Ye,X7];split
   ·rename_i hq;rw [QH,decide_eq_true_iff,decide_eq_true_iff] at hq
    have l1:1 < f.kids.length:=by omega
    have hv:=hf.kid (ZR l1);rw [show idx f.kids 1=some f.kids[1] from Yn f.kids 1 l1,X7,Ay _ (by have:=hv.sz;omega),X7];refine ⟨_,rfl,fun _=>⟨hx,Xu _,.mk e0 (by simp) (Sa _ _ hv.ln) (by rw [P1];exact hv.2) (by simp) (by simp),?_⟩⟩;have:=Hy f;simp [Cor.YM,Zp,YT];omega
   split
   ·rename_i hq;rw [QH,decide_eq_true_iff,decide_eq_true_iff] at hq
    have hsub:Dk f.kids 1 (f.kids.length:Int)=some (f.kids.drop 1):=by
     unfold Dk;rw [if_pos ⟨by omega,by omega,by omega⟩]
     congr 1
     rw [Xw];rfl;rw [Xt];omega
    rw [hsub,X7];refine ZK (kid (f.kids.drop 1) (fun g hg=>hkids g (QB hg)) (by rw [Xt];omega) x hx (Xu _)) fun r hr=>⟨_,rfl,fun h=>?_⟩;obtain ⟨a1,a2,a3,a4,a5⟩:=hr h;refine ⟨a1,a2,Og _ _ _ e0 _ _ (by simp) _ (by rw [a3,Xt];omega) a4,?_⟩;show ((KU _ _ _ _ _ _ r.2.1).nodes:Int)<=_+400 * (r.1.steps - x.steps);rw [Cor.YM];simp only [Zp]
    have:YT ZX (f.kids.drop 1)<=YT ZX f.kids:=by
     conv=>rhs;rw [← Kt 1 f.kids,Iw]
     omega
    omega
   have body:∀(hb2:2 < f.kids.length) (names:List Fm),(∀n∈names,FV n)->names.length<=400->∀y,XI y->x.steps<=y.steps->Tot (GR y names f.kids[2] b) (P7 y (f.kids[2].nodes+1)):=fun hb2 names hn hnl y hy hxy=>by
    have hv:=hf.kid (ZR hb2);have hk:=VL (ZR hb2);exact Le (s0:=x.steps) hv (fun z g hz hs hg hgn=>ih z g hz hg (by omega)) hn hnl hy hxy
   have lam:Tot ((if (decide (id=1)&&decide ((f.kids.length:Int)=3))=true then (idx f.kids 1>>=fun x72=>some (decide (x72.kind=3))) else some false:Option Bool)) fun c=>c=true->id=1/\f.kids.length=3:=by
    split
    ·rename_i hq;rw [QH,decide_eq_true_iff,decide_eq_true_iff] at hq
     have l1:1 < f.kids.length:=by omega
     rw [show idx f.kids 1=some f.kids[1] from Yn f.kids 1 l1,X7];exact ⟨_,rfl,fun _=>⟨hq.1,by omega⟩⟩
    ·exact ⟨_,rfl,fun h=>by cases h⟩
   refine ZK lam fun c hc=>?_
   by_cases hct:c=true
   ·rw [if_pos hct];obtain ⟨_,h3⟩:=hc hct
    have l1:1 < f.kids.length:=by omega
    have l2:2 < f.kids.length:=by omega
    rw [show idx f.kids 1=some f.kids[1] from Yn f.kids 1 l1,X7,show idx f.kids 2=some f.kids[2] from Yn f.kids 2 l2,X7];have hv1:=hf.kid (ZR l1);have hk2:=VL (ZR l2);refine ZK (body l2 f.kids[1].kids (fun n hn=>hv1.kid hn) (by have:=hv1.Ht;omega) x hx (Xu _)) fun r hr=>⟨_,rfl,fun h=>?_⟩;obtain ⟨a1,a2,a3,a4⟩:=hr h;exact ⟨a1,a2,a3,by show (r.2.1.nodes:Int)<=_+400 * (r.1.steps - x.steps);omega⟩
   rw [if_neg hct];split
   ·exact ⟨_,rfl,.bad (by decide)⟩
   rename_i hq
   have h3:f.kids.length=3:=by
    rw [Ka,not_or] at hq;have:=hq.2;simp only [Z5,decide_eq_false_iff_not,Classical.not_not] at this;omega
   have l1:1 < f.kids.length:=by omega
   have l2:2 < f.kids.length:=by omega
   have hv1:=hf.kid (ZR l1);have hv2:=hf.kid (ZR l2);have hk1:=VL (ZR l1);have hk2:=VL (ZR l2);have hsum:=Qop f.kids h3;have hp0:=Hy f.kids[0];rw [show idx f.kids 1=some f.kids[1] from Yn f.kids 1 l1,X7];refine ZK (I8 (by have:=hv1.sz;omega)) fun r hr=>?_
   rcases hr with ⟨hpo,rfl⟩ | ⟨_,hpf⟩
   rotate_left
   ·rw [hpf];simp only [Z7,if_true];exact ⟨_,rfl,.bad (by decide)⟩
   simp only [Z8,Qr,if_false,show idx f.kids 2=some f.kids[2] from Yn f.kids 2 l2,X7];have hn:=Hz hv1 hpo (j:=0) (by omega);have hvs:=Hz hv1 hpo (j:=1) (by omega);have hpn:=C6 hpo;have hkl1:=hv1.Ht;split
   ·refine ZK (BQ (s0:=x.steps) hv2 (fun z g hz hs hg hgn=>ih z g hz hg (by omega)) hn hvs (by simp) (by rw [ZU];omega) hx (Xu _)) fun r hr=>⟨_,rfl,fun h=>?_⟩;obtain ⟨a1,a2,a3,a4⟩:=hr h;exact ⟨a1,a2,a3,by show (r.2.1.nodes:Int)<=_+400 * (r.1.steps - x.steps);omega⟩
   ·refine ZK (kid _ (fun g hg=>⟨hvs g hg,by have:=GC ZX _ g hg;omega⟩) (by rw [ZU];omega) x hx (Xu _)) fun r hr=>?_
    by_cases h0:r.2.2=0
    rotate_left
    ·rw [if_neg h0];exact ⟨_,rfl,.bad h0⟩
    rw [if_pos h0];obtain ⟨a1,a2,a3,a4,a5⟩:=hr h0;refine ZK (body l2 _ hn (by rw [ZU];omega) r.1 a1 a2) fun q hq=>?_;rw [ZU] at a3;rw [YD (by simp;omega),X7];refine ⟨_,rfl,fun h=>?_⟩;obtain ⟨c1,c2,c3,c4⟩:=hq h;refine ⟨c1,by show x.steps<=q.1.steps;omega,Og _ _ _ e0 _ _ (by simp) _ (by simp;omega) (fun c hc=>?_),?_⟩
    ·rcases Kk.1 hc with rfl | hc
     ·exact c3
     ·exact a4 c hc
    ·show ((KU _ _ _ _ _ _ ([q.2.1]++r.2.1)).nodes:Int)<=_+400 * (q.1.steps - x.steps);rw [Cor.YM];simp only [Zp,List.cons_append,QU,YT];omega
  exact ZK hform fun r hr=>⟨_,rfl,hr⟩
end Go.Proofs.SA
namespace Go.Proofs.SA
inductive Qbq:Cor->Prop
 | mk {k i:Int} {s:ByteArray} {n:Int} {l:List Int} {d:Fm} {ks:List Cor} (hl:l.length<=1000000) (hd:d.sz<=1000000) (hk:ks.length<=1000000) (h:∀x∈ks,Qbq x):Qbq (.mk k i s n l d ks)
theorem Qbq.out {c:Cor} (h:Qbq c):c.ids.length<=1000000/\c.data.sz<=1000000/\c.kids.length<=1000000/\∀x∈c.kids,Qbq x:=by
 cases h;exact ⟨by assumption,by assumption,by assumption,by assumption⟩
theorem Ru.b {c:Cor} (h:Ru c):Qbq c:=by
 induction h with
 | mk hs hl hd hn hk _ ih=>exact .mk (by omega) (by have:=LN.sz _ _ hd;omega) (by omega) ih
def arity (k:Int) (n:Nat):Prop:=((k=1∨k=2∨k=3∨k=4)/\n=0)∨(k=5/\n=1)∨(k=6/\1<=n)∨(k=7/\n=3)
def zF:Fm:=Fm.mk 0 (Ql #[]) 0 [] []
def Nl (c:Cor):Prop:=((c.kind=1->1<=c.id/\c.id<=999)/\(c.kind≠1->c.id=0))/\((c.kind=2->NV c.name)/\(c.kind≠2->c.name=Ql #[]))/\((c.kind=3->0<=c.num/\c.num<=999)/\(c.kind≠3->c.num=0))/\((c.kind=4->FV c.data/\c.data.strip=c.data)/\(c.kind≠4->c.data=zF))/\(c.kind≠5->c.ids=[])
def CIs:Nat->List Int->Cor->Prop
 | 0,_,_=>False
 | d+1,sc,c=>arity c.kind c.kids.length/\Nl c/\(c.kind=1->c.id∈sc)/\(∀i∈c.ids,1<=i/\i<=999/\i∉sc)/\c.ids.Nodup/\∀k∈c.kids,CIs d (sc++c.ids) k
def CV (c:Cor):Prop:=CIs 120 [] c/\c.nodes<=600
theorem SZ (k:Int) (n:Nat):Tot (Aj k n) fun b=>b=true↔arity k n:=by
 rw [Aj]
 by_cases h1:k=1
 ·subst h1;simp [Ye,X7,arity,Tot]
 by_cases h2:k=2
 ·subst h2;simp [Ye,X7,arity,Tot]
 by_cases h3:k=3
 ·subst h3;simp [Ye,X7,arity,Tot]
 by_cases h4:k=4
 ·subst h4;simp [Ye,X7,arity,Tot]
 by_cases h5:k=5
 ·subst h5;simp [Ye,X7,arity,Tot];omega
 by_cases h6:k=6
 ·subst h6;simp [Ye,X7,arity,Tot];omega
 by_cases h7:k=7
 ·subst h7;simp [Ye,X7,arity,Tot];omega
 simp [Ye,X7,arity,Tot,h1,h2,h3,h4,h5,h6,h7]
theorem Ox {c:Cor} (hd:c.data.sz<=1000000):Tot (Hp c) fun b=>b=true↔Nl c:=by
 have hs:YU c.data (Fm.mk 0 (Ql #[]) 0 [] [])=some (decide (c.data=zF)):=Cq _ hd _;obtain ⟨bn,en,hn⟩:=PR c.name;obtain ⟨bf,ef,hf⟩:=JP (f:=c.data) (by omega);have est:Y3 c.data=some c.data.strip:=Ay c.data (by omega);have esm:YU c.data.strip c.data=some (decide (c.data.strip=c.data)):=Cq _ (by have:=Fm.FM c.data;omega) _
 have hi:decide ((c.ids.length:Int)=0)=decide (c.ids=[]):=by
  by_cases h:c.ids=[]
  ·rw [h];rfl
  ·rw [decide_eq_false h,decide_eq_false];intro h2;exact h (List.eq_nil_of_length_eq_zero (by omega))
 have key:∀(k1 k2 k3 k4 k5:Bool) (iL iG iZ nZ mL mG mZ dS dZ iN:Bool),k1=decide (c.kind=1)->k2=decide (c.kind=2)->k3=decide (c.kind=3)->k4=decide (c.kind=4)->k5=decide (c.kind=5) ->
   iL=decide (c.id < 1)->iG=decide (c.id > 999)->iZ=decide (c.id=0)->nZ=decide (c.name=Ql #[])->mL=decide (c.num < 0)->mG=decide (c.num > 999)->mZ=decide (c.num=0)->dS=decide (c.data.strip=c.data)->dZ=decide (c.data=zF)->iN=decide (c.ids=[]) ->
   Hp c=some (!(if k1 then iL||iG else !iZ)&&!(if k2 then !bn else !nZ)&&!(if k3 then mL||mG else !mZ)&&!(if k4 then !bf||!dS else !dZ)&&(k5||iN)):=by
  intro k1 k2 k3 k4 k5 iL iG iZ nZ mL mG mZ dS dZ iN e1 e2 e3 e4 e5 f1 f2 f3 f4 f5 f6 f7 f8 f9 f10
  have c1:(c.kind=1)=(k1=true):=by rw [e1];simp
  have c2:(c.kind=2)=(k2=true):=by rw [e2];simp
  have c3:(c.kind=3)=(k3=true):=by rw [e3];simp
  have c4:(c.kind=4)=(k4=true):=by rw [e4];simp
  rw [Hp];simp only [← e1,← e2,← e3,← e4,← e5,← f1,← f2,← f3,← f4,← f5,← f6,← f7,c1,c2,c3,c4,en,ef,est,esm,hs,hi,← f8,← f9,← f10,Ye,X7];cases k1<;>cases k2<;>cases k3<;>cases k4<;>simp only [X7,Ye,Qr,if_false,if_true,Z8,Z7,Bool.true_and,Bool.false_and,esm,← f8]
  all_goals (cases iL<;>cases iG<;>cases iZ<;>cases nZ<;>first | rfl | (cases bn<;>cases mL<;>cases mG<;>cases mZ<;>first | rfl | (cases bf<;>cases dS<;>cases dZ<;>first | rfl | (cases k5<;>cases iN<;>rfl))))
 refine ⟨_,key _ _ _ _ _ _ _ _ _ _ _ _ _ _ _ rfl rfl rfl rfl rfl rfl rfl rfl rfl rfl rfl rfl rfl rfl rfl,?_⟩;unfold Nl;simp only [QH,Z5,Ka,decide_eq_true_eq];rw [← hn,← hf]
 have q1:(if decide (c.kind=1)=true then (decide (c.id < 1)||decide (c.id > 999)) else !decide (c.id=0))=false↔((c.kind=1->1<=c.id/\c.id<=999)/\(c.kind≠1->c.id=0)):=by
  by_cases h:c.kind=1
  ·simp [h]
  ·simp [h]
 have q2:(if decide (c.kind=2)=true then !bn else !decide (c.name=Ql #[]))=false↔((c.kind=2->bn=true)/\(c.kind≠2->c.name=Ql #[])):=by
  by_cases h:c.kind=2
  ·simp [h]
  ·simp [h]
 have q3:(if decide (c.kind=3)=true then (decide (c.num < 0)||decide (c.num > 999)) else !decide (c.num=0))=false↔((c.kind=3->0<=c.num/\c.num<=999)/\(c.kind≠3->c.num=0)):=by
  by_cases h:c.kind=3
  ·simp [h]
  ·simp [h]
 have q4:(if decide (c.kind=4)=true then (!bf||!decide (c.data.strip=c.data)) else !decide (c.data=zF))=false↔((c.kind=4->bf=true/\c.data.strip=c.data)/\(c.kind≠4->c.data=zF)):=by
  by_cases h:c.kind=4
  ·simp [h]
  ·simp [h]
 have q5:(c.kind=5∨c.ids=[])↔(c.kind≠5->c.ids=[]):=by
  by_cases h:c.kind=5
  ·simp [h]
  ·simp [h]
 simp only [decide_eq_true_eq] at q1 q2 q3 q4;rw [q1,q2,q3,q4,q5,and_assoc,and_assoc,and_assoc]
theorem Qnj (c:Cor) (d:Int):∀(r:List Int) (i:Nat) (sc:List Int),sc.length+r.length<=1000000000->(∀x∈r,True)->Tot (GA c d sc i r) fun o=>match o with
  | .inl q=>q=false/\¬((∀x∈r,1<=x/\x<=999/\x∉sc)/\r.Nodup)
  | .inr q=>q=sc++r/\(∀x∈r,1<=x/\x<=999/\x∉sc)/\r.Nodup:=by
 intro r
 induction r with
 | nil=>intro i sc _ _;rw [GA];exact ⟨_,rfl,by simp,by simp,by simp⟩
 | cons x r ih =>
  intro i sc hl _;simp only [ZO] at hl;rw [GA];simp only [Ye,X7]
  have bad:¬(1<=x/\x<=999/\x∉sc)->Tot (some (Sum.inl false):Option (Bool ⊕ List Int)) fun o=>match o with
   | .inl q=>q=false/\¬((∀y∈x :: r,1<=y/\y<=999/\y∉sc)/\(x :: r).Nodup)
   | .inr q=>q=sc++(x :: r)/\(∀y∈x :: r,1<=y/\y<=999/\y∉sc)/\(x :: r).Nodup:=fun h=>⟨_,rfl,rfl,fun h2=>h (h2.1 x (Kw ..))⟩
  by_cases h1:x < 1
  ·simp only [h1,if_true,X7];exact bad (by omega)
  by_cases h2:x > 999
  ·simp only [h1,h2,if_false,if_true,X7,decide_true];exact bad (by omega)
  simp only [h1,h2,if_false,X7,decide_false,Qr,Oz sc x (show Sm sc.length by unfold Sm;omega)]
  by_cases h3:x∈sc
  ·simp only [h3,decide_true,if_true];exact bad (fun h=>h.2.2 h3)
  simp only [h3,decide_false,Qr,if_false];rw [YD (by simp;omega)];simp only [X7,QU];rw [YD (by simp;omega)];simp only [X7];refine (ih (i+1) (sc++[x]) (by simp;omega) (fun _ _=>trivial)).mono fun o ho=>?_
  have conv:((∀y∈r,1<=y/\y<=999/\y∉sc++[x])/\r.Nodup)↔((∀y∈x :: r,1<=y/\y<=999/\y∉sc)/\(x :: r).Nodup):=by
   rw [List.nodup_cons];constructor
   ·rintro ⟨a,b⟩;refine ⟨fun y hy=>?_,fun hx=>?_,b⟩
    ·rcases Kk.1 hy with rfl | hy
     ·exact ⟨by omega,by omega,h3⟩
     ·have:=a y hy;exact ⟨this.1,this.2.1,fun h=>this.2.2 (List.mem_append_left _ h)⟩
    ·exact (a x hx).2.2 (by simp)
   ·rintro ⟨a,b,e⟩;refine ⟨fun y hy=>?_,e⟩;have:=a y (Kg _ hy);refine ⟨this.1,this.2.1,fun h=>?_⟩
    rcases QS.1 h with h | h
    ·exact this.2.2 h
    ·rw [ZS.1 h] at hy;exact b hy
  cases o with
  | inl q=>exact ⟨ho.1,fun h=>ho.2 (conv.2 h)⟩
  | inr q =>
   obtain ⟨a,b⟩:=ho;exact ⟨by rw [a,QE];rfl,conv.1 b⟩
theorem Qde:∀(d:Nat),d<=120->∀(c:Cor),Qbq c->∀sc:List Int,sc.length+d * 1000000<=900000000->Tot (Ii c sc d) fun b=>b=true↔CIs d sc c:=by
 intro d
 induction d with
 | zero=>intro _ c _ sc _;rw [Ii,if_pos (by rfl)];simp only [Ye,X7,if_true];exact ⟨_,rfl,fun h=>(by cases h),fun h=>(show False from h).elim⟩
 | succ d ih =>
  intro hd c hc sc hsc;obtain ⟨c1,c2,c3,c4⟩:=hc.out;rw [Ii,if_neg (by omega)];have bad:¬CIs (d+1) sc c->Tot (some false:Option Bool) fun b=>b=true↔CIs (d+1) sc c:=fun h=>⟨_,rfl,fun h2=>(by cases h2),fun h2=>absurd h2 h⟩;obtain ⟨b1,e1,h1⟩:=SZ c.kind c.kids.length;rw [e1];simp only [Ye,X7];cases b1
  ·simp only [Z7,if_true,X7]
   exact bad fun h=>by have:=h1.2 h.1;cases this
  obtain ⟨b2,e2,h2⟩:=Ox c2;simp only [Z8,Qr,if_false,e2,X7];cases b2
  ·simp only [Z7,if_true,X7]
   exact bad fun h=>by have:=h2.2 h.2.1;cases this
  simp only [Z8,Qr,if_false]
  have h3:((if c.kind=1 then (Jq sc c.id>>=fun x34=>some (!x34)) else some false:Option Bool))=some (decide (c.kind=1/\c.id∉sc)):=by
   by_cases hk:c.kind=1
   ·rw [if_pos hk,Oz sc c.id (by unfold Sm;omega),X7];by_cases hm:c.id∈sc<;>simp [hk,hm]
   ·rw [if_neg hk];simp [hk]
  rw [h3];simp only [X7]
  by_cases h4:c.kind=1/\c.id∉sc
  ·rw [decide_eq_true h4];simp only [if_true];exact bad fun h=>h4.2 (h.2.2.1 h4.1)
  rw [decide_eq_false h4];simp only [Qr,if_false];rw [MB _ _ _ (by omega)];obtain ⟨o,ho,hop⟩:=Qnj c ((d+1:Nat):Int) c.ids 0 sc (by omega) (fun _ _=>trivial);rw [ho];simp only [X7]
  cases o with
  | inl q =>
   obtain ⟨rfl,hn⟩:=hop;exact bad fun h=>hn ⟨h.2.2.2.1,h.2.2.2.2.1⟩
  | inr q =>
   obtain ⟨rfl,hi1,hi2⟩:=hop
   simp only
   rw [MC _ _ _ (by omega)]
   have loop:∀(r:List Cor) (i:Nat),(∀x∈r,x∈c.kids)->Tot (GB c ((d+1:Nat):Int) (sc++c.ids) i r) fun o=>match o with | .inl b=>b=false/\¬∀k∈r,CIs d (sc++c.ids) k | .inr _=>∀k∈r,CIs d (sc++c.ids) k:=by
    intro r
    induction r with
    | nil=>intro i _;rw [GB];exact ⟨_,rfl,by simp⟩
    | cons k r ihr =>
     intro i hr;rw [GB];simp only [Ye,X7];rw [Yz (by omega) (by omega),show ((d+1:Nat):Int) - 1=(d:Int) by omega];refine ZK (ih (by omega) k (c4 k (hr k (Kw ..))) _ (by rw [List.length_append];omega)) fun b hb=>?_;cases b
     ·simp only [Z7,if_true];exact ⟨_,rfl,rfl,fun h=>by have:=hb.2 (h k (Kw ..));cases this⟩
     ·simp only [Z8,Qr,if_false];refine (ihr (i+1) (fun x hx=>hr x (Kg _ hx))).mono fun o ho=>?_
      cases o with
      | inl q=>exact ⟨ho.1,fun h=>ho.2 fun x hx=>h x (Kg _ hx)⟩
      | inr q =>
       exact fun x hx=>by
        rcases Kk.1 hx with rfl | hx
        ·exact hb.1 rfl
        ·exact ho x hx
   obtain ⟨o,ho2,hop2⟩:=loop c.kids 0 (fun _ h=>h);rw [ho2];simp only [X7]
   cases o with
   | inl q=>obtain ⟨rfl,hn⟩:=hop2;exact bad fun h=>hn h.2.2.2.2.2
   | inr q =>
    refine ⟨_,rfl,fun _=>⟨h1.1 rfl,h2.1 rfl,fun hk=>Classical.byContradiction fun hm=>h4 ⟨hk,hm⟩,hi1,hi2,hop2⟩,fun _=>rfl⟩
theorem UQ:∀(c:Cor),Qbq c->c.nodes<=1000000000->Gi c=some (c.nodes:Int):=by
 intro c
 induction c using Cor.ind with
 | h c ih =>
  intro hc hn;obtain ⟨c1,c2,c3,c4⟩:=hc.out;have hne:=Cor.YM c
  have loop:∀(r:List Cor) (i:Nat) (m:Nat),(∀x∈r,x∈c.kids)->m+YT Cor.nodes r<=1000000000->WV c (m:Int) i r=some ((m+YT Cor.nodes r:Nat):Int):=by
   intro r
   induction r with
   | nil=>intro i m _ _;rw [WV];rfl
   | cons k r ihr =>
    intro i m hr hm;rw [YT] at hm;have hk:=hr k (Kw ..);rw [WV,Ye,X7,ih k hk (c4 k hk) (by omega),X7,Yz (by omega) (by omega),show (m:Int)+(k.nodes:Int)=((m+k.nodes:Nat):Int) by omega,ihr _ _ (fun x hx=>hr x (Kg _ hx)) (by omega),YT,Nat.add_assoc]
  rw [Gi,EB _ _ (by omega),show (1:Int)=((1:Nat):Int) from rfl,loop c.kids 0 1 (fun _ h=>h) (by omega),X7,hne];rfl
theorem Md {c:Cor} (hc:Qbq c) (hn:c.nodes<=1000000000):Tot (HA c) fun b=>b=true↔CV c:=by
 rw [HA];refine ZK (Qde 120 (by omega) c hc [] (by simp)) fun b hb=>?_;cases b
 ·simp only [Qr,if_false,Ye,X7];exact ⟨_,rfl,fun h=>(by cases h),fun h=>(by have:=hb.2 h.1;cases this)⟩
 ·simp only [if_true,UQ c hc hn,Ye,X7];refine ⟨_,rfl,?_⟩;simp only [decide_eq_true_iff];exact ⟨fun h=>⟨hb.1 rfl,by omega⟩,fun h=>by have:=h.2;omega⟩
theorem OX:YV=some ⟨[⟨(Ql #[108,97,109,98,100,97]),[],1⟩,⟨(Ql #[105,102]),[],2⟩,⟨(Ql #[113,117,111,116,101]),[],3⟩,⟨(Ql #[108,101,116]),[],4⟩,⟨(Ql #[108,101,116,45,115,121,110,116,97,120]),[],5⟩],[],0,10,0⟩:=by
 rw [YV,AI,Ye,X7]
 have st:∀(i:Nat) (z:List Bnd) (hi:i < 6),z.length<=5->YP [(Ql #[]),(Ql #[108,97,109,98,100,97]),(Ql #[105,102]),(Ql #[113,117,111,116,101]),(Ql #[108,101,116]),(Ql #[108,101,116,45,115,121,110,116,97,120])] z (i:Int)=YP [(Ql #[]),(Ql #[108,97,109,98,100,97]),(Ql #[105,102]),(Ql #[113,117,111,116,101]),(Ql #[108,101,116]),(Ql #[108,101,116,45,115,121,110,116,97,120])] (z++[⟨[(Ql #[]),(Ql #[108,97,109,98,100,97]),(Ql #[105,102]),(Ql #[113,117,111,116,101]),(Ql #[108,101,116]),(Ql #[108,101,116,45,115,121,110,116,97,120])][i]'hi,[],(i:Int)⟩]) ((i+1:Nat):Int):=fun i z hi hz=>by
  conv=>lhs;rw [YP,if_pos (by simp;omega),Yn _ i (by simpa using hi),X7,YD (by simp;omega),X7,VI (i:=i) (by omega)]
 rw [show (1:Int)=((1:Nat):Int) from rfl,st 1 [] (by omega) (by simp),st 2 _ (by omega) (by simp),st 3 _ (by omega) (by simp),st 4 _ (by omega) (by simp),st 5 _ (by omega) (by simp),YP,if_neg (by simp)];rfl
theorem Qbb {x:Xpn} (h:YV=some x):XI x:=by
 rw [OX] at h
 injection h with h
 subst h;have nv:∀s:ByteArray,(1<=s.size/\s.size<=12/\∀j,j < s.size->NP s j)->NV s:=fun s h=>.inr (.inr h);have np:∀s:ByteArray,(∀j:Fin s.size,ltr (byt s j.val) (decide ((j.val:Int)=0))=true)->∀j,j < s.size->NP s j:=fun s h j hj=>h ⟨j,hj⟩;refine ⟨⟨by decide,fun b hb=>?_,?_⟩,by decide,by decide,by decide,by decide,by decide,by decide,fun m hm=>by cases hm⟩
 ·have sv:SV []:=⟨by decide,fun j hj=>by simp at hj⟩;simp only [Kk,List.not_mem_nil,or_false] at hb
  rcases hb with rfl | rfl | rfl | rfl | rfl
  ·exact ⟨nv _ ⟨by decide,by decide,np _ (by decide)⟩,sv,by decide,by decide⟩
  ·exact ⟨nv _ ⟨by decide,by decide,np _ (by decide)⟩,sv,by decide,by decide⟩
  ·exact ⟨nv _ ⟨by decide,by decide,np _ (by decide)⟩,sv,by decide,by decide⟩
  ·exact ⟨nv _ ⟨by decide,by decide,np _ (by decide)⟩,sv,by decide,by decide⟩
  ·exact ⟨nv _ ⟨by decide,by decide,np _ (by decide)⟩,sv,by decide,by decide⟩
 ·have h5:([(Ql #[108,97,109,98,100,97]),(Ql #[105,102]),(Ql #[113,117,111,116,101]),(Ql #[108,101,116]),(Ql #[108,101,116,45,115,121,110,116,97,120])]:List ByteArray).Pairwise (· ≠ ·):=by decide
  refine (List.pairwise_map (f:=Bnd.name).1 h5).imp ?_;exact fun h e=>h e.1
theorem Qa1 {f:Fm} (hf:f.sz < 1000000000) (b:Int):Tot (Be f b) fun r=>(r.2.2=0->XI r.1/\Ru r.2.1/\CV r.2.1)/\(r.2.2≠0->r.1=⟨[],[],0,0,0⟩/\r.2.1=KU 0 0 (Ql #[]) 0 [] (Fm.mk 0 (Ql #[]) 0 [] []) []):=by
 rw [Be];refine ZK (JP hf) fun b1 hb1=>?_;simp only [Ye,X7];split
 ·exact ⟨_,rfl,fun h=>by simp at h,fun _=>⟨rfl,rfl⟩⟩
 rename_i hc;rw [Ka,Ka,not_or,not_or] at hc;have hv:FV f:=hb1.1 (by have:=hc.1.1;simpa using this)
 have hb60:b<=60:=by have:=hc.2;simp at this;omega
 obtain ⟨x0,hx0⟩:∃x,YV=some x:=⟨_,OX⟩;have hXI:=Qbb hx0;rw [hx0];simp only [X7]
 have ht:x0.steps=0:=by rw [OX] at hx0;injection hx0 with hx0;rw [← hx0]
 obtain ⟨r,hr1,hr⟩:=ES hb60 _ x0 f hXI hv (Qu _);rw [hr1];simp only [X7]
 by_cases h0:r.2.2=0
 rotate_left
 ·rw [if_neg h0];exact ⟨_,rfl,fun h=>absurd h h0,fun _=>⟨rfl,rfl⟩⟩
 rw [if_pos h0];obtain ⟨a1,a2,a3,a4⟩:=hr h0
 have hn:r.2.1.nodes<=1000000000:=by have:=a1.t1;have:=hv.2;omega
 obtain ⟨b2,e2,hb2⟩:=Md a3.b hn;rw [e2];simp only [X7];cases b2
 ·simp only [Z7,if_true];exact ⟨_,rfl,fun h=>by simp at h,fun _=>⟨rfl,rfl⟩⟩
 ·simp only [Z8,Qr,if_false];exact ⟨_,rfl,fun _=>⟨a1,a3,hb2.1 rfl⟩,fun h=>absurd rfl h⟩
theorem Qcq:∀c:Cor,Qbq c->Ha c=some c:=by
 intro c
 induction c using Cor.ind with
 | h c ih =>
  intro hc;obtain ⟨c1,c2,c3,c4⟩:=hc.out
  rw [Ha,YD (by simp;omega),X7,QU,BK _ (by omega),X7,Fy _ _ _ _ (by omega),Iz (Gc c c.ids c.data) id (fun _ _=>rfl) c.kids [] 0 (fun x hx z i r hz=>by
   rw [Gc,Ye,X7,ih x hx (c4 x hx),X7,YD (by simp;omega),X7];rfl) (by simp;omega)]
  simp only [X7,Ye,QU,List.map_id,Cor.eta]
theorem Lc {f:Fm} (hf:f.sz < 1000000000) (b:Int):Tot (G1 f b) fun r=>(r.2=0->Ru r.1/\CV r.1)/\Ru r.1:=by
 rw [G1];refine ZK (Qa1 hf b) fun r hr=>?_
 have hs:Ru r.2.1:=by
  by_cases h:r.2.2=0
  ·exact (hr.1 h).2.1
  ·rw [(hr.2 h).2];exact Og _ _ _ e0 _ _ (by simp) _ (by simp) (by simp)
 rw [Qcq _ hs.b,X7];exact ⟨_,rfl,fun h=>⟨hs,(hr.1 h).2.2⟩,hs⟩
end Go.Proofs.SA
namespace Go.Proofs.SA
inductive Qis (m:Nat):Cor->Prop
 | mk {k i:Int} {s:ByteArray} {n:Int} {l:List Int} {d:Fm} {ks:List Cor} (hl:l.length<=m) (hd:d.sz<=1000/\d.strip=d) (hs:s.size<=1000) (hk:ks.length<=1000) (h:∀x∈ks,Qis m x):Qis m (.mk k i s n l d ks)
theorem Qis.mono {m n:Nat} (hmn:m<=n) {c:Cor} (h:Qis m c):Qis n c:=by
 induction h with
 | mk hl hd hs hk _ ih=>exact .mk (by omega) hd hs hk ih
end Go.Proofs.SA
namespace Go.Proofs.SA
def SOk (s:Stp):Prop:=FV s.use/\FV s.res
def GX (x:Xpn) (out:List Stp):Prop:=(∀s∈out,SOk s)/\(out.length:Int)<=x.steps
def P10 (x:Xpn) (r:Xpn × List Stp × Int):Prop:=(∀s∈r.2.1,SOk s)/\r.2.1.length<=60/\(r.2.2=0->XI r.1/\x.steps<=r.1.steps/\(r.2.1.length:Int)<=r.1.steps)
theorem GX.le {x:Xpn} (hx:XI x) {out:List Stp} (h:GX x out):out.length<=60:=by have:=h.2;have:=hx.t1;omega
theorem GX.to {x y:Xpn} {out:List Stp} (h:GX x out) (hs:x.steps<=y.steps):GX y out:=⟨h.1,by have:=h.2;omega⟩
theorem P10.bad {x y:Xpn} (hx:XI x) {out:List Stp} (h:GX x out) {e:Int} (he:e≠0):P10 x (y,out,e):=⟨h.1,h.le hx,fun h0=>absurd h0 he⟩
theorem P10.to {x y:Xpn} {r:Xpn × List Stp × Int} (h:P10 y r) (hs:x.steps<=y.steps):P10 x r:=⟨h.1,h.2.1,fun h0=>by obtain ⟨a,b,c⟩:=h.2.2 h0;exact ⟨a,by omega,c⟩⟩
theorem P10.of7 {x y:Xpn} (hx:XI x) {out:List Stp} (h:GX x out) {n:Nat} {c:Cor} {e:Int} (h7:P7 x n (y,c,e)):P10 x (y,out,e):=⟨h.1,h.le hx,fun h0=>by
 obtain ⟨a,b,_⟩:=h7 h0
 exact ⟨a,b,Int.le_trans h.2 b⟩⟩
theorem Qgj {b:Int} (hb:b<=60) (x:Xpn) (f:Fm) (hx:XI x) (hf:FV f):Tot (YE x f b) (P7 x f.nodes):=ES hb _ x f hx hf (Qu _)
theorem Qdq:FV (Fm.mk 2 (Ql #[]) 0 [] []):=⟨.inr (.inl ⟨rfl,rfl,by decide,by decide,rfl,rfl⟩),by rw [Fm.YM];decide⟩
theorem Qcw (e:Int):∃r,Ir e=some r/\r≠0:=by
 rw [Ir];split
 ·exact ⟨_,rfl,by decide⟩
 ·rename_i h;exact ⟨_,rfl,h⟩
theorem RP {b:Int} (hb:b<=60) {x:Xpn} {f:Fm} (hx:XI x) (hf:FV f) (hk:f.kind=3) (l0:0 < f.kids.length) (h0:f.kids[0].kind=1) (hm:(Bl x f.kids[0]).1=1):Tot (WW x f (Bl x f.kids[0]).2 b) (P7 x f.nodes):=by
 obtain ⟨r,hr,hp⟩:=Qgj hb x f hx hf;have hf0:=hf.kid (ZR l0);rw [YE,if_neg (by omega),if_neg (by omega),if_neg (by omega),show idx f.kids 0=some f.kids[0] from Yn f.kids 0 l0,X7,if_pos h0,X7,Dz x _ hx.b.bs hf0.smc hx.sm,X7,if_neg (by rw [hm];decide),if_pos hm] at hr
 cases hq:WW x f (Bl x f.kids[0]).2 b with
 | none=>rw [hq] at hr;cases hr
 | some q =>
  rw [hq,X7] at hr
  injection hr with hr
  subst hr;exact ⟨q,rfl,hp⟩
theorem M5 {b s0:Int} {l:List Fm} (hE:∀x f out,XI x->s0<=x.steps->f∈l->GX x out->Tot (Yu x f b out) (P10 x)) (hl:l.length<=400) {x:Xpn} (hx:XI x) (hs:s0<=x.steps) {out:List Stp} (ho:GX x out):Tot (YR x l b out) (P10 x):=by
 have loop:∀(r:List Fm) (i:Nat) (y:Xpn) (z:List Stp),(∀f∈r,f∈l)->XI y->s0<=y.steps->x.steps<=y.steps->GX y z ->
   Tot (V1 l b y.binds y.macs y.scope y.id y.steps z i r) fun o=>match o with
    | .inl q=>q.2.2≠0/\(∀s∈q.2.1,SOk s)/\q.2.1.length<=60
    | .inr (q0,q1,q2,q3,q4,z')=>XI ⟨q0,q1,q2,q3,q4⟩/\x.steps<=q4/\GX ⟨q0,q1,q2,q3,q4⟩ z':=by
  intro r
  induction r with
  | nil=>intro i y z _ hy _ hxy hz;rw [V1];exact ⟨_,rfl,hy,hxy,hz⟩
  | cons f r ih =>
   intro i y z hr hy hs hxy hz;rw [V1,Ye,X7];refine ZK (hE ⟨y.binds,y.macs,y.scope,y.id,y.steps⟩ f z hy hs (hr f (Kw ..)) hz) fun q hq=>?_
   by_cases h0:q.2.2=0
   ·rw [if_pos h0];obtain ⟨c1,c2,c3⟩:=hq.2.2 h0;have c2':y.steps<=q.1.steps:=c2;exact ih (i+1) q.1 q.2.1 (fun g hg=>hr g (Kg _ hg)) c1 (by omega) (by omega) ⟨hq.1,c3⟩
   ·rw [if_neg h0];exact ⟨_,rfl,h0,hq.1,hq.2.1⟩
 rw [YR,Db _ _ _ _ _ _ _ _ (by omega)];obtain ⟨o,ho1,hop⟩:=loop l 0 x out (fun _ h=>h) hx hs (Xu _) ho;rw [ho1,X7]
 cases o with
 | inl q=>exact ⟨_,rfl,hop.2.1,hop.2.2,fun h=>absurd h hop.1⟩
 | inr q =>
  obtain ⟨q0,q1,q2,q3,q4,z⟩:=q;obtain ⟨a1,a2,a3⟩:=hop;exact ⟨_,rfl,a3.1,a3.le a1,fun _=>⟨a1,a2,a3.2⟩⟩
theorem Qc2 {b:Int} (hb:b<=60) {body:Fm} (hf:FV body) {x:Xpn} (hE:∀y g out,XI y->x.steps<=y.steps->FV g->g.nodes=body.nodes->GX y out->Tot (Yu y g b out) (P10 y)) {names:List Fm} (hn:∀n∈names,FV n) (hl:names.length<=400) (hx:XI x) {out:List Stp} (ho:GX x out):Tot (JT x names body b out) (P10 x):=by
 rw [JT];refine ZK (Le (s0:=x.steps) Qdq (fun y g hy _ hg _=>Qgj hb y g hy hg) hn hl hx (Xu _)) fun r hr=>?_
 by_cases h0:r.2.2=0
 rotate_left
 ·rw [if_neg h0];exact ⟨_,rfl,.bad hx ho h0⟩
 rw [if_pos h0];obtain ⟨a1,a2,_⟩:=hr h0;have hcs:=Hf hf r.1.scope 0;rw [J0 _ _ body (by have:=hf.sz;omega),X7];refine ZK (JP (by omega)) fun b1 hb1=>?_;cases b1
 ·simp only [Z7,if_true];exact ⟨_,rfl,.bad hx ho (by decide)⟩
 simp only [Z8,Qr,if_false];exact ZK (hE r.1 _ out a1 a2 (hb1.1 rfl) (IF _ _ _) (ho.to a2)) fun q hq=>⟨_,rfl,hq.to a2⟩
theorem Qbc {b:Int} (hb:b<=60) {x:Xpn} (hx:XI x) {f:Fm} (hf:FV f) {id:Int} (hid:MT x.macs id≥0) (hE:∀y g out,XI y->y.steps=x.steps+1->x.steps < 60->FV g->GX y out->Tot (Yu y g b out) (P10 y)) {out:List Stp} (ho:GX x out):Tot (G3 x f id b out) (P10 x):=by
 have hml:=PQ hid
 have hm:MS (x.macs.getD (MT x.macs id).toNat default):=by
  have:(MT x.macs id).toNat < x.macs.length:=by omega
  rw [WB this];exact hx.mm _ (ZR this)
 rw [G3,Nu _ _ hx.sm,X7,Av (l:=x.macs) hid hml.1,X7];refine ZK (EF hx hf hb hid) fun r hr=>?_
 by_cases h0:r.2.2=0
 rotate_left
 ·rw [if_neg h0];exact ⟨_,rfl,.bad hx ho h0⟩
 rw [if_pos h0];obtain ⟨a1,a2,a3,a4⟩:=hr h0;have hcs:=Hf hf r.1.scope 1;rw [J0 _ _ f (by have:=hf.sz;omega),X7];refine ZK (Bi hx.b.bs hm.1 hm.2.1 (by omega)).true fun r1 _=>?_;have hol:=ho.le hx;rw [YD (by simp;omega),X7];refine ZK (hE r.1 r.2.1 _ a1 a2 (by omega) a4 ⟨fun s hs=>?_,by have:=ho.2;simp;omega⟩) fun q hq=>⟨_,rfl,hq.to (by omega)⟩
 rcases QS.1 hs with hs | hs
 ·exact ho.1 s hs
 ·rw [ZS.1 hs];exact ⟨hf,a4⟩
theorem Qae {b:Int} (hb:b<=60) {x:Xpn} (hx:XI x) {f:Fm} (hf:FV f) {id:Int} (hF:Tot (WW x f id b) (P7 x f.nodes)) (hA:∀y g out,XI y->x.steps<=y.steps->FV g->g.nodes < f.nodes->GX y out->Tot (Yu y g b out) (P10 y)) (hB:∀y g out,XI y->x.steps<=y.steps->FV g->g.nodes < f.nodes->GX y out->Tot (Yu y g b out) (P10 y)) {out:List Stp} (ho:GX x out):Tot (G2 x f id b out) (P10 x):=by
 have hnf:=Fm.YM f;have hkl:=hf.Ht
 have kid:∀(l:List Fm),(∀g∈l,FV g/\g.nodes < f.nodes)->l.length<=400->Tot (YR x l b out) (P10 x):=fun l hl hll =>
  M5 (s0:=x.steps) (fun z g o hz hs hg hoz=>hA z g o hz hs (hl g hg).1 (hl g hg).2 hoz) hll hx (Xu _) ho
 have hkids:∀g∈f.kids,FV g/\g.nodes < f.nodes:=fun g hg=>⟨hf.kid hg,by have:=VL hg;omega⟩
 have body:∀(hb2:2 < f.kids.length) (names:List Fm),(∀n∈names,FV n)->names.length<=400->∀y o,XI y->x.steps<=y.steps->GX y o->Tot (JT y names f.kids[2] b o) (P10 y):=fun hb2 names hn hnl y o hy hxy hoy=>by
  have hv:=hf.kid (ZR hb2);have hk:=VL (ZR hb2);exact Qc2 hb hv (fun z g o2 hz hs hg hgn hoz=>hB z g o2 hz (by omega) hg (by omega) hoz) hn hnl hy hoy
 rw [G2];simp only [Ye,X7];split
 ·rename_i hq;rw [QH,decide_eq_true_iff,decide_eq_true_iff] at hq
  have hsub:Dk f.kids 1 (f.kids.length:Int)=some (f.kids.drop 1):=by
   unfold Dk;rw [if_pos ⟨by omega,by omega,by omega⟩]
   congr 1
   rw [Xw];rfl;rw [Xt];omega
  rw [hsub,X7];exact ZK (kid (f.kids.drop 1) (fun g hg=>hkids g (QB hg)) (by rw [Xt];omega)) fun r hr=>⟨_,rfl,hr⟩
 have lam:Tot ((if (decide (id=1)&&decide ((f.kids.length:Int)=3))=true then (idx f.kids 1>>=fun x72=>some (decide (x72.kind=3))) else some false:Option Bool)) fun c=>c=true->id=1/\f.kids.length=3:=by
  split
  ·rename_i hq;rw [QH,decide_eq_true_iff,decide_eq_true_iff] at hq
   have l1:1 < f.kids.length:=by omega
   rw [show idx f.kids 1=some f.kids[1] from Yn f.kids 1 l1,X7];exact ⟨_,rfl,fun _=>⟨hq.1,by omega⟩⟩
  ·exact ⟨_,rfl,fun h=>by cases h⟩
 refine ZK lam fun c hc=>?_
 by_cases hct:c=true
 ·rw [if_pos hct];obtain ⟨_,h3⟩:=hc hct
  have l1:1 < f.kids.length:=by omega
  have l2:2 < f.kids.length:=by omega
  rw [show idx f.kids 1=some f.kids[1] from Yn f.kids 1 l1,X7,show idx f.kids 2=some f.kids[2] from Yn f.kids 2 l2,X7];have hv1:=hf.kid (ZR l1);exact ZK (body l2 f.kids[1].kids (fun n hn=>hv1.kid hn) (by have:=hv1.Ht;omega) x out hx (Xu _) ho) fun r hr=>⟨_,rfl,hr⟩
 rw [if_neg hct]
 have pairs:∀(h3:f.kids.length=3),∃l1:1 < f.kids.length,∃l2:2 < f.kids.length,idx f.kids 1=some f.kids[1]/\idx f.kids 2=some f.kids[2]/\FV f.kids[1]/\FV f.kids[2]:=fun h3=>by
  have l1:1 < f.kids.length:=by omega
  have l2:2 < f.kids.length:=by omega
  exact ⟨l1,l2,Yn f.kids 1 l1,Yn f.kids 2 l2,hf.kid (ZR l1),hf.kid (ZR l2)⟩
 split
 ·rename_i hq;rw [QH,decide_eq_true_iff,decide_eq_true_iff] at hq;obtain ⟨l1,l2,e1,e2,hv1,hv2⟩:=pairs (by omega);have hk1:=VL (ZR l1);rw [e1,X7];refine ZK (I8 (by have:=hv1.sz;omega)) fun r hr=>?_
  rcases hr with ⟨hpo,rfl⟩ | ⟨_,hpf⟩
  rotate_left
  ·rw [hpf];simp only [Z7,if_true];exact ⟨_,rfl,.bad hx ho (by decide)⟩
  simp only [Z8,Qr,if_false];have hn:=Hz hv1 hpo (j:=0) (by omega);have hvs:=Hz hv1 hpo (j:=1) (by omega);have hpn:=C6 hpo;have hkl1:=hv1.Ht;refine ZK (kid _ (fun g hg=>⟨hvs g hg,by have:=GC ZX _ g hg;omega⟩) (by rw [ZU];omega)) fun r hr=>?_
  by_cases h0:r.2.2=0
  rotate_left
  ·rw [if_neg h0];exact ⟨_,rfl,hr⟩
  rw [if_pos h0];obtain ⟨a1,a2,a3⟩:=hr.2.2 h0;rw [e2,X7];exact ZK (body l2 _ hn (by rw [ZU];omega) r.1 r.2.1 a1 a2 ⟨hr.1,a3⟩) fun q hq=>⟨_,rfl,hq.to a2⟩
 split
 ·rename_i hq;rw [QH,decide_eq_true_iff,decide_eq_true_iff] at hq;obtain ⟨l1,l2,e1,e2,hv1,hv2⟩:=pairs (by omega);have hk2:=VL (ZR l2);rw [e1,X7];refine ZK (I8 (by have:=hv1.sz;omega)) fun r hr=>?_
  rcases hr with ⟨hpo,rfl⟩ | ⟨_,hpf⟩
  rotate_left
  ·rw [hpf];simp only [Z7,if_true];exact ⟨_,rfl,.bad hx ho (by decide)⟩
  simp only [Z8,Qr,if_false];have hn:=Hz hv1 hpo (j:=0) (by omega);have hvs:=Hz hv1 hpo (j:=1) (by omega);have hkl1:=hv1.Ht;refine ZK (BQ (s0:=x.steps) Qdq (fun y g hy _ hg _=>Qgj hb y g hy hg) hn hvs (by simp) (by rw [ZU];omega) hx (Xu _)) fun r hr=>?_;have hcs:=Hf hv2 r.1.scope 0;rw [e2,X7,J0 _ _ _ (by have:=hv2.sz;omega),X7]
  by_cases h0:r.2.2=0
  rotate_left
  ·rw [if_neg h0,X7,if_pos rfl];obtain ⟨e,he,hne⟩:=Qcw r.2.2;rw [he,X7];exact ⟨_,rfl,.bad hx ho hne⟩
  rw [if_pos h0];obtain ⟨b1,hb0,hb1⟩:=JP (f:=chg r.1.scope 0 f.kids[2]) (by omega);rw [hb0,X7];cases b1
  ·rw [X7];simp only [Z7,if_true];obtain ⟨e,he,hne⟩:=Qcw r.2.2;rw [he,X7];exact ⟨_,rfl,.bad hx ho hne⟩
  rw [X7];simp only [Z8,Qr,if_false];obtain ⟨a1,a2,_⟩:=hr h0;exact ZK (hB r.1 _ out a1 a2 (hb1.1 rfl) (by rw [IF];omega) (ho.to a2)) fun q hq=>⟨_,rfl,hq.to a2⟩
 exact ZK hF fun r hr=>⟨_,rfl,.of7 hx ho hr⟩
theorem Tr {b:Int} (hb:b<=60):∀(N:Nat) (x:Xpn) (f:Fm) (out:List Stp),XI x->FV f->(60 - x.steps).toNat * 1000+f.nodes<=N->GX x out->Tot (Yu x f b out) (P10 x):=by
 intro N
 induction N with
 | zero=>intro x f _ _ _ h;have:=Hy f;omega
 | succ N ih =>
  intro x f out hx hf hN ho;have hnf:=Fm.YM f;have hkl:=hf.Ht;have ht0:=hx.t0;rw [Yu];simp only [Ye,X7];split
  ·exact ZK (Qgj hb x f hx hf) fun r hr=>⟨_,rfl,.of7 hx ho hr⟩
  rename_i hq;rw [Ka,not_or] at hq
  have k3:f.kind=3:=by
   have:=hq.1;simpa using this
  have l0:0 < f.kids.length:=by
   have:=hq.2;simp only [decide_eq_true_iff] at this;omega
  have e0':idx f.kids 0=some f.kids[0]:=Yn f.kids 0 l0;have hkids:∀g∈f.kids,FV g/\g.nodes < f.nodes:=fun g hg=>⟨hf.kid hg,by have:=VL hg;omega⟩;have hA:∀y g o,XI y->x.steps<=y.steps->FV g->g.nodes < f.nodes->GX y o->Tot (Yu y g b o) (P10 y):=fun y g o hy hs hg hgn hoy=>ih y g o hy hg (by omega) hoy
  have call:Tot ((YR x f.kids b out>>=fun x80=>some (x80.1,x80.2.1,x80.2.2)):Option (Xpn × List Stp × Int)) (P10 x) :=
   ZK (M5 (s0:=x.steps) (fun z g o hz hs hg hoz=>hA z g o hz hs (hkids g hg).1 (hkids g hg).2 hoz) (by omega) hx (Xu _) ho) fun r hr=>⟨_,rfl,hr⟩
  rw [e0',X7]
  by_cases k1:f.kids[0].kind=1
  rotate_left
  ·rw [if_neg k1];exact call
  have hf0:=hf.kid (ZR l0);rw [if_pos k1,X7,Dz x _ hx.b.bs hf0.smc hx.sm,X7]
  by_cases m4:(Bl x f.kids[0]).1=4
  ·rw [if_pos m4];exact ⟨_,rfl,.bad hx ho (by decide)⟩
  rw [if_neg m4]
  by_cases m1:(Bl x f.kids[0]).1=1
  ·rw [if_pos m1];exact ZK (Qae hb hx hf (RP hb hx hf k3 l0 k1 m1) hA (fun y g o hy hs hg hgn hoy=>ih y g o hy hg (by omega) hoy) ho) fun r hr=>⟨_,rfl,hr⟩
  rw [if_neg m1]
  by_cases m2:(Bl x f.kids[0]).1=2
  rotate_left
  ·rw [if_neg m2];exact call
  rw [if_pos m2];exact ZK (Qbc hb hx hf (Lg m2) (fun y g o hy hs hlt hg hoy=>ih y g o hy hg (by have:=hg.2;rw [hs];omega) hoy) ho) fun r hr=>⟨_,rfl,hr⟩
theorem Qlo {b s0:Int} {l:List Fm} (hE:∀x f out,XI x->s0<=x.steps->f∈l->GX x out->Tot (Yu x f b out) (P10 x)) (hl:l.length<=400) {x:Xpn} (hx:XI x) (hs:s0<=x.steps) {out:List Stp} (ho:GX x out):Tot (HM x l b out) (P10 x):=by
 have loop:∀(r:List Fm) (i:Nat) (y:Xpn) (z:List Stp),(∀f∈r,f∈l)->XI y->s0<=y.steps->x.steps<=y.steps->GX y z ->
   Tot (Ju l b y.binds y.macs y.scope y.id y.steps z i r) fun o=>match o with
    | .inl q=>q.2.2≠0/\(∀s∈q.2.1,SOk s)/\q.2.1.length<=60
    | .inr (q0,q1,q2,q3,q4,z')=>XI ⟨q0,q1,q2,q3,q4⟩/\x.steps<=q4/\GX ⟨q0,q1,q2,q3,q4⟩ z':=by
  intro r
  induction r with
  | nil=>intro i y z _ hy _ hxy hz;rw [Ju];exact ⟨_,rfl,hy,hxy,hz⟩
  | cons f r ih =>
   intro i y z hr hy hs hxy hz;rw [Ju,Ye,X7];refine ZK (hE ⟨y.binds,y.macs,y.scope,y.id,y.steps⟩ f z hy hs (hr f (Kw ..)) hz) fun q hq=>?_
   by_cases h0:q.2.2=0
   ·rw [if_pos h0];obtain ⟨c1,c2,c3⟩:=hq.2.2 h0;have c2':y.steps<=q.1.steps:=c2;exact ih (i+1) q.1 q.2.1 (fun g hg=>hr g (Kg _ hg)) c1 (by omega) (by omega) ⟨hq.1,c3⟩
   ·rw [if_neg h0];exact ⟨_,rfl,h0,hq.1,hq.2.1⟩
 rw [HM,E8 _ _ _ _ _ _ _ _ (by omega)];obtain ⟨o,ho1,hop⟩:=loop l 0 x out (fun _ h=>h) hx hs (Xu _) ho;rw [ho1,X7]
 cases o with
 | inl q=>exact ⟨_,rfl,hop.2.1,hop.2.2,fun h=>absurd h hop.1⟩
 | inr q =>
  obtain ⟨q0,q1,q2,q3,q4,z⟩:=q;obtain ⟨a1,a2,a3⟩:=hop;exact ⟨_,rfl,a3.1,a3.le a1,fun _=>⟨a1,a2,a3.2⟩⟩
theorem Ql3 {b:Int} (hb:b<=60) {body:Fm} (hf:FV body) {x:Xpn} (hE:∀y g out,XI y->x.steps<=y.steps->FV g->g.nodes=body.nodes->GX y out->Tot (Y5 y g b out) (P10 y)) {names:List Fm} (hn:∀n∈names,FV n) (hl:names.length<=400) (hx:XI x) {out:List Stp} (ho:GX x out):Tot (HN x names body b out) (P10 x):=by
 rw [HN];refine ZK (Le (s0:=x.steps) Qdq (fun y g hy _ hg _=>Qgj hb y g hy hg) hn hl hx (Xu _)) fun r hr=>?_
 by_cases h0:r.2.2=0
 rotate_left
 ·rw [if_neg h0];exact ⟨_,rfl,.bad hx ho h0⟩
 rw [if_pos h0];obtain ⟨a1,a2,_⟩:=hr h0;have hcs:=Hf hf r.1.scope 0;rw [J0 _ _ body (by have:=hf.sz;omega),X7];refine ZK (JP (by omega)) fun b1 hb1=>?_;cases b1
 ·simp only [Z7,if_true];exact ⟨_,rfl,.bad hx ho (by decide)⟩
 simp only [Z8,Qr,if_false];exact ZK (hE r.1 _ out a1 a2 (hb1.1 rfl) (IF _ _ _) (ho.to a2)) fun q hq=>⟨_,rfl,hq.to a2⟩
theorem Qk4 {b:Int} (hb:b<=60) {x:Xpn} (hx:XI x) {f:Fm} (hf:FV f) {id:Int} (hid:MT x.macs id≥0) (hE:∀y g out,XI y->y.steps=x.steps+1->x.steps < 60->FV g->GX y out->Tot (Y5 y g b out) (P10 y)) {out:List Stp} (ho:GX x out):Tot (IJ x f id b out) (P10 x):=by
 have hml:=PQ hid
 have hm:MS (x.macs.getD (MT x.macs id).toNat default):=by
  have:(MT x.macs id).toNat < x.macs.length:=by omega
  rw [WB this];exact hx.mm _ (ZR this)
 rw [IJ,Nu _ _ hx.sm,X7,Av (l:=x.macs) hid hml.1,X7];refine ZK (EF hx hf hb hid) fun r hr=>?_
 by_cases h0:r.2.2=0
 rotate_left
 ·rw [if_neg h0];exact ⟨_,rfl,.bad hx ho h0⟩
 rw [if_pos h0];obtain ⟨a1,a2,a3,a4⟩:=hr h0;have hcs:=Hf hf r.1.scope 1;rw [J0 _ _ f (by have:=hf.sz;omega),X7];refine ZK (Bi hx.b.bs hm.1 hm.2.1 (by omega)).true fun r1 _=>?_;have hol:=ho.le hx;rw [YD (by simp;omega),X7];refine ZK (hE r.1 r.2.1 _ a1 a2 (by omega) a4 ⟨fun s hs=>?_,by have:=ho.2;simp;omega⟩) fun q hq=>⟨_,rfl,hq.to (by omega)⟩
 rcases QS.1 hs with hs | hs
 ·exact ho.1 s hs
 ·rw [ZS.1 hs];exact ⟨hf,a4⟩
theorem Qj5 {b:Int} (hb:b<=60) {x:Xpn} (hx:XI x) {f:Fm} (hf:FV f) {id:Int} (hF:Tot (WW x f id b) (P7 x f.nodes)) (hA:∀y g out,XI y->x.steps<=y.steps->FV g->g.nodes < f.nodes->GX y out->Tot (Yu y g b out) (P10 y)) (hB:∀y g out,XI y->x.steps<=y.steps->FV g->g.nodes < f.nodes->GX y out->Tot (Y5 y g b out) (P10 y)) {out:List Stp} (ho:GX x out):Tot (II x f id b out) (P10 x):=by
 have hnf:=Fm.YM f;have hkl:=hf.Ht
 have kid:∀(l:List Fm),(∀g∈l,FV g/\g.nodes < f.nodes)->l.length<=400->Tot (YR x l b out) (P10 x):=fun l hl hll =>
  M5 (s0:=x.steps) (fun z g o hz hs hg hoz=>hA z g o hz hs (hl g hg).1 (hl g hg).2 hoz) hll hx (Xu _) ho
 have hkids:∀g∈f.kids,FV g/\g.nodes < f.nodes:=fun g hg=>⟨hf.kid hg,by have:=VL hg;omega⟩
 have body:∀(hb2:2 < f.kids.length) (names:List Fm),(∀n∈names,FV n)->names.length<=400->∀y o,XI y->x.steps<=y.steps->GX y o->Tot (HN y names f.kids[2] b o) (P10 y):=fun hb2 names hn hnl y o hy hxy hoy=>by
  have hv:=hf.kid (ZR hb2);have hk:=VL (ZR hb2);exact Ql3 hb hv (fun z g o2 hz hs hg hgn hoz=>hB z g o2 hz (by omega) hg (by omega) hoz) hn hnl hy hoy
 rw [II];simp only [Ye,X7];split
 ·rename_i hq;rw [QH,decide_eq_true_iff,decide_eq_true_iff] at hq
  have hsub:Dk f.kids 1 (f.kids.length:Int)=some (f.kids.drop 1):=by
   unfold Dk;rw [if_pos ⟨by omega,by omega,by omega⟩]
   congr 1
   rw [Xw];rfl;rw [Xt];omega
  rw [hsub,X7];exact ZK (kid (f.kids.drop 1) (fun g hg=>hkids g (QB hg)) (by rw [Xt];omega)) fun r hr=>⟨_,rfl,hr⟩
 have lam:Tot ((if (decide (id=1)&&decide ((f.kids.length:Int)=3))=true then (idx f.kids 1>>=fun x72=>some (decide (x72.kind=3))) else some false:Option Bool)) fun c=>c=true->id=1/\f.kids.length=3:=by
  split
  ·rename_i hq;rw [QH,decide_eq_true_iff,decide_eq_true_iff] at hq
   have l1:1 < f.kids.length:=by omega
   rw [show idx f.kids 1=some f.kids[1] from Yn f.kids 1 l1,X7];exact ⟨_,rfl,fun _=>⟨hq.1,by omega⟩⟩
  ·exact ⟨_,rfl,fun h=>by cases h⟩
 refine ZK lam fun c hc=>?_
 by_cases hct:c=true
 ·rw [if_pos hct];obtain ⟨_,h3⟩:=hc hct
  have l1:1 < f.kids.length:=by omega
  have l2:2 < f.kids.length:=by omega
  rw [show idx f.kids 1=some f.kids[1] from Yn f.kids 1 l1,X7,show idx f.kids 2=some f.kids[2] from Yn f.kids 2 l2,X7];have hv1:=hf.kid (ZR l1);exact ZK (body l2 f.kids[1].kids (fun n hn=>hv1.kid hn) (by have:=hv1.Ht;omega) x out hx (Xu _) ho) fun r hr=>⟨_,rfl,hr⟩
 rw [if_neg hct]
 have pairs:∀(h3:f.kids.length=3),∃l1:1 < f.kids.length,∃l2:2 < f.kids.length,idx f.kids 1=some f.kids[1]/\idx f.kids 2=some f.kids[2]/\FV f.kids[1]/\FV f.kids[2]:=fun h3=>by
  have l1:1 < f.kids.length:=by omega
  have l2:2 < f.kids.length:=by omega
  exact ⟨l1,l2,Yn f.kids 1 l1,Yn f.kids 2 l2,hf.kid (ZR l1),hf.kid (ZR l2)⟩
 split
 ·rename_i hq;rw [QH,decide_eq_true_iff,decide_eq_true_iff] at hq;obtain ⟨l1,l2,e1,e2,hv1,hv2⟩:=pairs (by omega);have hk1:=VL (ZR l1);rw [e1,X7];refine ZK (I8 (by have:=hv1.sz;omega)) fun r hr=>?_
  rcases hr with ⟨hpo,rfl⟩ | ⟨_,hpf⟩
  rotate_left
  ·rw [hpf];simp only [Z7,if_true];exact ⟨_,rfl,.bad hx ho (by decide)⟩
  simp only [Z8,Qr,if_false];have hn:=Hz hv1 hpo (j:=0) (by omega);have hvs:=Hz hv1 hpo (j:=1) (by omega);have hpn:=C6 hpo;have hkl1:=hv1.Ht;refine ZK (kid _ (fun g hg=>⟨hvs g hg,by have:=GC ZX _ g hg;omega⟩) (by rw [ZU];omega)) fun r hr=>?_
  by_cases h0:r.2.2=0
  rotate_left
  ·rw [if_neg h0];exact ⟨_,rfl,hr⟩
  rw [if_pos h0];obtain ⟨a1,a2,a3⟩:=hr.2.2 h0;rw [e2,X7];exact ZK (body l2 _ hn (by rw [ZU];omega) r.1 r.2.1 a1 a2 ⟨hr.1,a3⟩) fun q hq=>⟨_,rfl,hq.to a2⟩
 split
 ·rename_i hq;rw [QH,decide_eq_true_iff,decide_eq_true_iff] at hq;obtain ⟨l1,l2,e1,e2,hv1,hv2⟩:=pairs (by omega);have hk2:=VL (ZR l2);rw [e1,X7];refine ZK (I8 (by have:=hv1.sz;omega)) fun r hr=>?_
  rcases hr with ⟨hpo,rfl⟩ | ⟨_,hpf⟩
  rotate_left
  ·rw [hpf];simp only [Z7,if_true];exact ⟨_,rfl,.bad hx ho (by decide)⟩
  simp only [Z8,Qr,if_false];have hn:=Hz hv1 hpo (j:=0) (by omega);have hvs:=Hz hv1 hpo (j:=1) (by omega);have hkl1:=hv1.Ht;refine ZK (BQ (s0:=x.steps) Qdq (fun y g hy _ hg _=>Qgj hb y g hy hg) hn hvs (by simp) (by rw [ZU];omega) hx (Xu _)) fun r hr=>?_;have hcs:=Hf hv2 r.1.scope 0;rw [e2,X7,J0 _ _ _ (by have:=hv2.sz;omega),X7]
  by_cases h0:r.2.2=0
  rotate_left
  ·rw [if_neg h0,X7,if_pos rfl];obtain ⟨e,he,hne⟩:=Qcw r.2.2;rw [he,X7];exact ⟨_,rfl,.bad hx ho hne⟩
  rw [if_pos h0];obtain ⟨b1,hb0,hb1⟩:=JP (f:=chg r.1.scope 0 f.kids[2]) (by omega);rw [hb0,X7];cases b1
  ·rw [X7];simp only [Z7,if_true];obtain ⟨e,he,hne⟩:=Qcw r.2.2;rw [he,X7];exact ⟨_,rfl,.bad hx ho hne⟩
  rw [X7];simp only [Z8,Qr,if_false];obtain ⟨a1,a2,_⟩:=hr h0;exact ZK (hB r.1 _ out a1 a2 (hb1.1 rfl) (by rw [IF];omega) (ho.to a2)) fun q hq=>⟨_,rfl,hq.to a2⟩
 exact ZK hF fun r hr=>⟨_,rfl,.of7 hx ho hr⟩
theorem Qia {b:Int} (hb:b<=60):∀(N:Nat) (x:Xpn) (f:Fm) (out:List Stp),XI x->FV f->(60 - x.steps).toNat * 1000+f.nodes<=N->GX x out->Tot (Y5 x f b out) (P10 x):=by
 intro N
 induction N with
 | zero=>intro x f _ _ _ h;have:=Hy f;omega
 | succ N ih =>
  intro x f out hx hf hN ho;have hnf:=Fm.YM f;have hkl:=hf.Ht;have ht0:=hx.t0;rw [Y5];simp only [Ye,X7];split
  ·exact ZK (Qgj hb x f hx hf) fun r hr=>⟨_,rfl,.of7 hx ho hr⟩
  rename_i hq;rw [Ka,not_or] at hq
  have k3:f.kind=3:=by
   have:=hq.1;simpa using this
  have l0:0 < f.kids.length:=by
   have:=hq.2;simp only [decide_eq_true_iff] at this;omega
  have e0':idx f.kids 0=some f.kids[0]:=Yn f.kids 0 l0;have hkids:∀g∈f.kids,FV g/\g.nodes < f.nodes:=fun g hg=>⟨hf.kid hg,by have:=VL hg;omega⟩;have hA:∀y g o,XI y->x.steps<=y.steps->FV g->g.nodes < f.nodes->GX y o->Tot (Yu y g b o) (P10 y):=fun y g o hy hs hg hgn hoy=>Tr hb _ y g o hy hg (Qu _) hoy
  have call:Tot ((HM x f.kids b out>>=fun x80=>some (x80.1,x80.2.1,x80.2.2)):Option (Xpn × List Stp × Int)) (P10 x) :=
   ZK (Qlo (s0:=x.steps) (fun z g o hz hs hg hoz=>hA z g o hz hs (hkids g hg).1 (hkids g hg).2 hoz) (by omega) hx (Xu _) ho) fun r hr=>⟨_,rfl,hr⟩
  rw [e0',X7]
  by_cases k1:f.kids[0].kind=1
  rotate_left
  ·rw [if_neg k1];exact call
  have hf0:=hf.kid (ZR l0);rw [if_pos k1,X7,Dz x _ hx.b.bs hf0.smc hx.sm,X7]
  by_cases m4:(Bl x f.kids[0]).1=4
  ·rw [if_pos m4];exact ⟨_,rfl,.bad hx ho (by decide)⟩
  rw [if_neg m4]
  by_cases m1:(Bl x f.kids[0]).1=1
  ·rw [if_pos m1];exact ZK (Qj5 hb hx hf (RP hb hx hf k3 l0 k1 m1) hA (fun y g o hy hs hg hgn hoy=>ih y g o hy hg (by omega) hoy) ho) fun r hr=>⟨_,rfl,hr⟩
  rw [if_neg m1]
  by_cases m2:(Bl x f.kids[0]).1=2
  rotate_left
  ·rw [if_neg m2];exact call
  rw [if_pos m2];exact ZK (Qk4 hb hx hf (Lg m2) (fun y g o hy hs hlt hg hoy=>ih y g o hy hg (by have:=hg.2;rw [hs];omega) hoy) ho) fun r hr=>⟨_,rfl,hr⟩
theorem Tl {x:Xpn} (h:YV=some x):x.steps=0:=by rw [OX] at h;injection h with h;rw [← h]
theorem Qms {f:Fm} (hf:f.sz < 1000000000) (b:Int):Tot (I9 f b) fun r=>(∀s∈r.1,SOk s)/\r.1.length<=60:=by
 rw [I9];refine ZK (JP hf) fun b1 hb1=>?_;simp only [Ye,X7];split
 ·exact ⟨_,rfl,by simp,by simp⟩
 rename_i hq;rw [Ka,Ka,not_or,not_or] at hq;obtain ⟨⟨q1,q2⟩,q3⟩:=hq;have hv:FV f:=hb1.1 (by cases b1<;>simp_all);simp only [decide_eq_true_iff] at q2 q3;obtain ⟨x0,hx0⟩:∃x,YV=some x:=⟨_,OX⟩;rw [hx0,X7];refine ZK (Qia (by omega) _ x0 f [] (Qbb hx0) hv (Qu _) ⟨by simp,by rw [Tl hx0];simp⟩) fun r hr=>?_
 by_cases h0:r.2.2=0
 ·rw [if_pos h0];exact ZK (Lc hf b) fun q _=>⟨_,rfl,hr.1,hr.2.1⟩
 ·rw [if_neg h0];exact ⟨_,rfl,hr.1,hr.2.1⟩
theorem O6 {f:Fm} (hf:f.sz < 1000000000) (b:Int):Tot (J3 f b) fun r=>(∀s∈r.1,SOk s)/\r.1.length<=60:=by
 rw [J3];refine ZK (Qms hf b) fun r hr=>?_
 have loop:∀(l:List Stp) (i:Nat) (z:List Stp),(∀s∈l,SOk s)->(∀s∈z,SOk s)->z.length+l.length<=60->Tot (Ve f r z i l) fun o=>(∀s∈o,SOk s)/\o.length<=60:=by
  intro l
  induction l with
  | nil=>intro i z _ hz hl;rw [Ve];exact ⟨_,rfl,hz,by simpa using hl⟩
  | cons s l ih =>
   intro i z hs hz hl;simp only [ZO] at hl;obtain ⟨h1,h2⟩:=hs s (Kw ..);rw [Ve,Ye,X7,BK _ (by have:=h1.sz;omega),X7,BK _ (by have:=h2.sz;omega),X7,YD (by simp;omega),X7];refine ih (i+1) _ (fun y hy=>hs y (Kg _ hy)) (fun y hy=>?_) (by simp;omega)
   rcases QS.1 hy with hy | hy
   ·exact hz y hy
   ·rw [ZS.1 hy];exact ⟨h1,h2⟩
 rw [BH _ _ _ (by omega)];exact ZK (loop r.1 0 [] hr.1 (by simp) (by simpa using hr.2)) fun o ho=>⟨_,rfl,ho⟩
def SDr (s:Stp):Prop:=s.use.sz<=30000/\FV s.res
theorem Qdm {l:List Int} (h:∀x∈l,0<=x/\x < 256):Tot (Ie l) fun r=>r.length<=3/\∀s∈r,SDr s:=by
 rw [Ie];refine ZK (UL h) fun r hr=>ZK (O6 (by omega) 20) fun t ht=>ZK (RZ h) fun c hc=>?_;have hdr:∀s,SOk s->s.use.sz<=20000/\FV s.res:=fun s hs=>⟨by have:=hs.1.sz;have:=hs.1.2;omega,hs.2⟩
 have cut:Tot (if (t.1.length:Int) > 3 then (idx t.1 0>>=fun x24n=>Dk t.1 0 3>>=fun x24=>pure x24) else pure t.1:Option (List Stp)) fun y=>y.length<=3/\∀s∈y,s.use.sz<=20000/\FV s.res:=by
  split
  ·rename_i hl
   have l0:0 < t.1.length:=by omega
   rw [show idx t.1 0=some t.1[0] from Yn t.1 0 l0,X7]
   have:Dk t.1 0 3=some (t.1.take 3):=by
    unfold Dk;rw [if_pos ⟨by omega,by omega,by omega⟩];rfl
   rw [this,X7];exact ⟨_,rfl,by rw [List.length_take];omega,fun s hs=>hdr s (ht.1 s (List.mem_of_mem_take hs))⟩
  ·rename_i hl;exact ⟨_,rfl,by omega,fun s hs=>hdr s (ht.1 s hs)⟩
 refine ZK cut fun y hy=>?_;split
 ·rename_i hl
  have l0:0 < y.length:=by omega
  refine ZK (W0 hc (by omega) (by omega)) fun p hp=>?_;split
  ·have e:idx y 0=some y[0]:=Yn y 0 l0;have h0:=hy.2 _ (ZR l0);rw [e,X7];refine ZK (Co y[0].use hp.2.2 (by have:=h0.1;omega) (by have:=h0.1;omega)) fun m1 hm1=>?_;refine ZK (Co m1.1 hm1.2 (by have:=h0.1;have:=hm1.1;omega) (by have:=h0.1;have:=hm1.1;omega)) fun m2 hm2=>?_;rw [X7];refine ZK (BT hm2.2 (by have:=h0.1;have:=hm1.1;omega) (by simp)) fun n hn=>?_
   have e2:idx (y.set (0:Int).toNat (Stp.mk y[0].id y[0].rule y[0].scope m2.1 y[0].res)) 0=some (Stp.mk y[0].id y[0].rule y[0].scope m2.1 y[0].res):=by
    have:=Yn (y.set (0:Int).toNat (Stp.mk y[0].id y[0].rule y[0].scope m2.1 y[0].res)) 0 (by simpa using l0);simpa using this
   rw [e2,X7];refine ⟨_,rfl,by simpa using hy.1,fun s hs=>?_⟩;simp only [List.set_set,Int.toNat_zero] at hs
   rcases List.mem_or_eq_of_mem_set hs with hs | hs
   ·exact ⟨by have:=(hy.2 s hs).1;omega,(hy.2 s hs).2⟩
   ·rw [hs];exact ⟨by show m2.1.sz<=30000;have:=h0.1;have:=hm1.1;have:=hm2.1;omega,h0.2⟩
  ·exact ⟨_,rfl,hy.1,fun s hs=>⟨by have:=(hy.2 s hs).1;omega,(hy.2 s hs).2⟩⟩
 ·exact ⟨_,rfl,hy.1,fun s hs=>⟨by have:=(hy.2 s hs).1;omega,(hy.2 s hs).2⟩⟩
theorem Qbd {l:List Int} (h:∀x∈l,0<=x/\x < 256):Tot (WM l) fun r=>r.length<=3/\∀s∈r,SDr s:=by
 rw [WM];exact ZK (Qdm h) fun q hq=>⟨_,rfl,hq⟩
end Go.Proofs.SA
namespace Go.Proofs.SA
theorem UJ {L:List UInt8} {i:Nat} (h:i < L.length):byt (bs L) i=(L[i].toNat:Int):=by
 unfold byt;rw [UH];simp [h]
theorem Qks (b:Bool):ltr 10 b=false:=by cases b<;>decide
theorem Qeg {s:ByteArray} (h:NV s):∀c∈s.data.toList,c≠10:=by
 rcases h with h | h | ⟨_,_,h⟩
 ·subst h;decide
 ·subst h;decide
 ·intro c hc he;subst he;obtain ⟨j,hj,hx⟩:=List.mem_iff_getElem.1 hc;have hjs:j < s.size:=hj;have:=h j hjs;unfold NP at this
  have hb:byt s j=10:=by
   rw [← PC s,UJ hj,hx];rfl
  rw [hb,Qks] at this;cases this
theorem Qey:∀k:Fin 10,UInt8.ofNat (48+k.val)≠10:=by decide
theorem Qex (u:Nat):∀c∈Lib.decDigits u,c≠10:=by
 induction u using Nat.strongRecOn with
 | ind u ih =>
  intro c hc;rw [Lib.decDigits] at hc;split at hc
  ·rename_i h;rw [ZS.1 hc];exact Qey ⟨u,h⟩
  ·rename_i h
   rcases QS.1 hc with hc | hc
   ·exact ih (u / 10) (by omega) c hc
   ·rw [ZS.1 hc];exact Qey ⟨u % 10,by omega⟩
theorem Qg9 (n:Int):∀c∈Lib.itoa n,c≠10:=by
 intro c hc;rw [Lib.itoa] at hc;split at hc
 ·rcases Kk.1 hc with rfl | hc
  ·decide
  ·exact Qex _ c hc
 ·exact Qex _ c hc
theorem Qdh {xs:List (List UInt8)} {sep:List UInt8} {c:UInt8} (h:c∈Lib.join xs sep):c∈sep∨∃x∈xs,c∈x:=by
 cases xs with
 | nil=>cases h
 | cons x r =>
  rw [Lib.join_cons] at h
  rcases QS.1 h with h | h
  ·exact .inr ⟨x,Kw ..,h⟩
  ·unfold Lib.joinTail at h;obtain ⟨y,hy,hc⟩:=List.mem_flatten.1 h;obtain ⟨z,hz,rfl⟩:=QY.1 hy
   rcases QS.1 hc with hc | hc
   ·exact .inl hc
   ·exact .inr ⟨z,Kg _ hz,hc⟩
theorem OD (xs:List (List UInt8)):Lib.join xs []=xs.flatten:=by
 cases xs with
 | nil=>rfl
 | cons x r =>
  rw [Lib.join_cons,Lib.joinTail,Qt]
  congr 2
  rw [show (fun x:List UInt8=>[]++x)=id from rfl,List.map_id]
end Go.Proofs.SA
namespace Go.Proofs.SA
theorem Qc1:∀(d:Nat) (f:Fm),FIs d f->∀c∈FT d f,c≠10:=by
 intro d
 induction d with
 | zero=>intro f h;exact h.elim
 | succ d ih =>
  intro f hf c hc;rw [FT] at hc
  rcases hf with h | h | h
  ·rw [if_neg (by omega),if_pos h.1] at hc;exact Qeg h.2.1 c hc
  ·rw [if_pos h.1] at hc;exact Qg9 _ c hc
  ·rw [if_neg (by omega),if_neg (by omega)] at hc
   rcases QS.1 hc with hc | hc
   ·rcases QS.1 hc with hc | hc
    ·rw [ZS.1 hc];decide
    ·rcases Qdh hc with hc | ⟨x,hx,hc⟩
     ·rw [ZS.1 hc];decide
     ·obtain ⟨g,hg,rfl⟩:=QY.1 hx;exact ih g (h.2.2.2.2 g hg) c hc
   ·rw [ZS.1 hc];decide
theorem RM (f:Fm):(FF f).count 10=0:=by
 refine List.count_eq_zero.2 fun hc=>?_;unfold FF at hc;split at hc
 ·rename_i h;exact Qc1 40 _ h.1 _ hc rfl
 ·cases hc
theorem Qhe (s:Stp):(TT s).count 10=1:=by
 unfold TT;rw [Xx,Xx,Xx,RM,RM];decide
theorem OG:∀l:List Stp,(l.map TT).flatten.count 10=l.length
 | []=>rfl
 | x :: l=>by rw [QI,Qt,Xx,Qhe,OG l,ZO];omega
theorem Qdl (x:List Stp) (L:List UInt8) (hL:L.length<=1000000000):∀(n:Nat) (i:Nat) (z:Int),i+n=L.length->0<=z->z+n<=2000000000->Wi x (bs L) z (i:Int)=some (z+((L.drop i).count 10:Nat)):=by
 intro n
 induction n with
 | zero =>
  intro i z hi h0 _;rw [Wi,if_neg (by rw [Y4];omega),List.drop_of_length_le (by omega)]
  simp
 | succ n ih =>
  intro i z hi h0 hz
  have hil:i < L.length:=by omega
  rw [Wi,if_pos (by rw [Y4];omega),NI (bs L) i (by rw [Y4];exact hil),X7,UJ hil,ZH hil,List.count_cons,VI (i:=i) (by omega)]
  by_cases hc:L[i]=10
  ·rw [if_pos (by rw [hc];rfl),Yz (by omega) (by omega),ih (i+1) (z+1) (by omega) (by omega) (by omega),if_pos (by rw [hc];rfl)]
   congr 1;omega
  ·rw [if_neg (fun h=>hc (UInt8.toNat_inj.1 (by have:(L[i].toNat:Int)=10:=h;show L[i].toNat=10;omega))),ih (i+1) z (by omega) h0 (by omega),if_neg (fun h=>hc (by simpa using h))]
   congr 1
theorem RE {r:List Stp} (h:r.length<=3/\∀s∈r,SDr s):r.length+YT OW r<=300000:=by
 have:∀l:List Stp,(∀s∈l,SDr s)->YT OW l<=80000 * l.length:=by
  intro l
  induction l with
  | nil=>intro _;exact Qu _
  | cons s l ih =>
   intro h;have h1:=h s (Kw ..);have h2:=h1.2.sz;have h4:=h1.2.2;have h3:=ih fun y hy=>h y (Kg _ hy);have:=h1.1;rw [YT,P0,ZO];omega
 have:=this r h.2;omega
theorem Qbr {l:List Int} (h:∀x∈l,0<=x/\x < 256):Bw l=some true:=by
 rw [Bw];split
 ·rfl
 obtain ⟨r,hr,hp⟩:=Qbd h;have hz:=RE hp;have hl:=NZ r
 have hlen:(r.map TT).flatten.length<=1000000000:=by
  rw [← OD];have:=DX (r.map TT) [];simp only [ZN,ZU] at this;omega
 rw [hr,X7,BN r (by omega),X7,EX r (by omega),X7,if_pos rfl,OD,show (0:Int)=((0:Nat):Int) from rfl,Qdl r _ hlen _ 0 _ (Nat.zero_add _) (by omega) (by simp only [Int.natCast_zero];omega),X7,List.drop_zero,OG]
 simp
theorem Qha (x:List Stp) (y:ByteArray) (hx:x.length+YT OW x<=300000):∀(n:Nat) (i:Nat),i+n=x.length->Vd x y (bs ((x.take i).map TT).flatten) (i:Int)=some (bs (x.map TT).flatten):=by
 have hlen:∀l:List Stp,l.length+YT OW l<=300000->(l.map TT).flatten.length<=1000000000:=fun l hl=>by
  have h2:=NZ l;rw [← OD];have:=DX (l.map TT) [];simp only [ZN,ZU] at this;omega
 intro n
 induction n with
 | zero =>
  intro i hi;rw [Vd,if_neg (by omega),Xw (by omega)];rfl
 | succ n ih =>
  intro i hi
  have hil:i < x.length:=by omega
  have hm:=GC OW x _ (ZR hil)
  have hs:Dk x (i:Int) ((i:Int)+1)=some [x[i]]:=by
   unfold Dk;rw [if_pos ⟨by omega,by omega,by omega⟩]
   congr 1
   rw [show ((i:Int)).toNat=i from rfl,ZH hil,show ((i:Int)+1 - (i:Int)).toNat=1 by omega];rfl
  have h1:YT OW [x[i]]<=300000:=by simp only [YT];omega
  have ht:(x.take i).length+YT OW (x.take i)<=300000:=by
   have:YT OW (x.take i)<=YT OW x:=by
    conv=>rhs;rw [← Kt i x,Iw]
    omega
   rw [List.length_take];omega
  have hl1:=hlen [x[i]] (by simp only [ZO,ZN];simp only [YT] at h1 ⊢;omega);have hl2:=hlen _ ht;rw [Vd,if_pos (by omega),VI (i:=i) (by omega),show ((i+1:Nat):Int)=(i:Int)+1 by omega,hs,X7,BN [x[i]] (by simp only [ZO,ZN];omega),X7,OD,GS (by rw [Y4,Y4];omega),X7,Im]
  have e:((x.take i).map TT).flatten++([x[i]].map TT).flatten=((x.take (i+1)).map TT).flatten:=by
   rw [← List.flatten_append,← List.map_append,List.take_append_getElem]
  rw [e];exact ih (i+1) (by omega)
theorem MJ {l:List Int} (h:∀x∈l,0<=x/\x < 256):HG l=some true:=by
 rw [HG];split
 ·rfl
 obtain ⟨r,hr,hp⟩:=Qbd h;have hz:=RE hp;have hj:=Qha r (bs (Lib.join (r.map TT) [])) hz r.length 0 (Nat.zero_add _);rw [hr,X7,BN r (by omega),X7,EX r (by omega),X7,if_pos rfl,show (Ql #[])=bs ((r.take 0).map TT).flatten from rfl,show (0:Int)=((0:Nat):Int) from rfl,hj,X7,OD]
 simp
end Go.Proofs.SA
