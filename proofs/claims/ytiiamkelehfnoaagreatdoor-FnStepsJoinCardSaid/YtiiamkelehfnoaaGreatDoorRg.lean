/- The reference's patterns, templates, rules: what is valid. -/
import Derived.Test.YtiiamkelehfnoaaGreatDoorRa
import Derived.Test.YtiiamkelehfnoaaGreatDoorPb
set_option linter.unusedVariables false
set_option linter.unusedSimpArgs false
set_option maxRecDepth 100000
open Go Go.Proofs Go.Proofs.Shadow
open _root_.Bool renaming false_eq_true → Qr, not_true → Z8, not_false → Z7, true_and → Xg, false_or → Xh, false_and → Xj, or_eq_false_iff → Xo
open _root_.List renaming getElem_mem → ZR, drop_eq_getElem_cons → ZH, mem_cons_self → Kw, mem_cons_of_mem → Kg, length_append → QW, append_assoc → QE, eq_nil_of_length_eq_zero → KB, drop_zero → Xf, drop_of_length_le → ZI, getD_eq_getElem?_getD → QA, getElem?_eq_getElem → Qj, nil_append → QU, length_cons → ZO, getElem_cons_succ → Xi, mem_append → QS, drop_length → Xk, filter_cons_of_neg → Xl, filter_cons_of_pos → Xm, length_map → ZU, drop_drop → Xn, range_eq_range' → Xp, mem_iff_getElem → Z9, any_cons → Xa, mem_singleton → ZS, any_eq_false → Xq, mem_map → QY
open Fm renaming nodes → ZX
open _root_.Option renaming map_eq_some_iff → Qy, map_some → Qx
open _root_.ByteArray renaming mk → Ql
open _root_.Nat renaming lt_or_ge → Kz
open Tot renaming bind → ZK
open Go.IntKind (i64)
namespace Go.Proofs.Shadow
theorem Qad {α:Type} (F:Nat->List α->Option (Int ⊕ Unit)) (p:α->Bool) (hn:∀i,F i []=some (.inr ())):∀(l:List α) (i:Nat),(∀x∈l,∀i r,F i (x :: r)=if p x=true then some (.inl (i:Int)) else F (i+1) r) ->
  (∃j,∃hj:j < l.length,F i l=some (.inl ((i+j:Nat):Int))/\l.find? p=some l[j])∨(F i l=some (.inr ())/\l.find? p=none):=by
 intro l
 induction l with
 | nil=>intro i _;exact .inr ⟨hn _,rfl⟩
 | cons x l ih =>
  intro i hc;rw [hc x (Kw ..),List.find?_cons];cases hp:p x
  ·rw [if_neg (by simp)]
   rcases ih (i+1) (fun y hy=>hc y (Kg _ hy)) with ⟨j,hj,h1,h2⟩ | ⟨h1,h2⟩
   ·exact .inl ⟨j+1,by simp;omega,by rw [h1];congr 3;omega,by simpa using h2⟩
   ·exact .inr ⟨h1,h2⟩
  ·exact .inl ⟨0,by simp,by simp,by simp⟩
end Go.Proofs.Shadow
namespace Go.Proofs.SA
theorem NR (f:Fm) (ls:List Fm) (h:FS ls):HX f ls=some (Pj ls f):=by
 rw [HX,Pj];unfold Dp Od
 by_cases h1:f.kind=1
 ·by_cases h2:f.name=Ql #[46,46,46]
  ·simp only [h1,decide_eq_true h2,Ye,X7];rfl
  ·by_cases h3:f.name=Ql #[95]
   ·simp only [h1,decide_eq_false h2,decide_eq_true h3,Ye,X7];rfl
   ·simp only [h1,decide_eq_false h2,decide_eq_false h3,Ye,X7,RT ls f h];rfl
 ·simp only [h1,decide_false,Ye,X7];rfl
theorem Tx (ls:List Fm) (h:FS ls):∀(p:Fm) (z:List Fm),z.length+p.nodes<=1000000->Wx z p ls=some (z++vrs ls p):=by
 intro p
 induction p using Fm.ind with
 | h p ih =>
  intro z hz;have hn:=Fm.YM p;have hl:=WA p.kids
  have loop:∀(r:List Fm),(∀g∈r,g∈p.kids)->∀(z:List Fm) (i:Nat),z.length+YT ZX r<=1000000->V6 p ls z i r=some (z++M0 ls r):=by
   intro r
   induction r with
   | nil=>intro _ z i _;rw [V6,Ye];simp [M0]
   | cons f r ihr =>
    intro hr z i hz;rw [YT] at hz;rw [V6,Ye,X7,ih f (hr f (Kw ..)) z (by omega),X7];have:=A1 ls f;rw [ihr (fun g hg=>hr g (Kg _ hg)) _ _ (by rw [QW];omega),M0,QE]
  rw [Wx,NR p ls h,X7,LO];cases Pj ls p
  ·simp only [Qr,if_false,Ye,X7];rw [Ah _ _ _ (by omega),loop _ (fun _ h=>h) _ _ (by omega)];simp [X7]
  ·simp only [if_true,Ye,X7];rw [YD (by simp;omega)];simp only [X7];rw [Ah _ _ _ (by omega),loop _ (fun _ h=>h) _ _ (by simp;omega)];simp [X7]
theorem P4 (ls:List Fm) (h:FS ls) (p:Fm) (hp:p.nodes<=1000000):HQ [] p ls=some (vrs ls p):=by
 have hn:=Fm.YM p;have hl:=WA p.kids
 have loop:∀(r:List Fm) (z:List Fm) (i:Nat),z.length+YT ZX r<=1000000->Jy p ls z i r=some (z++M0 ls r):=by
  intro r
  induction r with
  | nil=>intro z i _;rw [Jy,Ye];simp [M0]
  | cons f r ihr =>
   intro z i hz;rw [YT] at hz;rw [Jy,Ye,X7,Tx ls h f z (by omega),X7];have:=A1 ls f;rw [ihr _ _ (by rw [QW];omega),M0,QE]
 rw [HQ,NR p ls h,X7,LO];cases Pj ls p
 ·simp only [Qr,if_false,Ye,X7];rw [Bz _ _ _ (by omega),loop _ _ _ (by simp;omega)];simp [X7]
 ·simp only [if_true,Ye,X7];rw [YD (by simp)];simp only [X7];rw [Bz _ _ _ (by omega),loop _ _ _ (by simp;omega)];simp [X7]
theorem Nw {ks:List Fm} {i:Nat} {f:Fm} {r:List Fm} (hd:ks.drop i=f :: r) (hl:ks.length<=1099511627776) :
  ((if (i64.wrap ((i:Int)+1)) < (ks.length:Int) then (idx ks (i64.wrap ((i:Int)+1))>>=fun x37=>(YF x37>>=fun x39=>pure x39)) else pure false:Option Bool))=some (Wl r):=by
 have hi:i < ks.length:=by
  rcases Kz i ks.length with h | h
  ·exact h
  ·rw [ZI h] at hd;cases hd
 rw [ZH hi] at hd
 injection hd with e1 e2
 rw [VI (i:=i) (by omega)]
 by_cases h:i+1 < ks.length
 ·rw [if_pos (by omega),Yn ks (i+1) h];rw [ZH h] at e2;rw [← e2];rfl
 ·rw [if_neg (by omega)];rw [ZI (by omega)] at e2;rw [← e2];rfl
theorem PH (ls:List Fm) (d:Int) (f:Fm):(dps ls d f).length<=f.nodes:=by rw [← LM];exact A1 ls f
theorem Oi (ls:List Fm) (h:FS ls):∀(p:Fm) (z:List Int) (d:Int),z.length+p.nodes<=1000000->0<=d->d+p.nodes<=1000000->Y7 z p ls d=some (z++dps ls d p):=by
 intro p
 induction p using Fm.ind with
 | h p ih =>
  intro z d hz h0 h1;have hn:=Fm.YM p;have hl:=WA p.kids
  have loop:∀(r:List Fm),(∀g∈r,g∈p.kids)->∀(z:List Int) (i:Nat),p.kids.drop i=r->z.length+YT ZX r<=1000000->Vc p ls d z i r=some (z++PG ls d r):=by
   intro r
   induction r with
   | nil=>intro _ z i _ _;rw [Vc,Ye];simp [PG]
   | cons f r ihr =>
    intro hr z i hd hz
    have hd2:p.kids.drop (i+1)=r:=by rw [← Xn,hd];rfl
    rw [YT] at hz;have hm:=hr f (Kw ..);have hk:=VL hm;rw [Vc,Nw hd (by omega),X7,PG]
    have key:∀d':Int,0<=d'->d'<=d+1->(Y7 z f ls d'>>=fun x51=>Vc p ls d x51 (i+1) r)=some (z++(dps ls d' f++PG ls d r)):=fun d' q0 q1=>by
     rw [ih f hm z d' (by omega) q0 (by omega),X7];have:=PH ls d' f;rw [ihr (fun g hg=>hr g (Kg _ hg)) _ _ hd2 (by rw [QW];omega),QE]
    cases Wl r
    ·simp only [Qr,if_false,Ye,X7];exact key d h0 (by omega)
    ·simp only [if_true,Ye,X7,Yz (show -9223372036854775808<=d+1 by omega) (show d+1 < 9223372036854775808 by omega)];exact key (d+1) (by omega) (Int.le_refl _)
  rw [Y7,NR p ls h,X7,RD];cases Pj ls p
  ·simp only [Qr,if_false,Ye,X7];rw [IK _ _ _ _ (by omega),loop _ (fun _ h=>h) _ _ (Xf ..) (by omega)];simp [X7]
  ·simp only [if_true,Ye,X7];rw [YD (by simp;omega)];simp only [X7];rw [IK _ _ _ _ (by omega),loop _ (fun _ h=>h) _ _ (Xf ..) (by simp;omega)];simp [X7]
theorem F4 (ls:List Fm) (h:FS ls) (p:Fm) (hp:p.nodes<=100000):Gr [] p ls 0=some (dps ls 0 p):=by
 have hn:=Fm.YM p;have hl:=WA p.kids
 have loop:∀(r:List Fm),(∀g∈r,g∈p.kids)->∀(z:List Int) (i:Nat),p.kids.drop i=r->z.length+YT ZX r<=1000000->VQ p ls 0 z i r=some (z++PG ls 0 r):=by
  intro r
  induction r with
  | nil=>intro _ z i _ _;rw [VQ,Ye];simp [PG]
  | cons f r ihr =>
   intro hr z i hd hz
   have hd2:p.kids.drop (i+1)=r:=by rw [← Xn,hd];rfl
   rw [YT] at hz;have hm:=hr f (Kw ..);have hk:=VL hm;rw [VQ,Nw hd (by omega),X7,PG]
   have key:∀d':Int,0<=d'->d'<=1->(Y7 z f ls d'>>=fun x51=>VQ p ls 0 x51 (i+1) r)=some (z++(dps ls d' f++PG ls 0 r)):=fun d' q0 q1=>by
    rw [Oi ls h f z d' (by omega) q0 (by omega),X7];have:=PH ls d' f;rw [ihr (fun g hg=>hr g (Kg _ hg)) _ _ hd2 (by rw [QW];omega),QE]
   cases Wl r
   ·simp only [Qr,if_false,Ye,X7];exact key 0 (by omega) (by omega)
   ·simp only [if_true,Ye,X7,show i64.wrap (0+1)=1 from rfl];exact key 1 (by omega) (by omega)
 rw [Gr,NR p ls h,X7,RD];cases Pj ls p
 ·simp only [Qr,if_false,Ye,X7];rw [AE _ _ _ _ (by omega),loop _ (fun _ h=>h) _ _ (Xf ..) (by simp;omega)];simp [X7]
 ·simp only [if_true,Ye,X7];rw [YD (by simp)];simp only [X7];rw [AE _ _ _ _ (by omega),loop _ (fun _ h=>h) _ _ (Xf ..) (by simp;omega)];simp [X7]
def Qfm (ls:List Fm) (p:Fm):Prop:=FV p/\TM ls/\Qa6 p=true/\(vrs ls p).Nodup/\(∀d∈dps ls 0 p,d<=3)/\(vrs ls p).length<=20
theorem Sk (ls:List Fm):∀(l:List Fm),(∀f∈l,∀x∈vrs ls f,x.sz<=f.sz)->∀x∈M0 ls l,x.sz<=YT Fm.sz l
 | [],_,x,hx=>by cases hx
 | f :: l,h,x,hx=>by
  rw [M0] at hx;rw [YT]
  rcases QS.1 hx with hx | hx
  ·have:=h f (Kw ..) x hx;omega
  ·have:=Sk ls l (fun g hg=>h g (Kg _ hg)) x hx;omega
theorem P8 (ls:List Fm) (p:Fm):∀x∈vrs ls p,x.sz<=p.sz:=by
 induction p using Fm.ind with
 | h p ih =>
  intro x hx;rw [LO] at hx
  rcases QS.1 hx with hx | hx
  ·split at hx
   ·rw [ZS.1 hx];exact Nat.le_refl _
   ·cases hx
  ·have:=Sk ls p.kids ih x hx;rw [Fm.Ge p];omega
theorem Qdd {p:Fm} (hp:p.sz<=100000) {ls:List Fm} (h:FS ls):Tot (B6 p ls) fun b=>b=true↔Qfm ls p:=by
 rw [B6];refine ZK (JP (by omega)) fun b1 hb1=>?_;cases b1
 ·simp only [Z7,if_true,Ye,X7];exact ⟨_,rfl,fun h=>(by cases h),fun h=>(by have:=hb1.2 h.1;cases this)⟩
 simp only [Z8,Qr,if_false];have hfv:=hb1.1 rfl;have hnn:=hfv.2;obtain ⟨b2,e2,hb2⟩:=Dx h;rw [e2];simp only [Ye,X7];cases b2
 ·simp only [Z7,if_true,Ye,X7];exact ⟨_,rfl,fun h=>(by cases h),fun h=>(by have:=hb2.2 h.2.1;cases this)⟩
 simp only [Z8,Qr,if_false,Qa8 p (by omega),Ye,X7];cases hs:Qa6 p
 ·simp only [Z7,if_true];exact ⟨_,rfl,fun h=>(by cases h),fun h=>(by have h9:=h.2.2.1;rw [hs] at h9;cases h9)⟩
 simp only [Z8,Qr,if_false,P4 ls h p (by omega),X7];have hvl:=A1 ls p;rw [Mt _ _ _ (by omega)]
 have hvs:∀x∈vrs ls p,x.sz<=1000000:=fun x hx=>by have:=P8 ls p x hx;omega
 rcases Ul (Hn p ls (vrs ls p)) (vrs ls p) (fun i x=>decide (x∈(vrs ls p).take i)) false (fun _=>rfl) (fun i hi r=>by
  rw [Hn,OH _ i (by omega)];simp only [Ye,X7]
  rw [RT _ _ ⟨by unfold Sm;rw [List.length_take];omega,fun f hf=>hvs f (List.mem_of_mem_take hf)⟩,X7]) with ⟨h7,i,hi,hp2⟩ | ⟨h7,hp2⟩
 ·rw [h7,X7];exact ⟨_,rfl,fun h=>(by cases h),fun h=>absurd (of_decide_eq_true hp2) (Cp.1 h.2.2.2.1 i hi)⟩
 have hnd:(vrs ls p).Nodup:=Cp.2 fun i hi=>of_decide_eq_false (hp2 i hi);rw [h7,X7]
 simp only
 have hdl:=PH ls 0 p
 rw [F4 ls h p (by omega),X7,Mu _ _ _ (by omega),Ch (Ho p (vrs ls p) (dps ls 0 p)) (fun d=>decide (d > 3)) false (fun _=>rfl) _ _ (fun x hx i r=>by
  rw [Ho,Ye,X7];by_cases hx3:x > 3<;>simp [hx3,Ye]),X7]
 cases ha:(dps ls 0 p).any fun d=>decide (d > 3)
 ·simp only [Qr,if_false,Ye]
  have hd3:∀d∈dps ls 0 p,d<=3:=fun d hd=>by
   have:=Xq.1 ha d hd;simpa using this
  refine ⟨_,rfl,?_⟩;simp only [decide_eq_true_iff];constructor
  ·intro hl;exact ⟨hfv,hb2.1 rfl,hs,hnd,hd3,by omega⟩
  ·intro h;have:=h.2.2.2.2.2;omega
 ·simp only [if_true];refine ⟨_,rfl,fun h=>(by cases h),fun h=>?_⟩;obtain ⟨d,hd,hd2⟩:=List.any_eq_true.1 ha;have:=h.2.2.2.2.1 d hd;have:=of_decide_eq_true hd2;omega
def HS (H:List Hit):Prop:=Sm H.length/\∀h∈H,h.name.sz<=1000000/\0<=h.depth+1/\h.depth<=1000000
theorem MQ {H:List Hit} (h:HS H) (f:Fm):(∃j,∃hj:j < H.length,HP H f=some (j:Int)/\Qkd H f=some H[j])∨(HP H f=some (-1)/\Qkd H f=none):=by
 have:=Qad (J7 H f) (fun x=>decide (x.name=f)) (fun _=>rfl) H 0 (fun x hx i r=>by
  rw [J7,Ye,X7,Cq _ (h.2 x hx).1,X7];by_cases hx2:x.name=f<;>simp [hx2,Ye])
 rw [HP,Fk _ _ (by have:=h.1;omega)]
 rcases this with ⟨j,hj,h1,h2⟩ | ⟨h1,h2⟩
 ·exact .inl ⟨j,hj,by rw [h1,X7,Nat.zero_add];rfl,h2⟩
 ·exact .inr ⟨by rw [h1];rfl,h2⟩
theorem Oh {H:List Hit} (h:HS H) (f:Fm):HZ H f=some (TH H f):=by
 rw [HZ,TH]
 by_cases h1:f.kind=1
 ·rw [if_pos h1,if_pos h1]
  rcases MQ h f with ⟨j,hj,h2,h3⟩ | ⟨h2,h3⟩
  ·rw [h2,X7,if_neg (by omega),Yn _ _ hj,h3];rfl
  ·rw [h2,h3];rfl
 ·rw [if_neg h1,if_neg h1];rfl
theorem OQ (H:List Hit):∀l:List Fm,Qdx H l=l.any (Mg H)
 | []=>rfl
 | f :: l=>by rw [Qdx,OQ H l];rfl
theorem Qdw (H:List Hit) (f:Fm):Mg H f=(decide (0 < TH H f)||f.kids.any (Mg H)):=by cases f;rw [Mg,OQ];rfl
theorem Qdv {H:List Hit} (h:HS H):∀f:Fm,f.sz<=1000000->Gs H f=some (Mg H f):=by
 intro f
 induction f using Fm.ind with
 | h f ih =>
  intro hf;have hz:=Fm.Ge f;rw [Gs,Oh h f,X7,Qdw]
  by_cases hd:TH H f > 0
  ·rw [if_pos hd,decide_eq_true (show 0 < TH H f from hd)];rfl
  ·rw [if_neg hd,decide_eq_false (show ¬0 < TH H f from hd),Xh,Fv _ _ (by omega),Ch (Ga H f) (Mg H) true (fun _=>rfl) f.kids 0 (fun x hx i r=>by
    have:=Fm.Gf hx
    rw [Ga,Ye,X7,ih x hx (by omega),X7];rfl),X7]
   cases f.kids.any (Mg H)<;>rfl
theorem Qdk {H:List Hit} (h:HS H) (hl:H.length<=1000000):Iv H=some (Ns H):=by
 rw [Iv,Ft _ _ (by omega),Iz (J9 H) (fun h=>.mk h.name (if 0 < h.depth then h.depth - 1 else h.depth) h.one []) (fun _ _=>rfl) H [] 0 (fun x hx z i r hz=>by
  have:=h.2 x hx;rw [J9,Ye,X7]
  by_cases hd:x.depth > 0
  ·rw [if_pos hd,if_pos (show 0 < x.depth from hd),Yz (by omega) (by omega)];simp only [Ye,X7];rw [YD (by simp;omega)];rfl
  ·rw [if_neg hd,if_neg (show ¬0 < x.depth from hd)];simp only [Ye,X7]
   rw [YD (by simp;omega)];rfl) (by simp;omega)]
 simp [X7,Ye,Ns]
theorem HS.less {H:List Hit} (h:HS H):HS (Ns H):=⟨by unfold Ns;rw [ZU];exact h.1,fun x hx=>by
 unfold Ns at hx;obtain ⟨y,hy,rfl⟩:=QY.1 hx;have:=h.2 y hy;refine ⟨this.1,?_⟩;show 0<=(if 0 < y.depth then y.depth - 1 else y.depth)+1/\(if 0 < y.depth then y.depth - 1 else y.depth)<=1000000
 split<;>omega⟩
theorem Qh9 (t:Fm) (H:List Hit):Qfk t H=(!(YL t||decide (0 < TH H t))&&Qeb true t.kids H):=by cases t;rw [Qfk];rfl
theorem Qkj:∀t:Fm,t.sz<=1000000->∀{H:List Hit},HS H->H.length<=1000000->HF t H=some (Qfk t H):=by
 intro t
 induction t using Fm.ind with
 | h t ih =>
  intro ht H h hH;have hz:=Fm.Ge t
  have loop:∀(r:List Fm) (i:Nat) (b:Bool),t.kids.drop i=r->(b=true↔i=0∨∃h:i - 1 < t.kids.length,0 < i/\YL t.kids[i - 1]=true) ->
    JK t H i r=some (if Qeb b r H=true then .inr () else .inl false):=by
   intro r
   induction r with
   | nil=>intro i b _ _;rw [Qeb];rfl
   | cons f r ihr =>
    intro i b hd hb;have hd0:=hd
    have hi:i < t.kids.length:=by
     rcases Kz i t.kids.length with h | h
     ·exact h
     ·rw [ZI h] at hd;cases hd
    rw [ZH hi] at hd
    injection hd with e1 e2
    have hm:f∈t.kids:=e1▸ZR hi;have hk:=Fm.Gf hm
    have hb2:∀b',b'=YL f->(b'=true↔i+1=0∨∃h:i+1 - 1 < t.kids.length,0 < i+1/\YL t.kids[i+1 - 1]=true):=by
     rintro b' rfl;simp only [Nat.add_sub_cancel];constructor
     ·intro h;exact .inr ⟨hi,by omega,by rw [e1];exact h⟩
     ·rintro (h | ⟨_,_,h⟩)
      ·omega
      ·rw [e1] at h;exact h
    rw [JK,Qeb,Ye,X7,AO,X7];cases hf:YL f
    ·simp only [Qr,if_false];rw [Nw hd0 (by omega),X7];cases hn:Wl r
     ·simp only [Qr,if_false,Ye,X7,ih f hm (by omega) h hH];cases hs:Qfk f H
      ·simp
      ·simp only [Z8,Qr,if_false,Xg];exact ihr (i+1) false e2 (hb2 false hf.symm)
     ·simp only [if_true,Ye,X7,Qdv h f (by omega)];cases hr:Mg H f
      ·simp [Ye,X7]
      ·simp only [Z8,Qr,if_false,Ye,X7,Qdk h hH,ih f hm (by omega) h.less (show (Ns H).length<=1000000 by unfold Ns;rw [ZU];exact hH)];cases hs:Qfk f (Ns H)
       ·simp
       ·simp only [Z8,Qr,if_false,Xg];exact ihr (i+1) false e2 (hb2 false hf.symm)
    ·simp only [if_true]
     by_cases hi0:i=0
     ·subst hi0;have:b=true:=hb.2 (.inl rfl);subst this;simp [Ye,X7]
     ·rw [if_neg (by omega),show i64.wrap ((i:Int) - 1)=((i - 1:Nat):Int) by rw [Yz (by omega) (by omega)];omega,Yn _ _ (by omega)];simp only [X7,AO,Ye];cases hpd:YL t.kids[i - 1]
      ·have:b=false:=by
        cases b with
        | false=>rfl
        | true =>
         rcases hb.1 rfl with h | ⟨_,_,h⟩
         ·exact absurd h hi0
         ·rw [h] at hpd;cases hpd
       subst this;simp only [Qr,if_false,Z7,Xg];exact ihr (i+1) true e2 (hb2 true hf.symm)
      ·have:b=true:=hb.2 (.inr ⟨by omega,by omega,hpd⟩);subst this
       simp
  rw [HF,Qh9,AO,X7];cases hd:YL t
  ·simp only [Qr,if_false,Oh h t,X7,Ye,Xh]
   by_cases h0:TH H t > 0
   ·rw [decide_eq_true (show 0 < TH H t from h0)];simp
   ·rw [decide_eq_false (show ¬0 < TH H t from h0)];simp only [gt_iff_lt,h0,decide_false,Qr,if_false,Z7,Xg];rw [Mw _ _ (by omega),loop t.kids 0 true (Xf ..) ⟨fun _=>.inl rfl,fun _=>rfl⟩,X7];cases Qeb true t.kids H<;>rfl
  ·simp [Ye,X7]
end Go.Proofs.SA
namespace Go.Proofs.Shadow
theorem UE {α β:Type} (F:List β->Nat->List α->Option (List β)) (a:List α) (g:Nat->β) (hn:∀z i,F z i []=some z) (hc:∀(z:List β) (i:Nat) (hi:i < a.length) r,z.length<=1073741824->F z i (a[i] :: r)=F (z++[g i]) (i+1) r) :
  ∀(n i:Nat) (z:List β),i+n=a.length->z.length+n<=1073741824->F z i (a.drop i)=some (z++(List.range' i n).map g):=by
 intro n
 induction n with
 | zero=>intro i z hi _;rw [show i=a.length by omega,Xk,hn];simp
 | succ n ih =>
  intro i z hi hz
  have hil:i < a.length:=by omega
  rw [ZH hil,hc z i hil _ (by omega),ih (i+1) _ (by omega) (by simp;omega),List.range'_succ,List.map_cons,QE];rfl
theorem MK {α:Type} {p:α->Bool} : ∀{l:List α},(l.filter p).length<=1->∀{i j:Nat} (hi:i < l.length) (hj:j < l.length),p l[i]=true->p l[j]=true->i=j:=by
 intro l
 induction l with
 | nil=>intro _ i j hi;simp at hi
 | cons x l ih =>
  intro h i j hi hj hpi hpj
  have CZ:(l.filter p).length=0->∀k,∀hk:k < l.length,p l[k]=false:=fun h0 k hk=>by
   cases hp:p l[k]
   ·rfl
   ·have:l[k]∈l.filter p:=List.mem_filter.2 ⟨ZR hk,hp⟩;have:=List.length_pos_of_mem this;omega
  cases hx:p x
  ·rw [Xl (by simp [hx])] at h
   cases i with
   | zero=>simp [hx] at hpi
   | succ i =>
    cases j with
    | zero=>simp [hx] at hpj
    | succ j =>
     simp only [Xi] at hpi hpj;have:=ih h (by simpa using hi) (by simpa using hj) hpi hpj;omega
  ·rw [Xm hx] at h;have h0:=CZ (by simp at h;simpa using h)
   cases i with
   | zero =>
    cases j with
    | zero=>rfl
    | succ j =>
     have h1:=h0 j (by simpa using hj);simp only [Xi] at hpj;rw [h1] at hpj;cases hpj
   | succ i =>
    have h1:=h0 i (by simpa using hi);simp only [Xi] at hpi;rw [h1] at hpi;cases hpi
theorem M6 {α β:Type} {g:α->Option β} : ∀{l:List α} {r:List β},EN g l=some r->r.length=l.length
 | [],r,h=>by rw [EN] at h;injection h with h;subst h;rfl
 | x :: l,r,h=>by
  rw [EN] at h
  cases hx:g x with
  | none=>rw [hx] at h;cases h
  | some y =>
   rw [hx] at h;simp only at h
   cases hl:EN g l with
   | none=>rw [hl] at h;cases h
   | some r'=>rw [hl] at h;injection h with h;subst h;simp [M6 hl]
theorem M7 {α β:Type} {g:α->Option β} : ∀{l:List α} {r:List β},EN g l=some r->∀y∈r,∃x∈l,g x=some y
 | [],r,h,y,hy=>by rw [EN] at h;injection h with h;subst h;cases hy
 | x :: l,r,h,y,hy=>by
  rw [EN] at h
  cases hx:g x with
  | none=>rw [hx] at h;cases h
  | some y' =>
   rw [hx] at h;simp only at h
   cases hl:EN g l with
   | none=>rw [hl] at h;cases h
   | some r' =>
    rw [hl] at h;injection h with h;subst h
    rcases List.mem_cons.1 hy with rfl | hy
    ·exact ⟨x,Kw ..,hx⟩
    ·obtain ⟨z,hz,h2⟩:=M7 hl y hy;exact ⟨z,Kg _ hz,h2⟩
def Lh (n:Nat):List Fm->Nat
 | []=>0
 | p :: ps=>if YL p=true then Lh n ps else if Wl ps=true then n+Lh n ps else 1+Lh n ps
theorem D6 (n:Nat):∀l:List Fm,l.any YL=false->Lh n l=l.length
 | [],_=>rfl
 | p :: ps,h=>by
  rw [Xa,Xo] at h
  have h2:Wl ps=false:=by
   cases ps with
   | nil=>rfl
   | cons q qs=>have:=h.2;rw [Xa,Xo] at this;exact this.1
  rw [Lh,if_neg (by simp [h.1]),if_neg (by simp [h2]),D6 n ps h.2,ZO];omega
theorem OI (n:Nat):∀l:List Fm,(l.filter YL).length<=1->Wl l=false->l.any YL=true->Lh n l+2=l.length+n
 | [],_,_,h=>by cases h
 | p :: ps,h1,h2,h3=>by
  have hp:YL p=false:=h2;rw [Xl (by simp [hp])] at h1;rw [Xa,hp,Xh] at h3;rw [Lh,if_neg (by simp [hp])];cases hd:Wl ps
  ·rw [if_neg (by simp)];have:=OI n ps h1 hd h3;rw [ZO];omega
  ·rw [if_pos rfl]
   cases ps with
   | nil=>cases hd
   | cons q qs =>
    have hq:YL q=true:=hd;rw [Xm hq,ZO] at h1;have hz:qs.filter YL=[]:=KB (by omega)
    have ha:qs.any YL=false:=by
     rw [Xq];intro x hx hxd;have:x∈qs.filter YL:=List.mem_filter.2 ⟨hx,hxd⟩;rw [hz] at this;cases this
    rw [Lh,if_pos hq,D6 n qs ha,ZO,ZO];omega
end Go.Proofs.Shadow
namespace Go.Proofs.SA
theorem UW (ls:List Fm):∀(l:List Fm) (d:Int),(∀f∈l,∀d,∀x∈dps ls d f,d<=x/\x<=d+f.nodes)->∀x∈PG ls d l,d<=x/\x<=d+1+YT ZX l
 | [],d,_,x,hx=>by cases hx
 | f :: l,d,h,x,hx=>by
  rw [PG] at hx;rw [YT]
  rcases QS.1 hx with hx | hx
  ·have:=h f (Kw ..) _ x hx;split at this<;>omega
  ·have:=UW ls l d (fun g hg=>h g (Kg _ hg)) x hx;omega
theorem UX (ls:List Fm) (p:Fm):∀d,∀x∈dps ls d p,d<=x/\x<=d+p.nodes:=by
 induction p using Fm.ind with
 | h p ih =>
  intro d x hx;rw [RD] at hx;have hn:=Fm.YM p
  rcases QS.1 hx with hx | hx
  ·split at hx
   ·rw [ZS.1 hx];omega
   ·cases hx
  ·have:=UW ls p.kids d ih x hx;omega
theorem Qhv (ls:List Fm) (h:FS ls) (p:Fm) (hp:p.nodes<=100000) (rows:List (List Hit)) (hr:∀r∈rows,r.length=(vrs ls p).length) (hrl:rows.length<=1000000):I3 p ls rows=some (Qfg ls p rows):=by
 have hvl:=A1 ls p;have hdl:=LM ls p 0;rw [I3,P4 ls h p (by omega),X7,F4 ls h p hp,X7,Lv _ _ _ _ _ (by omega)]
 have:=UE (GP p rows (vrs ls p) (dps ls 0 p)) (vrs ls p) (fun i=>.mk ((vrs ls p).getD i default) ((dps ls 0 p).getD i 0+1) Fm.zero (rows.map fun r=>r.getD i default)) (fun _ _=>rfl) (fun z i hi r hz=>by
  have hid:i < (dps ls 0 p).length:=by omega
  have hge:=UX ls p 0 _ (ZR hid)
  rw [GP,Ye,X7,Yn _ i hid,X7,Lw _ _ _ _ _ _ _ _ _ (by omega),
   Iz (GQ p rows (vrs ls p) (dps ls 0 p) z (i:Int) (vrs ls p)[i] (dps ls 0 p)[i]) (fun r=>r.getD i default) (fun _ _=>rfl) rows [] 0 (fun x hx z2 k r2 hz2=>by
    have hxl:=hr x hx
    rw [GQ,Ye,X7,Yn x i (by omega),X7,YD (by simp;omega),X7,QA,Qj (by omega)];rfl) (by simp;omega),X7,
   YD (by simp;omega),X7,Yz (by omega) (by omega),QA,Qj hi,QA,Qj hid];rfl) (vrs ls p).length 0 [] (by omega) (by simp;omega)
 rw [Xf] at this;rw [this,X7,Ye,Qfg,Xp];rfl
theorem NA (ls:List Fm) (p:Fm) (rows:List (List Hit)):(Qfg ls p rows).length=(vrs ls p).length:=by simp [Qfg]
theorem R4 (B:List Bnd) (ls:List Fm):∀(d:Nat) (p:Fm),FIs d p->YL p=false->∀(f:Fm) (hs:List Hit),pm B ls p f=some hs->hs.length=(vrs ls p).length:=by
 intro d
 induction d with
 | zero=>intro p h;exact h.elim
 | succ d ih =>
  intro p h hdt f hs e
  have hL:∀(ps:List Fm),(∀q∈ps,FIs d q)->∀(fs:List Fm) (n:Nat) (hs:List Hit),pmL B ls ps fs n=some hs->hs.length=(M0 ls ps).length:=by
   intro ps
   induction ps with
   | nil=>intro _ fs n hs e;rw [PV] at e;injection e with e;subst e;rfl
   | cons q ps ihp =>
    intro hq fs n hs e;have hq':=fun x hx=>hq x (Kg q hx);rw [Ny] at e;rw [M0,QW]
    by_cases hd:YL q=true
    ·rw [if_pos hd] at e;rw [ihp hq' fs n hs e,LO]
     have hk:q.kind=1/\q.name=Dp:=by unfold YL at hd;simpa using hd
     have:q.kids=[]:=by
      have:=hq q (Kw ..)
      cases d with
      | zero=>exact this.elim
      | succ d =>
       rcases this with h | h | h
       ·exact KB h.2.2.2.2
       ·omega
       ·omega
     rw [this,M0,if_neg (by simp [Pj,hk.2])];simp
    ·rw [if_neg hd] at e
     have hd':YL q=false:=by simpa using hd
     by_cases hh:Wl ps=true
     ·rw [if_pos hh] at e;split at e
      ·cases e
      ·rename_i rows hrows;obtain ⟨hs2,h2,h3⟩:=Qy.1 e;subst h3;rw [QW,NA,ihp hq' _ _ _ h2]
     ·rw [if_neg hh] at e;split at e
      ·cases e
      ·rename_i fs' f';split at e
       ·cases e
       ·rename_i hs1 h1;obtain ⟨hs2,h2,h3⟩:=Qy.1 e;subst h3;rw [QW,ih q (hq q (Kw ..)) hd' _ _ h1,ihp hq' _ _ _ h2]
  rw [Qhu] at e;rw [LO]
  rcases h with h | h | h
  ·have hk:p.kids=[]:=KB h.2.2.2.2;rw [if_pos h.1] at e;rw [hk,M0,List.append_nil]
   by_cases h1:p.name=Od
   ·rw [if_pos h1] at e
    injection e with e;subst e
    rw [if_neg (by simp [Pj,h1])];rfl
   ·rw [if_neg h1] at e
    by_cases h2:p∈ls
    ·rw [if_pos h2] at e;split at e
     ·injection e with e;subst e
      rw [if_neg (by simp [Pj,h2])];rfl
     ·cases e
    ·rw [if_neg h2] at e
     injection e with e;subst e
     have hn:p.name≠Dp:=fun hn=>by unfold YL at hdt;simp [h.1,hn] at hdt
     rw [if_pos (by simp [Pj,h.1,h1,h2,hn])];rfl
  ·have hk:p.kids=[]:=KB h.2.2.2.2.2;rw [if_neg (by omega),if_pos h.1] at e;rw [hk,M0,if_neg (by simp [Pj,h.1])];split at e
   ·injection e with e;subst e;rfl
   ·cases e
  ·rw [if_neg (by omega),if_neg (by omega)] at e;rw [if_neg (by simp [Pj,h.1]),QU];split at e
   ·split at e
    ·split at e
     ·cases e
     ·exact hL _ h.2.2.2.2 _ _ _ e
    ·split at e
     ·exact hL _ h.2.2.2.2 _ _ _ e
     ·cases e
   ·cases e
def MR (o:Option (List Hit)) (r:List Hit × Bool):Prop:=match o with | some hs=>r=(hs,true) | none=>r.2=false
theorem MU {B:List Bnd} (hB:BS B) {ls:List Fm} (hls:FS ls):∀(d:Nat) (p:Fm),FIs d p->p.sz<=100000->p.nodes<=400->Qa6 p=true->∀f:Fm,f.sz<=100000->Tot (VR B p ls f) (MR (pm B ls p f)):=by
 intro d
 induction d with
 | zero=>intro p h;exact h.elim
 | succ d ih =>
  intro p h hpz hpn hsh f hfz;have hzp:=Fm.Ge p;have hzf:=Fm.Ge f
  have hpd:YL p=false:=by
   cases hd:YL p
   ·rfl
   ·rw [NG,if_pos hd] at hsh;cases hsh
  rw [VR,Qhu]
  rcases h with h | h | h
  ·rw [if_pos h.1,if_pos h.1]
   by_cases h1:p.name=Od
   ·have h1':=h1;unfold Od at h1';rw [if_pos h1',if_pos h1];exact ⟨_,rfl,rfl⟩
   have h1':=h1;unfold Od at h1';rw [if_neg h1',if_neg h1,RT ls p hls,X7]
   by_cases h2:p∈ls
   ·rw [decide_eq_true h2,if_pos rfl,if_pos h2]
    by_cases h3:f.kind=1
    ·rw [if_pos h3,Qd0 B p f hB (by unfold Sm;omega) (by unfold Sm;omega)];simp only [X7,Ye];cases hr:Ln B p f
     ·exact ⟨_,rfl,by simp [MR]⟩
     ·exact ⟨_,rfl,by simp [MR,h3]⟩
    ·rw [if_neg h3];exact ⟨_,rfl,by simp [MR,h3]⟩
   ·rw [decide_eq_false h2,if_neg (by simp),if_neg h2,YD (by simp),X7];exact ⟨_,rfl,rfl⟩
  ·have n1:¬p.kind=1:=by omega
   simp only [n1,h.1,if_false,if_true];rw [Cq p (by omega),X7]
   by_cases h2:p=f
   ·rw [decide_eq_true h2,if_pos h2]
    exact ⟨_,rfl,by
     have hk:p.kids=[]:=KB h.2.2.2.2.2
     simp [MR]⟩
   ·rw [decide_eq_false h2,if_neg h2];exact ⟨_,rfl,rfl⟩
  have n1:¬p.kind=1:=by omega
  have n2:¬p.kind=2:=by omega
  simp only [n1,n2,if_false]
  by_cases hf3:f.kind=3
  rotate_left
  ·rw [if_neg hf3,if_neg hf3];exact ⟨_,rfl,rfl⟩
  rw [if_pos hf3,if_pos hf3];have hps:=h.2.2.2.2;rw [NG,hpd] at hsh;simp only [Qr,if_false] at hsh;have hc1:=Lo _ _ _ hsh;have hh:=Qa9 hsh;have hmem:=NH _ _ _ hsh;generalize hps':p.kids=ps at *;generalize hfs':f.kids=fs at *
  have hfsz:∀x∈fs,x.sz<=100000:=fun x hx=>by have:=GC Fm.sz fs x hx;omega
  have hpsz:∀x∈ps,x.sz<=100000:=fun x hx=>by have:=GC Fm.sz ps x hx;omega
  have hnp:=Fm.YM p;rw [hps'] at hnp
  have hpsn:∀x∈ps,x.nodes<=400:=fun x hx=>by have:=GC ZX ps x hx;omega
  have row:∀(n i:Nat) (r:Int),i+n+1=ps.length+1->i<=ps.length->(∀j,j < i->∀hj:j+1 < ps.length,YL ps[j+1]=true->r=j)->(r=-1∨∃j:Nat,r=j/\∃hj:j+1 < ps.length,YL ps[j+1]=true) ->
    Tot (Wu B ps ls fs r i) fun r=>(∀j:Nat,∀hj:j+1 < ps.length,YL ps[j+1]=true->r=j)/\(r=-1∨∃j:Nat,r=j/\∃hj:j+1 < ps.length,YL ps[j+1]=true):=by
   intro n
   induction n with
   | zero =>
    intro i r hi hil h1 h2;rw [Wu,VI (i:=i) (by omega),if_neg (by omega)];exact ⟨_,rfl,fun j hj hd=>h1 j (by omega) hj hd,h2⟩
   | succ n ihn =>
    intro i r hi hil h1 h2;rw [Wu,VI (i:=i) (by omega)]
    by_cases hlt:i+1 < ps.length
    ·rw [if_pos (by omega),Yn ps (i+1) hlt,X7,AO,X7];cases hd:YL ps[i+1]
     ·simp only [Qr,if_false];refine ihn (i+1) r (by omega) (by omega) (fun j hj hj2 hd2=>?_) h2
      by_cases hji:j=i
      ·subst hji;rw [hd] at hd2;cases hd2
      ·exact h1 j (by omega) hj2 hd2
     ·simp only [if_true];refine ihn (i+1) i (by omega) (by omega) (fun j hj hj2 hd2=>?_) (.inr ⟨i,rfl,hlt,hd⟩);have:=MK (p:=YL) (by omega) hj2 hlt hd2 hd;omega
    ·rw [if_neg (by omega)];exact ⟨_,rfl,fun j hj hd=>h1 j (by omega) hj hd,h2⟩
  rw [Br];obtain ⟨w,hw,hw1,hw2⟩:=row ps.length 0 (-1) (by omega) (by omega) (fun j hj=>by omega) (.inl rfl);rw [show ((0:Nat):Int)=0 from rfl] at hw;rw [hw,X7]
  have hany:ps.any YL=true↔w≠-1:=by
   rw [List.any_eq_true];constructor
   ·rintro ⟨x,hx,hd⟩;obtain ⟨j,hj,rfl⟩:=Z9.1 hx
    cases j with
    | zero =>
     cases ps with
     | nil=>simp at hj
     | cons q qs=>rw [show Wl (q :: qs)=YL q from rfl] at hh;simp only [List.getElem_cons_zero] at hd;rw [hd] at hh;cases hh
    | succ j=>have:=hw1 j hj hd;omega
   ·intro hne
    rcases hw2 with h | ⟨j,_,hj,hd⟩
    ·exact absurd h hne
    ·exact ⟨_,ZR hj,hd⟩
  have hrow:∀i:Nat,∀hi:i < ps.length,YL ps[i]=false->((i:Int)=w↔Wl (ps.drop (i+1))=true):=fun i hi hnd=>by
   by_cases hlt:i+1 < ps.length
   ·rw [ZH hlt];show _↔YL ps[i+1]=true;constructor
    ·intro hiw
     rcases hw2 with h | ⟨j,h2,hj,hd⟩
     ·omega
     ·have:j=i:=by omega
      subst this;exact hd
    ·intro hd;exact (hw1 i hlt hd).symm
   ·rw [ZI (by omega)];constructor
    ·intro hiw
     rcases hw2 with h | ⟨j,h2,hj,hd⟩
     ·omega
     ·omega
    ·intro hd;cases hd
  have main:∀(n:Nat),(w≠-1->i64.wrap ((fs.length:Int) - (i64.wrap ((ps.length:Int) - 2)))=(n:Int))->n<=fs.length->∀(r:List Fm) (i at_:Nat) (z:List Hit),ps.drop i=r->at_+Lh n r=fs.length->z.length+YT ZX r<=1000000 ->
    Tot (V4 B ps ls fs w z (at_:Int) i r) fun o=>match pmL B ls r (fs.drop at_) n with | some hs=>o=.inr (z++hs) | none=>∃z',o=.inl (z',false):=by
   intro n hn hnf r
   induction r with
   | nil=>intro i at_ z _ _ _;rw [V4,PV];exact ⟨_,rfl,by simp⟩
   | cons q r ihr =>
    intro i at_ z hd hneed hz;have hd0:=hd
    have hi:i < ps.length:=by
     rcases Kz i ps.length with h | h
     ·exact h
     ·rw [ZI h] at hd;cases hd
    rw [ZH hi] at hd
    injection hd with e1 e2
    have hm:q∈ps:=e1▸ZR hi;rw [V4,Ye,X7,AO,X7,Ny];rw [Lh] at hneed;rw [YT] at hz;have hqn:=Hy q;cases hq:YL q;rotate_left
    ·rw [hq,if_pos rfl] at hneed;simp only [if_true];exact ihr (i+1) at_ z e2 hneed (by omega)
    rw [hq,if_neg (by simp)] at hneed;simp only [Qr,if_false];have hq':Qa6 q=true:=(hmem q hm).resolve_left (by simp [hq]);have hqz:=hpsz q hm;have hqnn:=hpsn q hm;have hrw:=hrow i hi (by rw [e1];exact hq);rw [e2] at hrw
    by_cases hhd:Wl r=true
    ·rw [if_pos hhd] at hneed ⊢;rw [if_pos (hrw.2 hhd)]
     have hwn:w≠-1:=by have:=hrw.2 hhd;omega
     rw [hn hwn]
     have l2:∀(m:Nat) (acc:List (List Hit)) (k:Nat),k+m=at_+n->acc.length+m<=100000->Tot (Jh B ps ls fs w z (i:Int) acc (k:Int) (m:Int)) fun o=>match EN (pm B ls q) ((fs.drop k).take m) with | some rows=>o=.inr (acc++rows,((at_+n:Nat):Int)) | none=>∃z',o=.inl (z',false):=by
      intro m
      induction m with
      | zero =>
       intro acc k hk _;rw [Jh,if_neg (by omega),List.take_zero,EN];exact ⟨_,rfl,by simp;omega⟩
      | succ m ihm =>
       intro acc k hk hacc
       have hkl:k < fs.length:=by omega
       rw [Jh,if_pos (by omega),Yn ps i hi,X7,Yn fs k hkl,X7,e1,ZH hkl,List.take_succ_cons,EN];have:=ih q (hps q hm) hqz hqnn hq' fs[k] (hfsz _ (ZR hkl));obtain ⟨rr,hrr,hmr⟩:=this;rw [hrr,X7]
       cases hpm:pm B ls q fs[k] with
       | none =>
        rw [hpm] at hmr;have:rr.2=false:=hmr;rw [this];simp only [Z7,if_true];exact ⟨_,rfl,_,rfl⟩
       | some hs =>
        rw [hpm] at hmr;have:rr=(hs,true):=hmr;subst this;simp only [Z8,Qr,if_false];rw [YD (by simp;omega),X7,VI (i:=k) (by omega),show i64.wrap (((m+1:Nat):Int) - 1)=(m:Int) by rw [Yz (by omega) (by omega)];omega];obtain ⟨o,ho,hop⟩:=ihm (acc++[hs]) (k+1) (by omega) (by simp;omega);refine ⟨o,ho,?_⟩
        cases hall:EN (pm B ls q) ((fs.drop (k+1)).take m) with
        | none=>rw [hall] at hop;exact hop
        | some rows=>rw [hall] at hop;simp only [Qx];rw [hop];simp
     obtain ⟨o,ho,hop⟩:=l2 n [] at_ rfl (by have:=hfz;have:=WA fs;simp;omega);rw [ho,X7]
     cases hall:EN (pm B ls q) ((fs.drop at_).take n) with
     | none =>
      rw [hall] at hop;obtain ⟨z',rfl⟩:=hop;exact ⟨_,rfl,_,rfl⟩
     | some rows =>
      rw [hall] at hop;simp only at hop;subst hop;simp only [QU];have hrl:=M6 hall
      rw [X7,Qhv ls hls q (by omega) rows (fun r hr=>by
       obtain ⟨x,hx,h2⟩:=M7 hall r hr
       exact R4 B ls d q (hps q hm) hq x r h2) (by rw [hrl,List.length_take];omega),X7]
      have hvl:=A1 ls q;rw [YD (by rw [NA];omega),X7];obtain ⟨o,ho,hop⟩:=ihr (i+1) (at_+n) (z++Qfg ls q rows) e2 (by omega) (by rw [QW,NA];omega);refine ⟨o,ho,?_⟩;rw [Xn]
      cases hpl:pmL B ls r (fs.drop (at_+n)) n with
      | none=>rw [hpl] at hop;exact hop
      | some hs=>rw [hpl] at hop;simp only [Qx];rw [hop,QE]
    ·rw [if_neg hhd] at hneed ⊢;rw [if_neg (fun h=>hhd (hrw.1 h))]
     have hal:at_ < fs.length:=by omega
     rw [ZH hal];simp only [Ye,X7,Yn fs at_ hal];obtain ⟨rr,hrr,hmr⟩:=ih q (hps q hm) hqz hqnn hq' fs[at_] (hfsz _ (ZR hal));rw [hrr,X7]
     cases hpm:pm B ls q fs[at_] with
     | none =>
      rw [hpm] at hmr;have:rr.2=false:=hmr;rw [this];simp only [Z7,if_true];exact ⟨_,rfl,_,rfl⟩
     | some hs =>
      rw [hpm] at hmr;have:rr=(hs,true):=hmr;subst this;simp only [Z8,Qr,if_false];have hl:=R4 B ls d q (hps q hm) hq _ _ hpm;have hvl:=A1 ls q;rw [YD (by omega),X7,VI (i:=at_) (by omega)];obtain ⟨o,ho,hop⟩:=ihr (i+1) (at_+1) (z++hs) e2 (by omega) (by rw [QW];omega);refine ⟨o,ho,?_⟩
      cases hpl:pmL B ls r (fs.drop (at_+1)) n with
      | none=>rw [hpl] at hop;exact hop
      | some hs2=>rw [hpl] at hop;simp only [Qx];rw [hop,QE]
  have hfl:fs.length<=100000:=by omega
  have hpl:ps.length<=400:=by have:=WA ps;omega
  have fin:∀n:Nat,(w≠-1->i64.wrap ((fs.length:Int) - (i64.wrap ((ps.length:Int) - 2)))=(n:Int))->n<=fs.length->Lh n ps=fs.length->Tot ((VD B ps ls fs w [] 0 0>>=fun o27=>match o27 with | .inl r=>pure r | .inr RH=>(pure (RH,true)):Option (List Hit × Bool))>>=fun x55=>pure (x55.1,x55.2)) (MR (pmL B ls ps fs n)):=fun n h1 h2 h3=>by
   rw [Fl _ _ _ _ _ _ _ (by omega)];obtain ⟨o,ho,hop⟩:=main n h1 h2 ps 0 0 [] (Xf ..) (by omega) (by simp;omega);rw [show ((0:Nat):Int)=0 from rfl] at ho;rw [ho,X7];rw [Xf] at hop
   cases hpm:pmL B ls ps fs n with
   | none=>rw [hpm] at hop;obtain ⟨z',rfl⟩:=hop;exact ⟨_,rfl,rfl⟩
   | some hs=>rw [hpm] at hop;simp only at hop;subst hop;exact ⟨_,rfl,by simp [MR]⟩
  have hw0:w=-1∨0<=w:=by rcases hw2 with h | ⟨j,h,_⟩<;>omega
  have hwr:i64.wrap ((ps.length:Int) - 2)=(ps.length:Int) - 2:=Yz (by omega) (by omega)
  by_cases hwn:w=-1
  ·have hno:¬ps.any YL=true:=fun h=>hany.1 h hwn;rw [if_neg hno];subst hwn;simp only [show decide ((-1:Int) < 0)=true from rfl,show decide ((-1:Int)≥0)=false from rfl,Xg,Xj,Ye,X7]
   by_cases hlen:ps.length=fs.length
   ·rw [if_pos hlen,decide_eq_true (show (ps.length:Int)=(fs.length:Int) by omega)];simp only [Z8,Qr,if_false,X7];exact fin 0 (fun h=>absurd rfl h) (by omega) (by rw [D6 0 ps (by simpa using hno)];exact hlen)
   ·rw [if_neg hlen,decide_eq_false (show ¬(ps.length:Int)=(fs.length:Int) by omega)];simp only [Z7,if_true,X7];exact ⟨_,rfl,rfl⟩
  ·have hyes:ps.any YL=true:=hany.2 hwn;have hw1':0<=w:=hw0.resolve_left hwn;rw [if_pos hyes];simp only [decide_eq_false (show ¬w < 0 by omega),decide_eq_true (show w≥0 from hw1'),Xj,Xg,Ye,X7,Qr,if_false,hwr]
   by_cases hlen:fs.length+2 < ps.length
   ·rw [if_pos hlen,decide_eq_true (show (fs.length:Int) < (ps.length:Int) - 2 by omega)];simp only [if_true,X7];exact ⟨_,rfl,rfl⟩
   ·rw [if_neg hlen,decide_eq_false (show ¬(fs.length:Int) < (ps.length:Int) - 2 by omega)];simp only [Qr,if_false,X7]
    have h2:2<=ps.length:=by
     rcases hw2 with h | ⟨j,_,hj,_⟩
     ·exact absurd h hwn
     ·omega
    refine fin (fs.length+2 - ps.length) (fun _=>?_) (by omega) ?_
    ·rw [hwr,Yz (by omega) (by omega)];omega
    ·have:=OI (fs.length+2 - ps.length) ps (by omega) hh hyes;omega
end Go.Proofs.SA
namespace Go.Proofs.SA
theorem WB {α:Type} {l:List α} {i:Nat} {d:α} (h:i < l.length):l.getD i d=l[i]:=by rw [QA,Qj h];rfl
theorem Qa4 (ls:List Fm) (h:FS ls) (p:Fm) (hp:p.nodes<=100000):IL p ls=some (EW p ls):=by
 have hvl:=A1 ls p;have hdl:=LM ls p 0;rw [IL,P4 ls h p (by omega),X7,F4 ls h p hp,X7,EA _ _ _ _ (by omega)]
 have:=UE (WU p (vrs ls p) (dps ls 0 p)) (vrs ls p) (fun i=>.mk ((vrs ls p).getD i default) ((dps ls 0 p).getD i 0) (if (dps ls 0 p).getD i 0=0 then (vrs ls p).getD i default else Fm.zero) []) (fun _ _=>rfl) (fun z i hi r hz=>by
  have hid:i < (dps ls 0 p).length:=by omega
  rw [WU,Ye,X7,Yn _ i hid,X7,WB hi,WB hid]
  by_cases h0:(dps ls 0 p)[i]=0
  ·rw [if_pos h0,if_pos h0,X7,YD (by simp;omega),X7]
  ·rw [if_neg h0,if_neg h0,YD (by simp;omega),X7];rfl) (vrs ls p).length 0 [] (by omega) (by simp;omega)
 rw [Xf] at this;rw [this,X7,Ye,EW,Xp];rfl
theorem Qa5 (ls:List Fm) (p:Fm) (hp:p.nodes<=400) (hz:p.sz<=100000):HS (EW p ls)/\(EW p ls).length<=400:=by
 have hvl:=A1 ls p;have hdl:=LM ls p 0;refine ⟨⟨by unfold Sm;simp [EW];omega,fun h hh=>?_⟩,by simp [EW];omega⟩;unfold EW at hh;obtain ⟨i,hi,rfl⟩:=QY.1 hh
 have hi':i < (vrs ls p).length:=by simpa using hi
 have hid:i < (dps ls 0 p).length:=by omega
 show ((vrs ls p).getD i default).sz<=1000000/\0<=(dps ls 0 p).getD i 0+1/\(dps ls 0 p).getD i 0<=1000000;rw [WB hi',WB hid];have h1:=P8 ls p _ (ZR hi');have h2:=UX ls p 0 _ (ZR hid);omega
def Qbu (ls:List Fm) (r:Rul):Prop:=Qfm ls r.pat/\r.pat.kind=3/\0 < r.pat.kids.length/\FV r.tpl/\Qfk r.tpl (EW r.pat ls)=true
def F0 (ls:List Fm) (rs:List Rul):Prop:=rs.length < 10/\(∀r∈rs,Qbu ls r)/\TM ls
def RS (rs:List Rul):Prop:=Sm rs.length/\∀r∈rs,r.pat.sz<=100000/\r.tpl.sz<=100000
theorem Th {ls:List Fm} (h:FS ls) {r:Rul} (h1:r.pat.sz<=100000) (h2:r.tpl.sz<=100000):Tot (Ai r ls) fun b=>b=true↔Qbu ls r:=by
 rw [Ai];refine ZK (Qdd h1 h) fun b hb=>?_;cases b
 ·simp only [Xj,Ye,X7,Qr,if_false];exact ⟨_,rfl,fun h=>(by cases h),fun h=>(by have:=hb.2 h.1;cases this)⟩
 have hp:=hb.1 rfl;simp only [Xg,Ye,X7]
 by_cases h3:r.pat.kind=3
 rotate_left
 ·simp only [h3,decide_false,Xj,Qr,if_false,Ye,X7];exact ⟨_,rfl,fun h=>(by cases h),fun h=>absurd h.2.1 h3⟩
 by_cases h4:(r.pat.kids.length:Int) > 0
 rotate_left
 ·simp only [h3,h4,decide_false,decide_true,Xg,Qr,if_false,Ye,X7];exact ⟨_,rfl,fun h=>(by cases h),fun h=>absurd h.2.2.1 (by omega)⟩
 simp only [h3,h4,decide_true,Xg,if_true];obtain ⟨b2,e2,hb2⟩:=JP (f:=r.tpl) (by omega);rw [e2];simp only [Ye,X7];cases b2
 ·simp only [Qr,if_false,Ye,X7];exact ⟨_,rfl,fun h=>(by cases h),fun h=>(by have:=hb2.2 h.2.2.2.1;cases this)⟩
 have hn:=hp.1.2;obtain ⟨hh,hl⟩:=Qa5 ls r.pat hn h1;simp only [if_true,Qa4 ls h r.pat (by omega),Qkj r.tpl (by omega) hh (by omega),Ye,X7];refine ⟨_,rfl,fun h=>⟨hp,h3,by omega,hb2.1 rfl,h⟩,fun h=>h.2.2.2.2⟩
theorem Qa0 {ls:List Fm} (h:FS ls) {rs:List Rul} (hr:RS rs):∀(n i:Nat),i+n=10->Tot (WI rs ls i) fun o=>match o with
  | .inl r=>r=false/\∃x∈rs,¬Qbu ls x
  | .inr _=>∀j,i<=j->j < 10->∀h:j < rs.length,Qbu ls rs[j]:=by
 intro n
 induction n with
 | zero=>intro i hi;rw [WI,Ye,X7,if_neg (by simp;omega)];exact ⟨_,rfl,fun j h1 h2=>by omega⟩
 | succ n ih =>
  intro i hi;rw [WI,Ye,X7]
  by_cases hil:i < rs.length
  rotate_left
  ·rw [if_neg (by simp;omega)];exact ⟨_,rfl,fun j h1 h2 h3=>by omega⟩
  have hm:=ZR hil;rw [if_pos (by simp;omega),Yn rs i hil,X7];refine ZK (Th h (hr.2 _ hm).1 (hr.2 _ hm).2) fun b hb=>?_;cases b
  ·simp only [Z7,if_true];exact ⟨_,rfl,rfl,_,hm,fun h=>by have:=hb.2 h;cases this⟩
  ·simp only [Z8,Qr,if_false,VI (i:=i) (by omega)];refine (ih (i+1) (by omega)).mono fun o ho=>?_
   cases o with
   | inl r=>exact ho
   | inr u =>
    exact fun j h5 h6 h7=>by
     by_cases hj:j=i
     ·subst hj;exact hb.1 rfl
     ·exact ho j (by omega) h6 h7
theorem Lm {ls:List Fm} (h:FS ls) {rs:List Rul} (hr:RS rs):Tot (H0 rs ls) fun b=>b=true↔F0 ls rs:=by
 rw [H0];refine ZK (Qa0 h hr 10 0 (by omega)) fun o ho=>?_
 cases o with
 | inl r =>
  obtain ⟨h0,x,hx,hn⟩:=ho;subst h0;exact ⟨_,rfl,fun h=>(by cases h),fun h=>absurd (h.2.1 x hx) hn⟩
 | inr u =>
  simp only
  by_cases hl:rs.length < 10
  ·rw [if_pos (by omega)];obtain ⟨b,e,hb⟩:=Dx h;rw [e];simp only [Ye,X7];refine ⟨_,rfl,?_⟩;simp only [hb];refine ⟨fun h=>⟨hl,fun r hr=>?_,h⟩,fun h=>h.2.2⟩;obtain ⟨j,hj,rfl⟩:=Z9.1 hr;exact ho j (Nat.zero_le _) (by omega) hj
  ·rw [if_neg (by omega)];exact ⟨false,rfl,fun h=>(by cases h),fun h=>absurd h.1 hl⟩
def RB:ByteArray:=Ql #[114,117,108,101,115]
def JC (f:Fm):List Fm × List Rul:=((f.kids.getD 1 default).kids,(f.kids.drop 2).map fun x=>⟨x.kids.getD 0 default,x.kids.getD 1 default⟩)
def Sl (f:Fm):Prop:=FV f/\f.kind=3/\2<=f.kids.length/\(f.kids.getD 0 default).name=RB/\(f.kids.getD 1 default).kind=3/\(∀x∈f.kids.drop 2,x.kind=3/\x.kids.length=2)/\F0 (JC f).1 (JC f).2
theorem PU {f:Fm} (hf:f.sz<=100000):Tot (J2 f) fun r=>(Sl f/\r=((JC f).1,(JC f).2,true))∨(¬Sl f/\r.2.2=false):=by
 have hz:=Fm.Ge f;have bad:¬Sl f->Tot (some ([],[],false):Option (List Fm × List Rul × Bool)) fun r=>(Sl f/\r=((JC f).1,(JC f).2,true))∨(¬Sl f/\r.2.2=false):=fun h=>⟨_,rfl,.inr ⟨h,rfl⟩⟩;rw [J2];refine ZK (JP (by omega)) fun b hb=>?_;cases b
 ·simp only [Z7,Bool.true_or,Ye,X7,if_true]
  exact bad fun h=>by have:=hb.2 h.1;cases this
 simp only [Z8,Xh,Ye,X7]
 by_cases h3:f.kind=3
 rotate_left
 ·simp only [h3,decide_false,Z7,Bool.true_or,if_true,Ye,X7];exact bad fun h=>h3 h.2.1
 by_cases h4:(f.kids.length:Int) < 2
 ·simp only [h3,h4,decide_true,Z8,Xh,if_true,Ye,X7]
  exact bad fun h=>by have:=h.2.2.1;omega
 have l0:0 < f.kids.length:=by omega
 have l1:1 < f.kids.length:=by omega
 simp only [h3,h4,decide_true,decide_false,Z8,Xh,Qr,if_false,show idx f.kids 0=some f.kids[0] from Yn f.kids 0 l0,show idx f.kids 1=some f.kids[1] from Yn f.kids 1 l1,Ye,X7];have g0:f.kids.getD 0 default=f.kids[0]:=WB l0;have g1:f.kids.getD 1 default=f.kids[1]:=WB l1
 by_cases h5:f.kids[0].name=RB
 rotate_left
 ·have h5':=h5;unfold RB at h5';simp only [h5',decide_false,Z7,if_true,Ye,X7];exact bad fun h=>h5 (by rw [← g0];exact h.2.2.2.1)
 have h5':=h5;unfold RB at h5';simp only [h5',decide_true,Z8,Qr,if_false,Ye,X7]
 by_cases h6:f.kids[1].kind=3
 rotate_left
 ·simp only [h6,decide_false,Z7,if_true];exact bad fun h=>h6 (by rw [← g1];exact h.2.2.2.2.1)
 simp only [h6,decide_true,Z8,Qr,if_false];have k1:=Fm.Gf (ZR l1);have hz1:=Fm.Ge f.kids[1]
 have lp0:∀(n i:Nat),i+n=f.kids[1].kids.length->∀z:List Fm,z.length+n<=200000->Vu f z i=some (z++f.kids[1].kids.drop i):=by
  intro n
  induction n with
  | zero =>
   intro i hi z _;rw [Vu,show idx f.kids 1=some f.kids[1] from Yn f.kids 1 l1,X7,if_neg (by omega),show i=f.kids[1].kids.length by omega,Xk];simp [Ye]
  | succ n ih =>
   intro i hi z hzl
   have hil:i < f.kids[1].kids.length:=by omega
   have:=Fm.Gf (ZR hil);rw [Vu,show idx f.kids 1=some f.kids[1] from Yn f.kids 1 l1,X7,if_pos (by omega),X7,Yn _ i hil,X7,BK _ (by omega),X7,YD (by simp;omega),X7,VI (i:=i) (by omega),ih (i+1) (by omega) _ (by simp;omega),QE,ZH hil];rfl
 have e0:=lp0 f.kids[1].kids.length 0 (by omega) [] (by simp;omega);rw [show ((0:Nat):Int)=0 from rfl] at e0;rw [e0,X7,QU,Xf]
 have lp1:∀(n i:Nat),i+n=f.kids.length->∀z:List Rul,z.length+n<=200000->Tot (Vv f f.kids[1].kids z i) fun o=>((∀x∈f.kids.drop i,x.kind=3/\x.kids.length=2)/\o=.inr (z++(f.kids.drop i).map fun x=>⟨x.kids.getD 0 default,x.kids.getD 1 default⟩))∨(¬(∀x∈f.kids.drop i,x.kind=3/\x.kids.length=2)/\∃r,o=.inl r/\r.2.2=false):=by
  intro n
  induction n with
  | zero =>
   intro i hi z _;rw [Vv,if_neg (by omega),show i=f.kids.length by omega,Xk];exact ⟨_,rfl,.inl ⟨by simp,by simp⟩⟩
  | succ n ih =>
   intro i hi z hzl
   have hil:i < f.kids.length:=by omega
   have k2:=Fm.Gf (ZR hil);rw [Vv,if_pos (by omega),Yn _ i hil,ZH hil];simp only [X7]
   by_cases q1:f.kids[i].kind=3
   rotate_left
   ·rw [if_neg q1];simp only [Ye,X7,if_true];exact ⟨_,rfl,.inr ⟨fun h=>q1 (h _ (Kw ..)).1,_,rfl,rfl⟩⟩
   rw [if_pos q1]
   by_cases q2:f.kids[i].kids.length=2
   rotate_left
   ·simp only [Ye,X7,decide_eq_false (show ¬(f.kids[i].kids.length:Int)=2 by omega),Z7,if_true];exact ⟨_,rfl,.inr ⟨fun h=>q2 (h _ (Kw ..)).2,_,rfl,rfl⟩⟩
   have j0:0 < f.kids[i].kids.length:=by omega
   have j1:1 < f.kids[i].kids.length:=by omega
   have m0:=Fm.Gf (ZR j0);have m1:=Fm.Gf (ZR j1);simp only [Ye,X7,decide_eq_true (show (f.kids[i].kids.length:Int)=2 by omega),Z8,Qr,if_false,show idx f.kids[i].kids 0=some f.kids[i].kids[0] from Yn _ 0 j0,show idx f.kids[i].kids 1=some f.kids[i].kids[1] from Yn _ 1 j1];rw [BK _ (by omega),BK _ (by omega)];simp only [X7];rw [YD (by simp;omega),X7,VI (i:=i) (by omega)];refine (ih (i+1) (by omega) _ (by simp;omega)).mono fun o ho=>?_
   rcases ho with ⟨r1,r2⟩ | ⟨r1,r2⟩
   ·refine .inl ⟨fun x hx=>?_,?_⟩
    ·rcases List.mem_cons.1 hx with rfl | hx
     ·exact ⟨q1,q2⟩
     ·exact r1 x hx
    ·rw [r2,List.map_cons,WB j0,WB j1,QE];rfl
   ·exact .inr ⟨fun h=>r1 fun x hx=>h x (Kg _ hx),r2⟩
 obtain ⟨o,ho,hop⟩:=lp1 (f.kids.length - 2) 2 (by omega) [] (by simp;omega);rw [show ((2:Nat):Int)=2 from rfl] at ho;rw [ho,X7]
 rcases hop with ⟨r1,r2⟩ | ⟨r1,r,r2,r3⟩
 ·subst r2;simp only [QU];have hls:FS f.kids[1].kids:=⟨by unfold Sm;omega,fun x hx=>by have:=Fm.Gf hx;omega⟩
  have hrs:RS ((f.kids.drop 2).map fun x=>(⟨x.kids.getD 0 default,x.kids.getD 1 default⟩:Rul)):=⟨by rw [ZU,List.length_drop];unfold Sm;omega,fun x hx=>by
   obtain ⟨y,hy,rfl⟩:=QY.1 hx;have q:=(r1 y hy).2;have k2:=Fm.Gf (List.mem_of_mem_drop hy)
   have j0:0 < y.kids.length:=by omega
   have j1:1 < y.kids.length:=by omega
   have m0:=Fm.Gf (ZR j0);have m1:=Fm.Gf (ZR j1);simp only [WB j0,WB j1]
   omega⟩
  have er:JC f=(f.kids[1].kids,(f.kids.drop 2).map fun x=>⟨x.kids.getD 0 default,x.kids.getD 1 default⟩):=by unfold JC;rw [g1]
  obtain ⟨b2,e2,hb2⟩:=Lm hls hrs;rw [e2,X7];cases b2
  ·simp only [Z7,if_true];refine bad fun h=>?_;have:=h.2.2.2.2.2.2;rw [er] at this;have:=hb2.2 this;cases this
  ·simp only [Z8,Qr,if_false];refine ⟨_,rfl,.inl ⟨⟨hb.1 rfl,h3,by omega,by rw [g0];exact h5,by rw [g1];exact h6,r1,by rw [er];exact hb2.1 rfl⟩,by rw [er]⟩⟩
 ·subst r2;exact ⟨_,rfl,.inr ⟨fun h=>r1 h.2.2.2.2.2.1,r3⟩⟩
theorem Qfe:∀f:Fm,f.sz<=1000000->VA f=some f:=by
 intro f
 induction f using Fm.ind with
 | h f ih =>
  intro hf;have hz:=Fm.Ge f
  rw [VA,YD (by simp;omega),X7,Gn,Bb _ _ (by omega),Iz (Vn f.kids) id (fun _ _=>rfl) f.kids [] 0 (fun x hx z i r hzb=>by
   have:=Fm.Gf hx
   rw [Vn,Ye,X7,ih x hx (by omega),X7,YD (by simp;omega),X7];rfl) (by simp;omega)]
  simp only [X7,Ye,QU,List.map_id,Fm.eta]
theorem PT (rs:List Rul) (hr:RS rs) (hl:rs.length<=1000000):Jv rs=some rs:=by
 rw [Jv,Bc _ _ (by omega),Iz (Vo rs) id (fun _ _=>rfl) rs [] 0 (fun x hx z i r hzb=>by
  have:=hr.2 x hx
  rw [Vo,Ye,X7,G4,Qfe _ (by omega),X7,Qfe _ (by omega),X7,Ye,X7,YD (by simp;omega),X7];rfl) (by simp;omega)]
 simp only [X7,Ye,QU,List.map_id]
end Go.Proofs.SA
