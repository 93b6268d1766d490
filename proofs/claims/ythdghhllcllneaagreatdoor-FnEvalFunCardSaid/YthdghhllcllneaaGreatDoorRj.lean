/- The reference's templates filled; the first rule; rules applied. -/
import Derived.Test.YthdghhllcllneaaGreatDoorRg
set_option linter.unusedVariables false
set_option linter.unusedSimpArgs false
set_option maxRecDepth 100000
open Go Go.Proofs Go.Proofs.Shadow
open _root_.Bool renaming false_eq_true → Qq, not_false → ZR, not_true → ZS, false_or → Z1
open _root_.List renaming getElem_mem → ZJ, mem_cons_of_mem → Kf, mem_cons_self → KB, mem_singleton → ZF, mem_append → QR, findIdx?_eq_some_iff_getElem → Xb, nil_append → QS, length_map → ZH, drop_eq_getElem_cons → Zw, range' → Xc, append_assoc → QD, length_cons → ZD, length_drop → Xd, length_pos_of_mem → ZW, mem_map → QX, drop_of_length_le → Zx, mem_of_mem_drop → QA, mem_cons → Kj, findIdx?_cons → Xf
open Fm renaming nodes → ZK, mk → KR
open _root_.Option renaming map_some → Qu, map_eq_some_iff → Qx
open _root_.ByteArray renaming mk → Qk
open Tot renaming bind → Zz
open _root_.Int renaming le_refl → Xe
namespace Go.Proofs.SA
def LN:Nat->Fm->Prop
 | 0,_=>False
 | d+1,f=>f.name.size<=12/\f.sc.length<=24/\∀k∈f.kids,LN d k
theorem LN.mono:∀(d e:Nat) (f:Fm),LN d f->d<=e->LN e f
 | 0,_,_,h,_=>h.elim
 | d+1,0,_,_,h=>by omega
 | d+1,e+1,f,h,hde=>⟨h.1,h.2.1,fun k hk=>LN.mono d e k (h.2.2 k hk) (by omega)⟩
theorem LN.sz:∀(d:Nat) (f:Fm),LN d f->f.sz+1<=37 * f.nodes
 | 0,_,h=>h.elim
 | d+1,f,h=>by
  rw [Fm.GX,Fm.YA]
  have hsum:∀l:List Fm,(∀g∈l,LN d g)->YV Fm.sz l+l.length<=37 * YV ZK l:=by
   intro l
   induction l with
   | nil=>intro _;exact Nat.le_refl _
   | cons g l ihl =>
    intro hg;have h1:=LN.sz d g (hg g (KB ..));have h2:=ihl (fun x hx=>hg x (Kf _ hx));simp only [YV,ZD];omega
  have:=hsum f.kids h.2.2;have:=h.1;have:=h.2.1;omega
theorem NV.size {s:ByteArray} (h:NV s):s.size<=12:=by
 rcases h with h | h | h
 ·rw [h];decide
 ·rw [h];decide
 ·exact h.2.1
theorem FIs.ln:∀(d:Nat) (f:Fm),FIs d f->LN d f
 | 0,_,h=>h.elim
 | d+1,f,h=>by
  have z:(Qk #[]).size=0:=rfl
  rcases h with h | h | h
  ·exact ⟨NV.size h.2.1,h.2.2.2.1.1,fun k hk=>by have:=ZW hk;omega⟩
  ·exact ⟨by rw [h.2.1,z];omega,by omega,fun k hk=>by have:=ZW hk;omega⟩
  ·exact ⟨by rw [h.2.1,z];omega,by omega,fun k hk=>FIs.ln d k (h.2.2.2.2 k hk)⟩
theorem FV.ln {f:Fm} (h:FV f):LN 40 f:=FIs.ln _ _ h.1
theorem Qsj (x:Fm):∀l:List Fm,((Fm.Qmx l).any fun g=>decide (g.kind=1)&&decide (g=x))=l.any fun t=>Lg t x
 | []=>rfl
 | f :: l=>by rw [Fm.Qmx,List.any_append,List.any_cons,Qsj x l];rfl
theorem Qk7 (t x:Fm):Lg t x=((decide (t.kind=1)&&decide (t=x))||t.kids.any fun k=>Lg k x):=by
 cases t;rw [Lg,Fm.all,List.any_cons,Qsj];rfl
theorem Qbx (x:Fm):∀t:Fm,t.sz<=1000000->GS t x=some (Lg t x):=by
 intro t
 induction t using Fm.ind with
 | h t ih =>
  intro ht;have hz:=Fm.GX t;rw [GS,Qk7]
  have rest:(JD t x 0>>=fun o7=>match o7 with | .inl r=>pure r | .inr _=>(pure false):Option Bool)=some (t.kids.any fun k=>Lg k x):=by
   rw [M1 _ _ (by omega),Da (HI t x) (fun k=>Lg k x) true (fun _=>rfl) t.kids 0 (fun k hk i r=>by
    have:=Fm.G2 hk
    rw [HI,Yd,X6,ih k hk (by omega),X6];rfl),X6]
   cases t.kids.any fun k=>Lg k x<;>rfl
  by_cases h1:t.kind=1
  ·rw [if_pos h1,Eu t (by omega)];simp only [Yd,X6,decide_eq_true h1,Bool.true_and]
   by_cases h2:t=x
   ·rw [decide_eq_true h2];rfl
   ·rw [decide_eq_false h2];simp only [Qq,if_false,Z1];exact rest
  ·rw [if_neg h1,decide_eq_false h1];simp only [Yd,X6,Qq,if_false,Bool.false_and,Z1];exact rest
inductive HB:Hit->Prop
 | mk {n:Fm} {d:Int} {o:Fm} {m:List Hit} (hn:n.sz<=100000) (h0:0<=d) (h1:d<=100000) (ho:LN 40 o) (hon:o.nodes<=400) (hm:m.length<=400) (hs:∀x∈m,HB x):HB (.mk n d o m)
theorem HB.out {h:Hit} (k:HB h):h.name.sz<=100000/\0<=h.depth/\h.depth<=100000/\LN 40 h.one/\h.one.nodes<=400/\h.many.length<=400/\∀x∈h.many,HB x:=by
 cases k;exact ⟨by assumption,by assumption,by assumption,by assumption,by assumption,by assumption,by assumption⟩
def HL (H:List Hit):Prop:=H.length<=400/\∀h∈H,HB h
theorem HL.hs {H:List Hit} (h:HL H):HS H:=⟨by have:=h.1;unfold Sm;omega,fun x hx=>by have:=(h.2 x hx).out;omega⟩
theorem Qf2 {t:Fm} (ht:t.sz<=1000000) {H:List Hit} (hH:HL H):Aj t H=some (Dc t H (-1)):=by
 have loop:∀(r:List Hit),(∀x∈r,x∈H)->∀(n:Int) (i:Nat),Tot (JV t H n i r) fun o=>match o with | .inl c=>c=Dc t r n | .inr c=>c=Dc t r n:=by
  intro r
  induction r with
  | nil=>intro _ n i;exact ⟨_,rfl,rfl⟩
  | cons h r ih =>
   intro hr n i;have hr':=fun x hx=>hr x (Kf h hx);rw [JV];simp only [Yd,X6]
   by_cases h0:h.depth=0
   ·rw [show Dc t (h :: r) n=Dc t r n by rw [Dc,if_pos (.inl h0)],if_pos h0];simp only [X6,if_true];exact ih hr' n (i+1)
   rw [if_neg h0,Qbx h.name t ht];simp only [X6];cases hu:Lg t h.name
   ·rw [show Dc t (h :: r) n=Dc t r n by rw [Dc,if_pos (.inr hu)]];simp only [ZR,if_true];exact ih hr' n (i+1)
   simp only [ZS,Qq,if_false]
   have hno:¬(h.depth=0∨Lg t h.name=false):=by simp [h0,hu]
   by_cases h1:n≥0
   ·rw [if_pos h1]
    by_cases h2:n=(h.many.length:Int)
    ·rw [show Dc t (h :: r) n=Dc t r h.many.length by rw [Dc,if_neg hno,if_neg (fun h=>h.2 h2)]];simp only [h2,decide_true,ZS,X6,Qq,if_false];exact ih hr' _ (i+1)
    ·rw [show Dc t (h :: r) n=-1 by rw [Dc,if_neg hno,if_pos ⟨h1,h2⟩]];simp only [h2,decide_false,ZR,X6,if_true];exact ⟨_,rfl,rfl⟩
   ·rw [show Dc t (h :: r) n=Dc t r h.many.length by rw [Dc,if_neg hno,if_neg (fun h=>h1 h.1)],if_neg h1];simp only [X6,Qq,if_false];exact ih hr' _ (i+1)
 rw [Aj,L4 _ _ _ (by have:=hH.1;omega)];obtain ⟨o,ho,hop⟩:=loop H (fun _ h=>h) (-1) 0;rw [ho,X6]
 cases o with
 | inl c=>simp only at hop;rw [hop];rfl
 | inr c=>simp only at hop;rw [hop];rfl
theorem Nf (t:Fm):∀(H:List Hit) (n:Int),(∀h∈H,0<=h.depth)->0<=Dc t H n->(n=Dc t H n∨n < 0)/\∀h∈H,0 < h.depth->Lg t h.name=true->(h.many.length:Int)=Dc t H n
 | [],n,_,h=>by rw [Dc] at *;exact ⟨.inl rfl,fun _ hh=>by cases hh⟩
 | h :: H,n,hd,hc=>by
  have hd':=fun x hx=>hd x (Kf h hx);have h0:=hd h (KB ..);rw [Dc] at *;split
  ·rename_i hs;rw [if_pos hs] at hc;obtain ⟨a,b⟩:=Nf t H n hd' hc;refine ⟨a,fun x hx hx1 hx2=>?_⟩
   rcases Kj.1 hx with rfl | hx
   ·rcases hs with hs | hs
    ·omega
    ·rw [hs] at hx2;cases hx2
   ·exact b x hx hx1 hx2
  ·rename_i hs;rw [if_neg hs] at hc;split
   ·rename_i h2;rw [if_pos h2] at hc;omega
   ·rename_i h2;rw [if_neg h2] at hc;obtain ⟨a,b⟩:=Nf t H _ hd' hc
    have e:(h.many.length:Int)=Dc t H h.many.length:=by rcases a with a | a<;>omega
    refine ⟨?_,fun x hx hx1 hx2=>?_⟩
    ·by_cases hn:n < 0
     ·exact .inr hn
     ·exact .inl (by
       have:n=(h.many.length:Int):=Classical.byContradiction fun hne=>h2 ⟨by omega,hne⟩
       omega)
    ·rcases Kj.1 hx with rfl | hx
     ·exact e
     ·exact b x hx hx1 hx2
theorem Qof {t:Fm} (ht:t.sz<=1000000) {H:List Hit} (hH:HL H) {n:Nat} (hn:(n:Int) < Dc t H (-1)):Bz t H n=some (Qbf t H n):=by
 have hall:=(Nf t H (-1) (fun h hh=>(hH.2 h hh).out.2.1) (by omega)).2
 rw [Bz,Om _ _ _ _ (by have:=hH.1;omega),G0 (Gp t H n) (Qog t n) (fun _ _=>rfl) H [] 0 (fun x hx z i r hz=>by
  rw [Gp];simp only [Yd,X6]
  have fin:∀y:Hit,(VL 192 z [Hit.mk (KR y.name.kind y.name.name y.name.num y.name.sc y.name.kids) y.depth (KR y.one.kind y.one.name y.one.num y.one.sc y.one.kids) y.many]>>=fun x38=>Gp t H n x38 (i+1) r)=Gp t H n (z++[y]) (i+1) r:=fun y=>by
   rw [Fm.eta,Fm.eta,Hit.eta,Yy (by simp;omega),X6]
  by_cases hd:x.depth > 0
  ·rw [if_pos hd,Qbx x.name t ht];simp only [X6];cases hu:Lg t x.name
   ·rw [show Qog t n x=x from if_neg (by simp [hu])];simp only [Qq,if_false,X6];exact fin x
   ·have hl:=hall x hx hd hu
    have hnl:n < x.many.length:=by omega
    rw [show Qog t n x=x.many[n] by unfold Qog;rw [if_pos ⟨hd,hu⟩,Vq hnl]];simp only [if_true,Yf _ n hnl,X6];exact fin x.many[n]
  ·rw [if_neg hd,show Qog t n x=x from if_neg (fun h=>hd h.1)];simp only [X6,Qq,if_false]
   exact fin x) (by have:=hH.1;simp;omega)]
 simp only [X6,Yd,QS];rfl
theorem HL.nth {t:Fm} {H:List Hit} (hH:HL H) {n:Nat} (hn:(n:Int) < Dc t H (-1)):HL (Qbf t H n):=by
 have hall:=(Nf t H (-1) (fun h hh=>(hH.2 h hh).out.2.1) (by omega)).2;refine ⟨by unfold Qbf;rw [ZH];exact hH.1,fun x hx=>?_⟩;unfold Qbf at hx;obtain ⟨y,hy,rfl⟩:=QX.1 hx;unfold Qog;split
 ·rename_i hc;have hl:=hall y hy hc.1 hc.2
  have hnl:n < y.many.length:=by omega
  rw [Vq hnl];exact (hH.2 y hy).out.2.2.2.2.2.2 _ (ZJ hnl)
 ·exact hH.2 y hy
theorem Uq (t:Fm):∀(H:List Hit) (n:Int),(∀h∈H,h.many.length<=400)->n<=400->Dc t H n<=400
 | [],n,_,h=>h
 | h :: H,n,hm,hn=>by
  have hm':=fun x hx=>hm x (Kf h hx);have:=hm h (KB ..);rw [Dc];split
  ·exact Uq t H n hm' hn
  ·split
   ·omega
   ·exact Uq t H _ hm' (by omega)
def FR (d:Nat) (o:Option Fm) (r:Fm × Bool):Prop:=match o with | some f=>r=(f,true)/\LN d f/\f.nodes<=401 | none=>r.2=false/\r.1.sz<=20000
theorem Qs5 (t:Fm) (H:List Hit):fl t H=match (if t.kind=1 then Qrg H t else none) with
  | some h=>if h.depth=0 then some h.one else none
  | none=>match flL t.kids H with
   | none=>none
   | some out=>if YV ZK out<=400 then some (.mk t.kind t.name t.num t.sc out) else none:=by cases t;rw [fl.eq_def];rfl
theorem Qnh (H:List Hit):flL [] H=some []:=by rw [flL.eq_def]
theorem Qjm (t : Fm) (ts : List Fm) (H : List Hit) : flL (t :: ts) H = if Y4 t = true then flL ts H
    else if Jn ts = true then
      (if Dc t H (-1) < 0 then none
       else match Ml (fun n => fl t (Qbf t H n)) (List.range (Dc t H (-1)).toNat) with
        | none => none
        | some ks => (flL ts H).map (ks ++ ·))
    else match fl t H with
      | none => none
      | some k => (flL ts H).map (k :: ·) := by
  conv => lhs; rw [flL.eq_def]
  rfl
theorem AZ {α:Type} (g:α->Nat) (a b:List α):YV g (a++b)=YV g a+YV g b:=Dt g a b
def FRL (d:Nat) (z:List Fm) (o:Option (List Fm)) (r:(Fm × Bool) ⊕ (List Fm)):Prop :=
 match o with
 | some ks=>if YV ZK (z++ks)<=400 then r=.inr (z++ks)/\∀k∈ks,LN d k else ∃x,r=.inl (x,false)/\x.sz<=20000
 | none=>∃x,r=.inl (x,false)/\x.sz<=20000
theorem Qcy:∀(d:Nat) (t:Fm),LN d t->t.sz<=20000->∀{H:List Hit},HL H->Tot (Ae t H) (FR (d+40) (fl t H)):=by
 intro d
 induction d with
 | zero=>intro t h;exact h.elim
 | succ d ih =>
  intro t hln ht H hH;have hz:=Fm.GX t;rw [Ae,Qs5]
  have rest:Tot ((VL 8 [] t.sc>>=fun x45=>(WJ t H x45 [] 0 0>>=fun o42=>match o42 with | .inl r=>pure r | .inr Qat=>(pure (KR t.kind t.name t.num x45 Qat,true)))):Option (Fm × Bool)) (FR (d+1+40) (match flL t.kids H with | none=>none | some out=>if YV ZK out<=400 then some (.mk t.kind t.name t.num t.sc out) else none)):=by
   rw [Yy (by simp;omega),X6,QS];have kidf:∀f∈t.kids,LN d f/\f.sz<=20000:=fun f hf=>⟨hln.2.2 f hf,by have:=Fm.G2 hf;omega⟩
   have loop:∀(r:List Fm) (i:Nat) (z:List Fm),t.kids.drop i=r->YV ZK z<=400->Tot (JG t H t.sc z ((YV ZK z:Nat):Int) i r) (FRL (d+40) z (flL r H)):=by
    intro r
    induction r with
    | nil=>intro i z _ hzz;rw [Qnh];refine ⟨_,rfl,?_⟩;unfold FRL;simp only;rw [if_pos (by simpa using hzz)];exact ⟨by simp,fun k hk=>by cases hk⟩
    | cons f r ihr =>
     intro i z hd hzz;have hd0:=hd
     have hi:i < t.kids.length:=by
      rcases Nat.lt_or_ge i t.kids.length with h | h
      ·exact h
      ·rw [Zx h] at hd;cases hd
     rw [Zw hi] at hd
     injection hd with e1 e2
     have hm:f∈t.kids:=e1▸ZJ hi;obtain ⟨hfl,hfz⟩:=kidf f hm;rw [JG,Qjm];simp only [Yd,X6,Cp];cases hq:Y4 f;rotate_left
     ·simp only [if_true];exact ihr (i+1) z e2 hzz
     simp only [Qq,if_false];have hnx:=R3 hd0 (by omega);simp only [Yd,X6,Cp] at hnx;rw [hnx];simp only [X6];have hzl:=WW z
     have inner:∀(row:Bool) (c:Nat),c<=400->(∀n:Nat,n < c->((if row=true then (idx t.kids (i:Int)>>=fun x96=>(Bz x96 H n>>=fun x100=>some x100)) else some H:Option (List Hit))=some (if row=true then Qbf f H n else H)/\HL (if row=true then Qbf f H n else H))) ->
       ∀(m k:Nat) (z:List Fm),k+m=c->YV ZK z<=400->Tot (WK t H t.sc (i:Int) row (c:Int) z (k:Int) ((YV ZK z:Nat):Int)) fun o=>match Ml (fun n=>fl f (if row=true then Qbf f H n else H)) (Xc k m) with
        | some ks=>if YV ZK (z++ks)<=400 then o=.inr (z++ks,((YV ZK (z++ks):Nat):Int))/\∀x∈ks,LN (d+40) x else ∃x,o=.inl (x,false)/\x.sz<=20000
        | none=>∃x,o=.inl (x,false)/\x.sz<=20000:=by
      intro row c hc hn m
      induction m with
      | zero =>
       intro k z hk hzz;rw [WK,if_neg (by omega)];refine ⟨_,rfl,?_⟩;rw [show Xc k 0=[] from rfl,Ml];simp only [List.append_nil];rw [if_pos hzz];exact ⟨by simp,fun x hx=>by cases hx⟩
      | succ m ihm =>
       intro k z hk hzz;have hzl:=WW z;obtain ⟨q1,q2⟩:=hn k (by omega);rw [WK,if_pos (by omega)];simp only [Yd];rw [q1];simp only [X6,Yf _ i hi,e1];obtain ⟨r,hr,hfr⟩:=ih f hfl hfz q2;rw [hr];simp only [X6];rw [List.range'_succ,Ml]
       have hsz:r.1.sz < 1000000000:=by
        cases hf:fl f (if row=true then Qbf f H k else H) with
        | none=>rw [hf] at hfr;have:=hfr.2;omega
        | some g=>rw [hf] at hfr;have h1:=hfr.1;have h2:=LN.sz _ _ hfr.2.1;have:=hfr.2.2;rw [h1];show g.sz < _;omega
       rw [U8 _ hsz];simp only [X6]
       cases hf:fl f (if row=true then Qbf f H k else H) with
       | none =>
        rw [hf] at hfr;have:r.2=false:=hfr.1;rw [this];simp only [ZR,Bool.true_or,if_true];exact ⟨_,rfl,t,rfl,ht⟩
       | some g =>
        rw [hf] at hfr;obtain ⟨h1,h2,h3⟩:=hfr;subst h1;simp only [ZS,Z1];have hgz:=A7 g;rw [Yz (by omega) (by omega)]
        have e3:YV ZK (z++[g])=YV ZK z+g.nodes:=by rw [AZ];simp [YV]
        by_cases hbig:((YV ZK z:Nat):Int)+(g.nodes:Int) > 400
        ·rw [decide_eq_true hbig];simp only [if_true];refine ⟨_,rfl,?_⟩
         cases hall:Ml (fun n=>fl f (if row=true then Qbf f H n else H)) (Xc (k+1) m) with
         | none=>exact ⟨t,rfl,ht⟩
         | some ks =>
          simp only [Qu];rw [if_neg (by rw [AZ,YV];omega)];exact ⟨t,rfl,ht⟩
        ·rw [decide_eq_false hbig];simp only [Qq,if_false];rw [Yy (by simp;omega)];simp only [X6];rw [Wn (i:=k) (by omega),show ((YV ZK z:Nat):Int)+(g.nodes:Int)=((YV ZK (z++[g]):Nat):Int) by rw [e3];omega];obtain ⟨o,ho,hop⟩:=ihm (k+1) (z++[g]) (by omega) (by omega);refine ⟨o,ho,?_⟩
         cases hall:Ml (fun n=>fl f (if row=true then Qbf f H n else H)) (Xc (k+1) m) with
         | none=>rw [hall] at hop;exact hop
         | some ks =>
          rw [hall] at hop;simp only [Qu,QD,List.singleton_append] at hop ⊢;split
          ·rename_i hle;rw [if_pos hle] at hop
           exact ⟨hop.1,fun x hx=>by
            rcases Kj.1 hx with rfl | hx
            ·exact h2
            ·exact hop.2 x hx⟩
          ·rename_i hle;rw [if_neg hle] at hop;exact hop
     have after:∀(row:Bool) (c:Nat) (ks?:Option (List Fm)),(Tot (WK t H t.sc (i:Int) row (c:Int) z 0 ((YV ZK z:Nat):Int)) fun o=>match ks? with
        | some ks=>if YV ZK (z++ks)<=400 then o=.inr (z++ks,((YV ZK (z++ks):Nat):Int))/\∀x∈ks,LN (d+40) x else ∃x,o=.inl (x,false)/\x.sz<=20000
        | none=>∃x,o=.inl (x,false)/\x.sz<=20000) ->
       Tot ((WK t H t.sc (i:Int) row (c:Int) z 0 ((YV ZK z:Nat):Int)>>=fun o37=>match o37 with | .inl r=>some (Sum.inl r) | .inr (EK,NR)=>(JG t H t.sc EK NR (i+1) r)):Option ((Fm × Bool) ⊕ (List Fm))) (FRL (d+40) z (match ks? with | none=>none | some ks=>(flL r H).map (ks ++ ·))):=fun row c ks? h=>by
      obtain ⟨o,ho,hop⟩:=h;rw [ho,X6]
      cases ks? with
      | none=>obtain ⟨x,rfl,hx⟩:=hop;exact ⟨_,rfl,x,rfl,hx⟩
      | some ks =>
       simp only at hop ⊢;split at hop
       ·rename_i hle;obtain ⟨rfl,hks⟩:=hop
        simp only
        obtain ⟨o2,ho2,hop2⟩:=ihr (i+1) (z++ks) e2 hle;refine ⟨o2,ho2,?_⟩
        cases hfr:flL r H with
        | none=>rw [hfr] at hop2;exact hop2
        | some ks2 =>
         rw [hfr] at hop2;unfold FRL at hop2 ⊢;simp only [Qu,QD] at hop2 ⊢;split
         ·rename_i hle2;rw [if_pos hle2] at hop2
          exact ⟨hop2.1,fun x hx=>by
           rcases QR.1 hx with hx | hx
           ·exact hks x hx
           ·exact hop2.2 x hx⟩
         ·rename_i hle2;rw [if_neg hle2] at hop2;exact hop2
       ·rename_i hle;obtain ⟨x,rfl,hx⟩:=hop;refine ⟨_,rfl,?_⟩
        cases hfr:flL r H with
        | none=>exact ⟨x,rfl,hx⟩
        | some ks2 =>
         unfold FRL;simp only [Qu];rw [if_neg (by rw [← QD,AZ];omega)];exact ⟨x,rfl,hx⟩
     cases hhd:Jn r
     ·simp only [Qq,if_false,X6];rw [if_neg (by omega)];have h1:=inner false 1 (by omega) (fun n _=>⟨by simp,by simpa using hH⟩) 1 0 z rfl hzz
      have e4:Ml (fun n=>fl f (if false=true then Qbf f H n else H)) (Xc 0 1)=(fl f H).map (fun k=>[k]):=by
       show Ml _ [0]=_;rw [Ml];simp only [Qq,if_false];cases fl f H<;>rfl
      rw [e4] at h1;have:=after false 1 _ h1;rw [show ((1:Nat):Int)=1 from rfl] at this;refine this.mono fun o ho=>?_
      cases hf:fl f H with
      | none=>rw [hf] at ho;exact ho
      | some k=>rw [hf] at ho;exact ho
     ·simp only [if_true];rw [Qf2 (by omega) hH];simp only [X6]
      by_cases hc0:Dc f H (-1) < 0
      ·rw [if_pos hc0,if_pos hc0];exact ⟨_,rfl,t,rfl,ht⟩
      rw [if_neg hc0,if_neg hc0];have hcl:=Uq f H (-1) (fun h hh=>(hH.2 h hh).out.2.2.2.2.2.1) (by omega)
      have ec:((Dc f H (-1)).toNat:Int)=Dc f H (-1):=by omega
      have h1:=inner true (Dc f H (-1)).toNat (by omega) (fun n hn=>by
       simp only [if_true];refine ⟨?_,hH.nth (by omega)⟩
       rw [Yf _ i hi,X6,e1,Qof (by omega) hH (by omega),X6]) (Dc f H (-1)).toNat 0 z (by omega) hzz
      have:=after true (Dc f H (-1)).toNat _ h1;rw [ec] at this;simp only [if_true] at this;rw [List.range_eq_range'];exact this
   rw [MX _ _ _ _ _ (by omega)];obtain ⟨o,ho,hop⟩:=loop t.kids 0 [] (List.drop_zero ..) (by simp [YV]);rw [show ((YV ZK ([]:List Fm):Nat):Int)=0 from rfl] at ho;rw [ho,X6]
   cases hfl:flL t.kids H with
   | none=>rw [hfl] at hop;obtain ⟨x,rfl,hx⟩:=hop;exact ⟨_,rfl,rfl,hx⟩
   | some out =>
    rw [hfl] at hop;unfold FRL at hop;simp only [QS] at hop ⊢;split at hop
    ·rename_i hle;obtain ⟨rfl,hk⟩:=hop;rw [if_pos hle];refine ⟨_,rfl,rfl,⟨hln.1,hln.2.1,fun k hk'=>?_⟩,?_⟩
     ·exact LN.mono _ _ _ (hk k hk') (by omega)
     ·rw [Fm.YA];show 1+YV ZK out<=401;omega
    ·rename_i hle;obtain ⟨x,rfl,hx⟩:=hop;rw [if_neg hle];exact ⟨_,rfl,rfl,hx⟩
  by_cases h1:t.kind=1
  ·rw [if_pos h1,if_pos h1]
   rcases P2 hH.hs t with ⟨j,hj,h2,h3⟩ | ⟨h2,h3⟩
   ·rw [h2,h3];have hb:=(hH.2 _ (ZJ hj)).out;have hs:=LN.sz _ _ hb.2.2.2.1;simp only [Yd,X6];rw [if_pos (by omega),Yf _ j hj];simp only [X6];rw [Lo _ (by omega)];simp only [X6]
    by_cases h0:H[j].depth=0
    ·rw [decide_eq_true h0,if_pos h0];exact ⟨_,rfl,rfl,LN.mono _ _ _ hb.2.2.2.1 (by omega),by omega⟩
    ·rw [decide_eq_false h0,if_neg h0];exact ⟨_,rfl,rfl,by show H[j].one.sz<=_;omega⟩
   ·rw [h2,h3];simp only [Yd,X6];rw [if_neg (by omega)];exact rest
  ·rw [if_neg h1,if_neg h1];simp only [Yd,X6];rw [if_neg (by omega)];exact rest
end Go.Proofs.SA
namespace Go.Proofs.SA
theorem Qt2 (B:List Bnd) (ls:List Fm):∀(d:Nat) (p:Fm),FIs d p->Y4 p=false->p.sz<=100000->p.nodes<=400->∀(f:Fm),FV f->∀hs,pm B ls p f=some hs->∀h∈hs,HB h:=by
 intro d
 induction d with
 | zero=>intro p h;exact h.elim
 | succ d ih =>
  intro p h hdt hpz hpn f hf hs e;have hzp:=Fm.GX p;have hnp:=Fm.YA p
  have hL:∀(ps:List Fm),(∀q∈ps,q∈p.kids/\FIs d q)->∀(fs:List Fm),(∀g∈fs,FV g)->fs.length<=400->∀(n:Nat) (hs:List Hit),pmL B ls ps fs n=some hs->∀h∈hs,HB h:=by
   intro ps
   induction ps with
   | nil=>intro _ fs _ _ n hs e h hh;rw [UM] at e;injection e with e;subst e;cases hh
   | cons q ps ihp =>
    intro hq fs hfs hfl n hs e;have hq':=fun x hx=>hq x (Kf q hx);have hqm:=(hq q (KB ..));have hqz:=Fm.G2 hqm.1;have hqn:=I1 hqm.1;rw [R5] at e
    by_cases hd:Y4 q=true
    ·rw [if_pos hd] at e;exact ihp hq' fs hfs hfl n hs e
    ·rw [if_neg hd] at e
     have hd':Y4 q=false:=by simpa using hd
     by_cases hh:Jn ps=true
     ·rw [if_pos hh] at e;split at e
      ·cases e
      ·rename_i rows hrows;obtain ⟨hs2,h2,h3⟩:=Qx.1 e;subst h3;intro h hh
       rcases QR.1 hh with hh | hh
       ·unfold Ql9 at hh;obtain ⟨i,hi,rfl⟩:=QX.1 hh
        have hi':i < (vrs ls q).length:=by simpa using hi
        have hid:i < (dps ls 0 q).length:=by rw [← OI];exact hi'
        have hge:=Qf8 ls q 0 _ (ZJ hid);have hvs:=U0 ls q _ (ZJ hi');have hrl:=Rz hrows;rw [List.length_take] at hrl;rw [Vq hi',Vq hid];have z:Fm.zero.name.size=0:=rfl;refine .mk (by omega) (by omega) (by omega) ⟨by rw [z];omega,by show 0<=24;omega,fun k hk=>by cases hk⟩ (by decide) (by rw [ZH];omega) fun x hx=>?_;obtain ⟨r,hr,rfl⟩:=QX.1 hx;obtain ⟨g,hg,hg2⟩:=RA hrows r hr;have hl:=Qbl B ls d q hqm.2 hd' g r hg2
        have hil:i < r.length:=by omega
        rw [Vq hil];exact ih q hqm.2 hd' (by omega) (by omega) g (hfs g (List.mem_of_mem_take hg)) r hg2 _ (ZJ hil)
       ·exact ihp hq' _ (fun g hg=>hfs g (QA hg)) (by rw [Xd];omega) _ _ h2 h hh
     ·rw [if_neg hh] at e;split at e
      ·cases e
      ·rename_i f' fs';split at e
       ·cases e
       ·rename_i hs1 h1;obtain ⟨hs2,h2,h3⟩:=Qx.1 e;subst h3;intro h hh
        rcases QR.1 hh with hh | hh
        ·exact ih q hqm.2 hd' (by omega) (by omega) _ (hfs _ (KB ..)) _ h1 h hh
        ·exact ihp hq' _ (fun g hg=>hfs g (Kf _ hg)) (by simp at hfl;omega) _ _ h2 h hh
  rw [Qop] at e;split at e
  ·split at e
   ·injection e with e;subst e;intro h hh;cases hh
   ·split at e
    ·split at e
     ·injection e with e;subst e;intro h hh;cases hh
     ·cases e
    ·injection e with e;subst e
     intro h hh;rw [ZF.1 hh];exact .mk hpz (Xe _) (by omega) hf.ln hf.2 (by simp) (fun x hx=>by cases hx)
  ·split at e
   ·split at e
    ·injection e with e;subst e;intro h hh;cases hh
    ·cases e
   ·rename_i k1 k2;have hkids:∀q∈p.kids,q∈p.kids/\FIs d q:=fun q hq=>⟨hq,h.kid hq⟩;have hfk:∀g∈f.kids,FV g:=fun g hg=>hf.kid hg;have hfl:=hf.LF;split at e
    ·split at e
     ·split at e
      ·cases e
      ·exact hL _ hkids _ hfk (by omega) _ _ e
     ·split at e
      ·exact hL _ hkids _ hfk (by omega) _ _ e
      ·cases e
    ·cases e
theorem Qhs {p:Fm} (h:Qhr p=true):Y4 p=false:=by
 cases hd:Y4 p
 ·rfl
 ·rw [Sh,if_pos hd] at h;cases h
theorem Qt3 {B:List Bnd} {ls:List Fm} {p f:Fm} (hp:Qmg ls p) (hf:FV f) {hs:List Hit} (e:pm B ls p f=some hs):HL hs:=by
 have hd:=Qhs hp.2.2.1;have hz:=hp.1.sz;have hn:=hp.1.2;refine ⟨?_,Qt2 B ls 40 p hp.1.1 hd (by omega) hn f hf hs e⟩;rw [Qbl B ls 40 p hp.1.1 hd f hs e];have:=CE ls p;omega
open Classical in
noncomputable def FP (B:List Bnd) (ls:List Fm) (rs:List Rul) (f:Fm):Option Nat :=
 if BV B/\Nz ls rs/\FV f then rs.findIdx? (fun r=>(pm B ls r.pat f).isSome) else none
open Classical in
noncomputable def Qfo (B:List Bnd) (ls:List Fm) (rs:List Rul) (f:Fm):Option Fm :=
 match FP B ls rs f with
 | none=>none
 | some j=>match pm B ls (rs.getD j ⟨default,default⟩).pat f with
  | none=>none
  | some hs=>match fl (rs.getD j ⟨default,default⟩).tpl hs with
   | none=>none
   | some g=>if FV g then some g else none
theorem Uy {B:List Bnd} {ls:List Fm} {rs:List Rul} {f:Fm} {j:Nat} (h:FP B ls rs f=some j):BV B/\Nz ls rs/\FV f/\∃hj:j < rs.length,∃hs,pm B ls rs[j].pat f=some hs:=by
 unfold FP at h;split at h
 ·rename_i hc;obtain ⟨hj,h1,_⟩:=Xb.1 h;exact ⟨hc.1,hc.2.1,hc.2.2,hj,Option.isSome_iff_exists.1 h1⟩
 ·cases h
theorem NU {B:List Bnd} (hB:BS B) {ls:List Fm} (hls:FS ls) {rs:List Rul} (hrs:RS rs) {f:Fm} (hf:f.sz<=100000):Tot (Ik B rs ls f) fun r=>match FP B ls rs f with | some j=>r=((j:Int),true) | none=>r.2=false:=by
 rw [Ik]
 have bad:¬(BV B/\Nz ls rs/\FV f)->Tot (some (0,false):Option (Int × Bool)) fun r=>match FP B ls rs f with | some j=>r=((j:Int),true) | none=>r.2=false:=fun h=>⟨_,rfl,by unfold FP;rw [if_neg h]⟩
 refine Zz (BA hB) fun b hb=>?_;cases b
 ·simp only [ZR,if_true,Yd,X6]
  exact bad fun h=>by have:=hb.2 h.1;cases this
 simp only [ZS,Qq,if_false];obtain ⟨b2,e2,hb2⟩:=N6 hls hrs;rw [e2];simp only [Yd,X6];cases b2
 ·simp only [ZR,if_true,Yd,X6]
  exact bad fun h=>by have:=hb2.2 h.2.1;cases this
 simp only [ZS,Qq,if_false];obtain ⟨b3,e3,hb3⟩:=I9 (f:=f) (by omega);rw [e3];simp only [Yd,X6];cases b3
 ·simp only [ZR,if_true]
  exact bad fun h=>by have:=hb3.2 h.2.2;cases this
 simp only [ZS,Qq,if_false];have hro:=hb2.1 rfl;have hfv:=hb3.1 rfl;rw [Fg _ _ _ _ (by have:=hrs.1;omega)]
 have e:FP B ls rs f=rs.findIdx? (fun r=>(pm B ls r.pat f).isSome):=by unfold FP;rw [if_pos ⟨hb.1 rfl,hro,hfv⟩]
 rw [e]
 have key:∀(l:List Rul) (i:Nat),(∀r∈l,∀i r2,V4 B rs ls f i (r :: r2)=if (pm B ls r.pat f).isSome=true then some (.inl ((i:Int),true)) else V4 B rs ls f (i+1) r2)->V4 B rs ls f i l=some (match l.findIdx? (fun r=>(pm B ls r.pat f).isSome) with | some j=>.inl (((i+j:Nat):Int),true) | none=>.inr ()):=by
  intro l
  induction l with
  | nil=>intro i _;rfl
  | cons r l ih =>
   intro i hc;rw [hc r (KB ..),Xf];cases (pm B ls r.pat f).isSome
   ·rw [if_neg (by simp),ih (i+1) (fun y hy=>hc y (Kf _ hy))]
    cases l.findIdx? (fun r=>(pm B ls r.pat f).isSome) with
    | none=>rfl
    | some j=>simp only [Qq,if_false,Qu];congr 4;omega
   ·rfl
 rw [key rs 0 (fun r hr i r2=>by
  have hp:=(hro.2.1 r hr).1;obtain ⟨x,hx,hmr⟩:=P3 hB hls 40 r.pat hp.1.1 (by have:=hp.1.sz;omega) hp.1.2 hp.2.2.1 f (by have:=hfv.sz;omega);rw [V4];simp only [Yd,X6];rw [hx];simp only [X6]
  cases hpm:pm B ls r.pat f with
  | none=>rw [hpm] at hmr;have:x.2=false:=hmr;rw [this];rfl
  | some hs=>rw [hpm] at hmr;have:x=(hs,true):=hmr;rw [this];rfl),X6]
 cases rs.findIdx? (fun r=>(pm B ls r.pat f).isSome) with
 | none=>exact ⟨_,rfl,rfl⟩
 | some j=>exact ⟨_,rfl,by simp⟩
theorem Uh {B:List Bnd} (hB:BS B) {ls:List Fm} (hls:FS ls) {rs:List Rul} (hrs:RS rs) (hrl:rs.length<=1000000) {f:Fm} (hf:f.sz<=100000):Tot (Ix B rs ls f) fun r=>match Qfo B ls rs f with | some g=>r=(g,true)/\FV g | none=>r.2=false:=by
 rw [Ix,UI rs hrs hrl,X6];obtain ⟨x,hx,hx2⟩:=NU hB hls hrs hf;rw [hx,X6];unfold Qfo
 cases hfst:FP B ls rs f with
 | none =>
  rw [hfst] at hx2;simp only at hx2;rw [hx2];simp only [ZR,if_true];exact ⟨_,rfl,rfl⟩
 | some j =>
  rw [hfst] at hx2;simp only at hx2;subst hx2;obtain ⟨hBV,hro,hfv,hj,hs,hpm⟩:=Uy hfst;have hru:=hro.2.1 _ (ZJ hj);have hp:=hru.1;obtain ⟨y,hy,hmr⟩:=P3 hB hls 40 rs[j].pat hp.1.1 (by have:=hp.1.sz;omega) hp.1.2 hp.2.2.1 f (by have:=hfv.sz;omega);rw [hpm] at hmr;have:y=(hs,true):=hmr;subst this;simp only [Vq hj,hpm,ZS,Qq,if_false,Yf rs j hj,X6,hy];have htp:=hru.2.2.2.1;obtain ⟨z,hz,hfr⟩:=Qcy 40 rs[j].tpl htp.ln (by have:=htp.sz;omega) (Qt3 hp hfv hpm);rw [hz];simp only [X6]
  cases hfl:fl rs[j].tpl hs with
  | none =>
   rw [hfl] at hfr;have:z.2=false:=hfr.1;rw [this];simp only [ZR,if_true,Yd,X6];exact ⟨_,rfl,rfl⟩
  | some g =>
   rw [hfl] at hfr;obtain ⟨h1,h2,h3⟩:=hfr;subst h1;have:=LN.sz _ _ h2;simp only [ZS,Qq,if_false];obtain ⟨b3,e3,hb3⟩:=I9 (f:=g) (by omega);rw [e3];simp only [Yd,X6];cases b3
   ·simp only [ZR,if_true];exact ⟨_,rfl,by rw [if_neg (fun h=>by have:=hb3.2 h;cases this)]⟩
   ·simp only [ZS,Qq,if_false];exact ⟨_,rfl,by rw [if_pos (hb3.1 rfl)];exact ⟨rfl,hb3.1 rfl⟩⟩
end Go.Proofs.SA
namespace Go.Proofs.Shadow
mutual
def Cor.nodes:Cor->Nat
 | .mk _ _ _ _ _ _ ks=>1+Cor.Ax ks
def Cor.Ax:List Cor->Nat
 | []=>0
 | f :: fs=>f.nodes+Cor.Ax fs
end
theorem Cor.Iv:∀ks,Cor.Ax ks=YV Cor.nodes ks
 | []=>rfl
 | f :: fs=>by rw [Cor.Ax,YV,Cor.Iv fs]
theorem Cor.YA (c:Cor):c.nodes=1+YV Cor.nodes c.kids:=by cases c;rw [Cor.nodes,Cor.Iv];rfl
instance:Inhabited Mac:=⟨⟨0,[],[]⟩⟩
def Qbb (l:List Mac) (id:Int):Int:=match l.findIdx? (fun m=>decide (m.id=id)) with | some j=>(j:Int) | none=>-1
def Ph (x:Xpn) (n:Fm):Int × Int :=
 if (findF x.binds n).2=0 then (0,0) else if (findF x.binds n).2=2 then (4,0)
 else if (x.binds.getD (findF x.binds n).1.toNat default).id<=5 then (1,(x.binds.getD (findF x.binds n).1.toNat default).id)
 else if Qbb x.macs (x.binds.getD (findF x.binds n).1.toNat default).id≥0 then (2,(x.binds.getD (findF x.binds n).1.toNat default).id)
 else (3,(x.binds.getD (findF x.binds n).1.toNat default).id)
theorem Qoa {l:List Mac} {id:Int} (h:Qbb l id≥0):Qbb l id < l.length/\(l.getD (Qbb l id).toNat default).id=id:=by
 unfold Qbb at *
 cases hf:l.findIdx? (fun m=>decide (m.id=id)) with
 | none=>rw [hf] at h;simp at h
 | some j =>
  obtain ⟨hj,h1,_⟩:=Xb.1 hf;simp only [Int.toNat_natCast];refine ⟨by omega,?_⟩;rw [List.getD_eq_getElem?_getD,List.getElem?_eq_getElem hj];simpa using h1
theorem Qhd {x:Xpn} {n:Fm} (h:(Ph x n).1=2):Qbb x.macs (Ph x n).2≥0:=by
 unfold Ph at *;split at h
 ·cases h
 ·rename_i h1;rw [if_neg h1];split at h
  ·cases h
  ·rename_i h2;rw [if_neg h2];split at h
   ·cases h
   ·rename_i h3;rw [if_neg h3];split at h
    ·rename_i h4;rw [if_pos h4];exact h4
    ·cases h
end Go.Proofs.Shadow
namespace Go.Proofs.SA
theorem Qhc (x:Xpn) (id:Int) (h:Sm x.macs.length):Am x id=some (Qbb x.macs id):=by
 have key:∀(l:List Mac) (i:Nat),G8 x id i l=some (match l.findIdx? (fun m=>decide (m.id=id)) with | some j=>.inl ((i+j:Nat):Int) | none=>.inr ()):=by
  intro l
  induction l with
  | nil=>intro i;rfl
  | cons m l ih =>
   intro i;rw [G8,Yd,X6,Xf]
   by_cases hm:m.id=id
   ·rw [if_pos hm,decide_eq_true hm];rfl
   ·rw [if_neg hm,decide_eq_false hm,ih]
    cases l.findIdx? (fun m=>decide (m.id=id)) with
    | none=>rfl
    | some j=>simp only [Qq,if_false,Qu];congr 3;omega
 rw [Am,Ma _ _ (by omega),key x.macs 0,X6,Qbb]
 cases x.macs.findIdx? (fun m=>decide (m.id=id)) with
 | none=>rfl
 | some j=>simp only [Nat.zero_add];rfl
theorem Qng (l:List Bnd) (n:Fm):(findF l n).2=0∨(findF l n).2=1∨(findF l n).2=2:=by
 unfold findF;split
 ·exact .inr (.inl rfl)
 ·split
  ·exact .inl rfl
  ·exact .inr (.inr rfl)
theorem Qbd (x:Xpn) (n:Fm) (h:BS x.binds) (hn:Sm n.sc.length) (hm:Sm x.macs.length):Ir x n=some (Ph x n):=by
 rw [Ir,RQ x.binds n h hn,X6,Ph]
 by_cases h0:(findF x.binds n).2=0
 ·rw [if_pos h0,if_pos h0];rfl
 rw [if_neg h0,if_neg h0]
 by_cases h2:(findF x.binds n).2=2
 ·rw [if_pos h2,if_pos h2];rfl
 have h1:(findF x.binds n).2=1:=by have:=Qng x.binds n;omega
 have hr:=E1 h1;rw [if_neg h2,if_neg h2,Er (l:=x.binds) hr.1 hr.2,X6]
 by_cases h3:(x.binds.getD (findF x.binds n).1.toNat default).id<=5
 ·rw [if_pos h3,if_pos h3];rfl
 ·rw [if_neg h3,if_neg h3,Qhc x _ hm,X6]
  by_cases h4:Qbb x.macs (x.binds.getD (findF x.binds n).1.toNat default).id≥0
  ·rw [if_pos h4,if_pos h4];rfl
  ·rw [if_neg h4,if_neg h4];rfl
def MS (m:Mac):Prop:=FS m.lits/\RS m.rules/\m.rules.length<=400
structure XI (x:Xpn):Prop where
 b:BV x.binds
 m:(x.macs.length:Int)+10<=x.id
 i:x.id<=999
 s0:0<=x.scope
 s1:x.scope<=99
 t0:0<=x.steps
 t1:x.steps<=60
 mm:∀m∈x.macs,MS m
theorem XI.sm {x:Xpn} (h:XI x):Sm x.macs.length:=by have:=h.m;have:=h.i;unfold Sm;omega
inductive TW:Cor->Prop
 | mk {k i:Int} {s:ByteArray} {n:Int} {l:List Int} {d:Fm} {ks:List Cor} (hs:s.size<=12) (hl:l.length<=400) (hd:LN 40 d) (hn:d.nodes<=400) (hk:ks.length<=400) (h:∀x∈ks,TW x):TW (.mk k i s n l d ks)
theorem Qsq:LN 40 (KR 0 (Qk #[]) 0 [] [])/\(KR 0 (Qk #[]) 0 [] []).nodes<=400:=by
 have z:(KR 0 (Qk #[]) 0 [] []).name.size=0:=rfl;exact ⟨⟨by rw [z];omega,by show 0<=24;omega,fun k hk=>by cases hk⟩,by decide⟩
theorem SW (k i:Int) (s:ByteArray) (hs:s.size<=12) (n:Int) (l:List Int) (hl:l.length<=400) (ks:List Cor) (hk:ks.length<=400) (h:∀x∈ks,TW x):TW (.mk k i s n l (KR 0 (Qk #[]) 0 [] []) ks):=.mk hs hl Qsq.1 Qsq.2 hk h
theorem e0:(Qk #[]).size<=12:=by decide
def P7 (x:Xpn) (n:Nat) (r:Xpn × Cor × Int):Prop:=r.2.2=0->XI r.1/\x.steps<=r.1.steps/\TW r.2.1/\(r.2.1.nodes:Int)<=n+400 * (r.1.steps - x.steps)
theorem P7.bad {x y:Xpn} {n:Nat} {c:Cor} {e:Int} (h:e≠0):P7 x n (y,c,e):=fun h2=>absurd h2 h
theorem FV.smc {f:Fm} (h:FV f):Sm f.sc.length:=by have:=h.sz;have:=Fm.TJ f;unfold Sm;omega
theorem Qc7 {x:Xpn} (hx:XI x) {f:Fm} (hf:FV f):Tot (BW x f) (P7 x 1):=by
 have hn:f.name.size<=12:=hf.ln.1;rw [BW,Qbd x f hx.b.bs hf.smc hx.sm,X6];split
 ·exact ⟨_,rfl,fun _=>⟨hx,Xe _,SW _ _ _ hn _ _ (by simp) _ (by simp) (by simp),by simp [Cor.YA,Cor.kids,YV]⟩⟩
 ·split
  ·exact ⟨_,rfl,fun _=>⟨hx,Xe _,SW _ _ _ e0 _ _ (by simp) _ (by simp) (by simp),by simp [Cor.YA,Cor.kids,YV]⟩⟩
  ·split
   ·exact ⟨_,rfl,.bad (by decide)⟩
   ·exact ⟨_,rfl,.bad (by decide)⟩
theorem P0 {x:Xpn} (hx:XI x) {f:Fm} (hf:f.sz < 1000000):Tot (IE x f) fun r=>r.2=0->r.1=⟨x.binds++[⟨f.name,f.sc,x.id+1⟩],x.macs,x.scope,x.id+1,x.steps⟩/\BV r.1.binds/\r.1.id<=999:=by
 have hi:=hx.i;have hm:=hx.m;rw [IE];split
 ·exact ⟨_,rfl,fun h=>by cases h⟩
 ·rw [Yz (by omega) (by omega)];have hbl:=hx.b.1;refine Zz (SG hx.b.bs (by omega) (by omega) _) fun r hr=>?_
  rcases hr with ⟨h1,h2,h3,h4,h5,h6⟩ | ⟨h1,_,_⟩
  ·rw [h1];simp only [ZS,Qq,if_false];refine ⟨_,rfl,fun _=>⟨by rw [h2],by rw [h2];exact h6,?_⟩⟩;have:=(h6.2.1 _ (List.mem_append_right _ (ZF.2 rfl))).2.2.2;exact this
  ·rw [h1];simp only [ZR,if_true];exact ⟨_,rfl,fun h=>by cases h⟩
theorem Db {f:Fm} (h:FV f) (s w:Int):(chg s w f).sz<=16000:=by have:=Qp6 s w f;have:=h.sz;have:=h.2;omega
theorem Qnu {names:List Fm} (hn:∀n∈names,FV n) (hl:names.length<=400) (body:Fm) (b:Int):∀(r:List Fm) (i:Nat) (x:Xpn) (z:List Int),XI x->(∀n∈r,FV n)->z.length+r.length<=400 ->
  Tot (Hr names body b x.binds x.macs x.scope x.id x.steps z i r) fun o=>match o with
   | .inl q=>q.2.2≠0
   | .inr (q0,q1,q2,q3,q4,z')=>XI ⟨q0,q1,q2,q3,q4⟩/\q4=x.steps/\z'.length=z.length+r.length/\q2=x.scope:=by
 intro r
 induction r with
 | nil=>intro i x z hx _ _;rw [Hr];exact ⟨_,rfl,hx,rfl,by simp,rfl⟩
 | cons n r ih =>
  intro i x z hx hr hz;simp only [ZD] at hz;have hfn:=hr n (KB ..);rw [Hr,Yd,X6]
  by_cases hk:n.kind=1
  rotate_left
  ·rw [if_neg hk];exact ⟨_,rfl,fun h=>by simp at h⟩
  have hcs:=Db hfn x.scope 0;rw [if_pos hk,X6,BB _ _ n (by have:=hfn.sz;omega),X6];refine Zz (I9 (by omega)) fun b1 hb1=>?_;cases b1
  ·simp only [ZR,if_true];exact ⟨_,rfl,fun h=>by simp at h⟩
  simp only [ZS,Qq,if_false];refine Zz (P0 hx (f:=chg x.scope 0 n) (by omega)) fun q hq=>?_
  by_cases h0:q.2=0
  ·rw [if_pos h0];obtain ⟨h1,h2,h3⟩:=hq h0;rw [Yy (by simp;omega),X6]
   have hx2:XI q.1:=by
    rw [h1] at h2 h3 ⊢;have:=hx.m;exact ⟨h2,by show (x.macs.length:Int)+10<=x.id+1;omega,h3,hx.s0,hx.s1,hx.t0,hx.t1,hx.mm⟩
   refine (ih (i+1) q.1 (z++[q.1.id]) hx2 (fun y hy=>hr y (Kf _ hy)) (by simp;omega)).mono fun o ho=>?_
   cases o with
   | inl q2=>exact ho
   | inr q2 =>
    obtain ⟨a1,a2,a3,a4⟩:=ho;refine ⟨a1,?_,?_,?_⟩
    ·rw [a2,h1]
    ·rw [a3];simp;omega
    ·rw [a4,h1]
  ·rw [if_neg h0];exact ⟨_,rfl,h0⟩
theorem Qho {x:Xpn} (hx:XI x):IF x=some (⟨x.binds,x.macs,x.scope+1,x.id,x.steps⟩,decide (x.scope+1<=99)):=by
 have:=hx.s0;have:=hx.s1;rw [IF,Yz (by omega) (by omega)];rfl
theorem XI.scope {x:Xpn} (hx:XI x) (h:x.scope+1<=99):XI ⟨x.binds,x.macs,x.scope+1,x.id,x.steps⟩:=⟨hx.b,hx.m,hx.i,by have:=hx.s0;show 0<=x.scope+1;omega,h,hx.t0,hx.t1,hx.mm⟩
theorem Qgv {b s0:Int} {body:Fm} (hb:FV body) (hE:∀x f,XI x->s0<=x.steps->FV f->f.nodes=body.nodes->Tot (Vc x f b) (P7 x f.nodes)) {names:List Fm} (hn:∀n∈names,FV n) (hl:names.length<=400) {x:Xpn} (hx:XI x) (hs:s0<=x.steps):Tot (AY x names body b) (P7 x (body.nodes+1)):=by
 rw [AY,Qho hx,X6]
 by_cases h1:x.scope+1<=99
 rotate_left
 ·rw [decide_eq_false h1];simp only [ZR,if_true];exact ⟨_,rfl,.bad (by decide)⟩
 rw [decide_eq_true h1];simp only [ZS,Qq,if_false];rw [Ou _ _ _ _ _ _ _ _ _ (by omega)];obtain ⟨o,ho,hop⟩:=Qnu hn hl body b names 0 _ [] (hx.scope h1) hn (by simp;omega);rw [ho,X6]
 cases o with
 | inl q=>exact ⟨_,rfl,fun h=>absurd h hop⟩
 | inr q =>
  obtain ⟨q0,q1,q2,q3,q4,z⟩:=q;obtain ⟨a1,a2,a3,a4⟩:=hop
  simp only
  have hcs:=Db hb q2 0;rw [BB _ _ body (by have:=hb.sz;omega),X6];refine Zz (I9 (by omega)) fun b1 hb1=>?_;cases b1
  ·simp only [ZR,if_true];exact ⟨_,rfl,.bad (by decide)⟩
  simp only [ZS,Qq,if_false];refine Zz (hE ⟨q0,q1,q2,q3,q4⟩ _ a1 (by show s0<=q4;rw [a2];exact hs) (hb1.1 rfl) (FA _ _ _)) fun r hr=>?_;refine ⟨_,rfl,fun h=>?_⟩;obtain ⟨c1,c2,c3,c4⟩:=hr h;have:q4=x.steps:=a2;have c2':q4<=r.1.steps:=c2;have c4':(r.2.1.nodes:Int)<=((chg q2 0 body).nodes:Int)+400 * (r.1.steps - q4):=c4;rw [FA] at c4';refine ⟨c1,?_,SW _ _ _ e0 _ _ (by rw [a3];simp;omega) _ (by simp) (fun y hy=>by rw [ZF.1 hy];exact c3),?_⟩
  ·show x.steps<=r.1.steps;omega
  ·show ((Cor.mk _ _ _ _ _ _ [r.2.1]).nodes:Int)<=_+400 * (r.1.steps - x.steps);rw [Cor.YA];simp only [Cor.kids,YV];omega
theorem Qdk {f:Fm} (h:Qb2 f) (id:Int):MS ⟨id,(G5 f).1,(G5 f).2⟩:=by
 obtain ⟨hf,_,h2,_,_,h3,_⟩:=h
 have l1:1 < f.kids.length:=by omega
 have hkl:=hf.LF
 have e1:(G5 f).1=f.kids[1].kids:=by unfold G5;simp only [Vq l1]
 have hv1:=hf.kid (ZJ l1);refine ⟨⟨by show Sm (G5 f).1.length;rw [e1];have:=hv1.LF;unfold Sm;omega,fun x hx=>?_⟩,⟨by show Sm (G5 f).2.length;unfold G5 Sm;rw [ZH,Xd];omega,fun x hx=>?_⟩,by show (G5 f).2.length<=400;unfold G5;rw [ZH,Xd];omega⟩
 ·have hx':x∈(G5 f).1:=hx;rw [e1] at hx';have:=(hv1.kid hx').sz;omega
 ·have hx':x∈(G5 f).2:=hx;unfold G5 at hx';obtain ⟨y,hy,rfl⟩:=QX.1 hx';have q:=(h3 y hy).2;have hv:=hf.kid (QA hy)
  have j0:0 < y.kids.length:=by omega
  have j1:1 < y.kids.length:=by omega
  simp only [Vq j0,Vq j1];have:=(hv.kid (ZJ j0)).sz;have:=(hv.kid (ZJ j1)).sz;omega
theorem Qc4 {names vals:List Fm} (hn:∀n∈names,FV n) (hv:∀n∈vals,FV n) (hlen:vals.length=names.length) (hl:names.length<=400) (body:Fm) (b:Int):∀(r:List Fm) (i:Nat) (x:Xpn),names.drop i=r->XI x ->
  Tot (Jm names vals body b x.binds x.macs x.scope x.id x.steps i r) fun o=>match o with
   | .inl q=>q.2.2≠0
   | .inr (q0,q1,q2,q3,q4)=>XI ⟨q0,q1,q2,q3,q4⟩/\q4=x.steps/\q2=x.scope:=by
 intro r
 induction r with
 | nil=>intro i x _ hx;rw [Jm];exact ⟨_,rfl,hx,rfl,rfl⟩
 | cons n r ih =>
  intro i x hd hx
  have hi:i < names.length:=by
   rcases Nat.lt_or_ge i names.length with h | h
   ·exact h
   ·rw [Zx h] at hd;cases hd
  rw [Zw hi] at hd
  injection hd with e1 e2
  have hfn:FV n:=hn n (e1▸ZJ hi)
  have hiv:i < vals.length:=by omega
  have hfv:=hv _ (ZJ hiv);have hcs:=Db hfn x.scope 0;have hcv:=Db hfv x.scope 0;rw [Jm,Yd,X6,BB _ _ n (by have:=hfn.sz;omega),X6,Yf _ i hiv,X6,BB _ _ _ (by have:=hfv.sz;omega),X6,X6]
  by_cases hk:n.kind=1
  rotate_left
  ·rw [if_neg hk];exact ⟨_,rfl,fun h=>by simp at h⟩
  rw [if_pos hk];refine Zz (I9 (by omega)) fun b1 hb1=>?_;cases b1
  ·simp only [ZR,if_true,Yd,X6];exact ⟨_,rfl,fun h=>by simp at h⟩
  simp only [ZS,Qq,if_false];obtain ⟨b2,e3,hb2⟩:=I9 (f:=chg x.scope 0 vals[i]) (by omega);rw [e3];simp only [Yd,X6];cases b2
  ·simp only [ZR,if_true];exact ⟨_,rfl,fun h=>by simp at h⟩
  simp only [ZS,Qq,if_false];obtain ⟨p,hp,hpp⟩:=UL (f:=chg x.scope 0 vals[i]) (by omega);rw [hp];simp only [X6]
  rcases hpp with ⟨hrf,rfl⟩ | ⟨_,hpf⟩
  rotate_left
  ·rw [hpf];simp only [ZR,if_true];exact ⟨_,rfl,fun h=>by simp at h⟩
  simp only [ZS,Qq,if_false];obtain ⟨q,hq1,hq⟩:=P0 hx (f:=chg x.scope 0 n) (by omega);rw [hq1];simp only [X6]
  by_cases h0:q.2=0
  ·rw [if_pos h0];obtain ⟨h1,h2,h3⟩:=hq h0;have hml:=hx.m;have hil:=hx.i;rw [Yy (by rw [h1];simp;omega)];simp only [X6,QS];rw [Yy (by rw [h1];simp;omega)];simp only [X6]
   have hx2:XI ⟨q.1.binds,q.1.macs++[⟨q.1.id,(G5 (chg x.scope 0 vals[i])).1,(G5 (chg x.scope 0 vals[i])).2⟩],q.1.scope,q.1.id,q.1.steps⟩:=by
    rw [h1] at h2 h3 ⊢;refine ⟨h2,by simp;omega,h3,hx.s0,hx.s1,hx.t0,hx.t1,fun m hm=>?_⟩
    rcases QR.1 hm with hm | hm
    ·exact hx.mm m hm
    ·rw [ZF.1 hm];exact Qdk hrf _
   refine (ih (i+1) _ e2 hx2).mono fun o ho=>?_
   cases o with
   | inl q2=>exact ho
   | inr q2 =>
    obtain ⟨a1,a2,a3⟩:=ho;refine ⟨a1,?_,?_⟩
    ·rw [a2,h1]
    ·rw [a3,h1]
  ·rw [if_neg h0];exact ⟨_,rfl,h0⟩
theorem Tp {b s0:Int} {body:Fm} (hb:FV body) (hE:∀x f,XI x->s0<=x.steps->FV f->f.nodes=body.nodes->Tot (Vc x f b) (P7 x f.nodes)) {names vals:List Fm} (hn:∀n∈names,FV n) (hv:∀n∈vals,FV n) (hlen:vals.length=names.length) (hl:names.length<=400) {x:Xpn} (hx:XI x) (hs:s0<=x.steps):Tot (AH x names vals body b) (P7 x body.nodes):=by
 rw [AH,Qho hx,X6]
 by_cases h1:x.scope+1<=99
 rotate_left
 ·rw [decide_eq_false h1];simp only [ZR,if_true];exact ⟨_,rfl,.bad (by decide)⟩
 rw [decide_eq_true h1];simp only [ZS,Qq,if_false];rw [Lb _ _ _ _ _ _ _ _ _ (by omega)];obtain ⟨o,ho,hop⟩:=Qc4 hn hv hlen hl body b names 0 _ (List.drop_zero ..) (hx.scope h1);rw [ho,X6]
 cases o with
 | inl q=>exact ⟨_,rfl,fun h=>absurd h hop⟩
 | inr q =>
  obtain ⟨q0,q1,q2,q3,q4⟩:=q;obtain ⟨a1,a2,a4⟩:=hop
  simp only
  have hcs:=Db hb q2 0;rw [BB _ _ body (by have:=hb.sz;omega),X6];refine Zz (I9 (by omega)) fun b1 hb1=>?_;cases b1
  ·simp only [ZR,if_true];exact ⟨_,rfl,.bad (by decide)⟩
  simp only [ZS,Qq,if_false];refine Zz (hE ⟨q0,q1,q2,q3,q4⟩ _ a1 (by show s0<=q4;rw [a2];exact hs) (hb1.1 rfl) (FA _ _ _)) fun r hr=>?_;refine ⟨_,rfl,fun h=>?_⟩;obtain ⟨c1,c2,c3,c4⟩:=hr h;have:q4=x.steps:=a2;have c2':q4<=r.1.steps:=c2;have c4':(r.2.1.nodes:Int)<=((chg q2 0 body).nodes:Int)+400 * (r.1.steps - q4):=c4;rw [FA] at c4';exact ⟨c1,by show x.steps<=r.1.steps;omega,c3,by show (r.2.1.nodes:Int)<=_+400 * (r.1.steps - x.steps);omega⟩
def PA (x:Xpn) (l:List Fm) (r:Xpn × List Cor × Int):Prop:=r.2.2=0->XI r.1/\x.steps<=r.1.steps/\r.2.1.length=l.length/\(∀c∈r.2.1,TW c)/\(YV Cor.nodes r.2.1:Int)<=YV ZK l+400 * (r.1.steps - x.steps)
theorem Qe6 {b s0:Int} {l:List Fm} (hE:∀x f,XI x->s0<=x.steps->f∈l->Tot (Vc x f b) (P7 x f.nodes)) (hl:l.length<=400) {x:Xpn} (hx:XI x) (hs:s0<=x.steps):Tot (HK x l b) (PA x l):=by
 have loop:∀(r:List Fm) (i:Nat) (y:Xpn) (z:List Cor),(∀f∈r,f∈l)->XI y->s0<=y.steps->x.steps<=y.steps->z.length+r.length<=400->(∀c∈z,TW c)->(YV Cor.nodes z:Int)+YV ZK r<=YV ZK l+400 * (y.steps - x.steps) ->
   Tot (Hq l b y.binds y.macs y.scope y.id y.steps z i r) fun o=>match o with
    | .inl q=>q.2.2≠0
    | .inr (q0,q1,q2,q3,q4,z')=>XI ⟨q0,q1,q2,q3,q4⟩/\x.steps<=q4/\z'.length=z.length+r.length/\(∀c∈z',TW c)/\(YV Cor.nodes z':Int)<=YV ZK l+400 * (q4 - x.steps):=by
  intro r
  induction r with
  | nil=>intro i y z _ hy _ hxy _ hz hnn;rw [Hq];exact ⟨_,rfl,hy,hxy,by simp,hz,by simpa [YV] using hnn⟩
  | cons f r ih =>
   intro i y z hr hy hs hxy hzl hz hnn;rw [YV] at hnn;simp only [ZD] at hzl;rw [Hq,Yd,X6];refine Zz (hE ⟨y.binds,y.macs,y.scope,y.id,y.steps⟩ f hy hs (hr f (KB ..))) fun q hq=>?_
   by_cases h0:q.2.2=0
   ·rw [if_pos h0];obtain ⟨c1,c2,c3,c4⟩:=hq h0;have c2':y.steps<=q.1.steps:=c2;have c4':(q.2.1.nodes:Int)<=(f.nodes:Int)+400 * (q.1.steps - y.steps):=c4;rw [Yy (by simp;omega),X6]
    refine (ih (i+1) q.1 (z++[q.2.1]) (fun g hg=>hr g (Kf _ hg)) c1 (by omega) (by omega) (by simp;omega) (fun c hc=>by
     rcases QR.1 hc with hc | hc
     ·exact hz c hc
     ·rw [ZF.1 hc];exact c3) (by rw [AZ];simp only [YV];omega)).mono fun o ho=>?_
    cases o with
    | inl q2=>exact ho
    | inr q2 =>
     obtain ⟨a1,a2,a3,a4,a5⟩:=ho;exact ⟨a1,a2,by rw [a3];simp;omega,a4,a5⟩
   ·rw [if_neg h0];exact ⟨_,rfl,h0⟩
 rw [HK,Ot _ _ _ _ _ _ _ _ (by omega)];obtain ⟨o,ho,hop⟩:=loop l 0 x [] (fun _ h=>h) hx hs (Xe _) (by simp;omega) (by simp) (by simp [YV]);rw [ho,X6]
 cases o with
 | inl q=>exact ⟨_,rfl,fun h=>absurd h hop⟩
 | inr q =>
  obtain ⟨q0,q1,q2,q3,q4,z⟩:=q;obtain ⟨a1,a2,a3,a4,a5⟩:=hop;exact ⟨_,rfl,fun _=>⟨a1,a2,by rw [a3];simp,a4,a5⟩⟩
end Go.Proofs.SA
