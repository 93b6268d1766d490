/- The reference's templates filled; the first rule; rules applied. -/
import Derived.Test.YtiiamkelehfnoaaGreatDoorRg
set_option linter.unusedVariables false
set_option linter.unusedSimpArgs false
set_option maxRecDepth 100000
open Go Go.Proofs Go.Proofs.Shadow
open _root_.Bool renaming false_eq_true → Qo, not_false → ZZ, not_true → Z0, false_or → Z8
open _root_.List renaming getElem_mem → ZU, mem_cons_of_mem → Kh, mem_cons_self → KF, mem_singleton → ZI, mem_append → QS, findIdx?_eq_some_iff_getElem → Xj, nil_append → QU, length_map → Xe, drop_eq_getElem_cons → ZL, range' → Xk, append_assoc → QD, length_cons → ZR, length_drop → Xl, length_pos_of_mem → Z4, mem_map → QZ, drop_of_length_le → KR, mem_of_mem_drop → QA, mem_cons → Kl, findIdx?_cons → Xn
open Fm renaming nodes → ZW, mk → KU
open _root_.Option renaming map_some → Qu, map_eq_some_iff → Qx
open _root_.ByteArray renaming mk → Qd
open Tot renaming bind → ZN
open _root_.Int renaming le_refl → Xm
namespace Go.Proofs.SA
def LN:Nat->Fm->Prop
 | 0,_=>False
 | d+1,f=>f.name.size<=12/\f.sc.length<=24/\∀k∈f.kids,LN d k
theorem LN.mono:∀(d e:Nat) (f:Fm),LN d f->d<=e->LN e f
 | 0,_,_,h,_=>h.elim
 | d+1,0,_,_,h=>by omega
 | d+1,e+1,f,h,hde=>⟨h.1,h.2.1,fun k hk=>LN.mono d e k (h.2.2 k hk) (by omega)⟩
theorem LN.sz:∀(d:Nat) (f:Fm),LN d f->f.sz+1<=37 * f.nodes
 | 0,_,h=>h.elim
 | d+1,f,h=>by
  rw [Fm.G6,Fm.Vr]
  have hsum:∀l:List Fm,(∀g∈l,LN d g)->VF Fm.sz l+l.length<=37 * VF ZW l:=by
   intro l
   induction l with
   | nil=>intro _;exact Nat.le_refl _
   | cons g l ihl =>
    intro hg;have h1:=LN.sz d g (hg g (KF ..));have h2:=ihl (fun x hx=>hg x (Kh _ hx));simp only [VF,ZR];omega
  have:=hsum f.kids h.2.2;have:=h.1;have:=h.2.1;omega
theorem NV.size {s:ByteArray} (h:NV s):s.size<=12:=by
 rcases h with h | h | h
 ·rw [h];decide
 ·rw [h];decide
 ·exact h.2.1
theorem FIs.ln:∀(d:Nat) (f:Fm),FIs d f->LN d f
 | 0,_,h=>h.elim
 | d+1,f,h=>by
  have z:(Qd #[]).size=0:=rfl
  rcases h with h | h | h
  ·exact ⟨NV.size h.2.1,h.2.2.2.1.1,fun k hk=>by have:=Z4 hk;omega⟩
  ·exact ⟨by rw [h.2.1,z];omega,by omega,fun k hk=>by have:=Z4 hk;omega⟩
  ·exact ⟨by rw [h.2.1,z];omega,by omega,fun k hk=>FIs.ln d k (h.2.2.2.2 k hk)⟩
theorem FV.ln {f:Fm} (h:FV f):LN 40 f:=FIs.ln _ _ h.1
theorem Qrd (x:Fm):∀l:List Fm,((Fm.Qis l).any fun g=>decide (g.kind=1)&&decide (g=x))=l.any fun t=>LK t x
 | []=>rfl
 | f :: l=>by rw [Fm.Qis,List.any_append,List.any_cons,Qrd x l];rfl
theorem Qkt (t x:Fm):LK t x=((decide (t.kind=1)&&decide (t=x))||t.kids.any fun k=>LK k x):=by
 cases t;rw [LK,Fm.all,List.any_cons,Qrd];rfl
theorem Qb3 (x:Fm):∀t:Fm,t.sz<=1000000->GU t x=some (LK t x):=by
 intro t
 induction t using Fm.ind with
 | h t ih =>
  intro ht;have hz:=Fm.G6 t;rw [GU,Qkt]
  have rest:(JJ t x 0>>=fun o7=>match o7 with | .inl r=>pure r | .inr _=>(pure false):Option Bool)=some (t.kids.any fun k=>LK k x):=by
   rw [Nq _ _ (by omega),ER (HY t x) (fun k=>LK k x) true (fun _=>rfl) t.kids 0 (fun k hk i r=>by
    have:=Fm.J7 hk
    rw [HY,Yf,X8,ih k hk (by omega),X8];rfl),X8]
   cases t.kids.any fun k=>LK k x<;>rfl
  by_cases h1:t.kind=1
  ·rw [if_pos h1,EX t (by omega)];simp only [Yf,X8,decide_eq_true h1,Bool.true_and]
   by_cases h2:t=x
   ·rw [decide_eq_true h2];rfl
   ·rw [decide_eq_false h2];simp only [Qo,if_false,Z8];exact rest
  ·rw [if_neg h1,decide_eq_false h1];simp only [Yf,X8,Qo,if_false,Bool.false_and,Z8];exact rest
inductive HB:Hit->Prop
 | mk {n:Fm} {d:Int} {o:Fm} {m:List Hit} (hn:n.sz<=100000) (h0:0<=d) (h1:d<=100000) (ho:LN 40 o) (hon:o.nodes<=400) (hm:m.length<=400) (hs:∀x∈m,HB x):HB (.mk n d o m)
theorem HB.out {h:Hit} (k:HB h):h.name.sz<=100000/\0<=h.depth/\h.depth<=100000/\LN 40 h.one/\h.one.nodes<=400/\h.many.length<=400/\∀x∈h.many,HB x:=by
 cases k;exact ⟨by assumption,by assumption,by assumption,by assumption,by assumption,by assumption,by assumption⟩
def HL (H:List Hit):Prop:=H.length<=400/\∀h∈H,HB h
theorem HL.hs {H:List Hit} (h:HL H):HS H:=⟨by have:=h.1;unfold Sm;omega,fun x hx=>by have:=(h.2 x hx).out;omega⟩
theorem Qfz {t:Fm} (ht:t.sz<=1000000) {H:List Hit} (hH:HL H):AH t H=some (DD t H (-1)):=by
 have loop:∀(r:List Hit),(∀x∈r,x∈H)->∀(n:Int) (i:Nat),Tot (J2 t H n i r) fun o=>match o with | .inl c=>c=DD t r n | .inr c=>c=DD t r n:=by
  intro r
  induction r with
  | nil=>intro _ n i;exact ⟨_,rfl,rfl⟩
  | cons h r ih =>
   intro hr n i;have hr':=fun x hx=>hr x (Kh h hx);rw [J2];simp only [Yf,X8]
   by_cases h0:h.depth=0
   ·rw [show DD t (h :: r) n=DD t r n by rw [DD,if_pos (.inl h0)],if_pos h0];simp only [X8,if_true];exact ih hr' n (i+1)
   rw [if_neg h0,Qb3 h.name t ht];simp only [X8];cases hu:LK t h.name
   ·rw [show DD t (h :: r) n=DD t r n by rw [DD,if_pos (.inr hu)]];simp only [ZZ,if_true];exact ih hr' n (i+1)
   simp only [Z0,Qo,if_false]
   have hno:¬(h.depth=0∨LK t h.name=false):=by simp [h0,hu]
   by_cases h1:n≥0
   ·rw [if_pos h1]
    by_cases h2:n=(h.many.length:Int)
    ·rw [show DD t (h :: r) n=DD t r h.many.length by rw [DD,if_neg hno,if_neg (fun h=>h.2 h2)]];simp only [h2,decide_true,Z0,X8,Qo,if_false];exact ih hr' _ (i+1)
    ·rw [show DD t (h :: r) n=-1 by rw [DD,if_neg hno,if_pos ⟨h1,h2⟩]];simp only [h2,decide_false,ZZ,X8,if_true];exact ⟨_,rfl,rfl⟩
   ·rw [show DD t (h :: r) n=DD t r h.many.length by rw [DD,if_neg hno,if_neg (fun h=>h1 h.1)],if_neg h1];simp only [X8,Qo,if_false];exact ih hr' _ (i+1)
 rw [AH,Mx _ _ _ (by have:=hH.1;omega)];obtain ⟨o,ho,hop⟩:=loop H (fun _ h=>h) (-1) 0;rw [ho,X8]
 cases o with
 | inl c=>simp only at hop;rw [hop];rfl
 | inr c=>simp only at hop;rw [hop];rfl
theorem Nx (t:Fm):∀(H:List Hit) (n:Int),(∀h∈H,0<=h.depth)->0<=DD t H n->(n=DD t H n∨n < 0)/\∀h∈H,0 < h.depth->LK t h.name=true->(h.many.length:Int)=DD t H n
 | [],n,_,h=>by rw [DD] at *;exact ⟨.inl rfl,fun _ hh=>by cases hh⟩
 | h :: H,n,hd,hc=>by
  have hd':=fun x hx=>hd x (Kh h hx);have h0:=hd h (KF ..);rw [DD] at *;split
  ·rename_i hs;rw [if_pos hs] at hc;obtain ⟨a,b⟩:=Nx t H n hd' hc;refine ⟨a,fun x hx hx1 hx2=>?_⟩
   rcases Kl.1 hx with rfl | hx
   ·rcases hs with hs | hs
    ·omega
    ·rw [hs] at hx2;cases hx2
   ·exact b x hx hx1 hx2
  ·rename_i hs;rw [if_neg hs] at hc;split
   ·rename_i h2;rw [if_pos h2] at hc;omega
   ·rename_i h2;rw [if_neg h2] at hc;obtain ⟨a,b⟩:=Nx t H _ hd' hc
    have e:(h.many.length:Int)=DD t H h.many.length:=by rcases a with a | a<;>omega
    refine ⟨?_,fun x hx hx1 hx2=>?_⟩
    ·by_cases hn:n < 0
     ·exact .inr hn
     ·exact .inl (by
       have:n=(h.many.length:Int):=Classical.byContradiction fun hne=>h2 ⟨by omega,hne⟩
       omega)
    ·rcases Kl.1 hx with rfl | hx
     ·exact e
     ·exact b x hx hx1 hx2
theorem Qnt {t:Fm} (ht:t.sz<=1000000) {H:List Hit} (hH:HL H) {n:Nat} (hn:(n:Int) < DD t H (-1)):B2 t H n=some (Qbi t H n):=by
 have hall:=(Nx t H (-1) (fun h hh=>(hH.2 h hh).out.2.1) (by omega)).2
 rw [B2,OO _ _ _ _ (by have:=hH.1;omega),BR (Gr t H n) (Qnu t n) (fun _ _=>rfl) H [] 0 (fun x hx z i r hz=>by
  rw [Gr];simp only [Yf,X8]
  have fin:∀y:Hit,(WT 192 z [Hit.mk (KU y.name.kind y.name.name y.name.num y.name.sc y.name.kids) y.depth (KU y.one.kind y.one.name y.one.num y.one.sc y.one.kids) y.many]>>=fun x38=>Gr t H n x38 (i+1) r)=Gr t H n (z++[y]) (i+1) r:=fun y=>by
   rw [Fm.eta,Fm.eta,Hit.eta,Y6 (by simp;omega),X8]
  by_cases hd:x.depth > 0
  ·rw [if_pos hd,Qb3 x.name t ht];simp only [X8];cases hu:LK t x.name
   ·rw [show Qnu t n x=x from if_neg (by simp [hu])];simp only [Qo,if_false,X8];exact fin x
   ·have hl:=hall x hx hd hu
    have hnl:n < x.many.length:=by omega
    rw [show Qnu t n x=x.many[n] by unfold Qnu;rw [if_pos ⟨hd,hu⟩,Jr hnl]];simp only [if_true,Yk _ n hnl,X8];exact fin x.many[n]
  ·rw [if_neg hd,show Qnu t n x=x from if_neg (fun h=>hd h.1)];simp only [X8,Qo,if_false]
   exact fin x) (by have:=hH.1;simp;omega)]
 simp only [X8,Yf,QU];rfl
theorem HL.nth {t:Fm} {H:List Hit} (hH:HL H) {n:Nat} (hn:(n:Int) < DD t H (-1)):HL (Qbi t H n):=by
 have hall:=(Nx t H (-1) (fun h hh=>(hH.2 h hh).out.2.1) (by omega)).2;refine ⟨by unfold Qbi;rw [Xe];exact hH.1,fun x hx=>?_⟩;unfold Qbi at hx;obtain ⟨y,hy,rfl⟩:=QZ.1 hx;unfold Qnu;split
 ·rename_i hc;have hl:=hall y hy hc.1 hc.2
  have hnl:n < y.many.length:=by omega
  rw [Jr hnl];exact (hH.2 y hy).out.2.2.2.2.2.2 _ (ZU hnl)
 ·exact hH.2 y hy
theorem UE (t:Fm):∀(H:List Hit) (n:Int),(∀h∈H,h.many.length<=400)->n<=400->DD t H n<=400
 | [],n,_,h=>h
 | h :: H,n,hm,hn=>by
  have hm':=fun x hx=>hm x (Kh h hx);have:=hm h (KF ..);rw [DD];split
  ·exact UE t H n hm' hn
  ·split
   ·omega
   ·exact UE t H _ hm' (by omega)
def FR (d:Nat) (o:Option Fm) (r:Fm × Bool):Prop:=match o with | some f=>r=(f,true)/\LN d f/\f.nodes<=401 | none=>r.2=false/\r.1.sz<=20000
theorem Qry (t:Fm) (H:List Hit):fl t H=match (if t.kind=1 then Qgu H t else none) with
  | some h=>if h.depth=0 then some h.one else none
  | none=>match flL t.kids H with
   | none=>none
   | some out=>if VF ZW out<=400 then some (.mk t.kind t.name t.num t.sc out) else none:=by cases t;rw [fl.eq_def];rfl
theorem Qmy (H:List Hit):flL [] H=some []:=by rw [flL.eq_def]
theorem Qjh (t : Fm) (ts : List Fm) (H : List Hit) : flL (t :: ts) H = if YT t = true then flL ts H
    else if Wo ts = true then
      (if DD t H (-1) < 0 then none
       else match MM (fun n => fl t (Qbi t H n)) (List.range (DD t H (-1)).toNat) with
        | none => none
        | some ks => (flL ts H).map (ks ++ ·))
    else match fl t H with
      | none => none
      | some k => (flL ts H).map (k :: ·) := by
  conv => lhs; rw [flL.eq_def]
  rfl
theorem Cv {α:Type} (g:α->Nat) (a b:List α):VF g (a++b)=VF g a+VF g b:=EY g a b
def FRL (d:Nat) (z:List Fm) (o:Option (List Fm)) (r:(Fm × Bool) ⊕ (List Fm)):Prop :=
 match o with
 | some ks=>if VF ZW (z++ks)<=400 then r=.inr (z++ks)/\∀k∈ks,LN d k else ∃x,r=.inl (x,false)/\x.sz<=20000
 | none=>∃x,r=.inl (x,false)/\x.sz<=20000
theorem Qc2:∀(d:Nat) (t:Fm),LN d t->t.sz<=20000->∀{H:List Hit},HL H->Tot (Ax t H) (FR (d+40) (fl t H)):=by
 intro d
 induction d with
 | zero=>intro t h;exact h.elim
 | succ d ih =>
  intro t hln ht H hH;have hz:=Fm.G6 t;rw [Ax,Qry]
  have rest:Tot ((WT 8 [] t.sc>>=fun x45=>(W0 t H x45 [] 0 0>>=fun o42=>match o42 with | .inl r=>pure r | .inr Qa7=>(pure (KU t.kind t.name t.num x45 Qa7,true)))):Option (Fm × Bool)) (FR (d+1+40) (match flL t.kids H with | none=>none | some out=>if VF ZW out<=400 then some (.mk t.kind t.name t.num t.sc out) else none)):=by
   rw [Y6 (by simp;omega),X8,QU];have kidf:∀f∈t.kids,LN d f/\f.sz<=20000:=fun f hf=>⟨hln.2.2 f hf,by have:=Fm.J7 hf;omega⟩
   have loop:∀(r:List Fm) (i:Nat) (z:List Fm),t.kids.drop i=r->VF ZW z<=400->Tot (JP t H t.sc z ((VF ZW z:Nat):Int) i r) (FRL (d+40) z (flL r H)):=by
    intro r
    induction r with
    | nil=>intro i z _ hzz;rw [Qmy];refine ⟨_,rfl,?_⟩;unfold FRL;simp only;rw [if_pos (by simpa using hzz)];exact ⟨by simp,fun k hk=>by cases hk⟩
    | cons f r ihr =>
     intro i z hd hzz;have hd0:=hd
     have hi:i < t.kids.length:=by
      rcases Nat.lt_or_ge i t.kids.length with h | h
      ·exact h
      ·rw [KR h] at hd;cases hd
     rw [ZL hi] at hd
     injection hd with e1 e2
     have hm:f∈t.kids:=e1▸ZU hi;obtain ⟨hfl,hfz⟩:=kidf f hm;rw [JP,Qjh];simp only [Yf,X8,CR];cases hq:YT f;rotate_left
     ·simp only [if_true];exact ihr (i+1) z e2 hzz
     simp only [Qo,if_false];have hnx:=Ou hd0 (by omega);simp only [Yf,X8,CR] at hnx;rw [hnx];simp only [X8];have hzl:=Jd z
     have inner:∀(row:Bool) (c:Nat),c<=400->(∀n:Nat,n < c->((if row=true then (idx t.kids (i:Int)>>=fun x96=>(B2 x96 H n>>=fun x100=>some x100)) else some H:Option (List Hit))=some (if row=true then Qbi f H n else H)/\HL (if row=true then Qbi f H n else H))) ->
       ∀(m k:Nat) (z:List Fm),k+m=c->VF ZW z<=400->Tot (W1 t H t.sc (i:Int) row (c:Int) z (k:Int) ((VF ZW z:Nat):Int)) fun o=>match MM (fun n=>fl f (if row=true then Qbi f H n else H)) (Xk k m) with
        | some ks=>if VF ZW (z++ks)<=400 then o=.inr (z++ks,((VF ZW (z++ks):Nat):Int))/\∀x∈ks,LN (d+40) x else ∃x,o=.inl (x,false)/\x.sz<=20000
        | none=>∃x,o=.inl (x,false)/\x.sz<=20000:=by
      intro row c hc hn m
      induction m with
      | zero =>
       intro k z hk hzz;rw [W1,if_neg (by omega)];refine ⟨_,rfl,?_⟩;rw [show Xk k 0=[] from rfl,MM];simp only [List.append_nil];rw [if_pos hzz];exact ⟨by simp,fun x hx=>by cases hx⟩
      | succ m ihm =>
       intro k z hk hzz;have hzl:=Jd z;obtain ⟨q1,q2⟩:=hn k (by omega);rw [W1,if_pos (by omega)];simp only [Yf];rw [q1];simp only [X8,Yk _ i hi,e1];obtain ⟨r,hr,hfr⟩:=ih f hfl hfz q2;rw [hr];simp only [X8];rw [List.range'_succ,MM]
       have hsz:r.1.sz < 1000000000:=by
        cases hf:fl f (if row=true then Qbi f H k else H) with
        | none=>rw [hf] at hfr;have:=hfr.2;omega
        | some g=>rw [hf] at hfr;have h1:=hfr.1;have h2:=LN.sz _ _ hfr.2.1;have:=hfr.2.2;rw [h1];show g.sz < _;omega
       rw [Qak _ hsz];simp only [X8]
       cases hf:fl f (if row=true then Qbi f H k else H) with
       | none =>
        rw [hf] at hfr;have:r.2=false:=hfr.1;rw [this];simp only [ZZ,Bool.true_or,if_true];exact ⟨_,rfl,t,rfl,ht⟩
       | some g =>
        rw [hf] at hfr;obtain ⟨h1,h2,h3⟩:=hfr;subst h1;simp only [Z0,Z8];have hgz:=BC g;rw [Y3 (by omega) (by omega)]
        have e3:VF ZW (z++[g])=VF ZW z+g.nodes:=by rw [Cv];simp [VF]
        by_cases hbig:((VF ZW z:Nat):Int)+(g.nodes:Int) > 400
        ·rw [decide_eq_true hbig];simp only [if_true];refine ⟨_,rfl,?_⟩
         cases hall:MM (fun n=>fl f (if row=true then Qbi f H n else H)) (Xk (k+1) m) with
         | none=>exact ⟨t,rfl,ht⟩
         | some ks =>
          simp only [Qu];rw [if_neg (by rw [Cv,VF];omega)];exact ⟨t,rfl,ht⟩
        ·rw [decide_eq_false hbig];simp only [Qo,if_false];rw [Y6 (by simp;omega)];simp only [X8];rw [VV (i:=k) (by omega),show ((VF ZW z:Nat):Int)+(g.nodes:Int)=((VF ZW (z++[g]):Nat):Int) by rw [e3];omega];obtain ⟨o,ho,hop⟩:=ihm (k+1) (z++[g]) (by omega) (by omega);refine ⟨o,ho,?_⟩
         cases hall:MM (fun n=>fl f (if row=true then Qbi f H n else H)) (Xk (k+1) m) with
         | none=>rw [hall] at hop;exact hop
         | some ks =>
          rw [hall] at hop;simp only [Qu,QD,List.singleton_append] at hop ⊢;split
          ·rename_i hle;rw [if_pos hle] at hop
           exact ⟨hop.1,fun x hx=>by
            rcases Kl.1 hx with rfl | hx
            ·exact h2
            ·exact hop.2 x hx⟩
          ·rename_i hle;rw [if_neg hle] at hop;exact hop
     have after:∀(row:Bool) (c:Nat) (ks?:Option (List Fm)),(Tot (W1 t H t.sc (i:Int) row (c:Int) z 0 ((VF ZW z:Nat):Int)) fun o=>match ks? with
        | some ks=>if VF ZW (z++ks)<=400 then o=.inr (z++ks,((VF ZW (z++ks):Nat):Int))/\∀x∈ks,LN (d+40) x else ∃x,o=.inl (x,false)/\x.sz<=20000
        | none=>∃x,o=.inl (x,false)/\x.sz<=20000) ->
       Tot ((W1 t H t.sc (i:Int) row (c:Int) z 0 ((VF ZW z:Nat):Int)>>=fun o37=>match o37 with | .inl r=>some (Sum.inl r) | .inr (Fb,N7)=>(JP t H t.sc Fb N7 (i+1) r)):Option ((Fm × Bool) ⊕ (List Fm))) (FRL (d+40) z (match ks? with | none=>none | some ks=>(flL r H).map (ks ++ ·))):=fun row c ks? h=>by
      obtain ⟨o,ho,hop⟩:=h;rw [ho,X8]
      cases ks? with
      | none=>obtain ⟨x,rfl,hx⟩:=hop;exact ⟨_,rfl,x,rfl,hx⟩
      | some ks =>
       simp only at hop ⊢;split at hop
       ·rename_i hle;obtain ⟨rfl,hks⟩:=hop
        simp only
        obtain ⟨o2,ho2,hop2⟩:=ihr (i+1) (z++ks) e2 hle;refine ⟨o2,ho2,?_⟩
        cases hfr:flL r H with
        | none=>rw [hfr] at hop2;exact hop2
        | some ks2 =>
         rw [hfr] at hop2;unfold FRL at hop2 ⊢;simp only [Qu,QD] at hop2 ⊢;split
         ·rename_i hle2;rw [if_pos hle2] at hop2
          exact ⟨hop2.1,fun x hx=>by
           rcases QS.1 hx with hx | hx
           ·exact hks x hx
           ·exact hop2.2 x hx⟩
         ·rename_i hle2;rw [if_neg hle2] at hop2;exact hop2
       ·rename_i hle;obtain ⟨x,rfl,hx⟩:=hop;refine ⟨_,rfl,?_⟩
        cases hfr:flL r H with
        | none=>exact ⟨x,rfl,hx⟩
        | some ks2 =>
         unfold FRL;simp only [Qu];rw [if_neg (by rw [← QD,Cv];omega)];exact ⟨x,rfl,hx⟩
     cases hhd:Wo r
     ·simp only [Qo,if_false,X8];rw [if_neg (by omega)];have h1:=inner false 1 (by omega) (fun n _=>⟨by simp,by simpa using hH⟩) 1 0 z rfl hzz
      have e4:MM (fun n=>fl f (if false=true then Qbi f H n else H)) (Xk 0 1)=(fl f H).map (fun k=>[k]):=by
       show MM _ [0]=_;rw [MM];simp only [Qo,if_false];cases fl f H<;>rfl
      rw [e4] at h1;have:=after false 1 _ h1;rw [show ((1:Nat):Int)=1 from rfl] at this;refine this.mono fun o ho=>?_
      cases hf:fl f H with
      | none=>rw [hf] at ho;exact ho
      | some k=>rw [hf] at ho;exact ho
     ·simp only [if_true];rw [Qfz (by omega) hH];simp only [X8]
      by_cases hc0:DD f H (-1) < 0
      ·rw [if_pos hc0,if_pos hc0];exact ⟨_,rfl,t,rfl,ht⟩
      rw [if_neg hc0,if_neg hc0];have hcl:=UE f H (-1) (fun h hh=>(hH.2 h hh).out.2.2.2.2.2.1) (by omega)
      have ec:((DD f H (-1)).toNat:Int)=DD f H (-1):=by omega
      have h1:=inner true (DD f H (-1)).toNat (by omega) (fun n hn=>by
       simp only [if_true];refine ⟨?_,hH.nth (by omega)⟩
       rw [Yk _ i hi,X8,e1,Qnt (by omega) hH (by omega),X8]) (DD f H (-1)).toNat 0 z (by omega) hzz
      have:=after true (DD f H (-1)).toNat _ h1;rw [ec] at this;simp only [if_true] at this;rw [List.range_eq_range'];exact this
   rw [Nm _ _ _ _ _ (by omega)];obtain ⟨o,ho,hop⟩:=loop t.kids 0 [] (List.drop_zero ..) (by simp [VF]);rw [show ((VF ZW ([]:List Fm):Nat):Int)=0 from rfl] at ho;rw [ho,X8]
   cases hfl:flL t.kids H with
   | none=>rw [hfl] at hop;obtain ⟨x,rfl,hx⟩:=hop;exact ⟨_,rfl,rfl,hx⟩
   | some out =>
    rw [hfl] at hop;unfold FRL at hop;simp only [QU] at hop ⊢;split at hop
    ·rename_i hle;obtain ⟨rfl,hk⟩:=hop;rw [if_pos hle];refine ⟨_,rfl,rfl,⟨hln.1,hln.2.1,fun k hk'=>?_⟩,?_⟩
     ·exact LN.mono _ _ _ (hk k hk') (by omega)
     ·rw [Fm.Vr];show 1+VF ZW out<=401;omega
    ·rename_i hle;obtain ⟨x,rfl,hx⟩:=hop;rw [if_neg hle];exact ⟨_,rfl,rfl,hx⟩
  by_cases h1:t.kind=1
  ·rw [if_pos h1,if_pos h1]
   rcases Rw hH.hs t with ⟨j,hj,h2,h3⟩ | ⟨h2,h3⟩
   ·rw [h2,h3];have hb:=(hH.2 _ (ZU hj)).out;have hs:=LN.sz _ _ hb.2.2.2.1;simp only [Yf,X8];rw [if_pos (by omega),Yk _ j hj];simp only [X8];rw [DB _ (by omega)];simp only [X8]
    by_cases h0:H[j].depth=0
    ·rw [decide_eq_true h0,if_pos h0];exact ⟨_,rfl,rfl,LN.mono _ _ _ hb.2.2.2.1 (by omega),by omega⟩
    ·rw [decide_eq_false h0,if_neg h0];exact ⟨_,rfl,rfl,by show H[j].one.sz<=_;omega⟩
   ·rw [h2,h3];simp only [Yf,X8];rw [if_neg (by omega)];exact rest
  ·rw [if_neg h1,if_neg h1];simp only [Yf,X8];rw [if_neg (by omega)];exact rest
end Go.Proofs.SA
namespace Go.Proofs.SA
theorem Qsp (B:List Bnd) (ls:List Fm):∀(d:Nat) (p:Fm),FIs d p->YT p=false->p.sz<=100000->p.nodes<=400->∀(f:Fm),FV f->∀hs,pm B ls p f=some hs->∀h∈hs,HB h:=by
 intro d
 induction d with
 | zero=>intro p h;exact h.elim
 | succ d ih =>
  intro p h hdt hpz hpn f hf hs e;have hzp:=Fm.G6 p;have hnp:=Fm.Vr p
  have hL:∀(ps:List Fm),(∀q∈ps,q∈p.kids/\FIs d q)->∀(fs:List Fm),(∀g∈fs,FV g)->fs.length<=400->∀(n:Nat) (hs:List Hit),pmL B ls ps fs n=some hs->∀h∈hs,HB h:=by
   intro ps
   induction ps with
   | nil=>intro _ fs _ _ n hs e h hh;rw [UZ] at e;injection e with e;subst e;cases hh
   | cons q ps ihp =>
    intro hq fs hfs hfl n hs e;have hq':=fun x hx=>hq x (Kh q hx);have hqm:=(hq q (KF ..));have hqz:=Fm.J7 hqm.1;have hqn:=Ip hqm.1;rw [Sp] at e
    by_cases hd:YT q=true
    ·rw [if_pos hd] at e;exact ihp hq' fs hfs hfl n hs e
    ·rw [if_neg hd] at e
     have hd':YT q=false:=by simpa using hd
     by_cases hh:Wo ps=true
     ·rw [if_pos hh] at e;split at e
      ·cases e
      ·rename_i rows hrows;obtain ⟨hs2,h2,h3⟩:=Qx.1 e;subst h3;intro h hh
       rcases QS.1 hh with hh | hh
       ·unfold Qlw at hh;obtain ⟨i,hi,rfl⟩:=QZ.1 hh
        have hi':i < (vrs ls q).length:=by simpa using hi
        have hid:i < (dps ls 0 q).length:=by rw [← FN];exact hi'
        have hge:=Qf7 ls q 0 _ (ZU hid);have hvs:=SJ ls q _ (ZU hi');have hrl:=RO hrows;rw [List.length_take] at hrl;rw [Jr hi',Jr hid];have z:Fm.zero.name.size=0:=rfl;refine .mk (by omega) (by omega) (by omega) ⟨by rw [z];omega,by show 0<=24;omega,fun k hk=>by cases hk⟩ (by decide) (by rw [Xe];omega) fun x hx=>?_;obtain ⟨r,hr,rfl⟩:=QZ.1 hx;obtain ⟨g,hg,hg2⟩:=RP hrows r hr;have hl:=Qbp B ls d q hqm.2 hd' g r hg2
        have hil:i < r.length:=by omega
        rw [Jr hil];exact ih q hqm.2 hd' (by omega) (by omega) g (hfs g (List.mem_of_mem_take hg)) r hg2 _ (ZU hil)
       ·exact ihp hq' _ (fun g hg=>hfs g (QA hg)) (by rw [Xl];omega) _ _ h2 h hh
     ·rw [if_neg hh] at e;split at e
      ·cases e
      ·rename_i f' fs';split at e
       ·cases e
       ·rename_i hs1 h1;obtain ⟨hs2,h2,h3⟩:=Qx.1 e;subst h3;intro h hh
        rcases QS.1 hh with hh | hh
        ·exact ih q hqm.2 hd' (by omega) (by omega) _ (hfs _ (KF ..)) _ h1 h hh
        ·exact ihp hq' _ (fun g hg=>hfs g (Kh _ hg)) (by simp at hfl;omega) _ _ h2 h hh
  rw [Qn3] at e;split at e
  ·split at e
   ·injection e with e;subst e;intro h hh;cases hh
   ·split at e
    ·split at e
     ·injection e with e;subst e;intro h hh;cases hh
     ·cases e
    ·injection e with e;subst e
     intro h hh;rw [ZI.1 hh];exact .mk hpz (Xm _) (by omega) hf.ln hf.2 (by simp) (fun x hx=>by cases hx)
  ·split at e
   ·split at e
    ·injection e with e;subst e;intro h hh;cases hh
    ·cases e
   ·rename_i k1 k2;have hkids:∀q∈p.kids,q∈p.kids/\FIs d q:=fun q hq=>⟨hq,h.kid hq⟩;have hfk:∀g∈f.kids,FV g:=fun g hg=>hf.kid hg;have hfl:=hf.L9;split at e
    ·split at e
     ·split at e
      ·cases e
      ·exact hL _ hkids _ hfk (by omega) _ _ e
     ·split at e
      ·exact hL _ hkids _ hfk (by omega) _ _ e
      ·cases e
    ·cases e
theorem Qhi {p:Fm} (h:Qbv p=true):YT p=false:=by
 cases hd:YT p
 ·rfl
 ·rw [OB,if_pos hd] at h;cases h
theorem Qsq {B:List Bnd} {ls:List Fm} {p f:Fm} (hp:Qib ls p) (hf:FV f) {hs:List Hit} (e:pm B ls p f=some hs):HL hs:=by
 have hd:=Qhi hp.2.2.1;have hz:=hp.1.sz;have hn:=hp.1.2;refine ⟨?_,Qsp B ls 40 p hp.1.1 hd (by omega) hn f hf hs e⟩;rw [Qbp B ls 40 p hp.1.1 hd f hs e];have:=BL ls p;omega
open Classical in
noncomputable def F7 (B:List Bnd) (ls:List Fm) (rs:List Rul) (f:Fm):Option Nat :=
 if BV B/\Fp ls rs/\FV f then rs.findIdx? (fun r=>(pm B ls r.pat f).isSome) else none
open Classical in
noncomputable def Qfl (B:List Bnd) (ls:List Fm) (rs:List Rul) (f:Fm):Option Fm :=
 match F7 B ls rs f with
 | none=>none
 | some j=>match pm B ls (rs.getD j ⟨default,default⟩).pat f with
  | none=>none
  | some hs=>match fl (rs.getD j ⟨default,default⟩).tpl hs with
   | none=>none
   | some g=>if FV g then some g else none
theorem UJ {B:List Bnd} {ls:List Fm} {rs:List Rul} {f:Fm} {j:Nat} (h:F7 B ls rs f=some j):BV B/\Fp ls rs/\FV f/\∃hj:j < rs.length,∃hs,pm B ls rs[j].pat f=some hs:=by
 unfold F7 at h;split at h
 ·rename_i hc;obtain ⟨hj,h1,_⟩:=Xj.1 h;exact ⟨hc.1,hc.2.1,hc.2.2,hj,Option.isSome_iff_exists.1 h1⟩
 ·cases h
theorem Oa {B:List Bnd} (hB:BS B) {ls:List Fm} (hls:FS ls) {rs:List Rul} (hrs:RS rs) {f:Fm} (hf:f.sz<=100000):Tot (Ix B rs ls f) fun r=>match F7 B ls rs f with | some j=>r=((j:Int),true) | none=>r.2=false:=by
 rw [Ix]
 have bad:¬(BV B/\Fp ls rs/\FV f)->Tot (some (0,false):Option (Int × Bool)) fun r=>match F7 B ls rs f with | some j=>r=((j:Int),true) | none=>r.2=false:=fun h=>⟨_,rfl,by unfold F7;rw [if_neg h]⟩
 refine ZN (B3 hB) fun b hb=>?_;cases b
 ·simp only [ZZ,if_true,Yf,X8]
  exact bad fun h=>by have:=hb.2 h.1;cases this
 simp only [Z0,Qo,if_false];obtain ⟨b2,e2,hb2⟩:=Oy hls hrs;rw [e2];simp only [Yf,X8];cases b2
 ·simp only [ZZ,if_true,Yf,X8]
  exact bad fun h=>by have:=hb2.2 h.2.1;cases this
 simp only [Z0,Qo,if_false];obtain ⟨b3,e3,hb3⟩:=Ao (f:=f) (by omega);rw [e3];simp only [Yf,X8];cases b3
 ·simp only [ZZ,if_true]
  exact bad fun h=>by have:=hb3.2 h.2.2;cases this
 simp only [Z0,Qo,if_false];have hro:=hb2.1 rfl;have hfv:=hb3.1 rfl;rw [FB _ _ _ _ (by have:=hrs.1;omega)]
 have e:F7 B ls rs f=rs.findIdx? (fun r=>(pm B ls r.pat f).isSome):=by unfold F7;rw [if_pos ⟨hb.1 rfl,hro,hfv⟩]
 rw [e]
 have key:∀(l:List Rul) (i:Nat),(∀r∈l,∀i r2,Wr B rs ls f i (r :: r2)=if (pm B ls r.pat f).isSome=true then some (.inl ((i:Int),true)) else Wr B rs ls f (i+1) r2)->Wr B rs ls f i l=some (match l.findIdx? (fun r=>(pm B ls r.pat f).isSome) with | some j=>.inl (((i+j:Nat):Int),true) | none=>.inr ()):=by
  intro l
  induction l with
  | nil=>intro i _;rfl
  | cons r l ih =>
   intro i hc;rw [hc r (KF ..),Xn];cases (pm B ls r.pat f).isSome
   ·rw [if_neg (by simp),ih (i+1) (fun y hy=>hc y (Kh _ hy))]
    cases l.findIdx? (fun r=>(pm B ls r.pat f).isSome) with
    | none=>rfl
    | some j=>simp only [Qo,if_false,Qu];congr 4;omega
   ·rfl
 rw [key rs 0 (fun r hr i r2=>by
  have hp:=(hro.2.1 r hr).1;obtain ⟨x,hx,hmr⟩:=Rz hB hls 40 r.pat hp.1.1 (by have:=hp.1.sz;omega) hp.1.2 hp.2.2.1 f (by have:=hfv.sz;omega);rw [Wr];simp only [Yf,X8];rw [hx];simp only [X8]
  cases hpm:pm B ls r.pat f with
  | none=>rw [hpm] at hmr;have:x.2=false:=hmr;rw [this];rfl
  | some hs=>rw [hpm] at hmr;have:x=(hs,true):=hmr;rw [this];rfl),X8]
 cases rs.findIdx? (fun r=>(pm B ls r.pat f).isSome) with
 | none=>exact ⟨_,rfl,rfl⟩
 | some j=>exact ⟨_,rfl,by simp⟩
theorem Uv {B:List Bnd} (hB:BS B) {ls:List Fm} (hls:FS ls) {rs:List Rul} (hrs:RS rs) (hrl:rs.length<=1000000) {f:Fm} (hf:f.sz<=100000):Tot (IT B rs ls f) fun r=>match Qfl B ls rs f with | some g=>r=(g,true)/\FV g | none=>r.2=false:=by
 rw [IT,UU rs hrs hrl,X8];obtain ⟨x,hx,hx2⟩:=Oa hB hls hrs hf;rw [hx,X8];unfold Qfl
 cases hfst:F7 B ls rs f with
 | none =>
  rw [hfst] at hx2;simp only at hx2;rw [hx2];simp only [ZZ,if_true];exact ⟨_,rfl,rfl⟩
 | some j =>
  rw [hfst] at hx2;simp only at hx2;subst hx2;obtain ⟨hBV,hro,hfv,hj,hs,hpm⟩:=UJ hfst;have hru:=hro.2.1 _ (ZU hj);have hp:=hru.1;obtain ⟨y,hy,hmr⟩:=Rz hB hls 40 rs[j].pat hp.1.1 (by have:=hp.1.sz;omega) hp.1.2 hp.2.2.1 f (by have:=hfv.sz;omega);rw [hpm] at hmr;have:y=(hs,true):=hmr;subst this;simp only [Jr hj,hpm,Z0,Qo,if_false,Yk rs j hj,X8,hy];have htp:=hru.2.2.2.1;obtain ⟨z,hz,hfr⟩:=Qc2 40 rs[j].tpl htp.ln (by have:=htp.sz;omega) (Qsq hp hfv hpm);rw [hz];simp only [X8]
  cases hfl:fl rs[j].tpl hs with
  | none =>
   rw [hfl] at hfr;have:z.2=false:=hfr.1;rw [this];simp only [ZZ,if_true,Yf,X8];exact ⟨_,rfl,rfl⟩
  | some g =>
   rw [hfl] at hfr;obtain ⟨h1,h2,h3⟩:=hfr;subst h1;have:=LN.sz _ _ h2;simp only [Z0,Qo,if_false];obtain ⟨b3,e3,hb3⟩:=Ao (f:=g) (by omega);rw [e3];simp only [Yf,X8];cases b3
   ·simp only [ZZ,if_true];exact ⟨_,rfl,by rw [if_neg (fun h=>by have:=hb3.2 h;cases this)]⟩
   ·simp only [Z0,Qo,if_false];exact ⟨_,rfl,by rw [if_pos (hb3.1 rfl)];exact ⟨rfl,hb3.1 rfl⟩⟩
end Go.Proofs.SA
namespace Go.Proofs.Shadow
mutual
def Cor.nodes:Cor->Nat
 | .mk _ _ _ _ _ _ ks=>1+Cor.AW ks
def Cor.AW:List Cor->Nat
 | []=>0
 | f :: fs=>f.nodes+Cor.AW fs
end
theorem Cor.IS:∀ks,Cor.AW ks=VF Cor.nodes ks
 | []=>rfl
 | f :: fs=>by rw [Cor.AW,VF,Cor.IS fs]
theorem Cor.Vr (c:Cor):c.nodes=1+VF Cor.nodes c.kids:=by cases c;rw [Cor.nodes,Cor.IS];rfl
instance:Inhabited Mac:=⟨⟨0,[],[]⟩⟩
def Ry (l:List Mac) (id:Int):Int:=match l.findIdx? (fun m=>decide (m.id=id)) with | some j=>(j:Int) | none=>-1
def DK (x:Xpn) (n:Fm):Int × Int :=
 if (findF x.binds n).2=0 then (0,0) else if (findF x.binds n).2=2 then (4,0)
 else if (x.binds.getD (findF x.binds n).1.toNat default).id<=5 then (1,(x.binds.getD (findF x.binds n).1.toNat default).id)
 else if Ry x.macs (x.binds.getD (findF x.binds n).1.toNat default).id≥0 then (2,(x.binds.getD (findF x.binds n).1.toNat default).id)
 else (3,(x.binds.getD (findF x.binds n).1.toNat default).id)
theorem Qno {l:List Mac} {id:Int} (h:Ry l id≥0):Ry l id < l.length/\(l.getD (Ry l id).toNat default).id=id:=by
 unfold Ry at *
 cases hf:l.findIdx? (fun m=>decide (m.id=id)) with
 | none=>rw [hf] at h;simp at h
 | some j =>
  obtain ⟨hj,h1,_⟩:=Xj.1 hf;simp only [Int.toNat_natCast];refine ⟨by omega,?_⟩;rw [List.getD_eq_getElem?_getD,List.getElem?_eq_getElem hj];simpa using h1
theorem Qg5 {x:Xpn} {n:Fm} (h:(DK x n).1=2):Ry x.macs (DK x n).2≥0:=by
 unfold DK at *;split at h
 ·cases h
 ·rename_i h1;rw [if_neg h1];split at h
  ·cases h
  ·rename_i h2;rw [if_neg h2];split at h
   ·cases h
   ·rename_i h3;rw [if_neg h3];split at h
    ·rename_i h4;rw [if_pos h4];exact h4
    ·cases h
end Go.Proofs.Shadow
namespace Go.Proofs.SA
theorem Qg3 (x:Xpn) (id:Int) (h:Sm x.macs.length):AK x id=some (Ry x.macs id):=by
 have key:∀(l:List Mac) (i:Nat),G8 x id i l=some (match l.findIdx? (fun m=>decide (m.id=id)) with | some j=>.inl ((i+j:Nat):Int) | none=>.inr ()):=by
  intro l
  induction l with
  | nil=>intro i;rfl
  | cons m l ih =>
   intro i;rw [G8,Yf,X8,Xn]
   by_cases hm:m.id=id
   ·rw [if_pos hm,decide_eq_true hm];rfl
   ·rw [if_neg hm,decide_eq_false hm,ih]
    cases l.findIdx? (fun m=>decide (m.id=id)) with
    | none=>rfl
    | some j=>simp only [Qo,if_false,Qu];congr 3;omega
 rw [AK,MC _ _ (by omega),key x.macs 0,X8,Ry]
 cases x.macs.findIdx? (fun m=>decide (m.id=id)) with
 | none=>rfl
 | some j=>simp only [Nat.zero_add];rfl
theorem Qgm (l:List Bnd) (n:Fm):(findF l n).2=0∨(findF l n).2=1∨(findF l n).2=2:=by
 unfold findF;split
 ·exact .inr (.inl rfl)
 ·split
  ·exact .inl rfl
  ·exact .inr (.inr rfl)
theorem Qbg (x:Xpn) (n:Fm) (h:BS x.binds) (hn:Sm n.sc.length) (hm:Sm x.macs.length):IC x n=some (DK x n):=by
 rw [IC,R9 x.binds n h hn,X8,DK]
 by_cases h0:(findF x.binds n).2=0
 ·rw [if_pos h0,if_pos h0];rfl
 rw [if_neg h0,if_neg h0]
 by_cases h2:(findF x.binds n).2=2
 ·rw [if_pos h2,if_pos h2];rfl
 have h1:(findF x.binds n).2=1:=by have:=Qgm x.binds n;omega
 have hr:=DG h1;rw [if_neg h2,if_neg h2,CG (l:=x.binds) hr.1 hr.2,X8]
 by_cases h3:(x.binds.getD (findF x.binds n).1.toNat default).id<=5
 ·rw [if_pos h3,if_pos h3];rfl
 ·rw [if_neg h3,if_neg h3,Qg3 x _ hm,X8]
  by_cases h4:Ry x.macs (x.binds.getD (findF x.binds n).1.toNat default).id≥0
  ·rw [if_pos h4,if_pos h4];rfl
  ·rw [if_neg h4,if_neg h4];rfl
def MS (m:Mac):Prop:=FS m.lits/\RS m.rules/\m.rules.length<=400
structure XI (x:Xpn):Prop where
 b:BV x.binds
 m:(x.macs.length:Int)+10<=x.id
 i:x.id<=999
 s0:0<=x.scope
 s1:x.scope<=99
 t0:0<=x.steps
 t1:x.steps<=60
 mm:∀m∈x.macs,MS m
theorem XI.sm {x:Xpn} (h:XI x):Sm x.macs.length:=by have:=h.m;have:=h.i;unfold Sm;omega
inductive Qeg:Cor->Prop
 | mk {k i:Int} {s:ByteArray} {n:Int} {l:List Int} {d:Fm} {ks:List Cor} (hs:s.size<=12) (hl:l.length<=400) (hd:LN 40 d) (hn:d.nodes<=400) (hk:ks.length<=400) (h:∀x∈ks,Qeg x):Qeg (.mk k i s n l d ks)
theorem Qrj:LN 40 (KU 0 (Qd #[]) 0 [] [])/\(KU 0 (Qd #[]) 0 [] []).nodes<=400:=by
 have z:(KU 0 (Qd #[]) 0 [] []).name.size=0:=rfl;exact ⟨⟨by rw [z];omega,by show 0<=24;omega,fun k hk=>by cases hk⟩,by decide⟩
theorem UF (k i:Int) (s:ByteArray) (hs:s.size<=12) (n:Int) (l:List Int) (hl:l.length<=400) (ks:List Cor) (hk:ks.length<=400) (h:∀x∈ks,Qeg x):Qeg (.mk k i s n l (KU 0 (Qd #[]) 0 [] []) ks):=.mk hs hl Qrj.1 Qrj.2 hk h
theorem e0:(Qd #[]).size<=12:=by decide
def P7 (x:Xpn) (n:Nat) (r:Xpn × Cor × Int):Prop:=r.2.2=0->XI r.1/\x.steps<=r.1.steps/\Qeg r.2.1/\(r.2.1.nodes:Int)<=n+400 * (r.1.steps - x.steps)
theorem P7.bad {x y:Xpn} {n:Nat} {c:Cor} {e:Int} (h:e≠0):P7 x n (y,c,e):=fun h2=>absurd h2 h
theorem FV.smc {f:Fm} (h:FV f):Sm f.sc.length:=by have:=h.sz;have:=Fm.TZ f;unfold Sm;omega
theorem Qdb {x:Xpn} (hx:XI x) {f:Fm} (hf:FV f):Tot (Cs x f) (P7 x 1):=by
 have hn:f.name.size<=12:=hf.ln.1;rw [Cs,Qbg x f hx.b.bs hf.smc hx.sm,X8];split
 ·exact ⟨_,rfl,fun _=>⟨hx,Xm _,UF _ _ _ hn _ _ (by simp) _ (by simp) (by simp),by simp [Cor.Vr,Cor.kids,VF]⟩⟩
 ·split
  ·exact ⟨_,rfl,fun _=>⟨hx,Xm _,UF _ _ _ e0 _ _ (by simp) _ (by simp) (by simp),by simp [Cor.Vr,Cor.kids,VF]⟩⟩
  ·split
   ·exact ⟨_,rfl,.bad (by decide)⟩
   ·exact ⟨_,rfl,.bad (by decide)⟩
theorem Rr {x:Xpn} (hx:XI x) {f:Fm} (hf:f.sz < 1000000):Tot (IY x f) fun r=>r.2=0->r.1=⟨x.binds++[⟨f.name,f.sc,x.id+1⟩],x.macs,x.scope,x.id+1,x.steps⟩/\BV r.1.binds/\r.1.id<=999:=by
 have hi:=hx.i;have hm:=hx.m;rw [IY];split
 ·exact ⟨_,rfl,fun h=>by cases h⟩
 ·rw [Y3 (by omega) (by omega)];have hbl:=hx.b.1;refine ZN (SS hx.b.bs (by omega) (by omega) _) fun r hr=>?_
  rcases hr with ⟨h1,h2,h3,h4,h5,h6⟩ | ⟨h1,_,_⟩
  ·rw [h1];simp only [Z0,Qo,if_false];refine ⟨_,rfl,fun _=>⟨by rw [h2],by rw [h2];exact h6,?_⟩⟩;have:=(h6.2.1 _ (List.mem_append_right _ (ZI.2 rfl))).2.2.2;exact this
  ·rw [h1];simp only [ZZ,if_true];exact ⟨_,rfl,fun h=>by cases h⟩
theorem DC {f:Fm} (h:FV f) (s w:Int):(chg s w f).sz<=16000:=by have:=Qpm s w f;have:=h.sz;have:=h.2;omega
theorem Qna {names:List Fm} (hn:∀n∈names,FV n) (hl:names.length<=400) (body:Fm) (b:Int):∀(r:List Fm) (i:Nat) (x:Xpn) (z:List Int),XI x->(∀n∈r,FV n)->z.length+r.length<=400 ->
  Tot (Hz names body b x.binds x.macs x.scope x.id x.steps z i r) fun o=>match o with
   | .inl q=>q.2.2≠0
   | .inr (q0,q1,q2,q3,q4,z')=>XI ⟨q0,q1,q2,q3,q4⟩/\q4=x.steps/\z'.length=z.length+r.length/\q2=x.scope:=by
 intro r
 induction r with
 | nil=>intro i x z hx _ _;rw [Hz];exact ⟨_,rfl,hx,rfl,by simp,rfl⟩
 | cons n r ih =>
  intro i x z hx hr hz;simp only [ZR] at hz;have hfn:=hr n (KF ..);rw [Hz,Yf,X8]
  by_cases hk:n.kind=1
  rotate_left
  ·rw [if_neg hk];exact ⟨_,rfl,fun h=>by simp at h⟩
  have hcs:=DC hfn x.scope 0;rw [if_pos hk,X8,B4 _ _ n (by have:=hfn.sz;omega),X8];refine ZN (Ao (by omega)) fun b1 hb1=>?_;cases b1
  ·simp only [ZZ,if_true];exact ⟨_,rfl,fun h=>by simp at h⟩
  simp only [Z0,Qo,if_false];refine ZN (Rr hx (f:=chg x.scope 0 n) (by omega)) fun q hq=>?_
  by_cases h0:q.2=0
  ·rw [if_pos h0];obtain ⟨h1,h2,h3⟩:=hq h0;rw [Y6 (by simp;omega),X8]
   have hx2:XI q.1:=by
    rw [h1] at h2 h3 ⊢;have:=hx.m;exact ⟨h2,by show (x.macs.length:Int)+10<=x.id+1;omega,h3,hx.s0,hx.s1,hx.t0,hx.t1,hx.mm⟩
   refine (ih (i+1) q.1 (z++[q.1.id]) hx2 (fun y hy=>hr y (Kh _ hy)) (by simp;omega)).mono fun o ho=>?_
   cases o with
   | inl q2=>exact ho
   | inr q2 =>
    obtain ⟨a1,a2,a3,a4⟩:=ho;refine ⟨a1,?_,?_,?_⟩
    ·rw [a2,h1]
    ·rw [a3];simp;omega
    ·rw [a4,h1]
  ·rw [if_neg h0];exact ⟨_,rfl,h0⟩
theorem Qhg {x:Xpn} (hx:XI x):I0 x=some (⟨x.binds,x.macs,x.scope+1,x.id,x.steps⟩,decide (x.scope+1<=99)):=by
 have:=hx.s0;have:=hx.s1;rw [I0,Y3 (by omega) (by omega)];rfl
theorem XI.scope {x:Xpn} (hx:XI x) (h:x.scope+1<=99):XI ⟨x.binds,x.macs,x.scope+1,x.id,x.steps⟩:=⟨hx.b,hx.m,hx.i,by have:=hx.s0;show 0<=x.scope+1;omega,h,hx.t0,hx.t1,hx.mm⟩
theorem Qgo {b s0:Int} {body:Fm} (hb:FV body) (hE:∀x f,XI x->s0<=x.steps->FV f->f.nodes=body.nodes->Tot (VC x f b) (P7 x f.nodes)) {names:List Fm} (hn:∀n∈names,FV n) (hl:names.length<=400) {x:Xpn} (hx:XI x) (hs:s0<=x.steps):Tot (Bp x names body b) (P7 x (body.nodes+1)):=by
 rw [Bp,Qhg hx,X8]
 by_cases h1:x.scope+1<=99
 rotate_left
 ·rw [decide_eq_false h1];simp only [ZZ,if_true];exact ⟨_,rfl,.bad (by decide)⟩
 rw [decide_eq_true h1];simp only [Z0,Qo,if_false];rw [OT _ _ _ _ _ _ _ _ _ (by omega)];obtain ⟨o,ho,hop⟩:=Qna hn hl body b names 0 _ [] (hx.scope h1) hn (by simp;omega);rw [ho,X8]
 cases o with
 | inl q=>exact ⟨_,rfl,fun h=>absurd h hop⟩
 | inr q =>
  obtain ⟨q0,q1,q2,q3,q4,z⟩:=q;obtain ⟨a1,a2,a3,a4⟩:=hop
  simp only
  have hcs:=DC hb q2 0;rw [B4 _ _ body (by have:=hb.sz;omega),X8];refine ZN (Ao (by omega)) fun b1 hb1=>?_;cases b1
  ·simp only [ZZ,if_true];exact ⟨_,rfl,.bad (by decide)⟩
  simp only [Z0,Qo,if_false];refine ZN (hE ⟨q0,q1,q2,q3,q4⟩ _ a1 (by show s0<=q4;rw [a2];exact hs) (hb1.1 rfl) (FX _ _ _)) fun r hr=>?_;refine ⟨_,rfl,fun h=>?_⟩;obtain ⟨c1,c2,c3,c4⟩:=hr h;have:q4=x.steps:=a2;have c2':q4<=r.1.steps:=c2;have c4':(r.2.1.nodes:Int)<=((chg q2 0 body).nodes:Int)+400 * (r.1.steps - q4):=c4;rw [FX] at c4';refine ⟨c1,?_,UF _ _ _ e0 _ _ (by rw [a3];simp;omega) _ (by simp) (fun y hy=>by rw [ZI.1 hy];exact c3),?_⟩
  ·show x.steps<=r.1.steps;omega
  ·show ((Cor.mk _ _ _ _ _ _ [r.2.1]).nodes:Int)<=_+400 * (r.1.steps - x.steps);rw [Cor.Vr];simp only [Cor.kids,VF];omega
theorem Qdp {f:Fm} (h:Qb7 f) (id:Int):MS ⟨id,(G0 f).1,(G0 f).2⟩:=by
 obtain ⟨hf,_,h2,_,_,h3,_⟩:=h
 have l1:1 < f.kids.length:=by omega
 have hkl:=hf.L9
 have e1:(G0 f).1=f.kids[1].kids:=by unfold G0;simp only [Jr l1]
 have hv1:=hf.kid (ZU l1);refine ⟨⟨by show Sm (G0 f).1.length;rw [e1];have:=hv1.L9;unfold Sm;omega,fun x hx=>?_⟩,⟨by show Sm (G0 f).2.length;unfold G0 Sm;rw [Xe,Xl];omega,fun x hx=>?_⟩,by show (G0 f).2.length<=400;unfold G0;rw [Xe,Xl];omega⟩
 ·have hx':x∈(G0 f).1:=hx;rw [e1] at hx';have:=(hv1.kid hx').sz;omega
 ·have hx':x∈(G0 f).2:=hx;unfold G0 at hx';obtain ⟨y,hy,rfl⟩:=QZ.1 hx';have q:=(h3 y hy).2;have hv:=hf.kid (QA hy)
  have j0:0 < y.kids.length:=by omega
  have j1:1 < y.kids.length:=by omega
  simp only [Jr j0,Jr j1];have:=(hv.kid (ZU j0)).sz;have:=(hv.kid (ZU j1)).sz;omega
theorem Qc9 {names vals:List Fm} (hn:∀n∈names,FV n) (hv:∀n∈vals,FV n) (hlen:vals.length=names.length) (hl:names.length<=400) (body:Fm) (b:Int):∀(r:List Fm) (i:Nat) (x:Xpn),names.drop i=r->XI x ->
  Tot (Jw names vals body b x.binds x.macs x.scope x.id x.steps i r) fun o=>match o with
   | .inl q=>q.2.2≠0
   | .inr (q0,q1,q2,q3,q4)=>XI ⟨q0,q1,q2,q3,q4⟩/\q4=x.steps/\q2=x.scope:=by
 intro r
 induction r with
 | nil=>intro i x _ hx;rw [Jw];exact ⟨_,rfl,hx,rfl,rfl⟩
 | cons n r ih =>
  intro i x hd hx
  have hi:i < names.length:=by
   rcases Nat.lt_or_ge i names.length with h | h
   ·exact h
   ·rw [KR h] at hd;cases hd
  rw [ZL hi] at hd
  injection hd with e1 e2
  have hfn:FV n:=hn n (e1▸ZU hi)
  have hiv:i < vals.length:=by omega
  have hfv:=hv _ (ZU hiv);have hcs:=DC hfn x.scope 0;have hcv:=DC hfv x.scope 0;rw [Jw,Yf,X8,B4 _ _ n (by have:=hfn.sz;omega),X8,Yk _ i hiv,X8,B4 _ _ _ (by have:=hfv.sz;omega),X8,X8]
  by_cases hk:n.kind=1
  rotate_left
  ·rw [if_neg hk];exact ⟨_,rfl,fun h=>by simp at h⟩
  rw [if_pos hk];refine ZN (Ao (by omega)) fun b1 hb1=>?_;cases b1
  ·simp only [ZZ,if_true,Yf,X8];exact ⟨_,rfl,fun h=>by simp at h⟩
  simp only [Z0,Qo,if_false];obtain ⟨b2,e3,hb2⟩:=Ao (f:=chg x.scope 0 vals[i]) (by omega);rw [e3];simp only [Yf,X8];cases b2
  ·simp only [ZZ,if_true];exact ⟨_,rfl,fun h=>by simp at h⟩
  simp only [Z0,Qo,if_false];obtain ⟨p,hp,hpp⟩:=UY (f:=chg x.scope 0 vals[i]) (by omega);rw [hp];simp only [X8]
  rcases hpp with ⟨hrf,rfl⟩ | ⟨_,hpf⟩
  rotate_left
  ·rw [hpf];simp only [ZZ,if_true];exact ⟨_,rfl,fun h=>by simp at h⟩
  simp only [Z0,Qo,if_false];obtain ⟨q,hq1,hq⟩:=Rr hx (f:=chg x.scope 0 n) (by omega);rw [hq1];simp only [X8]
  by_cases h0:q.2=0
  ·rw [if_pos h0];obtain ⟨h1,h2,h3⟩:=hq h0;have hml:=hx.m;have hil:=hx.i;rw [Y6 (by rw [h1];simp;omega)];simp only [X8,QU];rw [Y6 (by rw [h1];simp;omega)];simp only [X8]
   have hx2:XI ⟨q.1.binds,q.1.macs++[⟨q.1.id,(G0 (chg x.scope 0 vals[i])).1,(G0 (chg x.scope 0 vals[i])).2⟩],q.1.scope,q.1.id,q.1.steps⟩:=by
    rw [h1] at h2 h3 ⊢;refine ⟨h2,by simp;omega,h3,hx.s0,hx.s1,hx.t0,hx.t1,fun m hm=>?_⟩
    rcases QS.1 hm with hm | hm
    ·exact hx.mm m hm
    ·rw [ZI.1 hm];exact Qdp hrf _
   refine (ih (i+1) _ e2 hx2).mono fun o ho=>?_
   cases o with
   | inl q2=>exact ho
   | inr q2 =>
    obtain ⟨a1,a2,a3⟩:=ho;refine ⟨a1,?_,?_⟩
    ·rw [a2,h1]
    ·rw [a3,h1]
  ·rw [if_neg h0];exact ⟨_,rfl,h0⟩
theorem Tz {b s0:Int} {body:Fm} (hb:FV body) (hE:∀x f,XI x->s0<=x.steps->FV f->f.nodes=body.nodes->Tot (VC x f b) (P7 x f.nodes)) {names vals:List Fm} (hn:∀n∈names,FV n) (hv:∀n∈vals,FV n) (hlen:vals.length=names.length) (hl:names.length<=400) {x:Xpn} (hx:XI x) (hs:s0<=x.steps):Tot (A4 x names vals body b) (P7 x body.nodes):=by
 rw [A4,Qhg hx,X8]
 by_cases h1:x.scope+1<=99
 rotate_left
 ·rw [decide_eq_false h1];simp only [ZZ,if_true];exact ⟨_,rfl,.bad (by decide)⟩
 rw [decide_eq_true h1];simp only [Z0,Qo,if_false];rw [LF _ _ _ _ _ _ _ _ _ (by omega)];obtain ⟨o,ho,hop⟩:=Qc9 hn hv hlen hl body b names 0 _ (List.drop_zero ..) (hx.scope h1);rw [ho,X8]
 cases o with
 | inl q=>exact ⟨_,rfl,fun h=>absurd h hop⟩
 | inr q =>
  obtain ⟨q0,q1,q2,q3,q4⟩:=q;obtain ⟨a1,a2,a4⟩:=hop
  simp only
  have hcs:=DC hb q2 0;rw [B4 _ _ body (by have:=hb.sz;omega),X8];refine ZN (Ao (by omega)) fun b1 hb1=>?_;cases b1
  ·simp only [ZZ,if_true];exact ⟨_,rfl,.bad (by decide)⟩
  simp only [Z0,Qo,if_false];refine ZN (hE ⟨q0,q1,q2,q3,q4⟩ _ a1 (by show s0<=q4;rw [a2];exact hs) (hb1.1 rfl) (FX _ _ _)) fun r hr=>?_;refine ⟨_,rfl,fun h=>?_⟩;obtain ⟨c1,c2,c3,c4⟩:=hr h;have:q4=x.steps:=a2;have c2':q4<=r.1.steps:=c2;have c4':(r.2.1.nodes:Int)<=((chg q2 0 body).nodes:Int)+400 * (r.1.steps - q4):=c4;rw [FX] at c4';exact ⟨c1,by show x.steps<=r.1.steps;omega,c3,by show (r.2.1.nodes:Int)<=_+400 * (r.1.steps - x.steps);omega⟩
def PA (x:Xpn) (l:List Fm) (r:Xpn × List Cor × Int):Prop:=r.2.2=0->XI r.1/\x.steps<=r.1.steps/\r.2.1.length=l.length/\(∀c∈r.2.1,Qeg c)/\(VF Cor.nodes r.2.1:Int)<=VF ZW l+400 * (r.1.steps - x.steps)
theorem Qe3 {b s0:Int} {l:List Fm} (hE:∀x f,XI x->s0<=x.steps->f∈l->Tot (VC x f b) (P7 x f.nodes)) (hl:l.length<=400) {x:Xpn} (hx:XI x) (hs:s0<=x.steps):Tot (HZ x l b) (PA x l):=by
 have loop:∀(r:List Fm) (i:Nat) (y:Xpn) (z:List Cor),(∀f∈r,f∈l)->XI y->s0<=y.steps->x.steps<=y.steps->z.length+r.length<=400->(∀c∈z,Qeg c)->(VF Cor.nodes z:Int)+VF ZW r<=VF ZW l+400 * (y.steps - x.steps) ->
   Tot (Hy l b y.binds y.macs y.scope y.id y.steps z i r) fun o=>match o with
    | .inl q=>q.2.2≠0
    | .inr (q0,q1,q2,q3,q4,z')=>XI ⟨q0,q1,q2,q3,q4⟩/\x.steps<=q4/\z'.length=z.length+r.length/\(∀c∈z',Qeg c)/\(VF Cor.nodes z':Int)<=VF ZW l+400 * (q4 - x.steps):=by
  intro r
  induction r with
  | nil=>intro i y z _ hy _ hxy _ hz hnn;rw [Hy];exact ⟨_,rfl,hy,hxy,by simp,hz,by simpa [VF] using hnn⟩
  | cons f r ih =>
   intro i y z hr hy hs hxy hzl hz hnn;rw [VF] at hnn;simp only [ZR] at hzl;rw [Hy,Yf,X8];refine ZN (hE ⟨y.binds,y.macs,y.scope,y.id,y.steps⟩ f hy hs (hr f (KF ..))) fun q hq=>?_
   by_cases h0:q.2.2=0
   ·rw [if_pos h0];obtain ⟨c1,c2,c3,c4⟩:=hq h0;have c2':y.steps<=q.1.steps:=c2;have c4':(q.2.1.nodes:Int)<=(f.nodes:Int)+400 * (q.1.steps - y.steps):=c4;rw [Y6 (by simp;omega),X8]
    refine (ih (i+1) q.1 (z++[q.2.1]) (fun g hg=>hr g (Kh _ hg)) c1 (by omega) (by omega) (by simp;omega) (fun c hc=>by
     rcases QS.1 hc with hc | hc
     ·exact hz c hc
     ·rw [ZI.1 hc];exact c3) (by rw [Cv];simp only [VF];omega)).mono fun o ho=>?_
    cases o with
    | inl q2=>exact ho
    | inr q2 =>
     obtain ⟨a1,a2,a3,a4,a5⟩:=ho;exact ⟨a1,a2,by rw [a3];simp;omega,a4,a5⟩
   ·rw [if_neg h0];exact ⟨_,rfl,h0⟩
 rw [HZ,OS _ _ _ _ _ _ _ _ (by omega)];obtain ⟨o,ho,hop⟩:=loop l 0 x [] (fun _ h=>h) hx hs (Xm _) (by simp;omega) (by simp) (by simp [VF]);rw [ho,X8]
 cases o with
 | inl q=>exact ⟨_,rfl,fun h=>absurd h hop⟩
 | inr q =>
  obtain ⟨q0,q1,q2,q3,q4,z⟩:=q;obtain ⟨a1,a2,a3,a4,a5⟩:=hop;exact ⟨_,rfl,fun _=>⟨a1,a2,by rw [a3];simp,a4,a5⟩⟩
end Go.Proofs.SA
