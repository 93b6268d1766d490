/- The reference's templates filled; the first rule; rules applied. -/
import Derived.Test.YthdghhllcllneaaGreatDoorRg
set_option linter.unusedVariables false
set_option linter.unusedSimpArgs false
set_option maxRecDepth 100000
open Go Go.Proofs Go.Proofs.Shadow
open _root_.Bool renaming false_eq_true → Qq, not_false → ZS, not_true → ZT, false_or → Z1
open _root_.List renaming getElem_mem → ZJ, mem_cons_of_mem → Kf, mem_cons_self → KB, mem_singleton → ZF, mem_append → QR, findIdx?_eq_some_iff_getElem → Xb, nil_append → QS, length_map → ZH, drop_eq_getElem_cons → Zw, range' → Xc, append_assoc → QD, length_cons → ZD, length_drop → Xd, length_pos_of_mem → ZX, mem_map → QX, drop_of_length_le → Zx, mem_of_mem_drop → QA, mem_cons → Kj, findIdx?_cons → Xf
open Fm renaming nodes → ZK, mk → KR
open _root_.Option renaming map_some → Qu, map_eq_some_iff → Qx
open _root_.ByteArray renaming mk → Qk
open Tot renaming bind → Zz
open _root_.Int renaming le_refl → Xe
namespace Go.Proofs.SA
def LN:Nat->Fm->Prop
 | 0,_=>False
 | d+1,f=>f.name.size<=12/\f.sc.length<=24/\∀k∈f.kids,LN d k
theorem LN.mono:∀(d e:Nat) (f:Fm),LN d f->d<=e->LN e f
 | 0,_,_,h,_=>h.elim
 | d+1,0,_,_,h=>by omega
 | d+1,e+1,f,h,hde=>⟨h.1,h.2.1,fun k hk=>LN.mono d e k (h.2.2 k hk) (by omega)⟩
theorem LN.sz:∀(d:Nat) (f:Fm),LN d f->f.sz+1<=37 * f.nodes
 | 0,_,h=>h.elim
 | d+1,f,h=>by
  rw [Fm.GR,Fm.YC]
  have hsum:∀l:List Fm,(∀g∈l,LN d g)->YY Fm.sz l+l.length<=37 * YY ZK l:=by
   intro l
   induction l with
   | nil=>intro _;exact Nat.le_refl _
   | cons g l ihl =>
    intro hg;have h1:=LN.sz d g (hg g (KB ..));have h2:=ihl (fun x hx=>hg x (Kf _ hx));simp only [YY,ZD];omega
  have:=hsum f.kids h.2.2;have:=h.1;have:=h.2.1;omega
theorem NV.size {s:ByteArray} (h:NV s):s.size<=12:=by
 rcases h with h | h | h
 ·rw [h];decide
 ·rw [h];decide
 ·exact h.2.1
theorem FIs.ln:∀(d:Nat) (f:Fm),FIs d f->LN d f
 | 0,_,h=>h.elim
 | d+1,f,h=>by
  have z:(Qk #[]).size=0:=rfl
  rcases h with h | h | h
  ·exact ⟨NV.size h.2.1,h.2.2.2.1.1,fun k hk=>by have:=ZX hk;omega⟩
  ·exact ⟨by rw [h.2.1,z];omega,by omega,fun k hk=>by have:=ZX hk;omega⟩
  ·exact ⟨by rw [h.2.1,z];omega,by omega,fun k hk=>FIs.ln d k (h.2.2.2.2 k hk)⟩
theorem FV.ln {f:Fm} (h:FV f):LN 40 f:=FIs.ln _ _ h.1
theorem Qsx (x:Fm):∀l:List Fm,((Fm.Qm9 l).any fun g=>decide (g.kind=1)&&decide (g=x))=l.any fun t=>Ll t x
 | []=>rfl
 | f :: l=>by rw [Fm.Qm9,List.any_append,List.any_cons,Qsx x l];rfl
theorem Qlj (t x:Fm):Ll t x=((decide (t.kind=1)&&decide (t=x))||t.kids.any fun k=>Ll k x):=by
 cases t;rw [Ll,Fm.all,List.any_cons,Qsx];rfl
theorem Qb6 (x:Fm):∀t:Fm,t.sz<=1000000->G0 t x=some (Ll t x):=by
 intro t
 induction t using Fm.ind with
 | h t ih =>
  intro ht;have hz:=Fm.GR t;rw [G0,Qlj]
  have rest:(JJ t x 0>>=fun o7=>match o7 with | .inl r=>pure r | .inr _=>(pure false):Option Bool)=some (t.kids.any fun k=>Ll k x):=by
   rw [M8 _ _ (by omega),De (HQ t x) (fun k=>Ll k x) true (fun _=>rfl) t.kids 0 (fun k hk i r=>by
    have:=Fm.G8 hk
    rw [HQ,Yd,X6,ih k hk (by omega),X6];rfl),X6]
   cases t.kids.any fun k=>Ll k x<;>rfl
  by_cases h1:t.kind=1
  ·rw [if_pos h1,Ez t (by omega)];simp only [Yd,X6,decide_eq_true h1,Bool.true_and]
   by_cases h2:t=x
   ·rw [decide_eq_true h2];rfl
   ·rw [decide_eq_false h2];simp only [Qq,if_false,Z1];exact rest
  ·rw [if_neg h1,decide_eq_false h1];simp only [Yd,X6,Qq,if_false,Bool.false_and,Z1];exact rest
inductive HB:Hit->Prop
 | mk {n:Fm} {d:Int} {o:Fm} {m:List Hit} (hn:n.sz<=100000) (h0:0<=d) (h1:d<=100000) (ho:LN 40 o) (hon:o.nodes<=400) (hm:m.length<=400) (hs:∀x∈m,HB x):HB (.mk n d o m)
theorem HB.out {h:Hit} (k:HB h):h.name.sz<=100000/\0<=h.depth/\h.depth<=100000/\LN 40 h.one/\h.one.nodes<=400/\h.many.length<=400/\∀x∈h.many,HB x:=by
 cases k;exact ⟨by assumption,by assumption,by assumption,by assumption,by assumption,by assumption,by assumption⟩
def HL (H:List Hit):Prop:=H.length<=400/\∀h∈H,HB h
theorem HL.hs {H:List Hit} (h:HL H):HS H:=⟨by have:=h.1;unfold Sm;omega,fun x hx=>by have:=(h.2 x hx).out;omega⟩
theorem Qgb {t:Fm} (ht:t.sz<=1000000) {H:List Hit} (hH:HL H):Ap t H=some (Dg t H (-1)):=by
 have loop:∀(r:List Hit),(∀x∈r,x∈H)->∀(n:Int) (i:Nat),Tot (J1 t H n i r) fun o=>match o with | .inl c=>c=Dg t r n | .inr c=>c=Dg t r n:=by
  intro r
  induction r with
  | nil=>intro _ n i;exact ⟨_,rfl,rfl⟩
  | cons h r ih =>
   intro hr n i;have hr':=fun x hx=>hr x (Kf h hx);rw [J1];simp only [Yd,X6]
   by_cases h0:h.depth=0
   ·rw [show Dg t (h :: r) n=Dg t r n by rw [Dg,if_pos (.inl h0)],if_pos h0];simp only [X6,if_true];exact ih hr' n (i+1)
   rw [if_neg h0,Qb6 h.name t ht];simp only [X6];cases hu:Ll t h.name
   ·rw [show Dg t (h :: r) n=Dg t r n by rw [Dg,if_pos (.inr hu)]];simp only [ZS,if_true];exact ih hr' n (i+1)
   simp only [ZT,Qq,if_false]
   have hno:¬(h.depth=0∨Ll t h.name=false):=by simp [h0,hu]
   by_cases h1:n≥0
   ·rw [if_pos h1]
    by_cases h2:n=(h.many.length:Int)
    ·rw [show Dg t (h :: r) n=Dg t r h.many.length by rw [Dg,if_neg hno,if_neg (fun h=>h.2 h2)]];simp only [h2,decide_true,ZT,X6,Qq,if_false];exact ih hr' _ (i+1)
    ·rw [show Dg t (h :: r) n=-1 by rw [Dg,if_neg hno,if_pos ⟨h1,h2⟩]];simp only [h2,decide_false,ZS,X6,if_true];exact ⟨_,rfl,rfl⟩
   ·rw [show Dg t (h :: r) n=Dg t r h.many.length by rw [Dg,if_neg hno,if_neg (fun h=>h1 h.1)],if_neg h1];simp only [X6,Qq,if_false];exact ih hr' _ (i+1)
 rw [Ap,Ma _ _ _ (by have:=hH.1;omega)];obtain ⟨o,ho,hop⟩:=loop H (fun _ h=>h) (-1) 0;rw [ho,X6]
 cases o with
 | inl c=>simp only at hop;rw [hop];rfl
 | inr c=>simp only at hop;rw [hop];rfl
theorem Nl (t:Fm):∀(H:List Hit) (n:Int),(∀h∈H,0<=h.depth)->0<=Dg t H n->(n=Dg t H n∨n < 0)/\∀h∈H,0 < h.depth->Ll t h.name=true->(h.many.length:Int)=Dg t H n
 | [],n,_,h=>by rw [Dg] at *;exact ⟨.inl rfl,fun _ hh=>by cases hh⟩
 | h :: H,n,hd,hc=>by
  have hd':=fun x hx=>hd x (Kf h hx);have h0:=hd h (KB ..);rw [Dg] at *;split
  ·rename_i hs;rw [if_pos hs] at hc;obtain ⟨a,b⟩:=Nl t H n hd' hc;refine ⟨a,fun x hx hx1 hx2=>?_⟩
   rcases Kj.1 hx with rfl | hx
   ·rcases hs with hs | hs
    ·omega
    ·rw [hs] at hx2;cases hx2
   ·exact b x hx hx1 hx2
  ·rename_i hs;rw [if_neg hs] at hc;split
   ·rename_i h2;rw [if_pos h2] at hc;omega
   ·rename_i h2;rw [if_neg h2] at hc;obtain ⟨a,b⟩:=Nl t H _ hd' hc
    have e:(h.many.length:Int)=Dg t H h.many.length:=by rcases a with a | a<;>omega
    refine ⟨?_,fun x hx hx1 hx2=>?_⟩
    ·by_cases hn:n < 0
     ·exact .inr hn
     ·exact .inl (by
       have:n=(h.many.length:Int):=Classical.byContradiction fun hne=>h2 ⟨by omega,hne⟩
       omega)
    ·rcases Kj.1 hx with rfl | hx
     ·exact e
     ·exact b x hx hx1 hx2
theorem Qos {t:Fm} (ht:t.sz<=1000000) {H:List Hit} (hH:HL H) {n:Nat} (hn:(n:Int) < Dg t H (-1)):BE t H n=some (Qbo t H n):=by
 have hall:=(Nl t H (-1) (fun h hh=>(hH.2 h hh).out.2.1) (by omega)).2
 rw [BE,Ow _ _ _ _ (by have:=hH.1;omega),G6 (GB t H n) (Qot t n) (fun _ _=>rfl) H [] 0 (fun x hx z i r hz=>by
  rw [GB];simp only [Yd,X6]
  have fin:∀y:Hit,(VO 192 z [Hit.mk (KR y.name.kind y.name.name y.name.num y.name.sc y.name.kids) y.depth (KR y.one.kind y.one.name y.one.num y.one.sc y.one.kids) y.many]>>=fun x38=>GB t H n x38 (i+1) r)=GB t H n (z++[y]) (i+1) r:=fun y=>by
   rw [Fm.eta,Fm.eta,Hit.eta,YA (by simp;omega),X6]
  by_cases hd:x.depth > 0
  ·rw [if_pos hd,Qb6 x.name t ht];simp only [X6];cases hu:Ll t x.name
   ·rw [show Qot t n x=x from if_neg (by simp [hu])];simp only [Qq,if_false,X6];exact fin x
   ·have hl:=hall x hx hd hu
    have hnl:n < x.many.length:=by omega
    rw [show Qot t n x=x.many[n] by unfold Qot;rw [if_pos ⟨hd,hu⟩,Vt hnl]];simp only [if_true,Yf _ n hnl,X6];exact fin x.many[n]
  ·rw [if_neg hd,show Qot t n x=x from if_neg (fun h=>hd h.1)];simp only [X6,Qq,if_false]
   exact fin x) (by have:=hH.1;simp;omega)]
 simp only [X6,Yd,QS];rfl
theorem HL.nth {t:Fm} {H:List Hit} (hH:HL H) {n:Nat} (hn:(n:Int) < Dg t H (-1)):HL (Qbo t H n):=by
 have hall:=(Nl t H (-1) (fun h hh=>(hH.2 h hh).out.2.1) (by omega)).2;refine ⟨by unfold Qbo;rw [ZH];exact hH.1,fun x hx=>?_⟩;unfold Qbo at hx;obtain ⟨y,hy,rfl⟩:=QX.1 hx;unfold Qot;split
 ·rename_i hc;have hl:=hall y hy hc.1 hc.2
  have hnl:n < y.many.length:=by omega
  rw [Vt hnl];exact (hH.2 y hy).out.2.2.2.2.2.2 _ (ZJ hnl)
 ·exact hH.2 y hy
theorem Uz (t:Fm):∀(H:List Hit) (n:Int),(∀h∈H,h.many.length<=400)->n<=400->Dg t H n<=400
 | [],n,_,h=>h
 | h :: H,n,hm,hn=>by
  have hm':=fun x hx=>hm x (Kf h hx);have:=hm h (KB ..);rw [Dg];split
  ·exact Uz t H n hm' hn
  ·split
   ·omega
   ·exact Uz t H _ hm' (by omega)
def FR (d:Nat) (o:Option Fm) (r:Fm × Bool):Prop:=match o with | some f=>r=(f,true)/\LN d f/\f.nodes<=401 | none=>r.2=false/\r.1.sz<=20000
theorem Qti (t:Fm) (H:List Hit):fl t H=match (if t.kind=1 then Qru H t else none) with
  | some h=>if h.depth=0 then some h.one else none
  | none=>match flL t.kids H with
   | none=>none
   | some out=>if YY ZK out<=400 then some (.mk t.kind t.name t.num t.sc out) else none:=by cases t;rw [fl.eq_def];rfl
theorem Qnu (H:List Hit):flL [] H=some []:=by rw [flL.eq_def]
theorem Qjy (t : Fm) (ts : List Fm) (H : List Hit) : flL (t :: ts) H = if Y8 t = true then flL ts H
    else if Js ts = true then
      (if Dg t H (-1) < 0 then none
       else match Mr (fun n => fl t (Qbo t H n)) (List.range (Dg t H (-1)).toNat) with
        | none => none
        | some ks => (flL ts H).map (ks ++ ·))
    else match fl t H with
      | none => none
      | some k => (flL ts H).map (k :: ·) := by
  conv => lhs; rw [flL.eq_def]
  rfl
theorem A6 {α:Type} (g:α->Nat) (a b:List α):YY g (a++b)=YY g a+YY g b:=Dx g a b
def FRL (d:Nat) (z:List Fm) (o:Option (List Fm)) (r:(Fm × Bool) ⊕ (List Fm)):Prop :=
 match o with
 | some ks=>if YY ZK (z++ks)<=400 then r=.inr (z++ks)/\∀k∈ks,LN d k else ∃x,r=.inl (x,false)/\x.sz<=20000
 | none=>∃x,r=.inl (x,false)/\x.sz<=20000
theorem Qc7:∀(d:Nat) (t:Fm),LN d t->t.sz<=20000->∀{H:List Hit},HL H->Tot (Ak t H) (FR (d+40) (fl t H)):=by
 intro d
 induction d with
 | zero=>intro t h;exact h.elim
 | succ d ih =>
  intro t hln ht H hH;have hz:=Fm.GR t;rw [Ak,Qti]
  have rest:Tot ((VO 8 [] t.sc>>=fun x45=>(WO t H x45 [] 0 0>>=fun o42=>match o42 with | .inl r=>pure r | .inr Qa3=>(pure (KR t.kind t.name t.num x45 Qa3,true)))):Option (Fm × Bool)) (FR (d+1+40) (match flL t.kids H with | none=>none | some out=>if YY ZK out<=400 then some (.mk t.kind t.name t.num t.sc out) else none)):=by
   rw [YA (by simp;omega),X6,QS];have kidf:∀f∈t.kids,LN d f/\f.sz<=20000:=fun f hf=>⟨hln.2.2 f hf,by have:=Fm.G8 hf;omega⟩
   have loop:∀(r:List Fm) (i:Nat) (z:List Fm),t.kids.drop i=r->YY ZK z<=400->Tot (JM t H t.sc z ((YY ZK z:Nat):Int) i r) (FRL (d+40) z (flL r H)):=by
    intro r
    induction r with
    | nil=>intro i z _ hzz;rw [Qnu];refine ⟨_,rfl,?_⟩;unfold FRL;simp only;rw [if_pos (by simpa using hzz)];exact ⟨by simp,fun k hk=>by cases hk⟩
    | cons f r ihr =>
     intro i z hd hzz;have hd0:=hd
     have hi:i < t.kids.length:=by
      rcases Nat.lt_or_ge i t.kids.length with h | h
      ·exact h
      ·rw [Zx h] at hd;cases hd
     rw [Zw hi] at hd
     injection hd with e1 e2
     have hm:f∈t.kids:=e1▸ZJ hi;obtain ⟨hfl,hfz⟩:=kidf f hm;rw [JM,Qjy];simp only [Yd,X6,Cu];cases hq:Y8 f;rotate_left
     ·simp only [if_true];exact ihr (i+1) z e2 hzz
     simp only [Qq,if_false];have hnx:=Sh hd0 (by omega);simp only [Yd,X6,Cu] at hnx;rw [hnx];simp only [X6];have hzl:=W1 z
     have inner:∀(row:Bool) (c:Nat),c<=400->(∀n:Nat,n < c->((if row=true then (idx t.kids (i:Int)>>=fun x96=>(BE x96 H n>>=fun x100=>some x100)) else some H:Option (List Hit))=some (if row=true then Qbo f H n else H)/\HL (if row=true then Qbo f H n else H))) ->
       ∀(m k:Nat) (z:List Fm),k+m=c->YY ZK z<=400->Tot (WQ t H t.sc (i:Int) row (c:Int) z (k:Int) ((YY ZK z:Nat):Int)) fun o=>match Mr (fun n=>fl f (if row=true then Qbo f H n else H)) (Xc k m) with
        | some ks=>if YY ZK (z++ks)<=400 then o=.inr (z++ks,((YY ZK (z++ks):Nat):Int))/\∀x∈ks,LN (d+40) x else ∃x,o=.inl (x,false)/\x.sz<=20000
        | none=>∃x,o=.inl (x,false)/\x.sz<=20000:=by
      intro row c hc hn m
      induction m with
      | zero =>
       intro k z hk hzz;rw [WQ,if_neg (by omega)];refine ⟨_,rfl,?_⟩;rw [show Xc k 0=[] from rfl,Mr];simp only [List.append_nil];rw [if_pos hzz];exact ⟨by simp,fun x hx=>by cases hx⟩
      | succ m ihm =>
       intro k z hk hzz;have hzl:=W1 z;obtain ⟨q1,q2⟩:=hn k (by omega);rw [WQ,if_pos (by omega)];simp only [Yd];rw [q1];simp only [X6,Yf _ i hi,e1];obtain ⟨r,hr,hfr⟩:=ih f hfl hfz q2;rw [hr];simp only [X6];rw [List.range'_succ,Mr]
       have hsz:r.1.sz < 1000000000:=by
        cases hf:fl f (if row=true then Qbo f H k else H) with
        | none=>rw [hf] at hfr;have:=hfr.2;omega
        | some g=>rw [hf] at hfr;have h1:=hfr.1;have h2:=LN.sz _ _ hfr.2.1;have:=hfr.2.2;rw [h1];show g.sz < _;omega
       rw [Qai _ hsz];simp only [X6]
       cases hf:fl f (if row=true then Qbo f H k else H) with
       | none =>
        rw [hf] at hfr;have:r.2=false:=hfr.1;rw [this];simp only [ZS,Bool.true_or,if_true];exact ⟨_,rfl,t,rfl,ht⟩
       | some g =>
        rw [hf] at hfr;obtain ⟨h1,h2,h3⟩:=hfr;subst h1;simp only [ZT,Z1];have hgz:=Bd g;rw [YB (by omega) (by omega)]
        have e3:YY ZK (z++[g])=YY ZK z+g.nodes:=by rw [A6];simp [YY]
        by_cases hbig:((YY ZK z:Nat):Int)+(g.nodes:Int) > 400
        ·rw [decide_eq_true hbig];simp only [if_true];refine ⟨_,rfl,?_⟩
         cases hall:Mr (fun n=>fl f (if row=true then Qbo f H n else H)) (Xc (k+1) m) with
         | none=>exact ⟨t,rfl,ht⟩
         | some ks =>
          simp only [Qu];rw [if_neg (by rw [A6,YY];omega)];exact ⟨t,rfl,ht⟩
        ·rw [decide_eq_false hbig];simp only [Qq,if_false];rw [YA (by simp;omega)];simp only [X6];rw [Ws (i:=k) (by omega),show ((YY ZK z:Nat):Int)+(g.nodes:Int)=((YY ZK (z++[g]):Nat):Int) by rw [e3];omega];obtain ⟨o,ho,hop⟩:=ihm (k+1) (z++[g]) (by omega) (by omega);refine ⟨o,ho,?_⟩
         cases hall:Mr (fun n=>fl f (if row=true then Qbo f H n else H)) (Xc (k+1) m) with
         | none=>rw [hall] at hop;exact hop
         | some ks =>
          rw [hall] at hop;simp only [Qu,QD,List.singleton_append] at hop ⊢;split
          ·rename_i hle;rw [if_pos hle] at hop
           exact ⟨hop.1,fun x hx=>by
            rcases Kj.1 hx with rfl | hx
            ·exact h2
            ·exact hop.2 x hx⟩
          ·rename_i hle;rw [if_neg hle] at hop;exact hop
     have after:∀(row:Bool) (c:Nat) (ks?:Option (List Fm)),(Tot (WQ t H t.sc (i:Int) row (c:Int) z 0 ((YY ZK z:Nat):Int)) fun o=>match ks? with
        | some ks=>if YY ZK (z++ks)<=400 then o=.inr (z++ks,((YY ZK (z++ks):Nat):Int))/\∀x∈ks,LN (d+40) x else ∃x,o=.inl (x,false)/\x.sz<=20000
        | none=>∃x,o=.inl (x,false)/\x.sz<=20000) ->
       Tot ((WQ t H t.sc (i:Int) row (c:Int) z 0 ((YY ZK z:Nat):Int)>>=fun o37=>match o37 with | .inl r=>some (Sum.inl r) | .inr (EP,NY)=>(JM t H t.sc EP NY (i+1) r)):Option ((Fm × Bool) ⊕ (List Fm))) (FRL (d+40) z (match ks? with | none=>none | some ks=>(flL r H).map (ks ++ ·))):=fun row c ks? h=>by
      obtain ⟨o,ho,hop⟩:=h;rw [ho,X6]
      cases ks? with
      | none=>obtain ⟨x,rfl,hx⟩:=hop;exact ⟨_,rfl,x,rfl,hx⟩
      | some ks =>
       simp only at hop ⊢;split at hop
       ·rename_i hle;obtain ⟨rfl,hks⟩:=hop
        simp only
        obtain ⟨o2,ho2,hop2⟩:=ihr (i+1) (z++ks) e2 hle;refine ⟨o2,ho2,?_⟩
        cases hfr:flL r H with
        | none=>rw [hfr] at hop2;exact hop2
        | some ks2 =>
         rw [hfr] at hop2;unfold FRL at hop2 ⊢;simp only [Qu,QD] at hop2 ⊢;split
         ·rename_i hle2;rw [if_pos hle2] at hop2
          exact ⟨hop2.1,fun x hx=>by
           rcases QR.1 hx with hx | hx
           ·exact hks x hx
           ·exact hop2.2 x hx⟩
         ·rename_i hle2;rw [if_neg hle2] at hop2;exact hop2
       ·rename_i hle;obtain ⟨x,rfl,hx⟩:=hop;refine ⟨_,rfl,?_⟩
        cases hfr:flL r H with
        | none=>exact ⟨x,rfl,hx⟩
        | some ks2 =>
         unfold FRL;simp only [Qu];rw [if_neg (by rw [← QD,A6];omega)];exact ⟨x,rfl,hx⟩
     cases hhd:Js r
     ·simp only [Qq,if_false,X6];rw [if_neg (by omega)];have h1:=inner false 1 (by omega) (fun n _=>⟨by simp,by simpa using hH⟩) 1 0 z rfl hzz
      have e4:Mr (fun n=>fl f (if false=true then Qbo f H n else H)) (Xc 0 1)=(fl f H).map (fun k=>[k]):=by
       show Mr _ [0]=_;rw [Mr];simp only [Qq,if_false];cases fl f H<;>rfl
      rw [e4] at h1;have:=after false 1 _ h1;rw [show ((1:Nat):Int)=1 from rfl] at this;refine this.mono fun o ho=>?_
      cases hf:fl f H with
      | none=>rw [hf] at ho;exact ho
      | some k=>rw [hf] at ho;exact ho
     ·simp only [if_true];rw [Qgb (by omega) hH];simp only [X6]
      by_cases hc0:Dg f H (-1) < 0
      ·rw [if_pos hc0,if_pos hc0];exact ⟨_,rfl,t,rfl,ht⟩
      rw [if_neg hc0,if_neg hc0];have hcl:=Uz f H (-1) (fun h hh=>(hH.2 h hh).out.2.2.2.2.2.1) (by omega)
      have ec:((Dg f H (-1)).toNat:Int)=Dg f H (-1):=by omega
      have h1:=inner true (Dg f H (-1)).toNat (by omega) (fun n hn=>by
       simp only [if_true];refine ⟨?_,hH.nth (by omega)⟩
       rw [Yf _ i hi,X6,e1,Qos (by omega) hH (by omega),X6]) (Dg f H (-1)).toNat 0 z (by omega) hzz
      have:=after true (Dg f H (-1)).toNat _ h1;rw [ec] at this;simp only [if_true] at this;rw [List.range_eq_range'];exact this
   rw [M4 _ _ _ _ _ (by omega)];obtain ⟨o,ho,hop⟩:=loop t.kids 0 [] (List.drop_zero ..) (by simp [YY]);rw [show ((YY ZK ([]:List Fm):Nat):Int)=0 from rfl] at ho;rw [ho,X6]
   cases hfl:flL t.kids H with
   | none=>rw [hfl] at hop;obtain ⟨x,rfl,hx⟩:=hop;exact ⟨_,rfl,rfl,hx⟩
   | some out =>
    rw [hfl] at hop;unfold FRL at hop;simp only [QS] at hop ⊢;split at hop
    ·rename_i hle;obtain ⟨rfl,hk⟩:=hop;rw [if_pos hle];refine ⟨_,rfl,rfl,⟨hln.1,hln.2.1,fun k hk'=>?_⟩,?_⟩
     ·exact LN.mono _ _ _ (hk k hk') (by omega)
     ·rw [Fm.YC];show 1+YY ZK out<=401;omega
    ·rename_i hle;obtain ⟨x,rfl,hx⟩:=hop;rw [if_neg hle];exact ⟨_,rfl,rfl,hx⟩
  by_cases h1:t.kind=1
  ·rw [if_pos h1,if_pos h1]
   rcases Rs hH.hs t with ⟨j,hj,h2,h3⟩ | ⟨h2,h3⟩
   ·rw [h2,h3];have hb:=(hH.2 _ (ZJ hj)).out;have hs:=LN.sz _ _ hb.2.2.2.1;simp only [Yd,X6];rw [if_pos (by omega),Yf _ j hj];simp only [X6];rw [Lt _ (by omega)];simp only [X6]
    by_cases h0:H[j].depth=0
    ·rw [decide_eq_true h0,if_pos h0];exact ⟨_,rfl,rfl,LN.mono _ _ _ hb.2.2.2.1 (by omega),by omega⟩
    ·rw [decide_eq_false h0,if_neg h0];exact ⟨_,rfl,rfl,by show H[j].one.sz<=_;omega⟩
   ·rw [h2,h3];simp only [Yd,X6];rw [if_neg (by omega)];exact rest
  ·rw [if_neg h1,if_neg h1];simp only [Yd,X6];rw [if_neg (by omega)];exact rest
end Go.Proofs.SA
namespace Go.Proofs.SA
theorem Quf (B:List Bnd) (ls:List Fm):∀(d:Nat) (p:Fm),FIs d p->Y8 p=false->p.sz<=100000->p.nodes<=400->∀(f:Fm),FV f->∀hs,pm B ls p f=some hs->∀h∈hs,HB h:=by
 intro d
 induction d with
 | zero=>intro p h;exact h.elim
 | succ d ih =>
  intro p h hdt hpz hpn f hf hs e;have hzp:=Fm.GR p;have hnp:=Fm.YC p
  have hL:∀(ps:List Fm),(∀q∈ps,q∈p.kids/\FIs d q)->∀(fs:List Fm),(∀g∈fs,FV g)->fs.length<=400->∀(n:Nat) (hs:List Hit),pmL B ls ps fs n=some hs->∀h∈hs,HB h:=by
   intro ps
   induction ps with
   | nil=>intro _ fs _ _ n hs e h hh;rw [UX] at e;injection e with e;subst e;cases hh
   | cons q ps ihp =>
    intro hq fs hfs hfl n hs e;have hq':=fun x hx=>hq x (Kf q hx);have hqm:=(hq q (KB ..));have hqz:=Fm.G8 hqm.1;have hqn:=I7 hqm.1;rw [Sj] at e
    by_cases hd:Y8 q=true
    ·rw [if_pos hd] at e;exact ihp hq' fs hfs hfl n hs e
    ·rw [if_neg hd] at e
     have hd':Y8 q=false:=by simpa using hd
     by_cases hh:Js ps=true
     ·rw [if_pos hh] at e;split at e
      ·cases e
      ·rename_i rows hrows;obtain ⟨hs2,h2,h3⟩:=Qx.1 e;subst h3;intro h hh
       rcases QR.1 hh with hh | hh
       ·unfold Qml at hh;obtain ⟨i,hi,rfl⟩:=QX.1 hh
        have hi':i < (vrs ls q).length:=by simpa using hi
        have hid:i < (dps ls 0 q).length:=by rw [← OP];exact hi'
        have hge:=Qgh ls q 0 _ (ZJ hid);have hvs:=Qaa ls q _ (ZJ hi');have hrl:=RF hrows;rw [List.length_take] at hrl;rw [Vt hi',Vt hid];have z:Fm.zero.name.size=0:=rfl;refine .mk (by omega) (by omega) (by omega) ⟨by rw [z];omega,by show 0<=24;omega,fun k hk=>by cases hk⟩ (by decide) (by rw [ZH];omega) fun x hx=>?_;obtain ⟨r,hr,rfl⟩:=QX.1 hx;obtain ⟨g,hg,hg2⟩:=RG hrows r hr;have hl:=Qbu B ls d q hqm.2 hd' g r hg2
        have hil:i < r.length:=by omega
        rw [Vt hil];exact ih q hqm.2 hd' (by omega) (by omega) g (hfs g (List.mem_of_mem_take hg)) r hg2 _ (ZJ hil)
       ·exact ihp hq' _ (fun g hg=>hfs g (QA hg)) (by rw [Xd];omega) _ _ h2 h hh
     ·rw [if_neg hh] at e;split at e
      ·cases e
      ·rename_i f' fs';split at e
       ·cases e
       ·rename_i hs1 h1;obtain ⟨hs2,h2,h3⟩:=Qx.1 e;subst h3;intro h hh
        rcases QR.1 hh with hh | hh
        ·exact ih q hqm.2 hd' (by omega) (by omega) _ (hfs _ (KB ..)) _ h1 h hh
        ·exact ihp hq' _ (fun g hg=>hfs g (Kf _ hg)) (by simp at hfl;omega) _ _ h2 h hh
  rw [Qo2] at e;split at e
  ·split at e
   ·injection e with e;subst e;intro h hh;cases hh
   ·split at e
    ·split at e
     ·injection e with e;subst e;intro h hh;cases hh
     ·cases e
    ·injection e with e;subst e
     intro h hh;rw [ZF.1 hh];exact .mk hpz (Xe _) (by omega) hf.ln hf.2 (by simp) (fun x hx=>by cases hx)
  ·split at e
   ·split at e
    ·injection e with e;subst e;intro h hh;cases hh
    ·cases e
   ·rename_i k1 k2;have hkids:∀q∈p.kids,q∈p.kids/\FIs d q:=fun q hq=>⟨hq,h.kid hq⟩;have hfk:∀g∈f.kids,FV g:=fun g hg=>hf.kid hg;have hfl:=hf.LM;split at e
    ·split at e
     ·split at e
      ·cases e
      ·exact hL _ hkids _ hfk (by omega) _ _ e
     ·split at e
      ·exact hL _ hkids _ hfk (by omega) _ _ e
      ·cases e
    ·cases e
theorem Qh1 {p:Fm} (h:Qh0 p=true):Y8 p=false:=by
 cases hd:Y8 p
 ·rfl
 ·rw [Sq,if_pos hd] at h;cases h
theorem Qug {B:List Bnd} {ls:List Fm} {p f:Fm} (hp:Qms ls p) (hf:FV f) {hs:List Hit} (e:pm B ls p f=some hs):HL hs:=by
 have hd:=Qh1 hp.2.2.1;have hz:=hp.1.sz;have hn:=hp.1.2;refine ⟨?_,Quf B ls 40 p hp.1.1 hd (by omega) hn f hf hs e⟩;rw [Qbu B ls 40 p hp.1.1 hd f hs e];have:=CJ ls p;omega
open Classical in
noncomputable def FW (B:List Bnd) (ls:List Fm) (rs:List Rul) (f:Fm):Option Nat :=
 if BV B/\NG ls rs/\FV f then rs.findIdx? (fun r=>(pm B ls r.pat f).isSome) else none
open Classical in
noncomputable def Qfx (B:List Bnd) (ls:List Fm) (rs:List Rul) (f:Fm):Option Fm :=
 match FW B ls rs f with
 | none=>none
 | some j=>match pm B ls (rs.getD j ⟨default,default⟩).pat f with
  | none=>none
  | some hs=>match fl (rs.getD j ⟨default,default⟩).tpl hs with
   | none=>none
   | some g=>if FV g then some g else none
theorem UH {B:List Bnd} {ls:List Fm} {rs:List Rul} {f:Fm} {j:Nat} (h:FW B ls rs f=some j):BV B/\NG ls rs/\FV f/\∃hj:j < rs.length,∃hs,pm B ls rs[j].pat f=some hs:=by
 unfold FW at h;split at h
 ·rename_i hc;obtain ⟨hj,h1,_⟩:=Xb.1 h;exact ⟨hc.1,hc.2.1,hc.2.2,hj,Option.isSome_iff_exists.1 h1⟩
 ·cases h
theorem N2 {B:List Bnd} (hB:BS B) {ls:List Fm} (hls:FS ls) {rs:List Rul} (hrs:RS rs) {f:Fm} (hf:f.sz<=100000):Tot (Ip B rs ls f) fun r=>match FW B ls rs f with | some j=>r=((j:Int),true) | none=>r.2=false:=by
 rw [Ip]
 have bad:¬(BV B/\NG ls rs/\FV f)->Tot (some (0,false):Option (Int × Bool)) fun r=>match FW B ls rs f with | some j=>r=((j:Int),true) | none=>r.2=false:=fun h=>⟨_,rfl,by unfold FW;rw [if_neg h]⟩
 refine Zz (BF hB) fun b hb=>?_;cases b
 ·simp only [ZS,if_true,Yd,X6]
  exact bad fun h=>by have:=hb.2 h.1;cases this
 simp only [ZT,Qq,if_false];obtain ⟨b2,e2,hb2⟩:=Od hls hrs;rw [e2];simp only [Yd,X6];cases b2
 ·simp only [ZS,if_true,Yd,X6]
  exact bad fun h=>by have:=hb2.2 h.2.1;cases this
 simp only [ZT,Qq,if_false];obtain ⟨b3,e3,hb3⟩:=Af (f:=f) (by omega);rw [e3];simp only [Yd,X6];cases b3
 ·simp only [ZS,if_true]
  exact bad fun h=>by have:=hb3.2 h.2.2;cases this
 simp only [ZT,Qq,if_false];have hro:=hb2.1 rfl;have hfv:=hb3.1 rfl;rw [Fj _ _ _ _ (by have:=hrs.1;omega)]
 have e:FW B ls rs f=rs.findIdx? (fun r=>(pm B ls r.pat f).isSome):=by unfold FW;rw [if_pos ⟨hb.1 rfl,hro,hfv⟩]
 rw [e]
 have key:∀(l:List Rul) (i:Nat),(∀r∈l,∀i r2,V9 B rs ls f i (r :: r2)=if (pm B ls r.pat f).isSome=true then some (.inl ((i:Int),true)) else V9 B rs ls f (i+1) r2)->V9 B rs ls f i l=some (match l.findIdx? (fun r=>(pm B ls r.pat f).isSome) with | some j=>.inl (((i+j:Nat):Int),true) | none=>.inr ()):=by
  intro l
  induction l with
  | nil=>intro i _;rfl
  | cons r l ih =>
   intro i hc;rw [hc r (KB ..),Xf];cases (pm B ls r.pat f).isSome
   ·rw [if_neg (by simp),ih (i+1) (fun y hy=>hc y (Kf _ hy))]
    cases l.findIdx? (fun r=>(pm B ls r.pat f).isSome) with
    | none=>rfl
    | some j=>simp only [Qq,if_false,Qu];congr 4;omega
   ·rfl
 rw [key rs 0 (fun r hr i r2=>by
  have hp:=(hro.2.1 r hr).1;obtain ⟨x,hx,hmr⟩:=Rt hB hls 40 r.pat hp.1.1 (by have:=hp.1.sz;omega) hp.1.2 hp.2.2.1 f (by have:=hfv.sz;omega);rw [V9];simp only [Yd,X6];rw [hx];simp only [X6]
  cases hpm:pm B ls r.pat f with
  | none=>rw [hpm] at hmr;have:x.2=false:=hmr;rw [this];rfl
  | some hs=>rw [hpm] at hmr;have:x=(hs,true):=hmr;rw [this];rfl),X6]
 cases rs.findIdx? (fun r=>(pm B ls r.pat f).isSome) with
 | none=>exact ⟨_,rfl,rfl⟩
 | some j=>exact ⟨_,rfl,by simp⟩
theorem Uq {B:List Bnd} (hB:BS B) {ls:List Fm} (hls:FS ls) {rs:List Rul} (hrs:RS rs) (hrl:rs.length<=1000000) {f:Fm} (hf:f.sz<=100000):Tot (IA B rs ls f) fun r=>match Qfx B ls rs f with | some g=>r=(g,true)/\FV g | none=>r.2=false:=by
 rw [IA,US rs hrs hrl,X6];obtain ⟨x,hx,hx2⟩:=N2 hB hls hrs hf;rw [hx,X6];unfold Qfx
 cases hfst:FW B ls rs f with
 | none =>
  rw [hfst] at hx2;simp only at hx2;rw [hx2];simp only [ZS,if_true];exact ⟨_,rfl,rfl⟩
 | some j =>
  rw [hfst] at hx2;simp only at hx2;subst hx2;obtain ⟨hBV,hro,hfv,hj,hs,hpm⟩:=UH hfst;have hru:=hro.2.1 _ (ZJ hj);have hp:=hru.1;obtain ⟨y,hy,hmr⟩:=Rt hB hls 40 rs[j].pat hp.1.1 (by have:=hp.1.sz;omega) hp.1.2 hp.2.2.1 f (by have:=hfv.sz;omega);rw [hpm] at hmr;have:y=(hs,true):=hmr;subst this;simp only [Vt hj,hpm,ZT,Qq,if_false,Yf rs j hj,X6,hy];have htp:=hru.2.2.2.1;obtain ⟨z,hz,hfr⟩:=Qc7 40 rs[j].tpl htp.ln (by have:=htp.sz;omega) (Qug hp hfv hpm);rw [hz];simp only [X6]
  cases hfl:fl rs[j].tpl hs with
  | none =>
   rw [hfl] at hfr;have:z.2=false:=hfr.1;rw [this];simp only [ZS,if_true,Yd,X6];exact ⟨_,rfl,rfl⟩
  | some g =>
   rw [hfl] at hfr;obtain ⟨h1,h2,h3⟩:=hfr;subst h1;have:=LN.sz _ _ h2;simp only [ZT,Qq,if_false];obtain ⟨b3,e3,hb3⟩:=Af (f:=g) (by omega);rw [e3];simp only [Yd,X6];cases b3
   ·simp only [ZS,if_true];exact ⟨_,rfl,by rw [if_neg (fun h=>by have:=hb3.2 h;cases this)]⟩
   ·simp only [ZT,Qq,if_false];exact ⟨_,rfl,by rw [if_pos (hb3.1 rfl)];exact ⟨rfl,hb3.1 rfl⟩⟩
end Go.Proofs.SA
namespace Go.Proofs.Shadow
mutual
def Cor.nodes:Cor->Nat
 | .mk _ _ _ _ _ _ ks=>1+Cor.AE ks
def Cor.AE:List Cor->Nat
 | []=>0
 | f :: fs=>f.nodes+Cor.AE fs
end
theorem Cor.Iy:∀ks,Cor.AE ks=YY Cor.nodes ks
 | []=>rfl
 | f :: fs=>by rw [Cor.AE,YY,Cor.Iy fs]
theorem Cor.YC (c:Cor):c.nodes=1+YY Cor.nodes c.kids:=by cases c;rw [Cor.nodes,Cor.Iy];rfl
instance:Inhabited Mac:=⟨⟨0,[],[]⟩⟩
def Qbk (l:List Mac) (id:Int):Int:=match l.findIdx? (fun m=>decide (m.id=id)) with | some j=>(j:Int) | none=>-1
def Po (x:Xpn) (n:Fm):Int × Int :=
 if (findF x.binds n).2=0 then (0,0) else if (findF x.binds n).2=2 then (4,0)
 else if (x.binds.getD (findF x.binds n).1.toNat default).id<=5 then (1,(x.binds.getD (findF x.binds n).1.toNat default).id)
 else if Qbk x.macs (x.binds.getD (findF x.binds n).1.toNat default).id≥0 then (2,(x.binds.getD (findF x.binds n).1.toNat default).id)
 else (3,(x.binds.getD (findF x.binds n).1.toNat default).id)
theorem Qon {l:List Mac} {id:Int} (h:Qbk l id≥0):Qbk l id < l.length/\(l.getD (Qbk l id).toNat default).id=id:=by
 unfold Qbk at *
 cases hf:l.findIdx? (fun m=>decide (m.id=id)) with
 | none=>rw [hf] at h;simp at h
 | some j =>
  obtain ⟨hj,h1,_⟩:=Xb.1 hf;simp only [Int.toNat_natCast];refine ⟨by omega,?_⟩;rw [List.getD_eq_getElem?_getD,List.getElem?_eq_getElem hj];simpa using h1
theorem Qhm {x:Xpn} {n:Fm} (h:(Po x n).1=2):Qbk x.macs (Po x n).2≥0:=by
 unfold Po at *;split at h
 ·cases h
 ·rename_i h1;rw [if_neg h1];split at h
  ·cases h
  ·rename_i h2;rw [if_neg h2];split at h
   ·cases h
   ·rename_i h3;rw [if_neg h3];split at h
    ·rename_i h4;rw [if_pos h4];exact h4
    ·cases h
end Go.Proofs.Shadow
namespace Go.Proofs.SA
theorem Qhl (x:Xpn) (id:Int) (h:Sm x.macs.length):As x id=some (Qbk x.macs id):=by
 have key:∀(l:List Mac) (i:Nat),Hf x id i l=some (match l.findIdx? (fun m=>decide (m.id=id)) with | some j=>.inl ((i+j:Nat):Int) | none=>.inr ()):=by
  intro l
  induction l with
  | nil=>intro i;rfl
  | cons m l ih =>
   intro i;rw [Hf,Yd,X6,Xf]
   by_cases hm:m.id=id
   ·rw [if_pos hm,decide_eq_true hm];rfl
   ·rw [if_neg hm,decide_eq_false hm,ih]
    cases l.findIdx? (fun m=>decide (m.id=id)) with
    | none=>rfl
    | some j=>simp only [Qq,if_false,Qu];congr 3;omega
 rw [As,Mg _ _ (by omega),key x.macs 0,X6,Qbk]
 cases x.macs.findIdx? (fun m=>decide (m.id=id)) with
 | none=>rfl
 | some j=>simp only [Nat.zero_add];rfl
theorem Qnt (l:List Bnd) (n:Fm):(findF l n).2=0∨(findF l n).2=1∨(findF l n).2=2:=by
 unfold findF;split
 ·exact .inr (.inl rfl)
 ·split
  ·exact .inl rfl
  ·exact .inr (.inr rfl)
theorem Qbm (x:Xpn) (n:Fm) (h:BS x.binds) (hn:Sm n.sc.length) (hm:Sm x.macs.length):Iv x n=some (Po x n):=by
 rw [Iv,RY x.binds n h hn,X6,Po]
 by_cases h0:(findF x.binds n).2=0
 ·rw [if_pos h0,if_pos h0];rfl
 rw [if_neg h0,if_neg h0]
 by_cases h2:(findF x.binds n).2=2
 ·rw [if_pos h2,if_pos h2];rfl
 have h1:(findF x.binds n).2=1:=by have:=Qnt x.binds n;omega
 have hr:=E5 h1;rw [if_neg h2,if_neg h2,Ew (l:=x.binds) hr.1 hr.2,X6]
 by_cases h3:(x.binds.getD (findF x.binds n).1.toNat default).id<=5
 ·rw [if_pos h3,if_pos h3];rfl
 ·rw [if_neg h3,if_neg h3,Qhl x _ hm,X6]
  by_cases h4:Qbk x.macs (x.binds.getD (findF x.binds n).1.toNat default).id≥0
  ·rw [if_pos h4,if_pos h4];rfl
  ·rw [if_neg h4,if_neg h4];rfl
def MS (m:Mac):Prop:=FS m.lits/\RS m.rules/\m.rules.length<=400
structure XI (x:Xpn):Prop where
 b:BV x.binds
 m:(x.macs.length:Int)+10<=x.id
 i:x.id<=999
 s0:0<=x.scope
 s1:x.scope<=99
 t0:0<=x.steps
 t1:x.steps<=60
 mm:∀m∈x.macs,MS m
theorem XI.sm {x:Xpn} (h:XI x):Sm x.macs.length:=by have:=h.m;have:=h.i;unfold Sm;omega
inductive Ub:Cor->Prop
 | mk {k i:Int} {s:ByteArray} {n:Int} {l:List Int} {d:Fm} {ks:List Cor} (hs:s.size<=12) (hl:l.length<=400) (hd:LN 40 d) (hn:d.nodes<=400) (hk:ks.length<=400) (h:∀x∈ks,Ub x):Ub (.mk k i s n l d ks)
theorem Qs4:LN 40 (KR 0 (Qk #[]) 0 [] [])/\(KR 0 (Qk #[]) 0 [] []).nodes<=400:=by
 have z:(KR 0 (Qk #[]) 0 [] []).name.size=0:=rfl;exact ⟨⟨by rw [z];omega,by show 0<=24;omega,fun k hk=>by cases hk⟩,by decide⟩
theorem S4 (k i:Int) (s:ByteArray) (hs:s.size<=12) (n:Int) (l:List Int) (hl:l.length<=400) (ks:List Cor) (hk:ks.length<=400) (h:∀x∈ks,Ub x):Ub (.mk k i s n l (KR 0 (Qk #[]) 0 [] []) ks):=.mk hs hl Qs4.1 Qs4.2 hk h
theorem e0:(Qk #[]).size<=12:=by decide
def P7 (x:Xpn) (n:Nat) (r:Xpn × Cor × Int):Prop:=r.2.2=0->XI r.1/\x.steps<=r.1.steps/\Ub r.2.1/\(r.2.1.nodes:Int)<=n+400 * (r.1.steps - x.steps)
theorem P7.bad {x y:Xpn} {n:Nat} {c:Cor} {e:Int} (h:e≠0):P7 x n (y,c,e):=fun h2=>absurd h2 h
theorem FV.smc {f:Fm} (h:FV f):Sm f.sc.length:=by have:=h.sz;have:=Fm.TQ f;unfold Sm;omega
theorem Qdg {x:Xpn} (hx:XI x) {f:Fm} (hf:FV f):Tot (B1 x f) (P7 x 1):=by
 have hn:f.name.size<=12:=hf.ln.1;rw [B1,Qbm x f hx.b.bs hf.smc hx.sm,X6];split
 ·exact ⟨_,rfl,fun _=>⟨hx,Xe _,S4 _ _ _ hn _ _ (by simp) _ (by simp) (by simp),by simp [Cor.YC,Cor.kids,YY]⟩⟩
 ·split
  ·exact ⟨_,rfl,fun _=>⟨hx,Xe _,S4 _ _ _ e0 _ _ (by simp) _ (by simp) (by simp),by simp [Cor.YC,Cor.kids,YY]⟩⟩
  ·split
   ·exact ⟨_,rfl,.bad (by decide)⟩
   ·exact ⟨_,rfl,.bad (by decide)⟩
theorem P6 {x:Xpn} (hx:XI x) {f:Fm} (hf:f.sz < 1000000):Tot (II x f) fun r=>r.2=0->r.1=⟨x.binds++[⟨f.name,f.sc,x.id+1⟩],x.macs,x.scope,x.id+1,x.steps⟩/\BV r.1.binds/\r.1.id<=999:=by
 have hi:=hx.i;have hm:=hx.m;rw [II];split
 ·exact ⟨_,rfl,fun h=>by cases h⟩
 ·rw [YB (by omega) (by omega)];have hbl:=hx.b.1;refine Zz (SO hx.b.bs (by omega) (by omega) _) fun r hr=>?_
  rcases hr with ⟨h1,h2,h3,h4,h5,h6⟩ | ⟨h1,_,_⟩
  ·rw [h1];simp only [ZT,Qq,if_false];refine ⟨_,rfl,fun _=>⟨by rw [h2],by rw [h2];exact h6,?_⟩⟩;have:=(h6.2.1 _ (List.mem_append_right _ (ZF.2 rfl))).2.2.2;exact this
  ·rw [h1];simp only [ZS,if_true];exact ⟨_,rfl,fun h=>by cases h⟩
theorem Df {f:Fm} (h:FV f) (s w:Int):(chg s w f).sz<=16000:=by have:=Qqk s w f;have:=h.sz;have:=h.2;omega
theorem Qn7 {names:List Fm} (hn:∀n∈names,FV n) (hl:names.length<=400) (body:Fm) (b:Int):∀(r:List Fm) (i:Nat) (x:Xpn) (z:List Int),XI x->(∀n∈r,FV n)->z.length+r.length<=400 ->
  Tot (Hx names body b x.binds x.macs x.scope x.id x.steps z i r) fun o=>match o with
   | .inl q=>q.2.2≠0
   | .inr (q0,q1,q2,q3,q4,z')=>XI ⟨q0,q1,q2,q3,q4⟩/\q4=x.steps/\z'.length=z.length+r.length/\q2=x.scope:=by
 intro r
 induction r with
 | nil=>intro i x z hx _ _;rw [Hx];exact ⟨_,rfl,hx,rfl,by simp,rfl⟩
 | cons n r ih =>
  intro i x z hx hr hz;simp only [ZD] at hz;have hfn:=hr n (KB ..);rw [Hx,Yd,X6]
  by_cases hk:n.kind=1
  rotate_left
  ·rw [if_neg hk];exact ⟨_,rfl,fun h=>by simp at h⟩
  have hcs:=Df hfn x.scope 0;rw [if_pos hk,X6,BG _ _ n (by have:=hfn.sz;omega),X6];refine Zz (Af (by omega)) fun b1 hb1=>?_;cases b1
  ·simp only [ZS,if_true];exact ⟨_,rfl,fun h=>by simp at h⟩
  simp only [ZT,Qq,if_false];refine Zz (P6 hx (f:=chg x.scope 0 n) (by omega)) fun q hq=>?_
  by_cases h0:q.2=0
  ·rw [if_pos h0];obtain ⟨h1,h2,h3⟩:=hq h0;rw [YA (by simp;omega),X6]
   have hx2:XI q.1:=by
    rw [h1] at h2 h3 ⊢;have:=hx.m;exact ⟨h2,by show (x.macs.length:Int)+10<=x.id+1;omega,h3,hx.s0,hx.s1,hx.t0,hx.t1,hx.mm⟩
   refine (ih (i+1) q.1 (z++[q.1.id]) hx2 (fun y hy=>hr y (Kf _ hy)) (by simp;omega)).mono fun o ho=>?_
   cases o with
   | inl q2=>exact ho
   | inr q2 =>
    obtain ⟨a1,a2,a3,a4⟩:=ho;refine ⟨a1,?_,?_,?_⟩
    ·rw [a2,h1]
    ·rw [a3];simp;omega
    ·rw [a4,h1]
  ·rw [if_neg h0];exact ⟨_,rfl,h0⟩
theorem Qhx {x:Xpn} (hx:XI x):IJ x=some (⟨x.binds,x.macs,x.scope+1,x.id,x.steps⟩,decide (x.scope+1<=99)):=by
 have:=hx.s0;have:=hx.s1;rw [IJ,YB (by omega) (by omega)];rfl
theorem XI.scope {x:Xpn} (hx:XI x) (h:x.scope+1<=99):XI ⟨x.binds,x.macs,x.scope+1,x.id,x.steps⟩:=⟨hx.b,hx.m,hx.i,by have:=hx.s0;show 0<=x.scope+1;omega,h,hx.t0,hx.t1,hx.mm⟩
theorem Qg4 {b s0:Int} {body:Fm} (hb:FV body) (hE:∀x f,XI x->s0<=x.steps->FV f->f.nodes=body.nodes->Tot (Vf x f b) (P7 x f.nodes)) {names:List Fm} (hn:∀n∈names,FV n) (hl:names.length<=400) {x:Xpn} (hx:XI x) (hs:s0<=x.steps):Tot (A5 x names body b) (P7 x (body.nodes+1)):=by
 rw [A5,Qhx hx,X6]
 by_cases h1:x.scope+1<=99
 rotate_left
 ·rw [decide_eq_false h1];simp only [ZS,if_true];exact ⟨_,rfl,.bad (by decide)⟩
 rw [decide_eq_true h1];simp only [ZT,Qq,if_false];rw [OB _ _ _ _ _ _ _ _ _ (by omega)];obtain ⟨o,ho,hop⟩:=Qn7 hn hl body b names 0 _ [] (hx.scope h1) hn (by simp;omega);rw [ho,X6]
 cases o with
 | inl q=>exact ⟨_,rfl,fun h=>absurd h hop⟩
 | inr q =>
  obtain ⟨q0,q1,q2,q3,q4,z⟩:=q;obtain ⟨a1,a2,a3,a4⟩:=hop
  simp only
  have hcs:=Df hb q2 0;rw [BG _ _ body (by have:=hb.sz;omega),X6];refine Zz (Af (by omega)) fun b1 hb1=>?_;cases b1
  ·simp only [ZS,if_true];exact ⟨_,rfl,.bad (by decide)⟩
  simp only [ZT,Qq,if_false];refine Zz (hE ⟨q0,q1,q2,q3,q4⟩ _ a1 (by show s0<=q4;rw [a2];exact hs) (hb1.1 rfl) (FE _ _ _)) fun r hr=>?_;refine ⟨_,rfl,fun h=>?_⟩;obtain ⟨c1,c2,c3,c4⟩:=hr h;have:q4=x.steps:=a2;have c2':q4<=r.1.steps:=c2;have c4':(r.2.1.nodes:Int)<=((chg q2 0 body).nodes:Int)+400 * (r.1.steps - q4):=c4;rw [FE] at c4';refine ⟨c1,?_,S4 _ _ _ e0 _ _ (by rw [a3];simp;omega) _ (by simp) (fun y hy=>by rw [ZF.1 hy];exact c3),?_⟩
  ·show x.steps<=r.1.steps;omega
  ·show ((Cor.mk _ _ _ _ _ _ [r.2.1]).nodes:Int)<=_+400 * (r.1.steps - x.steps);rw [Cor.YC];simp only [Cor.kids,YY];omega
theorem Qdt {f:Fm} (h:Qcb f) (id:Int):MS ⟨id,(Hb f).1,(Hb f).2⟩:=by
 obtain ⟨hf,_,h2,_,_,h3,_⟩:=h
 have l1:1 < f.kids.length:=by omega
 have hkl:=hf.LM
 have e1:(Hb f).1=f.kids[1].kids:=by unfold Hb;simp only [Vt l1]
 have hv1:=hf.kid (ZJ l1);refine ⟨⟨by show Sm (Hb f).1.length;rw [e1];have:=hv1.LM;unfold Sm;omega,fun x hx=>?_⟩,⟨by show Sm (Hb f).2.length;unfold Hb Sm;rw [ZH,Xd];omega,fun x hx=>?_⟩,by show (Hb f).2.length<=400;unfold Hb;rw [ZH,Xd];omega⟩
 ·have hx':x∈(Hb f).1:=hx;rw [e1] at hx';have:=(hv1.kid hx').sz;omega
 ·have hx':x∈(Hb f).2:=hx;unfold Hb at hx';obtain ⟨y,hy,rfl⟩:=QX.1 hx';have q:=(h3 y hy).2;have hv:=hf.kid (QA hy)
  have j0:0 < y.kids.length:=by omega
  have j1:1 < y.kids.length:=by omega
  simp only [Vt j0,Vt j1];have:=(hv.kid (ZJ j0)).sz;have:=(hv.kid (ZJ j1)).sz;omega
theorem Qdd {names vals:List Fm} (hn:∀n∈names,FV n) (hv:∀n∈vals,FV n) (hlen:vals.length=names.length) (hl:names.length<=400) (body:Fm) (b:Int):∀(r:List Fm) (i:Nat) (x:Xpn),names.drop i=r->XI x ->
  Tot (Jr names vals body b x.binds x.macs x.scope x.id x.steps i r) fun o=>match o with
   | .inl q=>q.2.2≠0
   | .inr (q0,q1,q2,q3,q4)=>XI ⟨q0,q1,q2,q3,q4⟩/\q4=x.steps/\q2=x.scope:=by
 intro r
 induction r with
 | nil=>intro i x _ hx;rw [Jr];exact ⟨_,rfl,hx,rfl,rfl⟩
 | cons n r ih =>
  intro i x hd hx
  have hi:i < names.length:=by
   rcases Nat.lt_or_ge i names.length with h | h
   ·exact h
   ·rw [Zx h] at hd;cases hd
  rw [Zw hi] at hd
  injection hd with e1 e2
  have hfn:FV n:=hn n (e1▸ZJ hi)
  have hiv:i < vals.length:=by omega
  have hfv:=hv _ (ZJ hiv);have hcs:=Df hfn x.scope 0;have hcv:=Df hfv x.scope 0;rw [Jr,Yd,X6,BG _ _ n (by have:=hfn.sz;omega),X6,Yf _ i hiv,X6,BG _ _ _ (by have:=hfv.sz;omega),X6,X6]
  by_cases hk:n.kind=1
  rotate_left
  ·rw [if_neg hk];exact ⟨_,rfl,fun h=>by simp at h⟩
  rw [if_pos hk];refine Zz (Af (by omega)) fun b1 hb1=>?_;cases b1
  ·simp only [ZS,if_true,Yd,X6];exact ⟨_,rfl,fun h=>by simp at h⟩
  simp only [ZT,Qq,if_false];obtain ⟨b2,e3,hb2⟩:=Af (f:=chg x.scope 0 vals[i]) (by omega);rw [e3];simp only [Yd,X6];cases b2
  ·simp only [ZS,if_true];exact ⟨_,rfl,fun h=>by simp at h⟩
  simp only [ZT,Qq,if_false];obtain ⟨p,hp,hpp⟩:=UW (f:=chg x.scope 0 vals[i]) (by omega);rw [hp];simp only [X6]
  rcases hpp with ⟨hrf,rfl⟩ | ⟨_,hpf⟩
  rotate_left
  ·rw [hpf];simp only [ZS,if_true];exact ⟨_,rfl,fun h=>by simp at h⟩
  simp only [ZT,Qq,if_false];obtain ⟨q,hq1,hq⟩:=P6 hx (f:=chg x.scope 0 n) (by omega);rw [hq1];simp only [X6]
  by_cases h0:q.2=0
  ·rw [if_pos h0];obtain ⟨h1,h2,h3⟩:=hq h0;have hml:=hx.m;have hil:=hx.i;rw [YA (by rw [h1];simp;omega)];simp only [X6,QS];rw [YA (by rw [h1];simp;omega)];simp only [X6]
   have hx2:XI ⟨q.1.binds,q.1.macs++[⟨q.1.id,(Hb (chg x.scope 0 vals[i])).1,(Hb (chg x.scope 0 vals[i])).2⟩],q.1.scope,q.1.id,q.1.steps⟩:=by
    rw [h1] at h2 h3 ⊢;refine ⟨h2,by simp;omega,h3,hx.s0,hx.s1,hx.t0,hx.t1,fun m hm=>?_⟩
    rcases QR.1 hm with hm | hm
    ·exact hx.mm m hm
    ·rw [ZF.1 hm];exact Qdt hrf _
   refine (ih (i+1) _ e2 hx2).mono fun o ho=>?_
   cases o with
   | inl q2=>exact ho
   | inr q2 =>
    obtain ⟨a1,a2,a3⟩:=ho;refine ⟨a1,?_,?_⟩
    ·rw [a2,h1]
    ·rw [a3,h1]
  ·rw [if_neg h0];exact ⟨_,rfl,h0⟩
theorem Tw {b s0:Int} {body:Fm} (hb:FV body) (hE:∀x f,XI x->s0<=x.steps->FV f->f.nodes=body.nodes->Tot (Vf x f b) (P7 x f.nodes)) {names vals:List Fm} (hn:∀n∈names,FV n) (hv:∀n∈vals,FV n) (hlen:vals.length=names.length) (hl:names.length<=400) {x:Xpn} (hx:XI x) (hs:s0<=x.steps):Tot (AN x names vals body b) (P7 x body.nodes):=by
 rw [AN,Qhx hx,X6]
 by_cases h1:x.scope+1<=99
 rotate_left
 ·rw [decide_eq_false h1];simp only [ZS,if_true];exact ⟨_,rfl,.bad (by decide)⟩
 rw [decide_eq_true h1];simp only [ZT,Qq,if_false];rw [Lg _ _ _ _ _ _ _ _ _ (by omega)];obtain ⟨o,ho,hop⟩:=Qdd hn hv hlen hl body b names 0 _ (List.drop_zero ..) (hx.scope h1);rw [ho,X6]
 cases o with
 | inl q=>exact ⟨_,rfl,fun h=>absurd h hop⟩
 | inr q =>
  obtain ⟨q0,q1,q2,q3,q4⟩:=q;obtain ⟨a1,a2,a4⟩:=hop
  simp only
  have hcs:=Df hb q2 0;rw [BG _ _ body (by have:=hb.sz;omega),X6];refine Zz (Af (by omega)) fun b1 hb1=>?_;cases b1
  ·simp only [ZS,if_true];exact ⟨_,rfl,.bad (by decide)⟩
  simp only [ZT,Qq,if_false];refine Zz (hE ⟨q0,q1,q2,q3,q4⟩ _ a1 (by show s0<=q4;rw [a2];exact hs) (hb1.1 rfl) (FE _ _ _)) fun r hr=>?_;refine ⟨_,rfl,fun h=>?_⟩;obtain ⟨c1,c2,c3,c4⟩:=hr h;have:q4=x.steps:=a2;have c2':q4<=r.1.steps:=c2;have c4':(r.2.1.nodes:Int)<=((chg q2 0 body).nodes:Int)+400 * (r.1.steps - q4):=c4;rw [FE] at c4';exact ⟨c1,by show x.steps<=r.1.steps;omega,c3,by show (r.2.1.nodes:Int)<=_+400 * (r.1.steps - x.steps);omega⟩
def PA (x:Xpn) (l:List Fm) (r:Xpn × List Cor × Int):Prop:=r.2.2=0->XI r.1/\x.steps<=r.1.steps/\r.2.1.length=l.length/\(∀c∈r.2.1,Ub c)/\(YY Cor.nodes r.2.1:Int)<=YY ZK l+400 * (r.1.steps - x.steps)
theorem Qff {b s0:Int} {l:List Fm} (hE:∀x f,XI x->s0<=x.steps->f∈l->Tot (Vf x f b) (P7 x f.nodes)) (hl:l.length<=400) {x:Xpn} (hx:XI x) (hs:s0<=x.steps):Tot (HT x l b) (PA x l):=by
 have loop:∀(r:List Fm) (i:Nat) (y:Xpn) (z:List Cor),(∀f∈r,f∈l)->XI y->s0<=y.steps->x.steps<=y.steps->z.length+r.length<=400->(∀c∈z,Ub c)->(YY Cor.nodes z:Int)+YY ZK r<=YY ZK l+400 * (y.steps - x.steps) ->
   Tot (Hw l b y.binds y.macs y.scope y.id y.steps z i r) fun o=>match o with
    | .inl q=>q.2.2≠0
    | .inr (q0,q1,q2,q3,q4,z')=>XI ⟨q0,q1,q2,q3,q4⟩/\x.steps<=q4/\z'.length=z.length+r.length/\(∀c∈z',Ub c)/\(YY Cor.nodes z':Int)<=YY ZK l+400 * (q4 - x.steps):=by
  intro r
  induction r with
  | nil=>intro i y z _ hy _ hxy _ hz hnn;rw [Hw];exact ⟨_,rfl,hy,hxy,by simp,hz,by simpa [YY] using hnn⟩
  | cons f r ih =>
   intro i y z hr hy hs hxy hzl hz hnn;rw [YY] at hnn;simp only [ZD] at hzl;rw [Hw,Yd,X6];refine Zz (hE ⟨y.binds,y.macs,y.scope,y.id,y.steps⟩ f hy hs (hr f (KB ..))) fun q hq=>?_
   by_cases h0:q.2.2=0
   ·rw [if_pos h0];obtain ⟨c1,c2,c3,c4⟩:=hq h0;have c2':y.steps<=q.1.steps:=c2;have c4':(q.2.1.nodes:Int)<=(f.nodes:Int)+400 * (q.1.steps - y.steps):=c4;rw [YA (by simp;omega),X6]
    refine (ih (i+1) q.1 (z++[q.2.1]) (fun g hg=>hr g (Kf _ hg)) c1 (by omega) (by omega) (by simp;omega) (fun c hc=>by
     rcases QR.1 hc with hc | hc
     ·exact hz c hc
     ·rw [ZF.1 hc];exact c3) (by rw [A6];simp only [YY];omega)).mono fun o ho=>?_
    cases o with
    | inl q2=>exact ho
    | inr q2 =>
     obtain ⟨a1,a2,a3,a4,a5⟩:=ho;exact ⟨a1,a2,by rw [a3];simp;omega,a4,a5⟩
   ·rw [if_neg h0];exact ⟨_,rfl,h0⟩
 rw [HT,OA _ _ _ _ _ _ _ _ (by omega)];obtain ⟨o,ho,hop⟩:=loop l 0 x [] (fun _ h=>h) hx hs (Xe _) (by simp;omega) (by simp) (by simp [YY]);rw [ho,X6]
 cases o with
 | inl q=>exact ⟨_,rfl,fun h=>absurd h hop⟩
 | inr q =>
  obtain ⟨q0,q1,q2,q3,q4,z⟩:=q;obtain ⟨a1,a2,a3,a4,a5⟩:=hop;exact ⟨_,rfl,fun _=>⟨a1,a2,by rw [a3];simp,a4,a5⟩⟩
end Go.Proofs.SA
