/- Printed by a program of mine: the plain functions that the code computes (D), and the walks that show it (W). -/
import Derived.Test.YtiiamkelehfnoaaGreatGx
import Derived.Test.YtiiamkelehfnoaaGreatSaTy
import Derived.Test.YtiiamkelehfnoaaGreatChecked
import Derived.Lib.Strings
import Derived.Lib.Slices
import Derived.Lib.Walk
import Derived.Lib.Bytealg
import Derived.Test.YtiiamkelehfnoaaGreatinD
import Derived.Test.YtiiamkelehfnoaaGreatinW1
set_option maxRecDepth 100000
set_option maxHeartbeats 2000000
set_option linter.unusedSimpArgs false
set_option linter.unusedVariables false
open Go Go.Proofs Go.Proofs.Shadow
open Fm renaming cells → KW
open Tryz renaming prog → KX
open _root_.Int renaming toNat_natCast → Kl, reduceEq → Zg
open _root_.Nat renaming reduceEqDiff → K6, reduceLeDiff → K7, reduceAdd → Zd, reduceMul → Ze, reduceLT → Zf
open Wk renaming sub → ZE
open Fx renaming self → K1
open _root_.And renaming intro → K0
open Go.IntKind (i64)
namespace Go.Proofs.SA
theorem EH:∀(a0:ByteArray) r,H9 a0=some r->Vm KX 67 [.str a0] (.bool r):=by
 intro a0 r H;intro ss;unfold H9 at H;refine hdh mixed Tryz.func67 (rs:=[.tmp 2]) fun q tT hF hX=>?_;refine go ?_;obtain ⟨x10,g1,H⟩:=bnd H;refine Ya 2 8 10 (.bool x10) (giN q (fun q=>?_) (fun q=>?_)) (fun J=>?_)
 ·refine go ?_;exact Yt 8 g1
 ·refine go ?_;exact Yt 8 g1
 refine go ?_;refine cdb H (fun h H=>?_) (fun h H=>?_)
 ·refine go ?_;have e:=pur H;subst e;exact rt _
 ·refine go ?_;obtain ⟨o13,ho13,H⟩:=bnd H;refine Dg a0 0 _ ho13 _ rfl _ _  ?_ ?_ _ _  S hF
  ·intro _ he T15 s16 tT hF;have he:=he.symm;subst he
   try dsimp only at H
   refine go ?_;refine bp H (Aa (a0.size:Int) 1 12) fun x49 h H=>cl h ?_;refine go ?_;have e:=pur H;subst e;exact rt _
  ·intro r hr s' hs;subst hr;have e:=pur H;subst e;exact hsq hs
theorem DF:∀(a0:List Int) (Yo:Int) out,WA a0 Yo=some out->∀c,Yh Tryz.f68 0=some c->∀(Q:QT) (tt:Sto),(∀(_u:Unit),out=Sum.inr ()->∀(T:TT) (ss:Sto),T 0=sf cI a0->Fx tt ss [] []->Q (.ex 0) ⟨T,ss⟩)->(∀r,out=Sum.inl r->∀s',IE KX [.tmp 2] (fun r' ss'=>r'=.bool r/\ss'=tt) s'->Q .ret s')->∀(T:TT) (ss:Sto),T 0=sf cI a0/\T 5=sf cI a0/\T 6=i6 (a0.length:Int)/\T 7=i6 Yo->Fx tt ss [] []->aLp KX c Q ⟨T,ss⟩:=by
 intro a0 Yo;revert Yo;refine WA.partial_correctness a0 _ ?_;intro WA IH Yo out H c hc Q tt  hE hR T ss tT hF;refine lpx tt hc rfl fun q hX=>go ?_;refine cdp H (fun h H=>?_) (fun h H=>?_)
 ·obtain ⟨x10,f1,H⟩:=bil (g:=cI) (fun _=>rfl) H;refine go1 ?_;refine go ?_;refine bp H (Aa x10 1 99) fun x13 h H=>cl h ?_;refine go ?_;obtain ⟨x27,g1,H⟩:=bnd H;refine Ya 11 16 27 (.bool x27) (giN q (fun q=>?_) (fun q=>?_)) (fun J=>?_)
  ·rw [if_neg (dbf q)] at g1;refine go ?_;obtain ⟨x26,g3,g1⟩:=bnd g1;refine Ya 7 19 26 (.bool x26) (gi q (fun q=>?_) (fun q=>?_)) (fun J=>?_)
   ·rw [if_pos (dt q)] at g3;obtain ⟨x22,f1,g3⟩:=bil (g:=cI) (fun _=>rfl) g3;refine go1 ?_;refine go ?_;exact Yt 19 g3
   ·rw [if_neg (df q)] at g3;refine go ?_;exact Yt 19 g3
   refine go ?_;exact Yt 16 g1
  ·rw [if_pos (dbt q)] at g1;refine go ?_;exact Yt 16 g1
  refine go ?_;refine cdb H (fun h H=>?_) (fun h H=>?_)
  ·refine go ?_;exact wq (hR _ (pur H).symm _ (rt _))
  ·refine go ?_;exact IH  (i64.wrap (Yo+1)) _ H _ rfl Q tt  hE hR _ _  S hF
 ·refine go ?_;exact wq (hE () (pur H).symm _ _  S hF)
theorem FH:∀(a0:List Int) r,IP a0=some r->Vm KX 68 [sf cI a0] (.bool r):=by
 intro a0 r H;intro ss;unfold IP at H;refine hdh mixed Tryz.func68 (rs:=[.tmp 2]) fun q tT hF hX=>?_;refine go ?_;obtain ⟨o5,ho5,H⟩:=bnd H;refine DF a0 0 _ ho5 _ rfl _ _  ?_ ?_ _ _  S hF
 ·intro _ he T7 s8 tT hF;have he:=he.symm;subst he
  try dsimp only at H
  refine go ?_;have e:=pur H;subst e;exact rt _
 ·intro r hr s' hs;subst hr;have e:=pur H;subst e;exact hsq hs
theorem MU:∀(a0:Fm) (a1 c0:Int) r,Im a0 a1 c0=some r->∀(e0:Nat)  (ss:Sto),Pre ss [(e0,⟨3,1,[i6 c0]⟩)] []->Ctr KX 36 [.agg (KW a0),i6 a1,.ptr e0 0] ss (fun r' ss'=>∃(tt':Sto),r'=.bool r.1/\Tau (strip ss []) [(e0,⟨3,1,[i6 r.2]⟩)] tt'/\Fx tt' ss' [] []):=by
 refine Im.partial_correctness _ (motive_2:=fun a0 a1 MJ GU out=>∀c,Yh Tryz.f36 0=some c->∀(Q:QT) (tt0:Sto) (e0 b1:Nat),(∀(Cz:Int),out=Sum.inr Cz->∀(T:TT) (ss tt:Sto),0+0=0->Tau tt0 [(e0,⟨3,1,[i6 Cz]⟩)] tt->Fx tt ss [(b1,⟨26,5,[i6 a0.kind,.str a0.name,i6 a0.num,sf cI a0.sc,sf KW a0.kids]⟩)] []->Q (.ex 1) ⟨T,ss⟩)->(∀r,out=Sum.inl r->∀s',IE KX [.tmp 6] (fun r' ss'=>∃(tt':Sto),r'=.bool r.1/\Tau tt0 [(e0,⟨3,1,[i6 r.2]⟩)] tt'/\Fx tt' ss' [] []) s'->Q .ret s')->∀(T:TT) (ss tt:Sto),T 1=i6 a1/\T 2=.ptr e0 0/\T 84=sf KW a0.kids/\T 85=i6 (a0.kids.length:Int)/\T 86=i6 MJ->Tau tt0 [(e0,⟨3,1,[i6 GU]⟩)] tt->Fx tt ss [(b1,⟨26,5,[i6 a0.kind,.str a0.name,i6 a0.num,sf cI a0.sc,sf KW a0.kids]⟩)] []->aLp KX c Q ⟨T,ss⟩) ?_ ?_
 ·intro Gi L0 a0 a1 c0 r H;intro e0  ss hP;refine hdg mixed Tryz.func36 (rs:=[.tmp 6]) fun q tT=>?_;obtain ⟨hF,hX⟩:=hP.start;generalize strip ss []=tt0 at hF hX ⊢;refine go ?_;refine X8 hF rfl fun b1 ss2 hF=>?_;refine go ?_;refine stT hF hX 0 rfl fun t4 ss3 hF hX=>?_;refine go ?_;obtain ⟨x21,g5,H⟩:=bnd H;refine Ya 2 19 21 (.bool x21) (giN q (fun q=>?_) (fun q=>?_)) (fun J=>?_)
  ·refine go ?_;exact Yt 19 g5
  ·refine go ?_;exact Yt 19 g5
  refine go ?_;refine cdb H (fun h H=>?_) (fun h H=>?_)
  ·refine go ?_;have e:=pur H;subst e;exact rg _ ⟨_,rfl,hX,K1 _⟩
  ·refine go ?_;refine cdp H (fun h H=>?_) (fun h H=>?_)
   ·refine go ?_;refine bp H (EH a0.name) fun x28 h H=>cl h ?_;refine go ?_;obtain ⟨x33,g7,H⟩:=bnd H;refine Ya 3 30 33 (.bool x33) (gi q (fun q=>?_) (fun q=>?_)) (fun J=>?_)
    ·refine go ?_;exact Yt 30 g7
    ·refine go ?_;exact Yt 30 g7
    refine go ?_;obtain ⟨x38,g9,H⟩:=bnd H;refine Ya 3 35 38 (.bool x38) (gi q (fun q=>?_) (fun q=>?_)) (fun J=>?_)
    ·rw [if_pos (dbt q)] at g9;refine go ?_;obtain ⟨x37,hx37,g9⟩:=bnd g9;refine cl (FH a0.sc _ hx37) ?_;refine go ?_;exact Yt 35 g9
    ·rw [if_neg (dbf q)] at g9;refine go ?_;exact Yt 35 g9
    refine go ?_;obtain ⟨x44,g11,H⟩:=bnd H;refine Ya 4 40 44 (.bool x44) (gi q (fun q=>?_) (fun q=>?_)) (fun J=>?_)
    ·refine go ?_;exact Yt 40 g11
    ·refine go ?_;exact Yt 40 g11
    refine go ?_;have e:=pur H;subst e;exact rg _ ⟨_,rfl,hX,K1 _⟩
   ·refine go ?_;refine cdp H (fun h H=>?_) (fun h H=>?_)
    ·refine go ?_;obtain ⟨x54,g13,H⟩:=bnd H;refine Ya 3 51 54 (.bool x54) (gi q (fun q=>?_) (fun q=>?_)) (fun J=>?_)
     ·rw [if_pos (dt q)] at g13;refine go ?_;obtain ⟨x53,hx53,g13⟩:=bnd g13;refine cl (Aa a0.num 0 999 _ hx53) ?_;refine go ?_;exact Yt 51 g13
     ·rw [if_neg (df q)] at g13;refine go ?_;exact Yt 51 g13
     refine go ?_;obtain ⟨x60,g15,H⟩:=bnd H;refine Ya 4 56 60 (.bool x60) (gi q (fun q=>?_) (fun q=>?_)) (fun J=>?_)
     ·refine go ?_;exact Yt 56 g15
     ·refine go ?_;exact Yt 56 g15
     refine go ?_;obtain ⟨x66,g17,H⟩:=bnd H;refine Ya 4 62 66 (.bool x66) (gi q (fun q=>?_) (fun q=>?_)) (fun J=>?_)
     ·refine go ?_;exact Yt 62 g17
     ·refine go ?_;exact Yt 62 g17
     refine go ?_;have e:=pur H;subst e;exact rg _ ⟨_,rfl,hX,K1 _⟩
    ·refine go ?_;refine cdp H (fun h H=>?_) (fun h H=>?_)
     ·refine go ?_;obtain ⟨x76,g19,H⟩:=bnd H;refine Ya 3 73 76 (.bool x76) (giN q (fun q=>?_) (fun q=>?_)) (fun J=>?_)
      ·refine go ?_;exact Yt 73 g19
      ·refine go ?_;exact Yt 73 g19
      refine go ?_;obtain ⟨x82,g21,H⟩:=bnd H;refine Ya 4 78 82 (.bool x82) (giN q (fun q=>?_) (fun q=>?_)) (fun J=>?_)
      ·refine go ?_;exact Yt 78 g21
      ·refine go ?_;exact Yt 78 g21
      refine go ?_;refine cdb H (fun h H=>?_) (fun h H=>?_)
      ·refine go ?_;have e:=pur H;subst e;exact rg _ ⟨_,rfl,hX,K1 _⟩
      ·refine go ?_;obtain ⟨o29,ho29,H⟩:=bnd H;refine L0 a0 a1 0 (i64.wrap (c0 - 1)) _ ho29 _ rfl _ tt0 e0 b1 ?_ ?_ _ _ _  S hX hF
       ·intro Sl he T31 s32 t33 tT hX hF;have he:=he.symm;subst he
        try dsimp only at H
        refine go ?_;have e:=pur H;subst e;exact rg _ ⟨_,rfl,hX,K1 _⟩
       ·intro r hr s' hs;subst hr;have e:=pur H;subst e;exact hsq hs
     ·refine go ?_;have e:=pur H;subst e;exact rg _ ⟨_,rfl,hX,K1 _⟩
 ·intro Im Gi C0 L0 a0 a1 MJ GU out H c hc Q tt0 e0 b1 hE hR T ss tt tT hX hF;refine lpy hc rfl fun q=>go ?_;refine cdp H (fun h H=>?_) (fun h H=>?_)
  ·obtain ⟨x88,f1,H⟩:=bil (g:=KW) Fm.X5 H;refine go1 ?_;refine X8 hF rfl fun b23 s24 hF=>?_;refine go ?_;refine st hF 0 rfl fun s25 hF=>?_;refine go ?_;obtain ⟨x94,hx94,H⟩:=bnd H;refine cx (C0 x88 (i64.wrap (a1+1)) GU _ hx94 e0  _ (pre 0 1 0 hF hX)) ?_;rintro _ s26 ⟨t27,rfl,hT,hG⟩;obtain ⟨t28,hX,hF⟩:=aft 0 1 0 hF hX hT hG;refine go ?_;refine cdb H (fun h H=>?_) (fun h H=>?_)
   ·refine go ?_;exact wq (hR _ (pur H).symm _ (rg _ ⟨_,rfl,hX,K1 _⟩))
   ·refine go ?_;exact L0 a0 a1 (i64.wrap (MJ+1)) x94.2 _ H _ rfl Q tt0 e0 b1 hE hR _ _ _  S hX (hF.drop 1 0)
  ·refine go ?_;exact wq (hE _ (pur H).symm _ _ _  S hX hF)
theorem EG:∀(a0:Fm) r,H8 a0=some r->Vm KX 13 [.agg (KW a0)] (.bool r):=by
 intro a0 r H;intro ss;unfold H8 at H;refine hdh mixed Tryz.func13 (rs:=[.tmp 2]) fun q tT hF hX=>?_;refine go ?_;refine X8 hF rfl fun b1 ss2 hF=>?_;refine go ?_;refine X8 hF rfl fun b3 ss4 hF=>?_;refine go ?_;refine st hF 0 rfl fun ss5 hF=>?_;refine go ?_;obtain ⟨x5,hx5,H⟩:=bnd H;refine cx (MU a0 1 400 _ hx5 b3  _ (pre 1 0 0 hF hX)) ?_;rintro _ ss6 ⟨t7,rfl,hT,hG⟩;have hF:=DC 1 0 hF hX hT hG;refine go ?_;have e:=pur H;subst e;exact rt _
theorem Bc:∀(a0:List Int) (a1 YG:Int) out,YZ a0 a1 YG=some out->∀c,Yh Tryz.f59 0=some c->∀(Q:QT) (tt:Sto),(∀(_u:Unit),out=Sum.inr ()->∀(T:TT) (ss:Sto),0+0=0->Fx tt ss [] []->Q (.ex 0) ⟨T,ss⟩)->(∀r,out=Sum.inl r->∀s',IE KX [.tmp 4] (fun r' ss'=>r'=i6 r/\ss'=tt) s'->Q .ret s')->∀(T:TT) (ss:Sto),T 0=sf cI a0/\T 1=i6 a1/\T 7=i6 (a0.length:Int)/\T 8=i6 YG->Fx tt ss [] []->aLp KX c Q ⟨T,ss⟩:=by
 intro a0 a1 YG;revert YG;refine YZ.partial_correctness a0 a1 _ ?_;intro YZ IH YG out H c hc Q tt  hE hR T ss tT hF;refine lpx tt hc rfl fun q hX=>go ?_;refine cdp H (fun h H=>?_) (fun h H=>?_)
 ·obtain ⟨x14,f1,H⟩:=bil (g:=cI) (fun _=>rfl) H;refine go1 ?_;refine go ?_;refine cdp H (fun h H=>?_) (fun h H=>?_)
  ·refine go ?_;exact wq (hR _ (pur H).symm _ (rt _))
  ·refine go ?_;exact IH  (i64.wrap (YG+1)) _ H _ rfl Q tt  hE hR _ _  S hF
 ·refine go ?_;exact wq (hE () (pur H).symm _ _  S hF)
theorem Cc:∀(a0:List Int) (a1:Int) r,GB a0 a1=some r->Vm KX 59 [sf cI a0,i6 a1] (i6 r):=by
 intro a0 a1 r H;intro ss;unfold GB at H;refine hdh mixed Tryz.func59 (rs:=[.tmp 4]) fun q tT hF hX=>?_;refine go ?_;obtain ⟨o1,ho1,H⟩:=bnd H;refine Bc a0 a1 0 _ ho1 _ rfl _ _  ?_ ?_ _ _  S hF
 ·intro _ he T3 ss4 tT hF;have he:=he.symm;subst he
  try dsimp only at H
  refine go ?_;have e:=pur H;subst e;exact rt _
 ·intro r hr s' hs;subst hr;have e:=pur H;subst e;exact hsq hs
theorem Ba:∀(a0:List Int) (a1:Int) r,Wn a0 a1=some r->Vm KX 28 [sf cI a0,i6 a1] (.bool r):=by
 intro a0 a1 r H;intro ss;unfold Wn at H;refine hdh mixed Tryz.func28 (rs:=[.tmp 4]) fun q tT hF hX=>?_;refine go ?_;refine bp H (Cc a0 a1) fun x7 h H=>cl h ?_;refine go ?_;have e:=pur H;subst e;exact rt _
theorem Bb:∀(a0 a1:List Int) (Jc:Int) out,YY a0 a1 Jc=some out->∀c,Yh Tryz.f34 0=some c->∀(Q:QT) (tt:Sto),(∀(_u:Unit),out=Sum.inr ()->∀(T:TT) (ss:Sto),0+0=0->Fx tt ss [] []->Q (.ex 0) ⟨T,ss⟩)->(∀r,out=Sum.inl r->∀s',IE KX [.tmp 4] (fun r' ss'=>r'=.bool r/\ss'=tt) s'->Q .ret s')->∀(T:TT) (ss:Sto),T 0=sf cI a0/\T 1=sf cI a1/\T 12=i6 (a0.length:Int)/\T 13=i6 Jc->Fx tt ss [] []->aLp KX c Q ⟨T,ss⟩:=by
 intro a0 a1 Jc;revert Jc;refine YY.partial_correctness a0 a1 _ ?_;intro YY IH Jc out H c hc Q tt  hE hR T ss tT hF;refine lpx tt hc rfl fun q hX=>go ?_;refine cdp H (fun h H=>?_) (fun h H=>?_)
 ·refine go ?_;refine Yf E0 [.v,.v,.v,.v,.v,.v,.v,.v,.v] (by kernel_rfl) ?_;obtain ⟨x18,f1,H⟩:=bil (g:=cI) (fun _=>rfl) H;obtain ⟨x22,f2,H⟩:=bil (g:=cI) (fun _=>rfl) H;refine go2 ?_;refine go ?_;refine cdn H (fun h H=>?_) (fun h H=>?_)
  ·refine go ?_;exact wq (hR _ (pur H).symm _ (rt _))
  ·refine go ?_;exact IH  (i64.wrap (Jc+1)) _ H _ rfl Q tt  hE hR _ _  S hF
 ·refine go ?_;exact wq (hE () (pur H).symm _ _  S hF)
theorem Cb:∀(a0 a1:List Int) r,Jk a0 a1=some r->Vm KX 34 [sf cI a0,sf cI a1] (.bool r):=by
 intro a0 a1 r H;intro ss;unfold Jk at H;refine hdh mixed Tryz.func34 (rs:=[.tmp 4]) fun q tT hF hX=>?_;refine go ?_;refine cdn H (fun h H=>?_) (fun h H=>?_)
 ·refine go ?_;have e:=pur H;subst e;exact rt _
 ·refine go ?_;obtain ⟨o1,ho1,H⟩:=bnd H;refine Bb a0 a1 0 _ ho1 _ rfl _ _  ?_ ?_ _ _  S hF
  ·intro _ he T3 ss4 tT hF;have he:=he.symm;subst he
   try dsimp only at H
   refine go ?_;have e:=pur H;subst e;exact rt _
  ·intro r hr s' hs;subst hr;have e:=pur H;subst e;exact hsq hs
theorem EF:(∀(a0 a1:Fm) r,VB a0 a1=some r->Vm KX 12 [.agg (KW a0),.agg (KW a1)] (.bool r))/\(∀(a0 a1:List Fm) r,YC a0 a1=some r->Vm KX 35 [sf KW a0,sf KW a1,.fn 12 []] (.bool r)):=by
 have h:=VB.mutual_partial_correctness  (motive_1:=fun a0 a1 r=>Vm KX 12 [.agg (KW a0),.agg (KW a1)] (.bool r)) (motive_2:=fun a0 a1 r=>Vm KX 35 [sf KW a0,sf KW a1,.fn 12 []] (.bool r)) (motive_3:=fun a0 a1 Bu out=>∀c,Yh Tryz.f35 0=some c->∀(Q:QT) (tt:Sto),(∀(_u:Unit),out=Sum.inr ()->∀(T:TT) (ss:Sto),0+0=0->Fx tt ss [] []->Q (.ex 0) ⟨T,ss⟩)->(∀r,out=Sum.inl r->∀s',IE KX [.tmp 6] (fun r' ss'=>r'=.bool r/\ss'=tt) s'->Q .ret s')->∀(T:TT) (ss:Sto),T 1=sf KW a1/\T 2=.fn 12 []/\T 15=sf KW a0/\T 16=i6 (a0.length:Int)/\T 17=i6 Bu->Fx tt ss [] []->aLp KX c Q ⟨T,ss⟩) ?s0 ?s1 ?s2
 ·exact ⟨h.1,h.2.1⟩
 ·intro YC C1 a0 a1 r H;intro ss;refine hdh mixed Tryz.func12 (rs:=[.tmp 4]) fun q tT hF hX=>?_;refine go ?_;refine X8 hF rfl fun b1 ss2 hF=>?_;refine go ?_;refine X8 hF rfl fun b3 ss4 hF=>?_;refine go ?_;obtain ⟨x16,g5,H⟩:=bnd H;refine Ya 5 11 16 (.bool x16) (gi q (fun q=>?_) (fun q=>?_)) (fun J=>?_)
  ·refine go ?_;exact Yt 11 g5
  ·refine go ?_;exact Yt 11 g5
  refine go ?_;obtain ⟨x23,g7,H⟩:=bnd H;refine Ya 5 18 23 (.bool x23) (gi q (fun q=>?_) (fun q=>?_)) (fun J=>?_)
  ·refine go ?_;exact Yt 18 g7
  ·refine go ?_;exact Yt 18 g7
  refine go ?_;obtain ⟨x30,g9,H⟩:=bnd H;refine Ya 5 25 30 (.bool x30) (gi q (fun q=>?_) (fun q=>?_)) (fun J=>?_)
  ·rw [if_pos (dbt q)] at g9;refine go ?_;obtain ⟨x29,hx29,g9⟩:=bnd g9;refine cl (Cb a0.sc a1.sc _ hx29) ?_;refine go ?_;exact Yt 25 g9
  ·rw [if_neg (dbf q)] at g9;refine go ?_;exact Yt 25 g9
  refine go ?_;obtain ⟨x37,g11,H⟩:=bnd H;refine Ya 5 32 37 (.bool x37) (gi q (fun q=>?_) (fun q=>?_)) (fun J=>?_)
  ·rw [if_pos (dbt q)] at g11;refine go ?_;obtain ⟨x36,hx36,g11⟩:=bnd g11;refine cl (C1 a0.kids a1.kids _ hx36) ?_;refine go ?_;exact Yt 32 g11
  ·rw [if_neg (dbf q)] at g11;refine go ?_;exact Yt 32 g11
  refine go ?_;have e:=pur H;subst e;exact rt _
 ·intro Yn L0 a0 a1 r H;intro ss;refine hdh mixed Tryz.func35 (rs:=[.tmp 6]) fun q tT hF hX=>?_;refine go ?_;refine cdn H (fun h H=>?_) (fun h H=>?_)
  ·refine go ?_;have e:=pur H;subst e;exact rt _
  ·refine go ?_;obtain ⟨o7,ho7,H⟩:=bnd H;refine L0 a0 a1 0 _ ho7 _ rfl _ _  ?_ ?_ _ _  S hF
   ·intro _ he T9 s10 tT hF;have he:=he.symm;subst he
    try dsimp only at H
    refine go ?_;have e:=pur H;subst e;exact rt _
   ·intro r hr s' hs;subst hr;have e:=pur H;subst e;exact hsq hs
 ·intro VB Yn C0 L0 a0 a1 Bu out H c hc Q tt  hE hR T ss tT hF;refine lpx tt hc rfl fun q hX=>go ?_;refine cdp H (fun h H=>?_) (fun h H=>?_)
  ·obtain ⟨x20,f1,H⟩:=bil (g:=KW) Fm.X5 H;refine go1 ?_;refine X8 hF rfl fun b1 ss2 hF=>?_;refine go ?_;refine st hF 0 rfl fun ss3 hF=>?_;obtain ⟨x24,f1,H⟩:=bil (g:=KW) Fm.X5 H;refine go1 ?_;refine X8 hF rfl fun b4 ss5 hF=>?_;refine go ?_;refine st hF 0 rfl fun ss6 hF=>?_;refine go ?_;obtain ⟨x29,hx29,H⟩:=bnd H;refine cl (C0 x20 x24 _ hx29) ?_;refine go ?_;refine cdb H (fun h H=>?_) (fun h H=>?_)
   ·refine go ?_;exact wq (hR _ (pur H).symm _ (rt _))
   ·refine go ?_;exact L0 a0 a1 (i64.wrap (Bu+1)) _ H _ rfl Q tt  hE hR _ _  S (hF.drop 2 0)
  ·refine go ?_;exact wq (hE () (pur H).symm _ _  S hF)
theorem Ii:∀(a0 a1:Fm) r,VB a0 a1=some r->Vm KX 12 [.agg (KW a0),.agg (KW a1)] (.bool r):=EF.1
theorem LR:∀(a0 c0:Fm) r,Ah a0 c0=some r->∀(e0:Nat)  (ss:Sto),Pre ss [(e0,⟨26,5,[i6 c0.kind,.str c0.name,i6 c0.num,sf cI c0.sc,sf KW c0.kids]⟩)] []->Ctr KX 61 [.agg (KW a0),.ptr e0 0] ss (fun r' ss'=>∃(tt':Sto),r'=.bool r/\Tau (strip ss []) [(e0,⟨26,5,[i6 c0.kind,.str c0.name,i6 c0.num,sf cI c0.sc,sf KW c0.kids]⟩)] tt'/\Fx tt' ss' [] []):=by
 intro a0 c0 r H;intro e0  ss hP;unfold Ah at H;refine hdg mixed Tryz.func61 (rs:=[.tmp 3]) fun q tT=>?_;obtain ⟨hF,hX⟩:=hP.start;generalize strip ss []=tt0 at hF hX ⊢;refine go ?_;refine X8 hF rfl fun b1 ss2 hF=>?_;refine go ?_;refine bp H (Ii a0 c0) fun x6 h H=>cl h ?_;refine go ?_;have e:=pur H;subst e;exact rg _ ⟨_,rfl,hX,K1 _⟩
theorem Gv:∀(a0:List Fm) (c0:Fm) (YG:Int) out,Yr a0 c0 YG=some out->∀c,Yh Tryz.f92 0=some c->∀(Q:QT) (tt0:Sto) (e0:Nat),(∀(_u:Unit),out=Sum.inr ()->∀(T:TT) (ss tt:Sto),0+0=0->Tau tt0 [(e0,⟨26,5,[i6 c0.kind,.str c0.name,i6 c0.num,sf cI c0.sc,sf KW c0.kids]⟩)] tt->Fx tt ss [] []->Q (.ex 0) ⟨T,ss⟩)->(∀r,out=Sum.inl r->∀s',IE KX [.tmp 4] (fun r' ss'=>∃(tt':Sto),r'=i6 r/\Tau tt0 [(e0,⟨26,5,[i6 c0.kind,.str c0.name,i6 c0.num,sf cI c0.sc,sf KW c0.kids]⟩)] tt'/\Fx tt' ss' [] []) s'->Q .ret s')->∀(T:TT) (ss tt:Sto),T 0=sf KW a0/\T 1=.fn 61 [.ptr e0 0]/\T 7=i6 (a0.length:Int)/\T 8=i6 YG->Tau tt0 [(e0,⟨26,5,[i6 c0.kind,.str c0.name,i6 c0.num,sf cI c0.sc,sf KW c0.kids]⟩)] tt->Fx tt ss [] []->aLp KX c Q ⟨T,ss⟩:=by
 intro a0 c0 YG;revert YG;refine Yr.partial_correctness a0 c0 _ ?_;intro Yr IH YG out H c hc Q tt0 e0 hE hR T ss tt tT hX hF;refine lpy hc rfl fun q=>go ?_;refine cdp H (fun h H=>?_) (fun h H=>?_)
 ·obtain ⟨x14,f1,H⟩:=bil (g:=KW) Fm.X5 H;refine go1 ?_;obtain ⟨x16,hx16,H⟩:=bnd H;refine cx (LR x14 c0 _ hx16 e0  _ (pre 0 1 0 hF hX)) ?_;rintro _ ss1 ⟨tt2,rfl,hT,hG⟩;obtain ⟨t3,hX,hF⟩:=aft 0 1 0 hF hX hT hG;refine go ?_;refine cdb H (fun h H=>?_) (fun h H=>?_)
  ·refine go ?_;exact wq (hR _ (pur H).symm _ (rg _ ⟨_,rfl,hX,K1 _⟩))
  ·refine go ?_;exact IH  (i64.wrap (YG+1)) _ H _ rfl Q tt0 e0 hE hR _ _ _  S hX hF
 ·refine go ?_;exact wq (hE () (pur H).symm _ _ _  S hX hF)
theorem G4:∀(a0:List Fm) (c0:Fm) r,Y5 a0 c0=some r->∀(e0:Nat)  (ss:Sto),Pre ss [(e0,⟨26,5,[i6 c0.kind,.str c0.name,i6 c0.num,sf cI c0.sc,sf KW c0.kids]⟩)] []->Ctr KX 92 [sf KW a0,.fn 61 [.ptr e0 0]] ss (fun r' ss'=>∃(tt':Sto),r'=i6 r/\Tau (strip ss []) [(e0,⟨26,5,[i6 c0.kind,.str c0.name,i6 c0.num,sf cI c0.sc,sf KW c0.kids]⟩)] tt'/\Fx tt' ss' [] []):=by
 intro a0 c0 r H;intro e0  ss hP;unfold Y5 at H;refine hdg mixed Tryz.func92 (rs:=[.tmp 4]) fun q tT=>?_;obtain ⟨hF,hX⟩:=hP.start;generalize strip ss []=tt0 at hF hX ⊢;refine go ?_;obtain ⟨o4,ho4,H⟩:=bnd H;refine Gv a0 c0 0 _ ho4 _ rfl _ tt0 e0 ?_ ?_ _ _ _  S hX hF
 ·intro _ he T6 s7 t8 tT hX hF;have he:=he.symm;subst he
  try dsimp only at H
  refine go ?_;have e:=pur H;subst e;exact rg _ ⟨_,rfl,hX,K1 _⟩
 ·intro r hr s' hs;subst hr;have e:=pur H;subst e;exact hsq hs
theorem Gs:∀(a0:List Fm) (c0:Fm) r,YX a0 c0=some r->∀(e0:Nat)  (ss:Sto),Pre ss [(e0,⟨26,5,[i6 c0.kind,.str c0.name,i6 c0.num,sf cI c0.sc,sf KW c0.kids]⟩)] []->Ctr KX 60 [sf KW a0,.fn 61 [.ptr e0 0]] ss (fun r' ss'=>∃(tt':Sto),r'=.bool r/\Tau (strip ss []) [(e0,⟨26,5,[i6 c0.kind,.str c0.name,i6 c0.num,sf cI c0.sc,sf KW c0.kids]⟩)] tt'/\Fx tt' ss' [] []):=by
 intro a0 c0 r H;intro e0  ss hP;unfold YX at H;refine hdg mixed Tryz.func60 (rs:=[.tmp 4]) fun q tT=>?_;obtain ⟨hF,hX⟩:=hP.start;generalize strip ss []=tt0 at hF hX ⊢;refine go ?_;obtain ⟨x7,hx7,H⟩:=bnd H;refine cx (G4 a0 c0 _ hx7 e0  _ (pre 0 1 0 hF hX)) ?_;rintro _ ss1 ⟨tt2,rfl,hT,hG⟩;obtain ⟨t3,hX,hF⟩:=aft 0 1 0 hF hX hT hG;refine go ?_;have e:=pur H;subst e;exact rg _ ⟨_,rfl,hX,K1 _⟩
theorem Pl:∀(a0:List Fm) (a1:Fm) r,CC a0 a1=some r->Vm KX 29 [sf KW a0,.agg (KW a1)] (.bool r):=by
 intro a0 a1 r H;intro ss;unfold CC at H;refine hdh mixed Tryz.func29 (rs:=[.tmp 4]) fun q tT hF hX=>?_;refine go ?_;refine X8 hF rfl fun b1 ss2 hF=>?_;refine go ?_;obtain ⟨x7,hx7,H⟩:=bnd H;refine cx (Gs a0 a1 _ hx7 b1  _ (pre 1 0 0 hF hX)) ?_;rintro _ ss3 ⟨t4,rfl,hT,hG⟩;have hF:=DC 1 0 hF hX hT hG;refine go ?_;have e:=pur H;subst e;exact rt _
theorem Ca:∀(a0:List Int) r,GA a0=some r->Vm KX 62 [.sl (false) (rws cI a0)] (sf cI r):=by
 intro a0 r H ss;unfold GA at H;refine Qao mixed Tryz.func62 rfl (by kernel_rfl) (rs:=[.tmp 2]) rfl (by kernel_rfl) ?_;have hF:=Fx.refl ss;have hX:=Tau.none ss;have hF:=hF.lit 3 1 (rws cI []) rfl
 cases a0 with
 | nil =>
  obtain ⟨rfl,_⟩:=B3 H
  try simp only [go_sem,↓reduceIte,K6,Zd,Ze,K7,Zf,Zg,Kl]
  refine Qf6 ?_ ?_
  ·try simp only [go_sem,↓reduceIte,K6,Zd,Ze,K7,Zf,Zg,Kl]
   exact Sw (vs:=[.Yb]) (by first | (simp only [go_sem,↓reduceIte,K6,Zd,Ze,K7,Zf,Zg,Kl];done) | rfl | (simp only [go_sem,↓reduceIte,K6,Zd,Ze,K7,Zf,Zg,Kl];rfl)) (Wk.Qit .Yb hF.sub)
  ·try simp only [go_sem,↓reduceIte,K6,Zd,Ze,K7,Zf,Zg,Kl]
   refine Qa9 hF 0 (g:=cI) (xs:=[]) (ys:=[]) rfl (by decide) (by decide) (RdL.of (c:=false) (fun _=>rfl) rfl) H fun v1 ss1 hF=>?_
   try simp only [go_sem,↓reduceIte,K6,Zd,Ze,K7,Zf,Zg,Kl,hF.cells 0 rfl,hF.len 0 rfl]
   exact Sw (vs:=[v1]) (by first | (simp only [go_sem,↓reduceIte,K6,Zd,Ze,K7,Zf,Zg,Kl,hF.cells 0 rfl,hF.len 0 rfl];done) | rfl | (simp only [go_sem,↓reduceIte,K6,Zd,Ze,K7,Zf,Zg,Kl,hF.cells 0 rfl,hF.len 0 rfl];rfl)) (hF.wk 0 rfl)
 | cons x xs =>
  try simp only [go_sem,↓reduceIte,K6,Zd,Ze,K7,Zf,Zg,Kl]
  refine Qa9 hF 0 (g:=cI) (xs:=[]) (ys:=x :: xs) rfl (by decide) (by decide) (RdL.of (c:=false) (fun _=>rfl) (by first | rfl | simp only [Y8,Vu,cI,cU,cS,cL])) H fun v1 ss1 hF=>?_
  try simp only [go_sem,↓reduceIte,K6,Zd,Ze,K7,Zf,Zg,Kl,hF.cells 0 rfl,hF.len 0 rfl]
  exact Sw (vs:=[v1]) (by first | (simp only [go_sem,↓reduceIte,K6,Zd,Ze,K7,Zf,Zg,Kl,hF.cells 0 rfl,hF.len 0 rfl];done) | rfl | (simp only [go_sem,↓reduceIte,K6,Zd,Ze,K7,Zf,Zg,Kl,hF.cells 0 rfl,hF.len 0 rfl];rfl)) (hF.wk 0 rfl)
theorem FG:∀(a0:Fm) r,J4 a0=some r->Vm KX 30 [.agg (KW a0)] (.agg (KW r)):=by
 refine J4.partial_correctness _ (motive_2:=fun a0 x14 X6 Cp out=>∀c,Yh Tryz.f30 0=some c->∀(Q:QT) (tt:Sto) (b1 b3 b5:Nat),(∀(YS:List Fm),out=YS->∀(T:TT) (ss:Sto) (e0v0:AV),T 2=.ptr b3 0/\T 3=.ptr b5 0->Fx tt ss [(b5,⟨26,5,[i6 a0.kind,.str a0.name,i6 a0.num,sf cI x14,e0v0]⟩),(b3,⟨26,5,[i6 0,.str zB,i6 0,.Yb,.Yb]⟩),(b1,⟨26,5,[i6 a0.kind,.str a0.name,i6 a0.num,sf cI a0.sc,sf KW a0.kids]⟩)] [⟨e0v0,26,5,rws KW YS⟩]->Q (.ex 0) ⟨T,ss⟩)->True->∀(T:TT) (ss:Sto) (z0v0:AV),T 2=.ptr b3 0/\T 3=.ptr b5 0/\T 17=sf KW a0.kids/\T 18=i6 (a0.kids.length:Int)/\T 19=i6 Cp->Fx tt ss [(b5,⟨26,5,[i6 a0.kind,.str a0.name,i6 a0.num,sf cI x14,z0v0]⟩),(b3,⟨26,5,[i6 0,.str zB,i6 0,.Yb,.Yb]⟩),(b1,⟨26,5,[i6 a0.kind,.str a0.name,i6 a0.num,sf cI a0.sc,sf KW a0.kids]⟩)] [⟨z0v0,26,5,rws KW X6⟩]->aLp KX c Q ⟨T,ss⟩) ?_ ?_
 ·intro Wz L0 a0 r H;intro ss;refine hdh mixed Tryz.func30 (rs:=[.cell 2 26]) fun q tT hF hX=>?_;refine go ?_;refine X8 hF rfl fun b1 ss2 hF=>?_;refine go ?_;refine X8 hF rfl fun b3 ss4 hF=>?_;refine go ?_;refine Yf E0 [.v,.v,.v,.v,.v,.v,.v,.v,.v,.v,.x,.z] (by kernel_rfl) ?_;refine go ?_;refine bp H (Ca a0.sc) fun x14 h H=>cv h ?_;refine go ?_;refine WH hF rfl fun b5 ss6 hF=>?_;refine go ?_;refine st hF 0 rfl fun s7 hF=>?_;have hF:=hF.nil 26 5;refine go ?_;obtain ⟨o14,ho14,H⟩:=bnd H;refine L0 a0 x14 [] 0 _ ho14 _ rfl _ _ b1 b3 b5 ?_ ?_ _ _ .Yb S hF
  ·intro Bi he T16 s17 e15v0 tT hF;have he:=he.symm;subst he;refine go ?_;refine st hF 1 rfl fun s19 hF=>?_;refine go ?_;have e:=pur H;subst e;exact rt _
  ·trivial
 ·intro J4 Wz C0 L0 a0 x14 X6 Cp out H c hc Q tt b1 b3 b5 hE hR T ss z0v0 tT hF;refine lpx tt hc rfl fun q hX=>go ?_;refine cdp H (fun h H=>?_) (fun h H=>?_)
  ·obtain ⟨x21,f1,H⟩:=bil (g:=KW) Fm.X5 H;refine go1 ?_;refine X8 hF rfl fun b8 s9 hF=>?_;refine go ?_;refine st hF 0 rfl fun s10 hF=>?_;refine go ?_;refine Yf E0 [.v,.v,.v,.v,.v,.x,.v,.z] (by kernel_rfl) ?_;refine go ?_;refine bp H (C0 x21) fun x26 h H=>cv h ?_;refine go ?_;refine PT (g:=KW) hF 0 H (rdo (c:=true) (g:=KW) Fm.X5) fun x28 H v11 s12 hF=>?_;refine go ?_;refine st hF 1 (hF.cells 0 rfl) fun s13 hF=>?_;refine go ?_;exact L0 a0 x14 x28 (i64.wrap (Cp+1)) _ H _ rfl Q tt b1 b3 b5 hE hR _ _ v11 S (hF.drop 1 0)
  ·refine go ?_;exact wq (hE _ (pur H).symm _ _ z0v0 S hF)
theorem A9:∀(a0:Fm) (c0:Stp) (c1:List Fm) r,Wj a0 c0 c1=some r->∀(e0 e1:Nat) (PU:AV) (ss:Sto),Pre ss [(e0,⟨28,13,[i6 c0.id,i6 c0.rule,i6 c0.scope,i6 c0.use.kind,.str c0.use.name,i6 c0.use.num,sf cI c0.use.sc,sf KW c0.use.kids,i6 c0.res.kind,.str c0.res.name,i6 c0.res.num,sf cI c0.res.sc,sf KW c0.res.kids]⟩),(e1,⟨24,1,[PU]⟩)] [⟨PU,26,5,rws KW c1⟩]->Ctr KX 27 [.agg (KW a0),.ptr e0 0,.ptr e1 0] ss (fun r' ss'=>∃(tt':Sto) (Qfz:AV),r'=.tup []/\Tau (strip ss [⟨PU,26,5,rws KW c1⟩]) [(e0,⟨28,13,[i6 c0.id,i6 c0.rule,i6 c0.scope,i6 c0.use.kind,.str c0.use.name,i6 c0.use.num,sf cI c0.use.sc,sf KW c0.use.kids,i6 c0.res.kind,.str c0.res.name,i6 c0.res.num,sf cI c0.res.sc,sf KW c0.res.kids]⟩),(e1,⟨24,1,[Qfz]⟩)] tt'/\Fx tt' ss' [] [⟨Qfz,26,5,rws KW r⟩]):=by
 intro a0 c0 c1 r H;intro e0 e1 PU ss hP;unfold Wj at H;refine hdg mixed Tryz.func27 (rs:=[]) fun q tT=>?_;obtain ⟨hF,hX⟩:=hP.start;generalize strip ss [⟨PU,26,5,rws KW c1⟩]=tt0 at hF hX ⊢;refine go ?_;refine X8 hF rfl fun b1 ss2 hF=>?_;refine go ?_;obtain ⟨x13,g3,H⟩:=bnd H;refine Ya 5 8 13 (.bool x13) (gi q (fun q=>?_) (fun q=>?_)) (fun J=>?_)
 ·rw [if_pos (dt q)] at g3;refine go ?_;obtain ⟨x12,hx12,g3⟩:=bnd g3;refine cl (Ba a0.sc c0.scope _ hx12) ?_;refine go ?_;exact Yt 8 g3
 ·rw [if_neg (df q)] at g3;refine go ?_;exact Yt 8 g3
 refine go ?_;obtain ⟨x19,g5,H⟩:=bnd H;refine Ya 4 15 19 (.bool x19) (gi q (fun q=>?_) (fun q=>?_)) (fun J=>?_)
 ·rw [if_pos (dbt q)] at g5;refine go ?_;obtain ⟨x17,hx17,g5⟩:=bnd g5;refine BJ (Pl c1 a0 _ hx17) .bool (by (try simp only [sf,i6,zB,Fm.X9]);exact (.cons ((hF.wk 0 rfl).trans (ZE (Sub.zero _) _)) (fun _=>rfl) (.cons (Wk.agg (Sub.zero _) (.cons (ZE (Sub.zero _) _) id (.cons (ZE (Sub.zero _) _) id (.cons (ZE (Sub.zero _) _) id (.cons (ZE (Sub.zero _) _) id (.cons (ZE (Sub.zero _) _) id .nil)))))) (fun h=>by first | exact h | rfl) .nil))) ?_;refine go ?_;exact Yt 15 g5
 ·rw [if_neg (dbf q)] at g5;refine go ?_;exact Yt 15 g5
 refine go ?_;refine cdb H (fun h H=>?_) (fun h H=>?_)
 ·refine go ?_;obtain ⟨E,hEq⟩:∃E,E=EE ss2 [e1]:=⟨_,rfl⟩
  have n7:¬E b1:=by rw [hEq];exact EE.not (hF.at 0 rfl) (nm1 (neX hF 0 rfl hX 1 rfl))
  have n8:¬E e0:=by rw [hEq];exact EE.not (hF.xat hX 0 rfl) (nm1 (neE hX 0 1 rfl rfl (by decide)))
  refine Ld E [.v,.v,.v,.x,.v,.x,.v] [1,2,4,0,3,5,6] 7 8 [] [] [] [] (by kernel_rfl) ?_;have z:=K0 (X4 (hF.at 0 rfl) n7) (X4 (hF.xat hX 0 rfl) n8);refine gh ?_;refine bp H (FG a0) fun x22 h H=>cv h ?_
  try simp only [go_sem,↓reduceIte,K6,Zd,Ze,K7,Zf,Zg,Kl,q,tT,hF.f,hF.m,hF.x hX,X4 (hF.at 0 rfl) n7,X4 (hF.xat hX 0 rfl) n8,Qjm]
  refine Qnl (g:=KW) (rows:=[[i6 0,.str zB,i6 0,.Yb,.Yb]]) hF 0 H Fm.X5 true rfl (by simp only [sf,i6,zB,Y8,Vu,cI,cU,cS,cL,Fm.X9,Fm.kind,Fm.name,Fm.num,Fm.sc,Fm.kids,Hit.name,Hit.depth,Hit.one,Hit.many,Cor.kind,Cor.id,Cor.name,Cor.num,Cor.ids,Cor.data,Cor.kids,Val.kind,Val.num,Val.name,Val.items,Val.fn,Val.env,Slt.id,Slt.val,List.flatten_cons,List.flatten_nil,List.append_nil,List.cons_append,List.nil_append];exact (.cons (.refl _) id (.cons (.refl _) id (.cons (.refl _) id (.cons .Yb (fun _=>rfl) (.cons .Yb (fun _=>rfl) .nil)))))) fun x25 H v9 s10 hF=>?_;have z:=K0 (X4 (hF.at 0 rfl) n7) (X4 (hF.xat hX 0 rfl) n8);refine gh ?_;obtain ⟨x26,hx26,H⟩:=bnd H;obtain ⟨b11,k12,hv⟩:=hF.ref 0 rfl hx26;subst hv
  try simp only [go_sem,↓reduceIte,K6,Zd,Ze,K7,Zf,Zg,Kl,q,tT,hF.f,hF.m,hF.x hX,X4 (hF.at 0 rfl) n7,X4 (hF.xat hX 0 rfl) n8,Bg (l:=x25) rfl hx26]
  refine ⟨?_,?_⟩
  ·have z:=K0 (X4 (hF.at 0 rfl) n7) (X4 (hF.xat hX 0 rfl) n8);refine gh ?_;refine Sv hF 0 (o:=0) (sz:=5) (k:=5) (v:=(.agg [i6 x22.kind,.str x22.name,i6 x22.num,sf cI x22.sc,sf KW x22.kids])) (cs:=[i6 x22.kind,.str x22.name,i6 x22.num,sf cI x22.sc,sf KW x22.kids]) (g:=KW) (i:=(c1.length:Int)) x22 Fm.X5 (by first | rfl | simp) rfl hx26 rfl rfl (by decide) (by first | rfl | simp [Hh,cI,cU,cS,cL,cB,Fm.X9]) fun s13 hF=>?_;have hF:Fx tt0 s13 [(b1,⟨26,5,[i6 a0.kind,.str a0.name,i6 a0.num,sf cI a0.sc,sf KW a0.kids]⟩)] [⟨.ref b11 x25.length k12,26,5,rws KW (x25.set (c1.length:Int).toNat x22)⟩]:=hF;have z:=K0 (X4 (hF.at 0 rfl) n7) (X4 (hF.xat hX 0 rfl) n8);refine gh ?_;refine Qno hF hX 1 (by rw [hEq];exact EE.of (by simp)) (hF.cells 0 rfl) fun t15 s14 hF hX=>?_;have z:=K0 (X4 (hF.at 0 rfl) n7) (X4 (hF.xat hX 0 rfl) n8);refine gh ?_;refine go ?_;have e:=pur H;subst e;exact rg [] ⟨_,_,rfl,hX,hF.pick [] [0] (by decide) (by decide)⟩
  ·have z:=K0 (X4 (hF.at 0 rfl) n7) (X4 (hF.xat hX 0 rfl) n8);refine gh ?_;refine Qno hF hX 1 (by rw [hEq];exact EE.of (by simp)) (hF.cells 0 rfl) fun t17 s16 hF hX=>?_;have z:=K0 (X4 (hF.at 0 rfl) n7) (X4 (hF.xat hX 0 rfl) n8);refine gh ?_;refine Sv hF 0 (o:=0) (sz:=5) (k:=5) (v:=(.agg [i6 x22.kind,.str x22.name,i6 x22.num,sf cI x22.sc,sf KW x22.kids])) (cs:=[i6 x22.kind,.str x22.name,i6 x22.num,sf cI x22.sc,sf KW x22.kids]) (g:=KW) (i:=(c1.length:Int)) x22 Fm.X5 (by first | rfl | simp) rfl hx26 rfl rfl (by decide) (by first | rfl | simp [Hh,cI,cU,cS,cL,cB,Fm.X9]) fun s18 hF=>?_;have hF:Fx t17 s18 [(b1,⟨26,5,[i6 a0.kind,.str a0.name,i6 a0.num,sf cI a0.sc,sf KW a0.kids]⟩)] [⟨.ref b11 x25.length k12,26,5,rws KW (x25.set (c1.length:Int).toNat x22)⟩]:=hF;have z:=K0 (X4 (hF.at 0 rfl) n7) (X4 (hF.xat hX 0 rfl) n8);refine gh ?_;refine go ?_;have e:=pur H;subst e;exact rg [] ⟨_,_,rfl,hX,hF.pick [] [0] (by decide) (by decide)⟩
 ·refine go ?_;have e:=pur H;subst e;exact rg _ ⟨_,_,rfl,hX,hF.pick [] [0] (by decide) (by decide)⟩
theorem Hp:∀(a0:Fm) (c0:Stp) (c1:List Fm) r,YA a0 c0 c1=some r->∀(e0 e1:Nat) (PU:AV) (ss:Sto),Pre ss [(e0,⟨28,13,[i6 c0.id,i6 c0.rule,i6 c0.scope,i6 c0.use.kind,.str c0.use.name,i6 c0.use.num,sf cI c0.use.sc,sf KW c0.use.kids,i6 c0.res.kind,.str c0.res.name,i6 c0.res.num,sf cI c0.res.sc,sf KW c0.res.kids]⟩),(e1,⟨24,1,[PU]⟩)] [⟨PU,26,5,rws KW c1⟩]->Ctr KX 26 [.agg (KW a0),.fn 27 [.ptr e0 0,.ptr e1 0]] ss (fun r' ss'=>∃(tt':Sto) (Qfz:AV),r'=.tup []/\Tau (strip ss [⟨PU,26,5,rws KW c1⟩]) [(e0,⟨28,13,[i6 c0.id,i6 c0.rule,i6 c0.scope,i6 c0.use.kind,.str c0.use.name,i6 c0.use.num,sf cI c0.use.sc,sf KW c0.use.kids,i6 c0.res.kind,.str c0.res.name,i6 c0.res.num,sf cI c0.res.sc,sf KW c0.res.kids]⟩),(e1,⟨24,1,[Qfz]⟩)] tt'/\Fx tt' ss' [] [⟨Qfz,26,5,rws KW r⟩]):=by
 intro a0 c0 c1;revert a0 c1;refine YA.partial_correctness c0 (motive_1:=fun a0 c1 r=>∀(e0 e1:Nat) (PU:AV) (ss:Sto),Pre ss [(e0,⟨28,13,[i6 c0.id,i6 c0.rule,i6 c0.scope,i6 c0.use.kind,.str c0.use.name,i6 c0.use.num,sf cI c0.use.sc,sf KW c0.use.kids,i6 c0.res.kind,.str c0.res.name,i6 c0.res.num,sf cI c0.res.sc,sf KW c0.res.kids]⟩),(e1,⟨24,1,[PU]⟩)] [⟨PU,26,5,rws KW c1⟩]->Ctr KX 26 [.agg (KW a0),.fn 27 [.ptr e0 0,.ptr e1 0]] ss (fun r' ss'=>∃(tt':Sto) (Qfz:AV),r'=.tup []/\Tau (strip ss [⟨PU,26,5,rws KW c1⟩]) [(e0,⟨28,13,[i6 c0.id,i6 c0.rule,i6 c0.scope,i6 c0.use.kind,.str c0.use.name,i6 c0.use.num,sf cI c0.use.sc,sf KW c0.use.kids,i6 c0.res.kind,.str c0.res.name,i6 c0.res.num,sf cI c0.res.sc,sf KW c0.res.kids]⟩),(e1,⟨24,1,[Qfz]⟩)] tt'/\Fx tt' ss' [] [⟨Qfz,26,5,rws KW r⟩])) (motive_2:=fun a0 X6 GS out=>∀c,Yh Tryz.f26 0=some c->∀(Q:QT) (tt0:Sto) (e0 e1 b1:Nat),(∀(YS:List Fm),out=YS->∀(T:TT) (ss tt:Sto) (e0v0:AV),0+0=0->Tau tt0 [(e0,⟨28,13,[i6 c0.id,i6 c0.rule,i6 c0.scope,i6 c0.use.kind,.str c0.use.name,i6 c0.use.num,sf cI c0.use.sc,sf KW c0.use.kids,i6 c0.res.kind,.str c0.res.name,i6 c0.res.num,sf cI c0.res.sc,sf KW c0.res.kids]⟩),(e1,⟨24,1,[e0v0]⟩)] tt->Fx tt ss [(b1,⟨26,5,[i6 a0.kind,.str a0.name,i6 a0.num,sf cI a0.sc,sf KW a0.kids]⟩)] [⟨e0v0,26,5,rws KW YS⟩]->Q (.ex 0) ⟨T,ss⟩)->True->∀(T:TT) (ss tt:Sto) (z0v0:AV),T 1=.fn 27 [.ptr e0 0,.ptr e1 0]/\T 10=sf KW a0.kids/\T 11=i6 (a0.kids.length:Int)/\T 12=i6 GS->Tau tt0 [(e0,⟨28,13,[i6 c0.id,i6 c0.rule,i6 c0.scope,i6 c0.use.kind,.str c0.use.name,i6 c0.use.num,sf cI c0.use.sc,sf KW c0.use.kids,i6 c0.res.kind,.str c0.res.name,i6 c0.res.num,sf cI c0.res.sc,sf KW c0.res.kids]⟩),(e1,⟨24,1,[z0v0]⟩)] tt->Fx tt ss [(b1,⟨26,5,[i6 a0.kind,.str a0.name,i6 a0.num,sf cI a0.sc,sf KW a0.kids]⟩)] [⟨z0v0,26,5,rws KW X6⟩]->aLp KX c Q ⟨T,ss⟩) ?_ ?_
 ·intro Yv L0 a0 c1 r H;intro e0 e1 PU ss hP;refine hdg mixed Tryz.func26 (rs:=[]) fun q tT=>?_;obtain ⟨hF,hX⟩:=hP.start;generalize strip ss [⟨PU,26,5,rws KW c1⟩]=tt0 at hF hX ⊢;refine go ?_;refine X8 hF rfl fun b1 ss2 hF=>?_;refine go ?_;obtain ⟨x8,hx8,H⟩:=bnd H;refine cx (A9 a0 c0 c1 _ hx8 e0 e1 PU _ (pre 0 2 1 hF hX)) ?_;rintro _ ss4 ⟨t5,v3,rfl,hT,hG⟩;obtain ⟨t6,hX,hF⟩:=aft 0 2 1 hF hX hT hG;refine go ?_;obtain ⟨o14,ho14,H⟩:=bnd H;refine L0 a0 x8 0 _ ho14 _ rfl _ tt0 e0 e1 b1 ?_ ?_ _ _ _ v3 S hX hF
  ·intro Bi he T16 s17 t18 e15v0 tT hX hF;have he:=he.symm;subst he;refine go ?_;have e:=pur H;subst e;exact rg _ ⟨_,_,rfl,hX,hF.pick [] [0] (by decide) (by decide)⟩
  ·trivial
 ·intro YA Yv C0 L0 a0 X6 GS out H c hc Q tt0 e0 e1 b1 hE hR T ss tt z0v0 tT hX hF;refine lpy hc rfl fun q=>go ?_;refine cdp H (fun h H=>?_) (fun h H=>?_)
  ·obtain ⟨x14,f1,H⟩:=bil (g:=KW) Fm.X5 H;refine go1 ?_;refine X8 hF rfl fun b7 s8 hF=>?_;refine go ?_;refine st hF 0 rfl fun s9 hF=>?_;refine go ?_;obtain ⟨x18,hx18,H⟩:=bnd H;refine cx (C0 x14 X6 _ hx18 e0 e1 z0v0 _ (pre 0 2 1 hF hX)) ?_;rintro _ s11 ⟨t12,v10,rfl,hT,hG⟩;obtain ⟨t13,hX,hF⟩:=aft 0 2 1 hF hX hT hG;refine go ?_;exact L0 a0 x18 (i64.wrap (GS+1)) _ H _ rfl Q tt0 e0 e1 b1 hE hR _ _ _ v10 S hX (hF.drop 1 0)
  ·refine go ?_;exact wq (hE _ (pur H).symm _ _ _ z0v0 S hX hF)
theorem B2:∀(a0:Stp) r,Jj a0=some r->Vm KX 7 [.agg (Stp.cells a0)] (sf KW r):=by
 intro a0 r H;intro ss;unfold Jj at H;refine hdh mixed Tryz.func7 (rs:=[.tmp 2]) fun q tT hF hX=>?_;refine go ?_;refine X8 hF rfl fun b1 ss2 hF=>?_;refine go ?_;refine X8 hF rfl fun b3 ss4 hF=>?_;refine go ?_;refine st hF 0 rfl fun ss5 hF=>?_;refine go ?_;refine bp H (EG a0.res) fun x7 h H=>cl h ?_;refine go ?_;obtain ⟨x14,g6,H⟩:=bnd H;refine Ya 4 10 14 (.bool x14) (giN q (fun q=>?_) (fun q=>?_)) (fun J=>?_)
 ·rw [if_neg (dbf q)] at g6;refine go ?_;obtain ⟨x12,hx12,g6⟩:=bnd g6;refine cl (Aa a0.scope 1 99 _ hx12) ?_;refine go ?_;exact Yt 10 g6
 ·rw [if_pos (dbt q)] at g6;refine go ?_;exact Yt 10 g6
 refine go ?_;refine cdb H (fun h H=>?_) (fun h H=>?_)
 ·refine go ?_;have e:=pur H;subst e;exact rt _
 ·have hF:=hF.lit 26 5 (rws KW []) rfl;refine go ?_;have hF:=pck hF [1,0] [0];obtain ⟨x19,hx19,H⟩:=bnd H;refine cx (Hp a0.res a0 [] _ hx19 b1 b3 (.sl true (rws KW [])) _ (pre 2 0 1 hF hX)) ?_;rintro _ s9 ⟨t10,v8,rfl,hT,hG⟩;have hF:=DC 2 1 hF hX hT hG;refine go ?_;have e:=pur H;subst e;exact rt _
theorem PF:∀(a0 a1 a2:Int) r,En a0 a1 a2=some r->Vm KX 32 [i6 a0,i6 a1,i6 a2] (.bool r):=by
 intro a0 a1 a2 r H;intro ss;unfold En at H;refine hdh mixed Tryz.func32 (rs:=[.tmp 6]) fun q tT hF hX=>?_;refine go ?_;obtain ⟨x14,g1,H⟩:=bnd H;refine Ya 3 11 14 (.bool x14) (gi q (fun q=>?_) (fun q=>?_)) (fun J=>?_)
 ·refine go ?_;exact Yt 11 g1
 ·refine go ?_;exact Yt 11 g1
 refine go ?_;have e:=pur H;subst e;exact rt _
theorem DO:∀(a0:List Fm) (a1:Fm) (a2:Int) r,VX a0 a1 a2=some r->∀  (p0:AV) (ss:Sto),Pre ss [] [⟨p0,26,5,rws KW a0⟩]->Ctr KX 33 [p0,.agg (KW a1),i6 a2] ss (fun r' ss'=>∃(tt':Sto) (w0:AV),r'=w0/\Tau (strip ss [⟨p0,26,5,rws KW a0⟩]) [] tt'/\Fx tt' ss' [] [⟨w0,26,5,rws KW r⟩]):=by
 intro a0 a1 a2;revert a0 a1;refine VX.partial_correctness a2 (motive_1:=fun a0 a1 r=>∀  (p0:AV) (ss:Sto),Pre ss [] [⟨p0,26,5,rws KW a0⟩]->Ctr KX 33 [p0,.agg (KW a1),i6 a2] ss (fun r' ss'=>∃(tt':Sto) (w0:AV),r'=w0/\Tau (strip ss [⟨p0,26,5,rws KW a0⟩]) [] tt'/\Fx tt' ss' [] [⟨w0,26,5,rws KW r⟩])) (motive_2:=fun a1 X6 Yo out=>∀c,Yh Tryz.f33 0=some c->∀(Q:QT) (tt0:Sto) (b1:Nat),(∀(YS:List Fm),out=YS->∀(T:TT) (ss tt:Sto) (e0v0:AV),T 0=e0v0->Tau tt0 [] tt->Fx tt ss [(b1,⟨26,5,[i6 a1.kind,.str a1.name,i6 a1.num,sf cI a1.sc,sf KW a1.kids]⟩)] [⟨e0v0,26,5,rws KW YS⟩]->Q (.ex 0) ⟨T,ss⟩)->True->∀(T:TT) (ss tt:Sto) (z0v0:AV),T 0=z0v0/\T 2=i6 a2/\T 4=.ptr b1 0/\T 7=i6 Yo->Tau tt0 [] tt->Fx tt ss [(b1,⟨26,5,[i6 a1.kind,.str a1.name,i6 a1.num,sf cI a1.sc,sf KW a1.kids]⟩)] [⟨z0v0,26,5,rws KW X6⟩]->aLp KX c Q ⟨T,ss⟩) ?_ ?_
 ·intro Vw L0 a0 a1 r H;intro  p0 ss hP;refine hdg mixed Tryz.func33 (rs:=[.tmp 6]) fun q tT=>?_;obtain ⟨hF,hX⟩:=hP.start;generalize strip ss [⟨p0,26,5,rws KW a0⟩]=tt0 at hF hX ⊢;refine go ?_;refine X8 hF rfl fun b1 ss2 hF=>?_;refine go ?_;obtain ⟨x16,g3,H⟩:=bnd H;refine Ya 4 12 16 (.bool x16) (gi q (fun q=>?_) (fun q=>?_)) (fun J=>?_)
  ·rw [if_pos (dt q)] at g3;refine go ?_;obtain ⟨x15,hx15,g3⟩:=bnd g3;refine cl (G7 a1.sc a2 _ hx15) ?_;refine go ?_;exact Yt 12 g3
  ·rw [if_neg (df q)] at g3;refine go ?_;exact Yt 12 g3
  refine go ?_;obtain ⟨x22,g5,H⟩:=bnd H;refine Ya 4 18 22 (.bool x22) (gi q (fun q=>?_) (fun q=>?_)) (fun J=>?_)
  ·rw [if_pos (dbt q)] at g5;refine go ?_;obtain ⟨x20,hx20,g5⟩:=bnd g5;refine BJ (Iz a0 a1 _ hx20) .bool (by (try simp only [sf,i6,zB,Fm.X9]);exact (.cons ((hF.wk 0 rfl).trans (ZE (Sub.zero _) _)) (fun _=>rfl) (.cons (Wk.agg (Sub.zero _) (.cons (ZE (Sub.zero _) _) id (.cons (ZE (Sub.zero _) _) id (.cons (ZE (Sub.zero _) _) id (.cons (ZE (Sub.zero _) _) id (.cons (ZE (Sub.zero _) _) id .nil)))))) (fun h=>by first | exact h | rfl) .nil))) ?_;refine go ?_;exact Yt 18 g5
  ·rw [if_neg (dbf q)] at g5;refine go ?_;exact Yt 18 g5
  refine go ?_;obtain ⟨OF,j8,H⟩:=bnd H;refine VG (fun s'=>∃(T:TT) (ss1 tt1:Sto) (y7v0:AV),s'=⟨T,ss1⟩/\(T 0=y7v0/\T 2=i6 a2/\T 4=.ptr b1 0)/\Tau tt0 [] tt1/\Fx tt1 ss1 [(b1,⟨26,5,[i6 a1.kind,.str a1.name,i6 a1.num,sf cI a1.sc,sf KW a1.kids]⟩)] [⟨y7v0,26,5,rws KW OF⟩]) (cdb j8 (fun h j8=>?_) (fun h j8=>?_)) ?_
  ·refine go ?_;obtain ⟨x25,hx25,j8⟩:=bnd j8;refine cl (VQ a1 _ hx25) ?_;refine go ?_;refine apd (g:=KW) hF 0 j8 (rdo (c:=true) (g:=KW) Fm.X5) fun x27 j8 v9 s10 hF=>?_;refine go ?_;have e:=pur j8;subst e;exact ⟨_,_,_,v9,rfl,S,hX,hF⟩
  ·refine go ?_;have e:=pur j8;subst e;exact ⟨_,_,_,p0,rfl,S,hX,hF⟩
  ·rintro s' ⟨T11,s12,t13,y7v0,rfl,tT,hX,hF⟩;refine go ?_;obtain ⟨o18,ho18,H⟩:=bnd H;refine L0 a1 OF 0 _ ho18 _ rfl _ tt0 b1 ?_ ?_ _ _ _ y7v0 S hX hF
   ·intro O8 he T20 s21 t22 e19v0 tT hX hF;have he:=he.symm;subst he;refine go ?_;have e:=pur H;subst e;exact rg _ ⟨_,_,rfl,hX,hF.pick [] [0] (by decide) (by decide)⟩
   ·trivial
 ·intro VX Vw C0 L0 a1 X6 Yo out H c hc Q tt0 b1 hE hR T ss tt z0v0 tT hX hF;refine lpy hc rfl fun q=>go ?_;refine cdp H (fun h H=>?_) (fun h H=>?_)
  ·obtain ⟨x39,f1,H⟩:=bil (g:=KW) Fm.X5 H;refine go1 ?_;obtain ⟨x42,hx42,H⟩:=bnd H;refine cx (C0 X6 x39 _ hx42  z0v0 _ (pre 0 0 1 hF hX)) ?_;rintro v14 s15 ⟨t16,_,rfl,hT,hG⟩;obtain ⟨t17,hX,hF⟩:=aft 0 0 1 hF hX hT hG;refine go ?_;exact L0 a1 x42 (i64.wrap (Yo+1)) _ H _ rfl Q tt0 b1 hE hR _ _ _ v14 S hX hF
  ·refine go ?_;exact wq (hE _ (pur H).symm _ _ _ z0v0 S hX hF)
theorem DN:∀(a1:Fm) (a2:Int) (X6:List Fm) (Yo:Int) out,VW a1 a2 X6 Yo=some out->∀c,Yh Tryz.f33 0=some c->∀(Q:QT) (tt0:Sto) (b1:Nat),(∀(YS:List Fm),out=YS->∀(T:TT) (ss tt:Sto) (e0v0:AV),T 0=e0v0->Tau tt0 [] tt->Fx tt ss [(b1,⟨26,5,[i6 a1.kind,.str a1.name,i6 a1.num,sf cI a1.sc,sf KW a1.kids]⟩)] [⟨e0v0,26,5,rws KW YS⟩]->Q (.ex 0) ⟨T,ss⟩)->True->∀(T:TT) (ss tt:Sto) (z0v0:AV),T 0=z0v0/\T 2=i6 a2/\T 4=.ptr b1 0/\T 7=i6 Yo->Tau tt0 [] tt->Fx tt ss [(b1,⟨26,5,[i6 a1.kind,.str a1.name,i6 a1.num,sf cI a1.sc,sf KW a1.kids]⟩)] [⟨z0v0,26,5,rws KW X6⟩]->aLp KX c Q ⟨T,ss⟩:=by
 intro a1 a2 X6 Yo;revert X6 Yo;refine VW.partial_correctness a1 a2 _ ?_;intro VW IH X6 Yo out H c hc Q tt0 b1 hE hR T ss tt z0v0 tT hX hF;refine lpy hc rfl fun q=>go ?_;refine cdp H (fun h H=>?_) (fun h H=>?_)
 ·obtain ⟨x39,f1,H⟩:=bil (g:=KW) Fm.X5 H;refine go1 ?_;obtain ⟨x42,hx42,H⟩:=bnd H;refine cx (DO X6 x39 a2 _ hx42  z0v0 _ (pre 0 0 1 hF hX)) ?_;rintro v14 s15 ⟨t16,_,rfl,hT,hG⟩;obtain ⟨t17,hX,hF⟩:=aft 0 0 1 hF hX hT hG;refine go ?_;exact IH  x42 (i64.wrap (Yo+1)) _ H _ rfl Q tt0 b1 hE hR _ _ _ v14 S hX hF
 ·refine go ?_;exact wq (hE _ (pur H).symm _ _ _ z0v0 S hX hF)
theorem FL:∀(a0:List Fm) (a1:Fm) (a2:Int) r,IU a0 a1 a2=some r->∀  (p0:AV) (ss:Sto),Pre ss [] [⟨p0,26,5,rws KW a0⟩]->Ctr KX 33 [p0,.agg (KW a1),i6 a2] ss (fun r' ss'=>∃(tt':Sto),r'=sf KW r/\Tau (strip ss [⟨p0,26,5,rws KW a0⟩]) [] tt'/\Fx tt' ss' [] []):=by
 intro a0 a1 a2 r H;intro  p0 ss hP;unfold IU at H;refine hdg mixed Tryz.func33 (rs:=[.tmp 6]) fun q tT=>?_;obtain ⟨hF,hX⟩:=hP.start;generalize strip ss [⟨p0,26,5,rws KW a0⟩]=tt0 at hF hX ⊢;refine go ?_;refine X8 hF rfl fun b1 ss2 hF=>?_;refine go ?_;obtain ⟨x16,g3,H⟩:=bnd H;refine Ya 4 12 16 (.bool x16) (gi q (fun q=>?_) (fun q=>?_)) (fun J=>?_)
 ·rw [if_pos (dt q)] at g3;refine go ?_;obtain ⟨x15,hx15,g3⟩:=bnd g3;refine cl (G7 a1.sc a2 _ hx15) ?_;refine go ?_;exact Yt 12 g3
 ·rw [if_neg (df q)] at g3;refine go ?_;exact Yt 12 g3
 refine go ?_;obtain ⟨x22,g5,H⟩:=bnd H;refine Ya 4 18 22 (.bool x22) (gi q (fun q=>?_) (fun q=>?_)) (fun J=>?_)
 ·rw [if_pos (dbt q)] at g5;refine go ?_;obtain ⟨x20,hx20,g5⟩:=bnd g5;refine BJ (Iz a0 a1 _ hx20) .bool (by (try simp only [sf,i6,zB,Fm.X9]);exact (.cons ((hF.wk 0 rfl).trans (ZE (Sub.zero _) _)) (fun _=>rfl) (.cons (Wk.agg (Sub.zero _) (.cons (ZE (Sub.zero _) _) id (.cons (ZE (Sub.zero _) _) id (.cons (ZE (Sub.zero _) _) id (.cons (ZE (Sub.zero _) _) id (.cons (ZE (Sub.zero _) _) id .nil)))))) (fun h=>by first | exact h | rfl) .nil))) ?_;refine go ?_;exact Yt 18 g5
 ·rw [if_neg (dbf q)] at g5;refine go ?_;exact Yt 18 g5
 refine go ?_;obtain ⟨OF,j8,H⟩:=bnd H;refine VG (fun s'=>∃(T:TT) (ss1 tt1:Sto) (y7v0:AV),s'=⟨T,ss1⟩/\(T 0=y7v0/\T 2=i6 a2/\T 4=.ptr b1 0)/\Tau tt0 [] tt1/\Fx tt1 ss1 [(b1,⟨26,5,[i6 a1.kind,.str a1.name,i6 a1.num,sf cI a1.sc,sf KW a1.kids]⟩)] [⟨y7v0,26,5,rws KW OF⟩]) (cdb j8 (fun h j8=>?_) (fun h j8=>?_)) ?_
 ·refine go ?_;obtain ⟨x25,hx25,j8⟩:=bnd j8;refine cl (VQ a1 _ hx25) ?_;refine go ?_;refine apd (g:=KW) hF 0 j8 (rdo (c:=true) (g:=KW) Fm.X5) fun x27 j8 v9 s10 hF=>?_;refine go ?_;have e:=pur j8;subst e;exact ⟨_,_,_,v9,rfl,S,hX,hF⟩
 ·refine go ?_;have e:=pur j8;subst e;exact ⟨_,_,_,p0,rfl,S,hX,hF⟩
 ·rintro s' ⟨T11,s12,t13,y7v0,rfl,tT,hX,hF⟩;refine go ?_;obtain ⟨o18,ho18,H⟩:=bnd H;refine DN a1 a2 OF 0 _ ho18 _ rfl _ tt0 b1 ?_ ?_ _ _ _ y7v0 S hX hF
  ·intro O8 he T20 s21 t22 e19v0 tT hX hF;have he:=he.symm;subst he;refine go ?_;have e:=pur H;subst e;exact rg _ ⟨_,rfl,hX,K1 _⟩
  ·trivial
theorem Cd:∀(a0:Stp) r,Jl a0=some r->Vm KX 9 [.agg (Stp.cells a0)] (sf KW r):=by
 intro a0 r H;intro ss;unfold Jl at H;refine hdh mixed Tryz.func9 (rs:=[.tmp 2]) fun q tT hF hX=>?_;refine go ?_;refine X8 hF rfl fun b1 ss2 hF=>?_;refine go ?_;refine bp H (Yz a0.res) fun x5 h H=>cl h ?_;refine go ?_;obtain ⟨x12,g3,H⟩:=bnd H;refine Ya 4 8 12 (.bool x12) (giN q (fun q=>?_) (fun q=>?_)) (fun J=>?_)
 ·rw [if_neg (dbf q)] at g3;refine go ?_;obtain ⟨x10,hx10,g3⟩:=bnd g3;refine cl (PF a0.scope 1 99 _ hx10) ?_;refine go ?_;exact Yt 8 g3
 ·rw [if_pos (dbt q)] at g3;refine go ?_;exact Yt 8 g3
 refine go ?_;refine cdb H (fun h H=>?_) (fun h H=>?_)
 ·refine go ?_;have e:=pur H;subst e;exact rt _
 ·have hF:=hF.lit 26 5 (rws KW []) rfl;refine go ?_;obtain ⟨x19,hx19,H⟩:=bnd H;refine cx (FL [] a0.res a0.scope _ hx19  (.sl true (rws KW [])) _ (pre 0 0 1 hF hX)) ?_;rintro _ ss5 ⟨t6,rfl,hT,hG⟩;have hF:=DC 0 1 hF hX hT hG;refine go ?_;have e:=pur H;subst e;exact rt _
theorem D8:∀(a0 a1:List Fm) (Yd:Int) out,Wl a0 a1 Yd=some out->∀c,Yh Tryz.f8 0=some c->∀(Q:QT) (tt:Sto),(∀(_u:Unit),out=Sum.inr ()->∀(T:TT) (ss:Sto),0+0=0->Fx tt ss [] []->Q (.ex 0) ⟨T,ss⟩)->(∀r,out=Sum.inl r->∀s',IE KX [.tmp 4] (fun r' ss'=>r'=.bool r/\ss'=tt) s'->Q .ret s')->∀(T:TT) (ss:Sto),T 0=sf KW a0/\T 1=sf KW a1/\T 5=i6 Yd->Fx tt ss [] []->aLp KX c Q ⟨T,ss⟩:=by
 intro a0 a1 Yd;revert Yd;refine Wl.partial_correctness a0 a1 _ ?_;intro Wl IH Yd out H c hc Q tt  hE hR T ss tT hF;refine lpx tt hc rfl fun q hX=>go ?_;refine cdp H (fun h H=>?_) (fun h H=>?_)
 ·refine go ?_;refine Yf E0 [.v,.v,.v,.v,.v,.v,.v,.v,.v,.v] (by kernel_rfl) ?_;obtain ⟨x19,f1,H⟩:=bil (g:=KW) Fm.X5 H;obtain ⟨x23,f2,H⟩:=bil (g:=KW) Fm.X5 H;refine go2 ?_;refine bp H (Ii x19 x23) fun x25 h H=>cv h ?_;refine go ?_;refine cdb H (fun h H=>?_) (fun h H=>?_)
  ·refine go ?_;exact wq (hR _ (pur H).symm _ (rt _))
  ·refine go ?_;exact IH  (i64.wrap (Yd+1)) _ H _ rfl Q tt  hE hR _ _  S hF
 ·refine go ?_;exact wq (hE () (pur H).symm _ _  S hF)
theorem LS:∀(a0 a1:List Fm) r,Ai a0 a1=some r->Vm KX 8 [sf KW a0,sf KW a1] (.bool r):=by
 intro a0 a1 r H;intro ss;unfold Ai at H;refine hdh mixed Tryz.func8 (rs:=[.tmp 4]) fun q tT hF hX=>?_;refine go ?_;refine cdn H (fun h H=>?_) (fun h H=>?_)
 ·refine go ?_;have e:=pur H;subst e;exact rt _
 ·refine go ?_;obtain ⟨o1,ho1,H⟩:=bnd H;refine D8 a0 a1 0 _ ho1 _ rfl _ _  ?_ ?_ _ _  S hF
  ·intro _ he T3 ss4 tT hF;have he:=he.symm;subst he
   try dsimp only at H
   refine go ?_;have e:=pur H;subst e;exact rt _
  ·intro r hr s' hs;subst hr;have e:=pur H;subst e;exact hsq hs
theorem LU:∀(a0:List Int) (a1 Yd:Int) out,J5 a0 a1 Yd=some out->∀c,Yh Tryz.f10 0=some c->∀(Q:QT) (tt:Sto),(∀(_u:Unit),out=Sum.inr ()->∀(T:TT) (ss:Sto),0+0=0->Fx tt ss [] []->Q (.ex 0) ⟨T,ss⟩)->(∀r,out=Sum.inl r->∀s',IE KX [.tmp 4] (fun r' ss'=>r'=.bool r/\ss'=tt) s'->Q .ret s')->∀(T:TT) (ss:Sto),T 0=sf cI a0/\T 1=i6 a1/\T 5=i6 Yd->Fx tt ss [] []->aLp KX c Q ⟨T,ss⟩:=by
 intro a0 a1 Yd;revert Yd;refine J5.partial_correctness a0 a1 _ ?_;intro J5 IH Yd out H c hc Q tt  hE hR T ss tT hF;refine lpx tt hc rfl fun q hX=>go ?_;refine cdp H (fun h H=>?_) (fun h H=>?_)
 ·obtain ⟨x14,f1,H⟩:=bil (g:=cI) (fun _=>rfl) H;refine go1 ?_;refine go ?_;refine cdp H (fun h H=>?_) (fun h H=>?_)
  ·refine go ?_;exact wq (hR _ (pur H).symm _ (rt _))
  ·refine go ?_;exact IH  (i64.wrap (Yd+1)) _ H _ rfl Q tt  hE hR _ _  S hF
 ·refine go ?_;exact wq (hE () (pur H).symm _ _  S hF)
theorem Pn:∀(a0:List Int) (a1:Int) r,BN a0 a1=some r->Vm KX 10 [sf cI a0,i6 a1] (.bool r):=by
 intro a0 a1 r H;intro ss;unfold BN at H;refine hdh mixed Tryz.func10 (rs:=[.tmp 4]) fun q tT hF hX=>?_;refine go ?_;obtain ⟨o1,ho1,H⟩:=bnd H;refine LU a0 a1 0 _ ho1 _ rfl _ _  ?_ ?_ _ _  S hF
 ·intro _ he T3 ss4 tT hF;have he:=he.symm;subst he
  try dsimp only at H
  refine go ?_;have e:=pur H;subst e;exact rt _
 ·intro r hr s' hs;subst hr;have e:=pur H;subst e;exact hsq hs
theorem MX:∀(a0 a1:Fm) r,G2 a0 a1=some r->Vm KX 11 [.agg (KW a0),.agg (KW a1)] (.bool r):=by
 intro a0 a1;revert a0;refine G2.partial_correctness a1 (motive_1:=fun a0 r=>Vm KX 11 [.agg (KW a0),.agg (KW a1)] (.bool r)) (motive_2:=fun a0 Yd out=>∀c,Yh Tryz.f11 0=some c->∀(Q:QT) (tt:Sto) (b1 b3:Nat),(∀(_u:Unit),out=Sum.inr ()->∀(T:TT) (ss:Sto),0+0=0->Fx tt ss [(b3,⟨26,5,[i6 a1.kind,.str a1.name,i6 a1.num,sf cI a1.sc,sf KW a1.kids]⟩),(b1,⟨26,5,[i6 a0.kind,.str a0.name,i6 a0.num,sf cI a0.sc,sf KW a0.kids]⟩)] []->Q (.ex 0) ⟨T,ss⟩)->(∀r,out=Sum.inl r->∀s',IE KX [.tmp 4] (fun r' ss'=>r'=.bool r/\ss'=tt) s'->Q .ret s')->∀(T:TT) (ss:Sto),T 2=.ptr b1 0/\T 3=.ptr b3 0/\T 5=i6 Yd->Fx tt ss [(b3,⟨26,5,[i6 a1.kind,.str a1.name,i6 a1.num,sf cI a1.sc,sf KW a1.kids]⟩),(b1,⟨26,5,[i6 a0.kind,.str a0.name,i6 a0.num,sf cI a0.sc,sf KW a0.kids]⟩)] []->aLp KX c Q ⟨T,ss⟩) ?_ ?_
 ·intro Jt L0 a0 r H;intro ss;refine hdh mixed Tryz.func11 (rs:=[.tmp 4]) fun q tT hF hX=>?_;refine go ?_;refine X8 hF rfl fun b1 ss2 hF=>?_;refine go ?_;refine X8 hF rfl fun b3 ss4 hF=>?_;refine go ?_;refine bp H (Ii a0 a1) fun x8 h H=>cl h ?_;refine go ?_;refine cdb H (fun h H=>?_) (fun h H=>?_)
  ·refine go ?_;have e:=pur H;subst e;exact rt _
  ·refine go ?_;obtain ⟨o5,ho5,H⟩:=bnd H;refine L0 a0 0 _ ho5 _ rfl _ _ b1 b3 ?_ ?_ _ _  S hF
   ·intro _ he T7 s8 tT hF;have he:=he.symm;subst he
    try dsimp only at H
    refine go ?_;have e:=pur H;subst e;exact rt _
   ·intro r hr s' hs;subst hr;have e:=pur H;subst e;exact hsq hs
 ·intro G2 Jt C0 L0 a0 Yd out H c hc Q tt b1 b3 hE hR T ss tT hF;refine lpx tt hc rfl fun q hX=>go ?_;refine cdp H (fun h H=>?_) (fun h H=>?_)
  ·refine go ?_;refine Yf E0 [.v,.v,.v,.v,.v,.v,.v] (by kernel_rfl) ?_;obtain ⟨x19,f1,H⟩:=bil (g:=KW) Fm.X5 H;refine go1 ?_;refine bp H (C0 x19) fun x22 h H=>cv h ?_;refine go ?_;refine cdb H (fun h H=>?_) (fun h H=>?_)
   ·refine go ?_;exact wq (hR _ (pur H).symm _ (rt _))
   ·refine go ?_;exact L0 a0 (i64.wrap (Yd+1)) _ H _ rfl Q tt b1 b3 hE hR _ _  S hF
  ·refine go ?_;exact wq (hE () (pur H).symm _ _  S hF)
theorem Ax:∀(x11:Stp) (x13:List Fm) (Yd Nv:Int) out,YQ x11 x13 Yd Nv=some out->∀c,Yh Tryz.f3 1=some c->∀(Q:QT) (tt:Sto) (b1:Nat),(∀(_u:Unit),out=Sum.inr ()->∀(T:TT) (ss:Sto),T 3=.ptr b1 0/\T 4=sf KW x13/\T 5=i6 Yd->Fx tt ss [(b1,⟨28,13,[i6 x11.id,i6 x11.rule,i6 x11.scope,i6 x11.use.kind,.str x11.use.name,i6 x11.use.num,sf cI x11.use.sc,sf KW x11.use.kids,i6 x11.res.kind,.str x11.res.name,i6 x11.res.num,sf cI x11.res.sc,sf KW x11.res.kids]⟩)] []->Q (.ex 2) ⟨T,ss⟩)->(∀r,out=Sum.inl r->∀s',IE KX [.tmp 2] (fun r' ss'=>r'=.bool r/\ss'=tt) s'->Q .ret s')->∀(T:TT) (ss:Sto),T 3=.ptr b1 0/\T 4=sf KW x13/\T 5=i6 Yd/\T 6=i6 Nv->Fx tt ss [(b1,⟨28,13,[i6 x11.id,i6 x11.rule,i6 x11.scope,i6 x11.use.kind,.str x11.use.name,i6 x11.use.num,sf cI x11.use.sc,sf KW x11.use.kids,i6 x11.res.kind,.str x11.res.name,i6 x11.res.num,sf cI x11.res.sc,sf KW x11.res.kids]⟩)] []->aLp KX c Q ⟨T,ss⟩:=by
 intro x11 x13 Yd Nv;revert Nv;refine YQ.partial_correctness x11 x13 Yd _ ?_;intro YQ IH Nv out H c hc Q tt b1 hE hR T ss tT hF;refine lpx tt hc rfl fun q hX=>go ?_;refine cdp H (fun h H=>?_) (fun h H=>?_)
 ·refine go ?_;refine Yf E0 [.v,.v,.v,.v,.v,.v,.v,.v,.v] (by kernel_rfl) ?_;obtain ⟨x51,f1,H⟩:=bil (g:=KW) Fm.X5 H;obtain ⟨x55,f2,H⟩:=bil (g:=KW) Fm.X5 H;refine go2 ?_;refine bp H (Ii x51 x55) fun x57 h H=>cv h ?_;refine go ?_;refine cdb H (fun h H=>?_) (fun h H=>?_)
  ·refine go ?_;exact wq (hR _ (pur H).symm _ (rt _))
  ·refine go ?_;exact IH  (i64.wrap (Nv+1)) _ H _ rfl Q tt b1 hE hR _ _  S hF
 ·refine go ?_;exact wq (hE () (pur H).symm _ _  S hF)
theorem Aw:∀(x11:Stp) (x13:List Fm) (Yd:Int) out,YP x11 x13 Yd=some out->∀c,Yh Tryz.f3 0=some c->∀(Q:QT) (tt:Sto) (b1:Nat),(∀(_u:Unit),out=Sum.inr ()->∀(T:TT) (ss:Sto),0+0=0->Fx tt ss [(b1,⟨28,13,[i6 x11.id,i6 x11.rule,i6 x11.scope,i6 x11.use.kind,.str x11.use.name,i6 x11.use.num,sf cI x11.use.sc,sf KW x11.use.kids,i6 x11.res.kind,.str x11.res.name,i6 x11.res.num,sf cI x11.res.sc,sf KW x11.res.kids]⟩)] []->Q (.ex 0) ⟨T,ss⟩)->(∀r,out=Sum.inl r->∀s',IE KX [.tmp 2] (fun r' ss'=>r'=.bool r/\ss'=tt) s'->Q .ret s')->∀(T:TT) (ss:Sto),T 3=.ptr b1 0/\T 4=sf KW x13/\T 5=i6 Yd->Fx tt ss [(b1,⟨28,13,[i6 x11.id,i6 x11.rule,i6 x11.scope,i6 x11.use.kind,.str x11.use.name,i6 x11.use.num,sf cI x11.use.sc,sf KW x11.use.kids,i6 x11.res.kind,.str x11.res.name,i6 x11.res.num,sf cI x11.res.sc,sf KW x11.res.kids]⟩)] []->aLp KX c Q ⟨T,ss⟩:=by
 intro x11 x13 Yd;revert Yd;refine YP.partial_correctness x11 x13 _ ?_;intro YP IH Yd out H c hc Q tt b1 hE hR T ss tT hF;refine lpx tt hc rfl fun q hX=>go ?_;refine cdp H (fun h H=>?_) (fun h H=>?_)
 ·refine go ?_;refine Yf E0 [.v,.v,.v,.v,.v,.v,.v,.v,.v,.v,.v,.v,.v,.v,.v,.v,.v,.v,.v] (by kernel_rfl) ?_;obtain ⟨x27,f1,H⟩:=bil (g:=KW) Fm.X5 H;refine go1 ?_;refine bp H (Pn x27.sc x11.scope) fun x32 h H=>cv h ?_;refine go ?_;obtain ⟨x43,g4,H⟩:=bnd H;refine Jb 8 35 43 (.bool x43) (tiN q (fun q=>?_) (fun q=>?_)) (fun J=>?_)
  ·rw [if_neg (dbf q)] at g4;obtain ⟨x39,f1,g4⟩:=bil (g:=KW) Fm.X5 g4;refine go1 ?_;obtain ⟨x41,hx41,g4⟩:=bnd g4;refine cv (MX x11.res x39 _ hx41) ?_;refine go ?_;exact Yt 35 g4
  ·rw [if_pos (dbt q)] at g4;refine go ?_;exact Yt 35 g4
  refine go ?_;refine cdb H (fun h H=>?_) (fun h H=>?_)
  ·refine go ?_;exact wq (hR _ (pur H).symm _ (rt _))
  ·refine go ?_;obtain ⟨o6,ho6,H⟩:=bnd H;refine Ax x11 x13 Yd 0 _ ho6 _ rfl _ _ b1 ?_ ?_ _ _  S hF
   ·intro _ he T8 s9 tT hF;have he:=he.symm;subst he
    try dsimp only at H
    refine go ?_;exact IH  (i64.wrap (Yd+1)) _ H _ rfl Q tt b1 hE hR _ _  S hF
   ·intro r hr s' hs;subst hr;exact wq (hR _ (pur H).symm _ hs)
 ·refine go ?_;exact wq (hE () (pur H).symm _ _  S hF)
theorem By:∀(a0:List Int) r,JX a0=some r->Vm KX 3 [sf cU a0] (.bool r):=by
 intro a0 r H;intro ss;unfold JX at H;refine hdh mixed Tryz.func3 (rs:=[.tmp 2]) fun q tT hF hX=>?_;refine go ?_;refine cdp H (fun h H=>?_) (fun h H=>?_)
 ·refine go ?_;have e:=pur H;subst e;exact rt _
 ·refine go ?_;refine bp H (AM a0) fun x11 h H=>cl h ?_;refine go ?_;refine X8 hF rfl fun b1 ss2 hF=>?_;refine go ?_;refine st hF 0 rfl fun ss3 hF=>?_;refine go ?_;refine bp H (B2 x11) fun x13 h H=>cl h ?_;refine go ?_;refine bp H (Cd x11) fun x16 h H=>cl h ?_;refine go ?_;refine bp H (LS x13 x16) fun x17 h H=>cl h ?_;refine go ?_;refine cdb H (fun h H=>?_) (fun h H=>?_)
  ·refine go ?_;have e:=pur H;subst e;exact rt _
  ·refine go ?_;obtain ⟨o11,ho11,H⟩:=bnd H;refine Aw x11 x13 0 _ ho11 _ rfl _ _ b1 ?_ ?_ _ _  S hF
   ·intro _ he T13 s14 tT hF;have he:=he.symm;subst he
    try dsimp only at H
    refine go ?_;have e:=pur H;subst e;exact rt _
   ·intro r hr s' hs;subst hr;have e:=pur H;subst e;exact hsq hs
end Go.Proofs.SA
