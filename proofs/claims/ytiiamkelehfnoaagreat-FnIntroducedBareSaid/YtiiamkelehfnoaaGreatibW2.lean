/- Printed by a program of mine: the plain functions that the code computes (D), and the walks that show it (W). -/
import Derived.Test.YtiiamkelehfnoaaGreatGs
import Derived.Test.YtiiamkelehfnoaaGreatSaTy
import Derived.Test.YtiiamkelehfnoaaGreatSf
import Derived.Test.YtiiamkelehfnoaaGreatDf
import Derived.Test.YtiiamkelehfnoaaGreatChecked
import Derived.Lib.Strings
import Derived.Lib.Slices
import Derived.Lib.Walk
import Derived.Lib.Bytealg
import Derived.Test.YtiiamkelehfnoaaGreatibD
import Derived.Test.YtiiamkelehfnoaaGreatibW1
set_option maxRecDepth 100000
set_option maxHeartbeats 2000000
set_option linter.unusedSimpArgs false
set_option linter.unusedVariables false
open Go Go.Proofs Go.Proofs.Shadow
open Fm renaming cells → KY
open Tryz renaming prog → KZ
open _root_.And renaming intro → K2
open _root_.Int renaming toNat_natCast → Kl, reduceEq → Zi
open _root_.Nat renaming reduceEqDiff → K8, reduceLeDiff → K9, reduceAdd → Zf, reduceMul → Zg, reduceLT → Zh
open Fx renaming self → K3
open Wk renaming sub → ZG
open EE renaming not → K5
open Go.IntKind (i64)
namespace Go.Proofs.SA
theorem E9:∀(a0:ByteArray) r,Ip a0=some r->Vr KZ 67 [.str a0] (.bool r):=by
 intro a0 r H;intro ss;unfold Ip at H;refine hdh mixed Tryz.func67 (rs:=[.tmp 2]) fun q tT hF hX=>?_;refine go ?_;obtain ⟨x10,g1,H⟩:=bnd H;refine Yb 2 8 10 (.bool x10) (giN q (fun q=>?_) (fun q=>?_)) (fun J=>?_)
 ·refine go ?_;exact Yt 8 g1
 ·refine go ?_;exact Yt 8 g1
 refine go ?_;refine cdb H (fun h H=>?_) (fun h H=>?_)
 ·refine go ?_;have e:=pur H;subst e;exact rt _
 ·refine go ?_;obtain ⟨o13,ho13,H⟩:=bnd H;refine DE a0 0 _ ho13 _ rfl _ _  ?_ ?_ _ _  S hF
  ·intro _ he T15 s16 tT hF;have he:=he.symm;subst he
   try dsimp only at H
   refine go ?_;refine bp H (Is (a0.size:Int) 1 12) fun x49 h H=>cl h ?_;refine go ?_;have e:=pur H;subst e;exact rt _
  ·intro r hr s' hs;subst hr;have e:=pur H;subst e;exact hsq hs
theorem D3:∀(a0:List Int) (Yo:Int) out,WJ a0 Yo=some out->∀c,Yf Tryz.f68 0=some c->∀(Q:QT) (tt:Sto),(∀(_u:Unit),out=Sum.inr ()->∀(T:TT) (ss:Sto),T 0=sf cI a0->Fx tt ss [] []->Q (.ex 0) ⟨T,ss⟩)->(∀r,out=Sum.inl r->∀s',Aj KZ [.tmp 2] (fun r' ss'=>r'=.bool r/\ss'=tt) s'->Q .ret s')->∀(T:TT) (ss:Sto),T 0=sf cI a0/\T 5=sf cI a0/\T 6=i6 (a0.length:Int)/\T 7=i6 Yo->Fx tt ss [] []->aLp KZ c Q ⟨T,ss⟩:=by
 intro a0 Yo;revert Yo;refine WJ.partial_correctness a0 _ ?_;intro WJ IH Yo out H c hc Q tt  hE hR T ss tT hF;refine lpx tt hc rfl fun q hX=>go ?_;refine cdp H (fun h H=>?_) (fun h H=>?_)
 ·obtain ⟨x10,f1,H⟩:=bil (g:=cI) (fun _=>rfl) H;refine go1 ?_;refine go ?_;refine bp H (Is x10 1 99) fun x13 h H=>cl h ?_;refine go ?_;obtain ⟨x27,g1,H⟩:=bnd H;refine Yb 11 16 27 (.bool x27) (giN q (fun q=>?_) (fun q=>?_)) (fun J=>?_)
  ·rw [if_neg (dbf q)] at g1;refine go ?_;obtain ⟨x26,g3,g1⟩:=bnd g1;refine Yb 7 19 26 (.bool x26) (gi q (fun q=>?_) (fun q=>?_)) (fun J=>?_)
   ·rw [if_pos (dt q)] at g3;obtain ⟨x22,f1,g3⟩:=bil (g:=cI) (fun _=>rfl) g3;refine go1 ?_;refine go ?_;exact Yt 19 g3
   ·rw [if_neg (df q)] at g3;refine go ?_;exact Yt 19 g3
   refine go ?_;exact Yt 16 g1
  ·rw [if_pos (dbt q)] at g1;refine go ?_;exact Yt 16 g1
  refine go ?_;refine cdb H (fun h H=>?_) (fun h H=>?_)
  ·refine go ?_;exact wq (hR _ (pur H).symm _ (rt _))
  ·refine go ?_;exact IH  (i64.wrap (Yo+1)) _ H _ rfl Q tt  hE hR _ _  S hF
 ·refine go ?_;exact wq (hE () (pur H).symm _ _  S hF)
theorem Lb:∀(a0:List Int) r,I9 a0=some r->Vr KZ 68 [sf cI a0] (.bool r):=by
 intro a0 r H;intro ss;unfold I9 at H;refine hdh mixed Tryz.func68 (rs:=[.tmp 2]) fun q tT hF hX=>?_;refine go ?_;obtain ⟨o5,ho5,H⟩:=bnd H;refine D3 a0 0 _ ho5 _ rfl _ _  ?_ ?_ _ _  S hF
 ·intro _ he T7 s8 tT hF;have he:=he.symm;subst he
  try dsimp only at H
  refine go ?_;have e:=pur H;subst e;exact rt _
 ·intro r hr s' hs;subst hr;have e:=pur H;subst e;exact hsq hs
theorem Nt:∀(a0:Fm) (a1 c0:Int) r,ID a0 a1 c0=some r->∀(e0:Nat)  (ss:Sto),Pre ss [(e0,⟨3,1,[i6 c0]⟩)] []->Ctr KZ 36 [.agg (KY a0),i6 a1,.ptr e0 0] ss (fun r' ss'=>∃(tt':Sto),r'=.bool r.1/\Tau (strip ss []) [(e0,⟨3,1,[i6 r.2]⟩)] tt'/\Fx tt' ss' [] []):=by
 refine ID.partial_correctness _ (motive_2:=fun a0 a1 Ni G4 out=>∀c,Yf Tryz.f36 0=some c->∀(Q:QT) (tt0:Sto) (e0 b1:Nat),(∀(CS:Int),out=Sum.inr CS->∀(T:TT) (ss tt:Sto),0+0=0->Tau tt0 [(e0,⟨3,1,[i6 CS]⟩)] tt->Fx tt ss [(b1,⟨26,5,[i6 a0.kind,.str a0.name,i6 a0.num,sf cI a0.sc,sf KY a0.kids]⟩)] []->Q (.ex 1) ⟨T,ss⟩)->(∀r,out=Sum.inl r->∀s',Aj KZ [.tmp 6] (fun r' ss'=>∃(tt':Sto),r'=.bool r.1/\Tau tt0 [(e0,⟨3,1,[i6 r.2]⟩)] tt'/\Fx tt' ss' [] []) s'->Q .ret s')->∀(T:TT) (ss tt:Sto),T 1=i6 a1/\T 2=.ptr e0 0/\T 84=sf KY a0.kids/\T 85=i6 (a0.kids.length:Int)/\T 86=i6 Ni->Tau tt0 [(e0,⟨3,1,[i6 G4]⟩)] tt->Fx tt ss [(b1,⟨26,5,[i6 a0.kind,.str a0.name,i6 a0.num,sf cI a0.sc,sf KY a0.kids]⟩)] []->aLp KZ c Q ⟨T,ss⟩) ?_ ?_
 ·intro GA L0 a0 a1 c0 r H;intro e0  ss hP;refine hdg mixed Tryz.func36 (rs:=[.tmp 6]) fun q tT=>?_;obtain ⟨hF,hX⟩:=hP.start;generalize strip ss []=tt0 at hF hX ⊢;refine go ?_;refine X8 hF rfl fun b1 ss2 hF=>?_;refine go ?_;refine stT hF hX 0 rfl fun tt4 ss3 hF hX=>?_;refine go ?_;obtain ⟨x21,g5,H⟩:=bnd H;refine Yb 2 19 21 (.bool x21) (giN q (fun q=>?_) (fun q=>?_)) (fun J=>?_)
  ·refine go ?_;exact Yt 19 g5
  ·refine go ?_;exact Yt 19 g5
  refine go ?_;refine cdb H (fun h H=>?_) (fun h H=>?_)
  ·refine go ?_;have e:=pur H;subst e;exact rg _ ⟨_,rfl,hX,K3 _⟩
  ·refine go ?_;refine cdp H (fun h H=>?_) (fun h H=>?_)
   ·refine go ?_;refine bp H (E9 a0.name) fun x28 h H=>cl h ?_;refine go ?_;obtain ⟨x33,g7,H⟩:=bnd H;refine Yb 3 30 33 (.bool x33) (gi q (fun q=>?_) (fun q=>?_)) (fun J=>?_)
    ·refine go ?_;exact Yt 30 g7
    ·refine go ?_;exact Yt 30 g7
    refine go ?_;obtain ⟨x38,g9,H⟩:=bnd H;refine Yb 3 35 38 (.bool x38) (gi q (fun q=>?_) (fun q=>?_)) (fun J=>?_)
    ·rw [if_pos (dbt q)] at g9;refine go ?_;obtain ⟨x37,hx37,g9⟩:=bnd g9;refine cl (Lb a0.sc _ hx37) ?_;refine go ?_;exact Yt 35 g9
    ·rw [if_neg (dbf q)] at g9;refine go ?_;exact Yt 35 g9
    refine go ?_;obtain ⟨x44,g11,H⟩:=bnd H;refine Yb 4 40 44 (.bool x44) (gi q (fun q=>?_) (fun q=>?_)) (fun J=>?_)
    ·refine go ?_;exact Yt 40 g11
    ·refine go ?_;exact Yt 40 g11
    refine go ?_;have e:=pur H;subst e;exact rg _ ⟨_,rfl,hX,K3 _⟩
   ·refine go ?_;refine cdp H (fun h H=>?_) (fun h H=>?_)
    ·refine go ?_;obtain ⟨x54,g13,H⟩:=bnd H;refine Yb 3 51 54 (.bool x54) (gi q (fun q=>?_) (fun q=>?_)) (fun J=>?_)
     ·rw [if_pos (dt q)] at g13;refine go ?_;obtain ⟨x53,hx53,g13⟩:=bnd g13;refine cl (Is a0.num 0 999 _ hx53) ?_;refine go ?_;exact Yt 51 g13
     ·rw [if_neg (df q)] at g13;refine go ?_;exact Yt 51 g13
     refine go ?_;obtain ⟨x60,g15,H⟩:=bnd H;refine Yb 4 56 60 (.bool x60) (gi q (fun q=>?_) (fun q=>?_)) (fun J=>?_)
     ·refine go ?_;exact Yt 56 g15
     ·refine go ?_;exact Yt 56 g15
     refine go ?_;obtain ⟨x66,g17,H⟩:=bnd H;refine Yb 4 62 66 (.bool x66) (gi q (fun q=>?_) (fun q=>?_)) (fun J=>?_)
     ·refine go ?_;exact Yt 62 g17
     ·refine go ?_;exact Yt 62 g17
     refine go ?_;have e:=pur H;subst e;exact rg _ ⟨_,rfl,hX,K3 _⟩
    ·refine go ?_;refine cdp H (fun h H=>?_) (fun h H=>?_)
     ·refine go ?_;obtain ⟨x76,g19,H⟩:=bnd H;refine Yb 3 73 76 (.bool x76) (giN q (fun q=>?_) (fun q=>?_)) (fun J=>?_)
      ·refine go ?_;exact Yt 73 g19
      ·refine go ?_;exact Yt 73 g19
      refine go ?_;obtain ⟨x82,g21,H⟩:=bnd H;refine Yb 4 78 82 (.bool x82) (giN q (fun q=>?_) (fun q=>?_)) (fun J=>?_)
      ·refine go ?_;exact Yt 78 g21
      ·refine go ?_;exact Yt 78 g21
      refine go ?_;refine cdb H (fun h H=>?_) (fun h H=>?_)
      ·refine go ?_;have e:=pur H;subst e;exact rg _ ⟨_,rfl,hX,K3 _⟩
      ·refine go ?_;obtain ⟨o29,ho29,H⟩:=bnd H;refine L0 a0 a1 0 (i64.wrap (c0 - 1)) _ ho29 _ rfl _ tt0 e0 b1 ?_ ?_ _ _ _  S hX hF
       ·intro S8 he T31 s32 t33 tT hX hF;have he:=he.symm;subst he
        try dsimp only at H
        refine go ?_;have e:=pur H;subst e;exact rg _ ⟨_,rfl,hX,K3 _⟩
       ·intro r hr s' hs;subst hr;have e:=pur H;subst e;exact hsq hs
     ·refine go ?_;have e:=pur H;subst e;exact rg _ ⟨_,rfl,hX,K3 _⟩
 ·intro ID GA C0 L0 a0 a1 Ni G4 out H c hc Q tt0 e0 b1 hE hR T ss tt tT hX hF;refine lpy hc rfl fun q=>go ?_;refine cdp H (fun h H=>?_) (fun h H=>?_)
  ·obtain ⟨x88,f1,H⟩:=bil (g:=KY) Fm.X6 H;refine go1 ?_;refine X8 hF rfl fun b23 s24 hF=>?_;refine go ?_;refine st hF 0 rfl fun s25 hF=>?_;refine go ?_;obtain ⟨x94,hx94,H⟩:=bnd H;refine cx (C0 x88 (i64.wrap (a1+1)) G4 _ hx94 e0  _ (pre 0 1 0 hF hX)) ?_;rintro _ s26 ⟨t27,rfl,hT,hG⟩;obtain ⟨tt28,hX,hF⟩:=aft 0 1 0 hF hX hT hG;refine go ?_;refine cdb H (fun h H=>?_) (fun h H=>?_)
   ·refine go ?_;exact wq (hR _ (pur H).symm _ (rg _ ⟨_,rfl,hX,K3 _⟩))
   ·refine go ?_;exact L0 a0 a1 (i64.wrap (Ni+1)) x94.2 _ H _ rfl Q tt0 e0 b1 hE hR _ _ _  S hX (hF.drop 1 0)
  ·refine go ?_;exact wq (hE _ (pur H).symm _ _ _  S hX hF)
theorem GP:∀(a0:Fm) r,WV a0=some r->Vr KZ 13 [.agg (KY a0)] (.bool r):=by
 intro a0 r H;intro ss;unfold WV at H;refine hdh mixed Tryz.func13 (rs:=[.tmp 2]) fun q tT hF hX=>?_;refine go ?_;refine X8 hF rfl fun b1 ss2 hF=>?_;refine go ?_;refine X8 hF rfl fun b3 ss4 hF=>?_;refine go ?_;refine st hF 0 rfl fun ss5 hF=>?_;refine go ?_;obtain ⟨x5,hx5,H⟩:=bnd H;refine cx (Nt a0 1 400 _ hx5 b3  _ (pre 1 0 0 hF hX)) ?_;rintro _ ss6 ⟨t7,rfl,hT,hG⟩;have hF:=DB 1 0 hF hX hT hG;refine go ?_;have e:=pur H;subst e;exact rt _
theorem Bw:∀(a0:List Int) (a1 YL:Int) out,Y5 a0 a1 YL=some out->∀c,Yf Tryz.f59 0=some c->∀(Q:QT) (tt:Sto),(∀(_u:Unit),out=Sum.inr ()->∀(T:TT) (ss:Sto),0+0=0->Fx tt ss [] []->Q (.ex 0) ⟨T,ss⟩)->(∀r,out=Sum.inl r->∀s',Aj KZ [.tmp 4] (fun r' ss'=>r'=i6 r/\ss'=tt) s'->Q .ret s')->∀(T:TT) (ss:Sto),T 0=sf cI a0/\T 1=i6 a1/\T 7=i6 (a0.length:Int)/\T 8=i6 YL->Fx tt ss [] []->aLp KZ c Q ⟨T,ss⟩:=by
 intro a0 a1 YL;revert YL;refine Y5.partial_correctness a0 a1 _ ?_;intro Y5 IH YL out H c hc Q tt  hE hR T ss tT hF;refine lpx tt hc rfl fun q hX=>go ?_;refine cdp H (fun h H=>?_) (fun h H=>?_)
 ·obtain ⟨x14,f1,H⟩:=bil (g:=cI) (fun _=>rfl) H;refine go1 ?_;refine go ?_;refine cdp H (fun h H=>?_) (fun h H=>?_)
  ·refine go ?_;exact wq (hR _ (pur H).symm _ (rt _))
  ·refine go ?_;exact IH  (i64.wrap (YL+1)) _ H _ rfl Q tt  hE hR _ _  S hF
 ·refine go ?_;exact wq (hE () (pur H).symm _ _  S hF)
theorem Ct:∀(a0:List Int) (a1:Int) r,GN a0 a1=some r->Vr KZ 59 [sf cI a0,i6 a1] (i6 r):=by
 intro a0 a1 r H;intro ss;unfold GN at H;refine hdh mixed Tryz.func59 (rs:=[.tmp 4]) fun q tT hF hX=>?_;refine go ?_;obtain ⟨o1,ho1,H⟩:=bnd H;refine Bw a0 a1 0 _ ho1 _ rfl _ _  ?_ ?_ _ _  S hF
 ·intro _ he T3 ss4 tT hF;have he:=he.symm;subst he
  try dsimp only at H
  refine go ?_;have e:=pur H;subst e;exact rt _
 ·intro r hr s' hs;subst hr;have e:=pur H;subst e;exact hsq hs
theorem Bu:∀(a0:List Int) (a1:Int) r,Wt a0 a1=some r->Vr KZ 28 [sf cI a0,i6 a1] (.bool r):=by
 intro a0 a1 r H;intro ss;unfold Wt at H;refine hdh mixed Tryz.func28 (rs:=[.tmp 4]) fun q tT hF hX=>?_;refine go ?_;refine bp H (Ct a0 a1) fun x7 h H=>cl h ?_;refine go ?_;have e:=pur H;subst e;exact rt _
theorem Bv:∀(a0 a1:List Int) (Jl:Int) out,Y4 a0 a1 Jl=some out->∀c,Yf Tryz.f34 0=some c->∀(Q:QT) (tt:Sto),(∀(_u:Unit),out=Sum.inr ()->∀(T:TT) (ss:Sto),0+0=0->Fx tt ss [] []->Q (.ex 0) ⟨T,ss⟩)->(∀r,out=Sum.inl r->∀s',Aj KZ [.tmp 4] (fun r' ss'=>r'=.bool r/\ss'=tt) s'->Q .ret s')->∀(T:TT) (ss:Sto),T 0=sf cI a0/\T 1=sf cI a1/\T 12=i6 (a0.length:Int)/\T 13=i6 Jl->Fx tt ss [] []->aLp KZ c Q ⟨T,ss⟩:=by
 intro a0 a1 Jl;revert Jl;refine Y4.partial_correctness a0 a1 _ ?_;intro Y4 IH Jl out H c hc Q tt  hE hR T ss tT hF;refine lpx tt hc rfl fun q hX=>go ?_;refine cdp H (fun h H=>?_) (fun h H=>?_)
 ·refine go ?_;refine Ye E0 [.v,.v,.v,.v,.v,.v,.v,.v,.v] (by kernel_rfl) ?_;obtain ⟨x18,f1,H⟩:=bil (g:=cI) (fun _=>rfl) H;obtain ⟨x22,f2,H⟩:=bil (g:=cI) (fun _=>rfl) H;refine go2 ?_;refine go ?_;refine cdn H (fun h H=>?_) (fun h H=>?_)
  ·refine go ?_;exact wq (hR _ (pur H).symm _ (rt _))
  ·refine go ?_;exact IH  (i64.wrap (Jl+1)) _ H _ rfl Q tt  hE hR _ _  S hF
 ·refine go ?_;exact wq (hE () (pur H).symm _ _  S hF)
theorem Cs:∀(a0 a1:List Int) r,Ju a0 a1=some r->Vr KZ 34 [sf cI a0,sf cI a1] (.bool r):=by
 intro a0 a1 r H;intro ss;unfold Ju at H;refine hdh mixed Tryz.func34 (rs:=[.tmp 4]) fun q tT hF hX=>?_;refine go ?_;refine cdn H (fun h H=>?_) (fun h H=>?_)
 ·refine go ?_;have e:=pur H;subst e;exact rt _
 ·refine go ?_;obtain ⟨o1,ho1,H⟩:=bnd H;refine Bv a0 a1 0 _ ho1 _ rfl _ _  ?_ ?_ _ _  S hF
  ·intro _ he T3 ss4 tT hF;have he:=he.symm;subst he
   try dsimp only at H
   refine go ?_;have e:=pur H;subst e;exact rt _
  ·intro r hr s' hs;subst hr;have e:=pur H;subst e;exact hsq hs
theorem E8:(∀(a0 a1:Fm) r,Wq a0 a1=some r->Vr KZ 12 [.agg (KY a0),.agg (KY a1)] (.bool r))/\(∀(a0 a1:List Fm) r,YE a0 a1=some r->Vr KZ 35 [sf KY a0,sf KY a1,.fn 12 []] (.bool r)):=by
 have h:=Wq.mutual_partial_correctness  (motive_1:=fun a0 a1 r=>Vr KZ 12 [.agg (KY a0),.agg (KY a1)] (.bool r)) (motive_2:=fun a0 a1 r=>Vr KZ 35 [sf KY a0,sf KY a1,.fn 12 []] (.bool r)) (motive_3:=fun a0 a1 BM out=>∀c,Yf Tryz.f35 0=some c->∀(Q:QT) (tt:Sto),(∀(_u:Unit),out=Sum.inr ()->∀(T:TT) (ss:Sto),0+0=0->Fx tt ss [] []->Q (.ex 0) ⟨T,ss⟩)->(∀r,out=Sum.inl r->∀s',Aj KZ [.tmp 6] (fun r' ss'=>r'=.bool r/\ss'=tt) s'->Q .ret s')->∀(T:TT) (ss:Sto),T 1=sf KY a1/\T 2=.fn 12 []/\T 15=sf KY a0/\T 16=i6 (a0.length:Int)/\T 17=i6 BM->Fx tt ss [] []->aLp KZ c Q ⟨T,ss⟩) ?s0 ?s1 ?s2
 ·exact ⟨h.1,h.2.1⟩
 ·intro YE C1 a0 a1 r H;intro ss;refine hdh mixed Tryz.func12 (rs:=[.tmp 4]) fun q tT hF hX=>?_;refine go ?_;refine X8 hF rfl fun b1 ss2 hF=>?_;refine go ?_;refine X8 hF rfl fun b3 ss4 hF=>?_;refine go ?_;obtain ⟨x16,g5,H⟩:=bnd H;refine Yb 5 11 16 (.bool x16) (gi q (fun q=>?_) (fun q=>?_)) (fun J=>?_)
  ·refine go ?_;exact Yt 11 g5
  ·refine go ?_;exact Yt 11 g5
  refine go ?_;obtain ⟨x23,g7,H⟩:=bnd H;refine Yb 5 18 23 (.bool x23) (gi q (fun q=>?_) (fun q=>?_)) (fun J=>?_)
  ·refine go ?_;exact Yt 18 g7
  ·refine go ?_;exact Yt 18 g7
  refine go ?_;obtain ⟨x30,g9,H⟩:=bnd H;refine Yb 5 25 30 (.bool x30) (gi q (fun q=>?_) (fun q=>?_)) (fun J=>?_)
  ·rw [if_pos (dbt q)] at g9;refine go ?_;obtain ⟨x29,hx29,g9⟩:=bnd g9;refine cl (Cs a0.sc a1.sc _ hx29) ?_;refine go ?_;exact Yt 25 g9
  ·rw [if_neg (dbf q)] at g9;refine go ?_;exact Yt 25 g9
  refine go ?_;obtain ⟨x37,g11,H⟩:=bnd H;refine Yb 5 32 37 (.bool x37) (gi q (fun q=>?_) (fun q=>?_)) (fun J=>?_)
  ·rw [if_pos (dbt q)] at g11;refine go ?_;obtain ⟨x36,hx36,g11⟩:=bnd g11;refine cl (C1 a0.kids a1.kids _ hx36) ?_;refine go ?_;exact Yt 32 g11
  ·rw [if_neg (dbf q)] at g11;refine go ?_;exact Yt 32 g11
  refine go ?_;have e:=pur H;subst e;exact rt _
 ·intro Yn L0 a0 a1 r H;intro ss;refine hdh mixed Tryz.func35 (rs:=[.tmp 6]) fun q tT hF hX=>?_;refine go ?_;refine cdn H (fun h H=>?_) (fun h H=>?_)
  ·refine go ?_;have e:=pur H;subst e;exact rt _
  ·refine go ?_;obtain ⟨o7,ho7,H⟩:=bnd H;refine L0 a0 a1 0 _ ho7 _ rfl _ _  ?_ ?_ _ _  S hF
   ·intro _ he T9 s10 tT hF;have he:=he.symm;subst he
    try dsimp only at H
    refine go ?_;have e:=pur H;subst e;exact rt _
   ·intro r hr s' hs;subst hr;have e:=pur H;subst e;exact hsq hs
 ·intro Wq Yn C0 L0 a0 a1 BM out H c hc Q tt  hE hR T ss tT hF;refine lpx tt hc rfl fun q hX=>go ?_;refine cdp H (fun h H=>?_) (fun h H=>?_)
  ·obtain ⟨x20,f1,H⟩:=bil (g:=KY) Fm.X6 H;refine go1 ?_;refine X8 hF rfl fun b1 ss2 hF=>?_;refine go ?_;refine st hF 0 rfl fun ss3 hF=>?_;obtain ⟨x24,f1,H⟩:=bil (g:=KY) Fm.X6 H;refine go1 ?_;refine X8 hF rfl fun b4 ss5 hF=>?_;refine go ?_;refine st hF 0 rfl fun ss6 hF=>?_;refine go ?_;obtain ⟨x29,hx29,H⟩:=bnd H;refine cl (C0 x20 x24 _ hx29) ?_;refine go ?_;refine cdb H (fun h H=>?_) (fun h H=>?_)
   ·refine go ?_;exact wq (hR _ (pur H).symm _ (rt _))
   ·refine go ?_;exact L0 a0 a1 (i64.wrap (BM+1)) _ H _ rfl Q tt  hE hR _ _  S (hF.drop 2 0)
  ·refine go ?_;exact wq (hE () (pur H).symm _ _  S hF)
theorem CB:∀(a0 a1:Fm) r,Wq a0 a1=some r->Vr KZ 12 [.agg (KY a0),.agg (KY a1)] (.bool r):=E8.1
theorem Mm:∀(a0 c0:Fm) r,AD a0 c0=some r->∀(e0:Nat)  (ss:Sto),Pre ss [(e0,⟨26,5,[i6 c0.kind,.str c0.name,i6 c0.num,sf cI c0.sc,sf KY c0.kids]⟩)] []->Ctr KZ 61 [.agg (KY a0),.ptr e0 0] ss (fun r' ss'=>∃(tt':Sto),r'=.bool r/\Tau (strip ss []) [(e0,⟨26,5,[i6 c0.kind,.str c0.name,i6 c0.num,sf cI c0.sc,sf KY c0.kids]⟩)] tt'/\Fx tt' ss' [] []):=by
 intro a0 c0 r H;intro e0  ss hP;unfold AD at H;refine hdg mixed Tryz.func61 (rs:=[.tmp 3]) fun q tT=>?_;obtain ⟨hF,hX⟩:=hP.start;generalize strip ss []=tt0 at hF hX ⊢;refine go ?_;refine X8 hF rfl fun b1 ss2 hF=>?_;refine go ?_;refine bp H (CB a0 c0) fun x6 h H=>cl h ?_;refine go ?_;have e:=pur H;subst e;exact rg _ ⟨_,rfl,hX,K3 _⟩
theorem GL:∀(a0:List Fm) (c0:Fm) (YL:Int) out,Yr a0 c0 YL=some out->∀c,Yf Tryz.f92 0=some c->∀(Q:QT) (tt0:Sto) (e0:Nat),(∀(_u:Unit),out=Sum.inr ()->∀(T:TT) (ss tt:Sto),0+0=0->Tau tt0 [(e0,⟨26,5,[i6 c0.kind,.str c0.name,i6 c0.num,sf cI c0.sc,sf KY c0.kids]⟩)] tt->Fx tt ss [] []->Q (.ex 0) ⟨T,ss⟩)->(∀r,out=Sum.inl r->∀s',Aj KZ [.tmp 4] (fun r' ss'=>∃(tt':Sto),r'=i6 r/\Tau tt0 [(e0,⟨26,5,[i6 c0.kind,.str c0.name,i6 c0.num,sf cI c0.sc,sf KY c0.kids]⟩)] tt'/\Fx tt' ss' [] []) s'->Q .ret s')->∀(T:TT) (ss tt:Sto),T 0=sf KY a0/\T 1=.fn 61 [.ptr e0 0]/\T 7=i6 (a0.length:Int)/\T 8=i6 YL->Tau tt0 [(e0,⟨26,5,[i6 c0.kind,.str c0.name,i6 c0.num,sf cI c0.sc,sf KY c0.kids]⟩)] tt->Fx tt ss [] []->aLp KZ c Q ⟨T,ss⟩:=by
 intro a0 c0 YL;revert YL;refine Yr.partial_correctness a0 c0 _ ?_;intro Yr IH YL out H c hc Q tt0 e0 hE hR T ss tt tT hX hF;refine lpy hc rfl fun q=>go ?_;refine cdp H (fun h H=>?_) (fun h H=>?_)
 ·obtain ⟨x14,f1,H⟩:=bil (g:=KY) Fm.X6 H;refine go1 ?_;obtain ⟨x16,hx16,H⟩:=bnd H;refine cx (Mm x14 c0 _ hx16 e0  _ (pre 0 1 0 hF hX)) ?_;rintro _ ss1 ⟨tt2,rfl,hT,hG⟩;obtain ⟨tt3,hX,hF⟩:=aft 0 1 0 hF hX hT hG;refine go ?_;refine cdb H (fun h H=>?_) (fun h H=>?_)
  ·refine go ?_;exact wq (hR _ (pur H).symm _ (rg _ ⟨_,rfl,hX,K3 _⟩))
  ·refine go ?_;exact IH  (i64.wrap (YL+1)) _ H _ rfl Q tt0 e0 hE hR _ _ _  S hX hF
 ·refine go ?_;exact wq (hE () (pur H).symm _ _ _  S hX hF)
theorem Hd:∀(a0:List Fm) (c0:Fm) r,Vc a0 c0=some r->∀(e0:Nat)  (ss:Sto),Pre ss [(e0,⟨26,5,[i6 c0.kind,.str c0.name,i6 c0.num,sf cI c0.sc,sf KY c0.kids]⟩)] []->Ctr KZ 92 [sf KY a0,.fn 61 [.ptr e0 0]] ss (fun r' ss'=>∃(tt':Sto),r'=i6 r/\Tau (strip ss []) [(e0,⟨26,5,[i6 c0.kind,.str c0.name,i6 c0.num,sf cI c0.sc,sf KY c0.kids]⟩)] tt'/\Fx tt' ss' [] []):=by
 intro a0 c0 r H;intro e0  ss hP;unfold Vc at H;refine hdg mixed Tryz.func92 (rs:=[.tmp 4]) fun q tT=>?_;obtain ⟨hF,hX⟩:=hP.start;generalize strip ss []=tt0 at hF hX ⊢;refine go ?_;obtain ⟨o4,ho4,H⟩:=bnd H;refine GL a0 c0 0 _ ho4 _ rfl _ tt0 e0 ?_ ?_ _ _ _  S hX hF
 ·intro _ he T6 s7 t8 tT hX hF;have he:=he.symm;subst he
  try dsimp only at H
  refine go ?_;have e:=pur H;subst e;exact rg _ ⟨_,rfl,hX,K3 _⟩
 ·intro r hr s' hs;subst hr;have e:=pur H;subst e;exact hsq hs
theorem GK:∀(a0:List Fm) (c0:Fm) r,Y3 a0 c0=some r->∀(e0:Nat)  (ss:Sto),Pre ss [(e0,⟨26,5,[i6 c0.kind,.str c0.name,i6 c0.num,sf cI c0.sc,sf KY c0.kids]⟩)] []->Ctr KZ 60 [sf KY a0,.fn 61 [.ptr e0 0]] ss (fun r' ss'=>∃(tt':Sto),r'=.bool r/\Tau (strip ss []) [(e0,⟨26,5,[i6 c0.kind,.str c0.name,i6 c0.num,sf cI c0.sc,sf KY c0.kids]⟩)] tt'/\Fx tt' ss' [] []):=by
 intro a0 c0 r H;intro e0  ss hP;unfold Y3 at H;refine hdg mixed Tryz.func60 (rs:=[.tmp 4]) fun q tT=>?_;obtain ⟨hF,hX⟩:=hP.start;generalize strip ss []=tt0 at hF hX ⊢;refine go ?_;obtain ⟨x7,hx7,H⟩:=bnd H;refine cx (Hd a0 c0 _ hx7 e0  _ (pre 0 1 0 hF hX)) ?_;rintro _ ss1 ⟨tt2,rfl,hT,hG⟩;obtain ⟨tt3,hX,hF⟩:=aft 0 1 0 hF hX hT hG;refine go ?_;have e:=pur H;subst e;exact rg _ ⟨_,rfl,hX,K3 _⟩
theorem PZ:∀(a0:List Fm) (a1:Fm) r,CX a0 a1=some r->Vr KZ 29 [sf KY a0,.agg (KY a1)] (.bool r):=by
 intro a0 a1 r H;intro ss;unfold CX at H;refine hdh mixed Tryz.func29 (rs:=[.tmp 4]) fun q tT hF hX=>?_;refine go ?_;refine X8 hF rfl fun b1 ss2 hF=>?_;refine go ?_;obtain ⟨x7,hx7,H⟩:=bnd H;refine cx (GK a0 a1 _ hx7 b1  _ (pre 1 0 0 hF hX)) ?_;rintro _ ss3 ⟨tt4,rfl,hT,hG⟩;have hF:=DB 1 0 hF hX hT hG;refine go ?_;have e:=pur H;subst e;exact rt _
theorem Cr:∀(a0:List Int) r,GM a0=some r->Vr KZ 62 [.sl (false) (rws cI a0)] (sf cI r):=by
 intro a0 r H ss;unfold GM at H;refine S2 mixed Tryz.func62 rfl (by kernel_rfl) (rs:=[.tmp 2]) rfl (by kernel_rfl) ?_;have hF:=Fx.refl ss;have hX:=Tau.none ss;have hF:=hF.lit 3 1 (rws cI []) rfl
 cases a0 with
 | nil =>
  obtain ⟨rfl,_⟩:=BQ H
  try simp only [go_sem,↓reduceIte,K8,Zf,Zg,K9,Zh,Zi,Kl]
  refine Qag ?_ ?_
  ·try simp only [go_sem,↓reduceIte,K8,Zf,Zg,K9,Zh,Zi,Kl]
   exact Tm (vs:=[.Ya]) (by first | (simp only [go_sem,↓reduceIte,K8,Zf,Zg,K9,Zh,Zi,Kl];done) | rfl | (simp only [go_sem,↓reduceIte,K8,Zf,Zg,K9,Zh,Zi,Kl];rfl)) (Wk.Qks .Ya hF.sub)
  ·try simp only [go_sem,↓reduceIte,K8,Zf,Zg,K9,Zh,Zi,Kl]
   refine PY hF 0 (g:=cI) (xs:=[]) (ys:=[]) rfl (by decide) (by decide) (RdL.of (c:=false) (fun _=>rfl) rfl) H fun v1 ss1 hF=>?_
   try simp only [go_sem,↓reduceIte,K8,Zf,Zg,K9,Zh,Zi,Kl,hF.cells 0 rfl,hF.len 0 rfl]
   exact Tm (vs:=[v1]) (by first | (simp only [go_sem,↓reduceIte,K8,Zf,Zg,K9,Zh,Zi,Kl,hF.cells 0 rfl,hF.len 0 rfl];done) | rfl | (simp only [go_sem,↓reduceIte,K8,Zf,Zg,K9,Zh,Zi,Kl,hF.cells 0 rfl,hF.len 0 rfl];rfl)) (hF.wk 0 rfl)
 | cons x xs =>
  try simp only [go_sem,↓reduceIte,K8,Zf,Zg,K9,Zh,Zi,Kl]
  refine PY hF 0 (g:=cI) (xs:=[]) (ys:=x :: xs) rfl (by decide) (by decide) (RdL.of (c:=false) (fun _=>rfl) (by first | rfl | simp only [Y8,Vy,cI,cU,cS,cL])) H fun v1 ss1 hF=>?_
  try simp only [go_sem,↓reduceIte,K8,Zf,Zg,K9,Zh,Zi,Kl,hF.cells 0 rfl,hF.len 0 rfl]
  exact Tm (vs:=[v1]) (by first | (simp only [go_sem,↓reduceIte,K8,Zf,Zg,K9,Zh,Zi,Kl,hF.cells 0 rfl,hF.len 0 rfl];done) | rfl | (simp only [go_sem,↓reduceIte,K8,Zf,Zg,K9,Zh,Zi,Kl,hF.cells 0 rfl,hF.len 0 rfl];rfl)) (hF.wk 0 rfl)
theorem CC:∀(a0:Fm) r,Jy a0=some r->Vr KZ 30 [.agg (KY a0)] (.agg (KY r)):=by
 refine Jy.partial_correctness _ (motive_2:=fun a0 x14 X5 CI out=>∀c,Yf Tryz.f30 0=some c->∀(Q:QT) (tt:Sto) (b1 b3 b5:Nat),(∀(YT:List Fm),out=YT->∀(T:TT) (ss:Sto) (e0v0:AV),T 2=.ptr b3 0/\T 3=.ptr b5 0->Fx tt ss [(b5,⟨26,5,[i6 a0.kind,.str a0.name,i6 a0.num,sf cI x14,e0v0]⟩),(b3,⟨26,5,[i6 0,.str zB,i6 0,.Ya,.Ya]⟩),(b1,⟨26,5,[i6 a0.kind,.str a0.name,i6 a0.num,sf cI a0.sc,sf KY a0.kids]⟩)] [⟨e0v0,26,5,rws KY YT⟩]->Q (.ex 0) ⟨T,ss⟩)->True->∀(T:TT) (ss:Sto) (z0v0:AV),T 2=.ptr b3 0/\T 3=.ptr b5 0/\T 17=sf KY a0.kids/\T 18=i6 (a0.kids.length:Int)/\T 19=i6 CI->Fx tt ss [(b5,⟨26,5,[i6 a0.kind,.str a0.name,i6 a0.num,sf cI x14,z0v0]⟩),(b3,⟨26,5,[i6 0,.str zB,i6 0,.Ya,.Ya]⟩),(b1,⟨26,5,[i6 a0.kind,.str a0.name,i6 a0.num,sf cI a0.sc,sf KY a0.kids]⟩)] [⟨z0v0,26,5,rws KY X5⟩]->aLp KZ c Q ⟨T,ss⟩) ?_ ?_
 ·intro WI L0 a0 r H;intro ss;refine hdh mixed Tryz.func30 (rs:=[.cell 2 26]) fun q tT hF hX=>?_;refine go ?_;refine X8 hF rfl fun b1 ss2 hF=>?_;refine go ?_;refine X8 hF rfl fun b3 ss4 hF=>?_;refine go ?_;refine Ye E0 [.v,.v,.v,.v,.v,.v,.v,.v,.v,.v,.x,.z] (by kernel_rfl) ?_;refine go ?_;refine bp H (Cr a0.sc) fun x14 h H=>cv h ?_;refine go ?_;refine WQ hF rfl fun b5 ss6 hF=>?_;refine go ?_;refine st hF 0 rfl fun s7 hF=>?_;have hF:=hF.nil 26 5;refine go ?_;obtain ⟨o14,ho14,H⟩:=bnd H;refine L0 a0 x14 [] 0 _ ho14 _ rfl _ _ b1 b3 b5 ?_ ?_ _ _ .Ya S hF
  ·intro AB he T16 s17 e15v0 tT hF;have he:=he.symm;subst he;refine go ?_;refine st hF 1 rfl fun s19 hF=>?_;refine go ?_;have e:=pur H;subst e;exact rt _
  ·trivial
 ·intro Jy WI C0 L0 a0 x14 X5 CI out H c hc Q tt b1 b3 b5 hE hR T ss z0v0 tT hF;refine lpx tt hc rfl fun q hX=>go ?_;refine cdp H (fun h H=>?_) (fun h H=>?_)
  ·obtain ⟨x21,f1,H⟩:=bil (g:=KY) Fm.X6 H;refine go1 ?_;refine X8 hF rfl fun b8 s9 hF=>?_;refine go ?_;refine st hF 0 rfl fun s10 hF=>?_;refine go ?_;refine Ye E0 [.v,.v,.v,.v,.v,.x,.v,.z] (by kernel_rfl) ?_;refine go ?_;refine bp H (C0 x21) fun x26 h H=>cv h ?_;refine go ?_;refine Pn (g:=KY) hF 0 H (rdo (c:=true) (g:=KY) Fm.X6) fun x28 H v11 s12 hF=>?_;refine go ?_;refine st hF 1 (hF.cells 0 rfl) fun s13 hF=>?_;refine go ?_;exact L0 a0 x14 x28 (i64.wrap (CI+1)) _ H _ rfl Q tt b1 b3 b5 hE hR _ _ v11 S (hF.drop 1 0)
  ·refine go ?_;exact wq (hE _ (pur H).symm _ _ z0v0 S hF)
theorem Bs:∀(a0:Fm) (c0:Stp) (c1:List Fm) r,Wr a0 c0 c1=some r->∀(e0 e1:Nat) (RO:AV) (ss:Sto),Pre ss [(e0,⟨28,13,[i6 c0.id,i6 c0.rule,i6 c0.scope,i6 c0.use.kind,.str c0.use.name,i6 c0.use.num,sf cI c0.use.sc,sf KY c0.use.kids,i6 c0.res.kind,.str c0.res.name,i6 c0.res.num,sf cI c0.res.sc,sf KY c0.res.kids]⟩),(e1,⟨24,1,[RO]⟩)] [⟨RO,26,5,rws KY c1⟩]->Ctr KZ 27 [.agg (KY a0),.ptr e0 0,.ptr e1 0] ss (fun r' ss'=>∃(tt':Sto) (Qhw:AV),r'=.tup []/\Tau (strip ss [⟨RO,26,5,rws KY c1⟩]) [(e0,⟨28,13,[i6 c0.id,i6 c0.rule,i6 c0.scope,i6 c0.use.kind,.str c0.use.name,i6 c0.use.num,sf cI c0.use.sc,sf KY c0.use.kids,i6 c0.res.kind,.str c0.res.name,i6 c0.res.num,sf cI c0.res.sc,sf KY c0.res.kids]⟩),(e1,⟨24,1,[Qhw]⟩)] tt'/\Fx tt' ss' [] [⟨Qhw,26,5,rws KY r⟩]):=by
 intro a0 c0 c1 r H;intro e0 e1 RO ss hP;unfold Wr at H;refine hdg mixed Tryz.func27 (rs:=[]) fun q tT=>?_;obtain ⟨hF,hX⟩:=hP.start;generalize strip ss [⟨RO,26,5,rws KY c1⟩]=tt0 at hF hX ⊢;refine go ?_;refine X8 hF rfl fun b1 ss2 hF=>?_;refine go ?_;obtain ⟨x13,g3,H⟩:=bnd H;refine Yb 5 8 13 (.bool x13) (gi q (fun q=>?_) (fun q=>?_)) (fun J=>?_)
 ·rw [if_pos (dt q)] at g3;refine go ?_;obtain ⟨x12,hx12,g3⟩:=bnd g3;refine cl (Bu a0.sc c0.scope _ hx12) ?_;refine go ?_;exact Yt 8 g3
 ·rw [if_neg (df q)] at g3;refine go ?_;exact Yt 8 g3
 refine go ?_;obtain ⟨x19,g5,H⟩:=bnd H;refine Yb 4 15 19 (.bool x19) (gi q (fun q=>?_) (fun q=>?_)) (fun J=>?_)
 ·rw [if_pos (dbt q)] at g5;refine go ?_;obtain ⟨x17,hx17,g5⟩:=bnd g5;refine B3 (PZ c1 a0 _ hx17) .bool (by (try simp only [sf,i6,zB,Fm.X9]);exact (.cons ((hF.wk 0 rfl).trans (ZG (Sub.zero _) _)) (fun _=>rfl) (.cons (Wk.agg (Sub.zero _) (.cons (ZG (Sub.zero _) _) id (.cons (ZG (Sub.zero _) _) id (.cons (ZG (Sub.zero _) _) id (.cons (ZG (Sub.zero _) _) id (.cons (ZG (Sub.zero _) _) id .nil)))))) (fun h=>by first | exact h | rfl) .nil))) ?_;refine go ?_;exact Yt 15 g5
 ·rw [if_neg (dbf q)] at g5;refine go ?_;exact Yt 15 g5
 refine go ?_;refine cdb H (fun h H=>?_) (fun h H=>?_)
 ·refine go ?_;obtain ⟨E,hEq⟩:∃E,E=EE ss2 [e1]:=⟨_,rfl⟩
  have n7:¬E b1:=by rw [hEq];exact K5 (hF.at 0 rfl) (nm1 (neX hF 0 rfl hX 1 rfl))
  have n8:¬E e0:=by rw [hEq];exact K5 (hF.xat hX 0 rfl) (nm1 (neE hX 0 1 rfl rfl (by decide)))
  refine LC E [.v,.v,.v,.x,.v,.x,.v] [1,2,4,0,3,5,6] 7 8 [] [] [] [] (by kernel_rfl) ?_;have z:=K2 (X4 (hF.at 0 rfl) n7) (X4 (hF.xat hX 0 rfl) n8);refine gh ?_;refine bp H (CC a0) fun x22 h H=>cv h ?_
  try simp only [go_sem,↓reduceIte,K8,Zf,Zg,K9,Zh,Zi,Kl,q,tT,hF.f,hF.m,hF.x hX,X4 (hF.at 0 rfl) n7,X4 (hF.xat hX 0 rfl) n8,Qll]
  refine Qpv (g:=KY) (rows:=[[i6 0,.str zB,i6 0,.Ya,.Ya]]) hF 0 H Fm.X6 true rfl (by simp only [sf,i6,zB,Y8,Vy,cI,cU,cS,cL,Fm.X9,Fm.kind,Fm.name,Fm.num,Fm.sc,Fm.kids,Hit.name,Hit.depth,Hit.one,Hit.many,Cor.kind,Cor.id,Cor.name,Cor.num,Cor.ids,Cor.data,Cor.kids,Val.kind,Val.num,Val.name,Val.items,Val.fn,Val.env,Slt.id,Slt.val,List.flatten_cons,List.flatten_nil,List.append_nil,List.cons_append,List.nil_append];exact (.cons (.refl _) id (.cons (.refl _) id (.cons (.refl _) id (.cons .Ya (fun _=>rfl) (.cons .Ya (fun _=>rfl) .nil)))))) fun x25 H v9 s10 hF=>?_;have z:=K2 (X4 (hF.at 0 rfl) n7) (X4 (hF.xat hX 0 rfl) n8);refine gh ?_;obtain ⟨x26,hx26,H⟩:=bnd H;obtain ⟨b11,k12,hv⟩:=hF.ref 0 rfl hx26;subst hv
  try simp only [go_sem,↓reduceIte,K8,Zf,Zg,K9,Zh,Zi,Kl,q,tT,hF.f,hF.m,hF.x hX,X4 (hF.at 0 rfl) n7,X4 (hF.xat hX 0 rfl) n8,Bz (l:=x25) rfl hx26]
  refine ⟨?_,?_⟩
  ·have z:=K2 (X4 (hF.at 0 rfl) n7) (X4 (hF.xat hX 0 rfl) n8);refine gh ?_;refine Tl hF 0 (o:=0) (sz:=5) (k:=5) (v:=(.agg [i6 x22.kind,.str x22.name,i6 x22.num,sf cI x22.sc,sf KY x22.kids])) (cs:=[i6 x22.kind,.str x22.name,i6 x22.num,sf cI x22.sc,sf KY x22.kids]) (g:=KY) (i:=(c1.length:Int)) x22 Fm.X6 (by first | rfl | simp) rfl hx26 rfl rfl (by decide) (by first | rfl | simp [Hq,cI,cU,cS,cL,cB,Fm.X9]) fun s13 hF=>?_;have hF:Fx tt0 s13 [(b1,⟨26,5,[i6 a0.kind,.str a0.name,i6 a0.num,sf cI a0.sc,sf KY a0.kids]⟩)] [⟨.ref b11 x25.length k12,26,5,rws KY (x25.set (c1.length:Int).toNat x22)⟩]:=hF;have z:=K2 (X4 (hF.at 0 rfl) n7) (X4 (hF.xat hX 0 rfl) n8);refine gh ?_;refine Qpx hF hX 1 (by rw [hEq];exact EE.of (by simp)) (hF.cells 0 rfl) fun t15 s14 hF hX=>?_;have z:=K2 (X4 (hF.at 0 rfl) n7) (X4 (hF.xat hX 0 rfl) n8);refine gh ?_;refine go ?_;have e:=pur H;subst e;exact rg [] ⟨_,_,rfl,hX,hF.pick [] [0] (by decide) (by decide)⟩
  ·have z:=K2 (X4 (hF.at 0 rfl) n7) (X4 (hF.xat hX 0 rfl) n8);refine gh ?_;refine Qpx hF hX 1 (by rw [hEq];exact EE.of (by simp)) (hF.cells 0 rfl) fun t17 s16 hF hX=>?_;have z:=K2 (X4 (hF.at 0 rfl) n7) (X4 (hF.xat hX 0 rfl) n8);refine gh ?_;refine Tl hF 0 (o:=0) (sz:=5) (k:=5) (v:=(.agg [i6 x22.kind,.str x22.name,i6 x22.num,sf cI x22.sc,sf KY x22.kids])) (cs:=[i6 x22.kind,.str x22.name,i6 x22.num,sf cI x22.sc,sf KY x22.kids]) (g:=KY) (i:=(c1.length:Int)) x22 Fm.X6 (by first | rfl | simp) rfl hx26 rfl rfl (by decide) (by first | rfl | simp [Hq,cI,cU,cS,cL,cB,Fm.X9]) fun s18 hF=>?_;have hF:Fx t17 s18 [(b1,⟨26,5,[i6 a0.kind,.str a0.name,i6 a0.num,sf cI a0.sc,sf KY a0.kids]⟩)] [⟨.ref b11 x25.length k12,26,5,rws KY (x25.set (c1.length:Int).toNat x22)⟩]:=hF;have z:=K2 (X4 (hF.at 0 rfl) n7) (X4 (hF.xat hX 0 rfl) n8);refine gh ?_;refine go ?_;have e:=pur H;subst e;exact rg [] ⟨_,_,rfl,hX,hF.pick [] [0] (by decide) (by decide)⟩
 ·refine go ?_;have e:=pur H;subst e;exact rg _ ⟨_,_,rfl,hX,hF.pick [] [0] (by decide) (by decide)⟩
theorem Hz:∀(a0:Fm) (c0:Stp) (c1:List Fm) r,YB a0 c0 c1=some r->∀(e0 e1:Nat) (RO:AV) (ss:Sto),Pre ss [(e0,⟨28,13,[i6 c0.id,i6 c0.rule,i6 c0.scope,i6 c0.use.kind,.str c0.use.name,i6 c0.use.num,sf cI c0.use.sc,sf KY c0.use.kids,i6 c0.res.kind,.str c0.res.name,i6 c0.res.num,sf cI c0.res.sc,sf KY c0.res.kids]⟩),(e1,⟨24,1,[RO]⟩)] [⟨RO,26,5,rws KY c1⟩]->Ctr KZ 26 [.agg (KY a0),.fn 27 [.ptr e0 0,.ptr e1 0]] ss (fun r' ss'=>∃(tt':Sto) (Qhw:AV),r'=.tup []/\Tau (strip ss [⟨RO,26,5,rws KY c1⟩]) [(e0,⟨28,13,[i6 c0.id,i6 c0.rule,i6 c0.scope,i6 c0.use.kind,.str c0.use.name,i6 c0.use.num,sf cI c0.use.sc,sf KY c0.use.kids,i6 c0.res.kind,.str c0.res.name,i6 c0.res.num,sf cI c0.res.sc,sf KY c0.res.kids]⟩),(e1,⟨24,1,[Qhw]⟩)] tt'/\Fx tt' ss' [] [⟨Qhw,26,5,rws KY r⟩]):=by
 intro a0 c0 c1;revert a0 c1;refine YB.partial_correctness c0 (motive_1:=fun a0 c1 r=>∀(e0 e1:Nat) (RO:AV) (ss:Sto),Pre ss [(e0,⟨28,13,[i6 c0.id,i6 c0.rule,i6 c0.scope,i6 c0.use.kind,.str c0.use.name,i6 c0.use.num,sf cI c0.use.sc,sf KY c0.use.kids,i6 c0.res.kind,.str c0.res.name,i6 c0.res.num,sf cI c0.res.sc,sf KY c0.res.kids]⟩),(e1,⟨24,1,[RO]⟩)] [⟨RO,26,5,rws KY c1⟩]->Ctr KZ 26 [.agg (KY a0),.fn 27 [.ptr e0 0,.ptr e1 0]] ss (fun r' ss'=>∃(tt':Sto) (Qhw:AV),r'=.tup []/\Tau (strip ss [⟨RO,26,5,rws KY c1⟩]) [(e0,⟨28,13,[i6 c0.id,i6 c0.rule,i6 c0.scope,i6 c0.use.kind,.str c0.use.name,i6 c0.use.num,sf cI c0.use.sc,sf KY c0.use.kids,i6 c0.res.kind,.str c0.res.name,i6 c0.res.num,sf cI c0.res.sc,sf KY c0.res.kids]⟩),(e1,⟨24,1,[Qhw]⟩)] tt'/\Fx tt' ss' [] [⟨Qhw,26,5,rws KY r⟩])) (motive_2:=fun a0 X5 Wi out=>∀c,Yf Tryz.f26 0=some c->∀(Q:QT) (tt0:Sto) (e0 e1 b1:Nat),(∀(YT:List Fm),out=YT->∀(T:TT) (ss tt:Sto) (e0v0:AV),0+0=0->Tau tt0 [(e0,⟨28,13,[i6 c0.id,i6 c0.rule,i6 c0.scope,i6 c0.use.kind,.str c0.use.name,i6 c0.use.num,sf cI c0.use.sc,sf KY c0.use.kids,i6 c0.res.kind,.str c0.res.name,i6 c0.res.num,sf cI c0.res.sc,sf KY c0.res.kids]⟩),(e1,⟨24,1,[e0v0]⟩)] tt->Fx tt ss [(b1,⟨26,5,[i6 a0.kind,.str a0.name,i6 a0.num,sf cI a0.sc,sf KY a0.kids]⟩)] [⟨e0v0,26,5,rws KY YT⟩]->Q (.ex 0) ⟨T,ss⟩)->True->∀(T:TT) (ss tt:Sto) (z0v0:AV),T 1=.fn 27 [.ptr e0 0,.ptr e1 0]/\T 10=sf KY a0.kids/\T 11=i6 (a0.kids.length:Int)/\T 12=i6 Wi->Tau tt0 [(e0,⟨28,13,[i6 c0.id,i6 c0.rule,i6 c0.scope,i6 c0.use.kind,.str c0.use.name,i6 c0.use.num,sf cI c0.use.sc,sf KY c0.use.kids,i6 c0.res.kind,.str c0.res.name,i6 c0.res.num,sf cI c0.res.sc,sf KY c0.res.kids]⟩),(e1,⟨24,1,[z0v0]⟩)] tt->Fx tt ss [(b1,⟨26,5,[i6 a0.kind,.str a0.name,i6 a0.num,sf cI a0.sc,sf KY a0.kids]⟩)] [⟨z0v0,26,5,rws KY X5⟩]->aLp KZ c Q ⟨T,ss⟩) ?_ ?_
 ·intro Yv L0 a0 c1 r H;intro e0 e1 RO ss hP;refine hdg mixed Tryz.func26 (rs:=[]) fun q tT=>?_;obtain ⟨hF,hX⟩:=hP.start;generalize strip ss [⟨RO,26,5,rws KY c1⟩]=tt0 at hF hX ⊢;refine go ?_;refine X8 hF rfl fun b1 ss2 hF=>?_;refine go ?_;obtain ⟨x8,hx8,H⟩:=bnd H;refine cx (Bs a0 c0 c1 _ hx8 e0 e1 RO _ (pre 0 2 1 hF hX)) ?_;rintro _ ss4 ⟨tt5,v3,rfl,hT,hG⟩;obtain ⟨t6,hX,hF⟩:=aft 0 2 1 hF hX hT hG;refine go ?_;obtain ⟨o14,ho14,H⟩:=bnd H;refine L0 a0 x8 0 _ ho14 _ rfl _ tt0 e0 e1 b1 ?_ ?_ _ _ _ v3 S hX hF
  ·intro AB he T16 s17 t18 e15v0 tT hX hF;have he:=he.symm;subst he;refine go ?_;have e:=pur H;subst e;exact rg _ ⟨_,_,rfl,hX,hF.pick [] [0] (by decide) (by decide)⟩
  ·trivial
 ·intro YB Yv C0 L0 a0 X5 Wi out H c hc Q tt0 e0 e1 b1 hE hR T ss tt z0v0 tT hX hF;refine lpy hc rfl fun q=>go ?_;refine cdp H (fun h H=>?_) (fun h H=>?_)
  ·obtain ⟨x14,f1,H⟩:=bil (g:=KY) Fm.X6 H;refine go1 ?_;refine X8 hF rfl fun b7 s8 hF=>?_;refine go ?_;refine st hF 0 rfl fun s9 hF=>?_;refine go ?_;obtain ⟨x18,hx18,H⟩:=bnd H;refine cx (C0 x14 X5 _ hx18 e0 e1 z0v0 _ (pre 0 2 1 hF hX)) ?_;rintro _ s11 ⟨t12,v10,rfl,hT,hG⟩;obtain ⟨t13,hX,hF⟩:=aft 0 2 1 hF hX hT hG;refine go ?_;exact L0 a0 x18 (i64.wrap (Wi+1)) _ H _ rfl Q tt0 e0 e1 b1 hE hR _ _ _ v10 S hX (hF.drop 1 0)
  ·refine go ?_;exact wq (hE _ (pur H).symm _ _ _ z0v0 S hX hF)
theorem I7:∀(a0:Stp) r,WE a0=some r->Vr KZ 7 [.agg (Stp.cells a0)] (sf KY r):=by
 intro a0 r H;intro ss;unfold WE at H;refine hdh mixed Tryz.func7 (rs:=[.tmp 2]) fun q tT hF hX=>?_;refine go ?_;refine X8 hF rfl fun b1 ss2 hF=>?_;refine go ?_;refine X8 hF rfl fun b3 ss4 hF=>?_;refine go ?_;refine st hF 0 rfl fun ss5 hF=>?_;refine go ?_;refine bp H (GP a0.res) fun x7 h H=>cl h ?_;refine go ?_;obtain ⟨x14,g6,H⟩:=bnd H;refine Yb 4 10 14 (.bool x14) (giN q (fun q=>?_) (fun q=>?_)) (fun J=>?_)
 ·rw [if_neg (dbf q)] at g6;refine go ?_;obtain ⟨x12,hx12,g6⟩:=bnd g6;refine cl (Is a0.scope 1 99 _ hx12) ?_;refine go ?_;exact Yt 10 g6
 ·rw [if_pos (dbt q)] at g6;refine go ?_;exact Yt 10 g6
 refine go ?_;refine cdb H (fun h H=>?_) (fun h H=>?_)
 ·refine go ?_;have e:=pur H;subst e;exact rt _
 ·have hF:=hF.lit 26 5 (rws KY []) rfl;refine go ?_;have hF:=pck hF [1,0] [0];obtain ⟨x19,hx19,H⟩:=bnd H;refine cx (Hz a0.res a0 [] _ hx19 b1 b3 (.sl true (rws KY [])) _ (pre 2 0 1 hF hX)) ?_;rintro _ s9 ⟨t10,v8,rfl,hT,hG⟩;have hF:=DB 2 1 hF hX hT hG;refine go ?_;have e:=pur H;subst e;exact rt _
theorem RB:∀(a0 a1 a2:Int) r,ER a0 a1 a2=some r->Vr KZ 32 [i6 a0,i6 a1,i6 a2] (.bool r):=by
 intro a0 a1 a2 r H;intro ss;unfold ER at H;refine hdh mixed Tryz.func32 (rs:=[.tmp 6]) fun q tT hF hX=>?_;refine go ?_;obtain ⟨x14,g1,H⟩:=bnd H;refine Yb 3 11 14 (.bool x14) (gi q (fun q=>?_) (fun q=>?_)) (fun J=>?_)
 ·refine go ?_;exact Yt 11 g1
 ·refine go ?_;exact Yt 11 g1
 refine go ?_;have e:=pur H;subst e;exact rt _
theorem Ee:∀(a0:List Fm) (a1:Fm) (a2:Int) r,V3 a0 a1 a2=some r->∀  (p0:AV) (ss:Sto),Pre ss [] [⟨p0,26,5,rws KY a0⟩]->Ctr KZ 33 [p0,.agg (KY a1),i6 a2] ss (fun r' ss'=>∃(tt':Sto) (w0:AV),r'=w0/\Tau (strip ss [⟨p0,26,5,rws KY a0⟩]) [] tt'/\Fx tt' ss' [] [⟨w0,26,5,rws KY r⟩]):=by
 intro a0 a1 a2;revert a0 a1;refine V3.partial_correctness a2 (motive_1:=fun a0 a1 r=>∀  (p0:AV) (ss:Sto),Pre ss [] [⟨p0,26,5,rws KY a0⟩]->Ctr KZ 33 [p0,.agg (KY a1),i6 a2] ss (fun r' ss'=>∃(tt':Sto) (w0:AV),r'=w0/\Tau (strip ss [⟨p0,26,5,rws KY a0⟩]) [] tt'/\Fx tt' ss' [] [⟨w0,26,5,rws KY r⟩])) (motive_2:=fun a1 X5 Yo out=>∀c,Yf Tryz.f33 0=some c->∀(Q:QT) (tt0:Sto) (b1:Nat),(∀(YT:List Fm),out=YT->∀(T:TT) (ss tt:Sto) (e0v0:AV),T 0=e0v0->Tau tt0 [] tt->Fx tt ss [(b1,⟨26,5,[i6 a1.kind,.str a1.name,i6 a1.num,sf cI a1.sc,sf KY a1.kids]⟩)] [⟨e0v0,26,5,rws KY YT⟩]->Q (.ex 0) ⟨T,ss⟩)->True->∀(T:TT) (ss tt:Sto) (z0v0:AV),T 0=z0v0/\T 2=i6 a2/\T 4=.ptr b1 0/\T 7=i6 Yo->Tau tt0 [] tt->Fx tt ss [(b1,⟨26,5,[i6 a1.kind,.str a1.name,i6 a1.num,sf cI a1.sc,sf KY a1.kids]⟩)] [⟨z0v0,26,5,rws KY X5⟩]->aLp KZ c Q ⟨T,ss⟩) ?_ ?_
 ·intro VC L0 a0 a1 r H;intro  p0 ss hP;refine hdg mixed Tryz.func33 (rs:=[.tmp 6]) fun q tT=>?_;obtain ⟨hF,hX⟩:=hP.start;generalize strip ss [⟨p0,26,5,rws KY a0⟩]=tt0 at hF hX ⊢;refine go ?_;refine X8 hF rfl fun b1 ss2 hF=>?_;refine go ?_;obtain ⟨x16,g3,H⟩:=bnd H;refine Yb 4 12 16 (.bool x16) (gi q (fun q=>?_) (fun q=>?_)) (fun J=>?_)
  ·rw [if_pos (dt q)] at g3;refine go ?_;obtain ⟨x15,hx15,g3⟩:=bnd g3;refine cl (Hg a1.sc a2 _ hx15) ?_;refine go ?_;exact Yt 12 g3
  ·rw [if_neg (df q)] at g3;refine go ?_;exact Yt 12 g3
  refine go ?_;obtain ⟨x22,g5,H⟩:=bnd H;refine Yb 4 18 22 (.bool x22) (gi q (fun q=>?_) (fun q=>?_)) (fun J=>?_)
  ·rw [if_pos (dbt q)] at g5;refine go ?_;obtain ⟨x20,hx20,g5⟩:=bnd g5;refine B3 (IT a0 a1 _ hx20) .bool (by (try simp only [sf,i6,zB,Fm.X9]);exact (.cons ((hF.wk 0 rfl).trans (ZG (Sub.zero _) _)) (fun _=>rfl) (.cons (Wk.agg (Sub.zero _) (.cons (ZG (Sub.zero _) _) id (.cons (ZG (Sub.zero _) _) id (.cons (ZG (Sub.zero _) _) id (.cons (ZG (Sub.zero _) _) id (.cons (ZG (Sub.zero _) _) id .nil)))))) (fun h=>by first | exact h | rfl) .nil))) ?_;refine go ?_;exact Yt 18 g5
  ·rw [if_neg (dbf q)] at g5;refine go ?_;exact Yt 18 g5
  refine go ?_;obtain ⟨Pl,j8,H⟩:=bnd H;refine VL (fun s'=>∃(T:TT) (ss1 tt1:Sto) (y7v0:AV),s'=⟨T,ss1⟩/\(T 0=y7v0/\T 2=i6 a2/\T 4=.ptr b1 0)/\Tau tt0 [] tt1/\Fx tt1 ss1 [(b1,⟨26,5,[i6 a1.kind,.str a1.name,i6 a1.num,sf cI a1.sc,sf KY a1.kids]⟩)] [⟨y7v0,26,5,rws KY Pl⟩]) (cdb j8 (fun h j8=>?_) (fun h j8=>?_)) ?_
  ·refine go ?_;obtain ⟨x25,hx25,j8⟩:=bnd j8;refine cl (VW a1 _ hx25) ?_;refine go ?_;refine apd (g:=KY) hF 0 j8 (rdo (c:=true) (g:=KY) Fm.X6) fun x27 j8 v9 s10 hF=>?_;refine go ?_;have e:=pur j8;subst e;exact ⟨_,_,_,v9,rfl,S,hX,hF⟩
  ·refine go ?_;have e:=pur j8;subst e;exact ⟨_,_,_,p0,rfl,S,hX,hF⟩
  ·rintro s' ⟨T11,s12,t13,y7v0,rfl,tT,hX,hF⟩;refine go ?_;obtain ⟨o18,ho18,H⟩:=bnd H;refine L0 a1 Pl 0 _ ho18 _ rfl _ tt0 b1 ?_ ?_ _ _ _ y7v0 S hX hF
   ·intro PR he T20 s21 tt22 e19v0 tT hX hF;have he:=he.symm;subst he;refine go ?_;have e:=pur H;subst e;exact rg _ ⟨_,_,rfl,hX,hF.pick [] [0] (by decide) (by decide)⟩
   ·trivial
 ·intro V3 VC C0 L0 a1 X5 Yo out H c hc Q tt0 b1 hE hR T ss tt z0v0 tT hX hF;refine lpy hc rfl fun q=>go ?_;refine cdp H (fun h H=>?_) (fun h H=>?_)
  ·obtain ⟨x39,f1,H⟩:=bil (g:=KY) Fm.X6 H;refine go1 ?_;obtain ⟨x42,hx42,H⟩:=bnd H;refine cx (C0 X5 x39 _ hx42  z0v0 _ (pre 0 0 1 hF hX)) ?_;rintro v14 s15 ⟨t16,_,rfl,hT,hG⟩;obtain ⟨t17,hX,hF⟩:=aft 0 0 1 hF hX hT hG;refine go ?_;exact L0 a1 x42 (i64.wrap (Yo+1)) _ H _ rfl Q tt0 b1 hE hR _ _ _ v14 S hX hF
  ·refine go ?_;exact wq (hE _ (pur H).symm _ _ _ z0v0 S hX hF)
theorem Ed:∀(a1:Fm) (a2:Int) (X5:List Fm) (Yo:Int) out,V2 a1 a2 X5 Yo=some out->∀c,Yf Tryz.f33 0=some c->∀(Q:QT) (tt0:Sto) (b1:Nat),(∀(YT:List Fm),out=YT->∀(T:TT) (ss tt:Sto) (e0v0:AV),T 0=e0v0->Tau tt0 [] tt->Fx tt ss [(b1,⟨26,5,[i6 a1.kind,.str a1.name,i6 a1.num,sf cI a1.sc,sf KY a1.kids]⟩)] [⟨e0v0,26,5,rws KY YT⟩]->Q (.ex 0) ⟨T,ss⟩)->True->∀(T:TT) (ss tt:Sto) (z0v0:AV),T 0=z0v0/\T 2=i6 a2/\T 4=.ptr b1 0/\T 7=i6 Yo->Tau tt0 [] tt->Fx tt ss [(b1,⟨26,5,[i6 a1.kind,.str a1.name,i6 a1.num,sf cI a1.sc,sf KY a1.kids]⟩)] [⟨z0v0,26,5,rws KY X5⟩]->aLp KZ c Q ⟨T,ss⟩:=by
 intro a1 a2 X5 Yo;revert X5 Yo;refine V2.partial_correctness a1 a2 _ ?_;intro V2 IH X5 Yo out H c hc Q tt0 b1 hE hR T ss tt z0v0 tT hX hF;refine lpy hc rfl fun q=>go ?_;refine cdp H (fun h H=>?_) (fun h H=>?_)
 ·obtain ⟨x39,f1,H⟩:=bil (g:=KY) Fm.X6 H;refine go1 ?_;obtain ⟨x42,hx42,H⟩:=bnd H;refine cx (Ee X5 x39 a2 _ hx42  z0v0 _ (pre 0 0 1 hF hX)) ?_;rintro v14 s15 ⟨t16,_,rfl,hT,hG⟩;obtain ⟨t17,hX,hF⟩:=aft 0 0 1 hF hX hT hG;refine go ?_;exact IH  x42 (i64.wrap (Yo+1)) _ H _ rfl Q tt0 b1 hE hR _ _ _ v14 S hX hF
 ·refine go ?_;exact wq (hE _ (pur H).symm _ _ _ z0v0 S hX hF)
theorem Le:∀(a0:List Fm) (a1:Fm) (a2:Int) r,Ad a0 a1 a2=some r->∀  (p0:AV) (ss:Sto),Pre ss [] [⟨p0,26,5,rws KY a0⟩]->Ctr KZ 33 [p0,.agg (KY a1),i6 a2] ss (fun r' ss'=>∃(tt':Sto),r'=sf KY r/\Tau (strip ss [⟨p0,26,5,rws KY a0⟩]) [] tt'/\Fx tt' ss' [] []):=by
 intro a0 a1 a2 r H;intro  p0 ss hP;unfold Ad at H;refine hdg mixed Tryz.func33 (rs:=[.tmp 6]) fun q tT=>?_;obtain ⟨hF,hX⟩:=hP.start;generalize strip ss [⟨p0,26,5,rws KY a0⟩]=tt0 at hF hX ⊢;refine go ?_;refine X8 hF rfl fun b1 ss2 hF=>?_;refine go ?_;obtain ⟨x16,g3,H⟩:=bnd H;refine Yb 4 12 16 (.bool x16) (gi q (fun q=>?_) (fun q=>?_)) (fun J=>?_)
 ·rw [if_pos (dt q)] at g3;refine go ?_;obtain ⟨x15,hx15,g3⟩:=bnd g3;refine cl (Hg a1.sc a2 _ hx15) ?_;refine go ?_;exact Yt 12 g3
 ·rw [if_neg (df q)] at g3;refine go ?_;exact Yt 12 g3
 refine go ?_;obtain ⟨x22,g5,H⟩:=bnd H;refine Yb 4 18 22 (.bool x22) (gi q (fun q=>?_) (fun q=>?_)) (fun J=>?_)
 ·rw [if_pos (dbt q)] at g5;refine go ?_;obtain ⟨x20,hx20,g5⟩:=bnd g5;refine B3 (IT a0 a1 _ hx20) .bool (by (try simp only [sf,i6,zB,Fm.X9]);exact (.cons ((hF.wk 0 rfl).trans (ZG (Sub.zero _) _)) (fun _=>rfl) (.cons (Wk.agg (Sub.zero _) (.cons (ZG (Sub.zero _) _) id (.cons (ZG (Sub.zero _) _) id (.cons (ZG (Sub.zero _) _) id (.cons (ZG (Sub.zero _) _) id (.cons (ZG (Sub.zero _) _) id .nil)))))) (fun h=>by first | exact h | rfl) .nil))) ?_;refine go ?_;exact Yt 18 g5
 ·rw [if_neg (dbf q)] at g5;refine go ?_;exact Yt 18 g5
 refine go ?_;obtain ⟨Pl,j8,H⟩:=bnd H;refine VL (fun s'=>∃(T:TT) (ss1 tt1:Sto) (y7v0:AV),s'=⟨T,ss1⟩/\(T 0=y7v0/\T 2=i6 a2/\T 4=.ptr b1 0)/\Tau tt0 [] tt1/\Fx tt1 ss1 [(b1,⟨26,5,[i6 a1.kind,.str a1.name,i6 a1.num,sf cI a1.sc,sf KY a1.kids]⟩)] [⟨y7v0,26,5,rws KY Pl⟩]) (cdb j8 (fun h j8=>?_) (fun h j8=>?_)) ?_
 ·refine go ?_;obtain ⟨x25,hx25,j8⟩:=bnd j8;refine cl (VW a1 _ hx25) ?_;refine go ?_;refine apd (g:=KY) hF 0 j8 (rdo (c:=true) (g:=KY) Fm.X6) fun x27 j8 v9 s10 hF=>?_;refine go ?_;have e:=pur j8;subst e;exact ⟨_,_,_,v9,rfl,S,hX,hF⟩
 ·refine go ?_;have e:=pur j8;subst e;exact ⟨_,_,_,p0,rfl,S,hX,hF⟩
 ·rintro s' ⟨T11,s12,t13,y7v0,rfl,tT,hX,hF⟩;refine go ?_;obtain ⟨o18,ho18,H⟩:=bnd H;refine Ed a1 a2 Pl 0 _ ho18 _ rfl _ tt0 b1 ?_ ?_ _ _ _ y7v0 S hX hF
  ·intro PR he T20 s21 tt22 e19v0 tT hX hF;have he:=he.symm;subst he;refine go ?_;have e:=pur H;subst e;exact rg _ ⟨_,rfl,hX,K3 _⟩
  ·trivial
theorem Cu:∀(a0:Stp) r,Jv a0=some r->Vr KZ 9 [.agg (Stp.cells a0)] (sf KY r):=by
 intro a0 r H;intro ss;unfold Jv at H;refine hdh mixed Tryz.func9 (rs:=[.tmp 2]) fun q tT hF hX=>?_;refine go ?_;refine X8 hF rfl fun b1 ss2 hF=>?_;refine go ?_;refine bp H (YA a0.res) fun x5 h H=>cl h ?_;refine go ?_;obtain ⟨x12,g3,H⟩:=bnd H;refine Yb 4 8 12 (.bool x12) (giN q (fun q=>?_) (fun q=>?_)) (fun J=>?_)
 ·rw [if_neg (dbf q)] at g3;refine go ?_;obtain ⟨x10,hx10,g3⟩:=bnd g3;refine cl (RB a0.scope 1 99 _ hx10) ?_;refine go ?_;exact Yt 8 g3
 ·rw [if_pos (dbt q)] at g3;refine go ?_;exact Yt 8 g3
 refine go ?_;refine cdb H (fun h H=>?_) (fun h H=>?_)
 ·refine go ?_;have e:=pur H;subst e;exact rt _
 ·have hF:=hF.lit 26 5 (rws KY []) rfl;refine go ?_;obtain ⟨x19,hx19,H⟩:=bnd H;refine cx (Le [] a0.res a0.scope _ hx19  (.sl true (rws KY [])) _ (pre 0 0 1 hF hX)) ?_;rintro _ ss5 ⟨t6,rfl,hT,hG⟩;have hF:=DB 0 1 hF hX hT hG;refine go ?_;have e:=pur H;subst e;exact rt _
theorem EA:∀(a0 a1:List Fm) (Yh:Int) out,Ws a0 a1 Yh=some out->∀c,Yf Tryz.f8 0=some c->∀(Q:QT) (tt:Sto),(∀(_u:Unit),out=Sum.inr ()->∀(T:TT) (ss:Sto),0+0=0->Fx tt ss [] []->Q (.ex 0) ⟨T,ss⟩)->(∀r,out=Sum.inl r->∀s',Aj KZ [.tmp 4] (fun r' ss'=>r'=.bool r/\ss'=tt) s'->Q .ret s')->∀(T:TT) (ss:Sto),T 0=sf KY a0/\T 1=sf KY a1/\T 5=i6 Yh->Fx tt ss [] []->aLp KZ c Q ⟨T,ss⟩:=by
 intro a0 a1 Yh;revert Yh;refine Ws.partial_correctness a0 a1 _ ?_;intro Ws IH Yh out H c hc Q tt  hE hR T ss tT hF;refine lpx tt hc rfl fun q hX=>go ?_;refine cdp H (fun h H=>?_) (fun h H=>?_)
 ·refine go ?_;refine Ye E0 [.v,.v,.v,.v,.v,.v,.v,.v,.v,.v] (by kernel_rfl) ?_;obtain ⟨x19,f1,H⟩:=bil (g:=KY) Fm.X6 H;obtain ⟨x23,f2,H⟩:=bil (g:=KY) Fm.X6 H;refine go2 ?_;refine bp H (CB x19 x23) fun x25 h H=>cv h ?_;refine go ?_;refine cdb H (fun h H=>?_) (fun h H=>?_)
  ·refine go ?_;exact wq (hR _ (pur H).symm _ (rt _))
  ·refine go ?_;exact IH  (i64.wrap (Yh+1)) _ H _ rfl Q tt  hE hR _ _  S hF
 ·refine go ?_;exact wq (hE () (pur H).symm _ _  S hF)
theorem Mo:∀(a0 a1:List Fm) r,AE a0 a1=some r->Vr KZ 8 [sf KY a0,sf KY a1] (.bool r):=by
 intro a0 a1 r H;intro ss;unfold AE at H;refine hdh mixed Tryz.func8 (rs:=[.tmp 4]) fun q tT hF hX=>?_;refine go ?_;refine cdn H (fun h H=>?_) (fun h H=>?_)
 ·refine go ?_;have e:=pur H;subst e;exact rt _
 ·refine go ?_;obtain ⟨o1,ho1,H⟩:=bnd H;refine EA a0 a1 0 _ ho1 _ rfl _ _  ?_ ?_ _ _  S hF
  ·intro _ he T3 ss4 tT hF;have he:=he.symm;subst he
   try dsimp only at H
   refine go ?_;have e:=pur H;subst e;exact rt _
  ·intro r hr s' hs;subst hr;have e:=pur H;subst e;exact hsq hs
theorem Bt:∀(a0:List Int) r,Jz a0=some r->∀(ss:Sto),Pre ss [] []->Ctr KZ 62 [.sl (false) (rws cI a0)] ss (fun r' ss'=>∃(tt':Sto) (w0:AV),r'=w0/\Tau (strip ss []) [] tt'/\Fx tt' ss' [] [⟨w0,3,1,rws cI r⟩]):=by
 intro a0 r H ss hP;unfold Jz at H;refine S2 mixed Tryz.func62 rfl (by kernel_rfl) (rs:=[.tmp 2]) rfl (by kernel_rfl) ?_;obtain ⟨hF,hX⟩:=hP.start;generalize strip ss []=tt0 at hF hX ⊢;have q:=dum;have tT:=dum;have hF:=hF.lit 3 1 (rws cI []) rfl
 cases a0 with
 | nil =>
  obtain ⟨rfl,_⟩:=BQ H;refine go ?_;refine Qag ?_ ?_
  ·have hF:=hF.nil 3 1;refine go ?_;exact rg _ ⟨_,_,rfl,hX,hF.pick [] [0] (by decide) (by decide)⟩
  ·refine go ?_;refine PY hF 0 (g:=cI) (xs:=[]) (ys:=[]) rfl (by decide) (by decide) (RdL.of (c:=false) (fun _=>rfl) (by first | rfl | simp only [Y8,Vy,cI,cU,cS,cL])) H fun v1 ss1 hF=>?_;refine go ?_;exact rg _ ⟨_,_,rfl,hX,hF.pick [] [0] (by decide) (by decide)⟩
 | cons x xs =>
  refine go ?_;refine PY hF 0 (g:=cI) (xs:=[]) (ys:=x :: xs) rfl (by decide) (by decide) (RdL.of (c:=false) (fun _=>rfl) (by first | rfl | simp only [Y8,Vy,cI,cU,cS,cL])) H fun v1 ss1 hF=>?_;refine go ?_;exact rg _ ⟨_,_,rfl,hX,hF.pick [] [0] (by decide) (by decide)⟩
theorem DF:∀(a0:List Int) (a1:Int) r,H8 a0 a1=some r->∀  (p0:AV) (ss:Sto),Pre ss [] [⟨p0,3,1,rws cI a0⟩]->Ctr KZ 39 [p0,i6 a1] ss (fun r' ss'=>∃(tt':Sto),r'=sf cI r/\Tau (strip ss [⟨p0,3,1,rws cI a0⟩]) [] tt'/\Fx tt' ss' [] []):=by
 intro a0 a1 r H;intro  p0 ss hP;unfold H8 at H;refine hdg mixed Tryz.func39 (rs:=[.tmp 4]) fun q tT=>?_;obtain ⟨hF,hX⟩:=hP.start;generalize strip ss [⟨p0,3,1,rws cI a0⟩]=tt0 at hF hX ⊢;refine go ?_;refine X8 hF rfl fun b1 ss2 hF=>?_;refine go ?_;obtain ⟨x7,hx7,H⟩:=bnd H;refine Qe1 Qn8 hF 0 rfl (hF.at 0 rfl) hx7 fun v4 ss3 hF=>?_;refine go ?_;have e:=pur H;subst e;exact rg _ ⟨_,rfl,hX,K3 _⟩
theorem DD:∀(a0:List Int) (c0:Int) r,H7 a0 c0=some r->∀(e0:Nat) (p0:AV) (ss:Sto),Pre ss [(e0,⟨3,1,[i6 c0]⟩)] [⟨p0,3,1,rws cI a0⟩]->Ctr KZ 38 [p0,.ptr e0 0] ss (fun r' ss'=>∃(tt':Sto),r'=sf cI r/\Tau (strip ss [⟨p0,3,1,rws cI a0⟩]) [(e0,⟨3,1,[i6 c0]⟩)] tt'/\Fx tt' ss' [] []):=by
 intro a0 c0 r H;intro e0 p0 ss hP;unfold H7 at H;refine hdg mixed Tryz.func38 (rs:=[.tmp 3]) fun q tT=>?_;obtain ⟨hF,hX⟩:=hP.start;generalize strip ss [⟨p0,3,1,rws cI a0⟩]=tt0 at hF hX ⊢;refine go ?_;obtain ⟨x6,hx6,H⟩:=bnd H;refine cx (DF a0 c0 _ hx6  p0 _ (pre 0 0 1 hF hX)) ?_;rintro _ ss1 ⟨tt2,rfl,hT,hG⟩;obtain ⟨tt3,hX,hF⟩:=aft 0 0 1 hF hX hT hG;refine go ?_;have e:=pur H;subst e;exact rg _ ⟨_,rfl,hX,K3 _⟩
theorem IY:∀(a0:Fm) (c0:Int) r,Yw a0 c0=some r->∀(e0:Nat)  (ss:Sto),Pre ss [(e0,⟨3,1,[i6 c0]⟩)] []->Ctr KZ 70 [.agg (KY a0),.fn 38 [.ptr e0 0]] ss (fun r' ss'=>∃(tt':Sto),r'=.agg (KY r)/\Tau (strip ss []) [(e0,⟨3,1,[i6 c0]⟩)] tt'/\Fx tt' ss' [] []):=by
 intro a0 c0;revert a0;refine Yw.partial_correctness c0 (motive_1:=fun a0 r=>∀(e0:Nat)  (ss:Sto),Pre ss [(e0,⟨3,1,[i6 c0]⟩)] []->Ctr KZ 70 [.agg (KY a0),.fn 38 [.ptr e0 0]] ss (fun r' ss'=>∃(tt':Sto),r'=.agg (KY r)/\Tau (strip ss []) [(e0,⟨3,1,[i6 c0]⟩)] tt'/\Fx tt' ss' [] [])) (motive_2:=fun a0 X5 Hs out=>∀c,Yf Tryz.f70 0=some c->∀(Q:QT) (tt0:Sto) (e0 b1 b3 b5:Nat),(∀(YT:List Fm),out=YT->∀(T:TT) (ss tt:Sto) (e0v0:AV),T 4=.ptr b3 0/\T 5=.ptr b5 0->Tau tt0 [(e0,⟨3,1,[i6 c0]⟩)] tt->Fx tt ss [(b5,⟨26,5,[i6 a0.kind,.str a0.name,i6 a0.num,.Ya,e0v0]⟩),(b3,⟨26,5,[i6 0,.str zB,i6 0,.Ya,.Ya]⟩),(b1,⟨26,5,[i6 a0.kind,.str a0.name,i6 a0.num,sf cI a0.sc,sf KY a0.kids]⟩)] [⟨e0v0,26,5,rws KY YT⟩]->Q (.ex 0) ⟨T,ss⟩)->True->∀(T:TT) (ss tt:Sto) (z0v0:AV),T 1=.fn 38 [.ptr e0 0]/\T 4=.ptr b3 0/\T 5=.ptr b5 0/\T 25=sf KY a0.kids/\T 26=i6 (a0.kids.length:Int)/\T 27=i6 Hs->Tau tt0 [(e0,⟨3,1,[i6 c0]⟩)] tt->Fx tt ss [(b5,⟨26,5,[i6 a0.kind,.str a0.name,i6 a0.num,.Ya,z0v0]⟩),(b3,⟨26,5,[i6 0,.str zB,i6 0,.Ya,.Ya]⟩),(b1,⟨26,5,[i6 a0.kind,.str a0.name,i6 a0.num,sf cI a0.sc,sf KY a0.kids]⟩)] [⟨z0v0,26,5,rws KY X5⟩]->aLp KZ c Q ⟨T,ss⟩) (motive_3:=fun a0 x22 X5 Hs out=>∀c,Yf Tryz.f70 0=some c->∀(Q:QT) (tt0:Sto) (e0 b1 b3 b5:Nat),(∀(YT:List Fm),out=YT->∀(T:TT) (ss tt:Sto) (e0v0:AV),T 4=.ptr b3 0/\T 5=.ptr b5 0->Tau tt0 [(e0,⟨3,1,[i6 c0]⟩)] tt->Fx tt ss [(b5,⟨26,5,[i6 a0.kind,.str a0.name,i6 a0.num,sf cI x22,e0v0]⟩),(b3,⟨26,5,[i6 0,.str zB,i6 0,.Ya,.Ya]⟩),(b1,⟨26,5,[i6 a0.kind,.str a0.name,i6 a0.num,sf cI a0.sc,sf KY a0.kids]⟩)] [⟨e0v0,26,5,rws KY YT⟩]->Q (.ex 0) ⟨T,ss⟩)->True->∀(T:TT) (ss tt:Sto) (z0v0:AV),T 1=.fn 38 [.ptr e0 0]/\T 4=.ptr b3 0/\T 5=.ptr b5 0/\T 25=sf KY a0.kids/\T 26=i6 (a0.kids.length:Int)/\T 27=i6 Hs->Tau tt0 [(e0,⟨3,1,[i6 c0]⟩)] tt->Fx tt ss [(b5,⟨26,5,[i6 a0.kind,.str a0.name,i6 a0.num,sf cI x22,z0v0]⟩),(b3,⟨26,5,[i6 0,.str zB,i6 0,.Ya,.Ya]⟩),(b1,⟨26,5,[i6 a0.kind,.str a0.name,i6 a0.num,sf cI a0.sc,sf KY a0.kids]⟩)] [⟨z0v0,26,5,rws KY X5⟩]->aLp KZ c Q ⟨T,ss⟩) ?_ ?_ ?_
 ·intro YD YF L1 L0 a0 r H;intro e0  ss hP;refine hdg mixed Tryz.func70 (rs:=[.cell 4 26]) fun q tT=>?_;obtain ⟨hF,hX⟩:=hP.start;generalize strip ss []=tt0 at hF hX ⊢;refine go ?_;refine X8 hF rfl fun b1 ss2 hF=>?_;refine go ?_;refine X8 hF rfl fun b3 ss4 hF=>?_;refine go ?_;refine X8 hF rfl fun b5 ss6 hF=>?_;refine go ?_;refine st hF 0 rfl fun s7 hF=>?_;refine go ?_;refine cdp H (fun h H=>?_) (fun h H=>?_)
  ·refine go ?_;obtain ⟨x21,hx21,H⟩:=bnd H;refine cx (Bt a0.sc _ hx21   _ (pre 0 0 0 hF hX)) ?_;rintro v8 s9 ⟨t10,_,rfl,hT,hG⟩;obtain ⟨t11,hX,hF⟩:=aft 0 0 0 hF hX hT hG;refine go ?_;obtain ⟨x22,hx22,H⟩:=bnd H;refine cx (DD x21 c0 _ hx22 e0 v8 _ (pre 0 1 1 hF hX)) ?_;rintro _ s12 ⟨t13,rfl,hT,hG⟩;obtain ⟨t14,hX,hF⟩:=aft 0 1 1 hF hX hT hG;refine go ?_;refine st hF 0 rfl fun s15 hF=>?_;have hF:=hF.nil 26 5;refine go ?_;obtain ⟨o30,ho30,H⟩:=bnd H;refine L0 a0 x22 [] 0 _ ho30 _ rfl _ tt0 e0 b1 b3 b5 ?_ ?_ _ _ _ .Ya S hX hF
   ·intro Qhh he T32 s33 t34 e31v0 tT hX hF;have he:=he.symm;subst he;refine go ?_;refine st hF 1 rfl fun s35 hF=>?_;refine go ?_;have e:=pur H;subst e;exact rg _ ⟨_,rfl,hX,K3 _⟩
   ·trivial
  ·have hF:=hF.nil 26 5;refine go ?_;obtain ⟨o50,ho50,H⟩:=bnd H;refine L1 a0 [] 0 _ ho50 _ rfl _ tt0 e0 b1 b3 b5 ?_ ?_ _ _ _ .Ya S hX hF
   ·intro Qhi he T52 s53 t54 e51v0 tT hX hF;have he:=he.symm;subst he;refine go ?_;refine st hF 1 rfl fun s55 hF=>?_;refine go ?_;have e:=pur H;subst e;exact rg _ ⟨_,rfl,hX,K3 _⟩
   ·trivial
 ·intro Yw YD C0 L1 a0 X5 Hs out H c hc Q tt0 e0 b1 b3 b5 hE hR T ss tt z0v0 tT hX hF;refine lpy hc rfl fun q=>go ?_;refine cdp H (fun h H=>?_) (fun h H=>?_)
  ·obtain ⟨x29,f1,H⟩:=bil (g:=KY) Fm.X6 H;refine go1 ?_;refine X8 hF rfl fun b36 s37 hF=>?_;refine go ?_;refine st hF 0 rfl fun s38 hF=>?_;refine go ?_;obtain ⟨E,hEq⟩:∃E,E=EE s38 [e0]:=⟨_,rfl⟩
   have n39:¬E b36:=by rw [hEq];exact K5 (hF.at 0 rfl) (nm1 (neX hF 0 rfl hX 0 rfl))
   have n40:¬E b5:=by rw [hEq];exact K5 (hF.at 1 rfl) (nm1 (neX hF 1 rfl hX 0 rfl))
   have n41:¬E b3:=by rw [hEq];exact K5 (hF.at 2 rfl) (nm1 (neX hF 2 rfl hX 0 rfl))
   have n42:¬E b1:=by rw [hEq];exact K5 (hF.at 3 rfl) (nm1 (neX hF 3 rfl hX 0 rfl))
   refine Ye E [.v,.v,.v,.v,.x,.v,.x,.v,.z] (by kernel_rfl) ?_;have z:=K2 (X4 (hF.at 0 rfl) n39) (K2 (X4 (hF.at 1 rfl) n40) (K2 (X4 (hF.at 2 rfl) n41) (X4 (hF.at 3 rfl) n42)));refine gh ?_;obtain ⟨x35,hx35,H⟩:=bnd H;refine cx (C0 x29 _ hx35 e0  _ (pre 0 1 0 hF hX)) ?_;rintro _ s43 ⟨t44,rfl,hT,hG⟩
   refine VM (Fx.kept hT hG (by intro p hp;simp only [List.mem_cons,List.not_mem_nil,or_false] at hp<;>first | (rcases hp with rfl<;>(rw [hEq];first | (refine EE.of ?_;simp;done) | exact EE.new rfl))| cases hp)) fun kp46=>?_
   obtain ⟨t45,hX,hF⟩:=aft 0 1 0 hF hX hT hG;have z:=K2 (X4 (hF.at 0 rfl) n39) (K2 (X4 (hF.at 1 rfl) n40) (K2 (X4 (hF.at 2 rfl) n41) (X4 (hF.at 3 rfl) n42)));refine gh ?_;refine Pn (g:=KY) hF 0 H (rdo (c:=true) (g:=KY) Fm.X6) fun x37 H v47 s48 hF=>?_;have z:=K2 (X4 (hF.at 0 rfl) n39) (K2 (X4 (hF.at 1 rfl) n40) (K2 (X4 (hF.at 2 rfl) n41) (X4 (hF.at 3 rfl) n42)));refine gh ?_;refine st hF 1 (hF.cells 0 rfl) fun s49 hF=>?_;have z:=K2 (X4 (hF.at 0 rfl) n39) (K2 (X4 (hF.at 1 rfl) n40) (K2 (X4 (hF.at 2 rfl) n41) (X4 (hF.at 3 rfl) n42)));refine gh ?_;refine go ?_;exact L1 a0 x37 (i64.wrap (Hs+1)) _ H _ rfl Q tt0 e0 b1 b3 b5 hE hR _ _ _ v47 S hX (hF.drop 1 0)
  ·refine go ?_;exact wq (hE _ (pur H).symm _ _ _ z0v0 S hX hF)
 ·intro Yw YF C0 L0 a0 x22 X5 Hs out H c hc Q tt0 e0 b1 b3 b5 hE hR T ss tt z0v0 tT hX hF;refine lpy hc rfl fun q=>go ?_;refine cdp H (fun h H=>?_) (fun h H=>?_)
  ·obtain ⟨x29,f1,H⟩:=bil (g:=KY) Fm.X6 H;refine go1 ?_;refine X8 hF rfl fun b16 s17 hF=>?_;refine go ?_;refine st hF 0 rfl fun s18 hF=>?_;refine go ?_;obtain ⟨E,hEq⟩:∃E,E=EE s18 [e0]:=⟨_,rfl⟩
   have n19:¬E b16:=by rw [hEq];exact K5 (hF.at 0 rfl) (nm1 (neX hF 0 rfl hX 0 rfl))
   have n20:¬E b5:=by rw [hEq];exact K5 (hF.at 1 rfl) (nm1 (neX hF 1 rfl hX 0 rfl))
   have n21:¬E b3:=by rw [hEq];exact K5 (hF.at 2 rfl) (nm1 (neX hF 2 rfl hX 0 rfl))
   have n22:¬E b1:=by rw [hEq];exact K5 (hF.at 3 rfl) (nm1 (neX hF 3 rfl hX 0 rfl))
   refine Ye E [.v,.v,.v,.v,.x,.v,.x,.v,.z] (by kernel_rfl) ?_;have z:=K2 (X4 (hF.at 0 rfl) n19) (K2 (X4 (hF.at 1 rfl) n20) (K2 (X4 (hF.at 2 rfl) n21) (X4 (hF.at 3 rfl) n22)));refine gh ?_;obtain ⟨x35,hx35,H⟩:=bnd H;refine cx (C0 x29 _ hx35 e0  _ (pre 0 1 0 hF hX)) ?_;rintro _ s23 ⟨t24,rfl,hT,hG⟩
   refine VM (Fx.kept hT hG (by intro p hp;simp only [List.mem_cons,List.not_mem_nil,or_false] at hp<;>first | (rcases hp with rfl<;>(rw [hEq];first | (refine EE.of ?_;simp;done) | exact EE.new rfl))| cases hp)) fun kp26=>?_
   obtain ⟨tt25,hX,hF⟩:=aft 0 1 0 hF hX hT hG;have z:=K2 (X4 (hF.at 0 rfl) n19) (K2 (X4 (hF.at 1 rfl) n20) (K2 (X4 (hF.at 2 rfl) n21) (X4 (hF.at 3 rfl) n22)));refine gh ?_;refine Pn (g:=KY) hF 0 H (rdo (c:=true) (g:=KY) Fm.X6) fun x37 H v27 s28 hF=>?_;have z:=K2 (X4 (hF.at 0 rfl) n19) (K2 (X4 (hF.at 1 rfl) n20) (K2 (X4 (hF.at 2 rfl) n21) (X4 (hF.at 3 rfl) n22)));refine gh ?_;refine st hF 1 (hF.cells 0 rfl) fun s29 hF=>?_;have z:=K2 (X4 (hF.at 0 rfl) n19) (K2 (X4 (hF.at 1 rfl) n20) (K2 (X4 (hF.at 2 rfl) n21) (X4 (hF.at 3 rfl) n22)));refine gh ?_;refine go ?_;exact L0 a0 x22 x37 (i64.wrap (Hs+1)) _ H _ rfl Q tt0 e0 b1 b3 b5 hE hR _ _ _ v27 S hX (hF.drop 1 0)
  ·refine go ?_;exact wq (hE _ (pur H).symm _ _ _ z0v0 S hX hF)
theorem Nu:∀(a0:Fm) r,Cj a0=some r->Vr KZ 69 [.agg (KY a0)] (.tup [.agg (KY r.1),.bool r.2]):=by
 intro a0 r H;intro ss;unfold Cj at H;refine hdh mixed Tryz.func69 (rs:=[.cell 2 26,.tmp 3]) fun q tT hF hX=>?_;refine go ?_;refine X8 hF rfl fun b1 ss2 hF=>?_;refine go ?_;refine X8 hF rfl fun b3 ss4 hF=>?_;refine go ?_;refine bp H (GP a0) fun x5 h H=>cl h ?_;refine go ?_;refine cdb H (fun h H=>?_) (fun h H=>?_)
 ·refine go ?_;refine st hF 0 rfl fun ss5 hF=>?_;refine go ?_;have e:=pur H;subst e;exact rt _
 ·refine go ?_;refine bp H (CC a0) fun x9 h H=>cl h ?_;refine go ?_;refine st hF 0 rfl fun ss6 hF=>?_;refine go ?_;have e:=pur H;subst e;exact rt _
theorem IE:∀(a0:Fm) (a1 c0:Int) r,VA a0 a1 c0=some r->∀(e0:Nat)  (ss:Sto),Pre ss [(e0,⟨3,1,[i6 c0]⟩)] []->Ctr KZ 37 [.agg (KY a0),i6 a1,.fn 38 [.ptr e0 0]] ss (fun r' ss'=>∃(tt':Sto),r'=.tup [.agg (KY r.1),.bool r.2]/\Tau (strip ss []) [(e0,⟨3,1,[i6 c0]⟩)] tt'/\Fx tt' ss' [] []):=by
 intro a0 a1 c0 r H;intro e0  ss hP;unfold VA at H;refine hdg mixed Tryz.func37 (rs:=[.cell 6 26,.tmp 7]) fun q tT=>?_;obtain ⟨hF,hX⟩:=hP.start;generalize strip ss []=tt0 at hF hX ⊢;refine go ?_;refine X8 hF rfl fun b1 ss2 hF=>?_;refine go ?_;refine X8 hF rfl fun b3 ss4 hF=>?_;refine go ?_;refine bp H (GP a0) fun x9 h H=>cl h ?_;refine go ?_;obtain ⟨x15,g5,H⟩:=bnd H;refine Yb 3 12 15 (.bool x15) (giN q (fun q=>?_) (fun q=>?_)) (fun J=>?_)
 ·rw [if_neg (dbf q)] at g5;refine go ?_;obtain ⟨x13,hx13,g5⟩:=bnd g5;refine cl (Is a1 1 99 _ hx13) ?_;refine go ?_;exact Yt 12 g5
 ·rw [if_pos (dbt q)] at g5;refine go ?_;exact Yt 12 g5
 refine go ?_;refine cdb H (fun h H=>?_) (fun h H=>?_)
 ·refine go ?_;refine st hF 0 rfl fun s7 hF=>?_;refine go ?_;have e:=pur H;subst e;exact rg _ ⟨_,rfl,hX,K3 _⟩
 ·refine go ?_;obtain ⟨x19,hx19,H⟩:=bnd H;refine cx (IY a0 c0 _ hx19 e0  _ (pre 0 1 0 hF hX)) ?_;rintro _ s8 ⟨tt9,rfl,hT,hG⟩;obtain ⟨t10,hX,hF⟩:=aft 0 1 0 hF hX hT hG;refine go ?_;refine bp H (Nu x19) fun x20 h H=>cl h ?_;refine go ?_;refine st hF 0 rfl fun s11 hF=>?_;refine go ?_;have e:=pur H;subst e;exact rg _ ⟨_,rfl,hX,K3 _⟩
theorem E7:∀(a0:Fm) (a1:Int) r,Io a0 a1=some r->Vr KZ 14 [.agg (KY a0),i6 a1] (.tup [.agg (KY r.1),.bool r.2]):=by
 intro a0 a1 r H;intro ss;unfold Io at H;refine hdh mixed Tryz.func14 (rs:=[.cell 4 26,.tmp 5]) fun q tT hF hX=>?_;refine go ?_;refine X8 hF rfl fun b1 ss2 hF=>?_;refine go ?_;refine X8 hF rfl fun b3 ss4 hF=>?_;refine go ?_;refine X8 hF rfl fun b5 ss6 hF=>?_;refine go ?_;have hF:=pck hF [1,0,2] [];obtain ⟨x9,hx9,H⟩:=bnd H;refine cx (IE a0 a1 a1 _ hx9 b3  _ (pre 1 0 0 hF hX)) ?_;rintro _ s7 ⟨t8,rfl,hT,hG⟩;have hF:=DB 1 0 hF hX hT hG;refine go ?_;refine st hF 1 rfl fun s10 hF=>?_;refine go ?_;have e:=pur H;subst e;exact rt _
theorem D2:∀(a0:Fm) (c0:List Int) r,Iz a0 c0=some r->∀(e0:Nat) (RN:AV) (ss:Sto),Pre ss [(e0,⟨23,1,[RN]⟩)] [⟨RN,3,1,rws cI c0⟩]->Ctr KZ 40 [.agg (KY a0),.ptr e0 0] ss (fun r' ss'=>∃(tt':Sto) (Qhv:AV),r'=.tup []/\Tau (strip ss [⟨RN,3,1,rws cI c0⟩]) [(e0,⟨23,1,[Qhv]⟩)] tt'/\Fx tt' ss' [] [⟨Qhv,3,1,rws cI r⟩]):=by
 intro a0 c0 r H;intro e0 RN ss hP;unfold Iz at H;refine hdg mixed Tryz.func40 (rs:=[]) fun q tT=>?_;obtain ⟨hF,hX⟩:=hP.start;generalize strip ss [⟨RN,3,1,rws cI c0⟩]=tt0 at hF hX ⊢;refine go ?_;refine X8 hF rfl fun b1 ss2 hF=>?_;refine go ?_;refine apd (g:=cI) hF 0 H (rdo (c:=false) (g:=cI) (fun _=>rfl)) fun x6 H v3 ss4 hF=>?_;refine go ?_;refine stT hF hX 0 (hF.cells 0 rfl) fun t6 ss5 hF hX=>?_;refine go ?_;have e:=pur H;subst e;exact rg _ ⟨_,_,rfl,hX,hF.pick [] [0] (by decide) (by decide)⟩
theorem IZ:∀(a0:Fm) (c0:List Int) r,YN a0 c0=some r->∀(e0:Nat) (RN:AV) (ss:Sto),Pre ss [(e0,⟨23,1,[RN]⟩)] [⟨RN,3,1,rws cI c0⟩]->Ctr KZ 26 [.agg (KY a0),.fn 40 [.ptr e0 0]] ss (fun r' ss'=>∃(tt':Sto) (Qhv:AV),r'=.tup []/\Tau (strip ss [⟨RN,3,1,rws cI c0⟩]) [(e0,⟨23,1,[Qhv]⟩)] tt'/\Fx tt' ss' [] [⟨Qhv,3,1,rws cI r⟩]):=by
 refine YN.partial_correctness _ (motive_2:=fun a0 X5 Wi out=>∀c,Yf Tryz.f26 0=some c->∀(Q:QT) (tt0:Sto) (e0 b1:Nat),(∀(YT:List Int),out=YT->∀(T:TT) (ss tt:Sto) (e0v0:AV),0+0=0->Tau tt0 [(e0,⟨23,1,[e0v0]⟩)] tt->Fx tt ss [(b1,⟨26,5,[i6 a0.kind,.str a0.name,i6 a0.num,sf cI a0.sc,sf KY a0.kids]⟩)] [⟨e0v0,3,1,rws cI YT⟩]->Q (.ex 0) ⟨T,ss⟩)->True->∀(T:TT) (ss tt:Sto) (z0v0:AV),T 1=.fn 40 [.ptr e0 0]/\T 10=sf KY a0.kids/\T 11=i6 (a0.kids.length:Int)/\T 12=i6 Wi->Tau tt0 [(e0,⟨23,1,[z0v0]⟩)] tt->Fx tt ss [(b1,⟨26,5,[i6 a0.kind,.str a0.name,i6 a0.num,sf cI a0.sc,sf KY a0.kids]⟩)] [⟨z0v0,3,1,rws cI X5⟩]->aLp KZ c Q ⟨T,ss⟩) ?_ ?_
 ·intro YG L0 a0 c0 r H;intro e0 RN ss hP;refine hdg mixed Tryz.func26 (rs:=[]) fun q tT=>?_;obtain ⟨hF,hX⟩:=hP.start;generalize strip ss [⟨RN,3,1,rws cI c0⟩]=tt0 at hF hX ⊢;refine go ?_;refine X8 hF rfl fun b1 ss2 hF=>?_;refine go ?_;obtain ⟨x8,hx8,H⟩:=bnd H;refine cx (D2 a0 c0 _ hx8 e0 RN _ (pre 0 1 1 hF hX)) ?_;rintro _ ss4 ⟨tt5,v3,rfl,hT,hG⟩;obtain ⟨t6,hX,hF⟩:=aft 0 1 1 hF hX hT hG;refine go ?_;obtain ⟨o14,ho14,H⟩:=bnd H;refine L0 a0 x8 0 _ ho14 _ rfl _ tt0 e0 b1 ?_ ?_ _ _ _ v3 S hX hF
  ·intro AB he T16 s17 t18 e15v0 tT hX hF;have he:=he.symm;subst he;refine go ?_;have e:=pur H;subst e;exact rg _ ⟨_,_,rfl,hX,hF.pick [] [0] (by decide) (by decide)⟩
  ·trivial
 ·intro YN YG C0 L0 a0 X5 Wi out H c hc Q tt0 e0 b1 hE hR T ss tt z0v0 tT hX hF;refine lpy hc rfl fun q=>go ?_;refine cdp H (fun h H=>?_) (fun h H=>?_)
  ·obtain ⟨x14,f1,H⟩:=bil (g:=KY) Fm.X6 H;refine go1 ?_;refine X8 hF rfl fun b7 s8 hF=>?_;refine go ?_;refine st hF 0 rfl fun s9 hF=>?_;refine go ?_;obtain ⟨x18,hx18,H⟩:=bnd H;refine cx (C0 x14 X5 _ hx18 e0 z0v0 _ (pre 0 1 1 hF hX)) ?_;rintro _ s11 ⟨t12,v10,rfl,hT,hG⟩;obtain ⟨t13,hX,hF⟩:=aft 0 1 1 hF hX hT hG;refine go ?_;exact L0 a0 x18 (i64.wrap (Wi+1)) _ H _ rfl Q tt0 e0 b1 hE hR _ _ _ v10 S hX (hF.drop 1 0)
  ·refine go ?_;exact wq (hE _ (pur H).symm _ _ _ z0v0 S hX hF)
theorem La:∀(a0:Fm) r,I8 a0=some r->Vr KZ 15 [.agg (KY a0)] (sf cI r):=by
 intro a0 r H;intro ss;unfold I8 at H;refine hdh mixed Tryz.func15 (rs:=[.tmp 2]) fun q tT hF hX=>?_;refine go ?_;refine X8 hF rfl fun b1 ss2 hF=>?_;refine go ?_;refine X8 hF rfl fun b3 ss4 hF=>?_;refine go ?_;refine st hF 0 rfl fun ss5 hF=>?_;refine go ?_;refine bp H (GP a0) fun x6 h H=>cl h ?_;refine go ?_;refine cdb H (fun h H=>?_) (fun h H=>?_)
 ·refine go ?_;have e:=pur H;subst e;exact rt _
 ·have hF:=hF.lit 3 1 (rws cI []) rfl;refine go ?_;obtain ⟨x11,hx11,H⟩:=bnd H;refine cx (IZ a0 [] _ hx11 b3 (.sl true (rws cI [])) _ (pre 1 0 1 hF hX)) ?_;rintro _ s7 ⟨t8,v6,rfl,hT,hG⟩;have hF:=DB 1 1 hF hX hT hG;refine go ?_;obtain ⟨x13,hx13,H⟩:=bnd H;refine Qdh Qng hF 0 rfl hx13 fun s10 hF=>?_;refine go ?_;obtain ⟨x15,hx15,H⟩:=bnd H;refine Qbu Qlq hF 0 rfl hx15 fun v12 s11 hF=>?_;refine go ?_;have e:=pur H;subst e;exact rt _
theorem Mp:∀(a0:List Int) (a1 Yh:Int) out,Gd a0 a1 Yh=some out->∀c,Yf Tryz.f10 0=some c->∀(Q:QT) (tt:Sto),(∀(_u:Unit),out=Sum.inr ()->∀(T:TT) (ss:Sto),0+0=0->Fx tt ss [] []->Q (.ex 0) ⟨T,ss⟩)->(∀r,out=Sum.inl r->∀s',Aj KZ [.tmp 4] (fun r' ss'=>r'=.bool r/\ss'=tt) s'->Q .ret s')->∀(T:TT) (ss:Sto),T 0=sf cI a0/\T 1=i6 a1/\T 5=i6 Yh->Fx tt ss [] []->aLp KZ c Q ⟨T,ss⟩:=by
 intro a0 a1 Yh;revert Yh;refine Gd.partial_correctness a0 a1 _ ?_;intro Gd IH Yh out H c hc Q tt  hE hR T ss tT hF;refine lpx tt hc rfl fun q hX=>go ?_;refine cdp H (fun h H=>?_) (fun h H=>?_)
 ·obtain ⟨x14,f1,H⟩:=bil (g:=cI) (fun _=>rfl) H;refine go1 ?_;refine go ?_;refine cdp H (fun h H=>?_) (fun h H=>?_)
  ·refine go ?_;exact wq (hR _ (pur H).symm _ (rt _))
  ·refine go ?_;exact IH  (i64.wrap (Yh+1)) _ H _ rfl Q tt  hE hR _ _  S hF
 ·refine go ?_;exact wq (hE () (pur H).symm _ _  S hF)
theorem P1:∀(a0:List Int) (a1:Int) r,A4 a0 a1=some r->Vr KZ 10 [sf cI a0,i6 a1] (.bool r):=by
 intro a0 a1 r H;intro ss;unfold A4 at H;refine hdh mixed Tryz.func10 (rs:=[.tmp 4]) fun q tT hF hX=>?_;refine go ?_;obtain ⟨o1,ho1,H⟩:=bnd H;refine Mp a0 a1 0 _ ho1 _ rfl _ _  ?_ ?_ _ _  S hF
 ·intro _ he T3 ss4 tT hF;have he:=he.symm;subst he
  try dsimp only at H
  refine go ?_;have e:=pur H;subst e;exact rt _
 ·intro r hr s' hs;subst hr;have e:=pur H;subst e;exact hsq hs
theorem B7:∀(a0:List Int) r,Gc a0=some r->Vr KZ 4 [sf cU a0] (.bool r):=by
 intro a0 r H;intro ss;unfold Gc at H;refine hdh mixed Tryz.func4 (rs:=[.tmp 2]) fun q tT hF hX=>?_;refine go ?_;refine cdp H (fun h H=>?_) (fun h H=>?_)
 ·refine go ?_;have e:=pur H;subst e;exact rt _
 ·refine go ?_;refine bp H (A7 a0) fun x12 h H=>cl h ?_;refine go ?_;refine X8 hF rfl fun b1 ss2 hF=>?_;refine go ?_;refine st hF 0 rfl fun ss3 hF=>?_;refine go ?_;refine bp H (I7 x12) fun x14 h H=>cl h ?_;refine go ?_;refine bp H (Cu x12) fun x17 h H=>cl h ?_;refine go ?_;refine bp H (Mo x14 x17) fun x18 h H=>cl h ?_;refine go ?_;refine cdb H (fun h H=>?_) (fun h H=>?_)
  ·refine go ?_;have e:=pur H;subst e;exact rt _
  ·refine go ?_;refine bp H (GP x12.res) fun x22 h H=>cl h ?_;refine go ?_;obtain ⟨x27,g4,H⟩:=bnd H;refine Yb 3 24 27 (.bool x27) (gi q (fun q=>?_) (fun q=>?_)) (fun J=>?_)
   ·refine go ?_;exact Yt 24 g4
   ·refine go ?_;exact Yt 24 g4
   refine go ?_;obtain ⟨x32,g6,H⟩:=bnd H;refine Yb 3 29 32 (.bool x32) (gi q (fun q=>?_) (fun q=>?_)) (fun J=>?_)
   ·refine go ?_;exact Yt 29 g6
   ·refine go ?_;exact Yt 29 g6
   refine go ?_;refine cdb H (fun h H=>?_) (fun h H=>?_)
   ·refine go ?_;refine bp H (E7 x12.res x12.scope) fun x38 h H=>cl h ?_;refine go ?_;refine X8 hF rfl fun b8 s9 hF=>?_;refine go ?_;refine st hF 0 rfl fun s10 hF=>?_;refine go ?_;obtain ⟨x45,hx45,H⟩:=bnd H;refine cl (I7 (Stp.mk 0 0 x12.scope (Fm.mk 0 zB 0 [] []) x38.1) _ hx45) ?_;refine go ?_;refine Ye E0 [.v,.v,.v,.v,.v,.v,.v,.v,.v,.v,.v,.v,.v,.v,.v,.v,.v,.v,.v] (by kernel_rfl) ?_;refine go ?_;obtain ⟨x51,g11,H⟩:=bnd H;refine Jb 3 48 51 (.bool x51) (ti q (fun q=>?_) (fun q=>?_)) (fun J=>?_)
    ·refine go ?_;exact Yt 48 g11
    ·refine go ?_;exact Yt 48 g11
    refine go ?_;obtain ⟨x63,g13,H⟩:=bnd H;refine Jb 10 53 63 (.bool x63) (ti q (fun q=>?_) (fun q=>?_)) (fun J=>?_)
    ·rw [if_pos (dbt q)] at g13;refine go ?_;obtain ⟨x58,hx58,g13⟩:=bnd g13;refine cv (La x12.res _ hx58) ?_;refine go ?_;obtain ⟨x61,hx61,g13⟩:=bnd g13;refine cv (P1 x58 x12.scope _ hx61) ?_;refine go ?_;exact Yt 53 g13
    ·rw [if_neg (dbf q)] at g13;refine go ?_;exact Yt 53 g13
    refine go ?_;have e:=pur H;subst e;exact rt _
   ·refine go ?_;have e:=pur H;subst e;exact rt _
end Go.Proofs.SA
