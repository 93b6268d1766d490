/- Printed by a program of mine: the plain functions that the code computes (D), and the walks that show it (W). -/
import Derived.Test.YtiiamkelehfnoaaGreatGx
import Derived.Test.YtiiamkelehfnoaaGreatSaTy
import Derived.Test.YtiiamkelehfnoaaGreatLg
import Derived.Test.YtiiamkelehfnoaaGreatChecked
import Derived.Lib.Strings
import Derived.Lib.Slices
import Derived.Lib.Walk
import Derived.Lib.Bytealg
import Derived.Test.YtiiamkelehfnoaaGreatmeD
import Derived.Test.YtiiamkelehfnoaaGreatmeW1
set_option maxRecDepth 100000
set_option maxHeartbeats 2000000
set_option linter.unusedSimpArgs false
set_option linter.unusedVariables false
open Go Go.Proofs Go.Proofs.Shadow
open Fm renaming cells → KY
open Tryz renaming prog → KZ, func92 → ZI
open _root_.Int renaming toNat_natCast → Kl, reduceEq → ZF
open _root_.Nat renaming reduceEqDiff → ZA, reduceLeDiff → ZB, reduceAdd → ZC, reduceMul → ZD, reduceLT → ZE
open Bnd renaming cells → K0
open Fx renaming refl → K2, self → K4
open Mac renaming cells → Zc
open Rul renaming cells → K5
open _root_.ByteArray renaming mk → Qk
open _root_.And renaming intro → K3
open Xpn renaming cells → K8
open Go.IntKind (i64)
namespace Go.Proofs.SA
theorem Mh:(∀(a0 a1:Fm) r,Jz a0 a1=some r->VK KZ 12 [.agg (KY a0),.agg (KY a1)] (.bool r))/\(∀(a0 a1:List Fm) r,YR a0 a1=some r->VK KZ 35 [sf KY a0,sf KY a1,.fn 12 []] (.bool r)):=by
 have h:=Jz.mutual_partial_correctness  (motive_1:=fun a0 a1 r=>VK KZ 12 [.agg (KY a0),.agg (KY a1)] (.bool r)) (motive_2:=fun a0 a1 r=>VK KZ 35 [sf KY a0,sf KY a1,.fn 12 []] (.bool r)) (motive_3:=fun a0 a1 G6 out=>∀c,Yg Tryz.f35 0=some c->∀(Q:QT) (tt:Sto),(∀(_u:Unit),out=Sum.inr ()->∀(T:TT) (σ:Sto),0+0=0->Fx tt σ [] []->Q (.ex 0) ⟨T,σ⟩)->(∀r,out=Sum.inl r->∀s',I7 KZ [.tmp 6] (fun r' ss'=>r'=.bool r/\ss'=tt) s'->Q .ret s')->∀(T:TT) (σ:Sto),T 1=sf KY a1/\T 2=.fn 12 []/\T 15=sf KY a0/\T 16=i6 (a0.length:Int)/\T 17=i6 G6->Fx tt σ [] []->aLp KZ c Q ⟨T,σ⟩) ?s0 ?s1 ?s2
 ·exact ⟨h.1,h.2.1⟩
 ·intro YR C1 a0 a1 r H;intro σ;refine hdg mixed Tryz.func12 (rs:=[.tmp 4]) fun q tT=>?_;have hF:=K2 σ;have hX:=Tau.none σ;refine go ?_;refine Ya hF rfl fun b1 ss2 hF=>?_;refine go ?_;refine Ya hF rfl fun b3 ss4 hF=>?_;refine go ?_;obtain ⟨x16,g5,H⟩:=bnd H;refine Yc 5 11 16 (.bool x16) (gi q (fun q=>?_) (fun q=>?_)) (fun J=>?_)
  ·refine go ?_;exact Yr 11 g5
  ·refine go ?_;exact Yr 11 g5
  refine go ?_;obtain ⟨x23,g7,H⟩:=bnd H;refine Yc 5 18 23 (.bool x23) (gi q (fun q=>?_) (fun q=>?_)) (fun J=>?_)
  ·refine go ?_;exact Yr 18 g7
  ·refine go ?_;exact Yr 18 g7
  refine go ?_;obtain ⟨x30,g9,H⟩:=bnd H;refine Yc 5 25 30 (.bool x30) (gi q (fun q=>?_) (fun q=>?_)) (fun J=>?_)
  ·rw [if_pos (dbt q)] at g9;refine go ?_;obtain ⟨x29,hx29,g9⟩:=bnd g9;refine cl (A9 a0.sc a1.sc _ hx29) ?_;refine go ?_;exact Yr 25 g9
  ·rw [if_neg (dbf q)] at g9;refine go ?_;exact Yr 25 g9
  refine go ?_;obtain ⟨x37,g11,H⟩:=bnd H;refine Yc 5 32 37 (.bool x37) (gi q (fun q=>?_) (fun q=>?_)) (fun J=>?_)
  ·rw [if_pos (dbt q)] at g11;refine go ?_;obtain ⟨x36,hx36,g11⟩:=bnd g11;refine cl (C1 a0.kids a1.kids _ hx36) ?_;refine go ?_;exact Yr 32 g11
  ·rw [if_neg (dbf q)] at g11;refine go ?_;exact Yr 32 g11
  refine go ?_;have e:=pur H;subst e;exact rt _
 ·intro Yp L0 a0 a1 r H;intro σ;refine hdg mixed Tryz.func35 (rs:=[.tmp 6]) fun q tT=>?_;have hF:=K2 σ;have hX:=Tau.none σ;refine go ?_;refine cdn H (fun h H=>?_) (fun h H=>?_)
  ·refine go ?_;have e:=pur H;subst e;exact rt _
  ·refine go ?_;obtain ⟨o7,ho7,H⟩:=bnd H;refine L0 a0 a1 0 _ ho7 _ rfl _ _  ?_ ?_ _ _  S hF
   ·intro _ he T9 s10 tT hF;have he:=he.symm;subst he
    try dsimp only at H
    refine go ?_;have e:=pur H;subst e;exact rt _
   ·intro r hr s' hs;subst hr;have e:=pur H;subst e;exact hsq hs
 ·intro Jz Yp C0 L0 a0 a1 G6 out H c hc Q tt  hE hR T σ tT hF;refine lpx tt hc rfl fun q hX=>go ?_;refine cdp H (fun h H=>?_) (fun h H=>?_)
  ·obtain ⟨x20,f1,H⟩:=bil (g:=KY) Fm.X7 H;refine go1 ?_;refine Ya hF rfl fun b1 ss2 hF=>?_;refine go ?_;refine st hF 0 rfl fun ss3 hF=>?_;obtain ⟨x24,f1,H⟩:=bil (g:=KY) Fm.X7 H;refine go1 ?_;refine Ya hF rfl fun b4 ss5 hF=>?_;refine go ?_;refine st hF 0 rfl fun ss6 hF=>?_;refine go ?_;obtain ⟨x29,hx29,H⟩:=bnd H;refine cl (C0 x20 x24 _ hx29) ?_;refine go ?_;refine cdb H (fun h H=>?_) (fun h H=>?_)
   ·refine go ?_;exact wq (hR _ (pur H).symm _ (rt _))
   ·refine go ?_;exact L0 a0 a1 (i64.wrap (G6+1)) _ H _ rfl Q tt  hE hR _ _  S (hF.drop 2 0)
  ·refine go ?_;exact wq (hE () (pur H).symm _ _  S hF)
theorem D5:∀(a0 a1:Fm) r,Jz a0 a1=some r->VK KZ 12 [.agg (KY a0),.agg (KY a1)] (.bool r):=Mh.1
theorem OD:∀(a0 c0:Fm) r,BF a0 c0=some r->∀(e0:Nat)  (σ:Sto),Pre σ [(e0,⟨26,5,[i6 c0.kind,.str c0.name,i6 c0.num,sf cI c0.sc,sf KY c0.kids]⟩)] []->Ctr KZ 61 [.agg (KY a0),.ptr e0 0] σ (fun r' ss'=>∃(tt':Sto),r'=.bool r/\Tau (strip σ []) [(e0,⟨26,5,[i6 c0.kind,.str c0.name,i6 c0.num,sf cI c0.sc,sf KY c0.kids]⟩)] tt'/\Fx tt' ss' [] []):=by
 intro a0 c0 r H;intro e0  σ hP;unfold BF at H;refine hdg mixed Tryz.func61 (rs:=[.tmp 3]) fun q tT=>?_;obtain ⟨hF,hX⟩:=hP.start;generalize strip σ []=tt0 at hF hX ⊢;refine go ?_;refine Ya hF rfl fun b1 ss2 hF=>?_;refine go ?_;refine bp H (D5 a0 c0) fun x6 h H=>cl h ?_;refine go ?_;have e:=pur H;subst e;exact rg _ ⟨_,rfl,hX,K4 _⟩
theorem HO:∀(a0:List Fm) (c0:Fm) (Yh:Int) out,Yy a0 c0 Yh=some out->∀c,Yg Tryz.f92 0=some c->∀(Q:QT) (tt0:Sto) (e0:Nat),(∀(_u:Unit),out=Sum.inr ()->∀(T:TT) (σ tt:Sto),0+0=0->Tau tt0 [(e0,⟨26,5,[i6 c0.kind,.str c0.name,i6 c0.num,sf cI c0.sc,sf KY c0.kids]⟩)] tt->Fx tt σ [] []->Q (.ex 0) ⟨T,σ⟩)->(∀r,out=Sum.inl r->∀s',I7 KZ [.tmp 4] (fun r' ss'=>∃(tt':Sto),r'=i6 r/\Tau tt0 [(e0,⟨26,5,[i6 c0.kind,.str c0.name,i6 c0.num,sf cI c0.sc,sf KY c0.kids]⟩)] tt'/\Fx tt' ss' [] []) s'->Q .ret s')->∀(T:TT) (σ tt:Sto),T 0=sf KY a0/\T 1=.fn 61 [.ptr e0 0]/\T 7=i6 (a0.length:Int)/\T 8=i6 Yh->Tau tt0 [(e0,⟨26,5,[i6 c0.kind,.str c0.name,i6 c0.num,sf cI c0.sc,sf KY c0.kids]⟩)] tt->Fx tt σ [] []->aLp KZ c Q ⟨T,σ⟩:=by
 intro a0 c0 Yh;revert Yh;refine Yy.partial_correctness a0 c0 _ ?_;intro Yy IH Yh out H c hc Q tt0 e0 hE hR T σ tt tT hX hF;refine lpy hc rfl fun q=>go ?_;refine cdp H (fun h H=>?_) (fun h H=>?_)
 ·obtain ⟨x14,f1,H⟩:=bil (g:=KY) Fm.X7 H;refine go1 ?_;obtain ⟨x16,hx16,H⟩:=bnd H;refine cx (OD x14 c0 _ hx16 e0  _ (pre 0 1 0 hF hX)) ?_;rintro _ ss1 ⟨tt2,rfl,hT,hG⟩;obtain ⟨tt3,hX,hF⟩:=aft 0 1 0 hF hX hT hG;refine go ?_;refine cdb H (fun h H=>?_) (fun h H=>?_)
  ·refine go ?_;exact wq (hR _ (pur H).symm _ (rg _ ⟨_,rfl,hX,K4 _⟩))
  ·refine go ?_;exact IH  (i64.wrap (Yh+1)) _ H _ rfl Q tt0 e0 hE hR _ _ _  S hX hF
 ·refine go ?_;exact wq (hE () (pur H).symm _ _ _  S hX hF)
theorem Ir:∀(a0:List Fm) (c0:Fm) r,VD a0 c0=some r->∀(e0:Nat)  (σ:Sto),Pre σ [(e0,⟨26,5,[i6 c0.kind,.str c0.name,i6 c0.num,sf cI c0.sc,sf KY c0.kids]⟩)] []->Ctr KZ 92 [sf KY a0,.fn 61 [.ptr e0 0]] σ (fun r' ss'=>∃(tt':Sto),r'=i6 r/\Tau (strip σ []) [(e0,⟨26,5,[i6 c0.kind,.str c0.name,i6 c0.num,sf cI c0.sc,sf KY c0.kids]⟩)] tt'/\Fx tt' ss' [] []):=by
 intro a0 c0 r H;intro e0  σ hP;unfold VD at H;refine hdg mixed ZI (rs:=[.tmp 4]) fun q tT=>?_;obtain ⟨hF,hX⟩:=hP.start;generalize strip σ []=tt0 at hF hX ⊢;refine go ?_;obtain ⟨o4,ho4,H⟩:=bnd H;refine HO a0 c0 0 _ ho4 _ rfl _ tt0 e0 ?_ ?_ _ _ _  S hX hF
 ·intro _ he T6 s7 t8 tT hX hF;have he:=he.symm;subst he
  try dsimp only at H
  refine go ?_;have e:=pur H;subst e;exact rg _ ⟨_,rfl,hX,K4 _⟩
 ·intro r hr s' hs;subst hr;have e:=pur H;subst e;exact hsq hs
theorem HM:∀(a0:List Fm) (c0:Fm) r,Vp a0 c0=some r->∀(e0:Nat)  (σ:Sto),Pre σ [(e0,⟨26,5,[i6 c0.kind,.str c0.name,i6 c0.num,sf cI c0.sc,sf KY c0.kids]⟩)] []->Ctr KZ 60 [sf KY a0,.fn 61 [.ptr e0 0]] σ (fun r' ss'=>∃(tt':Sto),r'=.bool r/\Tau (strip σ []) [(e0,⟨26,5,[i6 c0.kind,.str c0.name,i6 c0.num,sf cI c0.sc,sf KY c0.kids]⟩)] tt'/\Fx tt' ss' [] []):=by
 intro a0 c0 r H;intro e0  σ hP;unfold Vp at H;refine hdg mixed Tryz.func60 (rs:=[.tmp 4]) fun q tT=>?_;obtain ⟨hF,hX⟩:=hP.start;generalize strip σ []=tt0 at hF hX ⊢;refine go ?_;obtain ⟨x7,hx7,H⟩:=bnd H;refine cx (Ir a0 c0 _ hx7 e0  _ (pre 0 1 0 hF hX)) ?_;rintro _ ss1 ⟨tt2,rfl,hT,hG⟩;obtain ⟨tt3,hX,hF⟩:=aft 0 1 0 hF hX hT hG;refine go ?_;have e:=pur H;subst e;exact rg _ ⟨_,rfl,hX,K4 _⟩
theorem Ex:∀(a0:List Fm) (a1:Fm) r,A3 a0 a1=some r->VK KZ 29 [sf KY a0,.agg (KY a1)] (.bool r):=by
 intro a0 a1 r H;intro σ;unfold A3 at H;refine hdg mixed Tryz.func29 (rs:=[.tmp 4]) fun q tT=>?_;have hF:=K2 σ;have hX:=Tau.none σ;refine go ?_;refine Ya hF rfl fun b1 ss2 hF=>?_;refine go ?_;obtain ⟨x7,hx7,H⟩:=bnd H;refine cx (HM a0 a1 _ hx7 b1  _ (pre 1 0 0 hF hX)) ?_;rintro _ ss3 ⟨tt4,rfl,hT,hG⟩;have hF:=DL 1 0 hF hX hT hG;refine go ?_;have e:=pur H;subst e;exact rt _
theorem Ey:∀(a0:List Fm) (Ym:Int) out,V7 a0 Ym=some out->∀c,Yg Tryz.f116 0=some c->∀(Q:QT) (tt:Sto),(∀(_u:Unit),out=Sum.inr ()->∀(T:TT) (σ:Sto),T 0=sf KY a0->Fx tt σ [] []->Q (.ex 0) ⟨T,σ⟩)->(∀r,out=Sum.inl r->∀s',I7 KZ [.tmp 2] (fun r' ss'=>r'=.bool r/\ss'=tt) s'->Q .ret s')->∀(T:TT) (σ:Sto),T 0=sf KY a0/\T 5=sf KY a0/\T 6=i6 (a0.length:Int)/\T 7=i6 Ym->Fx tt σ [] []->aLp KZ c Q ⟨T,σ⟩:=by
 intro a0 Ym;revert Ym;refine V7.partial_correctness a0 _ ?_;intro V7 IH Ym out H c hc Q tt  hE hR T σ tT hF;refine lpx tt hc rfl fun q hX=>go ?_;refine cdp H (fun h H=>?_) (fun h H=>?_)
 ·obtain ⟨x10,f1,H⟩:=bil (g:=KY) Fm.X7 H;refine go1 ?_;refine Ya hF rfl fun b1 ss2 hF=>?_;refine go ?_;refine st hF 0 rfl fun ss3 hF=>?_;refine go ?_;refine Yj E0 [.v,.v,.v,.v,.v,.v,.v,.v,.v,.v,.v,.v,.v,.v,.v,.v,.v,.v,.v,.v] (by kernel_rfl) ?_;refine go ?_;refine bp H (Ft x10) fun x13 h H=>cv h ?_;refine go ?_;obtain ⟨x19,g4,H⟩:=bnd H;refine VU 3 16 19 (.bool x19) (tiN q (fun q=>?_) (fun q=>?_)) (fun J=>?_)
  ·refine go ?_;exact Yr 16 g4
  ·refine go ?_;exact Yr 16 g4
  refine go ?_;obtain ⟨x24,g6,H⟩:=bnd H;refine VU 3 21 24 (.bool x24) (tiN q (fun q=>?_) (fun q=>?_)) (fun J=>?_)
  ·refine go ?_;exact Yr 21 g6
  ·refine go ?_;exact Yr 21 g6
  refine go ?_;obtain ⟨x31,g8,H⟩:=bnd H;refine VU 5 26 31 (.bool x31) (tiN q (fun q=>?_) (fun q=>?_)) (fun J=>?_)
  ·rw [if_neg (dbf q)] at g8;obtain ⟨x28,f1,g8⟩:=bls (g:=KY) Fm.X7 (lo:=none) (hi:=some (i6 Ym)) rfl rfl g8;refine go1 ?_;obtain ⟨x30,hx30,g8⟩:=bnd g8;refine cv (Ex x28 x10 _ hx30) ?_;refine go ?_;exact Yr 26 g8
  ·rw [if_pos (dbt q)] at g8;refine go ?_;exact Yr 26 g8
  refine go ?_;refine cdb H (fun h H=>?_) (fun h H=>?_)
  ·refine go ?_;exact wq (hR _ (pur H).symm _ (rt _))
  ·refine go ?_;exact IH  (i64.wrap (Ym+1)) _ H _ rfl Q tt  hE hR _ _  S (hF.drop 1 0)
 ·refine go ?_;exact wq (hE () (pur H).symm _ _  S hF)
theorem CQ:∀(a0:List Fm) r,HU a0=some r->VK KZ 116 [sf KY a0] (.bool r):=by
 intro a0 r H;intro σ;unfold HU at H;refine hdg mixed Tryz.func116 (rs:=[.tmp 2]) fun q tT=>?_;have hF:=K2 σ;have hX:=Tau.none σ;refine go ?_;obtain ⟨o10,ho10,H⟩:=bnd H;refine Ey a0 0 _ ho10 _ rfl _ _  ?_ ?_ _ _  S hF
 ·intro _ he T12 s13 tT hF;have he:=he.symm;subst he
  try dsimp only at H
  refine go ?_;have e:=pur H;subst e;exact rt _
 ·intro r hr s' hs;subst hr;have e:=pur H;subst e;exact hsq hs
theorem Hi:∀(a0:Fm) (a1:ByteArray) r,WA a0 a1=some r->VK KZ 166 [.agg (KY a0),.str a1] (.bool r):=by
 intro a0 a1 r H;intro σ;unfold WA at H;refine hdg mixed Tryz.func166 (rs:=[.tmp 4]) fun q tT=>?_;have hF:=K2 σ;have hX:=Tau.none σ;refine go ?_;refine Ya hF rfl fun b1 ss2 hF=>?_;refine go ?_;obtain ⟨x13,g3,H⟩:=bnd H;refine Yc 4 9 13 (.bool x13) (gi q (fun q=>?_) (fun q=>?_)) (fun J=>?_)
 ·refine go ?_;exact Yr 9 g3
 ·refine go ?_;exact Yr 9 g3
 refine go ?_;have e:=pur H;subst e;exact rt _
theorem Ml:∀(a0:Fm) r,Ao a0=some r->VK KZ 204 [.agg (KY a0)] (.bool r):=by
 intro a0 r H;intro σ;unfold Ao at H;refine hdg mixed Tryz.func204 (rs:=[.tmp 2]) fun q tT=>?_;have hF:=K2 σ;have hX:=Tau.none σ;refine go ?_;refine Ya hF rfl fun b1 ss2 hF=>?_;refine go ?_;refine bp H (Hi a0 (Qk #[46,46,46])) fun x4 h H=>cl h ?_;refine go ?_;have e:=pur H;subst e;exact rt _
theorem Hk:∀(a0:List Fm) (Yh:Int) out,Yu a0 Yh=some out->∀c,Yg Tryz.f92 0=some c->∀(Q:QT) (tt:Sto),(∀(_u:Unit),out=Sum.inr ()->∀(T:TT) (σ:Sto),0+0=0->Fx tt σ [] []->Q (.ex 0) ⟨T,σ⟩)->(∀r,out=Sum.inl r->∀s',I7 KZ [.tmp 4] (fun r' ss'=>r'=i6 r/\ss'=tt) s'->Q .ret s')->∀(T:TT) (σ:Sto),T 0=sf KY a0/\T 1=.fn 204 []/\T 7=i6 (a0.length:Int)/\T 8=i6 Yh->Fx tt σ [] []->aLp KZ c Q ⟨T,σ⟩:=by
 intro a0 Yh;revert Yh;refine Yu.partial_correctness a0 _ ?_;intro Yu IH Yh out H c hc Q tt  hE hR T σ tT hF;refine lpx tt hc rfl fun q hX=>go ?_;refine cdp H (fun h H=>?_) (fun h H=>?_)
 ·obtain ⟨x14,f1,H⟩:=bil (g:=KY) Fm.X7 H;refine go1 ?_;refine bp H (Ml x14) fun x16 h H=>cl h ?_;refine go ?_;refine cdb H (fun h H=>?_) (fun h H=>?_)
  ·refine go ?_;exact wq (hR _ (pur H).symm _ (rt _))
  ·refine go ?_;exact IH  (i64.wrap (Yh+1)) _ H _ rfl Q tt  hE hR _ _  S hF
 ·refine go ?_;exact wq (hE () (pur H).symm _ _  S hF)
theorem HX:∀(a0:List Fm) r,Vw a0=some r->VK KZ 92 [sf KY a0,.fn 204 []] (i6 r):=by
 intro a0 r H;intro σ;unfold Vw at H;refine hdg mixed ZI (rs:=[.tmp 4]) fun q tT=>?_;have hF:=K2 σ;have hX:=Tau.none σ;refine go ?_;obtain ⟨o1,ho1,H⟩:=bnd H;refine Hk a0 0 _ ho1 _ rfl _ _  ?_ ?_ _ _  S hF
 ·intro _ he T3 ss4 tT hF;have he:=he.symm;subst he
  try dsimp only at H
  refine go ?_;have e:=pur H;subst e;exact rt _
 ·intro r hr s' hs;subst hr;have e:=pur H;subst e;exact hsq hs
theorem PJ:∀(a0:List Fm) r,Bl a0=some r->VK KZ 190 [sf KY a0] (i6 r):=by
 intro a0 r H;intro σ;unfold Bl at H;refine hdg mixed Tryz.func190 (rs:=[.tmp 2]) fun q tT=>?_;have hF:=K2 σ;have hX:=Tau.none σ;refine go ?_;refine bp H (HX a0) fun x4 h H=>cl h ?_;refine go ?_;have e:=pur H;subst e;exact rt _
theorem Fs:∀(a0:Fm) (a1:Bool) r,Io a0 a1=some r->VK KZ 167 [.agg (KY a0),.bool a1] (.bool r):=by
 intro a0 a1;revert a0;refine Io.partial_correctness a1 (motive_1:=fun a0 r=>VK KZ 167 [.agg (KY a0),.bool a1] (.bool r)) (motive_2:=fun a0 YV out=>∀c,Yg Tryz.f167 0=some c->∀(Q:QT) (tt:Sto) (b1:Nat),(∀(_u:Unit),out=Sum.inr ()->∀(T:TT) (σ:Sto),0+0=0->Fx tt σ [(b1,⟨26,5,[i6 a0.kind,.str a0.name,i6 a0.num,sf cI a0.sc,sf KY a0.kids]⟩)] []->Q (.ex 0) ⟨T,σ⟩)->(∀r,out=Sum.inl r->∀s',I7 KZ [.tmp 4] (fun r' ss'=>r'=.bool r/\ss'=tt) s'->Q .ret s')->∀(T:TT) (σ:Sto),T 1=.bool a1/\T 2=.ptr b1 0/\T 8=sf KY a0.kids/\T 9=i6 (a0.kids.length:Int)/\T 10=i6 YV->Fx tt σ [(b1,⟨26,5,[i6 a0.kind,.str a0.name,i6 a0.num,sf cI a0.sc,sf KY a0.kids]⟩)] []->aLp KZ c Q ⟨T,σ⟩) ?_ ?_
 ·intro JA L0 a0 r H;intro σ;refine hdg mixed Tryz.func167 (rs:=[.tmp 4]) fun q tT=>?_;have hF:=K2 σ;have hX:=Tau.none σ;refine go ?_;refine Ya hF rfl fun b1 ss2 hF=>?_;refine go ?_;obtain ⟨o12,ho12,H⟩:=bnd H;refine L0 a0 0 _ ho12 _ rfl _ _ b1 ?_ ?_ _ _  S hF
  ·intro _ he T14 s15 tT hF;have he:=he.symm;subst he
   try dsimp only at H
   refine go ?_;have e:=pur H;subst e;exact rt _
  ·intro r hr s' hs;subst hr;have e:=pur H;subst e;exact hsq hs
 ·intro Io JA C0 L0 a0 YV out H c hc Q tt b1 hE hR T σ tT hF;refine lpx tt hc rfl fun q hX=>go ?_;refine cdp H (fun h H=>?_) (fun h H=>?_)
  ·obtain ⟨x13,f1,H⟩:=bil (g:=KY) Fm.X7 H;refine go1 ?_;refine Ya hF rfl fun b3 ss4 hF=>?_;refine go ?_;refine st hF 0 rfl fun ss5 hF=>?_;refine go ?_;refine bp H (Hi x13 (Qk #[46,46,46])) fun x16 h H=>cl h ?_;refine go ?_;refine cdb H (fun h H=>?_) (fun h H=>?_)
   ·refine go ?_;obtain ⟨x27,g6,H⟩:=bnd H;refine Yc 7 20 27 (.bool x27) (giN q (fun q=>?_) (fun q=>?_)) (fun J=>?_)
    ·rw [if_neg (df q)] at g6;obtain ⟨x24,f1,g6⟩:=bil (g:=KY) Fm.X7 g6;refine go1 ?_;obtain ⟨x26,hx26,g6⟩:=bnd g6;refine cl (Hi x24 (Qk #[46,46,46]) _ hx26) ?_;refine go ?_;exact Yr 20 g6
    ·rw [if_pos (dt q)] at g6;refine go ?_;exact Yr 20 g6
    refine go ?_;obtain ⟨x38,g8,H⟩:=bnd H;refine Yc 9 29 38 (.bool x38) (giN q (fun q=>?_) (fun q=>?_)) (fun J=>?_)
    ·rw [if_neg (dbf q)] at g8;refine go ?_;obtain ⟨x37,g10,g8⟩:=bnd g8;refine Yc 6 31 37 (.bool x37) (gi q (fun q=>?_) (fun q=>?_)) (fun J=>?_)
     ·rw [if_pos (dbt q)] at g10;obtain ⟨x34,f1,g10⟩:=bls (g:=KY) Fm.X7 (lo:=none) (hi:=some (i6 YV)) rfl rfl g10;refine go1 ?_;obtain ⟨x35,hx35,g10⟩:=bnd g10;refine cl (PJ x34 _ hx35) ?_;refine go ?_;exact Yr 31 g10
     ·rw [if_neg (dbf q)] at g10;refine go ?_;exact Yr 31 g10
     refine go ?_;exact Yr 29 g8
    ·rw [if_pos (dbt q)] at g8;refine go ?_;exact Yr 29 g8
    refine go ?_;refine cdb H (fun h H=>?_) (fun h H=>?_)
    ·refine go ?_;exact wq (hR _ (pur H).symm _ (rt _))
    ·refine go ?_;exact L0 a0 (i64.wrap (YV+1)) _ H _ rfl Q tt b1 hE hR _ _  S (hF.drop 1 0)
   ·refine go ?_;refine bp H (C0 x13) fun x41 h H=>cl h ?_;refine go ?_;refine cdb H (fun h H=>?_) (fun h H=>?_)
    ·refine go ?_;exact wq (hR _ (pur H).symm _ (rt _))
    ·refine go ?_;exact L0 a0 (i64.wrap (YV+1)) _ H _ rfl Q tt b1 hE hR _ _  S (hF.drop 1 0)
  ·refine go ?_;exact wq (hE () (pur H).symm _ _  S hF)
theorem Sq:∀(a0:Fm) (a1:List Fm) r,Dy a0 a1=some r->VK KZ 191 [.agg (KY a0),sf KY a1] (.bool r):=by
 intro a0 a1 r H;intro σ;unfold Dy at H;refine hdg mixed Tryz.func191 (rs:=[.tmp 4]) fun q tT=>?_;have hF:=K2 σ;have hX:=Tau.none σ;refine go ?_;refine Ya hF rfl fun b1 ss2 hF=>?_;refine go ?_;obtain ⟨x12,g3,H⟩:=bnd H;refine Yc 3 9 12 (.bool x12) (gi q (fun q=>?_) (fun q=>?_)) (fun J=>?_)
 ·refine go ?_;exact Yr 9 g3
 ·refine go ?_;exact Yr 9 g3
 refine go ?_;obtain ⟨x17,g5,H⟩:=bnd H;refine Yc 3 14 17 (.bool x17) (gi q (fun q=>?_) (fun q=>?_)) (fun J=>?_)
 ·refine go ?_;exact Yr 14 g5
 ·refine go ?_;exact Yr 14 g5
 refine go ?_;obtain ⟨x23,g7,H⟩:=bnd H;refine Yc 4 19 23 (.bool x23) (gi q (fun q=>?_) (fun q=>?_)) (fun J=>?_)
 ·rw [if_pos (dbt q)] at g7;refine go ?_;obtain ⟨x21,hx21,g7⟩:=bnd g7;refine cl (Ex a1 a0 _ hx21) ?_;refine go ?_;exact Yr 19 g7
 ·rw [if_neg (dbf q)] at g7;refine go ?_;exact Yr 19 g7
 refine go ?_;have e:=pur H;subst e;exact rt _
theorem FL:∀(a0:Fm) (a1:List Fm) (a2:Int) (c0:List Fm) (c1:List Int) r,WJ a0 a1 a2 c0 c1=some r->∀(e0 e1:Nat) (Qib Qeq:AV) (σ:Sto),Pre σ [(e0,⟨24,1,[Qib]⟩),(e1,⟨23,1,[Qeq]⟩)] [⟨Qib,26,5,rws KY c0⟩,⟨Qeq,3,1,rws cI c1⟩]->Ctr KZ 168 [.agg (KY a0),sf KY a1,i6 a2,.ptr e0 0,.ptr e1 0] σ (fun r' ss'=>∃(tt':Sto) (Qq3 Qq4:AV),r'=.tup []/\Tau (strip σ [⟨Qib,26,5,rws KY c0⟩,⟨Qeq,3,1,rws cI c1⟩]) [(e0,⟨24,1,[Qq3]⟩),(e1,⟨23,1,[Qq4]⟩)] tt'/\Fx tt' ss' [] [⟨Qq3,26,5,rws KY r.1⟩,⟨Qq4,3,1,rws cI r.2⟩]):=by
 intro a0 a1 a2 c0 c1;revert a0 a2 c0 c1;refine WJ.partial_correctness a1 (motive_1:=fun a0 a2 c0 c1 r=>∀(e0 e1:Nat) (Qib Qeq:AV) (σ:Sto),Pre σ [(e0,⟨24,1,[Qib]⟩),(e1,⟨23,1,[Qeq]⟩)] [⟨Qib,26,5,rws KY c0⟩,⟨Qeq,3,1,rws cI c1⟩]->Ctr KZ 168 [.agg (KY a0),sf KY a1,i6 a2,.ptr e0 0,.ptr e1 0] σ (fun r' ss'=>∃(tt':Sto) (Qq3 Qq4:AV),r'=.tup []/\Tau (strip σ [⟨Qib,26,5,rws KY c0⟩,⟨Qeq,3,1,rws cI c1⟩]) [(e0,⟨24,1,[Qq3]⟩),(e1,⟨23,1,[Qq4]⟩)] tt'/\Fx tt' ss' [] [⟨Qq3,26,5,rws KY r.1⟩,⟨Qq4,3,1,rws cI r.2⟩])) (motive_2:=fun a0 a2 X9 Vn BP out=>∀c,Yg Tryz.f168 0=some c->∀(Q:QT) (tt0:Sto) (e0 e1 b1:Nat),(∀(Vu:List Int) (Lf:List Fm),out=(Vu,Lf)->∀(T:TT) (σ tt:Sto) (e0v0 e0v1:AV),0+0=0->Tau tt0 [(e0,⟨24,1,[e0v1]⟩),(e1,⟨23,1,[e0v0]⟩)] tt->Fx tt σ [(b1,⟨26,5,[i6 a0.kind,.str a0.name,i6 a0.num,sf cI a0.sc,sf KY a0.kids]⟩)] [⟨e0v1,26,5,rws KY Lf⟩,⟨e0v0,3,1,rws cI Vu⟩]->Q (.ex 0) ⟨T,σ⟩)->True->∀(T:TT) (σ tt:Sto) (z0v0 z0v1:AV),T 1=sf KY a1/\T 2=i6 a2/\T 3=.ptr e0 0/\T 4=.ptr e1 0/\T 5=.ptr b1 0/\T 34=sf KY a0.kids/\T 35=i6 (a0.kids.length:Int)/\T 36=i6 BP->Tau tt0 [(e0,⟨24,1,[z0v1]⟩),(e1,⟨23,1,[z0v0]⟩)] tt->Fx tt σ [(b1,⟨26,5,[i6 a0.kind,.str a0.name,i6 a0.num,sf cI a0.sc,sf KY a0.kids]⟩)] [⟨z0v1,26,5,rws KY Vn⟩,⟨z0v0,3,1,rws cI X9⟩]->aLp KZ c Q ⟨T,σ⟩) ?_ ?_
 ·intro VS L0 a0 a2 c0 c1 r H;intro e0 e1 Qib Qeq σ hP;refine hdg mixed Tryz.func168 (rs:=[]) fun q tT=>?_;obtain ⟨hF,hX⟩:=hP.start;generalize strip σ [⟨Qib,26,5,rws KY c0⟩,⟨Qeq,3,1,rws cI c1⟩]=tt0 at hF hX ⊢;refine go ?_;refine Ya hF rfl fun b1 ss2 hF=>?_;refine go ?_;refine bp H (Sq a0 a1) fun x15 h H=>cl h ?_;refine go ?_;obtain ⟨⟨AW,Qk8⟩,j4,H⟩:=bnd H;refine Wq (fun s'=>∃(T:TT) (ss1 tt1:Sto) (y3v0 y3v1:AV),s'=⟨T,ss1⟩/\(T 1=sf KY a1/\T 2=i6 a2/\T 3=.ptr e0 0/\T 4=.ptr e1 0/\T 5=.ptr b1 0)/\Tau tt0 [(e0,⟨24,1,[y3v1]⟩),(e1,⟨23,1,[y3v0]⟩)] tt1/\Fx tt1 ss1 [(b1,⟨26,5,[i6 a0.kind,.str a0.name,i6 a0.num,sf cI a0.sc,sf KY a0.kids]⟩)] [⟨y3v1,26,5,rws KY Qk8⟩,⟨y3v0,3,1,rws cI AW⟩]) (cdb j4 (fun h j4=>?_) (fun h j4=>?_)) ?_
  ·refine go ?_;obtain ⟨E,hEq⟩:∃E,E=EE ss2 [e0]:=⟨_,rfl⟩
   have n5:¬E b1:=by rw [hEq];exact EE.not (hF.at 0 rfl) (nm1 (neX hF 0 rfl hX 0 rfl))
   have n6:¬E e1:=by rw [hEq];exact EE.not (hF.xat hX 1 rfl) (nm1 (neE hX 1 0 rfl rfl (by decide)))
   refine Sb E [.v,.v,.v,.v,.x,.v,.x,.v,.v] [0,1,3,5,2,4,6,7,9] 8 10 [] [] [] [] (by kernel_rfl) ?_
   try simp only [go_sem,↓reduceIte,ZA,ZC,ZD,ZB,ZE,ZF,Kl,q,tT,hF.f,hF.m,hF.x hX,X8 (hF.at 0 rfl) n5,X8 (hF.xat hX 1 rfl) n6,Qpe]
   refine Qrn (g:=KY) (rows:=[[i6 0,.str zB,i6 0,.Yd,.Yd]]) hF 0 j4 Fm.X7 true rfl (by simp only [sf,i6,zB,Vm,VR,cI,cU,cS,cL,Fm.Yb,Fm.kind,Fm.name,Fm.num,Fm.sc,Fm.kids,Hit.name,Hit.depth,Hit.one,Hit.many,Cor.kind,Cor.id,Cor.name,Cor.num,Cor.ids,Cor.data,Cor.kids,Val.kind,Val.num,Val.name,Val.items,Val.fn,Val.env,Slt.id,Slt.val,List.flatten_cons,List.flatten_nil,List.append_nil,List.cons_append,List.nil_append];exact (.cons (.refl _) id (.cons (.refl _) id (.cons (.refl _) id (.cons .Yd (fun _=>rfl) (.cons .Yd (fun _=>rfl) .nil)))))) fun x22 j4 v7 s8 hF=>?_;have z:=K3 (X8 (hF.at 0 rfl) n5) (X8 (hF.xat hX 1 rfl) n6);refine gh ?_;obtain ⟨x23,hx23,j4⟩:=bnd j4;obtain ⟨b9,k10,hv⟩:=hF.ref 0 rfl hx23;subst hv
   try simp only [go_sem,↓reduceIte,ZA,ZC,ZD,ZB,ZE,ZF,Kl,q,tT,hF.f,hF.m,hF.x hX,X8 (hF.at 0 rfl) n5,X8 (hF.xat hX 1 rfl) n6,E2 (l:=x22) rfl hx23]
   refine ⟨?_,?_⟩
   ·have z:=K3 (X8 (hF.at 0 rfl) n5) (X8 (hF.xat hX 1 rfl) n6);refine gh ?_;refine Qbl hF 0 (o:=0) (sz:=5) (k:=5) (v:=(.agg [i6 a0.kind,.str a0.name,i6 a0.num,sf cI a0.sc,sf KY a0.kids])) (cs:=[i6 a0.kind,.str a0.name,i6 a0.num,sf cI a0.sc,sf KY a0.kids]) (g:=KY) (i:=(c0.length:Int)) a0 Fm.X7 (by first | rfl | simp) rfl hx23 rfl rfl (by decide) (by first | rfl | simp [Hx,cI,cU,cS,cL,cB,Fm.Yb]) fun s11 hF=>?_;have hF:Fx tt0 s11 [(b1,⟨26,5,[i6 a0.kind,.str a0.name,i6 a0.num,sf cI a0.sc,sf KY a0.kids]⟩)] [⟨.ref b9 x22.length k10,26,5,rws KY (x22.set (c0.length:Int).toNat a0)⟩,⟨Qeq,3,1,rws cI c1⟩]:=hF;have z:=K3 (X8 (hF.at 0 rfl) n5) (X8 (hF.xat hX 1 rfl) n6);refine gh ?_;refine Qtb hF hX 0 (by rw [hEq];exact EE.of (by simp)) (hF.cells 0 rfl) fun t13 s12 hF hX=>?_;have z:=K3 (X8 (hF.at 0 rfl) n5) (X8 (hF.xat hX 1 rfl) n6);refine gh ?_;refine go ?_;refine apd (g:=cI) hF 1 j4 (rdo (c:=true) (g:=cI) (fun _=>rfl)) fun x31 j4 v14 s15 hF=>?_;refine go ?_;refine stT hF hX 1 (hF.cells 1 rfl) fun t17 s16 hF hX=>?_;refine go ?_;have e:=pur j4
    injection e with e0 e
    subst e0;subst e;exact ⟨_,_,_,v14,(.ref b9 x22.length k10),rfl,S,hX,hF⟩
   ·have z:=K3 (X8 (hF.at 0 rfl) n5) (X8 (hF.xat hX 1 rfl) n6);refine gh ?_;refine Qtb hF hX 0 (by rw [hEq];exact EE.of (by simp)) (hF.cells 0 rfl) fun t19 s18 hF hX=>?_;have z:=K3 (X8 (hF.at 0 rfl) n5) (X8 (hF.xat hX 1 rfl) n6);refine gh ?_;refine Qbl hF 0 (o:=0) (sz:=5) (k:=5) (v:=(.agg [i6 a0.kind,.str a0.name,i6 a0.num,sf cI a0.sc,sf KY a0.kids])) (cs:=[i6 a0.kind,.str a0.name,i6 a0.num,sf cI a0.sc,sf KY a0.kids]) (g:=KY) (i:=(c0.length:Int)) a0 Fm.X7 (by first | rfl | simp) rfl hx23 rfl rfl (by decide) (by first | rfl | simp [Hx,cI,cU,cS,cL,cB,Fm.Yb]) fun s20 hF=>?_;have hF:Fx t19 s20 [(b1,⟨26,5,[i6 a0.kind,.str a0.name,i6 a0.num,sf cI a0.sc,sf KY a0.kids]⟩)] [⟨.ref b9 x22.length k10,26,5,rws KY (x22.set (c0.length:Int).toNat a0)⟩,⟨Qeq,3,1,rws cI c1⟩]:=hF;have z:=K3 (X8 (hF.at 0 rfl) n5) (X8 (hF.xat hX 1 rfl) n6);refine gh ?_;refine go ?_;refine apd (g:=cI) hF 1 j4 (rdo (c:=true) (g:=cI) (fun _=>rfl)) fun x31 j4 v21 s22 hF=>?_;refine go ?_;refine stT hF hX 1 (hF.cells 1 rfl) fun t24 s23 hF hX=>?_;refine go ?_;have e:=pur j4
    injection e with e0 e
    subst e0;subst e;exact ⟨_,_,_,v21,(.ref b9 x22.length k10),rfl,S,hX,hF⟩
  ·refine go ?_;have e:=pur j4
   injection e with e0 e
   subst e0;subst e;exact ⟨_,_,_,Qeq,Qib,rfl,S,hX,hF⟩
  ·rintro s' ⟨T25,s26,t27,y3v0,y3v1,rfl,tT,hX,hF⟩;refine go ?_;obtain ⟨o43,ho43,H⟩:=bnd H;refine L0 a0 a2 AW Qk8 0 _ ho43 _ rfl _ tt0 e0 e1 b1 ?_ ?_ _ _ _ y3v0 y3v1 S hX hF
   ·intro Qln Qlo he T45 s46 t47 e44v0 e44v1 tT hX hF;have he:=he.symm;subst he
    try dsimp only at H
    refine go ?_;have e:=pur H;subst e;exact rg _ ⟨_,_,_,rfl,hX,hF.pick [] [0,1] (by decide) (by decide)⟩
   ·trivial
 ·intro WJ VS C0 L0 a0 a2 X9 Vn BP out H c hc Q tt0 e0 e1 b1 hE hR T σ tt z0v0 z0v1 tT hX hF;refine lpy hc rfl fun q=>go ?_;refine cdp H (fun h H=>?_) (fun h H=>?_)
  ·obtain ⟨x39,f1,H⟩:=bil (g:=KY) Fm.X7 H;refine go1 ?_;refine Ya hF rfl fun b28 s29 hF=>?_;refine go ?_;refine st hF 0 rfl fun s30 hF=>?_;refine go ?_;obtain ⟨x56,g31,H⟩:=bnd H;refine Yc 7 49 56 (.bool x56) (gi q (fun q=>?_) (fun q=>?_)) (fun J=>?_)
   ·rw [if_pos (dt q)] at g31;obtain ⟨x53,f1,g31⟩:=bil (g:=KY) Fm.X7 g31;refine go1 ?_;obtain ⟨x55,hx55,g31⟩:=bnd g31;refine cl (Hi x53 (Qk #[46,46,46]) _ hx55) ?_;refine go ?_;exact Yr 49 g31
   ·rw [if_neg (df q)] at g31;refine go ?_;exact Yr 49 g31
   refine go ?_;obtain ⟨M0,j34,H⟩:=bnd H;refine Wq (fun s'=>∃(T:TT) (ss1 tt1:Sto),s'=⟨T,ss1⟩/\(T 1=sf KY a1/\T 2=i6 a2/\T 3=.ptr e0 0/\T 4=.ptr e1 0/\T 5=.ptr b1 0/\T 11=.ptr b28 0/\T 12=i6 M0/\T 34=sf KY a0.kids/\T 35=i6 (a0.kids.length:Int)/\T 36=i6 BP)/\Tau tt0 [(e0,⟨24,1,[z0v1]⟩),(e1,⟨23,1,[z0v0]⟩)] tt1/\Fx tt1 ss1 [(b28,⟨26,5,[i6 x39.kind,.str x39.name,i6 x39.num,sf cI x39.sc,sf KY x39.kids]⟩),(b1,⟨26,5,[i6 a0.kind,.str a0.name,i6 a0.num,sf cI a0.sc,sf KY a0.kids]⟩)] [⟨z0v1,26,5,rws KY Vn⟩,⟨z0v0,3,1,rws cI X9⟩]) (cdb j34 (fun h j34=>?_) (fun h j34=>?_)) ?_
   ·refine go ?_;have e:=pur j34;subst e;exact ⟨_,_,_,rfl,S,hX,hF⟩
   ·refine go ?_;have e:=pur j34;subst e;exact ⟨_,_,_,rfl,S,hX,hF⟩
   ·rintro s' ⟨T35,s36,t37,rfl,tT,hX,hF⟩;refine go ?_;obtain ⟨x64,hx64,H⟩:=bnd H;refine cx (C0 x39 M0 Vn X9 _ hx64 e0 e1 z0v1 z0v0 _ (pre 0 2 2 hF hX)) ?_;rintro _ s40 ⟨t41,v38,v39,rfl,hT,hG⟩;obtain ⟨t42,hX,hF⟩:=aft 0 2 2 hF hX hT hG;refine go ?_;exact L0 a0 a2 x64.2 x64.1 (i64.wrap (BP+1)) _ H _ rfl Q tt0 e0 e1 b1 hE hR _ _ _ v39 v38 S hX (hF.drop 1 0)
  ·refine go ?_;exact wq (hE _ _ (pur H).symm _ _ _ z0v0 z0v1 S hX hF)
theorem Fu:∀(a0:Fm) (a1:List Fm) r,Bm a0 a1=some r->VK KZ 147 [.agg (KY a0),sf KY a1] (.tup [sf KY r.1,sf cI r.2]):=by
 intro a0 a1 r H;intro σ;unfold Bm at H;refine hdg mixed Tryz.func147 (rs:=[.tmp 4,.tmp 5]) fun q tT=>?_;have hF:=K2 σ;have hX:=Tau.none σ;refine go ?_;refine Ya hF rfl fun b1 ss2 hF=>?_;refine go ?_;refine Ya hF rfl fun b3 ss4 hF=>?_;refine go ?_;refine Ya hF rfl fun b5 ss6 hF=>?_;refine go ?_;refine st hF 1 rfl fun s7 hF=>?_;refine go ?_;refine st hF 0 rfl fun s8 hF=>?_;have hF:=hF.lit 26 5 (rws KY []) rfl;have hF:=hF.lit 3 1 (rws cI []) rfl;refine go ?_;have hF:=pck hF [1,0,2] [1,0];obtain ⟨x12,hx12,H⟩:=bnd H;refine cx (FL a0 a1 0 [] [] _ hx12 b3 b5 (.sl true (rws KY [])) (.sl true (rws cI [])) _ (pre 2 0 2 hF hX)) ?_;rintro _ s11 ⟨t12,v9,v10,rfl,hT,hG⟩;have hF:=DL 2 2 hF hX hT hG;have hF:=pck hF [1,0,2] [0,1];refine go ?_;refine Yj E0 [.v,.v,.v,.v] (by kernel_rfl) ?_;refine go ?_;have e:=pur H;subst e;exact rt _
theorem DS:∀(a0:Fm) (x29:List Fm × List Int) (AT:Int) out,VN a0 x29 AT=some out->∀c,Yg Tryz.f146 0=some c->∀(Q:QT) (tt:Sto) (b1:Nat),(∀(_u:Unit),out=Sum.inr ()->∀(T:TT) (σ:Sto),T 5=sf KY x29.1->Fx tt σ [(b1,⟨26,5,[i6 a0.kind,.str a0.name,i6 a0.num,sf cI a0.sc,sf KY a0.kids]⟩)] []->Q (.ex 0) ⟨T,σ⟩)->(∀r,out=Sum.inl r->∀s',I7 KZ [.tmp 4] (fun r' ss'=>r'=.bool r/\ss'=tt) s'->Q .ret s')->∀(T:TT) (σ:Sto),T 5=sf KY x29.1/\T 6=sf cI x29.2/\T 32=sf KY x29.1/\T 33=i6 (x29.1.length:Int)/\T 34=i6 AT->Fx tt σ [(b1,⟨26,5,[i6 a0.kind,.str a0.name,i6 a0.num,sf cI a0.sc,sf KY a0.kids]⟩)] []->aLp KZ c Q ⟨T,σ⟩:=by
 intro a0 x29 AT;revert AT;refine VN.partial_correctness a0 x29 _ ?_;intro VN IH AT out H c hc Q tt b1 hE hR T σ tT hF;refine lpx tt hc rfl fun q hX=>go ?_;refine cdp H (fun h H=>?_) (fun h H=>?_)
 ·obtain ⟨x37,f1,H⟩:=bil (g:=KY) Fm.X7 H;refine go1 ?_;refine Ya hF rfl fun b9 s10 hF=>?_;refine go ?_;refine st hF 0 rfl fun s11 hF=>?_;refine go ?_;refine Yj E0 [.v,.v,.v,.v,.v,.v,.v,.v,.v,.v,.v,.v] (by kernel_rfl) ?_;obtain ⟨x41,f1,H⟩:=bls (g:=KY) Fm.X7 (lo:=none) (hi:=some (i6 AT)) rfl rfl H;refine go1 ?_;refine bp H (Ex x41 x37) fun x43 h H=>cv h ?_;refine go ?_;obtain ⟨x50,g12,H⟩:=bnd H;refine VU 5 45 50 (.bool x50) (tiN q (fun q=>?_) (fun q=>?_)) (fun J=>?_)
  ·rw [if_neg (dbf q)] at g12;obtain ⟨x47,f1,g12⟩:=bil (g:=cI) (fun _=>rfl) g12;refine go1 ?_;refine go ?_;exact Yr 45 g12
  ·rw [if_pos (dbt q)] at g12;refine go ?_;exact Yr 45 g12
  refine go ?_;refine cdb H (fun h H=>?_) (fun h H=>?_)
  ·refine go ?_;exact wq (hR _ (pur H).symm _ (rt _))
  ·refine go ?_;exact IH  (i64.wrap (AT+1)) _ H _ rfl Q tt b1 hE hR _ _  S (hF.drop 1 0)
 ·refine go ?_;exact wq (hE () (pur H).symm _ _  S hF)
theorem Ff:∀(a0:Fm) (a1:List Fm) r,HT a0 a1=some r->VK KZ 146 [.agg (KY a0),sf KY a1] (.bool r):=by
 intro a0 a1 r H;intro σ;unfold HT at H;refine hdg mixed Tryz.func146 (rs:=[.tmp 4]) fun q tT=>?_;have hF:=K2 σ;have hX:=Tau.none σ;refine go ?_;refine Ya hF rfl fun b1 ss2 hF=>?_;refine go ?_;refine bp H (Bk a0) fun x10 h H=>cl h ?_;refine go ?_;obtain ⟨x16,g3,H⟩:=bnd H;refine Yc 3 13 16 (.bool x16) (giN q (fun q=>?_) (fun q=>?_)) (fun J=>?_)
 ·rw [if_neg (dbf q)] at g3;refine go ?_;obtain ⟨x14,hx14,g3⟩:=bnd g3;refine cl (CQ a1 _ hx14) ?_;refine go ?_;exact Yr 13 g3
 ·rw [if_pos (dbt q)] at g3;refine go ?_;exact Yr 13 g3
 refine go ?_;obtain ⟨x20,g5,H⟩:=bnd H;refine Yc 2 18 20 (.bool x20) (giN q (fun q=>?_) (fun q=>?_)) (fun J=>?_)
 ·rw [if_neg (dbf q)] at g5;refine go ?_;obtain ⟨x19,hx19,g5⟩:=bnd g5;refine cl (Hi a0 (Qk #[46,46,46]) _ hx19) ?_;refine go ?_;exact Yr 18 g5
 ·rw [if_pos (dbt q)] at g5;refine go ?_;exact Yr 18 g5
 refine go ?_;obtain ⟨x25,g7,H⟩:=bnd H;refine Yc 3 22 25 (.bool x25) (giN q (fun q=>?_) (fun q=>?_)) (fun J=>?_)
 ·rw [if_neg (dbf q)] at g7;refine go ?_;obtain ⟨x23,hx23,g7⟩:=bnd g7;refine cl (Fs a0 true _ hx23) ?_;refine go ?_;exact Yr 22 g7
 ·rw [if_pos (dbt q)] at g7;refine go ?_;exact Yr 22 g7
 refine go ?_;refine cdb H (fun h H=>?_) (fun h H=>?_)
 ·refine go ?_;have e:=pur H;subst e;exact rt _
 ·refine go ?_;refine bp H (Fu a0 a1) fun x29 h H=>cl h ?_;refine go ?_;obtain ⟨o14,ho14,H⟩:=bnd H;refine DS a0 x29 0 _ ho14 _ rfl _ _ b1 ?_ ?_ _ _  S hF
  ·intro _ he T16 s17 tT hF;have he:=he.symm;subst he
   try dsimp only at H
   refine go ?_;have e:=pur H;subst e;exact rt _
  ·intro r hr s' hs;subst hr;have e:=pur H;subst e;exact hsq hs
theorem Ly:∀(a0 c0:Fm) r,IU a0 c0=some r->∀(e0:Nat)  (σ:Sto),Pre σ [(e0,⟨26,5,[i6 c0.kind,.str c0.name,i6 c0.num,sf cI c0.sc,sf KY c0.kids]⟩)] []->Ctr KZ 205 [.agg (KY a0),.ptr e0 0] σ (fun r' ss'=>∃(tt':Sto),r'=.bool r/\Tau (strip σ []) [(e0,⟨26,5,[i6 c0.kind,.str c0.name,i6 c0.num,sf cI c0.sc,sf KY c0.kids]⟩)] tt'/\Fx tt' ss' [] []):=by
 intro a0 c0 r H;intro e0  σ hP;unfold IU at H;refine hdg mixed Tryz.func205 (rs:=[.tmp 3]) fun q tT=>?_;obtain ⟨hF,hX⟩:=hP.start;generalize strip σ []=tt0 at hF hX ⊢;refine go ?_;refine Ya hF rfl fun b1 ss2 hF=>?_;refine go ?_;refine bp H (D5 a0 c0) fun x6 h H=>cl h ?_;refine go ?_;have e:=pur H;subst e;exact rg _ ⟨_,rfl,hX,K4 _⟩
theorem Hb:∀(a0:List Fm) (c0:Fm) (Yh:Int) out,Ys a0 c0 Yh=some out->∀c,Yg Tryz.f92 0=some c->∀(Q:QT) (tt0:Sto) (e0:Nat),(∀(_u:Unit),out=Sum.inr ()->∀(T:TT) (σ tt:Sto),0+0=0->Tau tt0 [(e0,⟨26,5,[i6 c0.kind,.str c0.name,i6 c0.num,sf cI c0.sc,sf KY c0.kids]⟩)] tt->Fx tt σ [] []->Q (.ex 0) ⟨T,σ⟩)->(∀r,out=Sum.inl r->∀s',I7 KZ [.tmp 4] (fun r' ss'=>∃(tt':Sto),r'=i6 r/\Tau tt0 [(e0,⟨26,5,[i6 c0.kind,.str c0.name,i6 c0.num,sf cI c0.sc,sf KY c0.kids]⟩)] tt'/\Fx tt' ss' [] []) s'->Q .ret s')->∀(T:TT) (σ tt:Sto),T 0=sf KY a0/\T 1=.fn 205 [.ptr e0 0]/\T 7=i6 (a0.length:Int)/\T 8=i6 Yh->Tau tt0 [(e0,⟨26,5,[i6 c0.kind,.str c0.name,i6 c0.num,sf cI c0.sc,sf KY c0.kids]⟩)] tt->Fx tt σ [] []->aLp KZ c Q ⟨T,σ⟩:=by
 intro a0 c0 Yh;revert Yh;refine Ys.partial_correctness a0 c0 _ ?_;intro Ys IH Yh out H c hc Q tt0 e0 hE hR T σ tt tT hX hF;refine lpy hc rfl fun q=>go ?_;refine cdp H (fun h H=>?_) (fun h H=>?_)
 ·obtain ⟨x14,f1,H⟩:=bil (g:=KY) Fm.X7 H;refine go1 ?_;obtain ⟨x16,hx16,H⟩:=bnd H;refine cx (Ly x14 c0 _ hx16 e0  _ (pre 0 1 0 hF hX)) ?_;rintro _ ss1 ⟨tt2,rfl,hT,hG⟩;obtain ⟨tt3,hX,hF⟩:=aft 0 1 0 hF hX hT hG;refine go ?_;refine cdb H (fun h H=>?_) (fun h H=>?_)
  ·refine go ?_;exact wq (hR _ (pur H).symm _ (rg _ ⟨_,rfl,hX,K4 _⟩))
  ·refine go ?_;exact IH  (i64.wrap (Yh+1)) _ H _ rfl Q tt0 e0 hE hR _ _ _  S hX hF
 ·refine go ?_;exact wq (hE () (pur H).symm _ _ _  S hX hF)
theorem HN:∀(a0:List Fm) (c0:Fm) r,Vr a0 c0=some r->∀(e0:Nat)  (σ:Sto),Pre σ [(e0,⟨26,5,[i6 c0.kind,.str c0.name,i6 c0.num,sf cI c0.sc,sf KY c0.kids]⟩)] []->Ctr KZ 92 [sf KY a0,.fn 205 [.ptr e0 0]] σ (fun r' ss'=>∃(tt':Sto),r'=i6 r/\Tau (strip σ []) [(e0,⟨26,5,[i6 c0.kind,.str c0.name,i6 c0.num,sf cI c0.sc,sf KY c0.kids]⟩)] tt'/\Fx tt' ss' [] []):=by
 intro a0 c0 r H;intro e0  σ hP;unfold Vr at H;refine hdg mixed ZI (rs:=[.tmp 4]) fun q tT=>?_;obtain ⟨hF,hX⟩:=hP.start;generalize strip σ []=tt0 at hF hX ⊢;refine go ?_;obtain ⟨o4,ho4,H⟩:=bnd H;refine Hb a0 c0 0 _ ho4 _ rfl _ tt0 e0 ?_ ?_ _ _ _  S hX hF
 ·intro _ he T6 s7 t8 tT hX hF;have he:=he.symm;subst he
  try dsimp only at H
  refine go ?_;have e:=pur H;subst e;exact rg _ ⟨_,rfl,hX,K4 _⟩
 ·intro r hr s' hs;subst hr;have e:=pur H;subst e;exact hsq hs
theorem Ew:∀(a0:List Fm) (a1:List Int) (a2:Fm) r,AJ a0 a1 a2=some r->VK KZ 192 [sf KY a0,sf cI a1,.agg (KY a2)] (i6 r):=by
 intro a0 a1 a2 r H;intro σ;unfold AJ at H;refine hdg mixed Tryz.func192 (rs:=[.tmp 6]) fun q tT=>?_;have hF:=K2 σ;have hX:=Tau.none σ;refine go ?_;refine Ya hF rfl fun b1 ss2 hF=>?_;refine go ?_;refine cdn H (fun h H=>?_) (fun h H=>?_)
 ·refine go ?_;have e:=pur H;subst e;exact rt _
 ·refine go ?_;obtain ⟨x13,hx13,H⟩:=bnd H;refine cx (HN a0 a2 _ hx13 b1  _ (pre 1 0 0 hF hX)) ?_;rintro _ ss3 ⟨tt4,rfl,hT,hG⟩;have hF:=DL 1 0 hF hX hT hG;refine go ?_;refine cdp H (fun h H=>?_) (fun h H=>?_)
  ·refine go ?_;have e:=pur H;subst e;exact rt _
  ·obtain ⟨x18,f1,H⟩:=bil (g:=cI) (fun _=>rfl) H;refine go1 ?_;refine go ?_;have e:=pur H;subst e;exact rt _
theorem Mn:∀(a0:Fm) (c0:Bool) (c1:List Fm) (c2:List Int) (c3:Int) r,Ap a0 c0 c1 c2 c3=some r->∀(e0 e1 e2 e3:Nat)  (σ:Sto),Pre σ [(e0,⟨4,1,[.bool c0]⟩),(e1,⟨24,1,[sf KY c1]⟩),(e2,⟨23,1,[sf cI c2]⟩),(e3,⟨3,1,[i6 c3]⟩)] []->Ctr KZ 193 [.agg (KY a0),.ptr e0 0,.ptr e1 0,.ptr e2 0,.ptr e3 0] σ (fun r' ss'=>∃(tt':Sto),r'=.tup []/\Tau (strip σ []) [(e0,⟨4,1,[.bool r]⟩),(e1,⟨24,1,[sf KY c1]⟩),(e2,⟨23,1,[sf cI c2]⟩),(e3,⟨3,1,[i6 c3]⟩)] tt'/\Fx tt' ss' [] []):=by
 intro a0 c0 c1 c2 c3 r H;intro e0 e1 e2 e3  σ hP;unfold Ap at H;refine hdg mixed Tryz.func193 (rs:=[]) fun q tT=>?_;obtain ⟨hF,hX⟩:=hP.start;generalize strip σ []=tt0 at hF hX ⊢;refine go ?_;refine Ya hF rfl fun b1 ss2 hF=>?_;refine go ?_;refine Yj E0 [.v,.v,.v,.v,.v,.v,.v,.v,.v,.z] (by kernel_rfl) ?_;refine go ?_;obtain ⟨x14,g3,H⟩:=bnd H;refine VU 6 8 14 (.bool x14) (tiN q (fun q=>?_) (fun q=>?_)) (fun J=>?_)
 ·rw [if_neg (dbf q)] at g3;refine go ?_;obtain ⟨x11,hx11,g3⟩:=bnd g3;refine cv (Ew c1 c2 a0 _ hx11) ?_;refine go ?_;exact Yr 8 g3
 ·rw [if_pos (dbt q)] at g3;refine go ?_;exact Yr 8 g3
 refine go ?_;refine stT hF hX 0 rfl fun t6 ss5 hF hX=>?_;refine go ?_;have e:=pur H;subst e;exact rg _ ⟨_,rfl,hX,K4 _⟩
theorem Bh:∀(a0:Fm) (c0:Bool) (c1:List Fm) (c2:List Int) (c3:Int) r,Y0 a0 c0 c1 c2 c3=some r->∀(e0 e1 e2 e3:Nat)  (σ:Sto),Pre σ [(e0,⟨4,1,[.bool c0]⟩),(e1,⟨24,1,[sf KY c1]⟩),(e2,⟨23,1,[sf cI c2]⟩),(e3,⟨3,1,[i6 c3]⟩)] []->Ctr KZ 26 [.agg (KY a0),.fn 193 [.ptr e0 0,.ptr e1 0,.ptr e2 0,.ptr e3 0]] σ (fun r' ss'=>∃(tt':Sto),r'=.tup []/\Tau (strip σ []) [(e0,⟨4,1,[.bool r]⟩),(e1,⟨24,1,[sf KY c1]⟩),(e2,⟨23,1,[sf cI c2]⟩),(e3,⟨3,1,[i6 c3]⟩)] tt'/\Fx tt' ss' [] []):=by
 intro a0 c0 c1 c2 c3;revert a0 c0;refine Y0.partial_correctness c1 c2 c3 (motive_1:=fun a0 c0 r=>∀(e0 e1 e2 e3:Nat)  (σ:Sto),Pre σ [(e0,⟨4,1,[.bool c0]⟩),(e1,⟨24,1,[sf KY c1]⟩),(e2,⟨23,1,[sf cI c2]⟩),(e3,⟨3,1,[i6 c3]⟩)] []->Ctr KZ 26 [.agg (KY a0),.fn 193 [.ptr e0 0,.ptr e1 0,.ptr e2 0,.ptr e3 0]] σ (fun r' ss'=>∃(tt':Sto),r'=.tup []/\Tau (strip σ []) [(e0,⟨4,1,[.bool r]⟩),(e1,⟨24,1,[sf KY c1]⟩),(e2,⟨23,1,[sf cI c2]⟩),(e3,⟨3,1,[i6 c3]⟩)] tt'/\Fx tt' ss' [] [])) (motive_2:=fun a0 Ia VV out=>∀c,Yg Tryz.f26 0=some c->∀(Q:QT) (tt0:Sto) (e0 e1 e2 e3 b1:Nat),(∀(Ca:Bool),out=Ca->∀(T:TT) (σ tt:Sto),0+0=0->Tau tt0 [(e0,⟨4,1,[.bool Ca]⟩),(e1,⟨24,1,[sf KY c1]⟩),(e2,⟨23,1,[sf cI c2]⟩),(e3,⟨3,1,[i6 c3]⟩)] tt->Fx tt σ [(b1,⟨26,5,[i6 a0.kind,.str a0.name,i6 a0.num,sf cI a0.sc,sf KY a0.kids]⟩)] []->Q (.ex 0) ⟨T,σ⟩)->True->∀(T:TT) (σ tt:Sto),T 1=.fn 193 [.ptr e0 0,.ptr e1 0,.ptr e2 0,.ptr e3 0]/\T 10=sf KY a0.kids/\T 11=i6 (a0.kids.length:Int)/\T 12=i6 Ia->Tau tt0 [(e0,⟨4,1,[.bool VV]⟩),(e1,⟨24,1,[sf KY c1]⟩),(e2,⟨23,1,[sf cI c2]⟩),(e3,⟨3,1,[i6 c3]⟩)] tt->Fx tt σ [(b1,⟨26,5,[i6 a0.kind,.str a0.name,i6 a0.num,sf cI a0.sc,sf KY a0.kids]⟩)] []->aLp KZ c Q ⟨T,σ⟩) ?_ ?_
 ·intro YZ L0 a0 c0 r H;intro e0 e1 e2 e3  σ hP;refine hdg mixed Tryz.func26 (rs:=[]) fun q tT=>?_;obtain ⟨hF,hX⟩:=hP.start;generalize strip σ []=tt0 at hF hX ⊢;refine go ?_;refine Ya hF rfl fun b1 ss2 hF=>?_;refine go ?_;obtain ⟨x8,hx8,H⟩:=bnd H;refine cx (Mn a0 c0 c1 c2 c3 _ hx8 e0 e1 e2 e3  _ (pre 0 4 0 hF hX)) ?_;rintro _ ss3 ⟨tt4,rfl,hT,hG⟩;obtain ⟨tt5,hX,hF⟩:=aft 0 4 0 hF hX hT hG;refine go ?_;obtain ⟨o12,ho12,H⟩:=bnd H;refine L0 a0 0 x8 _ ho12 _ rfl _ tt0 e0 e1 e2 e3 b1 ?_ ?_ _ _ _  S hX hF
  ·intro Qa9 he T14 s15 t16 tT hX hF;have he:=he.symm;subst he;refine go ?_;have e:=pur H;subst e;exact rg _ ⟨_,rfl,hX,K4 _⟩
  ·trivial
 ·intro Y0 YZ C0 L0 a0 Ia VV out H c hc Q tt0 e0 e1 e2 e3 b1 hE hR T σ tt tT hX hF;refine lpy hc rfl fun q=>go ?_;refine cdp H (fun h H=>?_) (fun h H=>?_)
  ·obtain ⟨x14,f1,H⟩:=bil (g:=KY) Fm.X7 H;refine go1 ?_;refine Ya hF rfl fun b6 s7 hF=>?_;refine go ?_;refine st hF 0 rfl fun s8 hF=>?_;refine go ?_;obtain ⟨x18,hx18,H⟩:=bnd H;refine cx (C0 x14 VV _ hx18 e0 e1 e2 e3  _ (pre 0 4 0 hF hX)) ?_;rintro _ s9 ⟨t10,rfl,hT,hG⟩;obtain ⟨t11,hX,hF⟩:=aft 0 4 0 hF hX hT hG;refine go ?_;exact L0 a0 (i64.wrap (Ia+1)) x18 _ H _ rfl Q tt0 e0 e1 e2 e3 b1 hE hR _ _ _  S hX (hF.drop 1 0)
  ·refine go ?_;exact wq (hE _ (pur H).symm _ _ _  S hX hF)
theorem PL:∀(a0:Fm) (a1:List Fm) (a2:List Int) (a3:Int) r,HC a0 a1 a2 a3=some r->VK KZ 169 [.agg (KY a0),sf KY a1,sf cI a2,i6 a3] (.bool r):=by
 intro a0 a1 a2 a3;revert a0 a3;refine HC.partial_correctness a1 a2 (motive_1:=fun a0 a3 r=>VK KZ 169 [.agg (KY a0),sf KY a1,sf cI a2,i6 a3] (.bool r)) (motive_2:=fun a0 a3 Ah out=>∀c,Yg Tryz.f169 0=some c->∀(Q:QT) (tt:Sto) (b1 b3 b5 b7:Nat),(∀(_u:Unit),out=Sum.inr ()->∀(T:TT) (σ:Sto),0+0=0->Fx tt σ [(b7,⟨3,1,[i6 a3]⟩),(b5,⟨23,1,[sf cI a2]⟩),(b3,⟨24,1,[sf KY a1]⟩),(b1,⟨26,5,[i6 a0.kind,.str a0.name,i6 a0.num,sf cI a0.sc,sf KY a0.kids]⟩)] []->Q (.ex 0) ⟨T,σ⟩)->(∀r,out=Sum.inl r->∀s',I7 KZ [.tmp 8] (fun r' ss'=>r'=.bool r/\ss'=tt) s'->Q .ret s')->∀(T:TT) (σ:Sto),T 4=.ptr b1 0/\T 5=.ptr b3 0/\T 6=.ptr b5 0/\T 7=.ptr b7 0/\T 20=sf KY a0.kids/\T 21=i6 (a0.kids.length:Int)/\T 22=i6 Ah->Fx tt σ [(b7,⟨3,1,[i6 a3]⟩),(b5,⟨23,1,[sf cI a2]⟩),(b3,⟨24,1,[sf KY a1]⟩),(b1,⟨26,5,[i6 a0.kind,.str a0.name,i6 a0.num,sf cI a0.sc,sf KY a0.kids]⟩)] []->aLp KZ c Q ⟨T,σ⟩) ?_ ?_
 ·intro WY L0 a0 a3 r H;intro σ;refine hdg mixed Tryz.func169 (rs:=[.tmp 8]) fun q tT=>?_;have hF:=K2 σ;have hX:=Tau.none σ;refine go ?_;refine Ya hF rfl fun b1 ss2 hF=>?_;refine go ?_;refine Ya hF rfl fun b3 ss4 hF=>?_;refine go ?_;refine Ya hF rfl fun b5 ss6 hF=>?_;refine go ?_;refine Ya hF rfl fun b7 s8 hF=>?_;refine go ?_;refine Yj E0 [.v,.v,.v,.v,.v,.v] (by kernel_rfl) ?_;refine go ?_;refine bp H (Ew a1 a2 a0) fun x16 h H=>cv h ?_;refine go ?_;refine cdp H (fun h H=>?_) (fun h H=>?_)
  ·refine go ?_;have e:=pur H;subst e;exact rt _
  ·refine go ?_;obtain ⟨o20,ho20,H⟩:=bnd H;refine L0 a0 a3 0 _ ho20 _ rfl _ _ b1 b3 b5 b7 ?_ ?_ _ _  S hF
   ·intro _ he T22 s23 tT hF;have he:=he.symm;subst he
    try dsimp only at H
    refine go ?_;have e:=pur H;subst e;exact rt _
   ·intro r hr s' hs;subst hr;have e:=pur H;subst e;exact hsq hs
 ·intro HC WY C0 L0 a0 a3 Ah out H c hc Q tt b1 b3 b5 b7 hE hR T σ tT hF;refine lpx tt hc rfl fun q hX=>go ?_;refine cdp H (fun h H=>?_) (fun h H=>?_)
  ·obtain ⟨x25,f1,H⟩:=bil (g:=KY) Fm.X7 H;refine go1 ?_;refine Ya hF rfl fun b9 s10 hF=>?_;refine go ?_;refine st hF 0 rfl fun s11 hF=>?_;refine go ?_;refine bp H (Hi x25 (Qk #[46,46,46])) fun x28 h H=>cl h ?_;refine go ?_;refine cdb H (fun h H=>?_) (fun h H=>?_)
   ·refine go ?_;exact L0 a0 a3 (i64.wrap (Ah+1)) _ H _ rfl Q tt b1 b3 b5 b7 hE hR _ _  S (hF.drop 1 0)
   ·refine go ?_;obtain ⟨x44,g12,H⟩:=bnd H;refine Yc 7 37 44 (.bool x44) (gi q (fun q=>?_) (fun q=>?_)) (fun J=>?_)
    ·rw [if_pos (dt q)] at g12;obtain ⟨x41,f1,g12⟩:=bil (g:=KY) Fm.X7 g12;refine go1 ?_;obtain ⟨x43,hx43,g12⟩:=bnd g12;refine cl (Hi x41 (Qk #[46,46,46]) _ hx43) ?_;refine go ?_;exact Yr 37 g12
    ·rw [if_neg (df q)] at g12;refine go ?_;exact Yr 37 g12
    refine go ?_;refine cdb H (fun h H=>?_) (fun h H=>?_)
    ·refine go ?_;refine Ya hF rfl fun b14 s15 hF=>?_;refine go ?_;refine st hF 0 rfl fun s16 hF=>?_;refine go ?_;have hF:=pck hF [0,4,3,2,1,5] [];obtain ⟨x49,hx49,H⟩:=bnd H;refine cx (Bh x25 false a1 a2 a3 _ hx49 b14 b3 b5 b7  _ (pre 4 0 0 hF hX)) ?_;rintro _ s17 ⟨t18,rfl,hT,hG⟩;have hF:=DL 4 0 hF hX hT hG;have hF:=pck hF [0,4,3,2,1,5] [];refine go ?_;refine cdb H (fun h H=>?_) (fun h H=>?_)
     ·refine go ?_;exact wq (hR _ (pur H).symm _ (rt _))
     ·refine go ?_;obtain ⟨x56,hx56,H⟩:=bnd H;refine cl (C0 x25 (i64.wrap (a3+1)) _ hx56) ?_;refine go ?_;refine cdb H (fun h H=>?_) (fun h H=>?_)
      ·refine go ?_;exact wq (hR _ (pur H).symm _ (rt _))
      ·refine go ?_;exact L0 a0 a3 (i64.wrap (Ah+1)) _ H _ rfl Q tt b1 b3 b5 b7 hE hR _ _  S (hF.drop 2 0)
    ·refine go ?_;obtain ⟨Qk7,hx56_1,H⟩:=bnd H;refine cl (C0 x25 a3 _ hx56_1) ?_;refine go ?_;refine cdb H (fun h H=>?_) (fun h H=>?_)
     ·refine go ?_;exact wq (hR _ (pur H).symm _ (rt _))
     ·refine go ?_;exact L0 a0 a3 (i64.wrap (Ah+1)) _ H _ rfl Q tt b1 b3 b5 b7 hE hR _ _  S (hF.drop 1 0)
  ·refine go ?_;exact wq (hE () (pur H).symm _ _  S hF)
theorem LC:∀(a0:Fm) (a1:List Fm) (a2:List Int) r,IX a0 a1 a2=some r->VK KZ 148 [.agg (KY a0),sf KY a1,sf cI a2] (.bool r):=by
 intro a0 a1 a2 r H;intro σ;unfold IX at H;refine hdg mixed Tryz.func148 (rs:=[.tmp 6]) fun q tT=>?_;have hF:=K2 σ;have hX:=Tau.none σ;refine go ?_;refine Ya hF rfl fun b1 ss2 hF=>?_;refine go ?_;refine bp H (Bk a0) fun x8 h H=>cl h ?_;refine go ?_;obtain ⟨x13,g3,H⟩:=bnd H;refine Yc 3 10 13 (.bool x13) (gi q (fun q=>?_) (fun q=>?_)) (fun J=>?_)
 ·rw [if_pos (dbt q)] at g3;refine go ?_;obtain ⟨x11,hx11,g3⟩:=bnd g3;refine cl (Hi a0 (Qk #[46,46,46]) _ hx11) ?_;refine go ?_;exact Yr 10 g3
 ·rw [if_neg (dbf q)] at g3;refine go ?_;exact Yr 10 g3
 refine go ?_;obtain ⟨x17,g5,H⟩:=bnd H;refine Yc 2 15 17 (.bool x17) (gi q (fun q=>?_) (fun q=>?_)) (fun J=>?_)
 ·rw [if_pos (dbt q)] at g5;refine go ?_;obtain ⟨x16,hx16,g5⟩:=bnd g5;refine cl (Fs a0 false _ hx16) ?_;refine go ?_;exact Yr 15 g5
 ·rw [if_neg (dbf q)] at g5;refine go ?_;exact Yr 15 g5
 refine go ?_;obtain ⟨x23,g7,H⟩:=bnd H;refine Yc 4 19 23 (.bool x23) (gi q (fun q=>?_) (fun q=>?_)) (fun J=>?_)
 ·rw [if_pos (dbt q)] at g7;refine go ?_;obtain ⟨x22,hx22,g7⟩:=bnd g7;refine cl (PL a0 a1 a2 0 _ hx22) ?_;refine go ?_;exact Yr 19 g7
 ·rw [if_neg (dbf q)] at g7;refine go ?_;exact Yr 19 g7
 refine go ?_;have e:=pur H;subst e;exact rt _
theorem Mj:∀(a0:Rul) (a1:List Fm) r,Am a0 a1=some r->VK KZ 119 [.agg (K5 a0),sf KY a1] (.bool r):=by
 intro a0 a1 r H;intro σ;unfold Am at H;refine hdg mixed Tryz.func119 (rs:=[.tmp 4]) fun q tT=>?_;have hF:=K2 σ;have hX:=Tau.none σ;refine go ?_;refine Ya hF rfl fun b1 ss2 hF=>?_;refine go ?_;refine bp H (Ff a0.pat a1) fun x10 h H=>cl h ?_;refine go ?_;obtain ⟨x17,g3,H⟩:=bnd H;refine Yc 4 13 17 (.bool x17) (giN q (fun q=>?_) (fun q=>?_)) (fun J=>?_)
 ·refine go ?_;exact Yr 13 g3
 ·refine go ?_;exact Yr 13 g3
 refine go ?_;obtain ⟨x24,g5,H⟩:=bnd H;refine Yc 5 19 24 (.bool x24) (giN q (fun q=>?_) (fun q=>?_)) (fun J=>?_)
 ·refine go ?_;exact Yr 19 g5
 ·refine go ?_;exact Yr 19 g5
 refine go ?_;refine cdb H (fun h H=>?_) (fun h H=>?_)
 ·refine go ?_;have e:=pur H;subst e;exact rt _
 ·refine go ?_;refine bp H (Fu a0.pat a1) fun x29 h H=>cl h ?_;refine go ?_;refine bp H (LC a0.tpl x29.1 x29.2) fun x36 h H=>cl h ?_;refine go ?_;have e:=pur H;subst e;exact rt _
theorem LB:∀(a0:Rul) (c0:List Fm) r,IW a0 c0=some r->∀(e0:Nat)  (σ:Sto),Pre σ [(e0,⟨24,1,[sf KY c0]⟩)] []->Ctr KZ 118 [.agg (K5 a0),.ptr e0 0] σ (fun r' ss'=>∃(tt':Sto),r'=.bool r/\Tau (strip σ []) [(e0,⟨24,1,[sf KY c0]⟩)] tt'/\Fx tt' ss' [] []):=by
 intro a0 c0 r H;intro e0  σ hP;unfold IW at H;refine hdg mixed Tryz.func118 (rs:=[.tmp 3]) fun q tT=>?_;obtain ⟨hF,hX⟩:=hP.start;generalize strip σ []=tt0 at hF hX ⊢;refine go ?_;refine Ya hF rfl fun b1 ss2 hF=>?_;refine go ?_;refine bp H (Mj a0 c0) fun x6 h H=>cl h ?_;refine go ?_;have e:=pur H;subst e;exact rg _ ⟨_,rfl,hX,K4 _⟩
theorem Hc:∀(a0:List Rul) (c0:List Fm) (Yh:Int) out,Yt a0 c0 Yh=some out->∀c,Yg Tryz.f145 0=some c->∀(Q:QT) (tt0:Sto) (e0:Nat),(∀(_u:Unit),out=Sum.inr ()->∀(T:TT) (σ tt:Sto),0+0=0->Tau tt0 [(e0,⟨24,1,[sf KY c0]⟩)] tt->Fx tt σ [] []->Q (.ex 0) ⟨T,σ⟩)->(∀r,out=Sum.inl r->∀s',I7 KZ [.tmp 4] (fun r' ss'=>∃(tt':Sto),r'=i6 r/\Tau tt0 [(e0,⟨24,1,[sf KY c0]⟩)] tt'/\Fx tt' ss' [] []) s'->Q .ret s')->∀(T:TT) (σ tt:Sto),T 0=sf K5 a0/\T 1=.fn 118 [.ptr e0 0]/\T 7=i6 (a0.length:Int)/\T 8=i6 Yh->Tau tt0 [(e0,⟨24,1,[sf KY c0]⟩)] tt->Fx tt σ [] []->aLp KZ c Q ⟨T,σ⟩:=by
 intro a0 c0 Yh;revert Yh;refine Yt.partial_correctness a0 c0 _ ?_;intro Yt IH Yh out H c hc Q tt0 e0 hE hR T σ tt tT hX hF;refine lpy hc rfl fun q=>go ?_;refine cdp H (fun h H=>?_) (fun h H=>?_)
 ·obtain ⟨x14,f1,H⟩:=bil (g:=K5) Rul.X7 H;refine go1 ?_;obtain ⟨x16,hx16,H⟩:=bnd H;refine cx (LB x14 c0 _ hx16 e0  _ (pre 0 1 0 hF hX)) ?_;rintro _ ss1 ⟨tt2,rfl,hT,hG⟩;obtain ⟨tt3,hX,hF⟩:=aft 0 1 0 hF hX hT hG;refine go ?_;refine cdb H (fun h H=>?_) (fun h H=>?_)
  ·refine go ?_;exact wq (hR _ (pur H).symm _ (rg _ ⟨_,rfl,hX,K4 _⟩))
  ·refine go ?_;exact IH  (i64.wrap (Yh+1)) _ H _ rfl Q tt0 e0 hE hR _ _ _  S hX hF
 ·refine go ?_;exact wq (hE () (pur H).symm _ _ _  S hX hF)
theorem HP:∀(a0:List Rul) (c0:List Fm) r,Vs a0 c0=some r->∀(e0:Nat)  (σ:Sto),Pre σ [(e0,⟨24,1,[sf KY c0]⟩)] []->Ctr KZ 145 [sf K5 a0,.fn 118 [.ptr e0 0]] σ (fun r' ss'=>∃(tt':Sto),r'=i6 r/\Tau (strip σ []) [(e0,⟨24,1,[sf KY c0]⟩)] tt'/\Fx tt' ss' [] []):=by
 intro a0 c0 r H;intro e0  σ hP;unfold Vs at H;refine hdg mixed Tryz.func145 (rs:=[.tmp 4]) fun q tT=>?_;obtain ⟨hF,hX⟩:=hP.start;generalize strip σ []=tt0 at hF hX ⊢;refine go ?_;obtain ⟨o4,ho4,H⟩:=bnd H;refine Hc a0 c0 0 _ ho4 _ rfl _ tt0 e0 ?_ ?_ _ _ _  S hX hF
 ·intro _ he T6 s7 t8 tT hX hF;have he:=he.symm;subst he
  try dsimp only at H
  refine go ?_;have e:=pur H;subst e;exact rg _ ⟨_,rfl,hX,K4 _⟩
 ·intro r hr s' hs;subst hr;have e:=pur H;subst e;exact hsq hs
theorem G9:∀(a0:List Rul) (c0:List Fm) r,Vg a0 c0=some r->∀(e0:Nat)  (σ:Sto),Pre σ [(e0,⟨24,1,[sf KY c0]⟩)] []->Ctr KZ 117 [sf K5 a0,.fn 118 [.ptr e0 0]] σ (fun r' ss'=>∃(tt':Sto),r'=.bool r/\Tau (strip σ []) [(e0,⟨24,1,[sf KY c0]⟩)] tt'/\Fx tt' ss' [] []):=by
 intro a0 c0 r H;intro e0  σ hP;unfold Vg at H;refine hdg mixed Tryz.func117 (rs:=[.tmp 4]) fun q tT=>?_;obtain ⟨hF,hX⟩:=hP.start;generalize strip σ []=tt0 at hF hX ⊢;refine go ?_;obtain ⟨x7,hx7,H⟩:=bnd H;refine cx (HP a0 c0 _ hx7 e0  _ (pre 0 1 0 hF hX)) ?_;rintro _ ss1 ⟨tt2,rfl,hT,hG⟩;obtain ⟨tt3,hX,hF⟩:=aft 0 1 0 hF hX hT hG;refine go ?_;have e:=pur H;subst e;exact rg _ ⟨_,rfl,hX,K4 _⟩
theorem OF:∀(a0:List Rul) (a1:List Fm) r,AK a0 a1=some r->VK KZ 82 [sf K5 a0,sf KY a1] (.bool r):=by
 intro a0 a1 r H;intro σ;unfold AK at H;refine hdg mixed Tryz.func82 (rs:=[.tmp 4]) fun q tT=>?_;have hF:=K2 σ;have hX:=Tau.none σ;refine go ?_;refine Ya hF rfl fun b1 ss2 hF=>?_;refine go ?_;obtain ⟨x11,g3,H⟩:=bnd H;refine Yc 2 9 11 (.bool x11) (gi q (fun q=>?_) (fun q=>?_)) (fun J=>?_)
 ·rw [if_pos (dt q)] at g3;refine go ?_;obtain ⟨x10,hx10,g3⟩:=bnd g3;refine cl (CQ a1 _ hx10) ?_;refine go ?_;exact Yr 9 g3
 ·rw [if_neg (df q)] at g3;refine go ?_;exact Yr 9 g3
 refine go ?_;refine gi q (fun q=>?_) (fun q=>?_)
 ·rw [if_pos (dbt q)] at H;refine go ?_;obtain ⟨EY,hx15_1,H⟩:=bnd H;refine cx (G9 a0 a1 _ hx15_1 b1  _ (pre 1 0 0 hF hX)) ?_;rintro _ s10 ⟨t11,rfl,hT,hG⟩;have hF:=DL 1 0 hF hX hT hG;refine go ?_;have e:=pur H;subst e;exact rt _
 ·rw [if_neg (dbf q)] at H;refine go ?_;have e:=pur H;subst e;exact rt _
theorem LA:∀(a0:Mac) (c0:Int) r,IV a0 c0=some r->∀(e0:Nat)  (σ:Sto),Pre σ [(e0,⟨3,1,[i6 c0]⟩)] []->Ctr KZ 89 [.agg (Zc a0),.ptr e0 0] σ (fun r' ss'=>∃(tt':Sto),r'=.bool r/\Tau (strip σ []) [(e0,⟨3,1,[i6 c0]⟩)] tt'/\Fx tt' ss' [] []):=by
 intro a0 c0 r H;intro e0  σ hP;unfold IV at H;refine hdg mixed Tryz.func89 (rs:=[.tmp 3]) fun q tT=>?_;obtain ⟨hF,hX⟩:=hP.start;generalize strip σ []=tt0 at hF hX ⊢;refine go ?_;refine Ya hF rfl fun b1 ss2 hF=>?_;refine go ?_;have e:=pur H;subst e;exact rg _ ⟨_,rfl,hX,K4 _⟩
theorem GU:∀(a0:List Mac) (c0 Yh:Int) out,Yq a0 c0 Yh=some out->∀c,Yg Tryz.f88 0=some c->∀(Q:QT) (tt0:Sto) (e0:Nat),(∀(_u:Unit),out=Sum.inr ()->∀(T:TT) (σ tt:Sto),0+0=0->Tau tt0 [(e0,⟨3,1,[i6 c0]⟩)] tt->Fx tt σ [] []->Q (.ex 0) ⟨T,σ⟩)->(∀r,out=Sum.inl r->∀s',I7 KZ [.tmp 4] (fun r' ss'=>∃(tt':Sto),r'=i6 r/\Tau tt0 [(e0,⟨3,1,[i6 c0]⟩)] tt'/\Fx tt' ss' [] []) s'->Q .ret s')->∀(T:TT) (σ tt:Sto),T 0=sf Zc a0/\T 1=.fn 89 [.ptr e0 0]/\T 7=i6 (a0.length:Int)/\T 8=i6 Yh->Tau tt0 [(e0,⟨3,1,[i6 c0]⟩)] tt->Fx tt σ [] []->aLp KZ c Q ⟨T,σ⟩:=by
 intro a0 c0 Yh;revert Yh;refine Yq.partial_correctness a0 c0 _ ?_;intro Yq IH Yh out H c hc Q tt0 e0 hE hR T σ tt tT hX hF;refine lpy hc rfl fun q=>go ?_;refine cdp H (fun h H=>?_) (fun h H=>?_)
 ·obtain ⟨x14,f1,H⟩:=bil (g:=Zc) Mac.X7 H;refine go1 ?_;obtain ⟨x16,hx16,H⟩:=bnd H;refine cx (LA x14 c0 _ hx16 e0  _ (pre 0 1 0 hF hX)) ?_;rintro _ ss1 ⟨tt2,rfl,hT,hG⟩;obtain ⟨tt3,hX,hF⟩:=aft 0 1 0 hF hX hT hG;refine go ?_;refine cdb H (fun h H=>?_) (fun h H=>?_)
  ·refine go ?_;exact wq (hR _ (pur H).symm _ (rg _ ⟨_,rfl,hX,K4 _⟩))
  ·refine go ?_;exact IH  (i64.wrap (Yh+1)) _ H _ rfl Q tt0 e0 hE hR _ _ _  S hX hF
 ·refine go ?_;exact wq (hE () (pur H).symm _ _ _  S hX hF)
theorem Hl:∀(a0:List Mac) (c0:Int) r,Vk a0 c0=some r->∀(e0:Nat)  (σ:Sto),Pre σ [(e0,⟨3,1,[i6 c0]⟩)] []->Ctr KZ 88 [sf Zc a0,.fn 89 [.ptr e0 0]] σ (fun r' ss'=>∃(tt':Sto),r'=i6 r/\Tau (strip σ []) [(e0,⟨3,1,[i6 c0]⟩)] tt'/\Fx tt' ss' [] []):=by
 intro a0 c0 r H;intro e0  σ hP;unfold Vk at H;refine hdg mixed Tryz.func88 (rs:=[.tmp 4]) fun q tT=>?_;obtain ⟨hF,hX⟩:=hP.start;generalize strip σ []=tt0 at hF hX ⊢;refine go ?_;obtain ⟨o4,ho4,H⟩:=bnd H;refine GU a0 c0 0 _ ho4 _ rfl _ tt0 e0 ?_ ?_ _ _ _  S hX hF
 ·intro _ he T6 s7 t8 tT hX hF;have he:=he.symm;subst he
  try dsimp only at H
  refine go ?_;have e:=pur H;subst e;exact rg _ ⟨_,rfl,hX,K4 _⟩
 ·intro r hr s' hs;subst hr;have e:=pur H;subst e;exact hsq hs
theorem Cd:∀(a0:List Mac) (a1:Int) r,Ig a0 a1=some r->VK KZ 52 [sf Zc a0,i6 a1] (i6 r):=by
 intro a0 a1 r H;intro σ;unfold Ig at H;refine hdg mixed Tryz.func52 (rs:=[.tmp 4]) fun q tT=>?_;have hF:=K2 σ;have hX:=Tau.none σ;refine go ?_;refine Ya hF rfl fun b1 ss2 hF=>?_;refine go ?_;obtain ⟨x7,hx7,H⟩:=bnd H;refine cx (Hl a0 a1 _ hx7 b1  _ (pre 1 0 0 hF hX)) ?_;rintro _ ss3 ⟨tt4,rfl,hT,hG⟩;have hF:=DL 1 0 hF hX hT hG;refine go ?_;have e:=pur H;subst e;exact rt _
theorem Da:∀(a0:Xpn) (Bj:Int) out,Vx a0 Bj=some out->∀c,Yg Tryz.f46 0=some c->∀(Q:QT) (tt:Sto) (b1:Nat),(∀(_u:Unit),out=Sum.inr ()->∀(T:TT) (σ:Sto),0+0=0->Fx tt σ [(b1,⟨42,5,[sf K0 a0.binds,sf Zc a0.macs,i6 a0.scope,i6 a0.id,i6 a0.steps]⟩)] []->Q (.ex 0) ⟨T,σ⟩)->(∀r,out=Sum.inl r->∀s',I7 KZ [.tmp 2] (fun r' ss'=>r'=.bool r/\ss'=tt) s'->Q .ret s')->∀(T:TT) (σ:Sto),T 1=.ptr b1 0/\T 38=sf Zc a0.macs/\T 39=i6 (a0.macs.length:Int)/\T 40=i6 Bj->Fx tt σ [(b1,⟨42,5,[sf K0 a0.binds,sf Zc a0.macs,i6 a0.scope,i6 a0.id,i6 a0.steps]⟩)] []->aLp KZ c Q ⟨T,σ⟩:=by
 intro a0 Bj;revert Bj;refine Vx.partial_correctness a0 _ ?_;intro Vx IH Bj out H c hc Q tt b1 hE hR T σ tT hF;refine lpx tt hc rfl fun q hX=>go ?_;refine cdp H (fun h H=>?_) (fun h H=>?_)
 ·obtain ⟨x43,f1,H⟩:=bil (g:=Zc) Mac.X7 H;refine go1 ?_;refine Ya hF rfl fun b14 s15 hF=>?_;refine go ?_;refine st hF 0 rfl fun s16 hF=>?_;refine go ?_;refine Yj E0 [.v,.v,.v,.v,.v,.v,.v,.v,.v,.v,.v,.v,.v,.v,.v,.v,.v,.v,.v,.v,.v,.v,.v,.v] (by kernel_rfl) ?_;refine go ?_;refine bp H (OF x43.rules x43.lits) fun x49 h H=>cv h ?_;refine go ?_;obtain ⟨x58,g17,H⟩:=bnd H;refine VU 6 52 58 (.bool x58) (tiN q (fun q=>?_) (fun q=>?_)) (fun J=>?_)
  ·rw [if_neg (dbf q)] at g17;refine go ?_;obtain ⟨x56,hx56,g17⟩:=bnd g17;refine cv (WZ x43.id 11 a0.id _ hx56) ?_;refine go ?_;exact Yr 52 g17
  ·rw [if_pos (dbt q)] at g17;refine go ?_;exact Yr 52 g17
  refine go ?_;obtain ⟨x68,g19,H⟩:=bnd H;refine VU 8 60 68 (.bool x68) (tiN q (fun q=>?_) (fun q=>?_)) (fun J=>?_)
  ·rw [if_neg (dbf q)] at g19;obtain ⟨x63,f1,g19⟩:=bls (g:=Zc) Mac.X7 (lo:=none) (hi:=some (i6 Bj)) rfl rfl g19;refine go1 ?_;obtain ⟨x66,hx66,g19⟩:=bnd g19;refine cv (Cd x63 x43.id _ hx66) ?_;refine go ?_;exact Yr 60 g19
  ·rw [if_pos (dbt q)] at g19;refine go ?_;exact Yr 60 g19
  refine go ?_;refine cdb H (fun h H=>?_) (fun h H=>?_)
  ·refine go ?_;exact wq (hR _ (pur H).symm _ (rt _))
  ·refine go ?_;exact IH  (i64.wrap (Bj+1)) _ H _ rfl Q tt b1 hE hR _ _  S (hF.drop 1 0)
 ·refine go ?_;exact wq (hE () (pur H).symm _ _  S hF)
theorem Bi:∀(a0:Xpn) r,Jv a0=some r->VK KZ 46 [.agg (K8 a0)] (.bool r):=by
 intro a0 r H;intro σ;unfold Jv at H;refine hdg mixed Tryz.func46 (rs:=[.tmp 2]) fun q tT=>?_;have hF:=K2 σ;have hX:=Tau.none σ;refine go ?_;refine Ya hF rfl fun b1 ss2 hF=>?_;refine go ?_;refine bp H (Lw a0.binds) fun x7 h H=>cl h ?_;refine go ?_;obtain ⟨x14,g3,H⟩:=bnd H;refine Yc 4 10 14 (.bool x14) (giN q (fun q=>?_) (fun q=>?_)) (fun J=>?_)
 ·rw [if_neg (dbf q)] at g3;refine go ?_;obtain ⟨x12,hx12,g3⟩:=bnd g3;refine cl (WZ a0.scope 0 99 _ hx12) ?_;refine go ?_;exact Yr 10 g3
 ·rw [if_pos (dbt q)] at g3;refine go ?_;exact Yr 10 g3
 refine go ?_;obtain ⟨x20,g5,H⟩:=bnd H;refine Yc 4 16 20 (.bool x20) (giN q (fun q=>?_) (fun q=>?_)) (fun J=>?_)
 ·rw [if_neg (dbf q)] at g5;refine go ?_;obtain ⟨x18,hx18,g5⟩:=bnd g5;refine cl (WZ a0.id 10 999 _ hx18) ?_;refine go ?_;exact Yr 16 g5
 ·rw [if_pos (dbt q)] at g5;refine go ?_;exact Yr 16 g5
 refine go ?_;obtain ⟨x26,g7,H⟩:=bnd H;refine Yc 4 22 26 (.bool x26) (giN q (fun q=>?_) (fun q=>?_)) (fun J=>?_)
 ·rw [if_neg (dbf q)] at g7;refine go ?_;obtain ⟨x24,hx24,g7⟩:=bnd g7;refine cl (WZ a0.steps 0 60 _ hx24) ?_;refine go ?_;exact Yr 22 g7
 ·rw [if_pos (dbt q)] at g7;refine go ?_;exact Yr 22 g7
 refine go ?_;obtain ⟨x32,g9,H⟩:=bnd H;refine Yc 4 28 32 (.bool x32) (giN q (fun q=>?_) (fun q=>?_)) (fun J=>?_)
 ·refine go ?_;exact Yr 28 g9
 ·refine go ?_;exact Yr 28 g9
 refine go ?_;refine cdb H (fun h H=>?_) (fun h H=>?_)
 ·refine go ?_;have e:=pur H;subst e;exact rt _
 ·refine go ?_;obtain ⟨x36,hx36,H⟩:=bnd H;refine cx (JW a0.binds a0 _ hx36 b1  _ (pre 1 0 0 hF hX)) ?_;rintro _ s11 ⟨t12,rfl,hT,hG⟩;have hF:=DL 1 0 hF hX hT hG;refine go ?_;refine cdb H (fun h H=>?_) (fun h H=>?_)
  ·refine go ?_;have e:=pur H;subst e;exact rt _
  ·refine go ?_;obtain ⟨o21,ho21,H⟩:=bnd H;refine Da a0 0 _ ho21 _ rfl _ _ b1 ?_ ?_ _ _  S hF
   ·intro _ he T23 s24 tT hF;have he:=he.symm;subst he
    try dsimp only at H
    refine go ?_;have e:=pur H;subst e;exact rt _
   ·intro r hr s' hs;subst hr;have e:=pur H;subst e;exact hsq hs
theorem CJ:∀(a0:List Int) (a1 Yh:Int) out,Vt a0 a1 Yh=some out->∀c,Yg Tryz.f59 0=some c->∀(Q:QT) (tt:Sto),(∀(_u:Unit),out=Sum.inr ()->∀(T:TT) (σ:Sto),0+0=0->Fx tt σ [] []->Q (.ex 0) ⟨T,σ⟩)->(∀r,out=Sum.inl r->∀s',I7 KZ [.tmp 4] (fun r' ss'=>r'=i6 r/\ss'=tt) s'->Q .ret s')->∀(T:TT) (σ:Sto),T 0=sf cI a0/\T 1=i6 a1/\T 7=i6 (a0.length:Int)/\T 8=i6 Yh->Fx tt σ [] []->aLp KZ c Q ⟨T,σ⟩:=by
 intro a0 a1 Yh;revert Yh;refine Vt.partial_correctness a0 a1 _ ?_;intro Vt IH Yh out H c hc Q tt  hE hR T σ tT hF;refine lpx tt hc rfl fun q hX=>go ?_;refine cdp H (fun h H=>?_) (fun h H=>?_)
 ·obtain ⟨x14,f1,H⟩:=bil (g:=cI) (fun _=>rfl) H;refine go1 ?_;refine go ?_;refine cdp H (fun h H=>?_) (fun h H=>?_)
  ·refine go ?_;exact wq (hR _ (pur H).symm _ (rt _))
  ·refine go ?_;exact IH  (i64.wrap (Yh+1)) _ H _ rfl Q tt  hE hR _ _  S hF
 ·refine go ?_;exact wq (hE () (pur H).symm _ _  S hF)
theorem DZ:∀(a0:List Int) (a1:Int) r,HR a0 a1=some r->VK KZ 59 [sf cI a0,i6 a1] (i6 r):=by
 intro a0 a1 r H;intro σ;unfold HR at H;refine hdg mixed Tryz.func59 (rs:=[.tmp 4]) fun q tT=>?_;have hF:=K2 σ;have hX:=Tau.none σ;refine go ?_;obtain ⟨o1,ho1,H⟩:=bnd H;refine CJ a0 a1 0 _ ho1 _ rfl _ _  ?_ ?_ _ _  S hF
 ·intro _ he T3 ss4 tT hF;have he:=he.symm;subst he
  try dsimp only at H
  refine go ?_;have e:=pur H;subst e;exact rt _
 ·intro r hr s' hs;subst hr;have e:=pur H;subst e;exact hsq hs
theorem CH:∀(a0:List Int) (a1:Int) r,W8 a0 a1=some r->VK KZ 28 [sf cI a0,i6 a1] (.bool r):=by
 intro a0 a1 r H;intro σ;unfold W8 at H;refine hdg mixed Tryz.func28 (rs:=[.tmp 4]) fun q tT=>?_;have hF:=K2 σ;have hX:=Tau.none σ;refine go ?_;refine bp H (DZ a0 a1) fun x7 h H=>cl h ?_;refine go ?_;have e:=pur H;subst e;exact rt _
theorem DT:∀(a0:Int) (c0:List Int) r,Ge a0 c0=some r->∀(e0:Nat)  (σ:Sto),Pre σ [(e0,⟨23,1,[sf cI c0]⟩)] []->Ctr KZ 149 [i6 a0,.ptr e0 0] σ (fun r' ss'=>∃(tt':Sto),r'=.bool r/\Tau (strip σ []) [(e0,⟨23,1,[sf cI c0]⟩)] tt'/\Fx tt' ss' [] []):=by
 intro a0 c0 r H;intro e0  σ hP;unfold Ge at H;refine hdg mixed Tryz.func149 (rs:=[.tmp 3]) fun q tT=>?_;obtain ⟨hF,hX⟩:=hP.start;generalize strip σ []=tt0 at hF hX ⊢;refine go ?_;refine bp H (CH c0 a0) fun x6 h H=>cl h ?_;refine go ?_;have e:=pur H;subst e;exact rg _ ⟨_,rfl,hX,K4 _⟩
theorem GN:∀(a0 c0:List Int) (Yh:Int) out,Yo a0 c0 Yh=some out->∀c,Yg Tryz.f97 0=some c->∀(Q:QT) (tt0:Sto) (e0:Nat),(∀(_u:Unit),out=Sum.inr ()->∀(T:TT) (σ tt:Sto),0+0=0->Tau tt0 [(e0,⟨23,1,[sf cI c0]⟩)] tt->Fx tt σ [] []->Q (.ex 0) ⟨T,σ⟩)->(∀r,out=Sum.inl r->∀s',I7 KZ [.tmp 4] (fun r' ss'=>∃(tt':Sto),r'=i6 r/\Tau tt0 [(e0,⟨23,1,[sf cI c0]⟩)] tt'/\Fx tt' ss' [] []) s'->Q .ret s')->∀(T:TT) (σ tt:Sto),T 0=sf cI a0/\T 1=.fn 149 [.ptr e0 0]/\T 7=i6 (a0.length:Int)/\T 8=i6 Yh->Tau tt0 [(e0,⟨23,1,[sf cI c0]⟩)] tt->Fx tt σ [] []->aLp KZ c Q ⟨T,σ⟩:=by
 intro a0 c0 Yh;revert Yh;refine Yo.partial_correctness a0 c0 _ ?_;intro Yo IH Yh out H c hc Q tt0 e0 hE hR T σ tt tT hX hF;refine lpy hc rfl fun q=>go ?_;refine cdp H (fun h H=>?_) (fun h H=>?_)
 ·obtain ⟨x14,f1,H⟩:=bil (g:=cI) (fun _=>rfl) H;refine go1 ?_;obtain ⟨x16,hx16,H⟩:=bnd H;refine cx (DT x14 c0 _ hx16 e0  _ (pre 0 1 0 hF hX)) ?_;rintro _ ss1 ⟨tt2,rfl,hT,hG⟩;obtain ⟨tt3,hX,hF⟩:=aft 0 1 0 hF hX hT hG;refine go ?_;refine cdb H (fun h H=>?_) (fun h H=>?_)
  ·refine go ?_;exact wq (hR _ (pur H).symm _ (rg _ ⟨_,rfl,hX,K4 _⟩))
  ·refine go ?_;exact IH  (i64.wrap (Yh+1)) _ H _ rfl Q tt0 e0 hE hR _ _ _  S hX hF
 ·refine go ?_;exact wq (hE () (pur H).symm _ _ _  S hX hF)
theorem Hd:∀(a0 c0:List Int) r,Vi a0 c0=some r->∀(e0:Nat)  (σ:Sto),Pre σ [(e0,⟨23,1,[sf cI c0]⟩)] []->Ctr KZ 97 [sf cI a0,.fn 149 [.ptr e0 0]] σ (fun r' ss'=>∃(tt':Sto),r'=i6 r/\Tau (strip σ []) [(e0,⟨23,1,[sf cI c0]⟩)] tt'/\Fx tt' ss' [] []):=by
 intro a0 c0 r H;intro e0  σ hP;unfold Vi at H;refine hdg mixed Tryz.func97 (rs:=[.tmp 4]) fun q tT=>?_;obtain ⟨hF,hX⟩:=hP.start;generalize strip σ []=tt0 at hF hX ⊢;refine go ?_;obtain ⟨o4,ho4,H⟩:=bnd H;refine GN a0 c0 0 _ ho4 _ rfl _ tt0 e0 ?_ ?_ _ _ _  S hX hF
 ·intro _ he T6 s7 t8 tT hX hF;have he:=he.symm;subst he
  try dsimp only at H
  refine go ?_;have e:=pur H;subst e;exact rg _ ⟨_,rfl,hX,K4 _⟩
 ·intro r hr s' hs;subst hr;have e:=pur H;subst e;exact hsq hs
theorem GL:∀(a0 c0:List Int) r,Va a0 c0=some r->∀(e0:Nat)  (σ:Sto),Pre σ [(e0,⟨23,1,[sf cI c0]⟩)] []->Ctr KZ 121 [sf cI a0,.fn 149 [.ptr e0 0]] σ (fun r' ss'=>∃(tt':Sto),r'=.bool r/\Tau (strip σ []) [(e0,⟨23,1,[sf cI c0]⟩)] tt'/\Fx tt' ss' [] []):=by
 intro a0 c0 r H;intro e0  σ hP;unfold Va at H;refine hdg mixed Tryz.func121 (rs:=[.tmp 4]) fun q tT=>?_;obtain ⟨hF,hX⟩:=hP.start;generalize strip σ []=tt0 at hF hX ⊢;refine go ?_;obtain ⟨x7,hx7,H⟩:=bnd H;refine cx (Hd a0 c0 _ hx7 e0  _ (pre 0 1 0 hF hX)) ?_;rintro _ ss1 ⟨tt2,rfl,hT,hG⟩;obtain ⟨tt3,hX,hF⟩:=aft 0 1 0 hF hX hT hG;refine go ?_;have e:=pur H;subst e;exact rg _ ⟨_,rfl,hX,K4 _⟩
theorem BW:∀(a0 a1:List Int) r,Jw a0 a1=some r->VK KZ 123 [sf cI a0,sf cI a1] (.bool r):=by
 intro a0 a1 r H;intro σ;unfold Jw at H;refine hdg mixed Tryz.func123 (rs:=[.tmp 4]) fun q tT=>?_;have hF:=K2 σ;have hX:=Tau.none σ;refine go ?_;refine Ya hF rfl fun b1 ss2 hF=>?_;refine go ?_;obtain ⟨x7,hx7,H⟩:=bnd H;refine cx (GL a0 a1 _ hx7 b1  _ (pre 1 0 0 hF hX)) ?_;rintro _ ss3 ⟨tt4,rfl,hT,hG⟩;have hF:=DL 1 0 hF hX hT hG;refine go ?_;have e:=pur H;subst e;exact rt _
theorem Lz:∀(a0:List Bnd) (a1:Fm) (X9:List Int) (G5:Int) out,WB a0 a1 X9 G5=some out->∀c,Yg Tryz.f120 0=some c->∀(Q:QT) (tt:Sto) (b1:Nat),(∀(Vu:List Int),out=Vu->∀(T:TT) (σ:Sto) (e0v0:AV),T 5=e0v0->Fx tt σ [(b1,⟨26,5,[i6 a1.kind,.str a1.name,i6 a1.num,sf cI a1.sc,sf KY a1.kids]⟩)] [⟨e0v0,3,1,rws cI Vu⟩]->Q (.ex 0) ⟨T,σ⟩)->True->∀(T:TT) (σ:Sto) (z0v0:AV),T 3=.ptr b1 0/\T 5=z0v0/\T 9=sf K0 a0/\T 10=i6 (a0.length:Int)/\T 11=i6 G5->Fx tt σ [(b1,⟨26,5,[i6 a1.kind,.str a1.name,i6 a1.num,sf cI a1.sc,sf KY a1.kids]⟩)] [⟨z0v0,3,1,rws cI X9⟩]->aLp KZ c Q ⟨T,σ⟩:=by
 intro a0 a1 X9 G5;revert X9 G5;refine WB.partial_correctness a0 a1 _ ?_;intro WB IH X9 G5 out H c hc Q tt b1 hE hR T σ z0v0 tT hF;refine lpx tt hc rfl fun q hX=>go ?_;refine cdp H (fun h H=>?_) (fun h H=>?_)
 ·obtain ⟨x14,f1,H⟩:=bil (g:=K0) Bnd.X7 H;refine go1 ?_;refine Ya hF rfl fun b3 ss4 hF=>?_;refine go ?_;refine st hF 0 rfl fun ss5 hF=>?_;refine go ?_;obtain ⟨x27,g6,H⟩:=bnd H;refine Yc 5 22 27 (.bool x27) (gi q (fun q=>?_) (fun q=>?_)) (fun J=>?_)
  ·rw [if_pos (dt q)] at g6;refine go ?_;obtain ⟨x26,hx26,g6⟩:=bnd g6;refine cl (BW x14.sc a1.sc _ hx26) ?_;refine go ?_;exact Yr 22 g6
  ·rw [if_neg (df q)] at g6;refine go ?_;exact Yr 22 g6
  refine go ?_;refine cdb H (fun h H=>?_) (fun h H=>?_)
  ·refine go ?_;refine apd (g:=cI) hF 0 H (rdo (c:=true) (g:=cI) (fun _=>rfl)) fun x31 H v8 s9 hF=>?_;refine go ?_;exact IH  x31 (i64.wrap (G5+1)) _ H _ rfl Q tt b1 hE hR _ _ v8 S (hF.drop 1 0)
  ·refine go ?_;exact IH  X9 (i64.wrap (G5+1)) _ H _ rfl Q tt b1 hE hR _ _ z0v0 S (hF.drop 1 0)
 ·refine go ?_;exact wq (hE _ (pur H).symm _ _ z0v0 S hF)
theorem OC:∀(a0:List Bnd) (a1:Fm) r,BE a0 a1=some r->VK KZ 120 [sf K0 a0,.agg (KY a1)] (sf cI r):=by
 intro a0 a1 r H;intro σ;unfold BE at H;refine hdg mixed Tryz.func120 (rs:=[.tmp 4]) fun q tT=>?_;have hF:=K2 σ;have hX:=Tau.none σ;refine go ?_;refine Ya hF rfl fun b1 ss2 hF=>?_;have hF:=hF.lit 3 1 (rws cI []) rfl;refine go ?_;obtain ⟨o10,ho10,H⟩:=bnd H;refine Lz a0 a1 [] 0 _ ho10 _ rfl _ _ b1 ?_ ?_ _ _ (.sl true (rws cI [])) S hF
 ·intro Qle he T12 s13 e11v0 tT hF;have he:=he.symm;subst he;refine go ?_;have e:=pur H;subst e;exact rt _
 ·trivial
theorem Nm:∀(a0:Int) (c0:List Bnd) (c1:Int) r,A2 a0 c0 c1=some r->∀(e0 e1:Nat)  (σ:Sto),Pre σ [(e0,⟨39,1,[sf K0 c0]⟩),(e1,⟨3,1,[i6 c1]⟩)] []->Ctr KZ 122 [i6 a0,.ptr e0 0,.ptr e1 0] σ (fun r' ss'=>∃(tt':Sto),r'=.bool r/\Tau (strip σ []) [(e0,⟨39,1,[sf K0 c0]⟩),(e1,⟨3,1,[i6 c1]⟩)] tt'/\Fx tt' ss' [] []):=by
 intro a0 c0 c1 r H;intro e0 e1  σ hP;unfold A2 at H;refine hdg mixed Tryz.func122 (rs:=[.tmp 4]) fun q tT=>?_;obtain ⟨hF,hX⟩:=hP.start;generalize strip σ []=tt0 at hF hX ⊢;refine go ?_;refine Yj E0 [.v,.v,.v,.v,.v,.v,.v,.v,.v,.v,.v,.v,.v] (by kernel_rfl) ?_;obtain ⟨x7,f1,H⟩:=bil (g:=K0) Bnd.X7 H;obtain ⟨x12,f2,H⟩:=bil (g:=K0) Bnd.X7 H;refine go2 ?_;refine bp H (BW x7.sc x12.sc) fun x15 h H=>cv h ?_;refine go ?_;have e:=pur H;subst e;exact rg _ ⟨_,rfl,hX,K4 _⟩
theorem HZ:∀(a0:List Int) (c0:List Bnd) (c1 Yh:Int) out,Yz a0 c0 c1 Yh=some out->∀c,Yg Tryz.f97 0=some c->∀(Q:QT) (tt0:Sto) (e0 e1:Nat),(∀(_u:Unit),out=Sum.inr ()->∀(T:TT) (σ tt:Sto),0+0=0->Tau tt0 [(e0,⟨39,1,[sf K0 c0]⟩),(e1,⟨3,1,[i6 c1]⟩)] tt->Fx tt σ [] []->Q (.ex 0) ⟨T,σ⟩)->(∀r,out=Sum.inl r->∀s',I7 KZ [.tmp 4] (fun r' ss'=>∃(tt':Sto),r'=i6 r/\Tau tt0 [(e0,⟨39,1,[sf K0 c0]⟩),(e1,⟨3,1,[i6 c1]⟩)] tt'/\Fx tt' ss' [] []) s'->Q .ret s')->∀(T:TT) (σ tt:Sto),T 0=sf cI a0/\T 1=.fn 122 [.ptr e0 0,.ptr e1 0]/\T 7=i6 (a0.length:Int)/\T 8=i6 Yh->Tau tt0 [(e0,⟨39,1,[sf K0 c0]⟩),(e1,⟨3,1,[i6 c1]⟩)] tt->Fx tt σ [] []->aLp KZ c Q ⟨T,σ⟩:=by
 intro a0 c0 c1 Yh;revert Yh;refine Yz.partial_correctness a0 c0 c1 _ ?_;intro Yz IH Yh out H c hc Q tt0 e0 e1 hE hR T σ tt tT hX hF;refine lpy hc rfl fun q=>go ?_;refine cdp H (fun h H=>?_) (fun h H=>?_)
 ·obtain ⟨x14,f1,H⟩:=bil (g:=cI) (fun _=>rfl) H;refine go1 ?_;obtain ⟨x16,hx16,H⟩:=bnd H;refine cx (Nm x14 c0 c1 _ hx16 e0 e1  _ (pre 0 2 0 hF hX)) ?_;rintro _ ss1 ⟨tt2,rfl,hT,hG⟩;obtain ⟨tt3,hX,hF⟩:=aft 0 2 0 hF hX hT hG;refine go ?_;refine cdb H (fun h H=>?_) (fun h H=>?_)
  ·refine go ?_;exact wq (hR _ (pur H).symm _ (rg _ ⟨_,rfl,hX,K4 _⟩))
  ·refine go ?_;exact IH  (i64.wrap (Yh+1)) _ H _ rfl Q tt0 e0 e1 hE hR _ _ _  S hX hF
 ·refine go ?_;exact wq (hE () (pur H).symm _ _ _  S hX hF)
theorem IB:∀(a0:List Int) (c0:List Bnd) (c1:Int) r,VG a0 c0 c1=some r->∀(e0 e1:Nat)  (σ:Sto),Pre σ [(e0,⟨39,1,[sf K0 c0]⟩),(e1,⟨3,1,[i6 c1]⟩)] []->Ctr KZ 97 [sf cI a0,.fn 122 [.ptr e0 0,.ptr e1 0]] σ (fun r' ss'=>∃(tt':Sto),r'=i6 r/\Tau (strip σ []) [(e0,⟨39,1,[sf K0 c0]⟩),(e1,⟨3,1,[i6 c1]⟩)] tt'/\Fx tt' ss' [] []):=by
 intro a0 c0 c1 r H;intro e0 e1  σ hP;unfold VG at H;refine hdg mixed Tryz.func97 (rs:=[.tmp 4]) fun q tT=>?_;obtain ⟨hF,hX⟩:=hP.start;generalize strip σ []=tt0 at hF hX ⊢;refine go ?_;obtain ⟨o4,ho4,H⟩:=bnd H;refine HZ a0 c0 c1 0 _ ho4 _ rfl _ tt0 e0 e1 ?_ ?_ _ _ _  S hX hF
 ·intro _ he T6 s7 t8 tT hX hF;have he:=he.symm;subst he
  try dsimp only at H
  refine go ?_;have e:=pur H;subst e;exact rg _ ⟨_,rfl,hX,K4 _⟩
 ·intro r hr s' hs;subst hr;have e:=pur H;subst e;exact hsq hs
theorem HW:∀(a0:List Int) (c0:List Bnd) (c1:Int) r,YY a0 c0 c1=some r->∀(e0 e1:Nat)  (σ:Sto),Pre σ [(e0,⟨39,1,[sf K0 c0]⟩),(e1,⟨3,1,[i6 c1]⟩)] []->Ctr KZ 121 [sf cI a0,.fn 122 [.ptr e0 0,.ptr e1 0]] σ (fun r' ss'=>∃(tt':Sto),r'=.bool r/\Tau (strip σ []) [(e0,⟨39,1,[sf K0 c0]⟩),(e1,⟨3,1,[i6 c1]⟩)] tt'/\Fx tt' ss' [] []):=by
 intro a0 c0 c1 r H;intro e0 e1  σ hP;unfold YY at H;refine hdg mixed Tryz.func121 (rs:=[.tmp 4]) fun q tT=>?_;obtain ⟨hF,hX⟩:=hP.start;generalize strip σ []=tt0 at hF hX ⊢;refine go ?_;obtain ⟨x7,hx7,H⟩:=bnd H;refine cx (IB a0 c0 c1 _ hx7 e0 e1  _ (pre 0 2 0 hF hX)) ?_;rintro _ ss1 ⟨tt2,rfl,hT,hG⟩;obtain ⟨tt3,hX,hF⟩:=aft 0 2 0 hF hX hT hG;refine go ?_;have e:=pur H;subst e;exact rg _ ⟨_,rfl,hX,K4 _⟩
theorem Nn:∀(a0:List Bnd) (a1:Fm) (x11:List Int) (G6:Int) out,Gi a0 a1 x11 G6=some out->∀c,Yg Tryz.f83 0=some c->∀(Q:QT) (tt:Sto) (b1 b3:Nat),(∀(_u:Unit),out=Sum.inr ()->∀(T:TT) (σ:Sto),0+0=0->Fx tt σ [(b3,⟨26,5,[i6 a1.kind,.str a1.name,i6 a1.num,sf cI a1.sc,sf KY a1.kids]⟩),(b1,⟨39,1,[sf K0 a0]⟩)] []->Q (.ex 0) ⟨T,σ⟩)->(∀r,out=Sum.inl r->∀s',I7 KZ [.tmp 4,.tmp 5] (fun r' ss'=>r'=.tup [i6 r.1,i6 r.2]/\ss'=tt) s'->Q .ret s')->∀(T:TT) (σ:Sto),T 2=.ptr b1 0/\T 6=sf cI x11/\T 15=sf cI x11/\T 16=i6 (x11.length:Int)/\T 17=i6 G6->Fx tt σ [(b3,⟨26,5,[i6 a1.kind,.str a1.name,i6 a1.num,sf cI a1.sc,sf KY a1.kids]⟩),(b1,⟨39,1,[sf K0 a0]⟩)] []->aLp KZ c Q ⟨T,σ⟩:=by
 intro a0 a1 x11 G6;revert G6;refine Gi.partial_correctness a0 a1 x11 _ ?_;intro Gi IH G6 out H c hc Q tt b1 b3 hE hR T σ tT hF;refine lpx tt hc rfl fun q hX=>go ?_;refine cdp H (fun h H=>?_) (fun h H=>?_)
 ·obtain ⟨x19,f1,H⟩:=bil (g:=cI) (fun _=>rfl) H;refine go1 ?_;refine Ya hF rfl fun b5 ss6 hF=>?_;refine go ?_;refine st hF 0 rfl fun s7 hF=>?_;refine go ?_;have hF:=pck hF [2,0,1] [];obtain ⟨x23,hx23,H⟩:=bnd H;refine cx (HW x11 a0 x19 _ hx23 b1 b5  _ (pre 2 0 0 hF hX)) ?_;rintro _ s8 ⟨t9,rfl,hT,hG⟩;have hF:=DL 2 0 hF hX hT hG;have hF:=pck hF [1,2,0] [];refine go ?_;refine cdb H (fun h H=>?_) (fun h H=>?_)
  ·refine go ?_;exact wq (hR _ (pur H).symm _ (rt _))
  ·refine go ?_;exact IH  (i64.wrap (G6+1)) _ H _ rfl Q tt b1 b3 hE hR _ _  S (hF.drop 1 0)
 ·refine go ?_;exact wq (hE () (pur H).symm _ _  S hF)
theorem Sp:∀(a0:List Bnd) (a1:Fm) r,Dx a0 a1=some r->VK KZ 83 [sf K0 a0,.agg (KY a1)] (.tup [i6 r.1,i6 r.2]):=by
 intro a0 a1 r H;intro σ;unfold Dx at H;refine hdg mixed Tryz.func83 (rs:=[.tmp 4,.tmp 5]) fun q tT=>?_;have hF:=K2 σ;have hX:=Tau.none σ;refine go ?_;refine Ya hF rfl fun b1 ss2 hF=>?_;refine go ?_;refine Ya hF rfl fun b3 ss4 hF=>?_;refine go ?_;refine bp H (OC a0 a1) fun x11 h H=>cl h ?_;refine go ?_;refine cdp H (fun h H=>?_) (fun h H=>?_)
 ·refine go ?_;have e:=pur H;subst e;exact rt _
 ·refine go ?_;obtain ⟨o11,ho11,H⟩:=bnd H;refine Nn a0 a1 x11 0 _ ho11 _ rfl _ _ b1 b3 ?_ ?_ _ _  S hF
  ·intro _ he T13 s14 tT hF;have he:=he.symm;subst he
   try dsimp only at H
   refine go ?_;have e:=pur H;subst e;exact rt _
  ·intro r hr s' hs;subst hr;have e:=pur H;subst e;exact hsq hs
theorem OE:∀(a0:Xpn) (a1:Fm) r,BG a0 a1=some r->VK KZ 48 [.agg (K8 a0),.agg (KY a1)] (.tup [i6 r.1,i6 r.2]):=by
 intro a0 a1 r H;intro σ;unfold BG at H;refine hdg mixed Tryz.func48 (rs:=[.tmp 4,.tmp 5]) fun q tT=>?_;have hF:=K2 σ;have hX:=Tau.none σ;refine go ?_;refine Ya hF rfl fun b1 ss2 hF=>?_;refine go ?_;refine Ya hF rfl fun b3 ss4 hF=>?_;refine go ?_;refine bp H (Sp a0.binds a1) fun x13 h H=>cl h ?_;refine go ?_;refine cdp H (fun h H=>?_) (fun h H=>?_)
 ·refine go ?_;have e:=pur H;subst e;exact rt _
 ·refine go ?_;refine cdp H (fun h H=>?_) (fun h H=>?_)
  ·refine go ?_;have e:=pur H;subst e;exact rt _
  ·obtain ⟨x24,f1,H⟩:=bil (g:=K0) Bnd.X7 H;refine go1 ?_;refine go ?_;refine bp H (WZ x24.id 1 5) fun x29 h H=>cl h ?_;refine go ?_;refine cdb H (fun h H=>?_) (fun h H=>?_)
   ·refine go ?_;have e:=pur H;subst e;exact rt _
   ·refine go ?_;refine bp H (Cd a0.macs x24.id) fun x35 h H=>cl h ?_;refine go ?_;refine cdp H (fun h H=>?_) (fun h H=>?_)
    ·refine go ?_;have e:=pur H;subst e;exact rt _
    ·refine go ?_;have e:=pur H;subst e;exact rt _
theorem Mi:∀(a0:Xpn) (a1:Fm) r,Al a0 a1=some r->VK KZ 17 [.agg (K8 a0),.agg (KY a1)] (.tup [i6 r.1,i6 r.2]):=by
 intro a0 a1 r H;intro σ;unfold Al at H;refine hdg mixed Tryz.func17 (rs:=[.tmp 4,.tmp 5]) fun q tT=>?_;have hF:=K2 σ;have hX:=Tau.none σ;refine go ?_;refine Ya hF rfl fun b1 ss2 hF=>?_;refine go ?_;refine Ya hF rfl fun b3 ss4 hF=>?_;refine go ?_;refine bp H (Bi a0) fun x7 h H=>cl h ?_;refine go ?_;obtain ⟨x13,g5,H⟩:=bnd H;refine Yc 3 10 13 (.bool x13) (giN q (fun q=>?_) (fun q=>?_)) (fun J=>?_)
 ·rw [if_neg (dbf q)] at g5;refine go ?_;obtain ⟨x11,hx11,g5⟩:=bnd g5;refine cl (Ft a1 _ hx11) ?_;refine go ?_;exact Yr 10 g5
 ·rw [if_pos (dbt q)] at g5;refine go ?_;exact Yr 10 g5
 refine go ?_;refine cdb H (fun h H=>?_) (fun h H=>?_)
 ·refine go ?_;have e:=pur H;subst e;exact rt _
 ·refine go ?_;refine bp H (OE a0 a1) fun x16 h H=>cl h ?_;refine go ?_;have e:=pur H;subst e;exact rt _
theorem EV:∀(a0 a1 a2:Int) r,DG a0 a1 a2=some r->VK KZ 32 [i6 a0,i6 a1,i6 a2] (.bool r):=by
 intro a0 a1 a2 r H;intro σ;unfold DG at H;refine hdg mixed Tryz.func32 (rs:=[.tmp 6]) fun q tT=>?_;have hF:=K2 σ;have hX:=Tau.none σ;refine go ?_;obtain ⟨x14,g1,H⟩:=bnd H;refine Yc 3 11 14 (.bool x14) (gi q (fun q=>?_) (fun q=>?_)) (fun J=>?_)
 ·refine go ?_;exact Yr 11 g1
 ·refine go ?_;exact Yr 11 g1
 refine go ?_;have e:=pur H;subst e;exact rt _
theorem De:∀(a0:Xpn) (YB:Int) out,Vy a0 YB=some out->∀c,Yg Tryz.f49 0=some c->∀(Q:QT) (tt:Sto) (b1:Nat),(∀(_u:Unit),out=Sum.inr ()->∀(T:TT) (σ:Sto),T 1=.ptr b1 0->Fx tt σ [(b1,⟨42,5,[sf K0 a0.binds,sf Zc a0.macs,i6 a0.scope,i6 a0.id,i6 a0.steps]⟩)] []->Q (.ex 0) ⟨T,σ⟩)->(∀r,out=Sum.inl r->∀s',I7 KZ [.tmp 2] (fun r' ss'=>r'=.bool r/\ss'=tt) s'->Q .ret s')->∀(T:TT) (σ:Sto),T 1=.ptr b1 0/\T 3=i6 YB->Fx tt σ [(b1,⟨42,5,[sf K0 a0.binds,sf Zc a0.macs,i6 a0.scope,i6 a0.id,i6 a0.steps]⟩)] []->aLp KZ c Q ⟨T,σ⟩:=by
 intro a0 YB;revert YB;refine Vy.partial_correctness a0 _ ?_;intro Vy IH YB out H c hc Q tt b1 hE hR T σ tT hF;refine lpx tt hc rfl fun q hX=>go ?_;refine cdp H (fun h H=>?_) (fun h H=>?_)
 ·refine go ?_;refine Yj E0 [.v,.v,.v,.v,.v,.v,.v,.v,.v,.v,.v,.v,.v,.v,.v,.v,.v,.v,.v,.v,.v,.v,.v,.v,.v,.v,.v] (by kernel_rfl) ?_;obtain ⟨x43,f1,H⟩:=bil (g:=K0) Bnd.X7 H;refine go1 ?_;obtain ⟨x66,g11,H⟩:=bnd H;refine VU 16 50 66 (.bool x66) (tiN q (fun q=>?_) (fun q=>?_)) (fun J=>?_)
  ·rw [if_neg (df q)] at g11;obtain ⟨x53,f1,g11⟩:=bil (g:=K0) Bnd.X7 g11;refine go1 ?_;obtain ⟨x65,g13,g11⟩:=bnd g11;refine VU 7 58 65 (.bool x65) (ti q (fun q=>?_) (fun q=>?_)) (fun J=>?_)
   ·rw [if_pos (dt q)] at g13;obtain ⟨x61,f1,g13⟩:=bil (g:=K0) Bnd.X7 g13;refine go1 ?_;refine go ?_;exact Yr 58 g13
   ·rw [if_neg (df q)] at g13;refine go ?_;exact Yr 58 g13
   refine go ?_;exact Yr 50 g11
  ·rw [if_pos (dt q)] at g11;refine go ?_;exact Yr 50 g11
  refine go ?_;refine cdb H (fun h H=>?_) (fun h H=>?_)
  ·refine go ?_;exact wq (hR _ (pur H).symm _ (rt _))
  ·refine go ?_;exact IH  (i64.wrap (YB+1)) _ H _ rfl Q tt b1 hE hR _ _  S hF
 ·refine go ?_;exact wq (hE () (pur H).symm _ _  S hF)
theorem Df:∀(a0:Xpn) (Aw:Int) out,Vz a0 Aw=some out->∀c,Yg Tryz.f49 1=some c->∀(Q:QT) (tt:Sto) (b1:Nat),(∀(_u:Unit),out=Sum.inr ()->∀(T:TT) (σ:Sto),0+0=0->Fx tt σ [(b1,⟨42,5,[sf K0 a0.binds,sf Zc a0.macs,i6 a0.scope,i6 a0.id,i6 a0.steps]⟩)] []->Q (.ex 2) ⟨T,σ⟩)->(∀r,out=Sum.inl r->∀s',I7 KZ [.tmp 2] (fun r' ss'=>r'=.bool r/\ss'=tt) s'->Q .ret s')->∀(T:TT) (σ:Sto),T 1=.ptr b1 0/\T 4=i6 Aw->Fx tt σ [(b1,⟨42,5,[sf K0 a0.binds,sf Zc a0.macs,i6 a0.scope,i6 a0.id,i6 a0.steps]⟩)] []->aLp KZ c Q ⟨T,σ⟩:=by
 intro a0 Aw;revert Aw;refine Vz.partial_correctness a0 _ ?_;intro Vz IH Aw out H c hc Q tt b1 hE hR T σ tT hF;refine lpx tt hc rfl fun q hX=>go ?_;refine cdp H (fun h H=>?_) (fun h H=>?_)
 ·refine go ?_;refine Yj E0 [.v,.v,.v,.v,.v,.v,.v,.v,.v,.v,.v,.v,.v,.v,.v,.v,.v,.v,.v,.v,.v,.v,.v,.v,.v,.v,.v,.v,.v,.v,.v,.v,.v,.v,.v,.v,.v,.v,.v,.v,.v,.v,.v,.v,.v,.v] (by kernel_rfl) ?_;obtain ⟨x77,f1,H⟩:=bil (g:=Zc) Mac.X7 H;refine go1 ?_;obtain ⟨x91,g20,H⟩:=bnd H;refine VU 9 82 91 (.bool x91) (tiN q (fun q=>?_) (fun q=>?_)) (fun J=>?_)
  ·rw [if_neg (df q)] at g20;obtain ⟨x85,f1,g20⟩:=bil (g:=Zc) Mac.X7 g20;refine go1 ?_;refine go ?_;exact Yr 82 g20
  ·rw [if_pos (dt q)] at g20;refine go ?_;exact Yr 82 g20
  refine go ?_;obtain ⟨x103,g22,H⟩:=bnd H;refine VU 10 93 103 (.bool x103) (tiN q (fun q=>?_) (fun q=>?_)) (fun J=>?_)
  ·rw [if_neg (dbf q)] at g22;obtain ⟨x97,f1,g22⟩:=bil (g:=Zc) Mac.X7 g22;refine go1 ?_;obtain ⟨x100,hx100,g22⟩:=bnd g22;refine cv (Cz a0 x97.id _ hx100) ?_;refine go ?_;exact Yr 93 g22
  ·rw [if_pos (dbt q)] at g22;refine go ?_;exact Yr 93 g22
  refine go ?_;obtain ⟨x119,g24,H⟩:=bnd H;refine VU 14 105 119 (.bool x119) (tiN q (fun q=>?_) (fun q=>?_)) (fun J=>?_)
  ·rw [if_neg (dbf q)] at g24;obtain ⟨x108,f1,g24⟩:=bil (g:=Zc) Mac.X7 g24;refine go1 ?_;obtain ⟨x117,hx117,g24⟩:=bnd g24;refine cv (Cu x108.rules x108.lits _ hx117) ?_;refine go ?_;exact Yr 105 g24
  ·rw [if_pos (dbt q)] at g24;refine go ?_;exact Yr 105 g24
  refine go ?_;refine cdb H (fun h H=>?_) (fun h H=>?_)
  ·refine go ?_;exact wq (hR _ (pur H).symm _ (rt _))
  ·refine go ?_;exact IH  (i64.wrap (Aw+1)) _ H _ rfl Q tt b1 hE hR _ _  S hF
 ·refine go ?_;exact wq (hE () (pur H).symm _ _  S hF)
theorem Ed:∀(a0:Xpn) r,GW a0=some r->VK KZ 49 [.agg (K8 a0)] (.bool r):=by
 intro a0 r H;intro σ;unfold GW at H;refine hdg mixed Tryz.func49 (rs:=[.tmp 2]) fun q tT=>?_;have hF:=K2 σ;have hX:=Tau.none σ;refine go ?_;refine Ya hF rfl fun b1 ss2 hF=>?_;refine go ?_;refine bp H (IN a0.binds) fun x7 h H=>cl h ?_;refine go ?_;obtain ⟨x14,g3,H⟩:=bnd H;refine Yc 4 10 14 (.bool x14) (giN q (fun q=>?_) (fun q=>?_)) (fun J=>?_)
 ·refine go ?_;exact Yr 10 g3
 ·refine go ?_;exact Yr 10 g3
 refine go ?_;obtain ⟨x20,g5,H⟩:=bnd H;refine Yc 4 16 20 (.bool x20) (giN q (fun q=>?_) (fun q=>?_)) (fun J=>?_)
 ·rw [if_neg (dbf q)] at g5;refine go ?_;obtain ⟨x18,hx18,g5⟩:=bnd g5;refine cl (EV a0.scope 0 99 _ hx18) ?_;refine go ?_;exact Yr 16 g5
 ·rw [if_pos (dbt q)] at g5;refine go ?_;exact Yr 16 g5
 refine go ?_;obtain ⟨x26,g7,H⟩:=bnd H;refine Yc 4 22 26 (.bool x26) (giN q (fun q=>?_) (fun q=>?_)) (fun J=>?_)
 ·rw [if_neg (dbf q)] at g7;refine go ?_;obtain ⟨x24,hx24,g7⟩:=bnd g7;refine cl (EV a0.id 10 999 _ hx24) ?_;refine go ?_;exact Yr 22 g7
 ·rw [if_pos (dbt q)] at g7;refine go ?_;exact Yr 22 g7
 refine go ?_;obtain ⟨x32,g9,H⟩:=bnd H;refine Yc 4 28 32 (.bool x32) (giN q (fun q=>?_) (fun q=>?_)) (fun J=>?_)
 ·rw [if_neg (dbf q)] at g9;refine go ?_;obtain ⟨x30,hx30,g9⟩:=bnd g9;refine cl (EV a0.steps 0 60 _ hx30) ?_;refine go ?_;exact Yr 28 g9
 ·rw [if_pos (dbt q)] at g9;refine go ?_;exact Yr 28 g9
 refine go ?_;refine cdb H (fun h H=>?_) (fun h H=>?_)
 ·refine go ?_;have e:=pur H;subst e;exact rt _
 ·refine go ?_;obtain ⟨o15,ho15,H⟩:=bnd H;refine De a0 0 _ ho15 _ rfl _ _ b1 ?_ ?_ _ _  S hF
  ·intro _ he T17 s18 tT hF;have he:=he.symm;subst he
   try dsimp only at H
   refine go ?_;obtain ⟨o26,ho26,H⟩:=bnd H;refine Df a0 0 _ ho26 _ rfl _ _ b1 ?_ ?_ _ _  S hF
   ·intro _ he T28 s29 tT hF;have he:=he.symm;subst he
    try dsimp only at H
    refine go ?_;have e:=pur H;subst e;exact rt _
   ·intro r hr s' hs;subst hr;have e:=pur H;subst e;exact hsq hs
  ·intro r hr s' hs;subst hr;have e:=pur H;subst e;exact hsq hs
theorem Mv:∀(a0:Xpn) (a1:Fm) r,Ar a0 a1=some r->VK KZ 18 [.agg (K8 a0),.agg (KY a1)] (.tup [i6 r.1,i6 r.2]):=by
 intro a0 a1 r H;intro σ;unfold Ar at H;refine hdg mixed Tryz.func18 (rs:=[.tmp 4,.tmp 5]) fun q tT=>?_;have hF:=K2 σ;have hX:=Tau.none σ;refine go ?_;refine Ya hF rfl fun b1 ss2 hF=>?_;refine go ?_;refine Ya hF rfl fun b3 ss4 hF=>?_;refine go ?_;refine bp H (Ed a0) fun x7 h H=>cl h ?_;refine go ?_;obtain ⟨x13,g5,H⟩:=bnd H;refine Yc 3 10 13 (.bool x13) (giN q (fun q=>?_) (fun q=>?_)) (fun J=>?_)
 ·rw [if_neg (dbf q)] at g5;refine go ?_;obtain ⟨x11,hx11,g5⟩:=bnd g5;refine cl (EO a1 _ hx11) ?_;refine go ?_;exact Yr 10 g5
 ·rw [if_pos (dbt q)] at g5;refine go ?_;exact Yr 10 g5
 refine go ?_;refine cdb H (fun h H=>?_) (fun h H=>?_)
 ·refine go ?_;have e:=pur H;subst e;exact rt _
 ·refine go ?_;refine bp H (Bv a0 a1) fun x16 h H=>cl h ?_;refine go ?_;have e:=pur H;subst e;exact rt _
theorem DY:∀(a0:List Int) r,HQ a0=some r->VK KZ 62 [.sl (false) (rws cI a0)] (sf cI r):=by
 intro a0 r H σ;unfold HQ at H;refine Qgc mixed Tryz.func62 rfl (by kernel_rfl) (rs:=[.tmp 2]) rfl (by kernel_rfl) ?_;have hF:=K2 σ;have hX:=Tau.none σ;have hF:=hF.lit 3 1 (rws cI []) rfl
 cases a0 with
 | nil =>
  obtain ⟨rfl,_⟩:=A4 H
  try simp only [go_sem,↓reduceIte,ZA,ZC,ZD,ZB,ZE,ZF,Kl]
  refine Ql7 ?_ ?_
  ·try simp only [go_sem,↓reduceIte,ZA,ZC,ZD,ZB,ZE,ZF,Kl]
   exact Qbm (vs:=[.Yd]) (by first | (simp only [go_sem,↓reduceIte,ZA,ZC,ZD,ZB,ZE,ZF,Kl];done) | rfl | (simp only [go_sem,↓reduceIte,ZA,ZC,ZD,ZB,ZE,ZF,Kl];rfl)) (Wk.Qok .Yd hF.sub)
  ·try simp only [go_sem,↓reduceIte,ZA,ZC,ZD,ZB,ZE,ZF,Kl]
   refine Qbj hF 0 (g:=cI) (xs:=[]) (ys:=[]) rfl (by decide) (by decide) (RdL.of (c:=false) (fun _=>rfl) rfl) H fun v1 ss1 hF=>?_
   try simp only [go_sem,↓reduceIte,ZA,ZC,ZD,ZB,ZE,ZF,Kl,hF.cells 0 rfl,hF.len 0 rfl]
   exact Qbm (vs:=[v1]) (by first | (simp only [go_sem,↓reduceIte,ZA,ZC,ZD,ZB,ZE,ZF,Kl,hF.cells 0 rfl,hF.len 0 rfl];done) | rfl | (simp only [go_sem,↓reduceIte,ZA,ZC,ZD,ZB,ZE,ZF,Kl,hF.cells 0 rfl,hF.len 0 rfl];rfl)) (hF.wk 0 rfl)
 | cons x xs =>
  try simp only [go_sem,↓reduceIte,ZA,ZC,ZD,ZB,ZE,ZF,Kl]
  refine Qbj hF 0 (g:=cI) (xs:=[]) (ys:=x :: xs) rfl (by decide) (by decide) (RdL.of (c:=false) (fun _=>rfl) (by first | rfl | simp only [Vm,VR,cI,cU,cS,cL])) H fun v1 ss1 hF=>?_
  try simp only [go_sem,↓reduceIte,ZA,ZC,ZD,ZB,ZE,ZF,Kl,hF.cells 0 rfl,hF.len 0 rfl]
  exact Qbm (vs:=[v1]) (by first | (simp only [go_sem,↓reduceIte,ZA,ZC,ZD,ZB,ZE,ZF,Kl,hF.cells 0 rfl,hF.len 0 rfl];done) | rfl | (simp only [go_sem,↓reduceIte,ZA,ZC,ZD,ZB,ZE,ZF,Kl,hF.cells 0 rfl,hF.len 0 rfl];rfl)) (hF.wk 0 rfl)
theorem BQ:∀(a0:Fm) r,Wg a0=some r->VK KZ 30 [.agg (KY a0)] (.agg (KY r)):=by
 refine Wg.partial_correctness _ (motive_2:=fun a0 x14 X9 Eb out=>∀c,Yg Tryz.f30 0=some c->∀(Q:QT) (tt:Sto) (b1 b3 b5:Nat),(∀(Vu:List Fm),out=Vu->∀(T:TT) (σ:Sto) (e0v0:AV),T 2=.ptr b3 0/\T 3=.ptr b5 0->Fx tt σ [(b5,⟨26,5,[i6 a0.kind,.str a0.name,i6 a0.num,sf cI x14,e0v0]⟩),(b3,⟨26,5,[i6 0,.str zB,i6 0,.Yd,.Yd]⟩),(b1,⟨26,5,[i6 a0.kind,.str a0.name,i6 a0.num,sf cI a0.sc,sf KY a0.kids]⟩)] [⟨e0v0,26,5,rws KY Vu⟩]->Q (.ex 0) ⟨T,σ⟩)->True->∀(T:TT) (σ:Sto) (z0v0:AV),T 2=.ptr b3 0/\T 3=.ptr b5 0/\T 17=sf KY a0.kids/\T 18=i6 (a0.kids.length:Int)/\T 19=i6 Eb->Fx tt σ [(b5,⟨26,5,[i6 a0.kind,.str a0.name,i6 a0.num,sf cI x14,z0v0]⟩),(b3,⟨26,5,[i6 0,.str zB,i6 0,.Yd,.Yd]⟩),(b1,⟨26,5,[i6 a0.kind,.str a0.name,i6 a0.num,sf cI a0.sc,sf KY a0.kids]⟩)] [⟨z0v0,26,5,rws KY X9⟩]->aLp KZ c Q ⟨T,σ⟩) ?_ ?_
 ·intro Jj L0 a0 r H;intro σ;refine hdg mixed Tryz.func30 (rs:=[.cell 2 26]) fun q tT=>?_;have hF:=K2 σ;have hX:=Tau.none σ;refine go ?_;refine Ya hF rfl fun b1 ss2 hF=>?_;refine go ?_;refine Ya hF rfl fun b3 ss4 hF=>?_;refine go ?_;refine Yj E0 [.v,.v,.v,.v,.v,.v,.v,.v,.v,.v,.x,.z] (by kernel_rfl) ?_;refine go ?_;refine bp H (DY a0.sc) fun x14 h H=>cv h ?_;refine go ?_;refine Hg hF rfl fun b5 ss6 hF=>?_;refine go ?_;refine st hF 0 rfl fun s7 hF=>?_;have hF:=hF.nil 26 5;refine go ?_;obtain ⟨o14,ho14,H⟩:=bnd H;refine L0 a0 x14 [] 0 _ ho14 _ rfl _ _ b1 b3 b5 ?_ ?_ _ _ .Yd S hF
  ·intro Gq he T16 s17 e15v0 tT hF;have he:=he.symm;subst he;refine go ?_;refine st hF 1 rfl fun s19 hF=>?_;refine go ?_;have e:=pur H;subst e;exact rt _
  ·trivial
 ·intro Wg Jj C0 L0 a0 x14 X9 Eb out H c hc Q tt b1 b3 b5 hE hR T σ z0v0 tT hF;refine lpx tt hc rfl fun q hX=>go ?_;refine cdp H (fun h H=>?_) (fun h H=>?_)
  ·obtain ⟨x21,f1,H⟩:=bil (g:=KY) Fm.X7 H;refine go1 ?_;refine Ya hF rfl fun b8 s9 hF=>?_;refine go ?_;refine st hF 0 rfl fun s10 hF=>?_;refine go ?_;refine Yj E0 [.v,.v,.v,.v,.v,.x,.v,.z] (by kernel_rfl) ?_;refine go ?_;refine bp H (C0 x21) fun x26 h H=>cv h ?_;refine go ?_;refine PD (g:=KY) hF 0 H (rdo (c:=true) (g:=KY) Fm.X7) fun x28 H v11 s12 hF=>?_;refine go ?_;refine st hF 1 (hF.cells 0 rfl) fun s13 hF=>?_;refine go ?_;exact L0 a0 x14 x28 (i64.wrap (Eb+1)) _ H _ rfl Q tt b1 b3 b5 hE hR _ _ v11 S (hF.drop 1 0)
  ·refine go ?_;exact wq (hE _ (pur H).symm _ _ z0v0 S hF)
theorem Fg:∀(a0:Mac) (X9:List Fm) (J5:Int) out,Wh a0 X9 J5=some out->∀c,Yg Tryz.f53 0=some c->∀(Q:QT) (tt:Sto) (b1 b3 b5:Nat),(∀(Vu:List Fm),out=Vu->∀(T:TT) (σ:Sto) (e0v0:AV),T 1=.ptr b1 0/\T 2=.ptr b3 0/\T 3=.ptr b5 0->Fx tt σ [(b5,⟨49,3,[i6 a0.id,e0v0,.Yd]⟩),(b3,⟨49,3,[i6 0,.Yd,.Yd]⟩),(b1,⟨49,3,[i6 a0.id,sf KY a0.lits,sf K5 a0.rules]⟩)] [⟨e0v0,26,5,rws KY Vu⟩]->Q (.ex 0) ⟨T,σ⟩)->True->∀(T:TT) (σ:Sto) (z0v0:AV),T 1=.ptr b1 0/\T 2=.ptr b3 0/\T 3=.ptr b5 0/\T 12=sf KY a0.lits/\T 13=i6 (a0.lits.length:Int)/\T 14=i6 J5->Fx tt σ [(b5,⟨49,3,[i6 a0.id,z0v0,.Yd]⟩),(b3,⟨49,3,[i6 0,.Yd,.Yd]⟩),(b1,⟨49,3,[i6 a0.id,sf KY a0.lits,sf K5 a0.rules]⟩)] [⟨z0v0,26,5,rws KY X9⟩]->aLp KZ c Q ⟨T,σ⟩:=by
 intro a0 X9 J5;revert X9 J5;refine Wh.partial_correctness a0 _ ?_;intro Wh IH X9 J5 out H c hc Q tt b1 b3 b5 hE hR T σ z0v0 tT hF;refine lpx tt hc rfl fun q hX=>go ?_;refine cdp H (fun h H=>?_) (fun h H=>?_)
 ·obtain ⟨x16,f1,H⟩:=bil (g:=KY) Fm.X7 H;refine go1 ?_;refine Ya hF rfl fun b8 s9 hF=>?_;refine go ?_;refine st hF 0 rfl fun s10 hF=>?_;refine go ?_;refine Yj E0 [.v,.v,.v,.v,.v,.x,.v,.z] (by kernel_rfl) ?_;refine go ?_;refine bp H (BQ x16) fun x21 h H=>cv h ?_;refine go ?_;refine PD (g:=KY) hF 0 H (rdo (c:=true) (g:=KY) Fm.X7) fun x23 H v11 s12 hF=>?_;refine go ?_;refine st hF 1 (hF.cells 0 rfl) fun s13 hF=>?_;refine go ?_;exact IH  x23 (i64.wrap (J5+1)) _ H _ rfl Q tt b1 b3 b5 hE hR _ _ v11 S (hF.drop 1 0)
 ·refine go ?_;exact wq (hE _ (pur H).symm _ _ z0v0 S hF)
theorem Fh:∀(a0:Mac) (Gq:List Fm) (Gf:List Rul) (CG:Int) out,Wi a0 Gq Gf CG=some out->∀c,Yg Tryz.f53 1=some c->∀(Q:QT) (tt:Sto) (b1 b3 b5:Nat) (e15v0:AV),(∀(Tq:List Rul),out=Tq->∀(T:TT) (σ:Sto) (e1v1:AV),T 2=.ptr b3 0/\T 3=.ptr b5 0->Fx tt σ [(b5,⟨49,3,[i6 a0.id,e15v0,e1v1]⟩),(b3,⟨49,3,[i6 0,.Yd,.Yd]⟩),(b1,⟨49,3,[i6 a0.id,sf KY a0.lits,sf K5 a0.rules]⟩)] [⟨e1v1,116,10,rws K5 Tq⟩,⟨e15v0,26,5,rws KY Gq⟩]->Q (.ex 2) ⟨T,σ⟩)->True->∀(T:TT) (σ:Sto) (z1v1:AV),T 2=.ptr b3 0/\T 3=.ptr b5 0/\T 27=sf K5 a0.rules/\T 28=i6 (a0.rules.length:Int)/\T 29=i6 CG->Fx tt σ [(b5,⟨49,3,[i6 a0.id,e15v0,z1v1]⟩),(b3,⟨49,3,[i6 0,.Yd,.Yd]⟩),(b1,⟨49,3,[i6 a0.id,sf KY a0.lits,sf K5 a0.rules]⟩)] [⟨z1v1,116,10,rws K5 Gf⟩,⟨e15v0,26,5,rws KY Gq⟩]->aLp KZ c Q ⟨T,σ⟩:=by
 intro a0 Gq Gf CG;revert Gf CG;refine Wi.partial_correctness a0 Gq _ ?_;intro Wi IH Gf CG out H c hc Q tt b1 b3 b5 e15v0 hE hR T σ z1v1 tT hF;refine lpx tt hc rfl fun q hX=>go ?_;refine cdp H (fun h H=>?_) (fun h H=>?_)
 ·obtain ⟨x31,f1,H⟩:=bil (g:=K5) Rul.X7 H;refine go1 ?_;refine Ya hF rfl fun b19 s20 hF=>?_;refine go ?_;refine st hF 0 rfl fun s21 hF=>?_;refine go ?_;refine Yj E0 [.v,.v,.v,.v,.v,.v,.v,.v,.v,.v,.x,.v,.z] (by kernel_rfl) ?_;refine go ?_;refine bp H (BQ x31.pat) fun x37 h H=>cv h ?_;refine go ?_;refine bp H (BQ x31.tpl) fun x40 h H=>cv h ?_;refine go ?_;refine PD (g:=K5) hF 0 H (rdo (c:=true) (g:=K5) Rul.X7) fun x43 H v22 s23 hF=>?_;refine go ?_;refine st hF 1 (hF.cells 0 rfl) fun s24 hF=>?_;refine go ?_;exact IH  x43 (i64.wrap (CG+1)) _ H _ rfl Q tt b1 b3 b5 e15v0 hE hR _ _ v22 S (hF.drop 1 0)
 ·refine go ?_;exact wq (hE _ (pur H).symm _ _ z1v1 S hF)
theorem Mk:∀(a0:Mac) r,An a0=some r->VK KZ 53 [.agg (Zc a0)] (.agg (Zc r)):=by
 intro a0 r H;intro σ;unfold An at H;refine hdg mixed Tryz.func53 (rs:=[.cell 2 49]) fun q tT=>?_;have hF:=K2 σ;have hX:=Tau.none σ;refine go ?_;refine Ya hF rfl fun b1 ss2 hF=>?_;refine go ?_;refine Ya hF rfl fun b3 ss4 hF=>?_;refine go ?_;refine Ya hF rfl fun b5 ss6 hF=>?_;refine go ?_;refine st hF 0 rfl fun s7 hF=>?_;have hF:=hF.nil 26 5;refine go ?_;obtain ⟨o14,ho14,H⟩:=bnd H;refine Fg a0 [] 0 _ ho14 _ rfl _ _ b1 b3 b5 ?_ ?_ _ _ .Yd S hF
 ·intro Gq he T16 s17 e15v0 tT hF;have he:=he.symm;subst he;have hF:=hF.nil 116 10;refine go ?_;obtain ⟨o25,ho25,H⟩:=bnd H;refine Fh a0 Gq [] 0 _ ho25 _ rfl _ _ b1 b3 b5 e15v0 ?_ ?_ _ _ .Yd S hF
  ·intro Qlj he T27 s28 e26v1 tT hF;have he:=he.symm;subst he;refine go ?_;refine st hF 1 rfl fun s30 hF=>?_;refine go ?_;have e:=pur H;subst e;exact rt _
  ·trivial
 ·trivial
theorem Mg:∀(a0:Xpn) (a1:Int) r,Ak a0 a1=some r->VK KZ 19 [.agg (K8 a0),i6 a1] (.tup [.agg (Zc r.1),.bool r.2]):=by
 intro a0 a1 r H;intro σ;unfold Ak at H;refine hdg mixed Tryz.func19 (rs:=[.cell 4 49,.tmp 5]) fun q tT=>?_;have hF:=K2 σ;have hX:=Tau.none σ;refine go ?_;refine Ya hF rfl fun b1 ss2 hF=>?_;refine go ?_;refine Ya hF rfl fun b3 ss4 hF=>?_;refine go ?_;refine bp H (Cd a0.macs a1) fun x10 h H=>cl h ?_;refine go ?_;refine bp H (Bi a0) fun x12 h H=>cl h ?_;refine go ?_;obtain ⟨x17,g5,H⟩:=bnd H;refine Yc 2 15 17 (.bool x17) (giN q (fun q=>?_) (fun q=>?_)) (fun J=>?_)
 ·refine go ?_;exact Yr 15 g5
 ·refine go ?_;exact Yr 15 g5
 refine go ?_;refine cdb H (fun h H=>?_) (fun h H=>?_)
 ·refine go ?_;refine st hF 0 rfl fun s7 hF=>?_;refine go ?_;have e:=pur H;subst e;exact rt _
 ·obtain ⟨x22,f1,H⟩:=bil (g:=Zc) Mac.X7 H;refine go1 ?_;refine bp H (Mk x22) fun x24 h H=>cl h ?_;refine go ?_;refine st hF 0 rfl fun s8 hF=>?_;refine go ?_;have e:=pur H;subst e;exact rt _
theorem FN:∀(a0:List Int) r,Ax a0=some r->VK KZ 5 [sf cU a0] (.bool r):=by
 intro a0 r H;intro σ;unfold Ax at H;refine hdg mixed Tryz.func5 (rs:=[.tmp 2]) fun q tT=>?_;have hF:=K2 σ;have hX:=Tau.none σ;refine go ?_;refine cdp H (fun h H=>?_) (fun h H=>?_)
 ·refine go ?_;have e:=pur H;subst e;exact rt _
 ·refine go ?_;refine bp H (EH a0) fun x16 h H=>cl h ?_;refine go ?_;refine Ya hF rfl fun b1 ss2 hF=>?_;refine go ?_;refine Ya hF rfl fun b3 ss4 hF=>?_;refine go ?_;refine st hF 1 rfl fun ss5 hF=>?_;refine go ?_;refine st hF 0 rfl fun ss6 hF=>?_;refine go ?_;refine bp H (Mi x16.1 x16.2) fun x22 h H=>cl h ?_;refine go ?_;refine bp H (Mv x16.1 x16.2) fun x28 h H=>cl h ?_;refine go ?_;obtain ⟨x38,g7,H⟩:=bnd H;refine Yc 3 35 38 (.bool x38) (giN q (fun q=>?_) (fun q=>?_)) (fun J=>?_)
  ·refine go ?_;exact Yr 35 g7
  ·refine go ?_;exact Yr 35 g7
  refine go ?_;refine cdb H (fun h H=>?_) (fun h H=>?_)
  ·refine go ?_;have e:=pur H;subst e;exact rt _
  ·refine go ?_;refine bp H (Mg x16.1 x22.2) fun x42 h H=>cl h ?_;refine go ?_;refine Ya hF rfl fun b9 s10 hF=>?_;refine go ?_;refine st hF 0 rfl fun s11 hF=>?_;refine go ?_;refine cdp H (fun h H=>?_) (fun h H=>?_)
   ·refine go ?_;obtain ⟨x54,g12,H⟩:=bnd H;refine Yc 4 50 54 (.bool x54) (gi q (fun q=>?_) (fun q=>?_)) (fun J=>?_)
    ·refine go ?_;exact Yr 50 g12
    ·refine go ?_;exact Yr 50 g12
    refine go ?_;obtain ⟨x58,g14,H⟩:=bnd H;refine Yc 2 56 58 (.bool x58) (gi q (fun q=>?_) (fun q=>?_)) (fun J=>?_)
    ·refine go ?_;exact Yr 56 g14
    ·refine go ?_;exact Yr 56 g14
    refine go ?_;have e:=pur H;subst e;exact rt _
   ·refine go ?_;refine cdp H (fun h H=>?_) (fun h H=>?_)
    ·refine go ?_;obtain ⟨x66,g16,H⟩:=bnd H;refine Yc 2 64 66 (.bool x66) (gi q (fun q=>?_) (fun q=>?_)) (fun J=>?_)
     ·refine go ?_;exact Yr 64 g16
     ·refine go ?_;exact Yr 64 g16
     refine go ?_;obtain ⟨x70,g18,H⟩:=bnd H;refine Yc 2 68 70 (.bool x70) (gi q (fun q=>?_) (fun q=>?_)) (fun J=>?_)
     ·refine go ?_;exact Yr 68 g18
     ·refine go ?_;exact Yr 68 g18
     refine go ?_;have e:=pur H;subst e;exact rt _
    ·refine go ?_;refine cdp H (fun h H=>?_) (fun h H=>?_)
     ·refine go ?_;obtain ⟨x78,g20,H⟩:=bnd H;refine Yc 2 76 78 (.bool x78) (gi q (fun q=>?_) (fun q=>?_)) (fun J=>?_)
      ·refine go ?_;exact Yr 76 g20
      ·refine go ?_;exact Yr 76 g20
      refine go ?_;have e:=pur H;subst e;exact rt _
     ·refine go ?_;have e:=pur H;subst e;exact rt _
end Go.Proofs.SA
