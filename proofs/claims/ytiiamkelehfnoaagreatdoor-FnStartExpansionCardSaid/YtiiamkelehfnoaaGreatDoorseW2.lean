/- Printed by a program of mine: the plain functions that the code computes (D), and the walks that show it (W). -/
import Derived.Test.YtiiamkelehfnoaaGreatDoorGx
import Derived.Test.YtiiamkelehfnoaaGreatDoorSaTy
import Derived.Test.YtiiamkelehfnoaaGreatDoorLg
import Derived.Test.YtiiamkelehfnoaaGreatDoorChecked
import Derived.Lib.Strings
import Derived.Lib.Slices
import Derived.Lib.Walk
import Derived.Lib.Bytealg
import Derived.Test.YtiiamkelehfnoaaGreatDoorseD
import Derived.Test.YtiiamkelehfnoaaGreatDoorseW1
set_option maxRecDepth 100000
set_option maxHeartbeats 2000000
set_option linter.unusedSimpArgs false
set_option linter.unusedVariables false
open Go Go.Proofs Go.Proofs.Shadow
open Fm renaming cells → K0
open Tryz renaming prog → K1, func129 → ZK
open Bnd renaming cells → K2
open Fx renaming self → K6, refl → K4
open Mac renaming cells → Ze
open _root_.ByteArray renaming mk → Qd
open _root_.And renaming intro → K5
open Rul renaming cells → K7
open Go.IntKind (i64)
namespace Go.Proofs.SA
theorem GB:∀(a0:List Bnd) (c0:Bnd) (Yi:Int) out,Yn a0 c0 Yi=some out->∀c,Yg Tryz.f57 0=some c->∀(Q:QT) (tt0:Sto) (e0:Nat),(∀(_u:Unit),out=Sum.inr ()->∀(T:TT) (σ tt:Sto),0+0=0->Tau tt0 [(e0,⟨53,3,[.str c0.name,sf cI c0.sc,i6 c0.id]⟩)] tt->Fx tt σ [] []->Q (.ex 0) ⟨T,σ⟩)->(∀r,out=Sum.inl r->∀s',ID K1 [.tmp 4] (fun r' ss'=>∃(tt':Sto),r'=i6 r/\Tau tt0 [(e0,⟨53,3,[.str c0.name,sf cI c0.sc,i6 c0.id]⟩)] tt'/\Fx tt' ss' [] []) s'->Q .ret s')->∀(T:TT) (σ tt:Sto),T 0=sf K2 a0/\T 1=.fn 55 [.ptr e0 0]/\T 7=i6 (a0.length:Int)/\T 8=i6 Yi->Tau tt0 [(e0,⟨53,3,[.str c0.name,sf cI c0.sc,i6 c0.id]⟩)] tt->Fx tt σ [] []->aLp K1 c Q ⟨T,σ⟩:=by
 intro a0 c0 Yi;revert Yi;refine Yn.partial_correctness a0 c0 _ ?_;intro Yn IH Yi out H c hc Q tt0 e0 hE hR T σ tt tT hX hF;refine lpy hc rfl fun q=>go ?_;refine cdp H (fun h H=>?_) (fun h H=>?_)
 ·obtain ⟨x14,f1,H⟩:=bil (g:=K2) Bnd.X6 H;refine go1 ?_;obtain ⟨x16,hx16,H⟩:=bnd H;refine cx (Eg x14 c0 _ hx16 e0  _ (pre 0 1 0 hF hX)) ?_;rintro _ ss1 ⟨tt2,rfl,hT,hG⟩;obtain ⟨tt3,hX,hF⟩:=aft 0 1 0 hF hX hT hG;refine go ?_;refine cdb H (fun h H=>?_) (fun h H=>?_)
  ·refine go ?_;exact wq (hR _ (pur H).symm _ (rg _ ⟨_,rfl,hX,K6 _⟩))
  ·refine go ?_;exact IH  (i64.wrap (Yi+1)) _ H _ rfl Q tt0 e0 hE hR _ _ _  S hX hF
 ·refine go ?_;exact wq (hE () (pur H).symm _ _ _  S hX hF)
theorem G2:∀(a0:List Bnd) (c0:Bnd) r,Vl a0 c0=some r->∀(e0:Nat)  (σ:Sto),Pre σ [(e0,⟨53,3,[.str c0.name,sf cI c0.sc,i6 c0.id]⟩)] []->Ctr K1 57 [sf K2 a0,.fn 55 [.ptr e0 0]] σ (fun r' ss'=>∃(tt':Sto),r'=i6 r/\Tau (strip σ []) [(e0,⟨53,3,[.str c0.name,sf cI c0.sc,i6 c0.id]⟩)] tt'/\Fx tt' ss' [] []):=by
 intro a0 c0 r H;intro e0  σ hP;unfold Vl at H;refine hdg mixed Tryz.func57 (rs:=[.tmp 4]) fun q tT=>?_;obtain ⟨hF,hX⟩:=hP.start;generalize strip σ []=tt0 at hF hX ⊢;refine go ?_;obtain ⟨o4,ho4,H⟩:=bnd H;refine GB a0 c0 0 _ ho4 _ rfl _ tt0 e0 ?_ ?_ _ _ _  S hX hF
 ·intro _ he T6 s7 t8 tT hX hF;have he:=he.symm;subst he
  try dsimp only at H
  refine go ?_;have e:=pur H;subst e;exact rg _ ⟨_,rfl,hX,K6 _⟩
 ·intro r hr s' hs;subst hr;have e:=pur H;subst e;exact hsq hs
theorem Gv:∀(a0:List Bnd) (c0:Bnd) r,YH a0 c0=some r->∀(e0:Nat)  (σ:Sto),Pre σ [(e0,⟨53,3,[.str c0.name,sf cI c0.sc,i6 c0.id]⟩)] []->Ctr K1 32 [sf K2 a0,.fn 55 [.ptr e0 0]] σ (fun r' ss'=>∃(tt':Sto),r'=.bool r/\Tau (strip σ []) [(e0,⟨53,3,[.str c0.name,sf cI c0.sc,i6 c0.id]⟩)] tt'/\Fx tt' ss' [] []):=by
 intro a0 c0 r H;intro e0  σ hP;unfold YH at H;refine hdg mixed Tryz.func32 (rs:=[.tmp 4]) fun q tT=>?_;obtain ⟨hF,hX⟩:=hP.start;generalize strip σ []=tt0 at hF hX ⊢;refine go ?_;obtain ⟨x7,hx7,H⟩:=bnd H;refine cx (G2 a0 c0 _ hx7 e0  _ (pre 0 1 0 hF hX)) ?_;rintro _ ss1 ⟨tt2,rfl,hT,hG⟩;obtain ⟨tt3,hX,hF⟩:=aft 0 1 0 hF hX hT hG;refine go ?_;have e:=pur H;subst e;exact rg _ ⟨_,rfl,hX,K6 _⟩
theorem Eh:∀(a0:List Bnd) (Ym:Int) out,V8 a0 Ym=some out->∀c,Yg Tryz.f30 0=some c->∀(Q:QT) (tt:Sto),(∀(_u:Unit),out=Sum.inr ()->∀(T:TT) (σ:Sto),T 0=sf K2 a0->Fx tt σ [] []->Q (.ex 0) ⟨T,σ⟩)->(∀r,out=Sum.inl r->∀s',ID K1 [.tmp 2] (fun r' ss'=>r'=.bool r/\ss'=tt) s'->Q .ret s')->∀(T:TT) (σ:Sto),T 0=sf K2 a0/\T 5=sf K2 a0/\T 6=i6 (a0.length:Int)/\T 7=i6 Ym->Fx tt σ [] []->aLp K1 c Q ⟨T,σ⟩:=by
 intro a0 Ym;revert Ym;refine V8.partial_correctness a0 _ ?_;intro V8 IH Ym out H c hc Q tt  hE hR T σ tT hF;refine lpx tt hc rfl fun q hX=>go ?_;refine cdp H (fun h H=>?_) (fun h H=>?_)
 ·obtain ⟨x10,f1,H⟩:=bil (g:=K2) Bnd.X6 H;refine go1 ?_;refine Ya hF rfl fun b1 ss2 hF=>?_;refine go ?_;refine st hF 0 rfl fun ss3 hF=>?_;refine go ?_;refine bp H (Dk x10.name) fun x14 h H=>cl h ?_;refine go ?_;obtain ⟨x21,g4,H⟩:=bnd H;refine Yc 4 17 21 (.bool x21) (giN q (fun q=>?_) (fun q=>?_)) (fun J=>?_)
  ·rw [if_neg (dbf q)] at g4;refine go ?_;obtain ⟨x19,hx19,g4⟩:=bnd g4;refine cl (DV x10.sc _ hx19) ?_;refine go ?_;exact Yt 17 g4
  ·rw [if_pos (dbt q)] at g4;refine go ?_;exact Yt 17 g4
  refine go ?_;obtain ⟨x27,g6,H⟩:=bnd H;refine Yc 4 23 27 (.bool x27) (giN q (fun q=>?_) (fun q=>?_)) (fun J=>?_)
  ·rw [if_neg (dbf q)] at g6;refine go ?_;obtain ⟨x25,hx25,g6⟩:=bnd g6;refine cl (WV x10.id 1 999 _ hx25) ?_;refine go ?_;exact Yt 23 g6
  ·rw [if_pos (dbt q)] at g6;refine go ?_;exact Yt 23 g6
  refine go ?_;refine cdb H (fun h H=>?_) (fun h H=>?_)
  ·refine go ?_;exact wq (hR _ (pur H).symm _ (rt _))
  ·obtain ⟨x30,f1,H⟩:=bls (g:=K2) Bnd.X6 (lo:=none) (hi:=some (i6 Ym)) rfl rfl H;refine go1 ?_;obtain ⟨x32,hx32,H⟩:=bnd H;refine cx (Gv x30 x10 _ hx32 b1  _ (pre 1 0 0 hF hX)) ?_;rintro _ s8 ⟨t9,rfl,hT,hG⟩;have hF:=DA 1 0 hF hX hT hG;refine go ?_;refine cdb H (fun h H=>?_) (fun h H=>?_)
   ·refine go ?_;exact wq (hR _ (pur H).symm _ (rt _))
   ·refine go ?_;exact IH  (i64.wrap (Ym+1)) _ H _ rfl Q tt  hE hR _ _  S (hF.drop 1 0)
 ·refine go ?_;exact wq (hE () (pur H).symm _ _  S hF)
theorem Lb:∀(a0:List Bnd) r,II a0=some r->VP K1 30 [sf K2 a0] (.bool r):=by
 intro a0 r H;intro σ;unfold II at H;refine hdg mixed Tryz.func30 (rs:=[.tmp 2]) fun q tT=>?_;have hF:=K4 σ;have hX:=Tau.none σ;refine go ?_;obtain ⟨o11,ho11,H⟩:=bnd H;refine Eh a0 0 _ ho11 _ rfl _ _  ?_ ?_ _ _  S hF
 ·intro _ he T13 s14 tT hF;have he:=he.symm;subst he
  try dsimp only at H
  refine go ?_;have e:=pur H;subst e;exact rt _
 ·intro r hr s' hs;subst hr;have e:=pur H;subst e;exact hsq hs
theorem CT:∀(a0:Bnd) (c0:Xpn) r,Jp a0 c0=some r->∀(e0:Nat)  (σ:Sto),Pre σ [(e0,⟨30,5,[sf K2 c0.binds,sf Ze c0.macs,i6 c0.scope,i6 c0.id,i6 c0.steps]⟩)] []->Ctr K1 33 [.agg (K2 a0),.ptr e0 0] σ (fun r' ss'=>∃(tt':Sto),r'=.bool r/\Tau (strip σ []) [(e0,⟨30,5,[sf K2 c0.binds,sf Ze c0.macs,i6 c0.scope,i6 c0.id,i6 c0.steps]⟩)] tt'/\Fx tt' ss' [] []):=by
 intro a0 c0 r H;intro e0  σ hP;unfold Jp at H;refine hdg mixed Tryz.func33 (rs:=[.tmp 3]) fun q tT=>?_;obtain ⟨hF,hX⟩:=hP.start;generalize strip σ []=tt0 at hF hX ⊢;refine go ?_;refine Ya hF rfl fun b1 ss2 hF=>?_;refine go ?_;obtain ⟨x13,g3,H⟩:=bnd H;refine Yc 3 10 13 (.bool x13) (giN q (fun q=>?_) (fun q=>?_)) (fun J=>?_)
 ·rw [if_neg (df q)] at g3;refine go ?_;obtain ⟨x12,hx12,g3⟩:=bnd g3;refine cl (WV a0.id 6 10 _ hx12) ?_;refine go ?_;exact Yt 10 g3
 ·rw [if_pos (dt q)] at g3;refine go ?_;exact Yt 10 g3
 refine go ?_;have e:=pur H;subst e;exact rg _ ⟨_,rfl,hX,K6 _⟩
theorem JT:∀(a0:List Bnd) (c0:Xpn) (Yi:Int) out,Yl a0 c0 Yi=some out->∀c,Yg Tryz.f57 0=some c->∀(Q:QT) (tt0:Sto) (e0:Nat),(∀(_u:Unit),out=Sum.inr ()->∀(T:TT) (σ tt:Sto),0+0=0->Tau tt0 [(e0,⟨30,5,[sf K2 c0.binds,sf Ze c0.macs,i6 c0.scope,i6 c0.id,i6 c0.steps]⟩)] tt->Fx tt σ [] []->Q (.ex 0) ⟨T,σ⟩)->(∀r,out=Sum.inl r->∀s',ID K1 [.tmp 4] (fun r' ss'=>∃(tt':Sto),r'=i6 r/\Tau tt0 [(e0,⟨30,5,[sf K2 c0.binds,sf Ze c0.macs,i6 c0.scope,i6 c0.id,i6 c0.steps]⟩)] tt'/\Fx tt' ss' [] []) s'->Q .ret s')->∀(T:TT) (σ tt:Sto),T 0=sf K2 a0/\T 1=.fn 33 [.ptr e0 0]/\T 7=i6 (a0.length:Int)/\T 8=i6 Yi->Tau tt0 [(e0,⟨30,5,[sf K2 c0.binds,sf Ze c0.macs,i6 c0.scope,i6 c0.id,i6 c0.steps]⟩)] tt->Fx tt σ [] []->aLp K1 c Q ⟨T,σ⟩:=by
 intro a0 c0 Yi;revert Yi;refine Yl.partial_correctness a0 c0 _ ?_;intro Yl IH Yi out H c hc Q tt0 e0 hE hR T σ tt tT hX hF;refine lpy hc rfl fun q=>go ?_;refine cdp H (fun h H=>?_) (fun h H=>?_)
 ·obtain ⟨x14,f1,H⟩:=bil (g:=K2) Bnd.X6 H;refine go1 ?_;obtain ⟨x16,hx16,H⟩:=bnd H;refine cx (CT x14 c0 _ hx16 e0  _ (pre 0 1 0 hF hX)) ?_;rintro _ ss1 ⟨tt2,rfl,hT,hG⟩;obtain ⟨tt3,hX,hF⟩:=aft 0 1 0 hF hX hT hG;refine go ?_;refine cdb H (fun h H=>?_) (fun h H=>?_)
  ·refine go ?_;exact wq (hR _ (pur H).symm _ (rg _ ⟨_,rfl,hX,K6 _⟩))
  ·refine go ?_;exact IH  (i64.wrap (Yi+1)) _ H _ rfl Q tt0 e0 hE hR _ _ _  S hX hF
 ·refine go ?_;exact wq (hE () (pur H).symm _ _ _  S hX hF)
theorem Ga:∀(a0:List Bnd) (c0:Xpn) r,Vb a0 c0=some r->∀(e0:Nat)  (σ:Sto),Pre σ [(e0,⟨30,5,[sf K2 c0.binds,sf Ze c0.macs,i6 c0.scope,i6 c0.id,i6 c0.steps]⟩)] []->Ctr K1 57 [sf K2 a0,.fn 33 [.ptr e0 0]] σ (fun r' ss'=>∃(tt':Sto),r'=i6 r/\Tau (strip σ []) [(e0,⟨30,5,[sf K2 c0.binds,sf Ze c0.macs,i6 c0.scope,i6 c0.id,i6 c0.steps]⟩)] tt'/\Fx tt' ss' [] []):=by
 intro a0 c0 r H;intro e0  σ hP;unfold Vb at H;refine hdg mixed Tryz.func57 (rs:=[.tmp 4]) fun q tT=>?_;obtain ⟨hF,hX⟩:=hP.start;generalize strip σ []=tt0 at hF hX ⊢;refine go ?_;obtain ⟨o4,ho4,H⟩:=bnd H;refine JT a0 c0 0 _ ho4 _ rfl _ tt0 e0 ?_ ?_ _ _ _  S hX hF
 ·intro _ he T6 s7 t8 tT hX hF;have he:=he.symm;subst he
  try dsimp only at H
  refine go ?_;have e:=pur H;subst e;exact rg _ ⟨_,rfl,hX,K6 _⟩
 ·intro r hr s' hs;subst hr;have e:=pur H;subst e;exact hsq hs
theorem JS:∀(a0:List Bnd) (c0:Xpn) r,Y5 a0 c0=some r->∀(e0:Nat)  (σ:Sto),Pre σ [(e0,⟨30,5,[sf K2 c0.binds,sf Ze c0.macs,i6 c0.scope,i6 c0.id,i6 c0.steps]⟩)] []->Ctr K1 32 [sf K2 a0,.fn 33 [.ptr e0 0]] σ (fun r' ss'=>∃(tt':Sto),r'=.bool r/\Tau (strip σ []) [(e0,⟨30,5,[sf K2 c0.binds,sf Ze c0.macs,i6 c0.scope,i6 c0.id,i6 c0.steps]⟩)] tt'/\Fx tt' ss' [] []):=by
 intro a0 c0 r H;intro e0  σ hP;unfold Y5 at H;refine hdg mixed Tryz.func32 (rs:=[.tmp 4]) fun q tT=>?_;obtain ⟨hF,hX⟩:=hP.start;generalize strip σ []=tt0 at hF hX ⊢;refine go ?_;obtain ⟨x7,hx7,H⟩:=bnd H;refine cx (Ga a0 c0 _ hx7 e0  _ (pre 0 1 0 hF hX)) ?_;rintro _ ss1 ⟨tt2,rfl,hT,hG⟩;obtain ⟨tt3,hX,hF⟩:=aft 0 1 0 hF hX hT hG;refine go ?_;have e:=pur H;subst e;exact rg _ ⟨_,rfl,hX,K6 _⟩
theorem Pu:∀(a0:Fm) (a1 c0:Int) r,Aq a0 a1 c0=some r->∀(e0:Nat)  (σ:Sto),Pre σ [(e0,⟨3,1,[i6 c0]⟩)] []->Ctr K1 38 [.agg (K0 a0),i6 a1,.ptr e0 0] σ (fun r' ss'=>∃(tt':Sto),r'=.bool r.1/\Tau (strip σ []) [(e0,⟨3,1,[i6 r.2]⟩)] tt'/\Fx tt' ss' [] []):=by
 refine Aq.partial_correctness _ (motive_2:=fun a0 a1 Pg VW out=>∀c,Yg Tryz.f38 0=some c->∀(Q:QT) (tt0:Sto) (e0 b1:Nat),(∀(B6:Int),out=Sum.inr B6->∀(T:TT) (σ tt:Sto),0+0=0->Tau tt0 [(e0,⟨3,1,[i6 B6]⟩)] tt->Fx tt σ [(b1,⟨34,5,[i6 a0.kind,.str a0.name,i6 a0.num,sf cI a0.sc,sf K0 a0.kids]⟩)] []->Q (.ex 1) ⟨T,σ⟩)->(∀r,out=Sum.inl r->∀s',ID K1 [.tmp 6] (fun r' ss'=>∃(tt':Sto),r'=.bool r.1/\Tau tt0 [(e0,⟨3,1,[i6 r.2]⟩)] tt'/\Fx tt' ss' [] []) s'->Q .ret s')->∀(T:TT) (σ tt:Sto),T 1=i6 a1/\T 2=.ptr e0 0/\T 84=sf K0 a0.kids/\T 85=i6 (a0.kids.length:Int)/\T 86=i6 Pg->Tau tt0 [(e0,⟨3,1,[i6 VW]⟩)] tt->Fx tt σ [(b1,⟨34,5,[i6 a0.kind,.str a0.name,i6 a0.num,sf cI a0.sc,sf K0 a0.kids]⟩)] []->aLp K1 c Q ⟨T,σ⟩) ?_ ?_
 ·intro Hs L0 a0 a1 c0 r H;intro e0  σ hP;refine hdg mixed Tryz.func38 (rs:=[.tmp 6]) fun q tT=>?_;obtain ⟨hF,hX⟩:=hP.start;generalize strip σ []=tt0 at hF hX ⊢;refine go ?_;refine Ya hF rfl fun b1 ss2 hF=>?_;refine go ?_;refine stT hF hX 0 rfl fun tt4 ss3 hF hX=>?_;refine go ?_;obtain ⟨x21,g5,H⟩:=bnd H;refine Yc 2 19 21 (.bool x21) (giN q (fun q=>?_) (fun q=>?_)) (fun J=>?_)
  ·refine go ?_;exact Yt 19 g5
  ·refine go ?_;exact Yt 19 g5
  refine go ?_;refine cdb H (fun h H=>?_) (fun h H=>?_)
  ·refine go ?_;have e:=pur H;subst e;exact rg _ ⟨_,rfl,hX,K6 _⟩
  ·refine go ?_;refine cdp H (fun h H=>?_) (fun h H=>?_)
   ·refine go ?_;refine bp H (Dk a0.name) fun x28 h H=>cl h ?_;refine go ?_;obtain ⟨x33,g7,H⟩:=bnd H;refine Yc 3 30 33 (.bool x33) (gi q (fun q=>?_) (fun q=>?_)) (fun J=>?_)
    ·refine go ?_;exact Yt 30 g7
    ·refine go ?_;exact Yt 30 g7
    refine go ?_;obtain ⟨x38,g9,H⟩:=bnd H;refine Yc 3 35 38 (.bool x38) (gi q (fun q=>?_) (fun q=>?_)) (fun J=>?_)
    ·rw [if_pos (dbt q)] at g9;refine go ?_;obtain ⟨x37,hx37,g9⟩:=bnd g9;refine cl (DV a0.sc _ hx37) ?_;refine go ?_;exact Yt 35 g9
    ·rw [if_neg (dbf q)] at g9;refine go ?_;exact Yt 35 g9
    refine go ?_;obtain ⟨x44,g11,H⟩:=bnd H;refine Yc 4 40 44 (.bool x44) (gi q (fun q=>?_) (fun q=>?_)) (fun J=>?_)
    ·refine go ?_;exact Yt 40 g11
    ·refine go ?_;exact Yt 40 g11
    refine go ?_;have e:=pur H;subst e;exact rg _ ⟨_,rfl,hX,K6 _⟩
   ·refine go ?_;refine cdp H (fun h H=>?_) (fun h H=>?_)
    ·refine go ?_;obtain ⟨x54,g13,H⟩:=bnd H;refine Yc 3 51 54 (.bool x54) (gi q (fun q=>?_) (fun q=>?_)) (fun J=>?_)
     ·rw [if_pos (dt q)] at g13;refine go ?_;obtain ⟨x53,hx53,g13⟩:=bnd g13;refine cl (WV a0.num 0 999 _ hx53) ?_;refine go ?_;exact Yt 51 g13
     ·rw [if_neg (df q)] at g13;refine go ?_;exact Yt 51 g13
     refine go ?_;obtain ⟨x60,g15,H⟩:=bnd H;refine Yc 4 56 60 (.bool x60) (gi q (fun q=>?_) (fun q=>?_)) (fun J=>?_)
     ·refine go ?_;exact Yt 56 g15
     ·refine go ?_;exact Yt 56 g15
     refine go ?_;obtain ⟨x66,g17,H⟩:=bnd H;refine Yc 4 62 66 (.bool x66) (gi q (fun q=>?_) (fun q=>?_)) (fun J=>?_)
     ·refine go ?_;exact Yt 62 g17
     ·refine go ?_;exact Yt 62 g17
     refine go ?_;have e:=pur H;subst e;exact rg _ ⟨_,rfl,hX,K6 _⟩
    ·refine go ?_;refine cdp H (fun h H=>?_) (fun h H=>?_)
     ·refine go ?_;obtain ⟨x76,g19,H⟩:=bnd H;refine Yc 3 73 76 (.bool x76) (giN q (fun q=>?_) (fun q=>?_)) (fun J=>?_)
      ·refine go ?_;exact Yt 73 g19
      ·refine go ?_;exact Yt 73 g19
      refine go ?_;obtain ⟨x82,g21,H⟩:=bnd H;refine Yc 4 78 82 (.bool x82) (giN q (fun q=>?_) (fun q=>?_)) (fun J=>?_)
      ·refine go ?_;exact Yt 78 g21
      ·refine go ?_;exact Yt 78 g21
      refine go ?_;refine cdb H (fun h H=>?_) (fun h H=>?_)
      ·refine go ?_;have e:=pur H;subst e;exact rg _ ⟨_,rfl,hX,K6 _⟩
      ·refine go ?_;obtain ⟨o29,ho29,H⟩:=bnd H;refine L0 a0 a1 0 (i64.wrap (c0 - 1)) _ ho29 _ rfl _ tt0 e0 b1 ?_ ?_ _ _ _  S hX hF
       ·intro Qa2 he T31 s32 t33 tT hX hF;have he:=he.symm;subst he
        try dsimp only at H
        refine go ?_;have e:=pur H;subst e;exact rg _ ⟨_,rfl,hX,K6 _⟩
       ·intro r hr s' hs;subst hr;have e:=pur H;subst e;exact hsq hs
     ·refine go ?_;have e:=pur H;subst e;exact rg _ ⟨_,rfl,hX,K6 _⟩
 ·intro Aq Hs C0 L0 a0 a1 Pg VW out H c hc Q tt0 e0 b1 hE hR T σ tt tT hX hF;refine lpy hc rfl fun q=>go ?_;refine cdp H (fun h H=>?_) (fun h H=>?_)
  ·obtain ⟨x88,f1,H⟩:=bil (g:=K0) Fm.X6 H;refine go1 ?_;refine Ya hF rfl fun b23 s24 hF=>?_;refine go ?_;refine st hF 0 rfl fun s25 hF=>?_;refine go ?_;obtain ⟨x94,hx94,H⟩:=bnd H;refine cx (C0 x88 (i64.wrap (a1+1)) VW _ hx94 e0  _ (pre 0 1 0 hF hX)) ?_;rintro _ s26 ⟨t27,rfl,hT,hG⟩;obtain ⟨t28,hX,hF⟩:=aft 0 1 0 hF hX hT hG;refine go ?_;refine cdb H (fun h H=>?_) (fun h H=>?_)
   ·refine go ?_;exact wq (hR _ (pur H).symm _ (rg _ ⟨_,rfl,hX,K6 _⟩))
   ·refine go ?_;exact L0 a0 a1 (i64.wrap (Pg+1)) x94.2 _ H _ rfl Q tt0 e0 b1 hE hR _ _ _  S hX (hF.drop 1 0)
  ·refine go ?_;exact wq (hE _ (pur H).symm _ _ _  S hX hF)
theorem I3:∀(a0:Fm) r,Gg a0=some r->VP K1 15 [.agg (K0 a0)] (.bool r):=by
 intro a0 r H;intro σ;unfold Gg at H;refine hdg mixed Tryz.func15 (rs:=[.tmp 2]) fun q tT=>?_;have hF:=K4 σ;have hX:=Tau.none σ;refine go ?_;refine Ya hF rfl fun b1 ss2 hF=>?_;refine go ?_;refine Ya hF rfl fun b3 ss4 hF=>?_;refine go ?_;refine st hF 0 rfl fun ss5 hF=>?_;refine go ?_;obtain ⟨x5,hx5,H⟩:=bnd H;refine cx (Pu a0 1 400 _ hx5 b3  _ (pre 1 0 0 hF hX)) ?_;rintro _ ss6 ⟨t7,rfl,hT,hG⟩;have hF:=DA 1 0 hF hX hT hG;refine go ?_;have e:=pur H;subst e;exact rt _
theorem Ff:∀(a0:Fm) r,Ar a0=some r->VP K1 36 [.agg (K0 a0)] (.bool r):=by
 intro a0 r H;intro σ;unfold Ar at H;refine hdg mixed Tryz.func36 (rs:=[.tmp 2]) fun q tT=>?_;have hF:=K4 σ;have hX:=Tau.none σ;refine go ?_;refine Ya hF rfl fun b1 ss2 hF=>?_;refine go ?_;obtain ⟨x9,g3,H⟩:=bnd H;refine Yc 2 7 9 (.bool x9) (gi q (fun q=>?_) (fun q=>?_)) (fun J=>?_)
 ·rw [if_pos (dt q)] at g3;refine go ?_;obtain ⟨x8,hx8,g3⟩:=bnd g3;refine cl (I3 a0 _ hx8) ?_;refine go ?_;exact Yt 7 g3
 ·rw [if_neg (df q)] at g3;refine go ?_;exact Yt 7 g3
 refine go ?_;have e:=pur H;subst e;exact rt _
theorem Oi:∀(a0 c0:Fm) r,Bz a0 c0=some r->∀(e0:Nat)  (σ:Sto),Pre σ [(e0,⟨34,5,[i6 c0.kind,.str c0.name,i6 c0.num,sf cI c0.sc,sf K0 c0.kids]⟩)] []->Ctr K1 103 [.agg (K0 a0),.ptr e0 0] σ (fun r' ss'=>∃(tt':Sto),r'=.bool r/\Tau (strip σ []) [(e0,⟨34,5,[i6 c0.kind,.str c0.name,i6 c0.num,sf cI c0.sc,sf K0 c0.kids]⟩)] tt'/\Fx tt' ss' [] []):=by
 intro a0 c0 r H;intro e0  σ hP;unfold Bz at H;refine hdg mixed Tryz.func103 (rs:=[.tmp 3]) fun q tT=>?_;obtain ⟨hF,hX⟩:=hP.start;generalize strip σ []=tt0 at hF hX ⊢;refine go ?_;refine Ya hF rfl fun b1 ss2 hF=>?_;refine go ?_;refine bp H (Io a0 c0) fun x6 h H=>cl h ?_;refine go ?_;have e:=pur H;subst e;exact rg _ ⟨_,rfl,hX,K6 _⟩
theorem HE:∀(a0:List Fm) (c0:Fm) (Yi:Int) out,Yy a0 c0 Yi=some out->∀c,Yg Tryz.f129 0=some c->∀(Q:QT) (tt0:Sto) (e0:Nat),(∀(_u:Unit),out=Sum.inr ()->∀(T:TT) (σ tt:Sto),0+0=0->Tau tt0 [(e0,⟨34,5,[i6 c0.kind,.str c0.name,i6 c0.num,sf cI c0.sc,sf K0 c0.kids]⟩)] tt->Fx tt σ [] []->Q (.ex 0) ⟨T,σ⟩)->(∀r,out=Sum.inl r->∀s',ID K1 [.tmp 4] (fun r' ss'=>∃(tt':Sto),r'=i6 r/\Tau tt0 [(e0,⟨34,5,[i6 c0.kind,.str c0.name,i6 c0.num,sf cI c0.sc,sf K0 c0.kids]⟩)] tt'/\Fx tt' ss' [] []) s'->Q .ret s')->∀(T:TT) (σ tt:Sto),T 0=sf K0 a0/\T 1=.fn 103 [.ptr e0 0]/\T 7=i6 (a0.length:Int)/\T 8=i6 Yi->Tau tt0 [(e0,⟨34,5,[i6 c0.kind,.str c0.name,i6 c0.num,sf cI c0.sc,sf K0 c0.kids]⟩)] tt->Fx tt σ [] []->aLp K1 c Q ⟨T,σ⟩:=by
 intro a0 c0 Yi;revert Yi;refine Yy.partial_correctness a0 c0 _ ?_;intro Yy IH Yi out H c hc Q tt0 e0 hE hR T σ tt tT hX hF;refine lpy hc rfl fun q=>go ?_;refine cdp H (fun h H=>?_) (fun h H=>?_)
 ·obtain ⟨x14,f1,H⟩:=bil (g:=K0) Fm.X6 H;refine go1 ?_;obtain ⟨x16,hx16,H⟩:=bnd H;refine cx (Oi x14 c0 _ hx16 e0  _ (pre 0 1 0 hF hX)) ?_;rintro _ ss1 ⟨tt2,rfl,hT,hG⟩;obtain ⟨tt3,hX,hF⟩:=aft 0 1 0 hF hX hT hG;refine go ?_;refine cdb H (fun h H=>?_) (fun h H=>?_)
  ·refine go ?_;exact wq (hR _ (pur H).symm _ (rg _ ⟨_,rfl,hX,K6 _⟩))
  ·refine go ?_;exact IH  (i64.wrap (Yi+1)) _ H _ rfl Q tt0 e0 hE hR _ _ _  S hX hF
 ·refine go ?_;exact wq (hE () (pur H).symm _ _ _  S hX hF)
theorem Ic:∀(a0:List Fm) (c0:Fm) r,VD a0 c0=some r->∀(e0:Nat)  (σ:Sto),Pre σ [(e0,⟨34,5,[i6 c0.kind,.str c0.name,i6 c0.num,sf cI c0.sc,sf K0 c0.kids]⟩)] []->Ctr K1 129 [sf K0 a0,.fn 103 [.ptr e0 0]] σ (fun r' ss'=>∃(tt':Sto),r'=i6 r/\Tau (strip σ []) [(e0,⟨34,5,[i6 c0.kind,.str c0.name,i6 c0.num,sf cI c0.sc,sf K0 c0.kids]⟩)] tt'/\Fx tt' ss' [] []):=by
 intro a0 c0 r H;intro e0  σ hP;unfold VD at H;refine hdg mixed ZK (rs:=[.tmp 4]) fun q tT=>?_;obtain ⟨hF,hX⟩:=hP.start;generalize strip σ []=tt0 at hF hX ⊢;refine go ?_;obtain ⟨o4,ho4,H⟩:=bnd H;refine HE a0 c0 0 _ ho4 _ rfl _ tt0 e0 ?_ ?_ _ _ _  S hX hF
 ·intro _ he T6 s7 t8 tT hX hF;have he:=he.symm;subst he
  try dsimp only at H
  refine go ?_;have e:=pur H;subst e;exact rg _ ⟨_,rfl,hX,K6 _⟩
 ·intro r hr s' hs;subst hr;have e:=pur H;subst e;exact hsq hs
theorem HC:∀(a0:List Fm) (c0:Fm) r,Vs a0 c0=some r->∀(e0:Nat)  (σ:Sto),Pre σ [(e0,⟨34,5,[i6 c0.kind,.str c0.name,i6 c0.num,sf cI c0.sc,sf K0 c0.kids]⟩)] []->Ctr K1 102 [sf K0 a0,.fn 103 [.ptr e0 0]] σ (fun r' ss'=>∃(tt':Sto),r'=.bool r/\Tau (strip σ []) [(e0,⟨34,5,[i6 c0.kind,.str c0.name,i6 c0.num,sf cI c0.sc,sf K0 c0.kids]⟩)] tt'/\Fx tt' ss' [] []):=by
 intro a0 c0 r H;intro e0  σ hP;unfold Vs at H;refine hdg mixed Tryz.func102 (rs:=[.tmp 4]) fun q tT=>?_;obtain ⟨hF,hX⟩:=hP.start;generalize strip σ []=tt0 at hF hX ⊢;refine go ?_;obtain ⟨x7,hx7,H⟩:=bnd H;refine cx (Ic a0 c0 _ hx7 e0  _ (pre 0 1 0 hF hX)) ?_;rintro _ ss1 ⟨tt2,rfl,hT,hG⟩;obtain ⟨tt3,hX,hF⟩:=aft 0 1 0 hF hX hT hG;refine go ?_;have e:=pur H;subst e;exact rg _ ⟨_,rfl,hX,K6 _⟩
theorem Ej:∀(a0:List Fm) (a1:Fm) r,AR a0 a1=some r->VP K1 78 [sf K0 a0,.agg (K0 a1)] (.bool r):=by
 intro a0 a1 r H;intro σ;unfold AR at H;refine hdg mixed Tryz.func78 (rs:=[.tmp 4]) fun q tT=>?_;have hF:=K4 σ;have hX:=Tau.none σ;refine go ?_;refine Ya hF rfl fun b1 ss2 hF=>?_;refine go ?_;obtain ⟨x7,hx7,H⟩:=bnd H;refine cx (HC a0 a1 _ hx7 b1  _ (pre 1 0 0 hF hX)) ?_;rintro _ ss3 ⟨tt4,rfl,hT,hG⟩;have hF:=DA 1 0 hF hX hT hG;refine go ?_;have e:=pur H;subst e;exact rt _
theorem Ek:∀(a0:List Fm) (Ym:Int) out,V9 a0 Ym=some out->∀c,Yg Tryz.f58 0=some c->∀(Q:QT) (tt:Sto),(∀(_u:Unit),out=Sum.inr ()->∀(T:TT) (σ:Sto),T 0=sf K0 a0->Fx tt σ [] []->Q (.ex 0) ⟨T,σ⟩)->(∀r,out=Sum.inl r->∀s',ID K1 [.tmp 2] (fun r' ss'=>r'=.bool r/\ss'=tt) s'->Q .ret s')->∀(T:TT) (σ:Sto),T 0=sf K0 a0/\T 5=sf K0 a0/\T 6=i6 (a0.length:Int)/\T 7=i6 Ym->Fx tt σ [] []->aLp K1 c Q ⟨T,σ⟩:=by
 intro a0 Ym;revert Ym;refine V9.partial_correctness a0 _ ?_;intro V9 IH Ym out H c hc Q tt  hE hR T σ tT hF;refine lpx tt hc rfl fun q hX=>go ?_;refine cdp H (fun h H=>?_) (fun h H=>?_)
 ·obtain ⟨x10,f1,H⟩:=bil (g:=K0) Fm.X6 H;refine go1 ?_;refine Ya hF rfl fun b1 ss2 hF=>?_;refine go ?_;refine st hF 0 rfl fun ss3 hF=>?_;refine go ?_;refine Yj E0 [.v,.v,.v,.v,.v,.v,.v,.v,.v,.v,.v,.v,.v,.v,.v,.v,.v,.v,.v,.v] (by kernel_rfl) ?_;refine go ?_;refine bp H (Ff x10) fun x13 h H=>cv h ?_;refine go ?_;obtain ⟨x19,g4,H⟩:=bnd H;refine V0 3 16 19 (.bool x19) (tiN q (fun q=>?_) (fun q=>?_)) (fun J=>?_)
  ·refine go ?_;exact Yt 16 g4
  ·refine go ?_;exact Yt 16 g4
  refine go ?_;obtain ⟨x24,g6,H⟩:=bnd H;refine V0 3 21 24 (.bool x24) (tiN q (fun q=>?_) (fun q=>?_)) (fun J=>?_)
  ·refine go ?_;exact Yt 21 g6
  ·refine go ?_;exact Yt 21 g6
  refine go ?_;obtain ⟨x31,g8,H⟩:=bnd H;refine V0 5 26 31 (.bool x31) (tiN q (fun q=>?_) (fun q=>?_)) (fun J=>?_)
  ·rw [if_neg (dbf q)] at g8;obtain ⟨x28,f1,g8⟩:=bls (g:=K0) Fm.X6 (lo:=none) (hi:=some (i6 Ym)) rfl rfl g8;refine go1 ?_;obtain ⟨x30,hx30,g8⟩:=bnd g8;refine cv (Ej x28 x10 _ hx30) ?_;refine go ?_;exact Yt 26 g8
  ·rw [if_pos (dbt q)] at g8;refine go ?_;exact Yt 26 g8
  refine go ?_;refine cdb H (fun h H=>?_) (fun h H=>?_)
  ·refine go ?_;exact wq (hR _ (pur H).symm _ (rt _))
  ·refine go ?_;exact IH  (i64.wrap (Ym+1)) _ H _ rfl Q tt  hE hR _ _  S (hF.drop 1 0)
 ·refine go ?_;exact wq (hE () (pur H).symm _ _  S hF)
theorem CH:∀(a0:List Fm) r,HJ a0=some r->VP K1 58 [sf K0 a0] (.bool r):=by
 intro a0 r H;intro σ;unfold HJ at H;refine hdg mixed Tryz.func58 (rs:=[.tmp 2]) fun q tT=>?_;have hF:=K4 σ;have hX:=Tau.none σ;refine go ?_;obtain ⟨o10,ho10,H⟩:=bnd H;refine Ek a0 0 _ ho10 _ rfl _ _  ?_ ?_ _ _  S hF
 ·intro _ he T12 s13 tT hF;have he:=he.symm;subst he
  try dsimp only at H
  refine go ?_;have e:=pur H;subst e;exact rt _
 ·intro r hr s' hs;subst hr;have e:=pur H;subst e;exact hsq hs
theorem Ha:∀(a0:Fm) (a1:ByteArray) r,Wx a0 a1=some r->VP K1 104 [.agg (K0 a0),.str a1] (.bool r):=by
 intro a0 a1 r H;intro σ;unfold Wx at H;refine hdg mixed Tryz.func104 (rs:=[.tmp 4]) fun q tT=>?_;have hF:=K4 σ;have hX:=Tau.none σ;refine go ?_;refine Ya hF rfl fun b1 ss2 hF=>?_;refine go ?_;obtain ⟨x13,g3,H⟩:=bnd H;refine Yc 4 9 13 (.bool x13) (gi q (fun q=>?_) (fun q=>?_)) (fun J=>?_)
 ·refine go ?_;exact Yt 9 g3
 ·refine go ?_;exact Yt 9 g3
 refine go ?_;have e:=pur H;subst e;exact rt _
theorem L6:∀(a0:Fm) r,Ai a0=some r->VP K1 157 [.agg (K0 a0)] (.bool r):=by
 intro a0 r H;intro σ;unfold Ai at H;refine hdg mixed Tryz.func157 (rs:=[.tmp 2]) fun q tT=>?_;have hF:=K4 σ;have hX:=Tau.none σ;refine go ?_;refine Ya hF rfl fun b1 ss2 hF=>?_;refine go ?_;refine bp H (Ha a0 (Qd #[46,46,46])) fun x4 h H=>cl h ?_;refine go ?_;have e:=pur H;subst e;exact rt _
theorem Hd:∀(a0:List Fm) (Yi:Int) out,Yu a0 Yi=some out->∀c,Yg Tryz.f129 0=some c->∀(Q:QT) (tt:Sto),(∀(_u:Unit),out=Sum.inr ()->∀(T:TT) (σ:Sto),0+0=0->Fx tt σ [] []->Q (.ex 0) ⟨T,σ⟩)->(∀r,out=Sum.inl r->∀s',ID K1 [.tmp 4] (fun r' ss'=>r'=i6 r/\ss'=tt) s'->Q .ret s')->∀(T:TT) (σ:Sto),T 0=sf K0 a0/\T 1=.fn 157 []/\T 7=i6 (a0.length:Int)/\T 8=i6 Yi->Fx tt σ [] []->aLp K1 c Q ⟨T,σ⟩:=by
 intro a0 Yi;revert Yi;refine Yu.partial_correctness a0 _ ?_;intro Yu IH Yi out H c hc Q tt  hE hR T σ tT hF;refine lpx tt hc rfl fun q hX=>go ?_;refine cdp H (fun h H=>?_) (fun h H=>?_)
 ·obtain ⟨x14,f1,H⟩:=bil (g:=K0) Fm.X6 H;refine go1 ?_;refine bp H (L6 x14) fun x16 h H=>cl h ?_;refine go ?_;refine cdb H (fun h H=>?_) (fun h H=>?_)
  ·refine go ?_;exact wq (hR _ (pur H).symm _ (rt _))
  ·refine go ?_;exact IH  (i64.wrap (Yi+1)) _ H _ rfl Q tt  hE hR _ _  S hF
 ·refine go ?_;exact wq (hE () (pur H).symm _ _  S hF)
theorem HN:∀(a0:List Fm) r,Vy a0=some r->VP K1 129 [sf K0 a0,.fn 157 []] (i6 r):=by
 intro a0 r H;intro σ;unfold Vy at H;refine hdg mixed ZK (rs:=[.tmp 4]) fun q tT=>?_;have hF:=K4 σ;have hX:=Tau.none σ;refine go ?_;obtain ⟨o1,ho1,H⟩:=bnd H;refine Hd a0 0 _ ho1 _ rfl _ _  ?_ ?_ _ _  S hF
 ·intro _ he T3 ss4 tT hF;have he:=he.symm;subst he
  try dsimp only at H
  refine go ?_;have e:=pur H;subst e;exact rt _
 ·intro r hr s' hs;subst hr;have e:=pur H;subst e;exact hsq hs
theorem Pt:∀(a0:List Fm) r,Be a0=some r->VP K1 130 [sf K0 a0] (i6 r):=by
 intro a0 r H;intro σ;unfold Be at H;refine hdg mixed Tryz.func130 (rs:=[.tmp 2]) fun q tT=>?_;have hF:=K4 σ;have hX:=Tau.none σ;refine go ?_;refine bp H (HN a0) fun x4 h H=>cl h ?_;refine go ?_;have e:=pur H;subst e;exact rt _
theorem Fe:∀(a0:Fm) (a1:Bool) r,H9 a0 a1=some r->VP K1 105 [.agg (K0 a0),.bool a1] (.bool r):=by
 intro a0 a1;revert a0;refine H9.partial_correctness a1 (motive_1:=fun a0 r=>VP K1 105 [.agg (K0 a0),.bool a1] (.bool r)) (motive_2:=fun a0 YY out=>∀c,Yg Tryz.f105 0=some c->∀(Q:QT) (tt:Sto) (b1:Nat),(∀(_u:Unit),out=Sum.inr ()->∀(T:TT) (σ:Sto),0+0=0->Fx tt σ [(b1,⟨34,5,[i6 a0.kind,.str a0.name,i6 a0.num,sf cI a0.sc,sf K0 a0.kids]⟩)] []->Q (.ex 0) ⟨T,σ⟩)->(∀r,out=Sum.inl r->∀s',ID K1 [.tmp 4] (fun r' ss'=>r'=.bool r/\ss'=tt) s'->Q .ret s')->∀(T:TT) (σ:Sto),T 1=.bool a1/\T 2=.ptr b1 0/\T 8=sf K0 a0.kids/\T 9=i6 (a0.kids.length:Int)/\T 10=i6 YY->Fx tt σ [(b1,⟨34,5,[i6 a0.kind,.str a0.name,i6 a0.num,sf cI a0.sc,sf K0 a0.kids]⟩)] []->aLp K1 c Q ⟨T,σ⟩) ?_ ?_
 ·intro Jx L0 a0 r H;intro σ;refine hdg mixed Tryz.func105 (rs:=[.tmp 4]) fun q tT=>?_;have hF:=K4 σ;have hX:=Tau.none σ;refine go ?_;refine Ya hF rfl fun b1 ss2 hF=>?_;refine go ?_;obtain ⟨o12,ho12,H⟩:=bnd H;refine L0 a0 0 _ ho12 _ rfl _ _ b1 ?_ ?_ _ _  S hF
  ·intro _ he T14 s15 tT hF;have he:=he.symm;subst he
   try dsimp only at H
   refine go ?_;have e:=pur H;subst e;exact rt _
  ·intro r hr s' hs;subst hr;have e:=pur H;subst e;exact hsq hs
 ·intro H9 Jx C0 L0 a0 YY out H c hc Q tt b1 hE hR T σ tT hF;refine lpx tt hc rfl fun q hX=>go ?_;refine cdp H (fun h H=>?_) (fun h H=>?_)
  ·obtain ⟨x13,f1,H⟩:=bil (g:=K0) Fm.X6 H;refine go1 ?_;refine Ya hF rfl fun b3 ss4 hF=>?_;refine go ?_;refine st hF 0 rfl fun ss5 hF=>?_;refine go ?_;refine bp H (Ha x13 (Qd #[46,46,46])) fun x16 h H=>cl h ?_;refine go ?_;refine cdb H (fun h H=>?_) (fun h H=>?_)
   ·refine go ?_;obtain ⟨x27,g6,H⟩:=bnd H;refine Yc 7 20 27 (.bool x27) (giN q (fun q=>?_) (fun q=>?_)) (fun J=>?_)
    ·rw [if_neg (df q)] at g6;obtain ⟨x24,f1,g6⟩:=bil (g:=K0) Fm.X6 g6;refine go1 ?_;obtain ⟨x26,hx26,g6⟩:=bnd g6;refine cl (Ha x24 (Qd #[46,46,46]) _ hx26) ?_;refine go ?_;exact Yt 20 g6
    ·rw [if_pos (dt q)] at g6;refine go ?_;exact Yt 20 g6
    refine go ?_;obtain ⟨x38,g8,H⟩:=bnd H;refine Yc 9 29 38 (.bool x38) (giN q (fun q=>?_) (fun q=>?_)) (fun J=>?_)
    ·rw [if_neg (dbf q)] at g8;refine go ?_;obtain ⟨x37,g10,g8⟩:=bnd g8;refine Yc 6 31 37 (.bool x37) (gi q (fun q=>?_) (fun q=>?_)) (fun J=>?_)
     ·rw [if_pos (dbt q)] at g10;obtain ⟨x34,f1,g10⟩:=bls (g:=K0) Fm.X6 (lo:=none) (hi:=some (i6 YY)) rfl rfl g10;refine go1 ?_;obtain ⟨x35,hx35,g10⟩:=bnd g10;refine cl (Pt x34 _ hx35) ?_;refine go ?_;exact Yt 31 g10
     ·rw [if_neg (dbf q)] at g10;refine go ?_;exact Yt 31 g10
     refine go ?_;exact Yt 29 g8
    ·rw [if_pos (dbt q)] at g8;refine go ?_;exact Yt 29 g8
    refine go ?_;refine cdb H (fun h H=>?_) (fun h H=>?_)
    ·refine go ?_;exact wq (hR _ (pur H).symm _ (rt _))
    ·refine go ?_;exact L0 a0 (i64.wrap (YY+1)) _ H _ rfl Q tt b1 hE hR _ _  S (hF.drop 1 0)
   ·refine go ?_;refine bp H (C0 x13) fun x41 h H=>cl h ?_;refine go ?_;refine cdb H (fun h H=>?_) (fun h H=>?_)
    ·refine go ?_;exact wq (hR _ (pur H).symm _ (rt _))
    ·refine go ?_;exact L0 a0 (i64.wrap (YY+1)) _ H _ rfl Q tt b1 hE hR _ _  S (hF.drop 1 0)
  ·refine go ?_;exact wq (hE () (pur H).symm _ _  S hF)
theorem Sg:∀(a0:Fm) (a1:List Fm) r,Dm a0 a1=some r->VP K1 131 [.agg (K0 a0),sf K0 a1] (.bool r):=by
 intro a0 a1 r H;intro σ;unfold Dm at H;refine hdg mixed Tryz.func131 (rs:=[.tmp 4]) fun q tT=>?_;have hF:=K4 σ;have hX:=Tau.none σ;refine go ?_;refine Ya hF rfl fun b1 ss2 hF=>?_;refine go ?_;obtain ⟨x12,g3,H⟩:=bnd H;refine Yc 3 9 12 (.bool x12) (gi q (fun q=>?_) (fun q=>?_)) (fun J=>?_)
 ·refine go ?_;exact Yt 9 g3
 ·refine go ?_;exact Yt 9 g3
 refine go ?_;obtain ⟨x17,g5,H⟩:=bnd H;refine Yc 3 14 17 (.bool x17) (gi q (fun q=>?_) (fun q=>?_)) (fun J=>?_)
 ·refine go ?_;exact Yt 14 g5
 ·refine go ?_;exact Yt 14 g5
 refine go ?_;obtain ⟨x23,g7,H⟩:=bnd H;refine Yc 4 19 23 (.bool x23) (gi q (fun q=>?_) (fun q=>?_)) (fun J=>?_)
 ·rw [if_pos (dbt q)] at g7;refine go ?_;obtain ⟨x21,hx21,g7⟩:=bnd g7;refine cl (Ej a1 a0 _ hx21) ?_;refine go ?_;exact Yt 19 g7
 ·rw [if_neg (dbf q)] at g7;refine go ?_;exact Yt 19 g7
 refine go ?_;have e:=pur H;subst e;exact rt _
theorem Fv:∀(a0:Fm) (a1:List Fm) (a2:Int) (c0:List Fm) (c1:List Int) r,WG a0 a1 a2 c0 c1=some r->∀(e0 e1:Nat) (Qh6 Qee:AV) (σ:Sto),Pre σ [(e0,⟨32,1,[Qh6]⟩),(e1,⟨31,1,[Qee]⟩)] [⟨Qh6,34,5,rws K0 c0⟩,⟨Qee,3,1,rws cI c1⟩]->Ctr K1 106 [.agg (K0 a0),sf K0 a1,i6 a2,.ptr e0 0,.ptr e1 0] σ (fun r' ss'=>∃(tt':Sto) (Qrb Qrc:AV),r'=.tup []/\Tau (strip σ [⟨Qh6,34,5,rws K0 c0⟩,⟨Qee,3,1,rws cI c1⟩]) [(e0,⟨32,1,[Qrb]⟩),(e1,⟨31,1,[Qrc]⟩)] tt'/\Fx tt' ss' [] [⟨Qrb,34,5,rws K0 r.1⟩,⟨Qrc,3,1,rws cI r.2⟩]):=by
 intro a0 a1 a2 c0 c1;revert a0 a2 c0 c1;refine WG.partial_correctness a1 (motive_1:=fun a0 a2 c0 c1 r=>∀(e0 e1:Nat) (Qh6 Qee:AV) (σ:Sto),Pre σ [(e0,⟨32,1,[Qh6]⟩),(e1,⟨31,1,[Qee]⟩)] [⟨Qh6,34,5,rws K0 c0⟩,⟨Qee,3,1,rws cI c1⟩]->Ctr K1 106 [.agg (K0 a0),sf K0 a1,i6 a2,.ptr e0 0,.ptr e1 0] σ (fun r' ss'=>∃(tt':Sto) (Qrb Qrc:AV),r'=.tup []/\Tau (strip σ [⟨Qh6,34,5,rws K0 c0⟩,⟨Qee,3,1,rws cI c1⟩]) [(e0,⟨32,1,[Qrb]⟩),(e1,⟨31,1,[Qrc]⟩)] tt'/\Fx tt' ss' [] [⟨Qrb,34,5,rws K0 r.1⟩,⟨Qrc,3,1,rws cI r.2⟩])) (motive_2:=fun a0 a2 X9 Vq BJ out=>∀c,Yg Tryz.f106 0=some c->∀(Q:QT) (tt0:Sto) (e0 e1 b1:Nat),(∀(Vz:List Int) (FY:List Fm),out=(Vz,FY)->∀(T:TT) (σ tt:Sto) (e0v0 e0v1:AV),0+0=0->Tau tt0 [(e0,⟨32,1,[e0v1]⟩),(e1,⟨31,1,[e0v0]⟩)] tt->Fx tt σ [(b1,⟨34,5,[i6 a0.kind,.str a0.name,i6 a0.num,sf cI a0.sc,sf K0 a0.kids]⟩)] [⟨e0v1,34,5,rws K0 FY⟩,⟨e0v0,3,1,rws cI Vz⟩]->Q (.ex 0) ⟨T,σ⟩)->True->∀(T:TT) (σ tt:Sto) (z0v0 z0v1:AV),T 1=sf K0 a1/\T 2=i6 a2/\T 3=.ptr e0 0/\T 4=.ptr e1 0/\T 5=.ptr b1 0/\T 34=sf K0 a0.kids/\T 35=i6 (a0.kids.length:Int)/\T 36=i6 BJ->Tau tt0 [(e0,⟨32,1,[z0v1]⟩),(e1,⟨31,1,[z0v0]⟩)] tt->Fx tt σ [(b1,⟨34,5,[i6 a0.kind,.str a0.name,i6 a0.num,sf cI a0.sc,sf K0 a0.kids]⟩)] [⟨z0v1,34,5,rws K0 Vq⟩,⟨z0v0,3,1,rws cI X9⟩]->aLp K1 c Q ⟨T,σ⟩) ?_ ?_
 ·intro VT L0 a0 a2 c0 c1 r H;intro e0 e1 Qh6 Qee σ hP;refine hdg mixed Tryz.func106 (rs:=[]) fun q tT=>?_;obtain ⟨hF,hX⟩:=hP.start;generalize strip σ [⟨Qh6,34,5,rws K0 c0⟩,⟨Qee,3,1,rws cI c1⟩]=tt0 at hF hX ⊢;refine go ?_;refine Ya hF rfl fun b1 ss2 hF=>?_;refine go ?_;refine bp H (Sg a0 a1) fun x15 h H=>cl h ?_;refine go ?_;obtain ⟨⟨AN,Qk7⟩,j4,H⟩:=bnd H;refine Wn (fun s'=>∃(T:TT) (ss1 tt1:Sto) (y3v0 y3v1:AV),s'=⟨T,ss1⟩/\(T 1=sf K0 a1/\T 2=i6 a2/\T 3=.ptr e0 0/\T 4=.ptr e1 0/\T 5=.ptr b1 0)/\Tau tt0 [(e0,⟨32,1,[y3v1]⟩),(e1,⟨31,1,[y3v0]⟩)] tt1/\Fx tt1 ss1 [(b1,⟨34,5,[i6 a0.kind,.str a0.name,i6 a0.num,sf cI a0.sc,sf K0 a0.kids]⟩)] [⟨y3v1,34,5,rws K0 Qk7⟩,⟨y3v0,3,1,rws cI AN⟩]) (cdb j4 (fun h j4=>?_) (fun h j4=>?_)) ?_
  ·refine go ?_;obtain ⟨E,hEq⟩:∃E,E=EE ss2 [e0]:=⟨_,rfl⟩
   have n5:¬E b1:=by rw [hEq];exact EE.not (hF.at 0 rfl) (nm1 (neX hF 0 rfl hX 0 rfl))
   have n6:¬E e1:=by rw [hEq];exact EE.not (hF.xat hX 1 rfl) (nm1 (neE hX 1 0 rfl rfl (by decide)))
   refine RZ E [.v,.v,.v,.v,.x,.v,.x,.v,.v] [0,1,3,5,2,4,6,7,9] 8 10 [] [] [] [] (by kernel_rfl) ?_
   try simp only [go_sem,↓reduceIte,Nat.reduceEqDiff,Nat.reduceAdd,Nat.reduceMul,Nat.reduceLeDiff,Nat.reduceLT,Int.reduceEq,Int.toNat_natCast,q,tT,hF.f,hF.m,hF.x hX,X7 (hF.at 0 rfl) n5,X7 (hF.xat hX 1 rfl) n6,Qph]
   refine Qrt (g:=K0) (rows:=[[i6 0,.str zB,i6 0,.Yd,.Yd]]) hF 0 j4 Fm.X6 true rfl (by simp only [sf,i6,zB,Vn,VQ,cI,cU,cS,cL,Fm.Yb,Fm.kind,Fm.name,Fm.num,Fm.sc,Fm.kids,Hit.name,Hit.depth,Hit.one,Hit.many,Cor.kind,Cor.id,Cor.name,Cor.num,Cor.ids,Cor.data,Cor.kids,Val.kind,Val.num,Val.name,Val.items,Val.fn,Val.env,Slt.id,Slt.val,List.flatten_cons,List.flatten_nil,List.append_nil,List.cons_append,List.nil_append];exact (.cons (.refl _) id (.cons (.refl _) id (.cons (.refl _) id (.cons .Yd (fun _=>rfl) (.cons .Yd (fun _=>rfl) .nil)))))) fun x22 j4 v7 s8 hF=>?_;have z:=K5 (X7 (hF.at 0 rfl) n5) (X7 (hF.xat hX 1 rfl) n6);refine gh ?_;obtain ⟨x23,hx23,j4⟩:=bnd j4;obtain ⟨b9,k10,hv⟩:=hF.ref 0 rfl hx23;subst hv
   try simp only [go_sem,↓reduceIte,Nat.reduceEqDiff,Nat.reduceAdd,Nat.reduceMul,Nat.reduceLeDiff,Nat.reduceLT,Int.reduceEq,Int.toNat_natCast,q,tT,hF.f,hF.m,hF.x hX,X7 (hF.at 0 rfl) n5,X7 (hF.xat hX 1 rfl) n6,EP (l:=x22) rfl hx23]
   refine ⟨?_,?_⟩
   ·have z:=K5 (X7 (hF.at 0 rfl) n5) (X7 (hF.xat hX 1 rfl) n6);refine gh ?_;refine Qa9 hF 0 (o:=0) (sz:=5) (k:=5) (v:=(.agg [i6 a0.kind,.str a0.name,i6 a0.num,sf cI a0.sc,sf K0 a0.kids])) (cs:=[i6 a0.kind,.str a0.name,i6 a0.num,sf cI a0.sc,sf K0 a0.kids]) (g:=K0) (i:=(c0.length:Int)) a0 Fm.X6 (by first | rfl | simp) rfl hx23 rfl rfl (by decide) (by first | rfl | simp [Hq,cI,cU,cS,cL,cB,Fm.Yb]) fun s11 hF=>?_;have hF:Fx tt0 s11 [(b1,⟨34,5,[i6 a0.kind,.str a0.name,i6 a0.num,sf cI a0.sc,sf K0 a0.kids]⟩)] [⟨.ref b9 x22.length k10,34,5,rws K0 (x22.set (c0.length:Int).toNat a0)⟩,⟨Qee,3,1,rws cI c1⟩]:=hF;have z:=K5 (X7 (hF.at 0 rfl) n5) (X7 (hF.xat hX 1 rfl) n6);refine gh ?_;refine Qti hF hX 0 (by rw [hEq];exact EE.of (by simp)) (hF.cells 0 rfl) fun t13 s12 hF hX=>?_;have z:=K5 (X7 (hF.at 0 rfl) n5) (X7 (hF.xat hX 1 rfl) n6);refine gh ?_;refine go ?_;refine apd (g:=cI) hF 1 j4 (rdo (c:=true) (g:=cI) (fun _=>rfl)) fun x31 j4 v14 s15 hF=>?_;refine go ?_;refine stT hF hX 1 (hF.cells 1 rfl) fun t17 s16 hF hX=>?_;refine go ?_;have e:=pur j4
    injection e with e0 e
    subst e0;subst e;exact ⟨_,_,_,v14,(.ref b9 x22.length k10),rfl,S,hX,hF⟩
   ·have z:=K5 (X7 (hF.at 0 rfl) n5) (X7 (hF.xat hX 1 rfl) n6);refine gh ?_;refine Qti hF hX 0 (by rw [hEq];exact EE.of (by simp)) (hF.cells 0 rfl) fun t19 s18 hF hX=>?_;have z:=K5 (X7 (hF.at 0 rfl) n5) (X7 (hF.xat hX 1 rfl) n6);refine gh ?_;refine Qa9 hF 0 (o:=0) (sz:=5) (k:=5) (v:=(.agg [i6 a0.kind,.str a0.name,i6 a0.num,sf cI a0.sc,sf K0 a0.kids])) (cs:=[i6 a0.kind,.str a0.name,i6 a0.num,sf cI a0.sc,sf K0 a0.kids]) (g:=K0) (i:=(c0.length:Int)) a0 Fm.X6 (by first | rfl | simp) rfl hx23 rfl rfl (by decide) (by first | rfl | simp [Hq,cI,cU,cS,cL,cB,Fm.Yb]) fun s20 hF=>?_;have hF:Fx t19 s20 [(b1,⟨34,5,[i6 a0.kind,.str a0.name,i6 a0.num,sf cI a0.sc,sf K0 a0.kids]⟩)] [⟨.ref b9 x22.length k10,34,5,rws K0 (x22.set (c0.length:Int).toNat a0)⟩,⟨Qee,3,1,rws cI c1⟩]:=hF;have z:=K5 (X7 (hF.at 0 rfl) n5) (X7 (hF.xat hX 1 rfl) n6);refine gh ?_;refine go ?_;refine apd (g:=cI) hF 1 j4 (rdo (c:=true) (g:=cI) (fun _=>rfl)) fun x31 j4 v21 s22 hF=>?_;refine go ?_;refine stT hF hX 1 (hF.cells 1 rfl) fun t24 s23 hF hX=>?_;refine go ?_;have e:=pur j4
    injection e with e0 e
    subst e0;subst e;exact ⟨_,_,_,v21,(.ref b9 x22.length k10),rfl,S,hX,hF⟩
  ·refine go ?_;have e:=pur j4
   injection e with e0 e
   subst e0;subst e;exact ⟨_,_,_,Qee,Qh6,rfl,S,hX,hF⟩
  ·rintro s' ⟨T25,s26,t27,y3v0,y3v1,rfl,tT,hX,hF⟩;refine go ?_;obtain ⟨o43,ho43,H⟩:=bnd H;refine L0 a0 a2 AN Qk7 0 _ ho43 _ rfl _ tt0 e0 e1 b1 ?_ ?_ _ _ _ y3v0 y3v1 S hX hF
   ·intro Qlm Qln he T45 s46 t47 e44v0 e44v1 tT hX hF;have he:=he.symm;subst he
    try dsimp only at H
    refine go ?_;have e:=pur H;subst e;exact rg _ ⟨_,_,_,rfl,hX,hF.pick [] [0,1] (by decide) (by decide)⟩
   ·trivial
 ·intro WG VT C0 L0 a0 a2 X9 Vq BJ out H c hc Q tt0 e0 e1 b1 hE hR T σ tt z0v0 z0v1 tT hX hF;refine lpy hc rfl fun q=>go ?_;refine cdp H (fun h H=>?_) (fun h H=>?_)
  ·obtain ⟨x39,f1,H⟩:=bil (g:=K0) Fm.X6 H;refine go1 ?_;refine Ya hF rfl fun b28 s29 hF=>?_;refine go ?_;refine st hF 0 rfl fun s30 hF=>?_;refine go ?_;obtain ⟨x56,g31,H⟩:=bnd H;refine Yc 7 49 56 (.bool x56) (gi q (fun q=>?_) (fun q=>?_)) (fun J=>?_)
   ·rw [if_pos (dt q)] at g31;obtain ⟨x53,f1,g31⟩:=bil (g:=K0) Fm.X6 g31;refine go1 ?_;obtain ⟨x55,hx55,g31⟩:=bnd g31;refine cl (Ha x53 (Qd #[46,46,46]) _ hx55) ?_;refine go ?_;exact Yt 49 g31
   ·rw [if_neg (df q)] at g31;refine go ?_;exact Yt 49 g31
   refine go ?_;obtain ⟨MI,j34,H⟩:=bnd H;refine Wn (fun s'=>∃(T:TT) (ss1 tt1:Sto),s'=⟨T,ss1⟩/\(T 1=sf K0 a1/\T 2=i6 a2/\T 3=.ptr e0 0/\T 4=.ptr e1 0/\T 5=.ptr b1 0/\T 11=.ptr b28 0/\T 12=i6 MI/\T 34=sf K0 a0.kids/\T 35=i6 (a0.kids.length:Int)/\T 36=i6 BJ)/\Tau tt0 [(e0,⟨32,1,[z0v1]⟩),(e1,⟨31,1,[z0v0]⟩)] tt1/\Fx tt1 ss1 [(b28,⟨34,5,[i6 x39.kind,.str x39.name,i6 x39.num,sf cI x39.sc,sf K0 x39.kids]⟩),(b1,⟨34,5,[i6 a0.kind,.str a0.name,i6 a0.num,sf cI a0.sc,sf K0 a0.kids]⟩)] [⟨z0v1,34,5,rws K0 Vq⟩,⟨z0v0,3,1,rws cI X9⟩]) (cdb j34 (fun h j34=>?_) (fun h j34=>?_)) ?_
   ·refine go ?_;have e:=pur j34;subst e;exact ⟨_,_,_,rfl,S,hX,hF⟩
   ·refine go ?_;have e:=pur j34;subst e;exact ⟨_,_,_,rfl,S,hX,hF⟩
   ·rintro s' ⟨T35,s36,t37,rfl,tT,hX,hF⟩;refine go ?_;obtain ⟨x64,hx64,H⟩:=bnd H;refine cx (C0 x39 MI Vq X9 _ hx64 e0 e1 z0v1 z0v0 _ (pre 0 2 2 hF hX)) ?_;rintro _ s40 ⟨t41,v38,v39,rfl,hT,hG⟩;obtain ⟨t42,hX,hF⟩:=aft 0 2 2 hF hX hT hG;refine go ?_;exact L0 a0 a2 x64.2 x64.1 (i64.wrap (BJ+1)) _ H _ rfl Q tt0 e0 e1 b1 hE hR _ _ _ v39 v38 S hX (hF.drop 1 0)
  ·refine go ?_;exact wq (hE _ _ (pur H).symm _ _ _ z0v0 z0v1 S hX hF)
theorem Fg:∀(a0:Fm) (a1:List Fm) r,Bf a0 a1=some r->VP K1 81 [.agg (K0 a0),sf K0 a1] (.tup [sf K0 r.1,sf cI r.2]):=by
 intro a0 a1 r H;intro σ;unfold Bf at H;refine hdg mixed Tryz.func81 (rs:=[.tmp 4,.tmp 5]) fun q tT=>?_;have hF:=K4 σ;have hX:=Tau.none σ;refine go ?_;refine Ya hF rfl fun b1 ss2 hF=>?_;refine go ?_;refine Ya hF rfl fun b3 ss4 hF=>?_;refine go ?_;refine Ya hF rfl fun b5 ss6 hF=>?_;refine go ?_;refine st hF 1 rfl fun s7 hF=>?_;refine go ?_;refine st hF 0 rfl fun s8 hF=>?_;have hF:=hF.lit 34 5 (rws K0 []) rfl;have hF:=hF.lit 3 1 (rws cI []) rfl;refine go ?_;have hF:=pck hF [1,0,2] [1,0];obtain ⟨x12,hx12,H⟩:=bnd H;refine cx (Fv a0 a1 0 [] [] _ hx12 b3 b5 (.sl true (rws K0 [])) (.sl true (rws cI [])) _ (pre 2 0 2 hF hX)) ?_;rintro _ s11 ⟨t12,v9,v10,rfl,hT,hG⟩;have hF:=DA 2 2 hF hX hT hG;have hF:=pck hF [1,0,2] [0,1];refine go ?_;refine Yj E0 [.v,.v,.v,.v] (by kernel_rfl) ?_;refine go ?_;have e:=pur H;subst e;exact rt _
theorem DH:∀(a0:Fm) (x29:List Fm × List Int) (AL:Int) out,VN a0 x29 AL=some out->∀c,Yg Tryz.f80 0=some c->∀(Q:QT) (tt:Sto) (b1:Nat),(∀(_u:Unit),out=Sum.inr ()->∀(T:TT) (σ:Sto),T 5=sf K0 x29.1->Fx tt σ [(b1,⟨34,5,[i6 a0.kind,.str a0.name,i6 a0.num,sf cI a0.sc,sf K0 a0.kids]⟩)] []->Q (.ex 0) ⟨T,σ⟩)->(∀r,out=Sum.inl r->∀s',ID K1 [.tmp 4] (fun r' ss'=>r'=.bool r/\ss'=tt) s'->Q .ret s')->∀(T:TT) (σ:Sto),T 5=sf K0 x29.1/\T 6=sf cI x29.2/\T 32=sf K0 x29.1/\T 33=i6 (x29.1.length:Int)/\T 34=i6 AL->Fx tt σ [(b1,⟨34,5,[i6 a0.kind,.str a0.name,i6 a0.num,sf cI a0.sc,sf K0 a0.kids]⟩)] []->aLp K1 c Q ⟨T,σ⟩:=by
 intro a0 x29 AL;revert AL;refine VN.partial_correctness a0 x29 _ ?_;intro VN IH AL out H c hc Q tt b1 hE hR T σ tT hF;refine lpx tt hc rfl fun q hX=>go ?_;refine cdp H (fun h H=>?_) (fun h H=>?_)
 ·obtain ⟨x37,f1,H⟩:=bil (g:=K0) Fm.X6 H;refine go1 ?_;refine Ya hF rfl fun b9 s10 hF=>?_;refine go ?_;refine st hF 0 rfl fun s11 hF=>?_;refine go ?_;refine Yj E0 [.v,.v,.v,.v,.v,.v,.v,.v,.v,.v,.v,.v] (by kernel_rfl) ?_;obtain ⟨x41,f1,H⟩:=bls (g:=K0) Fm.X6 (lo:=none) (hi:=some (i6 AL)) rfl rfl H;refine go1 ?_;refine bp H (Ej x41 x37) fun x43 h H=>cv h ?_;refine go ?_;obtain ⟨x50,g12,H⟩:=bnd H;refine V0 5 45 50 (.bool x50) (tiN q (fun q=>?_) (fun q=>?_)) (fun J=>?_)
  ·rw [if_neg (dbf q)] at g12;obtain ⟨x47,f1,g12⟩:=bil (g:=cI) (fun _=>rfl) g12;refine go1 ?_;refine go ?_;exact Yt 45 g12
  ·rw [if_pos (dbt q)] at g12;refine go ?_;exact Yt 45 g12
  refine go ?_;refine cdb H (fun h H=>?_) (fun h H=>?_)
  ·refine go ?_;exact wq (hR _ (pur H).symm _ (rt _))
  ·refine go ?_;exact IH  (i64.wrap (AL+1)) _ H _ rfl Q tt b1 hE hR _ _  S (hF.drop 1 0)
 ·refine go ?_;exact wq (hE () (pur H).symm _ _  S hF)
theorem E4:∀(a0:Fm) (a1:List Fm) r,HI a0 a1=some r->VP K1 80 [.agg (K0 a0),sf K0 a1] (.bool r):=by
 intro a0 a1 r H;intro σ;unfold HI at H;refine hdg mixed Tryz.func80 (rs:=[.tmp 4]) fun q tT=>?_;have hF:=K4 σ;have hX:=Tau.none σ;refine go ?_;refine Ya hF rfl fun b1 ss2 hF=>?_;refine go ?_;refine bp H (I3 a0) fun x10 h H=>cl h ?_;refine go ?_;obtain ⟨x16,g3,H⟩:=bnd H;refine Yc 3 13 16 (.bool x16) (giN q (fun q=>?_) (fun q=>?_)) (fun J=>?_)
 ·rw [if_neg (dbf q)] at g3;refine go ?_;obtain ⟨x14,hx14,g3⟩:=bnd g3;refine cl (CH a1 _ hx14) ?_;refine go ?_;exact Yt 13 g3
 ·rw [if_pos (dbt q)] at g3;refine go ?_;exact Yt 13 g3
 refine go ?_;obtain ⟨x20,g5,H⟩:=bnd H;refine Yc 2 18 20 (.bool x20) (giN q (fun q=>?_) (fun q=>?_)) (fun J=>?_)
 ·rw [if_neg (dbf q)] at g5;refine go ?_;obtain ⟨x19,hx19,g5⟩:=bnd g5;refine cl (Ha a0 (Qd #[46,46,46]) _ hx19) ?_;refine go ?_;exact Yt 18 g5
 ·rw [if_pos (dbt q)] at g5;refine go ?_;exact Yt 18 g5
 refine go ?_;obtain ⟨x25,g7,H⟩:=bnd H;refine Yc 3 22 25 (.bool x25) (giN q (fun q=>?_) (fun q=>?_)) (fun J=>?_)
 ·rw [if_neg (dbf q)] at g7;refine go ?_;obtain ⟨x23,hx23,g7⟩:=bnd g7;refine cl (Fe a0 true _ hx23) ?_;refine go ?_;exact Yt 22 g7
 ·rw [if_pos (dbt q)] at g7;refine go ?_;exact Yt 22 g7
 refine go ?_;refine cdb H (fun h H=>?_) (fun h H=>?_)
 ·refine go ?_;have e:=pur H;subst e;exact rt _
 ·refine go ?_;refine bp H (Fg a0 a1) fun x29 h H=>cl h ?_;refine go ?_;obtain ⟨o14,ho14,H⟩:=bnd H;refine DH a0 x29 0 _ ho14 _ rfl _ _ b1 ?_ ?_ _ _  S hF
  ·intro _ he T16 s17 tT hF;have he:=he.symm;subst he
   try dsimp only at H
   refine go ?_;have e:=pur H;subst e;exact rt _
  ·intro r hr s' hs;subst hr;have e:=pur H;subst e;exact hsq hs
theorem Ld:∀(a0 c0:Fm) r,IJ a0 c0=some r->∀(e0:Nat)  (σ:Sto),Pre σ [(e0,⟨34,5,[i6 c0.kind,.str c0.name,i6 c0.num,sf cI c0.sc,sf K0 c0.kids]⟩)] []->Ctr K1 158 [.agg (K0 a0),.ptr e0 0] σ (fun r' ss'=>∃(tt':Sto),r'=.bool r/\Tau (strip σ []) [(e0,⟨34,5,[i6 c0.kind,.str c0.name,i6 c0.num,sf cI c0.sc,sf K0 c0.kids]⟩)] tt'/\Fx tt' ss' [] []):=by
 intro a0 c0 r H;intro e0  σ hP;unfold IJ at H;refine hdg mixed Tryz.func158 (rs:=[.tmp 3]) fun q tT=>?_;obtain ⟨hF,hX⟩:=hP.start;generalize strip σ []=tt0 at hF hX ⊢;refine go ?_;refine Ya hF rfl fun b1 ss2 hF=>?_;refine go ?_;refine bp H (Io a0 c0) fun x6 h H=>cl h ?_;refine go ?_;have e:=pur H;subst e;exact rg _ ⟨_,rfl,hX,K6 _⟩
theorem G3:∀(a0:List Fm) (c0:Fm) (Yi:Int) out,Yr a0 c0 Yi=some out->∀c,Yg Tryz.f129 0=some c->∀(Q:QT) (tt0:Sto) (e0:Nat),(∀(_u:Unit),out=Sum.inr ()->∀(T:TT) (σ tt:Sto),0+0=0->Tau tt0 [(e0,⟨34,5,[i6 c0.kind,.str c0.name,i6 c0.num,sf cI c0.sc,sf K0 c0.kids]⟩)] tt->Fx tt σ [] []->Q (.ex 0) ⟨T,σ⟩)->(∀r,out=Sum.inl r->∀s',ID K1 [.tmp 4] (fun r' ss'=>∃(tt':Sto),r'=i6 r/\Tau tt0 [(e0,⟨34,5,[i6 c0.kind,.str c0.name,i6 c0.num,sf cI c0.sc,sf K0 c0.kids]⟩)] tt'/\Fx tt' ss' [] []) s'->Q .ret s')->∀(T:TT) (σ tt:Sto),T 0=sf K0 a0/\T 1=.fn 158 [.ptr e0 0]/\T 7=i6 (a0.length:Int)/\T 8=i6 Yi->Tau tt0 [(e0,⟨34,5,[i6 c0.kind,.str c0.name,i6 c0.num,sf cI c0.sc,sf K0 c0.kids]⟩)] tt->Fx tt σ [] []->aLp K1 c Q ⟨T,σ⟩:=by
 intro a0 c0 Yi;revert Yi;refine Yr.partial_correctness a0 c0 _ ?_;intro Yr IH Yi out H c hc Q tt0 e0 hE hR T σ tt tT hX hF;refine lpy hc rfl fun q=>go ?_;refine cdp H (fun h H=>?_) (fun h H=>?_)
 ·obtain ⟨x14,f1,H⟩:=bil (g:=K0) Fm.X6 H;refine go1 ?_;obtain ⟨x16,hx16,H⟩:=bnd H;refine cx (Ld x14 c0 _ hx16 e0  _ (pre 0 1 0 hF hX)) ?_;rintro _ ss1 ⟨tt2,rfl,hT,hG⟩;obtain ⟨tt3,hX,hF⟩:=aft 0 1 0 hF hX hT hG;refine go ?_;refine cdb H (fun h H=>?_) (fun h H=>?_)
  ·refine go ?_;exact wq (hR _ (pur H).symm _ (rg _ ⟨_,rfl,hX,K6 _⟩))
  ·refine go ?_;exact IH  (i64.wrap (Yi+1)) _ H _ rfl Q tt0 e0 hE hR _ _ _  S hX hF
 ·refine go ?_;exact wq (hE () (pur H).symm _ _ _  S hX hF)
theorem HD:∀(a0:List Fm) (c0:Fm) r,Vu a0 c0=some r->∀(e0:Nat)  (σ:Sto),Pre σ [(e0,⟨34,5,[i6 c0.kind,.str c0.name,i6 c0.num,sf cI c0.sc,sf K0 c0.kids]⟩)] []->Ctr K1 129 [sf K0 a0,.fn 158 [.ptr e0 0]] σ (fun r' ss'=>∃(tt':Sto),r'=i6 r/\Tau (strip σ []) [(e0,⟨34,5,[i6 c0.kind,.str c0.name,i6 c0.num,sf cI c0.sc,sf K0 c0.kids]⟩)] tt'/\Fx tt' ss' [] []):=by
 intro a0 c0 r H;intro e0  σ hP;unfold Vu at H;refine hdg mixed ZK (rs:=[.tmp 4]) fun q tT=>?_;obtain ⟨hF,hX⟩:=hP.start;generalize strip σ []=tt0 at hF hX ⊢;refine go ?_;obtain ⟨o4,ho4,H⟩:=bnd H;refine G3 a0 c0 0 _ ho4 _ rfl _ tt0 e0 ?_ ?_ _ _ _  S hX hF
 ·intro _ he T6 s7 t8 tT hX hF;have he:=he.symm;subst he
  try dsimp only at H
  refine go ?_;have e:=pur H;subst e;exact rg _ ⟨_,rfl,hX,K6 _⟩
 ·intro r hr s' hs;subst hr;have e:=pur H;subst e;exact hsq hs
theorem Ei:∀(a0:List Fm) (a1:List Int) (a2:Fm) r,Az a0 a1 a2=some r->VP K1 132 [sf K0 a0,sf cI a1,.agg (K0 a2)] (i6 r):=by
 intro a0 a1 a2 r H;intro σ;unfold Az at H;refine hdg mixed Tryz.func132 (rs:=[.tmp 6]) fun q tT=>?_;have hF:=K4 σ;have hX:=Tau.none σ;refine go ?_;refine Ya hF rfl fun b1 ss2 hF=>?_;refine go ?_;refine cdn H (fun h H=>?_) (fun h H=>?_)
 ·refine go ?_;have e:=pur H;subst e;exact rt _
 ·refine go ?_;obtain ⟨x13,hx13,H⟩:=bnd H;refine cx (HD a0 a2 _ hx13 b1  _ (pre 1 0 0 hF hX)) ?_;rintro _ ss3 ⟨tt4,rfl,hT,hG⟩;have hF:=DA 1 0 hF hX hT hG;refine go ?_;refine cdp H (fun h H=>?_) (fun h H=>?_)
  ·refine go ?_;have e:=pur H;subst e;exact rt _
  ·obtain ⟨x18,f1,H⟩:=bil (g:=cI) (fun _=>rfl) H;refine go1 ?_;refine go ?_;have e:=pur H;subst e;exact rt _
theorem L8:∀(a0:Fm) (c0:Bool) (c1:List Fm) (c2:List Int) (c3:Int) r,Aj a0 c0 c1 c2 c3=some r->∀(e0 e1 e2 e3:Nat)  (σ:Sto),Pre σ [(e0,⟨4,1,[.bool c0]⟩),(e1,⟨32,1,[sf K0 c1]⟩),(e2,⟨31,1,[sf cI c2]⟩),(e3,⟨3,1,[i6 c3]⟩)] []->Ctr K1 134 [.agg (K0 a0),.ptr e0 0,.ptr e1 0,.ptr e2 0,.ptr e3 0] σ (fun r' ss'=>∃(tt':Sto),r'=.tup []/\Tau (strip σ []) [(e0,⟨4,1,[.bool r]⟩),(e1,⟨32,1,[sf K0 c1]⟩),(e2,⟨31,1,[sf cI c2]⟩),(e3,⟨3,1,[i6 c3]⟩)] tt'/\Fx tt' ss' [] []):=by
 intro a0 c0 c1 c2 c3 r H;intro e0 e1 e2 e3  σ hP;unfold Aj at H;refine hdg mixed Tryz.func134 (rs:=[]) fun q tT=>?_;obtain ⟨hF,hX⟩:=hP.start;generalize strip σ []=tt0 at hF hX ⊢;refine go ?_;refine Ya hF rfl fun b1 ss2 hF=>?_;refine go ?_;refine Yj E0 [.v,.v,.v,.v,.v,.v,.v,.v,.v,.z] (by kernel_rfl) ?_;refine go ?_;obtain ⟨x14,g3,H⟩:=bnd H;refine V0 6 8 14 (.bool x14) (tiN q (fun q=>?_) (fun q=>?_)) (fun J=>?_)
 ·rw [if_neg (dbf q)] at g3;refine go ?_;obtain ⟨x11,hx11,g3⟩:=bnd g3;refine cv (Ei c1 c2 a0 _ hx11) ?_;refine go ?_;exact Yt 8 g3
 ·rw [if_pos (dbt q)] at g3;refine go ?_;exact Yt 8 g3
 refine go ?_;refine stT hF hX 0 rfl fun t6 ss5 hF hX=>?_;refine go ?_;have e:=pur H;subst e;exact rg _ ⟨_,rfl,hX,K6 _⟩
theorem A9:∀(a0:Fm) (c0:Bool) (c1:List Fm) (c2:List Int) (c3:Int) r,Y2 a0 c0 c1 c2 c3=some r->∀(e0 e1 e2 e3:Nat)  (σ:Sto),Pre σ [(e0,⟨4,1,[.bool c0]⟩),(e1,⟨32,1,[sf K0 c1]⟩),(e2,⟨31,1,[sf cI c2]⟩),(e3,⟨3,1,[i6 c3]⟩)] []->Ctr K1 133 [.agg (K0 a0),.fn 134 [.ptr e0 0,.ptr e1 0,.ptr e2 0,.ptr e3 0]] σ (fun r' ss'=>∃(tt':Sto),r'=.tup []/\Tau (strip σ []) [(e0,⟨4,1,[.bool r]⟩),(e1,⟨32,1,[sf K0 c1]⟩),(e2,⟨31,1,[sf cI c2]⟩),(e3,⟨3,1,[i6 c3]⟩)] tt'/\Fx tt' ss' [] []):=by
 intro a0 c0 c1 c2 c3;revert a0 c0;refine Y2.partial_correctness c1 c2 c3 (motive_1:=fun a0 c0 r=>∀(e0 e1 e2 e3:Nat)  (σ:Sto),Pre σ [(e0,⟨4,1,[.bool c0]⟩),(e1,⟨32,1,[sf K0 c1]⟩),(e2,⟨31,1,[sf cI c2]⟩),(e3,⟨3,1,[i6 c3]⟩)] []->Ctr K1 133 [.agg (K0 a0),.fn 134 [.ptr e0 0,.ptr e1 0,.ptr e2 0,.ptr e3 0]] σ (fun r' ss'=>∃(tt':Sto),r'=.tup []/\Tau (strip σ []) [(e0,⟨4,1,[.bool r]⟩),(e1,⟨32,1,[sf K0 c1]⟩),(e2,⟨31,1,[sf cI c2]⟩),(e3,⟨3,1,[i6 c3]⟩)] tt'/\Fx tt' ss' [] [])) (motive_2:=fun a0 H0 VW out=>∀c,Yg Tryz.f133 0=some c->∀(Q:QT) (tt0:Sto) (e0 e1 e2 e3 b1:Nat),(∀(B6:Bool),out=B6->∀(T:TT) (σ tt:Sto),0+0=0->Tau tt0 [(e0,⟨4,1,[.bool B6]⟩),(e1,⟨32,1,[sf K0 c1]⟩),(e2,⟨31,1,[sf cI c2]⟩),(e3,⟨3,1,[i6 c3]⟩)] tt->Fx tt σ [(b1,⟨34,5,[i6 a0.kind,.str a0.name,i6 a0.num,sf cI a0.sc,sf K0 a0.kids]⟩)] []->Q (.ex 0) ⟨T,σ⟩)->True->∀(T:TT) (σ tt:Sto),T 1=.fn 134 [.ptr e0 0,.ptr e1 0,.ptr e2 0,.ptr e3 0]/\T 10=sf K0 a0.kids/\T 11=i6 (a0.kids.length:Int)/\T 12=i6 H0->Tau tt0 [(e0,⟨4,1,[.bool VW]⟩),(e1,⟨32,1,[sf K0 c1]⟩),(e2,⟨31,1,[sf cI c2]⟩),(e3,⟨3,1,[i6 c3]⟩)] tt->Fx tt σ [(b1,⟨34,5,[i6 a0.kind,.str a0.name,i6 a0.num,sf cI a0.sc,sf K0 a0.kids]⟩)] []->aLp K1 c Q ⟨T,σ⟩) ?_ ?_
 ·intro Y1 L0 a0 c0 r H;intro e0 e1 e2 e3  σ hP;refine hdg mixed Tryz.func133 (rs:=[]) fun q tT=>?_;obtain ⟨hF,hX⟩:=hP.start;generalize strip σ []=tt0 at hF hX ⊢;refine go ?_;refine Ya hF rfl fun b1 ss2 hF=>?_;refine go ?_;obtain ⟨x8,hx8,H⟩:=bnd H;refine cx (L8 a0 c0 c1 c2 c3 _ hx8 e0 e1 e2 e3  _ (pre 0 4 0 hF hX)) ?_;rintro _ ss3 ⟨tt4,rfl,hT,hG⟩;obtain ⟨tt5,hX,hF⟩:=aft 0 4 0 hF hX hT hG;refine go ?_;obtain ⟨o12,ho12,H⟩:=bnd H;refine L0 a0 0 x8 _ ho12 _ rfl _ tt0 e0 e1 e2 e3 b1 ?_ ?_ _ _ _  S hX hF
  ·intro Qay he T14 s15 t16 tT hX hF;have he:=he.symm;subst he;refine go ?_;have e:=pur H;subst e;exact rg _ ⟨_,rfl,hX,K6 _⟩
  ·trivial
 ·intro Y2 Y1 C0 L0 a0 H0 VW out H c hc Q tt0 e0 e1 e2 e3 b1 hE hR T σ tt tT hX hF;refine lpy hc rfl fun q=>go ?_;refine cdp H (fun h H=>?_) (fun h H=>?_)
  ·obtain ⟨x14,f1,H⟩:=bil (g:=K0) Fm.X6 H;refine go1 ?_;refine Ya hF rfl fun b6 s7 hF=>?_;refine go ?_;refine st hF 0 rfl fun s8 hF=>?_;refine go ?_;obtain ⟨x18,hx18,H⟩:=bnd H;refine cx (C0 x14 VW _ hx18 e0 e1 e2 e3  _ (pre 0 4 0 hF hX)) ?_;rintro _ s9 ⟨t10,rfl,hT,hG⟩;obtain ⟨t11,hX,hF⟩:=aft 0 4 0 hF hX hT hG;refine go ?_;exact L0 a0 (i64.wrap (H0+1)) x18 _ H _ rfl Q tt0 e0 e1 e2 e3 b1 hE hR _ _ _  S hX (hF.drop 1 0)
  ·refine go ?_;exact wq (hE _ (pur H).symm _ _ _  S hX hF)
theorem Pv:∀(a0:Fm) (a1:List Fm) (a2:List Int) (a3:Int) r,Ht a0 a1 a2 a3=some r->VP K1 107 [.agg (K0 a0),sf K0 a1,sf cI a2,i6 a3] (.bool r):=by
 intro a0 a1 a2 a3;revert a0 a3;refine Ht.partial_correctness a1 a2 (motive_1:=fun a0 a3 r=>VP K1 107 [.agg (K0 a0),sf K0 a1,sf cI a2,i6 a3] (.bool r)) (motive_2:=fun a0 a3 Ad out=>∀c,Yg Tryz.f107 0=some c->∀(Q:QT) (tt:Sto) (b1 b3 b5 b7:Nat),(∀(_u:Unit),out=Sum.inr ()->∀(T:TT) (σ:Sto),0+0=0->Fx tt σ [(b7,⟨3,1,[i6 a3]⟩),(b5,⟨31,1,[sf cI a2]⟩),(b3,⟨32,1,[sf K0 a1]⟩),(b1,⟨34,5,[i6 a0.kind,.str a0.name,i6 a0.num,sf cI a0.sc,sf K0 a0.kids]⟩)] []->Q (.ex 0) ⟨T,σ⟩)->(∀r,out=Sum.inl r->∀s',ID K1 [.tmp 8] (fun r' ss'=>r'=.bool r/\ss'=tt) s'->Q .ret s')->∀(T:TT) (σ:Sto),T 4=.ptr b1 0/\T 5=.ptr b3 0/\T 6=.ptr b5 0/\T 7=.ptr b7 0/\T 20=sf K0 a0.kids/\T 21=i6 (a0.kids.length:Int)/\T 22=i6 Ad->Fx tt σ [(b7,⟨3,1,[i6 a3]⟩),(b5,⟨31,1,[sf cI a2]⟩),(b3,⟨32,1,[sf K0 a1]⟩),(b1,⟨34,5,[i6 a0.kind,.str a0.name,i6 a0.num,sf cI a0.sc,sf K0 a0.kids]⟩)] []->aLp K1 c Q ⟨T,σ⟩) ?_ ?_
 ·intro WU L0 a0 a3 r H;intro σ;refine hdg mixed Tryz.func107 (rs:=[.tmp 8]) fun q tT=>?_;have hF:=K4 σ;have hX:=Tau.none σ;refine go ?_;refine Ya hF rfl fun b1 ss2 hF=>?_;refine go ?_;refine Ya hF rfl fun b3 ss4 hF=>?_;refine go ?_;refine Ya hF rfl fun b5 ss6 hF=>?_;refine go ?_;refine Ya hF rfl fun b7 s8 hF=>?_;refine go ?_;refine Yj E0 [.v,.v,.v,.v,.v,.v] (by kernel_rfl) ?_;refine go ?_;refine bp H (Ei a1 a2 a0) fun x16 h H=>cv h ?_;refine go ?_;refine cdp H (fun h H=>?_) (fun h H=>?_)
  ·refine go ?_;have e:=pur H;subst e;exact rt _
  ·refine go ?_;obtain ⟨o20,ho20,H⟩:=bnd H;refine L0 a0 a3 0 _ ho20 _ rfl _ _ b1 b3 b5 b7 ?_ ?_ _ _  S hF
   ·intro _ he T22 s23 tT hF;have he:=he.symm;subst he
    try dsimp only at H
    refine go ?_;have e:=pur H;subst e;exact rt _
   ·intro r hr s' hs;subst hr;have e:=pur H;subst e;exact hsq hs
 ·intro Ht WU C0 L0 a0 a3 Ad out H c hc Q tt b1 b3 b5 b7 hE hR T σ tT hF;refine lpx tt hc rfl fun q hX=>go ?_;refine cdp H (fun h H=>?_) (fun h H=>?_)
  ·obtain ⟨x25,f1,H⟩:=bil (g:=K0) Fm.X6 H;refine go1 ?_;refine Ya hF rfl fun b9 s10 hF=>?_;refine go ?_;refine st hF 0 rfl fun s11 hF=>?_;refine go ?_;refine bp H (Ha x25 (Qd #[46,46,46])) fun x28 h H=>cl h ?_;refine go ?_;refine cdb H (fun h H=>?_) (fun h H=>?_)
   ·refine go ?_;exact L0 a0 a3 (i64.wrap (Ad+1)) _ H _ rfl Q tt b1 b3 b5 b7 hE hR _ _  S (hF.drop 1 0)
   ·refine go ?_;obtain ⟨x44,g12,H⟩:=bnd H;refine Yc 7 37 44 (.bool x44) (gi q (fun q=>?_) (fun q=>?_)) (fun J=>?_)
    ·rw [if_pos (dt q)] at g12;obtain ⟨x41,f1,g12⟩:=bil (g:=K0) Fm.X6 g12;refine go1 ?_;obtain ⟨x43,hx43,g12⟩:=bnd g12;refine cl (Ha x41 (Qd #[46,46,46]) _ hx43) ?_;refine go ?_;exact Yt 37 g12
    ·rw [if_neg (df q)] at g12;refine go ?_;exact Yt 37 g12
    refine go ?_;refine cdb H (fun h H=>?_) (fun h H=>?_)
    ·refine go ?_;refine Ya hF rfl fun b14 s15 hF=>?_;refine go ?_;refine st hF 0 rfl fun s16 hF=>?_;refine go ?_;have hF:=pck hF [0,4,3,2,1,5] [];obtain ⟨x49,hx49,H⟩:=bnd H;refine cx (A9 x25 false a1 a2 a3 _ hx49 b14 b3 b5 b7  _ (pre 4 0 0 hF hX)) ?_;rintro _ s17 ⟨t18,rfl,hT,hG⟩;have hF:=DA 4 0 hF hX hT hG;have hF:=pck hF [0,4,3,2,1,5] [];refine go ?_;refine cdb H (fun h H=>?_) (fun h H=>?_)
     ·refine go ?_;exact wq (hR _ (pur H).symm _ (rt _))
     ·refine go ?_;obtain ⟨x56,hx56,H⟩:=bnd H;refine cl (C0 x25 (i64.wrap (a3+1)) _ hx56) ?_;refine go ?_;refine cdb H (fun h H=>?_) (fun h H=>?_)
      ·refine go ?_;exact wq (hR _ (pur H).symm _ (rt _))
      ·refine go ?_;exact L0 a0 a3 (i64.wrap (Ad+1)) _ H _ rfl Q tt b1 b3 b5 b7 hE hR _ _  S (hF.drop 2 0)
    ·refine go ?_;obtain ⟨Qk6,hx56_1,H⟩:=bnd H;refine cl (C0 x25 a3 _ hx56_1) ?_;refine go ?_;refine cdb H (fun h H=>?_) (fun h H=>?_)
     ·refine go ?_;exact wq (hR _ (pur H).symm _ (rt _))
     ·refine go ?_;exact L0 a0 a3 (i64.wrap (Ad+1)) _ H _ rfl Q tt b1 b3 b5 b7 hE hR _ _  S (hF.drop 1 0)
  ·refine go ?_;exact wq (hE () (pur H).symm _ _  S hF)
theorem Li:∀(a0:Fm) (a1:List Fm) (a2:List Int) r,IN a0 a1 a2=some r->VP K1 82 [.agg (K0 a0),sf K0 a1,sf cI a2] (.bool r):=by
 intro a0 a1 a2 r H;intro σ;unfold IN at H;refine hdg mixed Tryz.func82 (rs:=[.tmp 6]) fun q tT=>?_;have hF:=K4 σ;have hX:=Tau.none σ;refine go ?_;refine Ya hF rfl fun b1 ss2 hF=>?_;refine go ?_;refine bp H (I3 a0) fun x8 h H=>cl h ?_;refine go ?_;obtain ⟨x13,g3,H⟩:=bnd H;refine Yc 3 10 13 (.bool x13) (gi q (fun q=>?_) (fun q=>?_)) (fun J=>?_)
 ·rw [if_pos (dbt q)] at g3;refine go ?_;obtain ⟨x11,hx11,g3⟩:=bnd g3;refine cl (Ha a0 (Qd #[46,46,46]) _ hx11) ?_;refine go ?_;exact Yt 10 g3
 ·rw [if_neg (dbf q)] at g3;refine go ?_;exact Yt 10 g3
 refine go ?_;obtain ⟨x17,g5,H⟩:=bnd H;refine Yc 2 15 17 (.bool x17) (gi q (fun q=>?_) (fun q=>?_)) (fun J=>?_)
 ·rw [if_pos (dbt q)] at g5;refine go ?_;obtain ⟨x16,hx16,g5⟩:=bnd g5;refine cl (Fe a0 false _ hx16) ?_;refine go ?_;exact Yt 15 g5
 ·rw [if_neg (dbf q)] at g5;refine go ?_;exact Yt 15 g5
 refine go ?_;obtain ⟨x23,g7,H⟩:=bnd H;refine Yc 4 19 23 (.bool x23) (gi q (fun q=>?_) (fun q=>?_)) (fun J=>?_)
 ·rw [if_pos (dbt q)] at g7;refine go ?_;obtain ⟨x22,hx22,g7⟩:=bnd g7;refine cl (Pv a0 a1 a2 0 _ hx22) ?_;refine go ?_;exact Yt 19 g7
 ·rw [if_neg (dbf q)] at g7;refine go ?_;exact Yt 19 g7
 refine go ?_;have e:=pur H;subst e;exact rt _
theorem L5:∀(a0:Rul) (a1:List Fm) r,Ah a0 a1=some r->VP K1 61 [.agg (K7 a0),sf K0 a1] (.bool r):=by
 intro a0 a1 r H;intro σ;unfold Ah at H;refine hdg mixed Tryz.func61 (rs:=[.tmp 4]) fun q tT=>?_;have hF:=K4 σ;have hX:=Tau.none σ;refine go ?_;refine Ya hF rfl fun b1 ss2 hF=>?_;refine go ?_;refine bp H (E4 a0.pat a1) fun x10 h H=>cl h ?_;refine go ?_;obtain ⟨x17,g3,H⟩:=bnd H;refine Yc 4 13 17 (.bool x17) (giN q (fun q=>?_) (fun q=>?_)) (fun J=>?_)
 ·refine go ?_;exact Yt 13 g3
 ·refine go ?_;exact Yt 13 g3
 refine go ?_;obtain ⟨x24,g5,H⟩:=bnd H;refine Yc 5 19 24 (.bool x24) (giN q (fun q=>?_) (fun q=>?_)) (fun J=>?_)
 ·refine go ?_;exact Yt 19 g5
 ·refine go ?_;exact Yt 19 g5
 refine go ?_;refine cdb H (fun h H=>?_) (fun h H=>?_)
 ·refine go ?_;have e:=pur H;subst e;exact rt _
 ·refine go ?_;refine bp H (Fg a0.pat a1) fun x29 h H=>cl h ?_;refine go ?_;refine bp H (Li a0.tpl x29.1 x29.2) fun x36 h H=>cl h ?_;refine go ?_;have e:=pur H;subst e;exact rt _
theorem Lh:∀(a0:Rul) (c0:List Fm) r,IM a0 c0=some r->∀(e0:Nat)  (σ:Sto),Pre σ [(e0,⟨32,1,[sf K0 c0]⟩)] []->Ctr K1 60 [.agg (K7 a0),.ptr e0 0] σ (fun r' ss'=>∃(tt':Sto),r'=.bool r/\Tau (strip σ []) [(e0,⟨32,1,[sf K0 c0]⟩)] tt'/\Fx tt' ss' [] []):=by
 intro a0 c0 r H;intro e0  σ hP;unfold IM at H;refine hdg mixed Tryz.func60 (rs:=[.tmp 3]) fun q tT=>?_;obtain ⟨hF,hX⟩:=hP.start;generalize strip σ []=tt0 at hF hX ⊢;refine go ?_;refine Ya hF rfl fun b1 ss2 hF=>?_;refine go ?_;refine bp H (L5 a0 c0) fun x6 h H=>cl h ?_;refine go ?_;have e:=pur H;subst e;exact rg _ ⟨_,rfl,hX,K6 _⟩
theorem G4:∀(a0:List Rul) (c0:List Fm) (Yi:Int) out,Ys a0 c0 Yi=some out->∀c,Yg Tryz.f79 0=some c->∀(Q:QT) (tt0:Sto) (e0:Nat),(∀(_u:Unit),out=Sum.inr ()->∀(T:TT) (σ tt:Sto),0+0=0->Tau tt0 [(e0,⟨32,1,[sf K0 c0]⟩)] tt->Fx tt σ [] []->Q (.ex 0) ⟨T,σ⟩)->(∀r,out=Sum.inl r->∀s',ID K1 [.tmp 4] (fun r' ss'=>∃(tt':Sto),r'=i6 r/\Tau tt0 [(e0,⟨32,1,[sf K0 c0]⟩)] tt'/\Fx tt' ss' [] []) s'->Q .ret s')->∀(T:TT) (σ tt:Sto),T 0=sf K7 a0/\T 1=.fn 60 [.ptr e0 0]/\T 7=i6 (a0.length:Int)/\T 8=i6 Yi->Tau tt0 [(e0,⟨32,1,[sf K0 c0]⟩)] tt->Fx tt σ [] []->aLp K1 c Q ⟨T,σ⟩:=by
 intro a0 c0 Yi;revert Yi;refine Ys.partial_correctness a0 c0 _ ?_;intro Ys IH Yi out H c hc Q tt0 e0 hE hR T σ tt tT hX hF;refine lpy hc rfl fun q=>go ?_;refine cdp H (fun h H=>?_) (fun h H=>?_)
 ·obtain ⟨x14,f1,H⟩:=bil (g:=K7) Rul.X6 H;refine go1 ?_;obtain ⟨x16,hx16,H⟩:=bnd H;refine cx (Lh x14 c0 _ hx16 e0  _ (pre 0 1 0 hF hX)) ?_;rintro _ ss1 ⟨tt2,rfl,hT,hG⟩;obtain ⟨tt3,hX,hF⟩:=aft 0 1 0 hF hX hT hG;refine go ?_;refine cdb H (fun h H=>?_) (fun h H=>?_)
  ·refine go ?_;exact wq (hR _ (pur H).symm _ (rg _ ⟨_,rfl,hX,K6 _⟩))
  ·refine go ?_;exact IH  (i64.wrap (Yi+1)) _ H _ rfl Q tt0 e0 hE hR _ _ _  S hX hF
 ·refine go ?_;exact wq (hE () (pur H).symm _ _ _  S hX hF)
theorem HF:∀(a0:List Rul) (c0:List Fm) r,Vv a0 c0=some r->∀(e0:Nat)  (σ:Sto),Pre σ [(e0,⟨32,1,[sf K0 c0]⟩)] []->Ctr K1 79 [sf K7 a0,.fn 60 [.ptr e0 0]] σ (fun r' ss'=>∃(tt':Sto),r'=i6 r/\Tau (strip σ []) [(e0,⟨32,1,[sf K0 c0]⟩)] tt'/\Fx tt' ss' [] []):=by
 intro a0 c0 r H;intro e0  σ hP;unfold Vv at H;refine hdg mixed Tryz.func79 (rs:=[.tmp 4]) fun q tT=>?_;obtain ⟨hF,hX⟩:=hP.start;generalize strip σ []=tt0 at hF hX ⊢;refine go ?_;obtain ⟨o4,ho4,H⟩:=bnd H;refine G4 a0 c0 0 _ ho4 _ rfl _ tt0 e0 ?_ ?_ _ _ _  S hX hF
 ·intro _ he T6 s7 t8 tT hX hF;have he:=he.symm;subst he
  try dsimp only at H
  refine go ?_;have e:=pur H;subst e;exact rg _ ⟨_,rfl,hX,K6 _⟩
 ·intro r hr s' hs;subst hr;have e:=pur H;subst e;exact hsq hs
theorem G1:∀(a0:List Rul) (c0:List Fm) r,Vk a0 c0=some r->∀(e0:Nat)  (σ:Sto),Pre σ [(e0,⟨32,1,[sf K0 c0]⟩)] []->Ctr K1 59 [sf K7 a0,.fn 60 [.ptr e0 0]] σ (fun r' ss'=>∃(tt':Sto),r'=.bool r/\Tau (strip σ []) [(e0,⟨32,1,[sf K0 c0]⟩)] tt'/\Fx tt' ss' [] []):=by
 intro a0 c0 r H;intro e0  σ hP;unfold Vk at H;refine hdg mixed Tryz.func59 (rs:=[.tmp 4]) fun q tT=>?_;obtain ⟨hF,hX⟩:=hP.start;generalize strip σ []=tt0 at hF hX ⊢;refine go ?_;obtain ⟨x7,hx7,H⟩:=bnd H;refine cx (HF a0 c0 _ hx7 e0  _ (pre 0 1 0 hF hX)) ?_;rintro _ ss1 ⟨tt2,rfl,hT,hG⟩;obtain ⟨tt3,hX,hF⟩:=aft 0 1 0 hF hX hT hG;refine go ?_;have e:=pur H;subst e;exact rg _ ⟨_,rfl,hX,K6 _⟩
theorem Ol:∀(a0:List Rul) (a1:List Fm) r,AA a0 a1=some r->VP K1 34 [sf K7 a0,sf K0 a1] (.bool r):=by
 intro a0 a1 r H;intro σ;unfold AA at H;refine hdg mixed Tryz.func34 (rs:=[.tmp 4]) fun q tT=>?_;have hF:=K4 σ;have hX:=Tau.none σ;refine go ?_;refine Ya hF rfl fun b1 ss2 hF=>?_;refine go ?_;obtain ⟨x11,g3,H⟩:=bnd H;refine Yc 2 9 11 (.bool x11) (gi q (fun q=>?_) (fun q=>?_)) (fun J=>?_)
 ·rw [if_pos (dt q)] at g3;refine go ?_;obtain ⟨x10,hx10,g3⟩:=bnd g3;refine cl (CH a1 _ hx10) ?_;refine go ?_;exact Yt 9 g3
 ·rw [if_neg (df q)] at g3;refine go ?_;exact Yt 9 g3
 refine go ?_;refine gi q (fun q=>?_) (fun q=>?_)
 ·rw [if_pos (dbt q)] at H;refine go ?_;obtain ⟨EM,hx15_1,H⟩:=bnd H;refine cx (G1 a0 a1 _ hx15_1 b1  _ (pre 1 0 0 hF hX)) ?_;rintro _ s10 ⟨t11,rfl,hT,hG⟩;have hF:=DA 1 0 hF hX hT hG;refine go ?_;have e:=pur H;subst e;exact rt _
 ·rw [if_neg (dbf q)] at H;refine go ?_;have e:=pur H;subst e;exact rt _
theorem Lf:∀(a0:Mac) (c0:Int) r,IL a0 c0=some r->∀(e0:Nat)  (σ:Sto),Pre σ [(e0,⟨3,1,[i6 c0]⟩)] []->Ctr K1 63 [.agg (Ze a0),.ptr e0 0] σ (fun r' ss'=>∃(tt':Sto),r'=.bool r/\Tau (strip σ []) [(e0,⟨3,1,[i6 c0]⟩)] tt'/\Fx tt' ss' [] []):=by
 intro a0 c0 r H;intro e0  σ hP;unfold IL at H;refine hdg mixed Tryz.func63 (rs:=[.tmp 3]) fun q tT=>?_;obtain ⟨hF,hX⟩:=hP.start;generalize strip σ []=tt0 at hF hX ⊢;refine go ?_;refine Ya hF rfl fun b1 ss2 hF=>?_;refine go ?_;have e:=pur H;subst e;exact rg _ ⟨_,rfl,hX,K6 _⟩
theorem GM:∀(a0:List Mac) (c0 Yi:Int) out,Yq a0 c0 Yi=some out->∀c,Yg Tryz.f62 0=some c->∀(Q:QT) (tt0:Sto) (e0:Nat),(∀(_u:Unit),out=Sum.inr ()->∀(T:TT) (σ tt:Sto),0+0=0->Tau tt0 [(e0,⟨3,1,[i6 c0]⟩)] tt->Fx tt σ [] []->Q (.ex 0) ⟨T,σ⟩)->(∀r,out=Sum.inl r->∀s',ID K1 [.tmp 4] (fun r' ss'=>∃(tt':Sto),r'=i6 r/\Tau tt0 [(e0,⟨3,1,[i6 c0]⟩)] tt'/\Fx tt' ss' [] []) s'->Q .ret s')->∀(T:TT) (σ tt:Sto),T 0=sf Ze a0/\T 1=.fn 63 [.ptr e0 0]/\T 7=i6 (a0.length:Int)/\T 8=i6 Yi->Tau tt0 [(e0,⟨3,1,[i6 c0]⟩)] tt->Fx tt σ [] []->aLp K1 c Q ⟨T,σ⟩:=by
 intro a0 c0 Yi;revert Yi;refine Yq.partial_correctness a0 c0 _ ?_;intro Yq IH Yi out H c hc Q tt0 e0 hE hR T σ tt tT hX hF;refine lpy hc rfl fun q=>go ?_;refine cdp H (fun h H=>?_) (fun h H=>?_)
 ·obtain ⟨x14,f1,H⟩:=bil (g:=Ze) Mac.X6 H;refine go1 ?_;obtain ⟨x16,hx16,H⟩:=bnd H;refine cx (Lf x14 c0 _ hx16 e0  _ (pre 0 1 0 hF hX)) ?_;rintro _ ss1 ⟨tt2,rfl,hT,hG⟩;obtain ⟨tt3,hX,hF⟩:=aft 0 1 0 hF hX hT hG;refine go ?_;refine cdb H (fun h H=>?_) (fun h H=>?_)
  ·refine go ?_;exact wq (hR _ (pur H).symm _ (rg _ ⟨_,rfl,hX,K6 _⟩))
  ·refine go ?_;exact IH  (i64.wrap (Yi+1)) _ H _ rfl Q tt0 e0 hE hR _ _ _  S hX hF
 ·refine go ?_;exact wq (hE () (pur H).symm _ _ _  S hX hF)
theorem He:∀(a0:List Mac) (c0:Int) r,Vp a0 c0=some r->∀(e0:Nat)  (σ:Sto),Pre σ [(e0,⟨3,1,[i6 c0]⟩)] []->Ctr K1 62 [sf Ze a0,.fn 63 [.ptr e0 0]] σ (fun r' ss'=>∃(tt':Sto),r'=i6 r/\Tau (strip σ []) [(e0,⟨3,1,[i6 c0]⟩)] tt'/\Fx tt' ss' [] []):=by
 intro a0 c0 r H;intro e0  σ hP;unfold Vp at H;refine hdg mixed Tryz.func62 (rs:=[.tmp 4]) fun q tT=>?_;obtain ⟨hF,hX⟩:=hP.start;generalize strip σ []=tt0 at hF hX ⊢;refine go ?_;obtain ⟨o4,ho4,H⟩:=bnd H;refine GM a0 c0 0 _ ho4 _ rfl _ tt0 e0 ?_ ?_ _ _ _  S hX hF
 ·intro _ he T6 s7 t8 tT hX hF;have he:=he.symm;subst he
  try dsimp only at H
  refine go ?_;have e:=pur H;subst e;exact rg _ ⟨_,rfl,hX,K6 _⟩
 ·intro r hr s' hs;subst hr;have e:=pur H;subst e;exact hsq hs
theorem El:∀(a0:List Mac) (a1:Int) r,IK a0 a1=some r->VP K1 35 [sf Ze a0,i6 a1] (i6 r):=by
 intro a0 a1 r H;intro σ;unfold IK at H;refine hdg mixed Tryz.func35 (rs:=[.tmp 4]) fun q tT=>?_;have hF:=K4 σ;have hX:=Tau.none σ;refine go ?_;refine Ya hF rfl fun b1 ss2 hF=>?_;refine go ?_;obtain ⟨x7,hx7,H⟩:=bnd H;refine cx (He a0 a1 _ hx7 b1  _ (pre 1 0 0 hF hX)) ?_;rintro _ ss3 ⟨tt4,rfl,hT,hG⟩;have hF:=DA 1 0 hF hX hT hG;refine go ?_;have e:=pur H;subst e;exact rt _
theorem CU:∀(a0:Xpn) (Bd:Int) out,VA a0 Bd=some out->∀c,Yg Tryz.f13 0=some c->∀(Q:QT) (tt:Sto) (b1:Nat),(∀(_u:Unit),out=Sum.inr ()->∀(T:TT) (σ:Sto),0+0=0->Fx tt σ [(b1,⟨30,5,[sf K2 a0.binds,sf Ze a0.macs,i6 a0.scope,i6 a0.id,i6 a0.steps]⟩)] []->Q (.ex 0) ⟨T,σ⟩)->(∀r,out=Sum.inl r->∀s',ID K1 [.tmp 2] (fun r' ss'=>r'=.bool r/\ss'=tt) s'->Q .ret s')->∀(T:TT) (σ:Sto),T 1=.ptr b1 0/\T 38=sf Ze a0.macs/\T 39=i6 (a0.macs.length:Int)/\T 40=i6 Bd->Fx tt σ [(b1,⟨30,5,[sf K2 a0.binds,sf Ze a0.macs,i6 a0.scope,i6 a0.id,i6 a0.steps]⟩)] []->aLp K1 c Q ⟨T,σ⟩:=by
 intro a0 Bd;revert Bd;refine VA.partial_correctness a0 _ ?_;intro VA IH Bd out H c hc Q tt b1 hE hR T σ tT hF;refine lpx tt hc rfl fun q hX=>go ?_;refine cdp H (fun h H=>?_) (fun h H=>?_)
 ·obtain ⟨x43,f1,H⟩:=bil (g:=Ze) Mac.X6 H;refine go1 ?_;refine Ya hF rfl fun b14 s15 hF=>?_;refine go ?_;refine st hF 0 rfl fun s16 hF=>?_;refine go ?_;refine Yj E0 [.v,.v,.v,.v,.v,.v,.v,.v,.v,.v,.v,.v,.v,.v,.v,.v,.v,.v,.v,.v,.v,.v,.v,.v] (by kernel_rfl) ?_;refine go ?_;refine bp H (Ol x43.rules x43.lits) fun x49 h H=>cv h ?_;refine go ?_;obtain ⟨x58,g17,H⟩:=bnd H;refine V0 6 52 58 (.bool x58) (tiN q (fun q=>?_) (fun q=>?_)) (fun J=>?_)
  ·rw [if_neg (dbf q)] at g17;refine go ?_;obtain ⟨x56,hx56,g17⟩:=bnd g17;refine cv (WV x43.id 11 a0.id _ hx56) ?_;refine go ?_;exact Yt 52 g17
  ·rw [if_pos (dbt q)] at g17;refine go ?_;exact Yt 52 g17
  refine go ?_;obtain ⟨x68,g19,H⟩:=bnd H;refine V0 8 60 68 (.bool x68) (tiN q (fun q=>?_) (fun q=>?_)) (fun J=>?_)
  ·rw [if_neg (dbf q)] at g19;obtain ⟨x63,f1,g19⟩:=bls (g:=Ze) Mac.X6 (lo:=none) (hi:=some (i6 Bd)) rfl rfl g19;refine go1 ?_;obtain ⟨x66,hx66,g19⟩:=bnd g19;refine cv (El x63 x43.id _ hx66) ?_;refine go ?_;exact Yt 60 g19
  ·rw [if_pos (dbt q)] at g19;refine go ?_;exact Yt 60 g19
  refine go ?_;refine cdb H (fun h H=>?_) (fun h H=>?_)
  ·refine go ?_;exact wq (hR _ (pur H).symm _ (rt _))
  ·refine go ?_;exact IH  (i64.wrap (Bd+1)) _ H _ rfl Q tt b1 hE hR _ _  S (hF.drop 1 0)
 ·refine go ?_;exact wq (hE () (pur H).symm _ _  S hF)
theorem Ba:∀(a0:Xpn) r,Jt a0=some r->VP K1 13 [.agg (Xpn.cells a0)] (.bool r):=by
 intro a0 r H;intro σ;unfold Jt at H;refine hdg mixed Tryz.func13 (rs:=[.tmp 2]) fun q tT=>?_;have hF:=K4 σ;have hX:=Tau.none σ;refine go ?_;refine Ya hF rfl fun b1 ss2 hF=>?_;refine go ?_;refine bp H (Lb a0.binds) fun x7 h H=>cl h ?_;refine go ?_;obtain ⟨x14,g3,H⟩:=bnd H;refine Yc 4 10 14 (.bool x14) (giN q (fun q=>?_) (fun q=>?_)) (fun J=>?_)
 ·rw [if_neg (dbf q)] at g3;refine go ?_;obtain ⟨x12,hx12,g3⟩:=bnd g3;refine cl (WV a0.scope 0 99 _ hx12) ?_;refine go ?_;exact Yt 10 g3
 ·rw [if_pos (dbt q)] at g3;refine go ?_;exact Yt 10 g3
 refine go ?_;obtain ⟨x20,g5,H⟩:=bnd H;refine Yc 4 16 20 (.bool x20) (giN q (fun q=>?_) (fun q=>?_)) (fun J=>?_)
 ·rw [if_neg (dbf q)] at g5;refine go ?_;obtain ⟨x18,hx18,g5⟩:=bnd g5;refine cl (WV a0.id 10 999 _ hx18) ?_;refine go ?_;exact Yt 16 g5
 ·rw [if_pos (dbt q)] at g5;refine go ?_;exact Yt 16 g5
 refine go ?_;obtain ⟨x26,g7,H⟩:=bnd H;refine Yc 4 22 26 (.bool x26) (giN q (fun q=>?_) (fun q=>?_)) (fun J=>?_)
 ·rw [if_neg (dbf q)] at g7;refine go ?_;obtain ⟨x24,hx24,g7⟩:=bnd g7;refine cl (WV a0.steps 0 60 _ hx24) ?_;refine go ?_;exact Yt 22 g7
 ·rw [if_pos (dbt q)] at g7;refine go ?_;exact Yt 22 g7
 refine go ?_;obtain ⟨x32,g9,H⟩:=bnd H;refine Yc 4 28 32 (.bool x32) (giN q (fun q=>?_) (fun q=>?_)) (fun J=>?_)
 ·refine go ?_;exact Yt 28 g9
 ·refine go ?_;exact Yt 28 g9
 refine go ?_;refine cdb H (fun h H=>?_) (fun h H=>?_)
 ·refine go ?_;have e:=pur H;subst e;exact rt _
 ·refine go ?_;obtain ⟨x36,hx36,H⟩:=bnd H;refine cx (JS a0.binds a0 _ hx36 b1  _ (pre 1 0 0 hF hX)) ?_;rintro _ s11 ⟨t12,rfl,hT,hG⟩;have hF:=DA 1 0 hF hX hT hG;refine go ?_;refine cdb H (fun h H=>?_) (fun h H=>?_)
  ·refine go ?_;have e:=pur H;subst e;exact rt _
  ·refine go ?_;obtain ⟨o21,ho21,H⟩:=bnd H;refine CU a0 0 _ ho21 _ rfl _ _ b1 ?_ ?_ _ _  S hF
   ·intro _ he T23 s24 tT hF;have he:=he.symm;subst he
    try dsimp only at H
    refine go ?_;have e:=pur H;subst e;exact rt _
   ·intro r hr s' hs;subst hr;have e:=pur H;subst e;exact hsq hs
theorem Cz:∀(a0:List Int) (a1 Yi:Int) out,Vw a0 a1 Yi=some out->∀c,Yg Tryz.f135 0=some c->∀(Q:QT) (tt:Sto),(∀(_u:Unit),out=Sum.inr ()->∀(T:TT) (σ:Sto),0+0=0->Fx tt σ [] []->Q (.ex 0) ⟨T,σ⟩)->(∀r,out=Sum.inl r->∀s',ID K1 [.tmp 4] (fun r' ss'=>r'=i6 r/\ss'=tt) s'->Q .ret s')->∀(T:TT) (σ:Sto),T 0=sf cI a0/\T 1=i6 a1/\T 7=i6 (a0.length:Int)/\T 8=i6 Yi->Fx tt σ [] []->aLp K1 c Q ⟨T,σ⟩:=by
 intro a0 a1 Yi;revert Yi;refine Vw.partial_correctness a0 a1 _ ?_;intro Vw IH Yi out H c hc Q tt  hE hR T σ tT hF;refine lpx tt hc rfl fun q hX=>go ?_;refine cdp H (fun h H=>?_) (fun h H=>?_)
 ·obtain ⟨x14,f1,H⟩:=bil (g:=cI) (fun _=>rfl) H;refine go1 ?_;refine go ?_;refine cdp H (fun h H=>?_) (fun h H=>?_)
  ·refine go ?_;exact wq (hR _ (pur H).symm _ (rt _))
  ·refine go ?_;exact IH  (i64.wrap (Yi+1)) _ H _ rfl Q tt  hE hR _ _  S hF
 ·refine go ?_;exact wq (hE () (pur H).symm _ _  S hF)
theorem DP:∀(a0:List Int) (a1:Int) r,HG a0 a1=some r->VP K1 135 [sf cI a0,i6 a1] (i6 r):=by
 intro a0 a1 r H;intro σ;unfold HG at H;refine hdg mixed Tryz.func135 (rs:=[.tmp 4]) fun q tT=>?_;have hF:=K4 σ;have hX:=Tau.none σ;refine go ?_;obtain ⟨o1,ho1,H⟩:=bnd H;refine Cz a0 a1 0 _ ho1 _ rfl _ _  ?_ ?_ _ _  S hF
 ·intro _ he T3 ss4 tT hF;have he:=he.symm;subst he
  try dsimp only at H
  refine go ?_;have e:=pur H;subst e;exact rt _
 ·intro r hr s' hs;subst hr;have e:=pur H;subst e;exact hsq hs
theorem Cx:∀(a0:List Int) (a1:Int) r,W5 a0 a1=some r->VP K1 110 [sf cI a0,i6 a1] (.bool r):=by
 intro a0 a1 r H;intro σ;unfold W5 at H;refine hdg mixed Tryz.func110 (rs:=[.tmp 4]) fun q tT=>?_;have hF:=K4 σ;have hX:=Tau.none σ;refine go ?_;refine bp H (DP a0 a1) fun x7 h H=>cl h ?_;refine go ?_;have e:=pur H;subst e;exact rt _
theorem DI:∀(a0:Int) (c0:List Int) r,J6 a0 c0=some r->∀(e0:Nat)  (σ:Sto),Pre σ [(e0,⟨31,1,[sf cI c0]⟩)] []->Ctr K1 109 [i6 a0,.ptr e0 0] σ (fun r' ss'=>∃(tt':Sto),r'=.bool r/\Tau (strip σ []) [(e0,⟨31,1,[sf cI c0]⟩)] tt'/\Fx tt' ss' [] []):=by
 intro a0 c0 r H;intro e0  σ hP;unfold J6 at H;refine hdg mixed Tryz.func109 (rs:=[.tmp 3]) fun q tT=>?_;obtain ⟨hF,hX⟩:=hP.start;generalize strip σ []=tt0 at hF hX ⊢;refine go ?_;refine bp H (Cx c0 a0) fun x6 h H=>cl h ?_;refine go ?_;have e:=pur H;subst e;exact rg _ ⟨_,rfl,hX,K6 _⟩
theorem GC:∀(a0 c0:List Int) (Yi:Int) out,Yo a0 c0 Yi=some out->∀c,Yg Tryz.f108 0=some c->∀(Q:QT) (tt0:Sto) (e0:Nat),(∀(_u:Unit),out=Sum.inr ()->∀(T:TT) (σ tt:Sto),0+0=0->Tau tt0 [(e0,⟨31,1,[sf cI c0]⟩)] tt->Fx tt σ [] []->Q (.ex 0) ⟨T,σ⟩)->(∀r,out=Sum.inl r->∀s',ID K1 [.tmp 4] (fun r' ss'=>∃(tt':Sto),r'=i6 r/\Tau tt0 [(e0,⟨31,1,[sf cI c0]⟩)] tt'/\Fx tt' ss' [] []) s'->Q .ret s')->∀(T:TT) (σ tt:Sto),T 0=sf cI a0/\T 1=.fn 109 [.ptr e0 0]/\T 7=i6 (a0.length:Int)/\T 8=i6 Yi->Tau tt0 [(e0,⟨31,1,[sf cI c0]⟩)] tt->Fx tt σ [] []->aLp K1 c Q ⟨T,σ⟩:=by
 intro a0 c0 Yi;revert Yi;refine Yo.partial_correctness a0 c0 _ ?_;intro Yo IH Yi out H c hc Q tt0 e0 hE hR T σ tt tT hX hF;refine lpy hc rfl fun q=>go ?_;refine cdp H (fun h H=>?_) (fun h H=>?_)
 ·obtain ⟨x14,f1,H⟩:=bil (g:=cI) (fun _=>rfl) H;refine go1 ?_;obtain ⟨x16,hx16,H⟩:=bnd H;refine cx (DI x14 c0 _ hx16 e0  _ (pre 0 1 0 hF hX)) ?_;rintro _ ss1 ⟨tt2,rfl,hT,hG⟩;obtain ⟨tt3,hX,hF⟩:=aft 0 1 0 hF hX hT hG;refine go ?_;refine cdb H (fun h H=>?_) (fun h H=>?_)
  ·refine go ?_;exact wq (hR _ (pur H).symm _ (rg _ ⟨_,rfl,hX,K6 _⟩))
  ·refine go ?_;exact IH  (i64.wrap (Yi+1)) _ H _ rfl Q tt0 e0 hE hR _ _ _  S hX hF
 ·refine go ?_;exact wq (hE () (pur H).symm _ _ _  S hX hF)
theorem G5:∀(a0 c0:List Int) r,Vm a0 c0=some r->∀(e0:Nat)  (σ:Sto),Pre σ [(e0,⟨31,1,[sf cI c0]⟩)] []->Ctr K1 108 [sf cI a0,.fn 109 [.ptr e0 0]] σ (fun r' ss'=>∃(tt':Sto),r'=i6 r/\Tau (strip σ []) [(e0,⟨31,1,[sf cI c0]⟩)] tt'/\Fx tt' ss' [] []):=by
 intro a0 c0 r H;intro e0  σ hP;unfold Vm at H;refine hdg mixed Tryz.func108 (rs:=[.tmp 4]) fun q tT=>?_;obtain ⟨hF,hX⟩:=hP.start;generalize strip σ []=tt0 at hF hX ⊢;refine go ?_;obtain ⟨o4,ho4,H⟩:=bnd H;refine GC a0 c0 0 _ ho4 _ rfl _ tt0 e0 ?_ ?_ _ _ _  S hX hF
 ·intro _ he T6 s7 t8 tT hX hF;have he:=he.symm;subst he
  try dsimp only at H
  refine go ?_;have e:=pur H;subst e;exact rg _ ⟨_,rfl,hX,K6 _⟩
 ·intro r hr s' hs;subst hr;have e:=pur H;subst e;exact hsq hs
theorem GA:∀(a0 c0:List Int) r,Vc a0 c0=some r->∀(e0:Nat)  (σ:Sto),Pre σ [(e0,⟨31,1,[sf cI c0]⟩)] []->Ctr K1 84 [sf cI a0,.fn 109 [.ptr e0 0]] σ (fun r' ss'=>∃(tt':Sto),r'=.bool r/\Tau (strip σ []) [(e0,⟨31,1,[sf cI c0]⟩)] tt'/\Fx tt' ss' [] []):=by
 intro a0 c0 r H;intro e0  σ hP;unfold Vc at H;refine hdg mixed Tryz.func84 (rs:=[.tmp 4]) fun q tT=>?_;obtain ⟨hF,hX⟩:=hP.start;generalize strip σ []=tt0 at hF hX ⊢;refine go ?_;obtain ⟨x7,hx7,H⟩:=bnd H;refine cx (G5 a0 c0 _ hx7 e0  _ (pre 0 1 0 hF hX)) ?_;rintro _ ss1 ⟨tt2,rfl,hT,hG⟩;obtain ⟨tt3,hX,hF⟩:=aft 0 1 0 hF hX hT hG;refine go ?_;have e:=pur H;subst e;exact rg _ ⟨_,rfl,hX,K6 _⟩
theorem BO:∀(a0 a1:List Int) r,Ju a0 a1=some r->VP K1 86 [sf cI a0,sf cI a1] (.bool r):=by
 intro a0 a1 r H;intro σ;unfold Ju at H;refine hdg mixed Tryz.func86 (rs:=[.tmp 4]) fun q tT=>?_;have hF:=K4 σ;have hX:=Tau.none σ;refine go ?_;refine Ya hF rfl fun b1 ss2 hF=>?_;refine go ?_;obtain ⟨x7,hx7,H⟩:=bnd H;refine cx (GA a0 a1 _ hx7 b1  _ (pre 1 0 0 hF hX)) ?_;rintro _ ss3 ⟨tt4,rfl,hT,hG⟩;have hF:=DA 1 0 hF hX hT hG;refine go ?_;have e:=pur H;subst e;exact rt _
theorem Le:∀(a0:List Bnd) (a1:Fm) (X9:List Int) (GX:Int) out,Wy a0 a1 X9 GX=some out->∀c,Yg Tryz.f83 0=some c->∀(Q:QT) (tt:Sto) (b1:Nat),(∀(Vz:List Int),out=Vz->∀(T:TT) (σ:Sto) (e0v0:AV),T 5=e0v0->Fx tt σ [(b1,⟨34,5,[i6 a1.kind,.str a1.name,i6 a1.num,sf cI a1.sc,sf K0 a1.kids]⟩)] [⟨e0v0,3,1,rws cI Vz⟩]->Q (.ex 0) ⟨T,σ⟩)->True->∀(T:TT) (σ:Sto) (z0v0:AV),T 3=.ptr b1 0/\T 5=z0v0/\T 9=sf K2 a0/\T 10=i6 (a0.length:Int)/\T 11=i6 GX->Fx tt σ [(b1,⟨34,5,[i6 a1.kind,.str a1.name,i6 a1.num,sf cI a1.sc,sf K0 a1.kids]⟩)] [⟨z0v0,3,1,rws cI X9⟩]->aLp K1 c Q ⟨T,σ⟩:=by
 intro a0 a1 X9 GX;revert X9 GX;refine Wy.partial_correctness a0 a1 _ ?_;intro Wy IH X9 GX out H c hc Q tt b1 hE hR T σ z0v0 tT hF;refine lpx tt hc rfl fun q hX=>go ?_;refine cdp H (fun h H=>?_) (fun h H=>?_)
 ·obtain ⟨x14,f1,H⟩:=bil (g:=K2) Bnd.X6 H;refine go1 ?_;refine Ya hF rfl fun b3 ss4 hF=>?_;refine go ?_;refine st hF 0 rfl fun ss5 hF=>?_;refine go ?_;obtain ⟨x27,g6,H⟩:=bnd H;refine Yc 5 22 27 (.bool x27) (gi q (fun q=>?_) (fun q=>?_)) (fun J=>?_)
  ·rw [if_pos (dt q)] at g6;refine go ?_;obtain ⟨x26,hx26,g6⟩:=bnd g6;refine cl (BO x14.sc a1.sc _ hx26) ?_;refine go ?_;exact Yt 22 g6
  ·rw [if_neg (df q)] at g6;refine go ?_;exact Yt 22 g6
  refine go ?_;refine cdb H (fun h H=>?_) (fun h H=>?_)
  ·refine go ?_;refine apd (g:=cI) hF 0 H (rdo (c:=true) (g:=cI) (fun _=>rfl)) fun x31 H v8 s9 hF=>?_;refine go ?_;exact IH  x31 (i64.wrap (GX+1)) _ H _ rfl Q tt b1 hE hR _ _ v8 S (hF.drop 1 0)
  ·refine go ?_;exact IH  X9 (i64.wrap (GX+1)) _ H _ rfl Q tt b1 hE hR _ _ z0v0 S (hF.drop 1 0)
 ·refine go ?_;exact wq (hE _ (pur H).symm _ _ z0v0 S hF)
theorem Oh:∀(a0:List Bnd) (a1:Fm) r,By a0 a1=some r->VP K1 83 [sf K2 a0,.agg (K0 a1)] (sf cI r):=by
 intro a0 a1 r H;intro σ;unfold By at H;refine hdg mixed Tryz.func83 (rs:=[.tmp 4]) fun q tT=>?_;have hF:=K4 σ;have hX:=Tau.none σ;refine go ?_;refine Ya hF rfl fun b1 ss2 hF=>?_;have hF:=hF.lit 3 1 (rws cI []) rfl;refine go ?_;obtain ⟨o10,ho10,H⟩:=bnd H;refine Le a0 a1 [] 0 _ ho10 _ rfl _ _ b1 ?_ ?_ _ _ (.sl true (rws cI [])) S hF
 ·intro Qle he T12 s13 e11v0 tT hF;have he:=he.symm;subst he;refine go ?_;have e:=pur H;subst e;exact rt _
 ·trivial
theorem M4:∀(a0:Int) (c0:List Bnd) (c1:Int) r,AQ a0 c0 c1=some r->∀(e0 e1:Nat)  (σ:Sto),Pre σ [(e0,⟨27,1,[sf K2 c0]⟩),(e1,⟨3,1,[i6 c1]⟩)] []->Ctr K1 85 [i6 a0,.ptr e0 0,.ptr e1 0] σ (fun r' ss'=>∃(tt':Sto),r'=.bool r/\Tau (strip σ []) [(e0,⟨27,1,[sf K2 c0]⟩),(e1,⟨3,1,[i6 c1]⟩)] tt'/\Fx tt' ss' [] []):=by
 intro a0 c0 c1 r H;intro e0 e1  σ hP;unfold AQ at H;refine hdg mixed Tryz.func85 (rs:=[.tmp 4]) fun q tT=>?_;obtain ⟨hF,hX⟩:=hP.start;generalize strip σ []=tt0 at hF hX ⊢;refine go ?_;refine Yj E0 [.v,.v,.v,.v,.v,.v,.v,.v,.v,.v,.v,.v,.v] (by kernel_rfl) ?_;obtain ⟨x7,f1,H⟩:=bil (g:=K2) Bnd.X6 H;obtain ⟨x12,f2,H⟩:=bil (g:=K2) Bnd.X6 H;refine go2 ?_;refine bp H (BO x7.sc x12.sc) fun x15 h H=>cv h ?_;refine go ?_;have e:=pur H;subst e;exact rg _ ⟨_,rfl,hX,K6 _⟩
theorem HP:∀(a0:List Int) (c0:List Bnd) (c1 Yi:Int) out,Yz a0 c0 c1 Yi=some out->∀c,Yg Tryz.f108 0=some c->∀(Q:QT) (tt0:Sto) (e0 e1:Nat),(∀(_u:Unit),out=Sum.inr ()->∀(T:TT) (σ tt:Sto),0+0=0->Tau tt0 [(e0,⟨27,1,[sf K2 c0]⟩),(e1,⟨3,1,[i6 c1]⟩)] tt->Fx tt σ [] []->Q (.ex 0) ⟨T,σ⟩)->(∀r,out=Sum.inl r->∀s',ID K1 [.tmp 4] (fun r' ss'=>∃(tt':Sto),r'=i6 r/\Tau tt0 [(e0,⟨27,1,[sf K2 c0]⟩),(e1,⟨3,1,[i6 c1]⟩)] tt'/\Fx tt' ss' [] []) s'->Q .ret s')->∀(T:TT) (σ tt:Sto),T 0=sf cI a0/\T 1=.fn 85 [.ptr e0 0,.ptr e1 0]/\T 7=i6 (a0.length:Int)/\T 8=i6 Yi->Tau tt0 [(e0,⟨27,1,[sf K2 c0]⟩),(e1,⟨3,1,[i6 c1]⟩)] tt->Fx tt σ [] []->aLp K1 c Q ⟨T,σ⟩:=by
 intro a0 c0 c1 Yi;revert Yi;refine Yz.partial_correctness a0 c0 c1 _ ?_;intro Yz IH Yi out H c hc Q tt0 e0 e1 hE hR T σ tt tT hX hF;refine lpy hc rfl fun q=>go ?_;refine cdp H (fun h H=>?_) (fun h H=>?_)
 ·obtain ⟨x14,f1,H⟩:=bil (g:=cI) (fun _=>rfl) H;refine go1 ?_;obtain ⟨x16,hx16,H⟩:=bnd H;refine cx (M4 x14 c0 c1 _ hx16 e0 e1  _ (pre 0 2 0 hF hX)) ?_;rintro _ ss1 ⟨tt2,rfl,hT,hG⟩;obtain ⟨tt3,hX,hF⟩:=aft 0 2 0 hF hX hT hG;refine go ?_;refine cdb H (fun h H=>?_) (fun h H=>?_)
  ·refine go ?_;exact wq (hR _ (pur H).symm _ (rg _ ⟨_,rfl,hX,K6 _⟩))
  ·refine go ?_;exact IH  (i64.wrap (Yi+1)) _ H _ rfl Q tt0 e0 e1 hE hR _ _ _  S hX hF
 ·refine go ?_;exact wq (hE () (pur H).symm _ _ _  S hX hF)
theorem Iq:∀(a0:List Int) (c0:List Bnd) (c1:Int) r,VG a0 c0 c1=some r->∀(e0 e1:Nat)  (σ:Sto),Pre σ [(e0,⟨27,1,[sf K2 c0]⟩),(e1,⟨3,1,[i6 c1]⟩)] []->Ctr K1 108 [sf cI a0,.fn 85 [.ptr e0 0,.ptr e1 0]] σ (fun r' ss'=>∃(tt':Sto),r'=i6 r/\Tau (strip σ []) [(e0,⟨27,1,[sf K2 c0]⟩),(e1,⟨3,1,[i6 c1]⟩)] tt'/\Fx tt' ss' [] []):=by
 intro a0 c0 c1 r H;intro e0 e1  σ hP;unfold VG at H;refine hdg mixed Tryz.func108 (rs:=[.tmp 4]) fun q tT=>?_;obtain ⟨hF,hX⟩:=hP.start;generalize strip σ []=tt0 at hF hX ⊢;refine go ?_;obtain ⟨o4,ho4,H⟩:=bnd H;refine HP a0 c0 c1 0 _ ho4 _ rfl _ tt0 e0 e1 ?_ ?_ _ _ _  S hX hF
 ·intro _ he T6 s7 t8 tT hX hF;have he:=he.symm;subst he
  try dsimp only at H
  refine go ?_;have e:=pur H;subst e;exact rg _ ⟨_,rfl,hX,K6 _⟩
 ·intro r hr s' hs;subst hr;have e:=pur H;subst e;exact hsq hs
theorem HM:∀(a0:List Int) (c0:List Bnd) (c1:Int) r,Y0 a0 c0 c1=some r->∀(e0 e1:Nat)  (σ:Sto),Pre σ [(e0,⟨27,1,[sf K2 c0]⟩),(e1,⟨3,1,[i6 c1]⟩)] []->Ctr K1 84 [sf cI a0,.fn 85 [.ptr e0 0,.ptr e1 0]] σ (fun r' ss'=>∃(tt':Sto),r'=.bool r/\Tau (strip σ []) [(e0,⟨27,1,[sf K2 c0]⟩),(e1,⟨3,1,[i6 c1]⟩)] tt'/\Fx tt' ss' [] []):=by
 intro a0 c0 c1 r H;intro e0 e1  σ hP;unfold Y0 at H;refine hdg mixed Tryz.func84 (rs:=[.tmp 4]) fun q tT=>?_;obtain ⟨hF,hX⟩:=hP.start;generalize strip σ []=tt0 at hF hX ⊢;refine go ?_;obtain ⟨x7,hx7,H⟩:=bnd H;refine cx (Iq a0 c0 c1 _ hx7 e0 e1  _ (pre 0 2 0 hF hX)) ?_;rintro _ ss1 ⟨tt2,rfl,hT,hG⟩;obtain ⟨tt3,hX,hF⟩:=aft 0 2 0 hF hX hT hG;refine go ?_;have e:=pur H;subst e;exact rg _ ⟨_,rfl,hX,K6 _⟩
theorem M5:∀(a0:List Bnd) (a1:Fm) (x11:List Int) (GY:Int) out,J9 a0 a1 x11 GY=some out->∀c,Yg Tryz.f64 0=some c->∀(Q:QT) (tt:Sto) (b1 b3:Nat),(∀(_u:Unit),out=Sum.inr ()->∀(T:TT) (σ:Sto),0+0=0->Fx tt σ [(b3,⟨34,5,[i6 a1.kind,.str a1.name,i6 a1.num,sf cI a1.sc,sf K0 a1.kids]⟩),(b1,⟨27,1,[sf K2 a0]⟩)] []->Q (.ex 0) ⟨T,σ⟩)->(∀r,out=Sum.inl r->∀s',ID K1 [.tmp 4,.tmp 5] (fun r' ss'=>r'=.tup [i6 r.1,i6 r.2]/\ss'=tt) s'->Q .ret s')->∀(T:TT) (σ:Sto),T 2=.ptr b1 0/\T 6=sf cI x11/\T 15=sf cI x11/\T 16=i6 (x11.length:Int)/\T 17=i6 GY->Fx tt σ [(b3,⟨34,5,[i6 a1.kind,.str a1.name,i6 a1.num,sf cI a1.sc,sf K0 a1.kids]⟩),(b1,⟨27,1,[sf K2 a0]⟩)] []->aLp K1 c Q ⟨T,σ⟩:=by
 intro a0 a1 x11 GY;revert GY;refine J9.partial_correctness a0 a1 x11 _ ?_;intro J9 IH GY out H c hc Q tt b1 b3 hE hR T σ tT hF;refine lpx tt hc rfl fun q hX=>go ?_;refine cdp H (fun h H=>?_) (fun h H=>?_)
 ·obtain ⟨x19,f1,H⟩:=bil (g:=cI) (fun _=>rfl) H;refine go1 ?_;refine Ya hF rfl fun b5 ss6 hF=>?_;refine go ?_;refine st hF 0 rfl fun s7 hF=>?_;refine go ?_;have hF:=pck hF [2,0,1] [];obtain ⟨x23,hx23,H⟩:=bnd H;refine cx (HM x11 a0 x19 _ hx23 b1 b5  _ (pre 2 0 0 hF hX)) ?_;rintro _ s8 ⟨t9,rfl,hT,hG⟩;have hF:=DA 2 0 hF hX hT hG;have hF:=pck hF [1,2,0] [];refine go ?_;refine cdb H (fun h H=>?_) (fun h H=>?_)
  ·refine go ?_;exact wq (hR _ (pur H).symm _ (rt _))
  ·refine go ?_;exact IH  (i64.wrap (GY+1)) _ H _ rfl Q tt b1 b3 hE hR _ _  S (hF.drop 1 0)
 ·refine go ?_;exact wq (hE () (pur H).symm _ _  S hF)
theorem Sf:∀(a0:List Bnd) (a1:Fm) r,Dl a0 a1=some r->VP K1 64 [sf K2 a0,.agg (K0 a1)] (.tup [i6 r.1,i6 r.2]):=by
 intro a0 a1 r H;intro σ;unfold Dl at H;refine hdg mixed Tryz.func64 (rs:=[.tmp 4,.tmp 5]) fun q tT=>?_;have hF:=K4 σ;have hX:=Tau.none σ;refine go ?_;refine Ya hF rfl fun b1 ss2 hF=>?_;refine go ?_;refine Ya hF rfl fun b3 ss4 hF=>?_;refine go ?_;refine bp H (Oh a0 a1) fun x11 h H=>cl h ?_;refine go ?_;refine cdp H (fun h H=>?_) (fun h H=>?_)
 ·refine go ?_;have e:=pur H;subst e;exact rt _
 ·refine go ?_;obtain ⟨o11,ho11,H⟩:=bnd H;refine M5 a0 a1 x11 0 _ ho11 _ rfl _ _ b1 b3 ?_ ?_ _ _  S hF
  ·intro _ he T13 s14 tT hF;have he:=he.symm;subst he
   try dsimp only at H
   refine go ?_;have e:=pur H;subst e;exact rt _
  ·intro r hr s' hs;subst hr;have e:=pur H;subst e;exact hsq hs
theorem Oj:∀(a0:Xpn) (a1:Fm) r,BA a0 a1=some r->VP K1 37 [.agg (Xpn.cells a0),.agg (K0 a1)] (.tup [i6 r.1,i6 r.2]):=by
 intro a0 a1 r H;intro σ;unfold BA at H;refine hdg mixed Tryz.func37 (rs:=[.tmp 4,.tmp 5]) fun q tT=>?_;have hF:=K4 σ;have hX:=Tau.none σ;refine go ?_;refine Ya hF rfl fun b1 ss2 hF=>?_;refine go ?_;refine Ya hF rfl fun b3 ss4 hF=>?_;refine go ?_;refine bp H (Sf a0.binds a1) fun x13 h H=>cl h ?_;refine go ?_;refine cdp H (fun h H=>?_) (fun h H=>?_)
 ·refine go ?_;have e:=pur H;subst e;exact rt _
 ·refine go ?_;refine cdp H (fun h H=>?_) (fun h H=>?_)
  ·refine go ?_;have e:=pur H;subst e;exact rt _
  ·obtain ⟨x24,f1,H⟩:=bil (g:=K2) Bnd.X6 H;refine go1 ?_;refine go ?_;refine bp H (WV x24.id 1 5) fun x29 h H=>cl h ?_;refine go ?_;refine cdb H (fun h H=>?_) (fun h H=>?_)
   ·refine go ?_;have e:=pur H;subst e;exact rt _
   ·refine go ?_;refine bp H (El a0.macs x24.id) fun x35 h H=>cl h ?_;refine go ?_;refine cdp H (fun h H=>?_) (fun h H=>?_)
    ·refine go ?_;have e:=pur H;subst e;exact rt _
    ·refine go ?_;have e:=pur H;subst e;exact rt _
theorem L4:∀(a0:Xpn) (a1:Fm) r,Ag a0 a1=some r->VP K1 14 [.agg (Xpn.cells a0),.agg (K0 a1)] (.tup [i6 r.1,i6 r.2]):=by
 intro a0 a1 r H;intro σ;unfold Ag at H;refine hdg mixed Tryz.func14 (rs:=[.tmp 4,.tmp 5]) fun q tT=>?_;have hF:=K4 σ;have hX:=Tau.none σ;refine go ?_;refine Ya hF rfl fun b1 ss2 hF=>?_;refine go ?_;refine Ya hF rfl fun b3 ss4 hF=>?_;refine go ?_;refine bp H (Ba a0) fun x7 h H=>cl h ?_;refine go ?_;obtain ⟨x13,g5,H⟩:=bnd H;refine Yc 3 10 13 (.bool x13) (giN q (fun q=>?_) (fun q=>?_)) (fun J=>?_)
 ·rw [if_neg (dbf q)] at g5;refine go ?_;obtain ⟨x11,hx11,g5⟩:=bnd g5;refine cl (Ff a1 _ hx11) ?_;refine go ?_;exact Yt 10 g5
 ·rw [if_pos (dbt q)] at g5;refine go ?_;exact Yt 10 g5
 refine go ?_;refine cdb H (fun h H=>?_) (fun h H=>?_)
 ·refine go ?_;have e:=pur H;subst e;exact rt _
 ·refine go ?_;refine bp H (Oj a0 a1) fun x16 h H=>cl h ?_;refine go ?_;have e:=pur H;subst e;exact rt _
theorem B7:∀(x15:Xpn × Fm) (x18:Xpn) (x31:Int × Int) (Vd:Int) out,YJ x15 x18 x31 Vd=some out->∀c,Yg Tryz.f5 0=some c->∀(Q:QT) (tt:Sto) (b1 b3 b7:Nat),(∀(_u:Unit),out=Sum.inr ()->∀(T:TT) (σ:Sto),T 6=i6 x31.1/\T 7=i6 x31.2->Fx tt σ [(b7,⟨30,5,[sf K2 x18.binds,sf Ze x18.macs,i6 x18.scope,i6 x18.id,i6 x18.steps]⟩),(b3,⟨34,5,[i6 x15.2.kind,.str x15.2.name,i6 x15.2.num,sf cI x15.2.sc,sf K0 x15.2.kids]⟩),(b1,⟨30,5,[sf K2 x15.1.binds,sf Ze x15.1.macs,i6 x15.1.scope,i6 x15.1.id,i6 x15.1.steps]⟩)] []->Q (.ex 0) ⟨T,σ⟩)->(∀r,out=Sum.inl r->∀s',ID K1 [.tmp 2] (fun r' ss'=>r'=.bool r/\ss'=tt) s'->Q .ret s')->∀(T:TT) (σ:Sto),T 4=.ptr b3 0/\T 6=i6 x31.1/\T 7=i6 x31.2/\T 8=.sl true (rws cS [zB,(Qd #[108,97,109,98,100,97]),(Qd #[105,102]),(Qd #[113,117,111,116,101]),(Qd #[108,101,116]),(Qd #[108,101,116,45,115,121,110,116,97,120])])/\T 9=i6 Vd->Fx tt σ [(b7,⟨30,5,[sf K2 x18.binds,sf Ze x18.macs,i6 x18.scope,i6 x18.id,i6 x18.steps]⟩),(b3,⟨34,5,[i6 x15.2.kind,.str x15.2.name,i6 x15.2.num,sf cI x15.2.sc,sf K0 x15.2.kids]⟩),(b1,⟨30,5,[sf K2 x15.1.binds,sf Ze x15.1.macs,i6 x15.1.scope,i6 x15.1.id,i6 x15.1.steps]⟩)] []->aLp K1 c Q ⟨T,σ⟩:=by
 intro x15 x18 x31 Vd;revert Vd;refine YJ.partial_correctness x15 x18 x31 _ ?_;intro YJ IH Vd out H c hc Q tt b1 b3 b7 hE hR T σ tT hF;refine lpx tt hc rfl fun q hX=>go ?_;refine cdp H (fun h H=>?_) (fun h H=>?_)
 ·refine go ?_;refine Yj E0 [.v,.v,.v,.v,.v,.v,.v] (by kernel_rfl) ?_;obtain ⟨x59,hx59,H⟩:=bnd H;have f1:=fun (σ:Sto)=>RL (g:=cS) (σ:=σ) (c:=true) (k:=.i64) (e:=9) (sz:=1) (by_:=16) (fun _=>rfl) hx59;simp only [Vn,VQ,cI,cU,cS,cL,cB] at f1;refine go1 ?_;refine go ?_;refine cdp H (fun h H=>?_) (fun h H=>?_)
  ·refine go ?_;obtain ⟨x68,g16,H⟩:=bnd H;refine Yc 3 65 68 (.bool x68) (gi q (fun q=>?_) (fun q=>?_)) (fun J=>?_)
   ·refine go ?_;exact Yt 65 g16
   ·refine go ?_;exact Yt 65 g16
   refine go ?_;exact wq (hR _ (pur H).symm _ (rt _))
  ·refine go ?_;exact IH  (i64.wrap (Vd+1)) _ H _ rfl Q tt b1 b3 b7 hE hR _ _  S hF
 ·refine go ?_;exact wq (hE () (pur H).symm _ _  S hF)
theorem Dn:∀(a0:List Int) r,Hb a0=some r->VP K1 5 [sf cU a0] (.bool r):=by
 intro a0 r H;intro σ;unfold Hb at H;refine hdg mixed Tryz.func5 (rs:=[.tmp 2]) fun q tT=>?_;have hF:=K4 σ;have hX:=Tau.none σ;refine go ?_;refine cdp H (fun h H=>?_) (fun h H=>?_)
 ·refine go ?_;have e:=pur H;subst e;exact rt _
 ·refine go ?_;refine bp H (Ev a0) fun x15 h H=>cl h ?_;refine go ?_;refine Ya hF rfl fun b1 ss2 hF=>?_;refine go ?_;refine Ya hF rfl fun b3 ss4 hF=>?_;refine go ?_;refine st hF 1 rfl fun ss5 hF=>?_;refine go ?_;refine st hF 0 rfl fun ss6 hF=>?_;refine go ?_;refine bp H (D1 ) fun x18 h H=>cl h ?_;refine go ?_;refine Ya hF rfl fun b7 s8 hF=>?_;refine go ?_;refine st hF 0 rfl fun s9 hF=>?_;refine go ?_;refine Yj E0 [.v,.v,.v,.v,.v,.v,.v,.v,.v] (by kernel_rfl) ?_;refine go ?_;refine bp H (Bb ) fun x20 h H=>cv h ?_;refine go ?_;refine bp H (Oq x18 x20) fun x21 h H=>cv h ?_;refine go ?_;obtain ⟨x27,g10,H⟩:=bnd H;refine V0 3 24 27 (.bool x27) (tiN q (fun q=>?_) (fun q=>?_)) (fun J=>?_)
  ·rw [if_neg (dbf q)] at g10;refine go ?_;obtain ⟨x25,hx25,g10⟩:=bnd g10;refine cv (Ba x18 _ hx25) ?_;refine go ?_;exact Yt 24 g10
  ·rw [if_pos (dbt q)] at g10;refine go ?_;exact Yt 24 g10
  refine go ?_;refine cdb H (fun h H=>?_) (fun h H=>?_)
  ·refine go ?_;have e:=pur H;subst e;exact rt _
  ·refine go ?_;refine bp H (L4 x18 x15.2) fun x31 h H=>cl h ?_;refine go ?_;obtain ⟨x41,g12,H⟩:=bnd H;refine Yc 3 38 41 (.bool x41) (giN q (fun q=>?_) (fun q=>?_)) (fun J=>?_)
   ·rw [if_pos (dnf q)] at g12;refine go ?_;obtain ⟨x39,hx39,g12⟩:=bnd g12;refine cl (I3 x15.2 _ hx39) ?_;refine go ?_;exact Yt 38 g12
   ·rw [if_neg (dnt q)] at g12;refine go ?_;exact Yt 38 g12
   refine go ?_;refine cdb H (fun h H=>?_) (fun h H=>?_)
   ·refine go ?_;obtain ⟨x47,g14,H⟩:=bnd H;refine Yc 2 45 47 (.bool x47) (gi q (fun q=>?_) (fun q=>?_)) (fun J=>?_)
    ·refine go ?_;exact Yt 45 g14
    ·refine go ?_;exact Yt 45 g14
    refine go ?_;have e:=pur H;subst e;exact rt _
   ·refine go ?_;obtain ⟨o18,ho18,H⟩:=bnd H;refine B7 x15 x18 x31 1 _ ho18 _ rfl _ _ b1 b3 b7 ?_ ?_ _ _  S hF
    ·intro _ he T20 s21 tT hF;have he:=he.symm;subst he
     try dsimp only at H
     refine go ?_;obtain ⟨x74,g23,H⟩:=bnd H;refine Yc 2 72 74 (.bool x74) (gi q (fun q=>?_) (fun q=>?_)) (fun J=>?_)
     ·refine go ?_;exact Yt 72 g23
     ·refine go ?_;exact Yt 72 g23
     refine go ?_;have e:=pur H;subst e;exact rt _
    ·intro r hr s' hs;subst hr;have e:=pur H;subst e;exact hsq hs
end Go.Proofs.SA
