/- Printed by a program of mine: the plain functions that the code computes (D), and the walks that show it (W). -/
import Derived.Test.YthdghhllcllneaaGreatDoorGx
import Derived.Test.YthdghhllcllneaaGreatDoorSaTy
import Derived.Test.YthdghhllcllneaaGreatDoorChecked
import Derived.Lib.Strings
import Derived.Lib.Slices
import Derived.Lib.Walk
import Derived.Lib.Bytealg
import Derived.Test.YthdghhllcllneaaGreatDoorGv
import Derived.Test.YthdghhllcllneaaGreatDoorSf
import Derived.Test.YthdghhllcllneaaGreatDooreuD
import Derived.Test.YthdghhllcllneaaGreatDooreuW0
set_option maxRecDepth 100000
set_option maxHeartbeats 2000000
set_option linter.unusedSimpArgs false
set_option linter.unusedVariables false
open Go Go.Proofs Go.Proofs.Shadow
open Fm renaming cells → KY
open Tryz renaming prog → KZ
open _root_.And renaming intro → K3
open Hit renaming cells → K4
open Cor renaming cells → K2
open Rul renaming cells → Zn
open Xpn renaming cells → K6, mk → KU
open Bnd renaming cells → K0
open EE renaming not → K5, of → Zd
open Mac renaming cells → K9
open Fx renaming self → K1
open Val renaming cells → Zo
open _root_.List renaming flatten_cons → Qr
open Wk renaming sub → Zp
open Go.IntKind (i64)
namespace Go.Proofs.SA
theorem TV:∀(a0:Fm) (a1:List Hit) r,Ae a0 a1=some r->Y7 KZ 204 [.agg (KY a0),sf K4 a1] (.bool r):=by
 refine Ae.partial_correctness _ (motive_2:=fun a0 a1 Yh out=>∀c,Yf Tryz.f204 0=some c->∀(Q:QT) (tt:Sto) (b1:Nat),(∀(_u:Unit),out=Sum.inr ()->∀(T:TT) (ss:Sto),0+0=0->Fx tt ss [(b1,⟨26,5,[i6 a0.kind,.str a0.name,i6 a0.num,sf cI a0.sc,sf KY a0.kids]⟩)] []->Q (.ex 0) ⟨T,ss⟩)->(∀r,out=Sum.inl r->∀s',I6 KZ [.tmp 4] (fun r' ss'=>r'=.bool r/\ss'=tt) s'->Q .ret s')->∀(T:TT) (ss:Sto),T 1=sf K4 a1/\T 2=.ptr b1 0/\T 5=i6 Yh->Fx tt ss [(b1,⟨26,5,[i6 a0.kind,.str a0.name,i6 a0.num,sf cI a0.sc,sf KY a0.kids]⟩)] []->aLp KZ c Q ⟨T,ss⟩) ?_ ?_
 ·intro GF L0 a0 a1 r H;intro ss;refine hdh mixed Tryz.func204 (rs:=[.tmp 4]) fun q tT hF hX=>?_;refine go ?_;refine X8 hF rfl fun b1 ss2 hF=>go ?_;refine bp H (VF a0) fun x7 h H=>cl h (go ?_);obtain ⟨x13,g3,H⟩:=bnd H;refine Yb 4 9 13 (.bool x13) (giN q (fun q=>?_) (fun q=>?_)) (fun J=>go ?_)
  ·rw [if_neg (dbf q)] at g3;refine go ?_;obtain ⟨x11,hx11,g3⟩:=bnd g3;refine cl (Es a1 a0 _ hx11) (go ?_);exact Yq 9 g3
  ·rw [if_pos (dbt q)] at g3;refine go ?_;exact Yq 9 g3
  refine cdb H (fun h H=>go ?_) (fun h H=>go ?_)
  ·cases pur H;exact rt _
  ·obtain ⟨o11,ho11,H⟩:=bnd H;refine L0 a0 a1 0 _ ho11 _ rfl _ _ b1 ?_ ?_ _ _  S hF
   ·intro _ he T13 s14 tT hF;have he:=he.symm;subst he
    try dsimp only at H
    refine go ?_;cases pur H;exact rt _
   ·intro r hr s' hs;subst hr;cases pur H;exact hsq hs
 ·intro Ae GF C0 L0 a0 a1 Yh out H c hc Q tt b1 hE hR T ss tT hF;refine lpx tt hc rfl fun q hX=>go ?_;refine cdp H (fun h H=>?_) (fun h H=>go ?_)
  ·obtain ⟨x24,f1,H⟩:=bil (g:=KY) Fm.X6 H;refine go1 ?_;refine bp H (VF x24) fun x26 h H=>cl h (go ?_);refine cdb H (fun h H=>go ?_) (fun h H=>go ?_)
   ·obtain ⟨x37,g5,H⟩:=bnd H;refine Yb 7 30 37 (.bool x37) (giN q (fun q=>?_) (fun q=>?_)) (fun J=>go ?_)
    ·rw [if_neg (df q)] at g5;obtain ⟨x34,f1,g5⟩:=bil (g:=KY) Fm.X6 g5;refine go1 ?_;obtain ⟨x36,hx36,g5⟩:=bnd g5;refine cl (VF x34 _ hx36) (go ?_);exact Yq 30 g5
    ·rw [if_pos (dt q)] at g5;refine go ?_;exact Yq 30 g5
    refine cdb H (fun h H=>go ?_) (fun h H=>go ?_)
    ·exact wq (hR _ (pur H).symm _ (rt _))
    ·exact L0 a0 a1 (i64.wrap (Yh+1)) _ H _ rfl Q tt b1 hE hR _ _  S hF
   ·obtain ⟨x52,g7,H⟩:=bnd H;refine Yb 7 45 52 (.bool x52) (gi q (fun q=>?_) (fun q=>?_)) (fun J=>go ?_)
    ·rw [if_pos (dt q)] at g7;obtain ⟨x49,f1,g7⟩:=bil (g:=KY) Fm.X6 g7;refine go1 ?_;obtain ⟨x51,hx51,g7⟩:=bnd g7;refine cl (VF x49 _ hx51) (go ?_);exact Yq 45 g7
    ·rw [if_neg (df q)] at g7;refine go ?_;exact Yq 45 g7
    refine cdb H (fun h H=>go ?_) (fun h H=>?_)
    ·refine Yj E0 [.v,.v,.v,.v,.v,.v,.v,.v,.v,.v,.v,.v,.v,.v,.v,.v,.v,.v,.v] (by kernel_rfl) ?_;obtain ⟨x57,f1,H⟩:=bil (g:=KY) Fm.X6 H;refine go1 ?_;refine bp H (PS a1 x57) fun x59 h H=>cv h (go ?_);obtain ⟨x71,g9,H⟩:=bnd H;refine V5 9 62 71 (.bool x71) (tiN q (fun q=>?_) (fun q=>?_)) (fun J=>go ?_)
     ·rw [if_neg (dbf q)] at g9;obtain ⟨x65,f1,g9⟩:=bil (g:=KY) Fm.X6 g9;refine go1 ?_;obtain ⟨x68,hx68,g9⟩:=bnd g9;refine cv (PR a1 _ hx68) (go ?_);obtain ⟨x69,hx69,g9⟩:=bnd g9;refine cv (C0 x65 x68 _ hx69) (go ?_);exact Yq 62 g9
     ·rw [if_pos (dbt q)] at g9;refine go ?_;exact Yq 62 g9
     refine cdb H (fun h H=>go ?_) (fun h H=>go ?_)
     ·exact wq (hR _ (pur H).symm _ (rt _))
     ·exact L0 a0 a1 (i64.wrap (Yh+1)) _ H _ rfl Q tt b1 hE hR _ _  S hF
    ·obtain ⟨x75,f1,H⟩:=bil (g:=KY) Fm.X6 H;refine go1 ?_;refine bp H (C0 x75 a1) fun x78 h H=>cl h (go ?_);refine cdb H (fun h H=>go ?_) (fun h H=>go ?_)
     ·exact wq (hR _ (pur H).symm _ (rt _))
     ·exact L0 a0 a1 (i64.wrap (Yh+1)) _ H _ rfl Q tt b1 hE hR _ _  S hF
  ·exact wq (hE () (pur H).symm _ _  S hF)
theorem PT:∀(a0:Rul) (a1:List Fm) r,BY a0 a1=some r->Y7 KZ 193 [.agg (Zn a0),sf KY a1] (.bool r):=by
 intro a0 a1 r H;intro ss;unfold BY at H;refine hdh mixed Tryz.func193 (rs:=[.tmp 4]) fun q tT hF hX=>?_;refine go ?_;refine X8 hF rfl fun b1 ss2 hF=>go ?_;refine Yj E0 [.v,.v,.v,.v,.v,.v,.v,.v,.v,.v,.v,.v,.v,.v,.v,.v,.v,.v,.v,.v,.v,.v,.v,.v,.v,.v,.v,.v,.v,.v,.v,.v] (by kernel_rfl) (go ?_);refine bp H (TU a0.pat a1) fun x8 h H=>cv h (go ?_);obtain ⟨x14,g3,H⟩:=bnd H;refine V5 4 10 14 (.bool x14) (ti q (fun q=>go ?_) (fun q=>go ?_)) (fun J=>go ?_)
 ·exact Yq 10 g3
 ·exact Yq 10 g3
 obtain ⟨x21,g5,H⟩:=bnd H;refine V5 5 16 21 (.bool x21) (ti q (fun q=>go ?_) (fun q=>go ?_)) (fun J=>go ?_)
 ·exact Yq 16 g5
 ·exact Yq 16 g5
 obtain ⟨x26,g7,H⟩:=bnd H;refine V5 3 23 26 (.bool x26) (ti q (fun q=>?_) (fun q=>?_)) (fun J=>go ?_)
 ·rw [if_pos (dbt q)] at g7;refine go ?_;obtain ⟨x25,hx25,g7⟩:=bnd g7;refine cv (YW a0.tpl _ hx25) (go ?_);exact Yq 23 g7
 ·rw [if_neg (dbf q)] at g7;refine go ?_;exact Yq 23 g7
 obtain ⟨x35,g9,H⟩:=bnd H;refine V5 7 28 35 (.bool x35) (ti q (fun q=>?_) (fun q=>?_)) (fun J=>go ?_)
 ·rw [if_pos (dbt q)] at g9;refine go ?_;obtain ⟨x33,hx33,g9⟩:=bnd g9;refine cv (OG a0.pat a1 _ hx33) (go ?_);obtain ⟨x34,hx34,g9⟩:=bnd g9;refine cv (TV a0.tpl x33 _ hx34) (go ?_);exact Yq 28 g9
 ·rw [if_neg (dbf q)] at g9;refine go ?_;exact Yq 28 g9
 cases pur H;exact rt _
theorem Lk:∀(a0:List Rul) (a1:List Fm) (Yh:Int) out,JO a0 a1 Yh=some out->∀c,Yf Tryz.f184 0=some c->∀(Q:QT) (tt:Sto),(∀(_u:Unit),out=Sum.inr ()->∀(T:TT) (ss:Sto),T 0=sf Zn a0/\T 1=sf KY a1->Fx tt ss [] []->Q (.ex 0) ⟨T,ss⟩)->(∀r,out=Sum.inl r->∀s',I6 KZ [.tmp 4] (fun r' ss'=>r'=.bool r/\ss'=tt) s'->Q .ret s')->∀(T:TT) (ss:Sto),T 0=sf Zn a0/\T 1=sf KY a1/\T 5=i6 Yh->Fx tt ss [] []->aLp KZ c Q ⟨T,ss⟩:=by
 intro a0 a1 Yh;revert Yh;refine JO.partial_correctness a0 a1 _ ?_;intro JO IH Yh out H c hc Q tt  hE hR T ss tT hF;refine lpx tt hc rfl fun q hX=>go ?_;obtain ⟨x13,g1,H⟩:=bnd H;refine Yb 2 11 13 (.bool x13) (gi q (fun q=>go ?_) (fun q=>go ?_)) (fun J=>go ?_)
 ·exact Yq 11 g1
 ·exact Yq 11 g1
 refine cdb H (fun h H=>?_) (fun h H=>go ?_)
 ·obtain ⟨x18,f1,H⟩:=bil (g:=Zn) Rul.X6 H;refine go1 ?_;refine bp H (PT x18 a1) fun x21 h H=>cl h (go ?_);refine cdb H (fun h H=>go ?_) (fun h H=>go ?_)
  ·exact wq (hR _ (pur H).symm _ (rt _))
  ·exact IH  (i64.wrap (Yh+1)) _ H _ rfl Q tt  hE hR _ _  S hF
 ·exact wq (hE () (pur H).symm _ _  S hF)
theorem Et:∀(a0:List Rul) (a1:List Fm) r,Au a0 a1=some r->Y7 KZ 184 [sf Zn a0,sf KY a1] (.bool r):=by
 intro a0 a1 r H;intro ss;unfold Au at H;refine hdh mixed Tryz.func184 (rs:=[.tmp 4]) fun q tT hF hX=>?_;refine go ?_;obtain ⟨o3,ho3,H⟩:=bnd H;refine Lk a0 a1 0 _ ho3 _ rfl _ _  ?_ ?_ _ _  S hF
 ·intro _ he T5 ss6 tT hF;have he:=he.symm;subst he
  try dsimp only at H
  refine go ?_;obtain ⟨x29,g8,H⟩:=bnd H;refine Yb 2 27 29 (.bool x29) (gi q (fun q=>?_) (fun q=>?_)) (fun J=>go ?_)
  ·rw [if_pos (dt q)] at g8;refine go ?_;obtain ⟨x28,hx28,g8⟩:=bnd g8;refine cl (Cr a1 _ hx28) (go ?_);exact Yq 27 g8
  ·rw [if_neg (df q)] at g8;refine go ?_;exact Yq 27 g8
  cases pur H;exact rt _
 ·intro r hr s' hs;subst hr;cases pur H;exact hsq hs
theorem Ej:∀(a0:Fm) (X7:List Fm) (Yt:Int) out,Wc a0 X7 Yt=some out->∀c,Yf Tryz.f167 0=some c->∀(Q:QT) (tt:Sto) (b1:Nat),(∀(YX:List Fm),out=YX->∀(T:TT) (ss:Sto) (e0v0:AV),T 1=.ptr b1 0/\T 5=e0v0/\T 6=.sl true (rws Zn [])->Fx tt ss [(b1,⟨26,5,[i6 a0.kind,.str a0.name,i6 a0.num,sf cI a0.sc,sf KY a0.kids]⟩)] [⟨e0v0,26,5,rws KY YX⟩]->Q (.ex 0) ⟨T,ss⟩)->True->∀(T:TT) (ss:Sto) (z0v0:AV),T 1=.ptr b1 0/\T 5=z0v0/\T 6=.sl true (rws Zn [])/\T 7=i6 Yt->Fx tt ss [(b1,⟨26,5,[i6 a0.kind,.str a0.name,i6 a0.num,sf cI a0.sc,sf KY a0.kids]⟩)] [⟨z0v0,26,5,rws KY X7⟩]->aLp KZ c Q ⟨T,ss⟩:=by
 intro a0 X7 Yt;revert X7 Yt;refine Wc.partial_correctness a0 _ ?_;intro Wc IH X7 Yt out H c hc Q tt b1 hE hR T ss z0v0 tT hF;obtain rfl:=lpe (rfl:Yf Tryz.f167 0=some _) hc;refine Yc ?_;have q:=dum;have hX:=Tau.none tt;obtain ⟨x46,f1,H⟩:=bil (g:=KY) Fm.X6 H;refine go1 ?_;refine go ?_;refine cdp H (fun h H=>?_) (fun h H=>go ?_)
 ·obtain ⟨x56,f1,H⟩:=bil (g:=KY) Fm.X6 H;obtain ⟨x60,f2,H⟩:=bil (g:=KY) Fm.X6 H;refine go2 ?_;refine bp H (It x60) fun x62 h H=>cl h (go ?_);refine apd (g:=KY) hF 0 H (rdo (c:=true) (g:=KY) Fm.X6) fun x64 H v11 s12 hF=>go ?_;exact IH  x64 (i64.wrap (Yt+1)) _ H _ rfl Q tt b1 hE hR _ _ v11 S hF
 ·exact wq (hE _ (pur H).symm _ _ z0v0 S hF)
theorem Ek:∀(a0:Fm) (I7:List Fm) (VX:List Rul) (Ja:Int) out,Wd a0 I7 VX Ja=some out->∀c,Yf Tryz.f167 1=some c->∀(Q:QT) (tt:Sto) (b1:Nat) (e14v0:AV),(∀(FU:List Rul),out=Sum.inr FU->∀(T:TT) (ss:Sto) (e1v1:AV),T 5=e14v0/\T 6=e1v1->Fx tt ss [(b1,⟨26,5,[i6 a0.kind,.str a0.name,i6 a0.num,sf cI a0.sc,sf KY a0.kids]⟩)] [⟨e1v1,217,10,rws Zn FU⟩,⟨e14v0,26,5,rws KY I7⟩]->Q (.ex 2) ⟨T,ss⟩)->(∀r,out=Sum.inl r->∀s',I6 KZ [.tmp 2,.tmp 3,.tmp 4] (fun r' ss'=>r'=.tup [sf KY r.1,sf Zn r.2.1,.bool r.2.2]/\ss'=tt) s'->Q .ret s')->∀(T:TT) (ss:Sto) (z1v1:AV),T 1=.ptr b1 0/\T 5=e14v0/\T 6=z1v1/\T 8=i6 Ja->Fx tt ss [(b1,⟨26,5,[i6 a0.kind,.str a0.name,i6 a0.num,sf cI a0.sc,sf KY a0.kids]⟩)] [⟨z1v1,217,10,rws Zn VX⟩,⟨e14v0,26,5,rws KY I7⟩]->aLp KZ c Q ⟨T,ss⟩:=by
 intro a0 I7 VX Ja;revert VX Ja;refine Wd.partial_correctness a0 I7 _ ?_;intro Wd IH VX Ja out H c hc Q tt b1 e14v0 hE hR T ss z1v1 tT hF;refine lpx tt hc rfl fun q hX=>go ?_;refine cdp H (fun h H=>?_) (fun h H=>go ?_)
 ·obtain ⟨x75,f1,H⟩:=bil (g:=KY) Fm.X6 H;refine go1 ?_;obtain ⟨x88,g18,H⟩:=bnd H;refine Yb 8 80 88 (.bool x88) (giN q (fun q=>?_) (fun q=>?_)) (fun J=>go ?_)
  ·rw [if_pos (dnf q)] at g18;obtain ⟨x83,f1,g18⟩:=bil (g:=KY) Fm.X6 g18;refine go1 ?_;refine go ?_;exact Yq 80 g18
  ·rw [if_neg (dnt q)] at g18;refine go ?_;exact Yq 80 g18
  refine cdb H (fun h H=>go ?_) (fun h H=>go ?_)
  ·exact wq (hR _ (pur H).symm _ (rt _))
  ·refine Yj E0 [.v,.v,.v,.v,.v,.v,.v,.v,.v,.v,.v,.v,.v,.v,.v,.v,.v,.v,.v,.v,.v,.x,.v] (by kernel_rfl) ?_;obtain ⟨x95,f1,H⟩:=bil (g:=KY) Fm.X6 H;obtain ⟨x98,f2,H⟩:=bil (g:=KY) Fm.X6 H;refine go2 ?_;refine bp H (It x98) fun x100 h H=>cv h ?_;obtain ⟨x104,f1,H⟩:=bil (g:=KY) Fm.X6 H;obtain ⟨x107,f2,H⟩:=bil (g:=KY) Fm.X6 H;refine go2 ?_;refine bp H (It x107) fun x109 h H=>cv h (go ?_);refine NN (g:=Zn) hF 0 H (rdo (c:=true) (g:=Zn) Rul.X6) fun x112 H v20 s21 hF=>go ?_;exact IH  x112 (i64.wrap (Ja+1)) _ H _ rfl Q tt b1 e14v0 hE hR _ _ v20 S hF
 ·exact wq (hE _ (pur H).symm _ _ z1v1 S hF)
theorem Lg:∀(a0:Fm) r,HK a0=some r->Y7 KZ 167 [.agg (KY a0)] (.tup [sf KY r.1,sf Zn r.2.1,.bool r.2.2]):=by
 intro a0 r H;intro ss;unfold HK at H;refine hdh mixed Tryz.func167 (rs:=[.tmp 2,.tmp 3,.tmp 4]) fun q tT hF hX=>?_;refine go ?_;refine X8 hF rfl fun b1 ss2 hF=>go ?_;refine bp H (YW a0) fun x12 h H=>cl h (go ?_);obtain ⟨x18,g3,H⟩:=bnd H;refine Yb 3 15 18 (.bool x18) (giN q (fun q=>go ?_) (fun q=>go ?_)) (fun J=>go ?_)
 ·exact Yq 15 g3
 ·exact Yq 15 g3
 obtain ⟨x24,g5,H⟩:=bnd H;refine Yb 4 20 24 (.bool x24) (giN q (fun q=>go ?_) (fun q=>go ?_)) (fun J=>go ?_)
 ·exact Yq 20 g5
 ·exact Yq 20 g5
 obtain ⟨x32,g7,H⟩:=bnd H;refine Yb 6 26 32 (.bool x32) (giN q (fun q=>?_) (fun q=>?_)) (fun J=>go ?_)
 ·rw [if_neg (dbf q)] at g7;obtain ⟨x28,f1,g7⟩:=bil (g:=KY) Fm.X6 g7;refine go1 ?_;refine go ?_;exact Yq 26 g7
 ·rw [if_pos (dbt q)] at g7;refine go ?_;exact Yq 26 g7
 obtain ⟨x40,g9,H⟩:=bnd H;refine Yb 6 34 40 (.bool x40) (giN q (fun q=>?_) (fun q=>?_)) (fun J=>go ?_)
 ·rw [if_neg (dbf q)] at g9;obtain ⟨x36,f1,g9⟩:=bil (g:=KY) Fm.X6 g9;refine go1 ?_;refine go ?_;exact Yq 34 g9
 ·rw [if_pos (dbt q)] at g9;refine go ?_;exact Yq 34 g9
 refine cdb H (fun h H=>go ?_) (fun h H=>?_)
 ·cases pur H;exact rt _
 ·have hF:=hF.lit 26 5 (rws KY []) rfl;refine go ?_;obtain ⟨o13,ho13,H⟩:=bnd H;refine Ej a0 [] 0 _ ho13 _ rfl _ _ b1 ?_ ?_ _ _ (.sl true (rws KY [])) S hF
  ·intro I7 he T15 s16 e14v0 tT hF;have he:=he.symm;subst he;have hF:=hF.lit 217 10 (rws Zn []) rfl;refine go ?_;obtain ⟨o22,ho22,H⟩:=bnd H;refine Ek a0 I7 [] 2 _ ho22 _ rfl _ _ b1 e14v0 ?_ ?_ _ _ (.sl true (rws Zn [])) S hF
   ·intro Qa3 he T24 s25 e23v1 tT hF;have he:=he.symm;subst he
    try dsimp only at H
    refine go ?_;obtain ⟨x115,hx115,H⟩:=bnd H;refine CP (Et Qa3 I7 _ hx115) .bool (.cons ((hF.wk 0 rfl).trans (Zp (Sub.zero _) _)) (fun _=>rfl) (.cons ((hF.wk 1 rfl).trans (Zp (Sub.zero _) _)) (fun _=>rfl) .nil)) (go ?_);refine cdb H (fun h H=>go ?_) (fun h H=>go ?_)
    ·cases pur H;exact rt _
    ·cases pur H;exact rt _
   ·intro r hr s' hs;subst hr;cases pur H;exact hsq hs
  ·trivial
theorem PJ:∀(a0:List Bnd) (a1 a2:Fm) r,BW a0 a1 a2=some r->Y7 KZ 196 [sf K0 a0,.agg (KY a1),.agg (KY a2)] (.bool r):=by
 intro a0 a1 a2 r H;intro ss;unfold BW at H;refine hdh mixed Tryz.func196 (rs:=[.tmp 6]) fun q tT hF hX=>?_;refine go ?_;refine X8 hF rfl fun b1 ss2 hF=>go ?_;refine X8 hF rfl fun b3 ss4 hF=>go ?_;refine bp H (CI a0 a1) fun x14 h H=>cl h (go ?_);refine bp H (CI a0 a2) fun x20 h H=>cl h (go ?_);obtain ⟨x29,g5,H⟩:=bnd H;refine Yb 2 27 29 (.bool x29) (giN q (fun q=>go ?_) (fun q=>go ?_)) (fun J=>go ?_)
 ·exact Yq 27 g5
 ·exact Yq 27 g5
 refine cdb H (fun h H=>go ?_) (fun h H=>go ?_)
 ·cases pur H;exact rt _
 ·refine cdp H (fun h H=>go ?_) (fun h H=>go ?_)
  ·cases pur H;exact rt _
  ·refine Yj E0 [.v,.v,.v,.v,.v,.v,.v,.v,.v,.v,.v,.v] (by kernel_rfl) ?_;obtain ⟨x39,f1,H⟩:=bil (g:=K0) Bnd.X6 H;obtain ⟨x44,f2,H⟩:=bil (g:=K0) Bnd.X6 H;refine go2 ?_;refine go ?_;cases pur H;exact rt _
theorem M8:∀(a0:Fm) (a2:List (List Hit)) (x17:List Fm) (x21:List Int) (X7:List Hit) (Y4:Int) (x30:Fm) (x34:Int) (VX:List Hit) (Im:Int) out,JG a0 a2 x17 x21 X7 Y4 x30 x34 VX Im=some out->∀c,Yf Tryz.f206 1=some c->∀(Q:QT) (tt:Sto) (b1 b9:Nat) (z0v0:AV),(∀(FU:List Hit),out=FU->∀(T:TT) (ss:Sto) (e1v1:AV),T 2=sf (cL K4) a2/\T 7=z0v0/\T 8=sf KY x17/\T 9=sf cI x21/\T 10=i6 Y4/\T 11=.ptr b9 0->Fx tt ss [(b9,⟨236,12,[i6 x30.kind,.str x30.name,i6 x30.num,sf cI x30.sc,sf KY x30.kids,i6 (i64.wrap (x34+1)),i6 0,.str zB,i6 0,.X4,.X4,e1v1]⟩),(b1,⟨26,5,[i6 a0.kind,.str a0.name,i6 a0.num,sf cI a0.sc,sf KY a0.kids]⟩)] [⟨e1v1,236,12,rws K4 FU⟩,⟨z0v0,236,12,rws K4 X7⟩]->Q (.ex 2) ⟨T,ss⟩)->True->∀(T:TT) (ss:Sto) (z1v1:AV),T 2=sf (cL K4) a2/\T 7=z0v0/\T 8=sf KY x17/\T 9=sf cI x21/\T 10=i6 Y4/\T 11=.ptr b9 0/\T 12=i6 Im->Fx tt ss [(b9,⟨236,12,[i6 x30.kind,.str x30.name,i6 x30.num,sf cI x30.sc,sf KY x30.kids,i6 (i64.wrap (x34+1)),i6 0,.str zB,i6 0,.X4,.X4,z1v1]⟩),(b1,⟨26,5,[i6 a0.kind,.str a0.name,i6 a0.num,sf cI a0.sc,sf KY a0.kids]⟩)] [⟨z1v1,236,12,rws K4 VX⟩,⟨z0v0,236,12,rws K4 X7⟩]->aLp KZ c Q ⟨T,ss⟩:=by
 intro a0 a2 x17 x21 X7 Y4 x30 x34 VX Im;revert VX Im;refine JG.partial_correctness a0 a2 x17 x21 X7 Y4 x30 x34 _ ?_;intro JG IH VX Im out H c hc Q tt b1 b9 z0v0 hE hR T ss z1v1 tT hF;refine lpx tt hc rfl fun q hX=>go ?_;refine cdp H (fun h H=>go ?_) (fun h H=>go ?_)
 ·refine Yj E0 [.v,.v,.v,.v,.v,.v,.v,.v,.v,.v,.x,.v,.z] (by kernel_rfl) ?_;obtain ⟨x48,f1,H⟩:=bil (g:=(cL K4)) (fun _=>rfl) H;obtain ⟨x51,f2,H⟩:=bil (g:=K4) Hit.X6 H;refine go2 ?_;refine NN (g:=K4) hF 0 H (rdo (c:=true) (g:=K4) Hit.X6) fun x54 H v12 s13 hF=>go ?_;refine st hF 0 (hF.cells 0 rfl) fun s14 hF=>?_;refine go ?_;exact IH  x54 (i64.wrap (Im+1)) _ H _ rfl Q tt b1 b9 z0v0 hE hR _ _ v12 S hF
 ·exact wq (hE _ (pur H).symm _ _ z1v1 S hF)
theorem M7:∀(a0:Fm) (a2:List (List Hit)) (x17:List Fm) (x21:List Int) (X7:List Hit) (Y4:Int) out,Gh a0 a2 x17 x21 X7 Y4=some out->∀c,Yf Tryz.f206 0=some c->∀(Q:QT) (tt:Sto) (b1:Nat),(∀(YX:List Hit),out=YX->∀(T:TT) (ss:Sto) (e0v0:AV),T 7=e0v0->Fx tt ss [(b1,⟨26,5,[i6 a0.kind,.str a0.name,i6 a0.num,sf cI a0.sc,sf KY a0.kids]⟩)] [⟨e0v0,236,12,rws K4 YX⟩]->Q (.ex 0) ⟨T,ss⟩)->True->∀(T:TT) (ss:Sto) (z0v0:AV),T 2=sf (cL K4) a2/\T 7=z0v0/\T 8=sf KY x17/\T 9=sf cI x21/\T 10=i6 Y4->Fx tt ss [(b1,⟨26,5,[i6 a0.kind,.str a0.name,i6 a0.num,sf cI a0.sc,sf KY a0.kids]⟩)] [⟨z0v0,236,12,rws K4 X7⟩]->aLp KZ c Q ⟨T,ss⟩:=by
 intro a0 a2 x17 x21 X7 Y4;revert X7 Y4;refine Gh.partial_correctness a0 a2 x17 x21 _ ?_;intro Gh IH X7 Y4 out H c hc Q tt b1 hE hR T ss z0v0 tT hF;refine lpx tt hc rfl fun q hX=>go ?_;refine cdp H (fun h H=>go ?_) (fun h H=>go ?_)
 ·refine Yj E0 [.v,.v,.v,.v,.v,.v,.v,.v,.v,.v,.x,.z] (by kernel_rfl) ?_;obtain ⟨x30,f1,H⟩:=bil (g:=KY) Fm.X6 H;obtain ⟨x34,f2,H⟩:=bil (g:=cI) (fun _=>rfl) H;refine go2 ?_;refine J8 hF rfl fun b9 s10 hF=>go ?_;refine st hF 0 rfl fun s11 hF=>?_;have hF:=hF.nil 236 12;refine go ?_;obtain ⟨o15,ho15,H⟩:=bnd H;refine M8 a0 a2 x17 x21 X7 Y4 x30 x34 [] 0 _ ho15 _ rfl _ _ b1 b9 z0v0 ?_ ?_ _ _ .X4 S hF
  ·intro Qa2 he T17 s18 e16v1 tT hF;have he:=he.symm;subst he;refine go ?_;refine Qvq (g:=K4) (rows:=[[i6 x30.kind,.str x30.name,i6 x30.num,sf cI x30.sc,sf KY x30.kids,i6 (i64.wrap (x34+1)),i6 0,.str zB,i6 0,.X4,.X4,e16v1]]) hF 1 0 0 H Hit.X6 true rfl (by simp only [sf,i6,zB,Vj,V7,cI,cU,cS,cL,Hit.Ya,Fm.Ya,Fm.kind,Fm.name,Fm.num,Fm.sc,Fm.kids,Hit.name,Hit.depth,Hit.one,Hit.many,Cor.kind,Cor.id,Cor.name,Cor.num,Cor.ids,Cor.data,Cor.kids,Val.kind,Val.num,Val.name,Val.items,Val.fn,Val.env,Slt.id,Slt.val,Qr,List.flatten_nil,List.append_nil,List.cons_append,List.nil_append];exact (.wk (.refl _) id (.wk (.refl _) id (.wk (.refl _) id (.wk (.refl _) id (.wk (.refl _) id (.wk (.refl _) id (.wk (.refl _) id (.wk (.refl _) id (.wk (.refl _) id (.wk .X4 (fun _=>rfl) (.wk .X4 (fun _=>rfl) (.own .nil))))))))))))) fun x59 H v20 s21 hF=>go ?_;exact IH  x59 (i64.wrap (Y4+1)) _ H _ rfl Q tt b1 hE hR _ _ v20 S (hF.drop 1 0)
  ·trivial
 ·exact wq (hE _ (pur H).symm _ _ z0v0 S hF)
theorem SE:∀(a0:Fm) (a1:List Fm) (a2:List (List Hit)) r,BE a0 a1 a2=some r->Y7 KZ 206 [.agg (KY a0),sf KY a1,sf (cL K4) a2] (sf K4 r):=by
 intro a0 a1 a2 r H;intro ss;unfold BE at H;refine hdh mixed Tryz.func206 (rs:=[.tmp 6]) fun q tT hF hX=>?_;refine go ?_;refine X8 hF rfl fun b1 ss2 hF=>?_;have hF:=hF.lit 26 5 (rws KY []) rfl;refine go ?_;obtain ⟨x17,hx17,H⟩:=bnd H;refine cx (CJ [] a0 a1 _ hx17  (.sl true (rws KY [])) _ (pre 0 0 1 hF hX)) ?_;rintro _ ss3 ⟨tt4,rfl,hT,hG⟩;have hF:=Pm 0 1 hF hX hT hG;have hF:=hF.lit 3 1 (rws cI []) rfl;refine go ?_;obtain ⟨x21,hx21,H⟩:=bnd H;refine cx (Bm [] a0 a1 0 _ hx21  (.sl true (rws cI [])) _ (pre 0 0 1 hF hX)) ?_;rintro _ ss6 ⟨t7,rfl,hT,hG⟩;have hF:=Pm 0 1 hF hX hT hG;have hF:=hF.lit 236 12 (rws K4 []) rfl;refine go ?_;obtain ⟨o22,ho22,H⟩:=bnd H;refine M7 a0 a2 x17 x21 [] 0 _ ho22 _ rfl _ _ b1 ?_ ?_ _ _ (.sl true (rws K4 [])) S hF
 ·intro Tr he T24 s25 e23v0 tT hF;have he:=he.symm;subst he;refine go ?_;cases pur H;exact rt _
 ·trivial
theorem Mc:∀(a0:List Bnd) (a1 a2 a3:List Fm) (Ly Vs:Int) out,JF a0 a1 a2 a3 Ly Vs=some out->∀c,Yf Tryz.f197 0=some c->∀(Q:QT) (tt:Sto),(∀(Ql9:Int),out=Ql9->∀(T:TT) (ss:Sto),T 0=sf K0 a0/\T 1=sf KY a1/\T 2=sf KY a2/\T 3=sf KY a3/\T 10=.sl true (rws K4 [])/\T 11=i6 Ql9->Fx tt ss [] []->Q (.ex 0) ⟨T,ss⟩)->True->∀(T:TT) (ss:Sto),T 0=sf K0 a0/\T 1=sf KY a1/\T 2=sf KY a2/\T 3=sf KY a3/\T 10=.sl true (rws K4 [])/\T 11=i6 Ly/\T 12=i6 Vs->Fx tt ss [] []->aLp KZ c Q ⟨T,ss⟩:=by
 intro a0 a1 a2 a3 Ly Vs;revert Ly Vs;refine JF.partial_correctness a0 a1 a2 a3 _ ?_;intro JF IH Ly Vs out H c hc Q tt  hE hR T ss tT hF;refine lpx tt hc rfl fun q hX=>go ?_;refine cdp H (fun h H=>?_) (fun h H=>go ?_)
 ·obtain ⟨x32,f1,H⟩:=bil (g:=KY) Fm.X6 H;refine go1 ?_;refine bp H (VF x32) fun x34 h H=>cl h (go ?_);refine cdb H (fun h H=>go ?_) (fun h H=>go ?_)
  ·exact IH  Vs (i64.wrap (Vs+1)) _ H _ rfl Q tt  hE hR _ _  S hF
  ·exact IH  Ly (i64.wrap (Vs+1)) _ H _ rfl Q tt  hE hR _ _  S hF
 ·exact wq (hE _ (pur H).symm _ _  S hF)
theorem M6 (fx0:List Bnd) (fx1:List Fm):(∀(a1 a3:Fm) r,WG fx0 a1 fx1 a3=some r->Y7 KZ 186 [sf K0 fx0,.agg (KY a1),sf KY fx1,.agg (KY a3)] (.tup [sf K4 r.1,.bool r.2]))/\(∀(a1 a3:List Fm) r,Dz fx0 a1 fx1 a3=some r->Y7 KZ 197 [sf K0 fx0,sf KY a1,sf KY fx1,sf KY a3] (.tup [sf K4 r.1,.bool r.2])):=by
 have h:=WG.mutual_partial_correctness fx0 fx1 (motive_1:=fun a1 a3 r=>Y7 KZ 186 [sf K0 fx0,.agg (KY a1),sf KY fx1,.agg (KY a3)] (.tup [sf K4 r.1,.bool r.2])) (motive_2:=fun a1 a3 r=>Y7 KZ 197 [sf K0 fx0,sf KY a1,sf KY fx1,sf KY a3] (.tup [sf K4 r.1,.bool r.2])) (motive_3:=fun a1 a3 Jn VZ G8 Gc out=>∀c,Yf Tryz.f197 1=some c->∀(Q:QT) (tt:Sto),(∀(N1:List Hit),out=Sum.inr N1->∀(T:TT) (ss:Sto) (e1v0:AV),T 10=e1v0->Fx tt ss [] [⟨e1v0,236,12,rws K4 N1⟩]->Q (.ex 2) ⟨T,ss⟩)->(∀r,out=Sum.inl r->∀s',I6 KZ [.tmp 8,.tmp 9] (fun r' ss'=>r'=.tup [sf K4 r.1,.bool r.2]/\ss'=tt) s'->Q .ret s')->∀(T:TT) (ss:Sto) (z1v0:AV),T 0=sf K0 fx0/\T 1=sf KY a1/\T 2=sf KY fx1/\T 3=sf KY a3/\T 10=z1v0/\T 11=i6 Jn/\T 13=i6 G8/\T 14=i6 Gc->Fx tt ss [] [⟨z1v0,236,12,rws K4 VZ⟩]->aLp KZ c Q ⟨T,ss⟩) (motive_4:=fun a1 a3 Jn VZ Gc Qip Pk RI out=>∀c,Yf Tryz.f197 2=some c->∀(Q:QT) (tt:Sto) (z1v0:AV),(∀(Qq3:List (List Hit)) (Qmg:Int),out=Sum.inr (Qq3,Qmg)->∀(T:TT) (ss:Sto) (e2v1:AV),T 0=sf K0 fx0/\T 1=sf KY a1/\T 2=sf KY fx1/\T 3=sf KY a3/\T 10=z1v0/\T 11=i6 Jn/\T 13=i6 Qmg/\T 14=i6 Gc/\T 17=e2v1->Fx tt ss [] [⟨e2v1,220,1,rws (cL K4) Qq3⟩,⟨z1v0,236,12,rws K4 VZ⟩]->Q (.ex 4) ⟨T,ss⟩)->(∀r,out=Sum.inl r->∀s',I6 KZ [.tmp 8,.tmp 9] (fun r' ss'=>r'=.tup [sf K4 r.1,.bool r.2]/\ss'=tt) s'->Q .ret s')->∀(T:TT) (ss:Sto) (z2v1:AV),T 0=sf K0 fx0/\T 1=sf KY a1/\T 2=sf KY fx1/\T 3=sf KY a3/\T 10=z1v0/\T 11=i6 Jn/\T 13=i6 Pk/\T 14=i6 Gc/\T 17=z2v1/\T 18=i6 RI->Fx tt ss [] [⟨z2v1,220,1,rws (cL K4) Qip⟩,⟨z1v0,236,12,rws K4 VZ⟩]->aLp KZ c Q ⟨T,ss⟩) ?s0 ?s1 ?s2 ?s3
 ·exact ⟨h.1,h.2.1⟩
 ·intro Dz C1 a1 a3 r H;intro ss;refine hdh mixed Tryz.func186 (rs:=[.tmp 8,.tmp 9]) fun q tT hF hX=>?_;refine go ?_;refine X8 hF rfl fun b1 ss2 hF=>go ?_;refine X8 hF rfl fun b3 ss4 hF=>go ?_;refine cdp H (fun h H=>go ?_) (fun h H=>go ?_)
  ·refine cdp H (fun h H=>go ?_) (fun h H=>go ?_)
   ·cases pur H;exact rt _
   ·refine bp H (Cq fx1 a1) fun x21 h H=>cl h (go ?_);refine cdb H (fun h H=>go ?_) (fun h H=>go ?_)
    ·obtain ⟨x31,g5,H⟩:=bnd H;refine Yb 4 27 31 (.bool x31) (gi q (fun q=>?_) (fun q=>?_)) (fun J=>go ?_)
     ·rw [if_pos (dt q)] at g5;refine go ?_;obtain ⟨x30,hx30,g5⟩:=bnd g5;refine cl (PJ fx0 a1 a3 _ hx30) (go ?_);exact Yq 27 g5
     ·rw [if_neg (df q)] at g5;refine go ?_;exact Yq 27 g5
     cases pur H;exact rt _
    ·have hF:=hF.lit 236 12 (rws K4 []) rfl;refine apw (g:=K4) (rows:=[[i6 a1.kind,.str a1.name,i6 a1.num,sf cI a1.sc,sf KY a1.kids,i6 0,i6 a3.kind,.str a3.name,i6 a3.num,sf cI a3.sc,sf KY a3.kids,.X4]]) hF 0 H Hit.X6 true rfl (by simp only [sf,i6,zB,Vj,V7,cI,cU,cS,cL,Hit.Ya,Fm.Ya,Fm.kind,Fm.name,Fm.num,Fm.sc,Fm.kids,Hit.name,Hit.depth,Hit.one,Hit.many,Cor.kind,Cor.id,Cor.name,Cor.num,Cor.ids,Cor.data,Cor.kids,Val.kind,Val.num,Val.name,Val.items,Val.fn,Val.env,Slt.id,Slt.val,Qr,List.flatten_nil,List.append_nil,List.cons_append,List.nil_append];exact (.cons (.refl _) id (.cons (.refl _) id (.cons (.refl _) id (.cons (.refl _) id (.cons (.refl _) id (.cons (.refl _) id (.cons (.refl _) id (.cons (.refl _) id (.cons (.refl _) id (.cons (.refl _) id (.cons (.refl _) id (.cons .X4 (fun _=>rfl) .nil))))))))))))) fun x37 H v7 s8 hF=>go ?_;cases pur H;exact rt _
  ·refine cdp H (fun h H=>go ?_) (fun h H=>go ?_)
   ·refine bp H (Hh a1 a3) fun x44 h H=>cl h (go ?_);cases pur H;exact rt _
   ·refine cdn H (fun h H=>go ?_) (fun h H=>go ?_)
    ·cases pur H;exact rt _
    ·refine bp H (C1 a1.kids a3.kids) fun x55 h H=>cl h (go ?_);cases pur H;exact rt _
 ·intro Wo L1 a1 a3 r H;intro ss;refine hdh mixed Tryz.func197 (rs:=[.tmp 8,.tmp 9]) fun q tT hF hX=>?_;refine go ?_;obtain ⟨o1,ho1,H⟩:=bnd H;refine Mc fx0 a1 fx1 a3 (-1) 0 _ ho1 _ rfl _ _  ?_ ?_ _ _  S hF
  ·intro Jn he T3 ss4 tT hF;have he:=he.symm;subst he;refine go ?_;obtain ⟨x44,g6,H⟩:=bnd H;refine Yb 5 39 44 (.bool x44) (gi q (fun q=>go ?_) (fun q=>go ?_)) (fun J=>go ?_)
   ·exact Yq 39 g6
   ·exact Yq 39 g6
   obtain ⟨x56,g8,H⟩:=bnd H;refine Yb 10 46 56 (.bool x56) (giN q (fun q=>?_) (fun q=>?_)) (fun J=>go ?_)
   ·rw [if_neg (dbf q)] at g8;refine go ?_;obtain ⟨x55,g10,g8⟩:=bnd g8;refine Yb 6 49 55 (.bool x55) (gi q (fun q=>go ?_) (fun q=>go ?_)) (fun J=>go ?_)
    ·exact Yq 49 g10
    ·exact Yq 49 g10
    exact Yq 46 g8
   ·rw [if_pos (dbt q)] at g8;refine go ?_;exact Yq 46 g8
   refine cdb H (fun h H=>go ?_) (fun h H=>?_)
   ·cases pur H;exact rt _
   ·have hF:=hF.lit 236 12 (rws K4 []) rfl;refine go ?_;obtain ⟨o27,ho27,H⟩:=bnd H;refine L1 a1 a3 Jn [] 0 0 _ ho27 _ rfl _ _  ?_ ?_ _ _ (.sl true (rws K4 [])) S hF
    ·intro Qa6 he T29 s30 e28v0 tT hF;have he:=he.symm;subst he
     try dsimp only at H
     refine go ?_;cases pur H;exact rt _
    ·intro r hr s' hs;subst hr;cases pur H;exact hsq hs
  ·trivial
 ·intro WG Wo GD C0 L1 L0 a1 a3 Jn VZ G8 Gc out H c hc Q tt  hE hR T ss z1v0 tT hF;refine lpx tt hc rfl fun q hX=>go ?_;refine cdp H (fun h H=>?_) (fun h H=>go ?_)
  ·obtain ⟨x66,f1,H⟩:=bil (g:=KY) Fm.X6 H;refine go1 ?_;refine bp H (VF x66) fun x68 h H=>cl h (go ?_);refine cdb H (fun h H=>go ?_) (fun h H=>go ?_)
   ·exact L1 a1 a3 Jn VZ G8 (i64.wrap (Gc+1)) _ H _ rfl Q tt  hE hR _ _ z1v0 S hF
   ·refine cdn H (fun h H=>go ?_) (fun h H=>?_)
    ·refine Yj E0 [.v,.v,.v,.v,.v,.v,.v,.v,.v,.v,.v,.v,.v,.v,.v,.v] (by kernel_rfl) ?_;obtain ⟨x76,f1,H⟩:=bil (g:=KY) Fm.X6 H;obtain ⟨x81,f2,H⟩:=bil (g:=KY) Fm.X6 H;refine go2 ?_;refine bp H (C0 x76 x81) fun x83 h H=>cv h (go ?_);refine cdb H (fun h H=>go ?_) (fun h H=>go ?_)
     ·exact wq (hR _ (pur H).symm _ (rt _))
     ·refine apd (g:=K4) hF 0 H (rdo (c:=false) (g:=K4) Hit.X6) fun x91 H v12 s13 hF=>go ?_;exact L1 a1 a3 Jn x91 (i64.wrap (G8+1)) (i64.wrap (Gc+1)) _ H _ rfl Q tt  hE hR _ _ v12 S hF
    ·have hF:=hF.lit 220 1 (rws (cL K4) []) rfl;refine go ?_;obtain ⟨o16,ho16,H⟩:=bnd H;refine L0 a1 a3 Jn VZ Gc [] G8 (i64.wrap ((a3.length:Int) - (i64.wrap ((a1.length:Int) - 2)))) _ ho16 _ rfl _ _ z1v0 ?_ ?_ _ _ (.sl true (rws (cL K4) [])) S hF
     ·intro To N0 he T18 s19 e17v1 tT hF;have he:=he.symm;subst he
      try dsimp only at H
      obtain ⟨x131,f1,H⟩:=bil (g:=KY) Fm.X6 H;refine go1 ?_;obtain ⟨x135,hx135,H⟩:=bnd H;obtain ⟨s21,hF,hw22,hb23,hz24⟩:=frz hF 0;refine FJ (SE x131 fx1 To _ hx135 _) (by (try simp only [sf,i6,zB,Fm.Ya]);exact (.cons (Zp hb23 _) id (.cons (Zp hb23 _) id (.cons hw22 (fun _=>rfl) .nil)))) hb23 ?_;rintro _ _ ⟨rfl,rfl⟩;refine go ?_;refine apd (g:=K4) hF 0 H (rdo (c:=false) (g:=K4) Hit.X6) fun x136 H v25 s26 hF=>go ?_;exact L1 a1 a3 Jn x136 N0 (i64.wrap (Gc+1)) _ H _ rfl Q tt  hE hR _ _ v25 S hF
     ·intro r hr s' hs;subst hr;exact wq (hR _ (pur H).symm _ hs)
  ·exact wq (hE _ (pur H).symm _ _ z1v0 S hF)
 ·intro WG GD C0 L0 a1 a3 Jn VZ Gc Qip Pk RI out H c hc Q tt z1v0 hE hR T ss z2v1 tT hF;refine lpx tt hc rfl fun q hX=>go ?_;refine cdp H (fun h H=>go ?_) (fun h H=>go ?_)
  ·refine Yj E0 [.v,.v,.v,.v,.v,.v,.v,.v,.v,.v,.v,.v,.v,.v,.v,.v] (by kernel_rfl) ?_;obtain ⟨x109,f1,H⟩:=bil (g:=KY) Fm.X6 H;obtain ⟨x114,f2,H⟩:=bil (g:=KY) Fm.X6 H;refine go2 ?_;refine bp H (C0 x109 x114) fun x116 h H=>cv h (go ?_);refine cdb H (fun h H=>go ?_) (fun h H=>go ?_)
   ·exact wq (hR _ (pur H).symm _ (rt _))
   ·refine apd (g:=(cL K4)) hF 0 H (rdo (c:=true) (g:=(cL K4)) (fun _=>rfl)) fun x125 H v14 s15 hF=>go ?_;exact L0 a1 a3 Jn VZ Gc x125 (i64.wrap (Pk+1)) (i64.wrap (RI - 1)) _ H _ rfl Q tt z1v0 hE hR _ _ v14 S hF
  ·exact wq (hE _ _ (pur H).symm _ _ z2v1 S hF)
theorem Er:∀(a0:List Bnd) (a1:Fm) (a2:List Fm) (a3:Fm) r,WG a0 a1 a2 a3=some r->Y7 KZ 186 [sf K0 a0,.agg (KY a1),sf KY a2,.agg (KY a3)] (.tup [sf K4 r.1,.bool r.2]):=fun a0 a1 a2 a3=>(M6 a0 a2).1 a1 a3
theorem EU:∀(a0:List Bnd) (a1:List Rul) (a2:List Fm) (a3:Fm) (Y4:Int) out,V1 a0 a1 a2 a3 Y4=some out->∀c,Yf Tryz.f168 0=some c->∀(Q:QT) (tt:Sto) (b1:Nat),(∀(_u:Unit),out=Sum.inr ()->∀(T:TT) (ss:Sto),0+0=0->Fx tt ss [(b1,⟨26,5,[i6 a3.kind,.str a3.name,i6 a3.num,sf cI a3.sc,sf KY a3.kids]⟩)] []->Q (.ex 0) ⟨T,ss⟩)->(∀r,out=Sum.inl r->∀s',I6 KZ [.tmp 8,.tmp 9] (fun r' ss'=>r'=.tup [i6 r.1,.bool r.2]/\ss'=tt) s'->Q .ret s')->∀(T:TT) (ss:Sto),T 0=sf K0 a0/\T 1=sf Zn a1/\T 2=sf KY a2/\T 7=.ptr b1 0/\T 10=i6 Y4->Fx tt ss [(b1,⟨26,5,[i6 a3.kind,.str a3.name,i6 a3.num,sf cI a3.sc,sf KY a3.kids]⟩)] []->aLp KZ c Q ⟨T,ss⟩:=by
 intro a0 a1 a2 a3 Y4;revert Y4;refine V1.partial_correctness a0 a1 a2 a3 _ ?_;intro V1 IH Y4 out H c hc Q tt b1 hE hR T ss tT hF;refine lpx tt hc rfl fun q hX=>go ?_;refine cdp H (fun h H=>go ?_) (fun h H=>go ?_)
 ·refine Yj E0 [.v,.v,.v,.v,.v,.v,.v,.v,.v,.v,.v,.v,.v,.v] (by kernel_rfl) ?_;obtain ⟨x37,f1,H⟩:=bil (g:=Zn) Rul.X6 H;refine go1 ?_;refine bp H (Er a0 x37.pat a2 a3) fun x42 h H=>cv h (go ?_);refine cdb H (fun h H=>go ?_) (fun h H=>go ?_)
  ·exact wq (hR _ (pur H).symm _ (rt _))
  ·exact IH  (i64.wrap (Y4+1)) _ H _ rfl Q tt b1 hE hR _ _  S hF
 ·exact wq (hE () (pur H).symm _ _  S hF)
theorem C7:∀(a0:List Bnd) (a1:List Rul) (a2:List Fm) (a3:Fm) r,Is a0 a1 a2 a3=some r->Y7 KZ 168 [sf K0 a0,sf Zn a1,sf KY a2,.agg (KY a3)] (.tup [i6 r.1,.bool r.2]):=by
 intro a0 a1 a2 a3 r H;intro ss;unfold Is at H;refine hdh mixed Tryz.func168 (rs:=[.tmp 8,.tmp 9]) fun q tT hF hX=>?_;refine go ?_;refine X8 hF rfl fun b1 ss2 hF=>go ?_;refine bp H (AJ a0) fun x14 h H=>cl h (go ?_);obtain ⟨x21,g3,H⟩:=bnd H;refine Yb 4 17 21 (.bool x21) (giN q (fun q=>?_) (fun q=>?_)) (fun J=>go ?_)
 ·rw [if_neg (dbf q)] at g3;refine go ?_;obtain ⟨x19,hx19,g3⟩:=bnd g3;refine cl (Et a1 a2 _ hx19) (go ?_);exact Yq 17 g3
 ·rw [if_pos (dbt q)] at g3;refine go ?_;exact Yq 17 g3
 obtain ⟨x26,g5,H⟩:=bnd H;refine Yb 3 23 26 (.bool x26) (giN q (fun q=>?_) (fun q=>?_)) (fun J=>go ?_)
 ·rw [if_neg (dbf q)] at g5;refine go ?_;obtain ⟨x24,hx24,g5⟩:=bnd g5;refine cl (YW a3 _ hx24) (go ?_);exact Yq 23 g5
 ·rw [if_pos (dbt q)] at g5;refine go ?_;exact Yq 23 g5
 refine cdb H (fun h H=>go ?_) (fun h H=>go ?_)
 ·cases pur H;exact rt _
 ·obtain ⟨o7,ho7,H⟩:=bnd H;refine EU a0 a1 a2 a3 0 _ ho7 _ rfl _ _ b1 ?_ ?_ _ _  S hF
  ·intro _ he T9 s10 tT hF;have he:=he.symm;subst he
   try dsimp only at H
   refine go ?_;cases pur H;exact rt _
  ·intro r hr s' hs;subst hr;cases pur H;exact hsq hs
theorem Fy:(∀(a0:Fm) r,Wl a0=some r->Y7 KZ 207 [.agg (KY a0)] (.agg (KY r)))/\(∀(a0:List Fm) r,H8 a0=some r->Y7 KZ 215 [sf KY a0] (sf KY r)):=by
 have h:=Wl.mutual_partial_correctness  (motive_1:=fun a0 r=>Y7 KZ 207 [.agg (KY a0)] (.agg (KY r))) (motive_2:=fun a0 r=>Y7 KZ 215 [sf KY a0] (sf KY r)) (motive_3:=fun a0 X7 YU out=>∀c,Yf Tryz.f215 0=some c->∀(Q:QT) (tt:Sto),(∀(YX:List Fm),out=YX->∀(T:TT) (ss:Sto) (e0v0:AV),T 3=e0v0->Fx tt ss [] [⟨e0v0,26,5,rws KY YX⟩]->Q (.ex 0) ⟨T,ss⟩)->True->∀(T:TT) (ss:Sto) (z0v0:AV),T 3=z0v0/\T 7=sf KY a0/\T 8=i6 (a0.length:Int)/\T 9=i6 YU->Fx tt ss [] [⟨z0v0,26,5,rws KY X7⟩]->aLp KZ c Q ⟨T,ss⟩) ?s0 ?s1 ?s2
 ·exact ⟨h.1,h.2.1⟩
 ·intro H8 C1 a0 r H;intro ss;refine hdh mixed Tryz.func207 (rs:=[.cell 2 26]) fun q tT hF hX=>?_;refine go ?_;refine X8 hF rfl fun b1 ss2 hF=>go ?_;refine X8 hF rfl fun b3 ss4 hF=>go ?_;refine apv (g:=cI) H (fun _=>rfl) (rdo (c:=false) (g:=cI) (fun _=>rfl)) fun x6 H=>go ?_;refine st hF 1 rfl fun ss5 hF=>?_;refine go ?_;refine bp H (C1 a0.kids) fun x10 h H=>cl h (go ?_);refine st hF 1 rfl fun ss6 hF=>?_;refine go ?_;refine st hF 0 rfl fun s7 hF=>?_;refine go ?_;cases pur H;exact rt _
 ·intro Vn L0 a0 r H;intro ss;refine hdh mixed Tryz.func215 (rs:=[.tmp 2]) fun q tT hF hX=>?_;have hF:=hF.lit 26 5 (rws KY []) rfl;refine go ?_;obtain ⟨o6,ho6,H⟩:=bnd H;refine L0 a0 [] 0 _ ho6 _ rfl _ _  ?_ ?_ _ _ (.sl true (rws KY [])) S hF
  ·intro Qg1 he T8 s9 e7v0 tT hF;have he:=he.symm;subst he;refine go ?_;cases pur H;exact rt _
  ·trivial
 ·intro Wl Vn C0 L0 a0 X7 YU out H c hc Q tt  hE hR T ss z0v0 tT hF;refine lpx tt hc rfl fun q hX=>go ?_;refine cdp H (fun h H=>?_) (fun h H=>go ?_)
  ·obtain ⟨x11,f1,H⟩:=bil (g:=KY) Fm.X6 H;refine go1 ?_;refine X8 hF rfl fun b1 ss2 hF=>go ?_;refine st hF 0 rfl fun ss3 hF=>?_;refine go ?_;refine bp H (C0 x11) fun x15 h H=>cl h (go ?_);refine apd (g:=KY) hF 0 H (rdo (c:=true) (g:=KY) Fm.X6) fun x17 H v4 ss5 hF=>go ?_;exact L0 a0 x17 (i64.wrap (YU+1)) _ H _ rfl Q tt  hE hR _ _ v4 S (hF.drop 1 0)
  ·exact wq (hE _ (pur H).symm _ _ z0v0 S hF)
theorem Co:∀(a0:Fm) r,Wl a0=some r->Y7 KZ 207 [.agg (KY a0)] (.agg (KY r)):=Fy.1
theorem Lh:∀(a0:Rul) r,IF a0=some r->Y7 KZ 198 [.agg (Zn a0)] (.agg (Zn r)):=by
 intro a0 r H;intro ss;unfold IF at H;refine hdh mixed Tryz.func198 (rs:=[.cell 2 217]) fun q tT hF hX=>?_;refine go ?_;refine X8 hF rfl fun b1 ss2 hF=>go ?_;refine X8 hF rfl fun b3 ss4 hF=>go ?_;refine bp H (Co a0.pat) fun x5 h H=>cl h (go ?_);refine st hF 1 rfl fun ss5 hF=>?_;refine go ?_;refine bp H (Co a0.tpl) fun x9 h H=>cl h (go ?_);refine st hF 1 rfl fun ss6 hF=>?_;refine go ?_;refine st hF 0 rfl fun s7 hF=>?_;refine go ?_;cases pur H;exact rt _
theorem CH:∀(a0 X7:List Rul) (YU:Int) out,Ve a0 X7 YU=some out->∀c,Yf Tryz.f187 0=some c->∀(Q:QT) (tt:Sto),(∀(YX:List Rul),out=YX->∀(T:TT) (ss:Sto) (e0v0:AV),T 3=e0v0->Fx tt ss [] [⟨e0v0,217,10,rws Zn YX⟩]->Q (.ex 0) ⟨T,ss⟩)->True->∀(T:TT) (ss:Sto) (z0v0:AV),T 3=z0v0/\T 7=sf Zn a0/\T 8=i6 (a0.length:Int)/\T 9=i6 YU->Fx tt ss [] [⟨z0v0,217,10,rws Zn X7⟩]->aLp KZ c Q ⟨T,ss⟩:=by
 intro a0 X7 YU;revert X7 YU;refine Ve.partial_correctness a0 _ ?_;intro Ve IH X7 YU out H c hc Q tt  hE hR T ss z0v0 tT hF;refine lpx tt hc rfl fun q hX=>go ?_;refine cdp H (fun h H=>?_) (fun h H=>go ?_)
 ·obtain ⟨x11,f1,H⟩:=bil (g:=Zn) Rul.X6 H;refine go1 ?_;refine X8 hF rfl fun b1 ss2 hF=>go ?_;refine st hF 0 rfl fun ss3 hF=>?_;refine go ?_;refine bp H (Lh x11) fun x15 h H=>cl h (go ?_);refine apd (g:=Zn) hF 0 H (rdo (c:=true) (g:=Zn) Rul.X6) fun x17 H v4 ss5 hF=>go ?_;exact IH  x17 (i64.wrap (YU+1)) _ H _ rfl Q tt  hE hR _ _ v4 S (hF.drop 1 0)
 ·exact wq (hE _ (pur H).symm _ _ z0v0 S hF)
theorem D2:∀(a0:List Rul) r,G0 a0=some r->Y7 KZ 187 [sf Zn a0] (sf Zn r):=by
 intro a0 r H;intro ss;unfold G0 at H;refine hdh mixed Tryz.func187 (rs:=[.tmp 2]) fun q tT hF hX=>?_;have hF:=hF.lit 217 10 (rws Zn []) rfl;refine go ?_;obtain ⟨o6,ho6,H⟩:=bnd H;refine CH a0 [] 0 _ ho6 _ rfl _ _  ?_ ?_ _ _ (.sl true (rws Zn [])) S hF
 ·intro Qg1 he T8 s9 e7v0 tT hF;have he:=he.symm;subst he;refine go ?_;cases pur H;exact rt _
 ·trivial
theorem E8:∀(a0 a1:Fm) r,G3 a0 a1=some r->Y7 KZ 208 [.agg (KY a0),.agg (KY a1)] (.bool r):=by
 intro a0 a1;revert a0;refine G3.partial_correctness a1 (motive_1:=fun a0 r=>Y7 KZ 208 [.agg (KY a0),.agg (KY a1)] (.bool r)) (motive_2:=fun a0 Yh out=>∀c,Yf Tryz.f208 0=some c->∀(Q:QT) (tt:Sto) (b1 b3:Nat),(∀(_u:Unit),out=Sum.inr ()->∀(T:TT) (ss:Sto),0+0=0->Fx tt ss [(b3,⟨26,5,[i6 a1.kind,.str a1.name,i6 a1.num,sf cI a1.sc,sf KY a1.kids]⟩),(b1,⟨26,5,[i6 a0.kind,.str a0.name,i6 a0.num,sf cI a0.sc,sf KY a0.kids]⟩)] []->Q (.ex 0) ⟨T,ss⟩)->(∀r,out=Sum.inl r->∀s',I6 KZ [.tmp 4] (fun r' ss'=>r'=.bool r/\ss'=tt) s'->Q .ret s')->∀(T:TT) (ss:Sto),T 2=.ptr b1 0/\T 3=.ptr b3 0/\T 5=i6 Yh->Fx tt ss [(b3,⟨26,5,[i6 a1.kind,.str a1.name,i6 a1.num,sf cI a1.sc,sf KY a1.kids]⟩),(b1,⟨26,5,[i6 a0.kind,.str a0.name,i6 a0.num,sf cI a0.sc,sf KY a0.kids]⟩)] []->aLp KZ c Q ⟨T,ss⟩) ?_ ?_
 ·intro JK L0 a0 r H;intro ss;refine hdh mixed Tryz.func208 (rs:=[.tmp 4]) fun q tT hF hX=>?_;refine go ?_;refine X8 hF rfl fun b1 ss2 hF=>go ?_;refine X8 hF rfl fun b3 ss4 hF=>go ?_;obtain ⟨x13,g5,H⟩:=bnd H;refine Yb 3 10 13 (.bool x13) (gi q (fun q=>?_) (fun q=>?_)) (fun J=>go ?_)
  ·rw [if_pos (dt q)] at g5;refine go ?_;obtain ⟨x12,hx12,g5⟩:=bnd g5;refine cl (Hh a0 a1 _ hx12) (go ?_);exact Yq 10 g5
  ·rw [if_neg (df q)] at g5;refine go ?_;exact Yq 10 g5
  refine cdb H (fun h H=>go ?_) (fun h H=>go ?_)
  ·cases pur H;exact rt _
  ·obtain ⟨o7,ho7,H⟩:=bnd H;refine L0 a0 0 _ ho7 _ rfl _ _ b1 b3 ?_ ?_ _ _  S hF
   ·intro _ he T9 s10 tT hF;have he:=he.symm;subst he
    try dsimp only at H
    refine go ?_;cases pur H;exact rt _
   ·intro r hr s' hs;subst hr;cases pur H;exact hsq hs
 ·intro G3 JK C0 L0 a0 Yh out H c hc Q tt b1 b3 hE hR T ss tT hF;refine lpx tt hc rfl fun q hX=>go ?_;refine cdp H (fun h H=>go ?_) (fun h H=>go ?_)
  ·refine Yj E0 [.v,.v,.v,.v,.v,.v,.v] (by kernel_rfl) ?_;obtain ⟨x24,f1,H⟩:=bil (g:=KY) Fm.X6 H;refine go1 ?_;refine bp H (C0 x24) fun x27 h H=>cv h (go ?_);refine cdb H (fun h H=>go ?_) (fun h H=>go ?_)
   ·exact wq (hR _ (pur H).symm _ (rt _))
   ·exact L0 a0 (i64.wrap (Yh+1)) _ H _ rfl Q tt b1 b3 hE hR _ _  S hF
  ·exact wq (hE () (pur H).symm _ _  S hF)
theorem Lj:∀(a0:Fm) (a1:List Hit) (Yh Yy:Int) out,Wp a0 a1 Yh Yy=some out->∀c,Yf Tryz.f201 0=some c->∀(Q:QT) (tt:Sto) (b1:Nat),(∀(Tl:Int),out=Sum.inr Tl->∀(T:TT) (ss:Sto),T 5=i6 Tl->Fx tt ss [(b1,⟨26,5,[i6 a0.kind,.str a0.name,i6 a0.num,sf cI a0.sc,sf KY a0.kids]⟩)] []->Q (.ex 0) ⟨T,ss⟩)->(∀r,out=Sum.inl r->∀s',I6 KZ [.tmp 4] (fun r' ss'=>r'=i6 r/\ss'=tt) s'->Q .ret s')->∀(T:TT) (ss:Sto),T 1=sf K4 a1/\T 2=.ptr b1 0/\T 5=i6 Yh/\T 6=i6 Yy->Fx tt ss [(b1,⟨26,5,[i6 a0.kind,.str a0.name,i6 a0.num,sf cI a0.sc,sf KY a0.kids]⟩)] []->aLp KZ c Q ⟨T,ss⟩:=by
 intro a0 a1 Yh Yy;revert Yh Yy;refine Wp.partial_correctness a0 a1 _ ?_;intro Wp IH Yh Yy out H c hc Q tt b1 hE hR T ss tT hF;refine lpx tt hc rfl fun q hX=>go ?_;refine cdp H (fun h H=>go ?_) (fun h H=>go ?_)
 ·refine Yj E0 [.v,.v,.v,.v,.v,.v,.v,.v,.v,.v,.v,.v,.v,.v,.v,.v] (by kernel_rfl) ?_;obtain ⟨x15,f1,H⟩:=bil (g:=K4) Hit.X6 H;refine go1 ?_;obtain ⟨x28,g3,H⟩:=bnd H;refine V5 8 20 28 (.bool x28) (tiN q (fun q=>?_) (fun q=>?_)) (fun J=>go ?_)
  ·rw [if_neg (df q)] at g3;obtain ⟨x23,f1,g3⟩:=bil (g:=K4) Hit.X6 g3;refine go1 ?_;obtain ⟨x26,hx26,g3⟩:=bnd g3;refine cv (E8 a0 x23.name _ hx26) (go ?_);exact Yq 20 g3
  ·rw [if_pos (dt q)] at g3;refine go ?_;exact Yq 20 g3
  refine cdb H (fun h H=>go ?_) (fun h H=>go ?_)
  ·exact IH  Yh (i64.wrap (Yy+1)) _ H _ rfl Q tt b1 hE hR _ _  S hF
  ·obtain ⟨x40,g5,H⟩:=bnd H;refine Yb 8 32 40 (.bool x40) (gi q (fun q=>?_) (fun q=>?_)) (fun J=>go ?_)
   ·rw [if_pos (dt q)] at g5;obtain ⟨x35,f1,g5⟩:=bil (g:=K4) Hit.X6 g5;refine go1 ?_;refine go ?_;exact Yq 32 g5
   ·rw [if_neg (df q)] at g5;refine go ?_;exact Yq 32 g5
   refine cdb H (fun h H=>go ?_) (fun h H=>?_)
   ·exact wq (hR _ (pur H).symm _ (rt _))
   ·obtain ⟨x43,f1,H⟩:=bil (g:=K4) Hit.X6 H;refine go1 ?_;refine go ?_;exact IH  (x43.many.length:Int) (i64.wrap (Yy+1)) _ H _ rfl Q tt b1 hE hR _ _  S hF
 ·exact wq (hE _ (pur H).symm _ _  S hF)
theorem OE:∀(a0:Fm) (a1:List Hit) r,Ar a0 a1=some r->Y7 KZ 201 [.agg (KY a0),sf K4 a1] (i6 r):=by
 intro a0 a1 r H;intro ss;unfold Ar at H;refine hdh mixed Tryz.func201 (rs:=[.tmp 4]) fun q tT hF hX=>?_;refine go ?_;refine X8 hF rfl fun b1 ss2 hF=>go ?_;obtain ⟨o7,ho7,H⟩:=bnd H;refine Lj a0 a1 (-1) 0 _ ho7 _ rfl _ _ b1 ?_ ?_ _ _  S hF
 ·intro Qnz he T9 s10 tT hF;have he:=he.symm;subst he
  try dsimp only at H
  refine go ?_;cases pur H;exact rt _
 ·intro r hr s' hs;subst hr;cases pur H;exact hsq hs
theorem Nb:∀(a0:Fm) (a1:List Hit) (a2:Int) (X7:List Hit) (YK:Int) out,Gi a0 a1 a2 X7 YK=some out->∀c,Yf Tryz.f202 0=some c->∀(Q:QT) (tt:Sto) (b1:Nat),(∀(YX:List Hit),out=YX->∀(T:TT) (ss:Sto) (e0v0:AV),T 7=e0v0->Fx tt ss [(b1,⟨26,5,[i6 a0.kind,.str a0.name,i6 a0.num,sf cI a0.sc,sf KY a0.kids]⟩)] [⟨e0v0,236,12,rws K4 YX⟩]->Q (.ex 0) ⟨T,ss⟩)->True->∀(T:TT) (ss:Sto) (z0v0:AV),T 1=sf K4 a1/\T 2=i6 a2/\T 3=.ptr b1 0/\T 7=z0v0/\T 8=i6 YK->Fx tt ss [(b1,⟨26,5,[i6 a0.kind,.str a0.name,i6 a0.num,sf cI a0.sc,sf KY a0.kids]⟩)] [⟨z0v0,236,12,rws K4 X7⟩]->aLp KZ c Q ⟨T,ss⟩:=by
 intro a0 a1 a2 X7 YK;revert X7 YK;refine Gi.partial_correctness a0 a1 a2 _ ?_;intro Gi IH X7 YK out H c hc Q tt b1 hE hR T ss z0v0 tT hF;refine lpx tt hc rfl fun q hX=>go ?_;refine cdp H (fun h H=>?_) (fun h H=>go ?_)
 ·obtain ⟨x19,f1,H⟩:=bil (g:=K4) Hit.X6 H;refine go1 ?_;refine X8 hF rfl fun b3 ss4 hF=>go ?_;refine st hF 0 rfl fun ss5 hF=>?_;refine go ?_;obtain ⟨x29,g6,H⟩:=bnd H;refine Yb 4 25 29 (.bool x29) (gi q (fun q=>?_) (fun q=>?_)) (fun J=>go ?_)
  ·rw [if_pos (dt q)] at g6;refine go ?_;obtain ⟨x28,hx28,g6⟩:=bnd g6;refine cl (E8 a0 x19.name _ hx28) (go ?_);exact Yq 25 g6
  ·rw [if_neg (df q)] at g6;refine go ?_;exact Yq 25 g6
  obtain ⟨⟨O2,O3,Lw,Lx,O4,O5,O6,O7,O8,O9,Pf,Pg⟩,j9,H⟩:=bnd H;refine V6 (fun s'=>∃(T:TT) (ss1:Sto),s'=⟨T,ss1⟩/\(T 1=sf K4 a1/\T 2=i6 a2/\T 3=.ptr b1 0/\T 7=z0v0/\T 8=i6 YK/\T 9=.ptr b3 0)/\Fx tt ss1 [(b3,⟨236,12,[i6 O2,.str O3,i6 O4,sf cI O5,sf KY O6,i6 O7,i6 O8,.str O9,i6 Pf,sf cI Pg,sf KY Lw,sf K4 Lx]⟩),(b1,⟨26,5,[i6 a0.kind,.str a0.name,i6 a0.num,sf cI a0.sc,sf KY a0.kids]⟩)] [⟨z0v0,236,12,rws K4 X7⟩]) (cdb j9 (fun h j9=>?_) (fun h j9=>go ?_)) ?_
  ·obtain ⟨x33,f1,j9⟩:=bil (g:=K4) Hit.X6 j9;refine go1 ?_;refine st hF 0 rfl fun s10 hF=>?_;refine go ?_;cases pur j9;exact ⟨_,_,rfl,S,hF⟩
  ·cases pur j9;exact ⟨_,_,rfl,S,hF⟩
  ·rintro s' ⟨T11,s12,rfl,tT,hF⟩;refine go ?_;refine apd (g:=K4) hF 0 H (rdo (c:=true) (g:=K4) Hit.X6) fun x38 H v14 s15 hF=>go ?_;exact IH  x38 (i64.wrap (YK+1)) _ H _ rfl Q tt b1 hE hR _ _ v14 S (hF.drop 1 0)
 ·exact wq (hE _ (pur H).symm _ _ z0v0 S hF)
theorem SF:∀(a0:Fm) (a1:List Hit) (a2:Int) r,BF a0 a1 a2=some r->Y7 KZ 202 [.agg (KY a0),sf K4 a1,i6 a2] (sf K4 r):=by
 intro a0 a1 a2 r H;intro ss;unfold BF at H;refine hdh mixed Tryz.func202 (rs:=[.tmp 6]) fun q tT hF hX=>?_;refine go ?_;refine X8 hF rfl fun b1 ss2 hF=>?_;have hF:=hF.lit 236 12 (rws K4 []) rfl;refine go ?_;obtain ⟨o16,ho16,H⟩:=bnd H;refine Nb a0 a1 a2 [] 0 _ ho16 _ rfl _ _ b1 ?_ ?_ _ _ (.sl true (rws K4 [])) S hF
 ·intro Tn he T18 s19 e17v0 tT hF;have he:=he.symm;subst he;refine go ?_;cases pur H;exact rt _
 ·trivial
theorem PO:∀(a0:Fm) (a1:List Hit) r,Am a0 a1=some r->Y7 KZ 188 [.agg (KY a0),sf K4 a1] (.tup [.agg (KY r.1),.bool r.2]):=by
 refine Am.partial_correctness _ (motive_2:=fun a0 a1 x45 X7 YK YU out=>∀c,Yf Tryz.f188 0=some c->∀(Q:QT) (tt:Sto) (b1 b3 b12:Nat),(∀(YX:List Fm),out=Sum.inr YX->∀(T:TT) (ss:Sto) (e0v0:AV),T 4=.ptr b3 0/\T 7=.ptr b12 0->Fx tt ss [(b12,⟨26,5,[i6 a0.kind,.str a0.name,i6 a0.num,sf cI x45,e0v0]⟩),(b3,⟨26,5,[i6 0,.str zB,i6 0,.X4,.X4]⟩),(b1,⟨26,5,[i6 a0.kind,.str a0.name,i6 a0.num,sf cI a0.sc,sf KY a0.kids]⟩)] [⟨e0v0,26,5,rws KY YX⟩]->Q (.ex 0) ⟨T,ss⟩)->(∀r,out=Sum.inl r->∀s',I6 KZ [.cell 4 26,.tmp 5] (fun r' ss'=>r'=.tup [.agg (KY r.1),.bool r.2]/\ss'=tt) s'->Q .ret s')->∀(T:TT) (ss:Sto) (z0v0:AV),T 1=sf K4 a1/\T 2=.ptr b1 0/\T 4=.ptr b3 0/\T 7=.ptr b12 0/\T 8=i6 YK/\T 9=i6 YU->Fx tt ss [(b12,⟨26,5,[i6 a0.kind,.str a0.name,i6 a0.num,sf cI x45,z0v0]⟩),(b3,⟨26,5,[i6 0,.str zB,i6 0,.X4,.X4]⟩),(b1,⟨26,5,[i6 a0.kind,.str a0.name,i6 a0.num,sf cI a0.sc,sf KY a0.kids]⟩)] [⟨z0v0,26,5,rws KY X7⟩]->aLp KZ c Q ⟨T,ss⟩) (motive_3:=fun a0 a1 x45 YU x74 I4 VZ Im Ja out=>∀c,Yf Tryz.f188 1=some c->∀(Q:QT) (tt:Sto) (b1 b3 b12:Nat),(∀(N1:List Fm) (Qgy:Int),out=Sum.inr (N1,Qgy)->∀(T:TT) (ss:Sto) (e1v0:AV),T 1=sf K4 a1/\T 2=.ptr b1 0/\T 4=.ptr b3 0/\T 7=.ptr b12 0/\T 8=i6 Qgy/\T 9=i6 YU->Fx tt ss [(b12,⟨26,5,[i6 a0.kind,.str a0.name,i6 a0.num,sf cI x45,e1v0]⟩),(b3,⟨26,5,[i6 0,.str zB,i6 0,.X4,.X4]⟩),(b1,⟨26,5,[i6 a0.kind,.str a0.name,i6 a0.num,sf cI a0.sc,sf KY a0.kids]⟩)] [⟨e1v0,26,5,rws KY N1⟩]->Q (.ex 2) ⟨T,ss⟩)->(∀r,out=Sum.inl r->∀s',I6 KZ [.cell 4 26,.tmp 5] (fun r' ss'=>r'=.tup [.agg (KY r.1),.bool r.2]/\ss'=tt) s'->Q .ret s')->∀(T:TT) (ss:Sto) (z1v0:AV),T 1=sf K4 a1/\T 2=.ptr b1 0/\T 4=.ptr b3 0/\T 7=.ptr b12 0/\T 8=i6 Ja/\T 9=i6 YU/\T 10=i6 I4/\T 11=.bool x74/\T 12=i6 Im->Fx tt ss [(b12,⟨26,5,[i6 a0.kind,.str a0.name,i6 a0.num,sf cI x45,z1v0]⟩),(b3,⟨26,5,[i6 0,.str zB,i6 0,.X4,.X4]⟩),(b1,⟨26,5,[i6 a0.kind,.str a0.name,i6 a0.num,sf cI a0.sc,sf KY a0.kids]⟩)] [⟨z1v0,26,5,rws KY VZ⟩]->aLp KZ c Q ⟨T,ss⟩) ?_ ?_ ?_
 ·intro WR L1 a0 a1 r H;intro ss;refine hdh mixed Tryz.func188 (rs:=[.cell 4 26,.tmp 5]) fun q tT hF hX=>?_;refine go ?_;refine X8 hF rfl fun b1 ss2 hF=>go ?_;refine X8 hF rfl fun b3 ss4 hF=>go ?_;obtain ⟨Qio,j6,H⟩:=bnd H;refine V6 (fun s'=>∃(T:TT) (ss1:Sto),s'=⟨T,ss1⟩/\(T 1=sf K4 a1/\T 2=.ptr b1 0/\T 4=.ptr b3 0/\T 6=i6 Qio)/\Fx ss ss1 [(b3,⟨26,5,[i6 0,.str zB,i6 0,.X4,.X4]⟩),(b1,⟨26,5,[i6 a0.kind,.str a0.name,i6 a0.num,sf cI a0.sc,sf KY a0.kids]⟩)] []) (cdp j6 (fun h j6=>go ?_) (fun h j6=>go ?_)) ?_
  ·obtain ⟨x21,hx21,j6⟩:=bnd j6;refine cl (E7 a1 a0 _ hx21) (go ?_);cases pur j6;exact ⟨_,_,rfl,S,hF⟩
  ·cases pur j6;exact ⟨_,_,rfl,S,hF⟩
  ·rintro s' ⟨T7,s8,rfl,tT,hF⟩;refine go ?_;refine cdp H (fun h H=>go ?_) (fun h H=>go ?_)
   ·obtain ⟨E,hEq⟩:∃E,E=EE s8 [b3]:=⟨_,rfl⟩
    have n10:¬E b1:=by rw [hEq];exact K5 (hF.at 1 rfl) (nm1 (neL hF 1 0 rfl rfl (by decide)))
    refine Yj E [.v,.v,.v,.v,.v,.v,.v,.v,.v,.v,.v,.v,.x,.v] (by kernel_rfl) ?_;obtain ⟨x26,f1,H⟩:=bil (g:=K4) Hit.X6 H;have z:=X9 (hF.at 1 rfl) n10;refine gh1 ?_;refine bp H (It x26.one) fun x29 h H=>cv h ?_;obtain ⟨x32,f1,H⟩:=bil (g:=K4) Hit.X6 H;have z:=X9 (hF.at 1 rfl) n10;refine gh1 ?_;refine stK hF 0 (by rw [hEq];exact Zd (by simp)) rfl fun s11 hF=>?_;have z:=X9 (hF.at 1 rfl) n10;refine gh ?_;refine go ?_;cases pur H;exact rt [.agg [i6 x29.kind,.str x29.name,i6 x29.num,sf cI x29.sc,sf KY x29.kids],.bool (decide (x32.depth=0))]
   ·refine Yj E0 [.v,.v,.v,.v,.v,.v,.v,.v,.v,.v,.v,.x,.z] (by kernel_rfl) (go ?_);obtain ⟨x45,hx45,H⟩:=bnd H;refine RG (g:=cI) (xs:=[]) (ys:=a0.sc) (fun _=>rfl) (by decide) (by decide) (.inr (by first | rfl | simp only [Vj,V7,cI,cU,cS,cL])) (.inr ⟨_,by first | rfl | simp only [Vj,V7,cI,cU,cS,cL]⟩) hx45 (go ?_);refine J8 hF rfl fun b12 s13 hF=>go ?_;refine st hF 0 rfl fun s14 hF=>?_;have hF:=hF.nil 26 5;refine go ?_;obtain ⟨o42,ho42,H⟩:=bnd H;refine L1 a0 a1 x45 [] 0 0 _ ho42 _ rfl _ _ b1 b3 b12 ?_ ?_ _ _ .X4 S hF
    ·intro Qba he T44 s45 e43v0 tT hF;have he:=he.symm;subst he
     try dsimp only at H
     refine go ?_;refine st hF 1 rfl fun s47 hF=>?_;refine go ?_;cases pur H;exact rt _
    ·intro r hr s' hs;subst hr;cases pur H;exact hsq hs
 ·intro WR WS L1 L0 a0 a1 x45 X7 YK YU out H c hc Q tt b1 b3 b12 hE hR T ss z0v0 tT hF;refine lpx tt hc rfl fun q hX=>go ?_;refine cdp H (fun h H=>?_) (fun h H=>go ?_)
  ·obtain ⟨x57,f1,H⟩:=bil (g:=KY) Fm.X6 H;refine go1 ?_;refine bp H (VF x57) fun x59 h H=>cl h (go ?_);refine cdb H (fun h H=>go ?_) (fun h H=>go ?_)
   ·exact L1 a0 a1 x45 X7 YK (i64.wrap (YU+1)) _ H _ rfl Q tt b1 b3 b12 hE hR _ _ z0v0 S hF
   ·obtain ⟨x74,g15,H⟩:=bnd H;refine Yb 7 67 74 (.bool x74) (gi q (fun q=>?_) (fun q=>?_)) (fun J=>go ?_)
    ·rw [if_pos (dt q)] at g15;obtain ⟨x71,f1,g15⟩:=bil (g:=KY) Fm.X6 g15;refine go1 ?_;obtain ⟨x73,hx73,g15⟩:=bnd g15;refine cl (VF x71 _ hx73) (go ?_);exact Yq 67 g15
    ·rw [if_neg (df q)] at g15;refine go ?_;exact Yq 67 g15
    obtain ⟨I4,j18,H⟩:=bnd H;refine V6 (fun s'=>∃(T:TT) (ss1:Sto),s'=⟨T,ss1⟩/\(T 1=sf K4 a1/\T 2=.ptr b1 0/\T 4=.ptr b3 0/\T 7=.ptr b12 0/\T 8=i6 YK/\T 9=i6 YU/\T 10=i6 I4/\T 11=.bool x74)/\Fx tt ss1 [(b12,⟨26,5,[i6 a0.kind,.str a0.name,i6 a0.num,sf cI x45,z0v0]⟩),(b3,⟨26,5,[i6 0,.str zB,i6 0,.X4,.X4]⟩),(b1,⟨26,5,[i6 a0.kind,.str a0.name,i6 a0.num,sf cI a0.sc,sf KY a0.kids]⟩)] [⟨z0v0,26,5,rws KY X7⟩]) (cdb j18 (fun h j18=>?_) (fun h j18=>go ?_)) ?_
    ·obtain ⟨x79,f1,j18⟩:=bil (g:=KY) Fm.X6 j18;refine go1 ?_;obtain ⟨x82,hx82,j18⟩:=bnd j18;refine cl (OE x79 a1 _ hx82) (go ?_);cases pur j18;exact ⟨_,_,rfl,S,hF⟩
    ·cases pur j18;exact ⟨_,_,rfl,S,hF⟩
    ·rintro s' ⟨T19,s20,rfl,tT,hF⟩;refine go ?_;refine cdp H (fun h H=>go ?_) (fun h H=>go ?_)
     ·refine st hF 1 rfl fun s22 hF=>?_;refine go ?_;exact wq (hR _ (pur H).symm _ (rt _))
     ·obtain ⟨o37,ho37,H⟩:=bnd H;refine L0 a0 a1 x45 YU x74 I4 X7 0 YK _ ho37 _ rfl _ _ b1 b3 b12 ?_ ?_ _ _ z0v0 S hF
      ·intro E1 N3 he T39 s40 e38v0 tT hF;have he:=he.symm;subst he
       try dsimp only at H
       refine go ?_;exact L1 a0 a1 x45 E1 N3 (i64.wrap (YU+1)) _ H _ rfl Q tt b1 b3 b12 hE hR _ _ e38v0 S hF
      ·intro r hr s' hs;subst hr;exact wq (hR _ (pur H).symm _ hs)
  ·exact wq (hE _ (pur H).symm _ _ z0v0 S hF)
 ·intro Am WS C0 L0 a0 a1 x45 YU x74 I4 VZ Im Ja out H c hc Q tt b1 b3 b12 hE hR T ss z1v0 tT hF;refine lpx tt hc rfl fun q hX=>go ?_;refine cdp H (fun h H=>go ?_) (fun h H=>go ?_)
  ·obtain ⟨SN,j24,H⟩:=bnd H;refine V6 (fun s'=>∃(T:TT) (ss1:Sto),s'=⟨T,ss1⟩/\(T 1=sf K4 a1/\T 2=.ptr b1 0/\T 4=.ptr b3 0/\T 7=.ptr b12 0/\T 8=i6 Ja/\T 9=i6 YU/\T 10=i6 I4/\T 11=.bool x74/\T 12=i6 Im/\T 13=sf K4 SN)/\Fx tt ss1 [(b12,⟨26,5,[i6 a0.kind,.str a0.name,i6 a0.num,sf cI x45,z1v0]⟩),(b3,⟨26,5,[i6 0,.str zB,i6 0,.X4,.X4]⟩),(b1,⟨26,5,[i6 a0.kind,.str a0.name,i6 a0.num,sf cI a0.sc,sf KY a0.kids]⟩)] [⟨z1v0,26,5,rws KY VZ⟩]) (cdb j24 (fun h j24=>?_) (fun h j24=>go ?_)) ?_
   ·obtain ⟨x96,f1,j24⟩:=bil (g:=KY) Fm.X6 j24;refine go1 ?_;obtain ⟨x100,hx100,j24⟩:=bnd j24;refine cl (SF x96 a1 Im _ hx100) (go ?_);cases pur j24;exact ⟨_,_,rfl,S,hF⟩
   ·cases pur j24;exact ⟨_,_,rfl,S,hF⟩
   ·rintro s' ⟨T25,s26,rfl,tT,hF⟩;obtain ⟨x105,f1,H⟩:=bil (g:=KY) Fm.X6 H;refine go1 ?_;refine bp H (C0 x105 SN) fun x108 h H=>cl h (go ?_);refine X8 hF rfl fun b28 s29 hF=>go ?_;refine st hF 0 rfl fun s30 hF=>?_;refine go ?_;refine bp H (Em x108.1) fun x113 h H=>cl h (go ?_);obtain ⟨x120,g31,H⟩:=bnd H;refine Yb 2 118 120 (.bool x120) (giN q (fun q=>go ?_) (fun q=>go ?_)) (fun J=>go ?_)
    ·exact Yq 118 g31
    ·exact Yq 118 g31
    refine cdb H (fun h H=>go ?_) (fun h H=>go ?_)
    ·refine st hF 2 rfl fun s33 hF=>?_;refine go ?_;exact wq (hR _ (pur H).symm _ (rt _))
    ·refine apd (g:=KY) hF 0 H (rdo (c:=true) (g:=KY) Fm.X6) fun x126 H v34 s35 hF=>go ?_;refine st hF 1 (hF.cells 0 rfl) fun s36 hF=>?_;refine go ?_;exact L0 a0 a1 x45 YU x74 I4 x126 (i64.wrap (Im+1)) (i64.wrap (Ja+x113)) _ H _ rfl Q tt b1 b3 b12 hE hR _ _ v34 S (hF.drop 1 0)
  ·exact wq (hE _ _ (pur H).symm _ _ z1v0 S hF)
theorem Ld:∀(a0:List Bnd) (a1:List Rul) (a2:List Fm) (a3:Fm) r,ID a0 a1 a2 a3=some r->Y7 KZ 169 [sf K0 a0,sf Zn a1,sf KY a2,.agg (KY a3)] (.tup [.agg (KY r.1),.bool r.2]):=by
 intro a0 a1 a2 a3 r H;intro ss;unfold ID at H;refine hdh mixed Tryz.func169 (rs:=[.cell 8 26,.tmp 9]) fun q tT hF hX=>?_;refine go ?_;refine X8 hF rfl fun b1 ss2 hF=>go ?_;refine X8 hF rfl fun b3 ss4 hF=>go ?_;refine bp H (D2 a1) fun x17 h H=>cl h (go ?_);refine bp H (C7 a0 x17 a2 a3) fun x23 h H=>cl h (go ?_);refine cdb H (fun h H=>go ?_) (fun h H=>go ?_)
 ·refine st hF 0 rfl fun ss5 hF=>?_;refine go ?_;cases pur H;exact rt _
 ·refine Yj E0 [.v,.v,.v,.v,.v,.v,.v,.v,.v,.v,.v,.v,.v,.v] (by kernel_rfl) ?_;obtain ⟨x33,f1,H⟩:=bil (g:=Zn) Rul.X6 H;refine go1 ?_;refine bp H (Er a0 x33.pat a2 a3) fun x38 h H=>cv h ?_;obtain ⟨x44,f1,H⟩:=bil (g:=Zn) Rul.X6 H;refine go1 ?_;refine bp H (PO x44.tpl x38.1) fun x48 h H=>cl h (go ?_);refine X8 hF rfl fun b6 s7 hF=>go ?_;refine st hF 0 rfl fun s8 hF=>?_;refine go ?_;obtain ⟨x57,g9,H⟩:=bnd H;refine Yb 3 54 57 (.bool x57) (giN q (fun q=>?_) (fun q=>?_)) (fun J=>go ?_)
  ·rw [if_neg (dbf q)] at g9;refine go ?_;obtain ⟨x55,hx55,g9⟩:=bnd g9;refine cl (YW x48.1 _ hx55) (go ?_);exact Yq 54 g9
  ·rw [if_pos (dbt q)] at g9;refine go ?_;exact Yq 54 g9
  refine cdb H (fun h H=>go ?_) (fun h H=>go ?_)
  ·refine st hF 1 rfl fun s11 hF=>?_;refine go ?_;cases pur H;exact rt _
  ·refine st hF 1 rfl fun s12 hF=>?_;refine go ?_;cases pur H;exact rt _
theorem P1:∀(a0:Xpn) (a1:Fm) (a2 a3:Int) r,B4 a0 a1 a2 a3=some r->Y7 KZ 143 [.agg (K6 a0),.agg (KY a1),i6 a2,i6 a3] (.tup [.agg (K6 r.1),.agg (KY r.2.1),i6 r.2.2]):=by
 intro a0 a1 a2 a3 r H;intro ss;unfold B4 at H;refine hdh mixed Tryz.func143 (rs:=[.cell 8 94,.cell 9 26,.tmp 10]) fun q tT hF hX=>?_;refine go ?_;refine X8 hF rfl fun b1 ss2 hF=>go ?_;refine X8 hF rfl fun b3 ss4 hF=>go ?_;refine X8 hF rfl fun b5 ss6 hF=>go ?_;refine X8 hF rfl fun b7 s8 hF=>go ?_;refine cdp H (fun h H=>go ?_) (fun h H=>go ?_)
 ·refine st hF 1 rfl fun s9 hF=>?_;refine go ?_;refine st hF 0 rfl fun s10 hF=>?_;refine go ?_;cases pur H;exact rt _
 ·refine bp H (B3 a0) fun x27 h H=>cl h (go ?_);refine st hF 3 rfl fun s11 hF=>?_;refine go ?_;refine cdb H (fun h H=>go ?_) (fun h H=>go ?_)
  ·refine st hF 1 rfl fun s12 hF=>?_;refine go ?_;refine st hF 0 rfl fun s13 hF=>?_;refine go ?_;cases pur H;exact rt _
  ·refine st hF 3 rfl fun s14 hF=>?_;refine go ?_;refine Yj E0 [.v,.v,.v,.v,.v,.v,.v,.x,.z] (by kernel_rfl) (go ?_);obtain ⟨x42,hx42,H⟩:=bnd H;refine cv (Eu (KU x27.1.binds x27.1.macs x27.1.scope x27.1.id (i64.wrap (x27.1.steps+1))) a2 _ hx42) ?_;obtain ⟨x43,f1,H⟩:=bil (g:=K9) Mac.X6 H;refine go1 ?_;refine J8 hF rfl fun b15 s16 hF=>go ?_;refine st hF 0 rfl fun s17 hF=>?_;refine go ?_;refine bp H (J1 a1 x27.1.scope 1) fun x48 h H=>cl h (go ?_);refine X8 hF rfl fun b18 s19 hF=>go ?_;refine st hF 0 rfl fun s20 hF=>?_;refine go ?_;refine bp H (YW x48) fun x50 h H=>cl h (go ?_);refine cdb H (fun h H=>go ?_) (fun h H=>go ?_)
   ·refine st hF 3 rfl fun s21 hF=>?_;refine go ?_;refine st hF 2 rfl fun s22 hF=>?_;refine go ?_;cases pur H;exact rt _
   ·refine bp H (C7 x27.1.binds x43.rules x43.lits x48) fun x62 h H=>cl h (go ?_);refine cdb H (fun h H=>go ?_) (fun h H=>go ?_)
    ·refine st hF 3 rfl fun s23 hF=>?_;refine go ?_;refine st hF 2 rfl fun s24 hF=>?_;refine go ?_;cases pur H;exact rt _
    ·refine bp H (Ld x27.1.binds x43.rules x43.lits x48) fun x77 h H=>cl h (go ?_);refine X8 hF rfl fun b25 s26 hF=>go ?_;refine st hF 0 rfl fun s27 hF=>?_;refine go ?_;refine cdb H (fun h H=>go ?_) (fun h H=>go ?_)
     ·refine st hF 4 rfl fun s28 hF=>?_;refine go ?_;refine st hF 3 rfl fun s29 hF=>?_;refine go ?_;cases pur H;exact rt _
     ·refine bp H (J1 x77.1 x27.1.scope 1) fun x87 h H=>cl h (go ?_);refine X8 hF rfl fun b30 s31 hF=>go ?_;refine st hF 0 rfl fun s32 hF=>?_;refine go ?_;refine bp H (YW x87) fun x89 h H=>cl h (go ?_);refine cdb H (fun h H=>go ?_) (fun h H=>go ?_)
      ·refine st hF 5 rfl fun s33 hF=>?_;refine go ?_;refine st hF 4 rfl fun s34 hF=>?_;refine go ?_;cases pur H;exact rt _
      ·obtain ⟨E,hEq⟩:∃E,E=EE s32 [b5,b7]:=⟨_,rfl⟩
       have n35:¬E b30:=by rw [hEq];exact K5 (hF.at 0 rfl) (nm2 ⟨neL hF 0 5 rfl rfl (by decide),neL hF 0 4 rfl rfl (by decide)⟩)
       have n36:¬E b25:=by rw [hEq];exact K5 (hF.at 1 rfl) (nm2 ⟨neL hF 1 5 rfl rfl (by decide),neL hF 1 4 rfl rfl (by decide)⟩)
       have n37:¬E b18:=by rw [hEq];exact K5 (hF.at 2 rfl) (nm2 ⟨neL hF 2 5 rfl rfl (by decide),neL hF 2 4 rfl rfl (by decide)⟩)
       have n38:¬E b15:=by rw [hEq];exact K5 (hF.at 3 rfl) (nm2 ⟨neL hF 3 5 rfl rfl (by decide),neL hF 3 4 rfl rfl (by decide)⟩)
       have n39:¬E b3:=by rw [hEq];exact K5 (hF.at 6 rfl) (nm2 ⟨neL hF 6 5 rfl rfl (by decide),neL hF 6 4 rfl rfl (by decide)⟩)
       have n40:¬E b1:=by rw [hEq];exact K5 (hF.at 7 rfl) (nm2 ⟨neL hF 7 5 rfl rfl (by decide),neL hF 7 4 rfl rfl (by decide)⟩)
       refine Yj E [.v,.v,.x,.x,.v] (by kernel_rfl) ?_;have z:=K3 (X9 (hF.at 0 rfl) n35) (K3 (X9 (hF.at 1 rfl) n36) (K3 (X9 (hF.at 2 rfl) n37) (K3 (X9 (hF.at 3 rfl) n38) (K3 (X9 (hF.at 6 rfl) n39) (X9 (hF.at 7 rfl) n40)))));refine gh ?_;refine stK hF 5 (by rw [hEq];exact Zd (by simp)) rfl fun s41 hF=>?_;have z:=K3 (X9 (hF.at 0 rfl) n35) (K3 (X9 (hF.at 1 rfl) n36) (K3 (X9 (hF.at 2 rfl) n37) (K3 (X9 (hF.at 3 rfl) n38) (K3 (X9 (hF.at 6 rfl) n39) (X9 (hF.at 7 rfl) n40)))));refine gh ?_;refine stK hF 4 (by rw [hEq];exact Zd (by simp)) rfl fun s42 hF=>?_;have z:=K3 (X9 (hF.at 0 rfl) n35) (K3 (X9 (hF.at 1 rfl) n36) (K3 (X9 (hF.at 2 rfl) n37) (K3 (X9 (hF.at 3 rfl) n38) (K3 (X9 (hF.at 6 rfl) n39) (X9 (hF.at 7 rfl) n40)))));refine gh ?_;refine go ?_;cases pur H;exact rt [.agg [sf K0 x27.1.binds,sf K9 x27.1.macs,i6 x27.1.scope,i6 x27.1.id,i6 (i64.wrap (x27.1.steps+1))],.agg [i6 x87.kind,.str x87.name,i6 x87.num,sf cI x87.sc,sf KY x87.kids],i6 0]
theorem Ni:∀(a1:List Fm) (a2:Fm) (a3:Int) (YE:List Bnd) (YF:List Mac) (Yv YG YH:Int) (X7:List Int) (VW:Int) out,Gj a1 a2 a3 YE YF Yv YG YH X7 VW=some out->∀c,Yf Tryz.f140 0=some c->∀(Q:QT) (tt:Sto) (b1 b3 b5 b7 b12:Nat),(∀(D5:List Bnd) (D6:List Mac) (D7 D8 D9:Int) (YX:List Int),out=Sum.inr (D5,D6,D7,D8,D9,YX)->∀(T:TT) (ss:Sto) (e0v0:AV),T 3=i6 a3/\T 4=.ptr b1 0/\T 6=.ptr b3 0/\T 8=.ptr b5 0/\T 9=.ptr b7 0/\T 12=.ptr b12 0->Fx tt ss [(b12,⟨31,11,[i6 5,i6 0,.str zB,i6 0,e0v0,i6 0,.str zB,i6 0,.X4,.X4,.X4]⟩),(b7,⟨31,11,[i6 0,i6 0,.str zB,i6 0,.X4,i6 0,.str zB,i6 0,.X4,.X4,.X4]⟩),(b5,⟨94,5,[.X4,.X4,i6 0,i6 0,i6 0]⟩),(b3,⟨26,5,[i6 a2.kind,.str a2.name,i6 a2.num,sf cI a2.sc,sf KY a2.kids]⟩),(b1,⟨94,5,[sf K0 D5,sf K9 D6,i6 D7,i6 D8,i6 D9]⟩)] [⟨e0v0,3,1,rws cI YX⟩]->Q (.ex 0) ⟨T,ss⟩)->(∀r,out=Sum.inl r->∀s',I6 KZ [.cell 8 94,.cell 9 31,.tmp 10] (fun r' ss'=>r'=.tup [.agg (K6 r.1),.agg (K2 r.2.1),i6 r.2.2]/\ss'=tt) s'->Q .ret s')->∀(T:TT) (ss:Sto) (z0v0:AV),T 1=sf KY a1/\T 3=i6 a3/\T 4=.ptr b1 0/\T 6=.ptr b3 0/\T 8=.ptr b5 0/\T 9=.ptr b7 0/\T 12=.ptr b12 0/\T 13=i6 VW->Fx tt ss [(b12,⟨31,11,[i6 5,i6 0,.str zB,i6 0,z0v0,i6 0,.str zB,i6 0,.X4,.X4,.X4]⟩),(b7,⟨31,11,[i6 0,i6 0,.str zB,i6 0,.X4,i6 0,.str zB,i6 0,.X4,.X4,.X4]⟩),(b5,⟨94,5,[.X4,.X4,i6 0,i6 0,i6 0]⟩),(b3,⟨26,5,[i6 a2.kind,.str a2.name,i6 a2.num,sf cI a2.sc,sf KY a2.kids]⟩),(b1,⟨94,5,[sf K0 YE,sf K9 YF,i6 Yv,i6 YG,i6 YH]⟩)] [⟨z0v0,3,1,rws cI X7⟩]->aLp KZ c Q ⟨T,ss⟩:=by
 intro a1 a2 a3 YE YF Yv YG YH X7 VW;revert YE YF Yv YG YH X7 VW;refine Gj.partial_correctness a1 a2 a3 _ ?_;intro Gj IH YE YF Yv YG YH X7 VW out H c hc Q tt b1 b3 b5 b7 b12 hE hR T ss z0v0 tT hF;refine lpx tt hc rfl fun q hX=>go ?_;refine cdp H (fun h H=>?_) (fun h H=>go ?_)
 ·obtain ⟨x38,f1,H⟩:=bil (g:=KY) Fm.X6 H;refine go1 ?_;refine go ?_;refine cdn H (fun h H=>go ?_) (fun h H=>go ?_)
  ·refine st hF 2 rfl fun s15 hF=>?_;refine go ?_;refine st hF 1 rfl fun s16 hF=>?_;refine go ?_;exact wq (hR _ (pur H).symm _ (rt _))
  ·refine Yj E0 [.v,.v,.v,.v,.v,.v,.v,.x,.z] (by kernel_rfl) ?_;obtain ⟨x46,f1,H⟩:=bil (g:=KY) Fm.X6 H;refine go1 ?_;refine bp H (J1 x46 Yv 0) fun x50 h H=>cv h (go ?_);refine J8 hF rfl fun b17 s18 hF=>go ?_;refine st hF 0 rfl fun s19 hF=>?_;refine go ?_;refine bp H (YW x50) fun x52 h H=>cl h (go ?_);refine cdb H (fun h H=>go ?_) (fun h H=>go ?_)
   ·refine st hF 3 rfl fun s20 hF=>?_;refine go ?_;refine st hF 2 rfl fun s21 hF=>?_;refine go ?_;exact wq (hR _ (pur H).symm _ (rt _))
   ·refine bp H (Fa (KU YE YF Yv YG YH) x50) fun x59 h H=>cl h (go ?_);refine X8 hF rfl fun b22 s23 hF=>go ?_;refine st hF 0 rfl fun s24 hF=>?_;refine go ?_;refine st hF 6 rfl fun s25 hF=>?_;refine go ?_;refine cdn H (fun h H=>go ?_) (fun h H=>go ?_)
    ·refine st hF 4 rfl fun s26 hF=>?_;refine go ?_;refine st hF 3 rfl fun s27 hF=>?_;refine go ?_;exact wq (hR _ (pur H).symm _ (rt _))
    ·refine apd (g:=cI) hF 0 H (rdo (c:=true) (g:=cI) (fun _=>rfl)) fun x73 H v28 s29 hF=>go ?_;refine st hF 2 (hF.cells 0 rfl) fun s30 hF=>?_;refine go ?_;exact IH  x59.1.binds x59.1.macs x59.1.scope x59.1.id x59.1.steps x73 (i64.wrap (VW+1)) _ H _ rfl Q tt b1 b3 b5 b7 b12 hE hR _ _ v28 S (hF.drop 2 0)
 ·exact wq (hE _ _ _ _ _ _ (pur H).symm _ _ z0v0 S hF)
theorem FG:∀(a1 a2:List Fm) (a3:Fm) (a4:Int) (YE:List Bnd) (YF:List Mac) (Yv YG YH AU:Int) out,Wt a1 a2 a3 a4 YE YF Yv YG YH AU=some out->∀c,Yf Tryz.f142 0=some c->∀(Q:QT) (tt:Sto) (b1 b3 b5 b7:Nat),(∀(D5:List Bnd) (D6:List Mac) (D7 D8 D9:Int),out=Sum.inr (D5,D6,D7,D8,D9)->∀(T:TT) (ss:Sto),T 4=i6 a4/\T 5=.ptr b1 0/\T 8=.ptr b3 0/\T 10=.ptr b5 0/\T 11=.ptr b7 0->Fx tt ss [(b7,⟨31,11,[i6 0,i6 0,.str zB,i6 0,.X4,i6 0,.str zB,i6 0,.X4,.X4,.X4]⟩),(b5,⟨94,5,[.X4,.X4,i6 0,i6 0,i6 0]⟩),(b3,⟨26,5,[i6 a3.kind,.str a3.name,i6 a3.num,sf cI a3.sc,sf KY a3.kids]⟩),(b1,⟨94,5,[sf K0 D5,sf K9 D6,i6 D7,i6 D8,i6 D9]⟩)] []->Q (.ex 0) ⟨T,ss⟩)->(∀r,out=Sum.inl r->∀s',I6 KZ [.cell 10 94,.cell 11 31,.tmp 12] (fun r' ss'=>r'=.tup [.agg (K6 r.1),.agg (K2 r.2.1),i6 r.2.2]/\ss'=tt) s'->Q .ret s')->∀(T:TT) (ss:Sto),T 1=sf KY a1/\T 2=sf KY a2/\T 4=i6 a4/\T 5=.ptr b1 0/\T 8=.ptr b3 0/\T 10=.ptr b5 0/\T 11=.ptr b7 0/\T 14=i6 AU->Fx tt ss [(b7,⟨31,11,[i6 0,i6 0,.str zB,i6 0,.X4,i6 0,.str zB,i6 0,.X4,.X4,.X4]⟩),(b5,⟨94,5,[.X4,.X4,i6 0,i6 0,i6 0]⟩),(b3,⟨26,5,[i6 a3.kind,.str a3.name,i6 a3.num,sf cI a3.sc,sf KY a3.kids]⟩),(b1,⟨94,5,[sf K0 YE,sf K9 YF,i6 Yv,i6 YG,i6 YH]⟩)] []->aLp KZ c Q ⟨T,ss⟩:=by
 intro a1 a2 a3 a4 YE YF Yv YG YH AU;revert YE YF Yv YG YH AU;refine Wt.partial_correctness a1 a2 a3 a4 _ ?_;intro Wt IH YE YF Yv YG YH AU out H c hc Q tt b1 b3 b5 b7 hE hR T ss tT hF;refine lpx tt hc rfl fun q hX=>go ?_;refine cdp H (fun h H=>go ?_) (fun h H=>go ?_)
 ·refine Yj E0 [.v,.v,.v,.v,.v,.v,.v,.x,.z] (by kernel_rfl) ?_;obtain ⟨x40,f1,H⟩:=bil (g:=KY) Fm.X6 H;refine go1 ?_;refine bp H (J1 x40 Yv 0) fun x44 h H=>cv h (go ?_);refine J8 hF rfl fun b12 s13 hF=>go ?_;refine st hF 0 rfl fun s14 hF=>?_;refine go ?_;refine Yj E0 [.v,.v,.v,.v,.v,.v,.v,.x,.z] (by kernel_rfl) ?_;obtain ⟨x47,f1,H⟩:=bil (g:=KY) Fm.X6 H;refine go1 ?_;refine bp H (J1 x47 Yv 0) fun x51 h H=>cv h (go ?_);refine J8 hF rfl fun b15 s16 hF=>go ?_;refine st hF 0 rfl fun s17 hF=>?_;obtain ⟨x54,f1,H⟩:=bil (g:=KY) Fm.X6 H;refine go1 ?_;refine go ?_;refine cdn H (fun h H=>go ?_) (fun h H=>go ?_)
  ·refine st hF 3 rfl fun s18 hF=>?_;refine go ?_;refine st hF 2 rfl fun s19 hF=>?_;refine go ?_;exact wq (hR _ (pur H).symm _ (rt _))
  ·refine bp H (YW x44) fun x61 h H=>cl h (go ?_);obtain ⟨x67,g20,H⟩:=bnd H;refine Yb 3 64 67 (.bool x67) (giN q (fun q=>?_) (fun q=>?_)) (fun J=>go ?_)
   ·rw [if_neg (dbf q)] at g20;refine go ?_;obtain ⟨x65,hx65,g20⟩:=bnd g20;refine cl (YW x51 _ hx65) (go ?_);exact Yq 64 g20
   ·rw [if_pos (dbt q)] at g20;refine go ?_;exact Yq 64 g20
   refine cdb H (fun h H=>go ?_) (fun h H=>go ?_)
   ·refine st hF 3 rfl fun s22 hF=>?_;refine go ?_;refine st hF 2 rfl fun s23 hF=>?_;refine go ?_;exact wq (hR _ (pur H).symm _ (rt _))
   ·refine bp H (Lg x51) fun x72 h H=>cl h (go ?_);refine cdb H (fun h H=>go ?_) (fun h H=>go ?_)
    ·refine st hF 3 rfl fun s24 hF=>?_;refine go ?_;refine st hF 2 rfl fun s25 hF=>?_;refine go ?_;exact wq (hR _ (pur H).symm _ (rt _))
    ·refine bp H (Fa (KU YE YF Yv YG YH) x44) fun x83 h H=>cl h (go ?_);refine X8 hF rfl fun b26 s27 hF=>go ?_;refine st hF 0 rfl fun s28 hF=>?_;refine go ?_;refine st hF 6 rfl fun s29 hF=>?_;refine go ?_;refine cdn H (fun h H=>go ?_) (fun h H=>go ?_)
     ·refine st hF 4 rfl fun s30 hF=>?_;refine go ?_;refine st hF 3 rfl fun s31 hF=>?_;refine go ?_;exact wq (hR _ (pur H).symm _ (rt _))
     ·refine FQ E0 [.v,.v,.v,.v,.v,.v,.v,.v,.v,.x,.x,.v,.z] [0,1,2,4,5,6,7,8,9,3,10,11,12] (by kernel_rfl) (go ?_);have hF:=hF.lit 195 3 (rws K9 []) rfl;refine NN (g:=K9) hF 0 H (rdo (c:=false) (g:=K9) Mac.X6) fun x95 H v32 s33 hF=>go ?_;refine Qvk (g:=K9) hF 0 H (rdo (c:=true) (g:=K9) Mac.X6) fun x102 H s35 hF=>go ?_;refine st hF 6 rfl fun s36 hF=>?_;refine go ?_;exact IH  x83.1.binds x102 x83.1.scope x83.1.id x83.1.steps (i64.wrap (AU+1)) _ H _ rfl Q tt b1 b3 b5 b7 hE hR _ _  S (hF.drop 3 0)
 ·exact wq (hE _ _ _ _ _ (pur H).symm _ _  S hF)
theorem Ml (fx0:Int):(∀(a0:Xpn) (a1:Fm) r,Vf a0 a1 fx0=some r->Y7 KZ 96 [.agg (K6 a0),.agg (KY a1),i6 fx0] (.tup [.agg (K6 r.1),.agg (K2 r.2.1),i6 r.2.2]))/\(∀(a0:Xpn) (a1:Fm) (a2:Int) r,B1 a0 a1 a2 fx0=some r->Y7 KZ 120 [.agg (K6 a0),.agg (KY a1),i6 a2,i6 fx0] (.tup [.agg (K6 r.1),.agg (K2 r.2.1),i6 r.2.2]))/\(∀(a0:Xpn) (a1:List Fm) r,HV a0 a1 fx0=some r->Y7 KZ 122 [.agg (K6 a0),sf KY a1,i6 fx0] (.tup [.agg (K6 r.1),sf K2 r.2.1,i6 r.2.2]))/\(∀(a0:Xpn) (a1:List Fm) (a2:Fm) r,A6 a0 a1 a2 fx0=some r->Y7 KZ 140 [.agg (K6 a0),sf KY a1,.agg (KY a2),i6 fx0] (.tup [.agg (K6 r.1),.agg (K2 r.2.1),i6 r.2.2]))/\(∀(a0:Xpn) (a1 a2:List Fm) (a3:Fm) r,AO a0 a1 a2 a3 fx0=some r->Y7 KZ 142 [.agg (K6 a0),sf KY a1,sf KY a2,.agg (KY a3),i6 fx0] (.tup [.agg (K6 r.1),.agg (K2 r.2.1),i6 r.2.2]))/\(∀(a0:Xpn) (a1:Fm) (a2:Int) r,Cs a0 a1 a2 fx0=some r->Y7 KZ 121 [.agg (K6 a0),.agg (KY a1),i6 a2,i6 fx0] (.tup [.agg (K6 r.1),.agg (K2 r.2.1),i6 r.2.2])):=by
 have h:=Vf.mutual_partial_correctness fx0 (motive_1:=fun a0 a1 r=>Y7 KZ 96 [.agg (K6 a0),.agg (KY a1),i6 fx0] (.tup [.agg (K6 r.1),.agg (K2 r.2.1),i6 r.2.2])) (motive_2:=fun a0 a1 r=>Y7 KZ 122 [.agg (K6 a0),sf KY a1,i6 fx0] (.tup [.agg (K6 r.1),sf K2 r.2.1,i6 r.2.2])) (motive_3:=fun a1 YE YF Yv YG YH X7 Y4 out=>∀c,Yf Tryz.f122 0=some c->∀(Q:QT) (tt:Sto) (b1 b3:Nat),(∀(D5:List Bnd) (D6:List Mac) (D7 D8 D9:Int) (YX:List Cor),out=Sum.inr (D5,D6,D7,D8,D9,YX)->∀(T:TT) (ss:Sto) (e0v0:AV),T 3=.ptr b1 0/\T 6=.ptr b3 0/\T 9=e0v0->Fx tt ss [(b3,⟨94,5,[.X4,.X4,i6 0,i6 0,i6 0]⟩),(b1,⟨94,5,[sf K0 D5,sf K9 D6,i6 D7,i6 D8,i6 D9]⟩)] [⟨e0v0,31,11,rws K2 YX⟩]->Q (.ex 0) ⟨T,ss⟩)->(∀r,out=Sum.inl r->∀s',I6 KZ [.cell 6 94,.tmp 7,.tmp 8] (fun r' ss'=>r'=.tup [.agg (K6 r.1),sf K2 r.2.1,i6 r.2.2]/\ss'=tt) s'->Q .ret s')->∀(T:TT) (ss:Sto) (z0v0:AV),T 1=sf KY a1/\T 2=i6 fx0/\T 3=.ptr b1 0/\T 6=.ptr b3 0/\T 9=z0v0/\T 10=i6 Y4->Fx tt ss [(b3,⟨94,5,[.X4,.X4,i6 0,i6 0,i6 0]⟩),(b1,⟨94,5,[sf K0 YE,sf K9 YF,i6 Yv,i6 YG,i6 YH]⟩)] [⟨z0v0,31,11,rws K2 X7⟩]->aLp KZ c Q ⟨T,ss⟩) (motive_4:=fun a0 a1 a2 r=>Y7 KZ 121 [.agg (K6 a0),.agg (KY a1),i6 a2,i6 fx0] (.tup [.agg (K6 r.1),.agg (K2 r.2.1),i6 r.2.2])) (motive_5:=fun a0 a1 a2 r=>Y7 KZ 120 [.agg (K6 a0),.agg (KY a1),i6 a2,i6 fx0] (.tup [.agg (K6 r.1),.agg (K2 r.2.1),i6 r.2.2])) (motive_6:=fun a0 a1 a2 a3 r=>Y7 KZ 142 [.agg (K6 a0),sf KY a1,sf KY a2,.agg (KY a3),i6 fx0] (.tup [.agg (K6 r.1),.agg (K2 r.2.1),i6 r.2.2])) (motive_7:=fun a0 a1 a2 r=>Y7 KZ 140 [.agg (K6 a0),sf KY a1,.agg (KY a2),i6 fx0] (.tup [.agg (K6 r.1),.agg (K2 r.2.1),i6 r.2.2])) ?s0 ?s1 ?s2 ?s3 ?s4 ?s5 ?s6
 ·exact ⟨h.1,h.2.2.2.2.1,h.2.1,h.2.2.2.2.2.2,h.2.2.2.2.2.1,h.2.2.2.1⟩
 ·intro HV Cs B1 C2 C5 C1 a0 a1 r H;intro ss;refine hdh mixed Tryz.func96 (rs:=[.cell 6 94,.cell 7 31,.tmp 8]) fun q tT hF hX=>?_;refine go ?_;refine X8 hF rfl fun b1 ss2 hF=>go ?_;refine X8 hF rfl fun b3 ss4 hF=>go ?_;refine X8 hF rfl fun b5 ss6 hF=>go ?_;refine X8 hF rfl fun b7 s8 hF=>go ?_;refine cdp H (fun h H=>go ?_) (fun h H=>go ?_)
  ·obtain ⟨E,hEq⟩:∃E,E=EE s8 [b5,b7]:=⟨_,rfl⟩
   have n9:¬E b3:=by rw [hEq];exact K5 (hF.at 2 rfl) (nm2 ⟨neL hF 2 1 rfl rfl (by decide),neL hF 2 0 rfl rfl (by decide)⟩)
   have n10:¬E b1:=by rw [hEq];exact K5 (hF.at 3 rfl) (nm2 ⟨neL hF 3 1 rfl rfl (by decide),neL hF 3 0 rfl rfl (by decide)⟩)
   refine Yj E [.v,.v,.v,.v,.x,.x,.v] (by kernel_rfl) ?_;have z:=K3 (X9 (hF.at 2 rfl) n9) (X9 (hF.at 3 rfl) n10);refine gh ?_;refine stK hF 1 (by rw [hEq];exact Zd (by simp)) rfl fun s11 hF=>?_;have z:=K3 (X9 (hF.at 2 rfl) n9) (X9 (hF.at 3 rfl) n10);refine gh ?_;refine stK hF 0 (by rw [hEq];exact Zd (by simp)) rfl fun s12 hF=>?_;have z:=K3 (X9 (hF.at 2 rfl) n9) (X9 (hF.at 3 rfl) n10);refine gh ?_;refine go ?_;cases pur H;exact rt [.agg [sf K0 a0.binds,sf K9 a0.macs,i6 a0.scope,i6 a0.id,i6 a0.steps],.agg [i6 3,i6 0,.str zB,i6 a1.num,.X4,i6 0,.str zB,i6 0,.X4,.X4,.X4],i6 0]
  ·refine cdp H (fun h H=>go ?_) (fun h H=>go ?_)
   ·refine bp H (PZ a0 a1) fun x25 h H=>cl h (go ?_);refine st hF 1 rfl fun s13 hF=>?_;refine go ?_;refine st hF 0 rfl fun s14 hF=>?_;refine go ?_;cases pur H;exact rt _
   ·refine cdp H (fun h H=>go ?_) (fun h H=>?_)
    ·refine st hF 1 rfl fun s15 hF=>?_;refine go ?_;refine st hF 0 rfl fun s16 hF=>?_;refine go ?_;cases pur H;exact rt _
    ·obtain ⟨x37,f1,H⟩:=bil (g:=KY) Fm.X6 H;refine go1 ?_;refine go ?_;refine cdp H (fun h H=>go ?_) (fun h H=>go ?_)
     ·refine Yj E0 [.v,.v,.v,.v,.v,.v,.v,.v,.v,.v,.v] (by kernel_rfl) ?_;obtain ⟨x45,f1,H⟩:=bil (g:=KY) Fm.X6 H;refine go1 ?_;refine bp H (Dc a0 x45) fun x47 h H=>cv h (go ?_);refine cdp H (fun h H=>go ?_) (fun h H=>go ?_)
      ·refine st hF 1 rfl fun s17 hF=>?_;refine go ?_;refine st hF 0 rfl fun s18 hF=>?_;refine go ?_;cases pur H;exact rt _
      ·refine cdp H (fun h H=>go ?_) (fun h H=>go ?_)
       ·refine bp H (C1 a0 a1 x47.2) fun x61 h H=>cl h (go ?_);refine st hF 1 rfl fun s19 hF=>?_;refine go ?_;refine st hF 0 rfl fun s20 hF=>?_;refine go ?_;cases pur H;exact rt _
       ·refine cdp H (fun h H=>go ?_) (fun h H=>go ?_)
        ·refine bp H (C5 a0 a1 x47.2) fun x71 h H=>cl h (go ?_);refine st hF 1 rfl fun s21 hF=>?_;refine go ?_;refine st hF 0 rfl fun s22 hF=>?_;refine go ?_;cases pur H;exact rt _
        ·refine bp H (C2 a0 a1.kids) fun x80 h H=>cl h (go ?_);refine st hF 3 rfl fun s23 hF=>?_;refine go ?_;refine st hF 1 rfl fun s24 hF=>?_;refine go ?_;refine st hF 0 rfl fun s25 hF=>?_;refine go ?_;cases pur H;exact rt _
     ·obtain ⟨O0,hx80_1,H⟩:=bnd H;refine cl (C2 a0 a1.kids _ hx80_1) (go ?_);refine st hF 3 rfl fun s26 hF=>?_;refine go ?_;refine st hF 1 rfl fun s27 hF=>?_;refine go ?_;refine st hF 0 rfl fun s28 hF=>?_;refine go ?_;cases pur H;exact rt _
 ·intro Ht L0 a0 a1 r H;intro ss;refine hdh mixed Tryz.func122 (rs:=[.cell 6 94,.tmp 7,.tmp 8]) fun q tT hF hX=>?_;refine go ?_;refine X8 hF rfl fun b1 ss2 hF=>go ?_;refine X8 hF rfl fun b3 ss4 hF=>?_;have hF:=hF.lit 31 11 (rws K2 []) rfl;refine go ?_;obtain ⟨o21,ho21,H⟩:=bnd H;refine L0 a1 a0.binds a0.macs a0.scope a0.id a0.steps [] 0 _ ho21 _ rfl _ _ b1 b3 ?_ ?_ _ _ (.sl true (rws K2 [])) S hF
  ·intro RY RZ R0 R3 R4 DG he T23 s24 e22v0 tT hF;have he:=he.symm;subst he
   try dsimp only at H
   refine go ?_;refine st hF 0 rfl fun s26 hF=>?_;refine go ?_;cases pur H;exact rt _
  ·intro r hr s' hs;subst hr;cases pur H;exact hsq hs
 ·intro Vf Ht C0 L0 a1 YE YF Yv YG YH X7 Y4 out H c hc Q tt b1 b3 hE hR T ss z0v0 tT hF;refine lpx tt hc rfl fun q hX=>go ?_;refine cdp H (fun h H=>go ?_) (fun h H=>go ?_)
  ·obtain ⟨E,hEq⟩:∃E,E=EE ss []:=⟨_,rfl⟩
   have n5:¬E b3:=by rw [hEq];exact K5 (hF.at 0 rfl) (by simp)
   have n6:¬E b1:=by rw [hEq];exact K5 (hF.at 1 rfl) (by simp)
   refine Yj E [.v,.v,.v,.v,.v,.v,.v,.v,.v,.v,.v,.x,.x,.x,.x,.v] (by kernel_rfl) ?_;obtain ⟨x25,f1,H⟩:=bil (g:=KY) Fm.X6 H;have z:=K3 (X9 (hF.at 0 rfl) n5) (X9 (hF.at 1 rfl) n6);refine gh1 ?_;refine bp H (C0 (KU YE YF Yv YG YH) x25) fun x28 h H=>cv h ?_;have z:=K3 (X9 (hF.at 0 rfl) n5) (X9 (hF.at 1 rfl) n6);refine gh ?_;refine BL hF rfl fun b7 s8 nw9 mo10 hF=>?_;have z:=K3 (X9 (hF.at 1 rfl) n5) (X9 (hF.at 2 rfl) n6);refine gh ?_;refine BL hF rfl fun b11 s12 nw13 mo14 hF=>?_;have z:=K3 (X9 (hF.at 2 rfl) n5) (X9 (hF.at 3 rfl) n6);refine gh ?_;refine stK hF 1 (show E _ from ((em0 hEq) _ nw9)) rfl fun s15 hF=>?_;have z:=K3 (X9 (hF.at 2 rfl) n5) (X9 (hF.at 3 rfl) n6);refine gh ?_;refine stK hF 0 (show E _ from ((fun x h=>(em0 hEq) x (mo10 x h)) _ nw13)) rfl fun s16 hF=>?_;have z:=K3 (X9 (hF.at 2 rfl) n5) (X9 (hF.at 3 rfl) n6);refine gh ?_;refine go ?_;refine st hF 3 rfl fun s17 hF=>?_;refine go ?_;refine cdn H (fun h H=>go ?_) (fun h H=>go ?_)
   ·refine st hF 2 rfl fun s18 hF=>?_;refine go ?_;exact wq (hR _ (pur H).symm _ (rt _))
   ·refine apd (g:=K2) hF 0 H (rdo (c:=true) (g:=K2) Cor.X6) fun x41 H v19 s20 hF=>go ?_;exact L0 a1 x28.1.binds x28.1.macs x28.1.scope x28.1.id x28.1.steps x41 (i64.wrap (Y4+1)) _ H _ rfl Q tt b1 b3 hE hR _ _ v19 S (hF.drop 2 0)
  ·exact wq (hE _ _ _ _ _ _ (pur H).symm _ _ z0v0 S hF)
 ·intro Vf C0 a0 a1 a2 r H;intro ss;refine hdh mixed Tryz.func121 (rs:=[.cell 8 94,.cell 9 31,.tmp 10]) fun q tT hF hX=>?_;refine go ?_;refine X8 hF rfl fun b1 ss2 hF=>go ?_;refine X8 hF rfl fun b3 ss4 hF=>go ?_;refine X8 hF rfl fun b5 ss6 hF=>go ?_;refine X8 hF rfl fun b7 s8 hF=>go ?_;refine bp H (P1 a0 a1 a2 fx0) fun x18 h H=>cl h (go ?_);refine X8 hF rfl fun b9 s10 hF=>go ?_;refine st hF 4 rfl fun s11 hF=>?_;refine go ?_;refine st hF 0 rfl fun s12 hF=>?_;refine go ?_;refine cdn H (fun h H=>go ?_) (fun h H=>go ?_)
  ·refine st hF 2 rfl fun s13 hF=>?_;refine go ?_;refine st hF 1 rfl fun s14 hF=>?_;refine go ?_;cases pur H;exact rt _
  ·refine bp H (C0 x18.1 x18.2.1) fun x30 h H=>cl h (go ?_);refine st hF 2 rfl fun s15 hF=>?_;refine go ?_;refine st hF 1 rfl fun s16 hF=>?_;refine go ?_;cases pur H;exact rt _
 ·intro HV AO A6 C2 C4 C3 a0 a1 a2 r H;intro ss;refine hdh mixed Tryz.func120 (rs:=[.cell 8 94,.cell 9 31,.tmp 10]) fun q tT hF hX=>?_;refine go ?_;refine X8 hF rfl fun b1 ss2 hF=>go ?_;refine X8 hF rfl fun b3 ss4 hF=>go ?_;refine X8 hF rfl fun b5 ss6 hF=>go ?_;refine X8 hF rfl fun b7 s8 hF=>go ?_;obtain ⟨x29,g9,H⟩:=bnd H;refine Yb 4 25 29 (.bool x29) (gi q (fun q=>go ?_) (fun q=>go ?_)) (fun J=>go ?_)
  ·exact Yq 25 g9
  ·exact Yq 25 g9
  refine cdb H (fun h H=>go ?_) (fun h H=>go ?_)
  ·obtain ⟨E,hEq⟩:∃E,E=EE s8 [b5,b7]:=⟨_,rfl⟩
   have n11:¬E b3:=by rw [hEq];exact K5 (hF.at 2 rfl) (nm2 ⟨neL hF 2 1 rfl rfl (by decide),neL hF 2 0 rfl rfl (by decide)⟩)
   have n12:¬E b1:=by rw [hEq];exact K5 (hF.at 3 rfl) (nm2 ⟨neL hF 3 1 rfl rfl (by decide),neL hF 3 0 rfl rfl (by decide)⟩)
   refine Yj E [.v,.v,.v,.v,.v,.v,.v,.x,.x,.v] (by kernel_rfl) ?_;obtain ⟨x33,f1,H⟩:=bil (g:=KY) Fm.X6 H;have z:=K3 (X9 (hF.at 2 rfl) n11) (X9 (hF.at 3 rfl) n12);refine gh1 ?_;refine bp H (C8 x33) fun x35 h H=>cv h ?_;have z:=K3 (X9 (hF.at 2 rfl) n11) (X9 (hF.at 3 rfl) n12);refine gh ?_;refine stK hF 1 (by rw [hEq];exact Zd (by simp)) rfl fun s13 hF=>?_;have z:=K3 (X9 (hF.at 2 rfl) n11) (X9 (hF.at 3 rfl) n12);refine gh ?_;refine stK hF 0 (by rw [hEq];exact Zd (by simp)) rfl fun s14 hF=>?_;have z:=K3 (X9 (hF.at 2 rfl) n11) (X9 (hF.at 3 rfl) n12);refine gh ?_;refine go ?_;cases pur H;exact rt [.agg [sf K0 a0.binds,sf K9 a0.macs,i6 a0.scope,i6 a0.id,i6 a0.steps],.agg [i6 4,i6 0,.str zB,i6 0,.X4,i6 x35.kind,.str x35.name,i6 x35.num,sf cI x35.sc,sf KY x35.kids,.X4],i6 0]
  ·obtain ⟨x45,g15,H⟩:=bnd H;refine Yb 4 41 45 (.bool x45) (gi q (fun q=>go ?_) (fun q=>go ?_)) (fun J=>go ?_)
   ·exact Yq 41 g15
   ·exact Yq 41 g15
   refine cdb H (fun h H=>go ?_) (fun h H=>go ?_)
   ·obtain ⟨E,hEq⟩:∃E,E=EE s8 []:=⟨_,rfl⟩
    have n17:¬E b7:=by rw [hEq];exact K5 (hF.at 0 rfl) (by simp)
    have n18:¬E b5:=by rw [hEq];exact K5 (hF.at 1 rfl) (by simp)
    have n19:¬E b3:=by rw [hEq];exact K5 (hF.at 2 rfl) (by simp)
    have n20:¬E b1:=by rw [hEq];exact K5 (hF.at 3 rfl) (by simp)
    refine Yj E [.v,.v,.v,.v,.v,.v,.v,.v,.v,.v,.x,.x,.v,.v] (by kernel_rfl) ?_;obtain ⟨x50,f1,H⟩:=bls (g:=KY) Fm.X6 (lo:=some (i6 1)) (hi:=none) rfl rfl H;have z:=K3 (X9 (hF.at 0 rfl) n17) (K3 (X9 (hF.at 1 rfl) n18) (K3 (X9 (hF.at 2 rfl) n19) (X9 (hF.at 3 rfl) n20)));refine gh1 ?_;refine bp H (C2 a0 x50) fun x52 h H=>cv h ?_;have z:=K3 (X9 (hF.at 0 rfl) n17) (K3 (X9 (hF.at 1 rfl) n18) (K3 (X9 (hF.at 2 rfl) n19) (X9 (hF.at 3 rfl) n20)));refine gh ?_;refine BL hF rfl fun b21 s22 nw23 mo24 hF=>?_;have z:=K3 (X9 (hF.at 1 rfl) n17) (K3 (X9 (hF.at 2 rfl) n18) (K3 (X9 (hF.at 3 rfl) n19) (X9 (hF.at 4 rfl) n20)));refine gh ?_;refine stK hF 0 (show E _ from ((em0 hEq) _ nw23)) rfl fun s25 hF=>?_;have z:=K3 (X9 (hF.at 1 rfl) n17) (K3 (X9 (hF.at 2 rfl) n18) (K3 (X9 (hF.at 3 rfl) n19) (X9 (hF.at 4 rfl) n20)));refine gh ?_;refine go ?_;refine st hF 2 rfl fun s26 hF=>?_;refine go ?_;refine st hF 1 rfl fun s27 hF=>?_;refine go ?_;cases pur H;exact rt _
   ·obtain ⟨x68,g28,H⟩:=bnd H;refine Yb 4 64 68 (.bool x68) (gi q (fun q=>go ?_) (fun q=>go ?_)) (fun J=>go ?_)
    ·exact Yq 64 g28
    ·exact Yq 64 g28
    obtain ⟨x76,g30,H⟩:=bnd H;refine Yb 6 70 76 (.bool x76) (gi q (fun q=>?_) (fun q=>?_)) (fun J=>go ?_)
    ·rw [if_pos (dbt q)] at g30;obtain ⟨x72,f1,g30⟩:=bil (g:=KY) Fm.X6 g30;refine go1 ?_;refine go ?_;exact Yq 70 g30
    ·rw [if_neg (dbf q)] at g30;refine go ?_;exact Yq 70 g30
    refine cdb H (fun h H=>go ?_) (fun h H=>go ?_)
    ·obtain ⟨E,hEq⟩:∃E,E=EE s8 [b5,b7]:=⟨_,rfl⟩
     have n32:¬E b3:=by rw [hEq];exact K5 (hF.at 2 rfl) (nm2 ⟨neL hF 2 1 rfl rfl (by decide),neL hF 2 0 rfl rfl (by decide)⟩)
     have n33:¬E b1:=by rw [hEq];exact K5 (hF.at 3 rfl) (nm2 ⟨neL hF 3 1 rfl rfl (by decide),neL hF 3 0 rfl rfl (by decide)⟩)
     refine Yj E [.v,.v,.v,.v,.v,.v,.v,.v,.v,.v,.v,.v,.v,.v,.v,.x,.x,.v] (by kernel_rfl) ?_;obtain ⟨x80,f1,H⟩:=bil (g:=KY) Fm.X6 H;obtain ⟨x85,f2,H⟩:=bil (g:=KY) Fm.X6 H;have z:=K3 (X9 (hF.at 2 rfl) n32) (X9 (hF.at 3 rfl) n33);refine gh2 ?_;refine bp H (C3 a0 x80.kids x85) fun x88 h H=>cv h ?_;have z:=K3 (X9 (hF.at 2 rfl) n32) (X9 (hF.at 3 rfl) n33);refine gh ?_;refine stK hF 1 (by rw [hEq];exact Zd (by simp)) rfl fun s34 hF=>?_;have z:=K3 (X9 (hF.at 2 rfl) n32) (X9 (hF.at 3 rfl) n33);refine gh ?_;refine stK hF 0 (by rw [hEq];exact Zd (by simp)) rfl fun s35 hF=>?_;have z:=K3 (X9 (hF.at 2 rfl) n32) (X9 (hF.at 3 rfl) n33);refine gh ?_;refine go ?_;cases pur H;exact rt [.agg [sf K0 x88.1.binds,sf K9 x88.1.macs,i6 x88.1.scope,i6 x88.1.id,i6 x88.1.steps],.agg [i6 x88.2.1.kind,i6 x88.2.1.id,.str x88.2.1.name,i6 x88.2.1.num,sf cI x88.2.1.ids,i6 x88.2.1.data.kind,.str x88.2.1.data.name,i6 x88.2.1.data.num,sf cI x88.2.1.data.sc,sf KY x88.2.1.data.kids,sf K2 x88.2.1.kids],i6 x88.2.2]
    ·obtain ⟨x97,g36,H⟩:=bnd H;refine Yb 2 95 97 (.bool x97) (gi q (fun q=>go ?_) (fun q=>go ?_)) (fun J=>go ?_)
     ·exact Yq 95 g36
     ·exact Yq 95 g36
     obtain ⟨x103,g38,H⟩:=bnd H;refine Yb 4 99 103 (.bool x103) (giN q (fun q=>go ?_) (fun q=>go ?_)) (fun J=>go ?_)
     ·exact Yq 99 g38
     ·exact Yq 99 g38
     refine cdb H (fun h H=>go ?_) (fun h H=>?_)
     ·refine st hF 1 rfl fun s40 hF=>?_;refine go ?_;refine st hF 0 rfl fun s41 hF=>?_;refine go ?_;cases pur H;exact rt _
     ·obtain ⟨x109,f1,H⟩:=bil (g:=KY) Fm.X6 H;refine go1 ?_;refine bp H (OM x109) fun x111 h H=>cl h (go ?_);refine cdb H (fun h H=>go ?_) (fun h H=>go ?_)
      ·refine st hF 1 rfl fun s42 hF=>?_;refine go ?_;refine st hF 0 rfl fun s43 hF=>?_;refine go ?_;cases pur H;exact rt _
      ·refine cdp H (fun h H=>go ?_) (fun h H=>go ?_)
       ·obtain ⟨E,hEq⟩:∃E,E=EE s8 [b5,b7]:=⟨_,rfl⟩
        have n44:¬E b3:=by rw [hEq];exact K5 (hF.at 2 rfl) (nm2 ⟨neL hF 2 1 rfl rfl (by decide),neL hF 2 0 rfl rfl (by decide)⟩)
        have n45:¬E b1:=by rw [hEq];exact K5 (hF.at 3 rfl) (nm2 ⟨neL hF 3 1 rfl rfl (by decide),neL hF 3 0 rfl rfl (by decide)⟩)
        refine Yj E [.v,.v,.v,.v,.v,.v,.v,.v,.v,.v,.v,.v,.x,.x,.v] (by kernel_rfl) ?_;obtain ⟨x126,f1,H⟩:=bil (g:=KY) Fm.X6 H;have z:=K3 (X9 (hF.at 2 rfl) n44) (X9 (hF.at 3 rfl) n45);refine gh1 ?_;refine bp H (C4 a0 x111.1 x111.2.1 x126) fun x129 h H=>cv h ?_;have z:=K3 (X9 (hF.at 2 rfl) n44) (X9 (hF.at 3 rfl) n45);refine gh ?_;refine stK hF 1 (by rw [hEq];exact Zd (by simp)) rfl fun s46 hF=>?_;have z:=K3 (X9 (hF.at 2 rfl) n44) (X9 (hF.at 3 rfl) n45);refine gh ?_;refine stK hF 0 (by rw [hEq];exact Zd (by simp)) rfl fun s47 hF=>?_;have z:=K3 (X9 (hF.at 2 rfl) n44) (X9 (hF.at 3 rfl) n45);refine gh ?_;refine go ?_;cases pur H;exact rt [.agg [sf K0 x129.1.binds,sf K9 x129.1.macs,i6 x129.1.scope,i6 x129.1.id,i6 x129.1.steps],.agg [i6 x129.2.1.kind,i6 x129.2.1.id,.str x129.2.1.name,i6 x129.2.1.num,sf cI x129.2.1.ids,i6 x129.2.1.data.kind,.str x129.2.1.data.name,i6 x129.2.1.data.num,sf cI x129.2.1.data.sc,sf KY x129.2.1.data.kids,sf K2 x129.2.1.kids],i6 x129.2.2]
       ·refine bp H (C2 a0 x111.2.1) fun x137 h H=>cl h (go ?_);refine st hF 3 rfl fun s48 hF=>?_;refine go ?_;refine cdn H (fun h H=>go ?_) (fun h H=>go ?_)
        ·refine st hF 1 rfl fun s49 hF=>?_;refine go ?_;refine st hF 0 rfl fun s50 hF=>?_;refine go ?_;cases pur H;exact rt _
        ·obtain ⟨E,hEq⟩:∃E,E=EE s48 [b1]:=⟨_,rfl⟩
         have n51:¬E b7:=by rw [hEq];exact K5 (hF.at 0 rfl) (nm1 (neL hF 0 3 rfl rfl (by decide)))
         have n52:¬E b5:=by rw [hEq];exact K5 (hF.at 1 rfl) (nm1 (neL hF 1 3 rfl rfl (by decide)))
         have n53:¬E b3:=by rw [hEq];exact K5 (hF.at 2 rfl) (nm1 (neL hF 2 3 rfl rfl (by decide)))
         refine FQ E [.v,.v,.v,.v,.v,.v,.x,.v,.v,.v,.v,.v,.x,.x,.x,.v] [1,2,3,4,5,6,0,7,8,9,10,11,12,13,14,15] (by kernel_rfl) ?_;obtain ⟨x151,f1,H⟩:=bil (g:=KY) Fm.X6 H;have z:=K3 (X9 (hF.at 0 rfl) n51) (K3 (X9 (hF.at 1 rfl) n52) (X9 (hF.at 2 rfl) n53));refine gh1 ?_;refine bp H (C3 x137.1 x111.1 x151) fun x154 h H=>cv h ?_;have z:=K3 (X9 (hF.at 0 rfl) n51) (K3 (X9 (hF.at 1 rfl) n52) (X9 (hF.at 2 rfl) n53));refine gh ?_;refine BL hF rfl fun b54 s55 nw56 mo57 hF=>?_;have z:=K3 (X9 (hF.at 1 rfl) n51) (K3 (X9 (hF.at 2 rfl) n52) (X9 (hF.at 3 rfl) n53));refine gh ?_;refine stK hF 4 (by rw [hEq];exact Zd (by simp)) rfl fun s58 hF=>?_;have z:=K3 (X9 (hF.at 1 rfl) n51) (K3 (X9 (hF.at 2 rfl) n52) (X9 (hF.at 3 rfl) n53));refine gh ?_;refine stK hF 0 (show E _ from ((em0 hEq) _ nw56)) rfl fun s59 hF=>?_;have z:=K3 (X9 (hF.at 1 rfl) n51) (K3 (X9 (hF.at 2 rfl) n52) (X9 (hF.at 3 rfl) n53));refine gh ?_;refine go ?_;obtain ⟨E,hEq⟩:∃E,E=EE s59 [b5,b7]:=⟨_,rfl⟩
         have n60:¬E b54:=by rw [hEq];exact K5 (hF.at 0 rfl) (nm2 ⟨neL hF 0 2 rfl rfl (by decide),neL hF 0 1 rfl rfl (by decide)⟩)
         have n61:¬E b3:=by rw [hEq];exact K5 (hF.at 3 rfl) (nm2 ⟨neL hF 3 2 rfl rfl (by decide),neL hF 3 1 rfl rfl (by decide)⟩)
         have n62:¬E b1:=by rw [hEq];exact K5 (hF.at 4 rfl) (nm2 ⟨neL hF 4 2 rfl rfl (by decide),neL hF 4 1 rfl rfl (by decide)⟩)
         refine Yj E [.v,.v,.v,.v,.v,.v,.v,.x,.x,.v] (by kernel_rfl) ?_;have z:=K3 (X9 (hF.at 0 rfl) n60) (K3 (X9 (hF.at 3 rfl) n61) (X9 (hF.at 4 rfl) n62));refine gh ?_;obtain ⟨x162,hx162,H⟩:=bnd H;refine RG (g:=K2) (xs:=[x154.2.1]) (ys:=x137.2.1) Cor.X6 (by decide) (by decide) (.inr (by first | rfl | simp only [sf,i6,zB,Vj,V7,cI,cU,cS,cL,Cor.Ya,Fm.Ya])) (.inr ⟨_,by first | rfl | simp only [sf,i6,zB,Vj,V7,cI,cU,cS,cL,Cor.Ya,Fm.Ya]⟩) hx162 ?_;have z:=K3 (X9 (hF.at 0 rfl) n60) (K3 (X9 (hF.at 3 rfl) n61) (X9 (hF.at 4 rfl) n62));refine gh ?_;refine stK hF 2 (by rw [hEq];exact Zd (by simp)) rfl fun s63 hF=>?_;have z:=K3 (X9 (hF.at 0 rfl) n60) (K3 (X9 (hF.at 3 rfl) n61) (X9 (hF.at 4 rfl) n62));refine gh ?_;refine stK hF 1 (by rw [hEq];exact Zd (by simp)) rfl fun s64 hF=>?_;have z:=K3 (X9 (hF.at 0 rfl) n60) (K3 (X9 (hF.at 3 rfl) n61) (X9 (hF.at 4 rfl) n62));refine gh ?_;refine go ?_;cases pur H;exact rt [.agg [sf K0 x154.1.binds,sf K9 x154.1.macs,i6 x154.1.scope,i6 x154.1.id,i6 x154.1.steps],.agg [i6 6,i6 0,.str zB,i6 0,.X4,i6 0,.str zB,i6 0,.X4,.X4,sf K2 x162],i6 x154.2.2]
 ·intro Vf C0 a0 a1 a2 a3 r H;intro ss;refine hdh mixed Tryz.func142 (rs:=[.cell 10 94,.cell 11 31,.tmp 12]) fun q tT hF hX=>?_;refine go ?_;refine X8 hF rfl fun b1 ss2 hF=>go ?_;refine X8 hF rfl fun b3 ss4 hF=>go ?_;refine X8 hF rfl fun b5 ss6 hF=>go ?_;refine X8 hF rfl fun b7 s8 hF=>go ?_;refine bp H (B3 a0) fun x25 h H=>cl h (go ?_);refine st hF 3 rfl fun s9 hF=>?_;refine go ?_;refine cdb H (fun h H=>go ?_) (fun h H=>go ?_)
  ·refine st hF 1 rfl fun s10 hF=>?_;refine go ?_;refine st hF 0 rfl fun s11 hF=>?_;refine go ?_;cases pur H;exact rt _
  ·obtain ⟨o37,ho37,H⟩:=bnd H;refine FG a1 a2 a3 fx0 x25.1.binds x25.1.macs x25.1.scope x25.1.id x25.1.steps 0 _ ho37 _ rfl _ _ b1 b3 b5 b7 ?_ ?_ _ _  S hF
   ·intro F0 F1 Dm F2 F3 he T39 s40 tT hF;have he:=he.symm;subst he
    try dsimp only at H
    refine go ?_;refine bp H (J1 a3 Dm 0) fun x107 h H=>cl h (go ?_);refine X8 hF rfl fun b42 s43 hF=>go ?_;refine st hF 0 rfl fun s44 hF=>?_;refine go ?_;refine bp H (YW x107) fun x109 h H=>cl h (go ?_);refine cdb H (fun h H=>go ?_) (fun h H=>go ?_)
    ·refine st hF 2 rfl fun s45 hF=>?_;refine go ?_;refine st hF 1 rfl fun s46 hF=>?_;refine go ?_;cases pur H;exact rt _
    ·refine bp H (C0 (KU F0 F1 Dm F2 F3) x107) fun x116 h H=>cl h (go ?_);refine st hF 2 rfl fun s47 hF=>?_;refine go ?_;refine st hF 1 rfl fun s48 hF=>?_;refine go ?_;cases pur H;exact rt _
   ·intro r hr s' hs;subst hr;cases pur H;exact hsq hs
 ·intro Vf C0 a0 a1 a2 r H;intro ss;refine hdh mixed Tryz.func140 (rs:=[.cell 8 94,.cell 9 31,.tmp 10]) fun q tT hF hX=>?_;refine go ?_;refine X8 hF rfl fun b1 ss2 hF=>go ?_;refine X8 hF rfl fun b3 ss4 hF=>go ?_;refine X8 hF rfl fun b5 ss6 hF=>go ?_;refine X8 hF rfl fun b7 s8 hF=>go ?_;refine bp H (B3 a0) fun x22 h H=>cl h (go ?_);refine st hF 3 rfl fun s9 hF=>?_;refine go ?_;refine cdb H (fun h H=>go ?_) (fun h H=>go ?_)
  ·refine st hF 1 rfl fun s10 hF=>?_;refine go ?_;refine st hF 0 rfl fun s11 hF=>?_;refine go ?_;cases pur H;exact rt _
  ·refine X8 hF rfl fun b12 s13 hF=>go ?_;refine st hF 0 rfl fun s14 hF=>?_;have hF:=hF.nil 3 1;refine go ?_;obtain ⟨o31,ho31,H⟩:=bnd H;refine Ni a1 a2 fx0 x22.1.binds x22.1.macs x22.1.scope x22.1.id x22.1.steps [] 0 _ ho31 _ rfl _ _ b1 b3 b5 b7 b12 ?_ ?_ _ _ .X4 S hF
   ·intro FW FX Dl FY FZ Qmh he T33 s34 e32v0 tT hF;have he:=he.symm;subst he
    try dsimp only at H
    refine go ?_;refine bp H (J1 a2 Dl 0) fun x78 h H=>cl h (go ?_);refine X8 hF rfl fun b36 s37 hF=>go ?_;refine st hF 0 rfl fun s38 hF=>?_;refine go ?_;refine bp H (YW x78) fun x80 h H=>cl h (go ?_);refine cdb H (fun h H=>go ?_) (fun h H=>go ?_)
    ·refine st hF 3 rfl fun s39 hF=>?_;refine go ?_;refine st hF 2 rfl fun s40 hF=>?_;refine go ?_;cases pur H;exact rt _
    ·refine bp H (C0 (KU FW FX Dl FY FZ) x78) fun x88 h H=>cl h (go ?_);refine X8 hF rfl fun b41 s42 hF=>go ?_;refine st hF 6 rfl fun s43 hF=>?_;refine go ?_;refine st hF 0 rfl fun s44 hF=>?_;refine go ?_;refine st hF 2 rfl fun s45 hF=>?_;refine go ?_;obtain ⟨E,hEq⟩:∃E,E=EE s45 [b5,b7]:=⟨_,rfl⟩
     have n46:¬E b41:=by rw [hEq];exact K5 (hF.at 0 rfl) (nm2 ⟨neL hF 0 4 rfl rfl (by decide),neL hF 0 3 rfl rfl (by decide)⟩)
     have n47:¬E b36:=by rw [hEq];exact K5 (hF.at 1 rfl) (nm2 ⟨neL hF 1 4 rfl rfl (by decide),neL hF 1 3 rfl rfl (by decide)⟩)
     have n48:¬E b12:=by rw [hEq];exact K5 (hF.at 2 rfl) (nm2 ⟨neL hF 2 4 rfl rfl (by decide),neL hF 2 3 rfl rfl (by decide)⟩)
     have n49:¬E b3:=by rw [hEq];exact K5 (hF.at 5 rfl) (nm2 ⟨neL hF 5 4 rfl rfl (by decide),neL hF 5 3 rfl rfl (by decide)⟩)
     have n50:¬E b1:=by rw [hEq];exact K5 (hF.at 6 rfl) (nm2 ⟨neL hF 6 4 rfl rfl (by decide),neL hF 6 3 rfl rfl (by decide)⟩)
     refine Yj E [.v,.v,.v,.x,.x,.v] (by kernel_rfl) ?_;have z:=K3 (X9 (hF.at 0 rfl) n46) (K3 (X9 (hF.at 1 rfl) n47) (K3 (X9 (hF.at 2 rfl) n48) (K3 (X9 (hF.at 5 rfl) n49) (X9 (hF.at 6 rfl) n50))));refine gh ?_;refine stK hF 4 (by rw [hEq];exact Zd (by simp)) rfl fun s51 hF=>?_;have z:=K3 (X9 (hF.at 0 rfl) n46) (K3 (X9 (hF.at 1 rfl) n47) (K3 (X9 (hF.at 2 rfl) n48) (K3 (X9 (hF.at 5 rfl) n49) (X9 (hF.at 6 rfl) n50))));refine gh ?_;refine stK hF 3 (by rw [hEq];exact Zd (by simp)) rfl fun s52 hF=>?_;have z:=K3 (X9 (hF.at 0 rfl) n46) (K3 (X9 (hF.at 1 rfl) n47) (K3 (X9 (hF.at 2 rfl) n48) (K3 (X9 (hF.at 5 rfl) n49) (X9 (hF.at 6 rfl) n50))));refine gh ?_;refine go ?_;cases pur H;exact rt [.agg [sf K0 x88.1.binds,sf K9 x88.1.macs,i6 x88.1.scope,i6 x88.1.id,i6 x88.1.steps],.agg [i6 5,i6 0,.str zB,i6 0,e32v0,i6 0,.str zB,i6 0,.X4,.X4,.sl true (rws K2 [x88.2.1])],i6 x88.2.2]
   ·intro r hr s' hs;subst hr;cases pur H;exact hsq hs
theorem Nh:∀(a0:Xpn) (a1:Fm) (a2:Int) r,Vf a0 a1 a2=some r->Y7 KZ 96 [.agg (K6 a0),.agg (KY a1),i6 a2] (.tup [.agg (K6 r.1),.agg (K2 r.2.1),i6 r.2.2]):=fun a0 a1 a2=>(Ml a2).1 a0 a1
theorem PW:∀(a0 a1:Int) r,BZ a0 a1=some r->Y7 KZ 102 [i6 a0,i6 a1] (.bool r):=by
 intro a0 a1 r H;intro ss;unfold BZ at H;refine hdh mixed Tryz.func102 (rs:=[.tmp 4]) fun q tT hF hX=>?_;refine go ?_;obtain ⟨Qp8,j2,H⟩:=bnd H;refine V6 (fun s'=>∃(T:TT) (ss1:Sto),s'=⟨T,ss1⟩/\(T 0=i6 a0/\T 1=i6 a1/\T 5=i6 a0/\T 6=.bool Qp8)/\Fx ss ss1 [] []) (cdp j2 (fun h j2=>go ?_) (fun h j2=>go ?_)) ?_
 ·cases pur j2;exact ⟨_,_,rfl,S,hF⟩
 ·refine cdp j2 (fun h j2=>go ?_) (fun h j2=>go ?_)
  ·cases pur j2;exact ⟨_,_,rfl,S,hF⟩
  ·refine cdp j2 (fun h j2=>go ?_) (fun h j2=>go ?_)
   ·cases pur j2;exact ⟨_,_,rfl,S,hF⟩
   ·cases pur j2;exact ⟨_,_,rfl,S,hF⟩
 ·rintro s' ⟨T3,ss4,rfl,tT,hF⟩;refine go ?_;refine cdb H (fun h H=>go ?_) (fun h H=>go ?_)
  ·cases pur H;exact rt _
  ·refine cdp H (fun h H=>go ?_) (fun h H=>go ?_)
   ·cases pur H;exact rt _
   ·refine cdp H (fun h H=>go ?_) (fun h H=>go ?_)
    ·cases pur H;exact rt _
    ·obtain ⟨x26,g6,H⟩:=bnd H;refine Yb 2 24 26 (.bool x26) (gi q (fun q=>go ?_) (fun q=>go ?_)) (fun J=>go ?_)
     ·exact Yq 24 g6
     ·exact Yq 24 g6
     cases pur H;exact rt _
theorem Ng:∀(a0:Cor) r,IY a0=some r->Y7 KZ 103 [.agg (K2 a0)] (.bool r):=by
 intro a0 r H;intro ss;unfold IY at H;refine hdh mixed Tryz.func103 (rs:=[.tmp 2]) fun q tT hF hX=>?_;refine go ?_;refine X8 hF rfl fun b1 ss2 hF=>go ?_;obtain ⟨x15,g3,H⟩:=bnd H;refine Yb 8 7 15 (.bool x15) (gi q (fun q=>?_) (fun q=>?_)) (fun J=>go ?_)
 ·rw [if_pos (dt q)] at g3;refine go ?_;obtain ⟨x14,g5,g3⟩:=bnd g3;refine Yb 3 11 14 (.bool x14) (giN q (fun q=>go ?_) (fun q=>go ?_)) (fun J=>go ?_)
  ·exact Yq 11 g5
  ·exact Yq 11 g5
  exact Yq 7 g3
 ·rw [if_neg (df q)] at g3;refine go ?_;exact Yq 7 g3
 obtain ⟨x25,g7,H⟩:=bnd H;refine Yb 8 17 25 (.bool x25) (giN q (fun q=>?_) (fun q=>?_)) (fun J=>go ?_)
 ·rw [if_neg (dbf q)] at g7;refine go ?_;obtain ⟨x24,g9,g7⟩:=bnd g7;refine Yb 3 21 24 (.bool x24) (gi q (fun q=>go ?_) (fun q=>go ?_)) (fun J=>go ?_)
  ·exact Yq 21 g9
  ·exact Yq 21 g9
  exact Yq 17 g7
 ·rw [if_pos (dbt q)] at g7;refine go ?_;exact Yq 17 g7
 refine cdb H (fun h H=>go ?_) (fun h H=>go ?_)
 ·cases pur H;exact rt _
 ·obtain ⟨x34,g11,H⟩:=bnd H;refine Yb 4 30 34 (.bool x34) (gi q (fun q=>?_) (fun q=>?_)) (fun J=>go ?_)
  ·rw [if_pos (dt q)] at g11;refine go ?_;obtain ⟨x32,hx32,g11⟩:=bnd g11;refine cl (A0 a0.name _ hx32) (go ?_);exact Yq 30 g11
  ·rw [if_neg (df q)] at g11;refine go ?_;exact Yq 30 g11
  obtain ⟨x44,g13,H⟩:=bnd H;refine Yb 8 36 44 (.bool x44) (giN q (fun q=>?_) (fun q=>?_)) (fun J=>go ?_)
  ·rw [if_neg (dbf q)] at g13;refine go ?_;obtain ⟨x43,g15,g13⟩:=bnd g13;refine Yb 3 40 43 (.bool x43) (gi q (fun q=>go ?_) (fun q=>go ?_)) (fun J=>go ?_)
   ·exact Yq 40 g15
   ·exact Yq 40 g15
   exact Yq 36 g13
  ·rw [if_pos (dbt q)] at g13;refine go ?_;exact Yq 36 g13
  refine cdb H (fun h H=>go ?_) (fun h H=>go ?_)
  ·cases pur H;exact rt _
  ·obtain ⟨x57,g17,H⟩:=bnd H;refine Yb 8 49 57 (.bool x57) (gi q (fun q=>?_) (fun q=>?_)) (fun J=>go ?_)
   ·rw [if_pos (dt q)] at g17;refine go ?_;obtain ⟨x56,g19,g17⟩:=bnd g17;refine Yb 3 53 56 (.bool x56) (giN q (fun q=>go ?_) (fun q=>go ?_)) (fun J=>go ?_)
    ·exact Yq 53 g19
    ·exact Yq 53 g19
    exact Yq 49 g17
   ·rw [if_neg (df q)] at g17;refine go ?_;exact Yq 49 g17
   obtain ⟨x67,g21,H⟩:=bnd H;refine Yb 8 59 67 (.bool x67) (giN q (fun q=>?_) (fun q=>?_)) (fun J=>go ?_)
   ·rw [if_neg (dbf q)] at g21;refine go ?_;obtain ⟨x66,g23,g21⟩:=bnd g21;refine Yb 3 63 66 (.bool x66) (gi q (fun q=>go ?_) (fun q=>go ?_)) (fun J=>go ?_)
    ·exact Yq 63 g23
    ·exact Yq 63 g23
    exact Yq 59 g21
   ·rw [if_pos (dbt q)] at g21;refine go ?_;exact Yq 59 g21
   refine cdb H (fun h H=>go ?_) (fun h H=>go ?_)
   ·cases pur H;exact rt _
   ·refine Yj E0 [.v,.v,.v,.v,.v,.v,.v,.v,.v,.v,.v,.v,.v,.v,.v,.v,.v,.v,.v,.v,.v,.v,.v,.v,.v,.v,.v,.v,.v,.v] (by kernel_rfl) (go ?_);obtain ⟨x85,g25,H⟩:=bnd H;refine V5 13 72 85 (.bool x85) (ti q (fun q=>?_) (fun q=>?_)) (fun J=>go ?_)
    ·rw [if_pos (dt q)] at g25;refine go ?_;obtain ⟨x74,hx74,g25⟩:=bnd g25;refine cv (YW a0.data _ hx74) (go ?_);obtain ⟨x84,g27,g25⟩:=bnd g25;refine V5 7 77 84 (.bool x84) (tiN q (fun q=>?_) (fun q=>?_)) (fun J=>go ?_)
     ·rw [if_neg (dbf q)] at g27;refine go ?_;obtain ⟨x79,hx79,g27⟩:=bnd g27;refine cv (C8 a0.data _ hx79) (go ?_);obtain ⟨x82,hx82,g27⟩:=bnd g27;refine cv (Hh x79 a0.data _ hx82) (go ?_);exact Yq 77 g27
     ·rw [if_pos (dbt q)] at g27;refine go ?_;exact Yq 77 g27
     exact Yq 72 g25
    ·rw [if_neg (df q)] at g25;refine go ?_;exact Yq 72 g25
    obtain ⟨x97,g29,H⟩:=bnd H;refine V5 10 87 97 (.bool x97) (tiN q (fun q=>?_) (fun q=>?_)) (fun J=>go ?_)
    ·rw [if_neg (dbf q)] at g29;refine go ?_;obtain ⟨x96,g31,g29⟩:=bnd g29;refine V5 5 91 96 (.bool x96) (ti q (fun q=>?_) (fun q=>?_)) (fun J=>go ?_)
     ·rw [if_neg (dnt q)] at g31;refine go ?_;obtain ⟨x94,hx94,g31⟩:=bnd g31;refine cv (Hh a0.data (Fm.mk 0 zB 0 [] []) _ hx94) (go ?_);exact Yq 91 g31
     ·rw [if_pos (dnf q)] at g31;refine go ?_;exact Yq 91 g31
     exact Yq 87 g29
    ·rw [if_pos (dbt q)] at g29;refine go ?_;exact Yq 87 g29
    refine cdb H (fun h H=>go ?_) (fun h H=>go ?_)
    ·cases pur H;exact rt _
    ·obtain ⟨x106,g33,H⟩:=bnd H;refine Yb 4 102 106 (.bool x106) (giN q (fun q=>go ?_) (fun q=>go ?_)) (fun J=>go ?_)
     ·exact Yq 102 g33
     ·exact Yq 102 g33
     cases pur H;exact rt _
theorem OI:∀(a0:Cor) (a2:Int) (Yt:List Int) (YK:Int) out,Hr a0 a2 Yt YK=some out->∀c,Yf Tryz.f67 0=some c->∀(Q:QT) (tt:Sto) (b1:Nat),(∀(Qgt:List Int),out=Sum.inr Qgt->∀(T:TT) (ss:Sto),T 2=i6 a2/\T 3=.ptr b1 0/\T 7=sf cI Qgt->Fx tt ss [(b1,⟨31,11,[i6 a0.kind,i6 a0.id,.str a0.name,i6 a0.num,sf cI a0.ids,i6 a0.data.kind,.str a0.data.name,i6 a0.data.num,sf cI a0.data.sc,sf KY a0.data.kids,sf K2 a0.kids]⟩)] []->Q (.ex 0) ⟨T,ss⟩)->(∀r,out=Sum.inl r->∀s',I6 KZ [.tmp 6] (fun r' ss'=>r'=.bool r/\ss'=tt) s'->Q .ret s')->∀(T:TT) (ss:Sto),T 2=i6 a2/\T 3=.ptr b1 0/\T 7=sf cI Yt/\T 8=i6 YK->Fx tt ss [(b1,⟨31,11,[i6 a0.kind,i6 a0.id,.str a0.name,i6 a0.num,sf cI a0.ids,i6 a0.data.kind,.str a0.data.name,i6 a0.data.num,sf cI a0.data.sc,sf KY a0.data.kids,sf K2 a0.kids]⟩)] []->aLp KZ c Q ⟨T,ss⟩:=by
 intro a0 a2 Yt YK;revert Yt YK;refine Hr.partial_correctness a0 a2 _ ?_;intro Hr IH Yt YK out H c hc Q tt b1 hE hR T ss tT hF;refine lpx tt hc rfl fun q hX=>go ?_;refine cdp H (fun h H=>?_) (fun h H=>go ?_)
 ·obtain ⟨x49,f1,H⟩:=bil (g:=cI) (fun _=>rfl) H;refine go1 ?_;obtain ⟨x59,g11,H⟩:=bnd H;refine Yb 6 53 59 (.bool x59) (giN q (fun q=>?_) (fun q=>?_)) (fun J=>go ?_)
  ·rw [if_neg (df q)] at g11;obtain ⟨x56,f1,g11⟩:=bil (g:=cI) (fun _=>rfl) g11;refine go1 ?_;refine go ?_;exact Yq 53 g11
  ·rw [if_pos (dt q)] at g11;refine go ?_;exact Yq 53 g11
  obtain ⟨x68,g13,H⟩:=bnd H;refine Yb 7 61 68 (.bool x68) (giN q (fun q=>?_) (fun q=>?_)) (fun J=>go ?_)
  ·rw [if_neg (dbf q)] at g13;obtain ⟨x65,f1,g13⟩:=bil (g:=cI) (fun _=>rfl) g13;refine go1 ?_;obtain ⟨x67,hx67,g13⟩:=bnd g13;refine cl (AL Yt x65 _ hx67) (go ?_);exact Yq 61 g13
  ·rw [if_pos (dbt q)] at g13;refine go ?_;exact Yq 61 g13
  refine cdb H (fun h H=>go ?_) (fun h H=>go ?_)
  ·exact wq (hR _ (pur H).symm _ (rt _))
  ·refine FQ E0 [.v,.v,.v,.v,.v,.v,.v,.v,.x,.x,.v] [0,1,3,4,5,6,7,8,2,9,10] (by kernel_rfl) ?_;obtain ⟨x75,f1,H⟩:=bil (g:=cI) (fun _=>rfl) H;refine go1 ?_;have hF:=hF.lit 3 1 (rws cI []) rfl;refine NN (g:=cI) hF 0 H (rdo (c:=false) (g:=cI) (fun _=>rfl)) fun x71 H v15 s16 hF=>go ?_;refine Qvk (g:=cI) hF 0 H (rdo (c:=true) (g:=cI) (fun _=>rfl)) fun x78 H s18 hF=>go ?_;exact IH  x78 (i64.wrap (YK+1)) _ H _ rfl Q tt b1 hE hR _ _  S hF
 ·exact wq (hE _ (pur H).symm _ _  S hF)
theorem TW:∀(a0:Cor) (a1:List Int) (a2:Int) r,AN a0 a1 a2=some r->Y7 KZ 67 [.agg (K2 a0),sf cI a1,i6 a2] (.bool r):=by
 refine AN.partial_correctness _ (motive_2:=fun a0 a2 Ao HZ out=>∀c,Yf Tryz.f67 1=some c->∀(Q:QT) (tt:Sto) (b1:Nat),(∀(_u:Unit),out=Sum.inr ()->∀(T:TT) (ss:Sto),0+0=0->Fx tt ss [(b1,⟨31,11,[i6 a0.kind,i6 a0.id,.str a0.name,i6 a0.num,sf cI a0.ids,i6 a0.data.kind,.str a0.data.name,i6 a0.data.num,sf cI a0.data.sc,sf KY a0.data.kids,sf K2 a0.kids]⟩)] []->Q (.ex 2) ⟨T,ss⟩)->(∀r,out=Sum.inl r->∀s',I6 KZ [.tmp 6] (fun r' ss'=>r'=.bool r/\ss'=tt) s'->Q .ret s')->∀(T:TT) (ss:Sto),T 2=i6 a2/\T 3=.ptr b1 0/\T 7=sf cI Ao/\T 9=i6 HZ->Fx tt ss [(b1,⟨31,11,[i6 a0.kind,i6 a0.id,.str a0.name,i6 a0.num,sf cI a0.ids,i6 a0.data.kind,.str a0.data.name,i6 a0.data.num,sf cI a0.data.sc,sf KY a0.data.kids,sf K2 a0.kids]⟩)] []->aLp KZ c Q ⟨T,ss⟩) ?_ ?_
 ·intro H4 L0 a0 a1 a2 r H;intro ss;refine hdh mixed Tryz.func67 (rs:=[.tmp 6]) fun q tT hF hX=>?_;refine go ?_;refine X8 hF rfl fun b1 ss2 hF=>go ?_;obtain ⟨x20,g3,H⟩:=bnd H;refine Yb 7 13 20 (.bool x20) (giN q (fun q=>?_) (fun q=>?_)) (fun J=>go ?_)
  ·rw [if_neg (df q)] at g3;refine go ?_;obtain ⟨x18,hx18,g3⟩:=bnd g3;refine cl (PW a0.kind (a0.kids.length:Int) _ hx18) (go ?_);exact Yq 13 g3
  ·rw [if_pos (dt q)] at g3;refine go ?_;exact Yq 13 g3
  obtain ⟨x25,g5,H⟩:=bnd H;refine Yb 3 22 25 (.bool x25) (giN q (fun q=>?_) (fun q=>?_)) (fun J=>go ?_)
  ·rw [if_neg (dbf q)] at g5;refine go ?_;obtain ⟨x23,hx23,g5⟩:=bnd g5;refine cl (Ng a0 _ hx23) (go ?_);exact Yq 22 g5
  ·rw [if_pos (dbt q)] at g5;refine go ?_;exact Yq 22 g5
  obtain ⟨x37,g7,H⟩:=bnd H;refine Yb 10 27 37 (.bool x37) (giN q (fun q=>?_) (fun q=>?_)) (fun J=>go ?_)
  ·rw [if_neg (dbf q)] at g7;refine go ?_;obtain ⟨x36,g9,g7⟩:=bnd g7;refine Yb 5 31 36 (.bool x36) (gi q (fun q=>?_) (fun q=>?_)) (fun J=>go ?_)
   ·rw [if_pos (dt q)] at g9;refine go ?_;obtain ⟨x34,hx34,g9⟩:=bnd g9;refine cl (AL a1 a0.id _ hx34) (go ?_);exact Yq 31 g9
   ·rw [if_neg (df q)] at g9;refine go ?_;exact Yq 31 g9
   exact Yq 27 g7
  ·rw [if_pos (dbt q)] at g7;refine go ?_;exact Yq 27 g7
  refine cdb H (fun h H=>go ?_) (fun h H=>go ?_)
  ·cases pur H;exact rt _
  ·obtain ⟨o19,ho19,H⟩:=bnd H;refine OI a0 a2 a1 0 _ ho19 _ rfl _ _ b1 ?_ ?_ _ _  S hF
   ·intro Ao he T21 s22 tT hF;have he:=he.symm;subst he
    try dsimp only at H
    refine go ?_;obtain ⟨o24,ho24,H⟩:=bnd H;refine L0 a0 a2 Ao 0 _ ho24 _ rfl _ _ b1 ?_ ?_ _ _  S hF
    ·intro _ he T26 s27 tT hF;have he:=he.symm;subst he
     try dsimp only at H
     refine go ?_;cases pur H;exact rt _
    ·intro r hr s' hs;subst hr;cases pur H;exact hsq hs
   ·intro r hr s' hs;subst hr;cases pur H;exact hsq hs
 ·intro AN H4 C0 L0 a0 a2 Ao HZ out H c hc Q tt b1 hE hR T ss tT hF;refine lpx tt hc rfl fun q hX=>go ?_;refine cdp H (fun h H=>?_) (fun h H=>go ?_)
  ·obtain ⟨x89,f1,H⟩:=bil (g:=K2) Cor.X6 H;refine go1 ?_;obtain ⟨x94,hx94,H⟩:=bnd H;refine cl (C0 x89 Ao (i64.wrap (a2 - 1)) _ hx94) (go ?_);refine cdb H (fun h H=>go ?_) (fun h H=>go ?_)
   ·exact wq (hR _ (pur H).symm _ (rt _))
   ·exact L0 a0 a2 Ao (i64.wrap (HZ+1)) _ H _ rfl Q tt b1 hE hR _ _  S hF
  ·exact wq (hE () (pur H).symm _ _  S hF)
theorem OH:∀(a0:Cor) r,H3 a0=some r->Y7 KZ 68 [.agg (K2 a0)] (i6 r):=by
 refine H3.partial_correctness _ (motive_2:=fun a0 Yw YJ out=>∀c,Yf Tryz.f68 0=some c->∀(Q:QT) (tt:Sto) (b1:Nat),(∀(NY:Int),out=NY->∀(T:TT) (ss:Sto),T 3=i6 NY->Fx tt ss [(b1,⟨31,11,[i6 a0.kind,i6 a0.id,.str a0.name,i6 a0.num,sf cI a0.ids,i6 a0.data.kind,.str a0.data.name,i6 a0.data.num,sf cI a0.data.sc,sf KY a0.data.kids,sf K2 a0.kids]⟩)] []->Q (.ex 0) ⟨T,ss⟩)->True->∀(T:TT) (ss:Sto),T 1=.ptr b1 0/\T 3=i6 Yw/\T 4=i6 YJ->Fx tt ss [(b1,⟨31,11,[i6 a0.kind,i6 a0.id,.str a0.name,i6 a0.num,sf cI a0.ids,i6 a0.data.kind,.str a0.data.name,i6 a0.data.num,sf cI a0.data.sc,sf KY a0.data.kids,sf K2 a0.kids]⟩)] []->aLp KZ c Q ⟨T,ss⟩) ?_ ?_
 ·intro JP L0 a0 r H;intro ss;refine hdh mixed Tryz.func68 (rs:=[.tmp 2]) fun q tT hF hX=>?_;refine go ?_;refine X8 hF rfl fun b1 ss2 hF=>go ?_;obtain ⟨o3,ho3,H⟩:=bnd H;refine L0 a0 1 0 _ ho3 _ rfl _ _ b1 ?_ ?_ _ _  S hF
  ·intro UL he T5 ss6 tT hF;have he:=he.symm;subst he;refine go ?_;cases pur H;exact rt _
  ·trivial
 ·intro H3 JP C0 L0 a0 Yw YJ out H c hc Q tt b1 hE hR T ss tT hF;refine lpx tt hc rfl fun q hX=>go ?_;refine cdp H (fun h H=>?_) (fun h H=>go ?_)
  ·obtain ⟨x16,f1,H⟩:=bil (g:=K2) Cor.X6 H;refine go1 ?_;refine bp H (C0 x16) fun x18 h H=>cl h (go ?_);exact L0 a0 (i64.wrap (Yw+x18)) (i64.wrap (YJ+1)) _ H _ rfl Q tt b1 hE hR _ _  S hF
  ·exact wq (hE _ (pur H).symm _ _  S hF)
theorem C6:∀(a0:Cor) r,Ir a0=some r->Y7 KZ 40 [.agg (K2 a0)] (.bool r):=by
 intro a0 r H;intro ss;unfold Ir at H;refine hdh mixed Tryz.func40 (rs:=[.tmp 2]) fun q tT hF hX=>?_;refine go ?_;refine X8 hF rfl fun b1 ss2 hF=>go ?_;refine bp H (TW a0 [] 120) fun x5 h H=>cl h (go ?_);obtain ⟨x10,g3,H⟩:=bnd H;refine Yb 3 7 10 (.bool x10) (gi q (fun q=>?_) (fun q=>?_)) (fun J=>go ?_)
 ·rw [if_pos (dbt q)] at g3;refine go ?_;obtain ⟨x8,hx8,g3⟩:=bnd g3;refine cl (OH a0 _ hx8) (go ?_);exact Yq 7 g3
 ·rw [if_neg (dbf q)] at g3;refine go ?_;exact Yq 7 g3
 cases pur H;exact rt _
theorem SG:∀(a0:Fm) (a1:Int) r,Dd a0 a1=some r->Y7 KZ 62 [.agg (KY a0),i6 a1] (.tup [.agg (K6 r.1),.agg (K2 r.2.1),i6 r.2.2]):=by
 intro a0 a1 r H;intro ss;unfold Dd at H;refine hdh mixed Tryz.func62 (rs:=[.cell 4 94,.cell 5 31,.tmp 6]) fun q tT hF hX=>?_;refine go ?_;refine X8 hF rfl fun b1 ss2 hF=>go ?_;refine X8 hF rfl fun b3 ss4 hF=>go ?_;refine X8 hF rfl fun b5 ss6 hF=>go ?_;refine bp H (YW a0) fun x11 h H=>cl h (go ?_);obtain ⟨x16,g7,H⟩:=bnd H;refine Yb 2 14 16 (.bool x16) (giN q (fun q=>go ?_) (fun q=>go ?_)) (fun J=>go ?_)
 ·exact Yq 14 g7
 ·exact Yq 14 g7
 obtain ⟨x20,g9,H⟩:=bnd H;refine Yb 2 18 20 (.bool x20) (giN q (fun q=>go ?_) (fun q=>go ?_)) (fun J=>go ?_)
 ·exact Yq 18 g9
 ·exact Yq 18 g9
 refine cdb H (fun h H=>go ?_) (fun h H=>go ?_)
 ·refine st hF 1 rfl fun s11 hF=>?_;refine go ?_;refine st hF 0 rfl fun s12 hF=>?_;refine go ?_;cases pur H;exact rt _
 ·obtain ⟨E,hEq⟩:∃E,E=EE ss6 []:=⟨_,rfl⟩
  have n13:¬E b5:=by rw [hEq];exact K5 (hF.at 0 rfl) (by simp)
  have n14:¬E b3:=by rw [hEq];exact K5 (hF.at 1 rfl) (by simp)
  have n15:¬E b1:=by rw [hEq];exact K5 (hF.at 2 rfl) (by simp)
  refine Yj E [.v,.v,.v,.v,.v,.v,.v,.v,.x,.x,.x,.x,.v] (by kernel_rfl) ?_;have z:=K3 (X9 (hF.at 0 rfl) n13) (K3 (X9 (hF.at 1 rfl) n14) (X9 (hF.at 2 rfl) n15));refine gh ?_;refine bp H (D1 ) fun x24 h H=>cv h ?_;have z:=K3 (X9 (hF.at 0 rfl) n13) (K3 (X9 (hF.at 1 rfl) n14) (X9 (hF.at 2 rfl) n15));refine gh ?_;refine bp H (Nh x24 a0 a1) fun x27 h H=>cv h ?_;have z:=K3 (X9 (hF.at 0 rfl) n13) (K3 (X9 (hF.at 1 rfl) n14) (X9 (hF.at 2 rfl) n15));refine gh ?_;refine BL hF rfl fun b16 s17 nw18 mo19 hF=>?_;have z:=K3 (X9 (hF.at 1 rfl) n13) (K3 (X9 (hF.at 2 rfl) n14) (X9 (hF.at 3 rfl) n15));refine gh ?_;refine BL hF rfl fun b20 s21 nw22 mo23 hF=>?_;have z:=K3 (X9 (hF.at 2 rfl) n13) (K3 (X9 (hF.at 3 rfl) n14) (X9 (hF.at 4 rfl) n15));refine gh ?_;refine stK hF 1 (show E _ from ((em0 hEq) _ nw18)) rfl fun s24 hF=>?_;have z:=K3 (X9 (hF.at 2 rfl) n13) (K3 (X9 (hF.at 3 rfl) n14) (X9 (hF.at 4 rfl) n15));refine gh ?_;refine stK hF 0 (show E _ from ((fun x h=>(em0 hEq) x (mo19 x h)) _ nw22)) rfl fun s25 hF=>?_;have z:=K3 (X9 (hF.at 2 rfl) n13) (K3 (X9 (hF.at 3 rfl) n14) (X9 (hF.at 4 rfl) n15));refine gh ?_;refine go ?_;refine cdn H (fun h H=>go ?_) (fun h H=>go ?_)
  ·refine st hF 3 rfl fun s26 hF=>?_;refine go ?_;refine st hF 2 rfl fun s27 hF=>?_;refine go ?_;cases pur H;exact rt _
  ·refine bp H (C6 x27.2.1) fun x37 h H=>cl h (go ?_);refine cdb H (fun h H=>go ?_) (fun h H=>go ?_)
   ·refine st hF 3 rfl fun s28 hF=>?_;refine go ?_;refine st hF 2 rfl fun s29 hF=>?_;refine go ?_;cases pur H;exact rt _
   ·obtain ⟨E,hEq⟩:∃E,E=EE s25 [b3,b5]:=⟨_,rfl⟩
    have n30:¬E b20:=by rw [hEq];exact K5 (hF.at 0 rfl) (nm2 ⟨neL hF 0 3 rfl rfl (by decide),neL hF 0 2 rfl rfl (by decide)⟩)
    have n31:¬E b16:=by rw [hEq];exact K5 (hF.at 1 rfl) (nm2 ⟨neL hF 1 3 rfl rfl (by decide),neL hF 1 2 rfl rfl (by decide)⟩)
    have n32:¬E b1:=by rw [hEq];exact K5 (hF.at 4 rfl) (nm2 ⟨neL hF 4 3 rfl rfl (by decide),neL hF 4 2 rfl rfl (by decide)⟩)
    refine Yj E [.v,.v,.x,.x,.v] (by kernel_rfl) ?_;have z:=K3 (X9 (hF.at 0 rfl) n30) (K3 (X9 (hF.at 1 rfl) n31) (X9 (hF.at 4 rfl) n32));refine gh ?_;refine stK hF 3 (by rw [hEq];exact Zd (by simp)) rfl fun s33 hF=>?_;have z:=K3 (X9 (hF.at 0 rfl) n30) (K3 (X9 (hF.at 1 rfl) n31) (X9 (hF.at 4 rfl) n32));refine gh ?_;refine stK hF 2 (by rw [hEq];exact Zd (by simp)) rfl fun s34 hF=>?_;have z:=K3 (X9 (hF.at 0 rfl) n30) (K3 (X9 (hF.at 1 rfl) n31) (X9 (hF.at 4 rfl) n32));refine gh ?_;refine go ?_;cases pur H;exact rt [.agg [sf K0 x27.1.binds,sf K9 x27.1.macs,i6 x27.1.scope,i6 x27.1.id,i6 x27.1.steps],.agg [i6 x27.2.1.kind,i6 x27.2.1.id,.str x27.2.1.name,i6 x27.2.1.num,sf cI x27.2.1.ids,i6 x27.2.1.data.kind,.str x27.2.1.data.name,i6 x27.2.1.data.num,sf cI x27.2.1.data.sc,sf KY x27.2.1.data.kids,sf K2 x27.2.1.kids],i6 0]
theorem Le:∀(a0:Fm) (a1:Int) r,IE a0 a1=some r->Y7 KZ 37 [.agg (KY a0),i6 a1] (.tup [.agg (K2 r.1),i6 r.2]):=by
 intro a0 a1 r H;intro ss;unfold IE at H;refine hdh mixed Tryz.func37 (rs:=[.cell 4 31,.tmp 5]) fun q tT hF hX=>?_;refine go ?_;refine X8 hF rfl fun b1 ss2 hF=>go ?_;refine X8 hF rfl fun b3 ss4 hF=>go ?_;refine bp H (SG a0 a1) fun x12 h H=>cl h (go ?_);refine X8 hF rfl fun b5 ss6 hF=>go ?_;refine X8 hF rfl fun b7 s8 hF=>go ?_;refine st hF 1 rfl fun s9 hF=>?_;refine go ?_;refine st hF 0 rfl fun s10 hF=>?_;refine go ?_;refine bp H (CL x12.2.1) fun x17 h H=>cl h (go ?_);refine st hF 2 rfl fun s11 hF=>?_;refine go ?_;cases pur H;exact rt _
theorem ET:∀(a0:List Int) r,GR a0=some r->Y7 KZ 18 [sf cU a0] (.tup [.agg (K2 r.1),i6 r.2]):=by
 intro a0 r H;intro ss;unfold GR at H;refine hdh mixed Tryz.func18 (rs:=[.cell 2 31,.tmp 3]) fun q tT hF hX=>?_;refine go ?_;refine X8 hF rfl fun b1 ss2 hF=>go ?_;obtain ⟨x8,hx8,H⟩:=bnd H;refine cx (El a0 _ hx8   _ (pre 0 0 0 hF hX)) ?_;rintro _ ss4 ⟨tt5,b3,rfl,hT,hG⟩;have nw7:ss2.var b3=none:=(hT.off b3 (by simp)).symm.trans (hG.var _ (List.mem_cons_self ..)).2.1;have hF:=Pm 0 0 hF hX hT hG;refine go ?_;obtain ⟨x10,hx10,H⟩:=bnd H;refine cx (Ym 4 x8 _ hx10 b3  _ (pre 1 0 0 hF hX)) ?_;rintro _ s8 ⟨tt9,rfl,hT,hG⟩;have hF:=Pm 1 0 hF hX hT hG;refine go ?_;refine cdp H (fun h H=>go ?_) (fun h H=>go ?_)
 ·refine bp H (E9 a0) fun x13 h H=>cl h (go ?_);refine st hF 1 rfl fun s11 hF=>?_;refine go ?_;cases pur H;exact rt _
 ·obtain ⟨x16,hx16,H⟩:=bnd H;refine cx (P4 x10.2 _ hx16 b3  _ (pre 1 0 0 hF hX)) ?_;rintro _ s12 ⟨t13,rfl,hT,hG⟩;have hF:=Pm 1 0 hF hX hT hG;refine go ?_;refine bp H (Le x16.1 20) fun x17 h H=>cl h (go ?_);refine X8 hF rfl fun b15 s16 hF=>go ?_;refine st hF 0 rfl fun s17 hF=>?_;refine go ?_;obtain ⟨⟨Nx,Ny,Lv,Nz,NA,NB,NC,ND,NF,NG,NH⟩,j19,H⟩:=bnd H;refine V6 (fun s'=>∃(T:TT) (ss1:Sto),s'=⟨T,ss1⟩/\(T 2=.ptr b1 0/\T 4=.ptr b3 0/\T 5=.ptr b15 0)/\Fx ss ss1 [(b15,⟨31,11,[i6 Nx,i6 Ny,.str Nz,i6 NA,sf cI NB,i6 NC,.str ND,i6 NF,sf cI NG,sf KY NH,sf K2 Lv]⟩),(b3,⟨88,2,[sf cU x16.2.b,i6 x16.2.p]⟩),(b1,⟨31,11,[i6 0,i6 0,.str zB,i6 0,.X4,i6 0,.str zB,i6 0,.X4,.X4,.X4]⟩)] []) (cdn j19 (fun h j19=>go ?_) (fun h j19=>go ?_)) ?_
  ·obtain ⟨x23,hx23,j19⟩:=bnd j19;refine cl (E9 a0 _ hx23) (go ?_);refine st hF 0 rfl fun s20 hF=>?_;refine go ?_;cases pur j19;exact ⟨_,_,rfl,S,hF⟩
  ·cases pur j19;exact ⟨_,_,rfl,S,hF⟩
  ·rintro s' ⟨T21,s22,rfl,tT,hF⟩;refine go ?_;obtain ⟨E,hEq⟩:∃E,E=EE s22 [b3,b1]:=⟨_,rfl⟩
   have n24:¬E b15:=by rw [hEq];exact K5 (hF.at 0 rfl) (nm2 ⟨neL hF 0 1 rfl rfl (by decide),neL hF 0 2 rfl rfl (by decide)⟩)
   refine Yj E [.v,.v,.v,.x,.x,.v] (by kernel_rfl) ?_;have z:=X9 (hF.at 0 rfl) n24;refine gh ?_;have hF:=pck hF [1,0,2] [];obtain ⟨x27,hx27,H⟩:=bnd H;refine cx (YI [500,100,20,5,0,3001] x16.2 _ hx27 b3  _ (pre 1 0 0 hF hX)) ?_;rintro _ s25 ⟨t26,rfl,hT,hG⟩
   refine AB (Fx.kept hT hG (by intro p hp;simp only [List.mem_cons,List.not_mem_nil,or_false] at hp<;>first | (rcases hp with rfl<;>(rw [hEq];first | (refine Zd ?_;simp;done) | exact EE.new nw7))| cases hp)) fun kp28=>?_
   have hF:=Pm 1 0 hF hX hT hG;have z:=X9 (hF.at 1 rfl) n24;refine gh ?_;refine stK hF 2 (by rw [hEq];exact Zd (by simp)) rfl fun s29 hF=>?_;have z:=X9 (hF.at 1 rfl) n24;refine gh ?_;refine go ?_;cases pur H;exact rt [.agg [i6 Nx,i6 Ny,.str Nz,i6 NA,sf cI NB,i6 NC,.str ND,i6 NF,sf cI NG,sf KY NH,sf K2 Lv],i6 x27.1]
theorem Hw:∀(a0 a1 a2:Int) r,Wv a0 a1 a2=some r->Y7 KZ 28 [i6 a0,i6 a1,i6 a2] (.bool r):=by
 intro a0 a1 a2 r H;intro ss;unfold Wv at H;refine hdh mixed Tryz.func28 (rs:=[.tmp 6]) fun q tT hF hX=>?_;refine go ?_;obtain ⟨x14,g1,H⟩:=bnd H;refine Yb 3 11 14 (.bool x14) (gi q (fun q=>go ?_) (fun q=>go ?_)) (fun J=>go ?_)
 ·exact Yq 11 g1
 ·exact Yq 11 g1
 cases pur H;exact rt _
theorem Ch:∀(a0:List Int) (a1 YK:Int) out,Va a0 a1 YK=some out->∀c,Yf Tryz.f106 0=some c->∀(Q:QT) (tt:Sto),(∀(_u:Unit),out=Sum.inr ()->∀(T:TT) (ss:Sto),0+0=0->Fx tt ss [] []->Q (.ex 0) ⟨T,ss⟩)->(∀r,out=Sum.inl r->∀s',I6 KZ [.tmp 4] (fun r' ss'=>r'=i6 r/\ss'=tt) s'->Q .ret s')->∀(T:TT) (ss:Sto),T 0=sf cI a0/\T 1=i6 a1/\T 7=i6 (a0.length:Int)/\T 8=i6 YK->Fx tt ss [] []->aLp KZ c Q ⟨T,ss⟩:=by
 intro a0 a1 YK;revert YK;refine Va.partial_correctness a0 a1 _ ?_;intro Va IH YK out H c hc Q tt  hE hR T ss tT hF;refine lpx tt hc rfl fun q hX=>go ?_;refine cdp H (fun h H=>?_) (fun h H=>go ?_)
 ·obtain ⟨x14,f1,H⟩:=bil (g:=cI) (fun _=>rfl) H;refine go1 ?_;refine go ?_;refine cdp H (fun h H=>go ?_) (fun h H=>go ?_)
  ·exact wq (hR _ (pur H).symm _ (rt _))
  ·exact IH  (i64.wrap (YK+1)) _ H _ rfl Q tt  hE hR _ _  S hF
 ·exact wq (hE () (pur H).symm _ _  S hF)
theorem Dx:∀(a0:List Int) (a1:Int) r,HI a0 a1=some r->Y7 KZ 106 [sf cI a0,i6 a1] (i6 r):=by
 intro a0 a1 r H;intro ss;unfold HI at H;refine hdh mixed Tryz.func106 (rs:=[.tmp 4]) fun q tT hF hX=>?_;refine go ?_;obtain ⟨o1,ho1,H⟩:=bnd H;refine Ch a0 a1 0 _ ho1 _ rfl _ _  ?_ ?_ _ _  S hF
 ·intro _ he T3 ss4 tT hF;have he:=he.symm;subst he
  try dsimp only at H
  refine go ?_;cases pur H;exact rt _
 ·intro r hr s' hs;subst hr;cases pur H;exact hsq hs
theorem I0:∀(a0:List Int) (a1:Int) r,Vw a0 a1=some r->Y7 KZ 73 [sf cI a0,i6 a1] (.bool r):=by
 intro a0 a1 r H;intro ss;unfold Vw at H;refine hdh mixed Tryz.func73 (rs:=[.tmp 4]) fun q tT hF hX=>?_;refine go ?_;refine bp H (Dx a0 a1) fun x7 h H=>cl h (go ?_);cases pur H;exact rt _
set_option maxHeartbeats 1000000 in
set_option maxRecDepth 100000 in
theorem Qom (s:ByteArray) (c:Int) (w:World) :
  Calls KZ 129 #[.string s,.int .u8 c] w fun e w'=>e=.returned (Value.int .i64 (Lib.indexByte s.data.toList c.toNat.toUInt8))/\w'=w:=by
 go_enter Tryz.func129,Tryz.ntmps129
 go_wp2
 rw [run_callFunc_extern Tryz.func146 (by kernel_rfl) (by kernel_rfl) (by kernel_rfl) (e:=Extern.BytealgIndexByte.indexByte) (by kernel_rfl),Lib.run_indexByteString];simp only [Result.andThen];rw [Oper.upon_value]
 go_wp2
 go_ret
 exact ⟨rfl,rfl⟩
set_option maxHeartbeats 1000000 in
theorem Qr8 (s:ByteArray) (c:Int) (w:World) :
  Calls KZ 107 #[.string s,.int .u8 c] w fun e w'=>e=.returned (Value.int .i64 (Lib.indexByte s.data.toList c.toNat.toUInt8))/\w'=w:=by
 go_enter Tryz.func107,Tryz.ntmps107
 go_wp2_with (go_at_call 129;refine (Qom _ _ _).mono ?_;rintro e w' ⟨rfl,rfl⟩)
 go_ret
 exact ⟨rfl,rfl⟩
theorem Qr6 {P : Program} {f : FuncId} {fn : Func} (hf : P.funcs[f]? = some fn) (hb : fn.body.isNone = false) (hn : (fn.name == "runtime.NumGoroutine") = false) {s : ByteArray} {c r : Int}
  (h:∀w,Calls P f #[.string s,.int .u8 c] w fun e w'=>e=.returned (Value.int .i64 r)/\w'=w):Y7 P f [.str s,.int .u8 c] (i6 r):=by
 intro ss;refine ⟨⟨fn,hf,hb,hn⟩,fun w cargs hsim htb hl hr=>?_⟩;have h0:=hr 0 _ rfl;have h1:=hr 1 _ rfl
 match cargs,hl with
 | [x,y],_ =>
  simp only [List.getD_cons_zero,List.getD_cons_succ] at h0 h1;cases h0;cases h1;refine (h w).mono ?_;rintro e w' ⟨rfl,rfl⟩;exact ⟨_,_,ss,rfl,Step.refl _ _,hsim,.int,rfl,rfl⟩
theorem EY:∀(a0:ByteArray) (a1:Int) r,IZ a0 a1=some r->Y7 KZ 107 [.str a0,.int .u8 a1] (i6 r):=by
 intro a0 a1 r H
 injection H with H
 subst H;exact Qr6 Tryz.func107 (by kernel_rfl) (by kernel_rfl) (Qr8 a0 a1)
theorem EO:∀(a0:ByteArray) (Yw:Int) out,VC a0 Yw=some out->∀c,Yf Tryz.f74 0=some c->∀(Q:QT) (tt:Sto),(∀(_u:Unit),out=Sum.inr ()->∀(T:TT) (ss:Sto),T 0=.str a0->Fx tt ss [] []->Q (.ex 0) ⟨T,ss⟩)->(∀r,out=Sum.inl r->∀s',I6 KZ [.tmp 2] (fun r' ss'=>r'=.bool r/\ss'=tt) s'->Q .ret s')->∀(T:TT) (ss:Sto),T 0=.str a0/\T 3=i6 Yw->Fx tt ss [] []->aLp KZ c Q ⟨T,ss⟩:=by
 intro a0 Yw;revert Yw;refine VC.partial_correctness a0 _ ?_;intro VC IH Yw out H c hc Q tt  hE hR T ss tT hF;refine lpx tt hc rfl fun q hX=>go ?_;refine cdp H (fun h H=>?_) (fun h H=>go ?_)
 ·obtain ⟨x19,f1,H⟩:=bsx H;refine go1 ?_;refine go ?_;obtain ⟨x26,g3,H⟩:=bnd H;refine Yb 2 24 26 (.bool x26) (gi q (fun q=>go ?_) (fun q=>go ?_)) (fun J=>go ?_)
  ·exact Yq 24 g3
  ·exact Yq 24 g3
  obtain ⟨x31,g5,H⟩:=bnd H;refine Yb 3 28 31 (.bool x31) (giN q (fun q=>?_) (fun q=>?_)) (fun J=>go ?_)
  ·rw [if_neg (dbf q)] at g5;refine go ?_;obtain ⟨x29,hx29,g5⟩:=bnd g5;refine cl (EY (ByteArray.mk #[42,63,61,43,60]) x19 _ hx29) (go ?_);exact Yq 28 g5
  ·rw [if_pos (dbt q)] at g5;refine go ?_;exact Yq 28 g5
  refine cdb H (fun h H=>go ?_) (fun h H=>go ?_)
  ·exact IH  (i64.wrap (Yw+1)) _ H _ rfl Q tt  hE hR _ _  S hF
  ·obtain ⟨x46,g7,H⟩:=bnd H;refine Yb 10 36 46 (.bool x46) (gi q (fun q=>?_) (fun q=>?_)) (fun J=>go ?_)
   ·rw [if_pos (dt q)] at g7;refine go ?_;obtain ⟨x41,g9,g7⟩:=bnd g7;refine Yb 2 39 41 (.bool x41) (gi q (fun q=>go ?_) (fun q=>go ?_)) (fun J=>go ?_)
    ·exact Yq 39 g9
    ·exact Yq 39 g9
    obtain ⟨x45,g11,g7⟩:=bnd g7;refine Yb 2 43 45 (.bool x45) (giN q (fun q=>go ?_) (fun q=>go ?_)) (fun J=>go ?_)
    ·exact Yq 43 g11
    ·exact Yq 43 g11
    exact Yq 36 g7
   ·rw [if_neg (df q)] at g7;refine go ?_;exact Yq 36 g7
   refine cdb H (fun h H=>go ?_) (fun h H=>go ?_)
   ·exact IH  (i64.wrap (Yw+1)) _ H _ rfl Q tt  hE hR _ _  S hF
   ·exact wq (hR _ (pur H).symm _ (rt _))
 ·exact wq (hE () (pur H).symm _ _  S hF)
theorem CW:∀(a0:ByteArray) r,Iq a0=some r->Y7 KZ 74 [.str a0] (.bool r):=by
 intro a0 r H;intro ss;unfold Iq at H;refine hdh mixed Tryz.func74 (rs:=[.tmp 2]) fun q tT hF hX=>?_;refine go ?_;obtain ⟨x10,g1,H⟩:=bnd H;refine Yb 2 8 10 (.bool x10) (giN q (fun q=>go ?_) (fun q=>go ?_)) (fun J=>go ?_)
 ·exact Yq 8 g1
 ·exact Yq 8 g1
 refine cdb H (fun h H=>go ?_) (fun h H=>go ?_)
 ·cases pur H;exact rt _
 ·obtain ⟨o13,ho13,H⟩:=bnd H;refine EO a0 0 _ ho13 _ rfl _ _  ?_ ?_ _ _  S hF
  ·intro _ he T15 s16 tT hF;have he:=he.symm;subst he
   try dsimp only at H
   refine go ?_;refine bp H (Hw (a0.size:Int) 1 12) fun x49 h H=>cl h (go ?_);cases pur H;exact rt _
  ·intro r hr s' hs;subst hr;cases pur H;exact hsq hs
theorem Fo:∀(a0:List Int) (Yt:Int) out,Jf a0 Yt=some out->∀c,Yf Tryz.f83 0=some c->∀(Q:QT) (tt:Sto),(∀(_u:Unit),out=Sum.inr ()->∀(T:TT) (ss:Sto),T 0=sf cI a0->Fx tt ss [] []->Q (.ex 0) ⟨T,ss⟩)->(∀r,out=Sum.inl r->∀s',I6 KZ [.tmp 2] (fun r' ss'=>r'=.bool r/\ss'=tt) s'->Q .ret s')->∀(T:TT) (ss:Sto),T 0=sf cI a0/\T 5=sf cI a0/\T 6=i6 (a0.length:Int)/\T 7=i6 Yt->Fx tt ss [] []->aLp KZ c Q ⟨T,ss⟩:=by
 intro a0 Yt;revert Yt;refine Jf.partial_correctness a0 _ ?_;intro Jf IH Yt out H c hc Q tt  hE hR T ss tT hF;refine lpx tt hc rfl fun q hX=>go ?_;refine cdp H (fun h H=>?_) (fun h H=>go ?_)
 ·obtain ⟨x10,f1,H⟩:=bil (g:=cI) (fun _=>rfl) H;refine go1 ?_;refine go ?_;refine bp H (Hw x10 1 99) fun x13 h H=>cl h (go ?_);obtain ⟨x27,g1,H⟩:=bnd H;refine Yb 11 16 27 (.bool x27) (giN q (fun q=>?_) (fun q=>?_)) (fun J=>go ?_)
  ·rw [if_neg (dbf q)] at g1;refine go ?_;obtain ⟨x26,g3,g1⟩:=bnd g1;refine Yb 7 19 26 (.bool x26) (gi q (fun q=>?_) (fun q=>?_)) (fun J=>go ?_)
   ·rw [if_pos (dt q)] at g3;obtain ⟨x22,f1,g3⟩:=bil (g:=cI) (fun _=>rfl) g3;refine go1 ?_;refine go ?_;exact Yq 19 g3
   ·rw [if_neg (df q)] at g3;refine go ?_;exact Yq 19 g3
   exact Yq 16 g1
  ·rw [if_pos (dbt q)] at g1;refine go ?_;exact Yq 16 g1
  refine cdb H (fun h H=>go ?_) (fun h H=>go ?_)
  ·exact wq (hR _ (pur H).symm _ (rt _))
  ·exact IH  (i64.wrap (Yt+1)) _ H _ rfl Q tt  hE hR _ _  S hF
 ·exact wq (hE () (pur H).symm _ _  S hF)
theorem MO:∀(a0:List Int) r,AA a0=some r->Y7 KZ 83 [sf cI a0] (.bool r):=by
 intro a0 r H;intro ss;unfold AA at H;refine hdh mixed Tryz.func83 (rs:=[.tmp 2]) fun q tT hF hX=>?_;refine go ?_;obtain ⟨o5,ho5,H⟩:=bnd H;refine Fo a0 0 _ ho5 _ rfl _ _  ?_ ?_ _ _  S hF
 ·intro _ he T7 s8 tT hF;have he:=he.symm;subst he
  try dsimp only at H
  refine go ?_;cases pur H;exact rt _
 ·intro r hr s' hs;subst hr;cases pur H;exact hsq hs
theorem Pu:∀(a0:Fm) (a1 c0:Int) r,Ai a0 a1 c0=some r->∀(e0:Nat)  (ss:Sto),Pre ss [(e0,⟨3,1,[i6 c0]⟩)] []->Ctr KZ 49 [.agg (KY a0),i6 a1,.ptr e0 0] ss (fun r' ss'=>∃(tt':Sto),r'=.bool r.1/\Tau (strip ss []) [(e0,⟨3,1,[i6 r.2]⟩)] tt'/\Fx tt' ss' [] []):=by
 refine Ai.partial_correctness _ (motive_2:=fun a0 a1 Ph Vm out=>∀c,Yf Tryz.f49 0=some c->∀(Q:QT) (tt0:Sto) (e0 b1:Nat),(∀(BJ:Int),out=Sum.inr BJ->∀(T:TT) (ss tt:Sto),0+0=0->Tau tt0 [(e0,⟨3,1,[i6 BJ]⟩)] tt->Fx tt ss [(b1,⟨26,5,[i6 a0.kind,.str a0.name,i6 a0.num,sf cI a0.sc,sf KY a0.kids]⟩)] []->Q (.ex 1) ⟨T,ss⟩)->(∀r,out=Sum.inl r->∀s',I6 KZ [.tmp 6] (fun r' ss'=>∃(tt':Sto),r'=.bool r.1/\Tau tt0 [(e0,⟨3,1,[i6 r.2]⟩)] tt'/\Fx tt' ss' [] []) s'->Q .ret s')->∀(T:TT) (ss tt:Sto),T 1=i6 a1/\T 2=.ptr e0 0/\T 84=sf KY a0.kids/\T 85=i6 (a0.kids.length:Int)/\T 86=i6 Ph->Tau tt0 [(e0,⟨3,1,[i6 Vm]⟩)] tt->Fx tt ss [(b1,⟨26,5,[i6 a0.kind,.str a0.name,i6 a0.num,sf cI a0.sc,sf KY a0.kids]⟩)] []->aLp KZ c Q ⟨T,ss⟩) ?_ ?_
 ·intro Hv L0 a0 a1 c0 r H;intro e0  ss hP;refine hdg mixed Tryz.func49 (rs:=[.tmp 6]) fun q tT=>?_;obtain ⟨hF,hX⟩:=hP.start;generalize strip ss []=tt0 at hF hX ⊢;refine go ?_;refine X8 hF rfl fun b1 ss2 hF=>go ?_;refine stT hF hX 0 rfl fun tt4 ss3 hF hX=>?_;refine go ?_;obtain ⟨x21,g5,H⟩:=bnd H;refine Yb 2 19 21 (.bool x21) (giN q (fun q=>go ?_) (fun q=>go ?_)) (fun J=>go ?_)
  ·exact Yq 19 g5
  ·exact Yq 19 g5
  refine cdb H (fun h H=>go ?_) (fun h H=>go ?_)
  ·cases pur H;exact rg _ ⟨_,rfl,hX,K1 _⟩
  ·refine cdp H (fun h H=>go ?_) (fun h H=>go ?_)
   ·refine bp H (CW a0.name) fun x28 h H=>cl h (go ?_);obtain ⟨x33,g7,H⟩:=bnd H;refine Yb 3 30 33 (.bool x33) (gi q (fun q=>go ?_) (fun q=>go ?_)) (fun J=>go ?_)
    ·exact Yq 30 g7
    ·exact Yq 30 g7
    obtain ⟨x38,g9,H⟩:=bnd H;refine Yb 3 35 38 (.bool x38) (gi q (fun q=>?_) (fun q=>?_)) (fun J=>go ?_)
    ·rw [if_pos (dbt q)] at g9;refine go ?_;obtain ⟨x37,hx37,g9⟩:=bnd g9;refine cl (MO a0.sc _ hx37) (go ?_);exact Yq 35 g9
    ·rw [if_neg (dbf q)] at g9;refine go ?_;exact Yq 35 g9
    obtain ⟨x44,g11,H⟩:=bnd H;refine Yb 4 40 44 (.bool x44) (gi q (fun q=>go ?_) (fun q=>go ?_)) (fun J=>go ?_)
    ·exact Yq 40 g11
    ·exact Yq 40 g11
    cases pur H;exact rg _ ⟨_,rfl,hX,K1 _⟩
   ·refine cdp H (fun h H=>go ?_) (fun h H=>go ?_)
    ·obtain ⟨x54,g13,H⟩:=bnd H;refine Yb 3 51 54 (.bool x54) (gi q (fun q=>?_) (fun q=>?_)) (fun J=>go ?_)
     ·rw [if_pos (dt q)] at g13;refine go ?_;obtain ⟨x53,hx53,g13⟩:=bnd g13;refine cl (Hw a0.num 0 999 _ hx53) (go ?_);exact Yq 51 g13
     ·rw [if_neg (df q)] at g13;refine go ?_;exact Yq 51 g13
     obtain ⟨x60,g15,H⟩:=bnd H;refine Yb 4 56 60 (.bool x60) (gi q (fun q=>go ?_) (fun q=>go ?_)) (fun J=>go ?_)
     ·exact Yq 56 g15
     ·exact Yq 56 g15
     obtain ⟨x66,g17,H⟩:=bnd H;refine Yb 4 62 66 (.bool x66) (gi q (fun q=>go ?_) (fun q=>go ?_)) (fun J=>go ?_)
     ·exact Yq 62 g17
     ·exact Yq 62 g17
     cases pur H;exact rg _ ⟨_,rfl,hX,K1 _⟩
    ·refine cdp H (fun h H=>go ?_) (fun h H=>go ?_)
     ·obtain ⟨x76,g19,H⟩:=bnd H;refine Yb 3 73 76 (.bool x76) (giN q (fun q=>go ?_) (fun q=>go ?_)) (fun J=>go ?_)
      ·exact Yq 73 g19
      ·exact Yq 73 g19
      obtain ⟨x82,g21,H⟩:=bnd H;refine Yb 4 78 82 (.bool x82) (giN q (fun q=>go ?_) (fun q=>go ?_)) (fun J=>go ?_)
      ·exact Yq 78 g21
      ·exact Yq 78 g21
      refine cdb H (fun h H=>go ?_) (fun h H=>go ?_)
      ·cases pur H;exact rg _ ⟨_,rfl,hX,K1 _⟩
      ·obtain ⟨o29,ho29,H⟩:=bnd H;refine L0 a0 a1 0 (i64.wrap (c0 - 1)) _ ho29 _ rfl _ tt0 e0 b1 ?_ ?_ _ _ _  S hX hF
       ·intro Qa7 he T31 s32 t33 tT hX hF;have he:=he.symm;subst he
        try dsimp only at H
        refine go ?_;cases pur H;exact rg _ ⟨_,rfl,hX,K1 _⟩
       ·intro r hr s' hs;subst hr;cases pur H;exact hsq hs
     ·cases pur H;exact rg _ ⟨_,rfl,hX,K1 _⟩
 ·intro Ai Hv C0 L0 a0 a1 Ph Vm out H c hc Q tt0 e0 b1 hE hR T ss tt tT hX hF;refine lpy hc rfl fun q=>go ?_;refine cdp H (fun h H=>?_) (fun h H=>go ?_)
  ·obtain ⟨x88,f1,H⟩:=bil (g:=KY) Fm.X6 H;refine go1 ?_;refine X8 hF rfl fun b23 s24 hF=>go ?_;refine st hF 0 rfl fun s25 hF=>?_;refine go ?_;obtain ⟨x94,hx94,H⟩:=bnd H;refine cx (C0 x88 (i64.wrap (a1+1)) Vm _ hx94 e0  _ (pre 0 1 0 hF hX)) ?_;rintro _ s26 ⟨t27,rfl,hT,hG⟩;obtain ⟨t28,hX,hF⟩:=aft 0 1 0 hF hX hT hG;refine go ?_;refine cdb H (fun h H=>go ?_) (fun h H=>go ?_)
   ·exact wq (hR _ (pur H).symm _ (rg _ ⟨_,rfl,hX,K1 _⟩))
   ·exact L0 a0 a1 (i64.wrap (Ph+1)) x94.2 _ H _ rfl Q tt0 e0 b1 hE hR _ _ _  S hX (hF.drop 1 0)
  ·exact wq (hE _ (pur H).symm _ _ _  S hX hF)
theorem CU:∀(a0:Fm) r,Ip a0=some r->Y7 KZ 23 [.agg (KY a0)] (.bool r):=by
 intro a0 r H;intro ss;unfold Ip at H;refine hdh mixed Tryz.func23 (rs:=[.tmp 2]) fun q tT hF hX=>?_;refine go ?_;refine X8 hF rfl fun b1 ss2 hF=>go ?_;refine X8 hF rfl fun b3 ss4 hF=>go ?_;refine st hF 0 rfl fun ss5 hF=>?_;refine go ?_;obtain ⟨x5,hx5,H⟩:=bnd H;refine cx (Pu a0 1 400 _ hx5 b3  _ (pre 1 0 0 hF hX)) ?_;rintro _ ss6 ⟨t7,rfl,hT,hG⟩;have hF:=Pm 1 0 hF hX hT hG;refine go ?_;cases pur H;exact rt _
theorem Fi:∀(a0:Fm) (c0:List Int) r,Af a0 c0=some r->∀(e0:Nat) (Uk:AV) (ss:Sto),Pre ss [(e0,⟨23,1,[Uk]⟩)] [⟨Uk,3,1,rws cI c0⟩]->Ctr KZ 109 [.agg (KY a0),.ptr e0 0] ss (fun r' ss'=>∃(tt':Sto) (Qmw:AV),r'=.tup []/\Tau (strip ss [⟨Uk,3,1,rws cI c0⟩]) [(e0,⟨23,1,[Qmw]⟩)] tt'/\Fx tt' ss' [] [⟨Qmw,3,1,rws cI r⟩]):=by
 intro a0 c0 r H;intro e0 Uk ss hP;unfold Af at H;refine hdg mixed Tryz.func109 (rs:=[]) fun q tT=>?_;obtain ⟨hF,hX⟩:=hP.start;generalize strip ss [⟨Uk,3,1,rws cI c0⟩]=tt0 at hF hX ⊢;refine go ?_;refine X8 hF rfl fun b1 ss2 hF=>go ?_;refine apd (g:=cI) hF 0 H (rdo (c:=false) (g:=cI) (fun _=>rfl)) fun x6 H v3 ss4 hF=>go ?_;refine stT hF hX 0 (hF.cells 0 rfl) fun t6 ss5 hF hX=>?_;refine go ?_;cases pur H;exact rg _ ⟨_,_,rfl,hX,hF.pick [] [0] (by decide) (by decide)⟩
theorem Aw:∀(a0:Fm) (c0:List Int) r,YT a0 c0=some r->∀(e0:Nat) (Uk:AV) (ss:Sto),Pre ss [(e0,⟨23,1,[Uk]⟩)] [⟨Uk,3,1,rws cI c0⟩]->Ctr KZ 108 [.agg (KY a0),.fn 109 [.ptr e0 0]] ss (fun r' ss'=>∃(tt':Sto) (Qmw:AV),r'=.tup []/\Tau (strip ss [⟨Uk,3,1,rws cI c0⟩]) [(e0,⟨23,1,[Qmw]⟩)] tt'/\Fx tt' ss' [] [⟨Qmw,3,1,rws cI r⟩]):=by
 refine YT.partial_correctness _ (motive_2:=fun a0 X7 Vs out=>∀c,Yf Tryz.f108 0=some c->∀(Q:QT) (tt0:Sto) (e0 b1:Nat),(∀(YX:List Int),out=YX->∀(T:TT) (ss tt:Sto) (e0v0:AV),0+0=0->Tau tt0 [(e0,⟨23,1,[e0v0]⟩)] tt->Fx tt ss [(b1,⟨26,5,[i6 a0.kind,.str a0.name,i6 a0.num,sf cI a0.sc,sf KY a0.kids]⟩)] [⟨e0v0,3,1,rws cI YX⟩]->Q (.ex 0) ⟨T,ss⟩)->True->∀(T:TT) (ss tt:Sto) (z0v0:AV),T 1=.fn 109 [.ptr e0 0]/\T 10=sf KY a0.kids/\T 11=i6 (a0.kids.length:Int)/\T 12=i6 Vs->Tau tt0 [(e0,⟨23,1,[z0v0]⟩)] tt->Fx tt ss [(b1,⟨26,5,[i6 a0.kind,.str a0.name,i6 a0.num,sf cI a0.sc,sf KY a0.kids]⟩)] [⟨z0v0,3,1,rws cI X7⟩]->aLp KZ c Q ⟨T,ss⟩) ?_ ?_
 ·intro YN L0 a0 c0 r H;intro e0 Uk ss hP;refine hdg mixed Tryz.func108 (rs:=[]) fun q tT=>?_;obtain ⟨hF,hX⟩:=hP.start;generalize strip ss [⟨Uk,3,1,rws cI c0⟩]=tt0 at hF hX ⊢;refine go ?_;refine X8 hF rfl fun b1 ss2 hF=>go ?_;obtain ⟨x8,hx8,H⟩:=bnd H;refine cx (Fi a0 c0 _ hx8 e0 Uk _ (pre 0 1 1 hF hX)) ?_;rintro _ ss4 ⟨tt5,v3,rfl,hT,hG⟩;obtain ⟨t6,hX,hF⟩:=aft 0 1 1 hF hX hT hG;refine go ?_;obtain ⟨o14,ho14,H⟩:=bnd H;refine L0 a0 x8 0 _ ho14 _ rfl _ tt0 e0 b1 ?_ ?_ _ _ _ v3 S hX hF
  ·intro Jm he T16 s17 t18 e15v0 tT hX hF;have he:=he.symm;subst he;refine go ?_;cases pur H;exact rg _ ⟨_,_,rfl,hX,hF.pick [] [0] (by decide) (by decide)⟩
  ·trivial
 ·intro YT YN C0 L0 a0 X7 Vs out H c hc Q tt0 e0 b1 hE hR T ss tt z0v0 tT hX hF;refine lpy hc rfl fun q=>go ?_;refine cdp H (fun h H=>?_) (fun h H=>go ?_)
  ·obtain ⟨x14,f1,H⟩:=bil (g:=KY) Fm.X6 H;refine go1 ?_;refine X8 hF rfl fun b7 s8 hF=>go ?_;refine st hF 0 rfl fun s9 hF=>?_;refine go ?_;obtain ⟨x18,hx18,H⟩:=bnd H;refine cx (C0 x14 X7 _ hx18 e0 z0v0 _ (pre 0 1 1 hF hX)) ?_;rintro _ s11 ⟨t12,v10,rfl,hT,hG⟩;obtain ⟨t13,hX,hF⟩:=aft 0 1 1 hF hX hT hG;refine go ?_;exact L0 a0 x18 (i64.wrap (Vs+1)) _ H _ rfl Q tt0 e0 b1 hE hR _ _ _ v10 S hX (hF.drop 1 0)
  ·exact wq (hE _ (pur H).symm _ _ _ z0v0 S hX hF)
theorem La:∀(a0:Int) r,AE a0=some r->Y7 KZ 157 [.int .u64 a0] (i6 r):=by
 intro a0 r H;intro ss;unfold AE at H;split at H;rotate_left
 ·cases H
 rename_i h0;subst h0;refine Td mixed Tryz.func157 rfl (by kernel_rfl) (rs:=[.tmp 2]) rfl (by kernel_rfl) ?_;have hF:=Fx.refl ss;have hX:=Tau.none ss;have q:=dum;have tT:=dum;refine goL ?_;refine LB (fun h=>absurd h (by decide)) (fun _=>goL ?_);refine LB (fun h=>absurd h (by decide)) (fun _=>goL ?_);refine LB (fun h=>absurd h (by decide)) (fun _=>goL ?_);refine Qm8 (v:=.int .u8 0) (by kernel_rfl) (goL ?_);cases pur H;exact rt _
theorem MT:∀(a0:Int) r,Bv a0=some r->Y7 KZ 131 [.int .u64 a0] (i6 r):=by
 intro a0 r H;intro ss;unfold Bv at H;refine hdh mixed Tryz.func131 (rs:=[.tmp 2]) fun q tT hF hX=>?_;refine go ?_;refine bp H (La a0) fun x7 h H=>cl h (go ?_);cases pur H;exact rt _
theorem DF:∀(a0:Int) r,Bs a0=some r->Y7 KZ 178 [i6 a0] (.bool r):=by
 intro a0 r H;intro ss;unfold Bs at H;refine hdh mixed Tryz.func178 (rs:=[.tmp 2]) fun q tT hF hX=>?_;refine go ?_;cases pur H;exact rt _
theorem NT:∀(a0 a1:Int) r,D4 a0 a1=some r->Y7 KZ 153 [i6 a0,i6 a1] (.bool r):=by
 intro a0 a1 r H;intro ss;unfold D4 at H;refine hdh mixed Tryz.func153 (rs:=[.tmp 4]) fun q tT hF hX=>?_;refine go ?_;refine bp H (DF a0) fun x6 h H=>cl h (go ?_);obtain ⟨x11,g1,H⟩:=bnd H;refine Yb 3 8 11 (.bool x11) (gi q (fun q=>?_) (fun q=>?_)) (fun J=>go ?_)
 ·rw [if_pos (dbt q)] at g1;refine go ?_;obtain ⟨x9,hx9,g1⟩:=bnd g1;refine cl (DF a1 _ hx9) (go ?_);exact Yq 8 g1
 ·rw [if_neg (dbf q)] at g1;refine go ?_;exact Yq 8 g1
 obtain ⟨x16,g3,H⟩:=bnd H;refine Yb 3 13 16 (.bool x16) (giN q (fun q=>go ?_) (fun q=>go ?_)) (fun J=>go ?_)
 ·exact Yq 13 g3
 ·exact Yq 13 g3
 cases pur H;exact rt _
theorem I3:∀(a0:List Int) (a1 a2 Yy:Int) out,WJ a0 a1 a2 Yy=some out->∀c,Yf Tryz.f147 1=some c->∀(Q:QT) (tt:Sto),(∀(_u:Unit),out=()->∀(T:TT) (ss:Sto),T 0=sf cI a0/\T 1=i6 a1/\T 2=i6 a2/\T 6=i6 Yy->Fx tt ss [] []->Q (.ex 2) ⟨T,ss⟩)->True->∀(T:TT) (ss:Sto),T 0=sf cI a0/\T 1=i6 a1/\T 2=i6 a2/\T 6=i6 Yy/\T 7=i6 Yy->Fx tt ss [] []->aLp KZ c Q ⟨T,ss⟩:=by
 intro a0 a1 a2 Yy out H c hc Q tt  hE hR T ss tT hF;unfold WJ at H;refine lpx tt hc rfl fun q hX=>go ?_;refine Yj E0 [.v,.v,.v,.v,.v,.v,.v,.v,.v,.v,.v,.v,.v,.v,.v] (by kernel_rfl) (go ?_);obtain ⟨x30,g1,H⟩:=bnd H;refine V5 10 20 30 (.bool x30) (ti q (fun q=>?_) (fun q=>?_)) (fun J=>go ?_)
 ·rw [if_pos (dt q)] at g1;obtain ⟨x22,f1,g1⟩:=bil (g:=cI) (fun _=>rfl) g1;obtain ⟨x27,f2,g1⟩:=bil (g:=cI) (fun _=>rfl) g1;refine go2 ?_;obtain ⟨x29,hx29,g1⟩:=bnd g1;refine cv (NT x22 x27 _ hx29) (go ?_);exact Yq 20 g1
 ·rw [if_neg (df q)] at g1;refine go ?_;exact Yq 20 g1
 refine cdb H (fun h H=>?_) (fun h H=>go ?_)
 ·cases H
 ·exact wq (hE () (pur H).symm _ _  S hF)
theorem I2:∀(a0:List Int) (a1 a2 Yy:Int) out,Y1 a0 a1 a2 Yy=some out->∀c,Yf Tryz.f147 0=some c->∀(Q:QT) (tt:Sto),(∀(_u:Unit),out=()->∀(T:TT) (ss:Sto),0+0=0->Fx tt ss [] []->Q (.ex 0) ⟨T,ss⟩)->True->∀(T:TT) (ss:Sto),T 0=sf cI a0/\T 1=i6 a1/\T 2=i6 a2/\T 6=i6 Yy->Fx tt ss [] []->aLp KZ c Q ⟨T,ss⟩:=by
 intro a0 a1 a2 Yy;revert Yy;refine Y1.partial_correctness a0 a1 a2 _ ?_;intro Y1 IH Yy out H c hc Q tt  hE hR T ss tT hF;refine lpx tt hc rfl fun q hX=>go ?_;refine cdp H (fun h H=>go ?_) (fun h H=>go ?_)
 ·obtain ⟨o4,ho4,H⟩:=bnd H;refine I3 a0 a1 a2 Yy  _ ho4 _ rfl _ _  ?_ ?_ _ _  S hF
  ·intro _ he T6 s7 tT hF;have he:=he.symm;subst he
   try dsimp only at H
   refine go ?_;exact IH  (i64.wrap (Yy+1)) _ H _ rfl Q tt  hE hR _ _  S hF
  ·trivial
 ·exact wq (hE () (pur H).symm _ _  S hF)
theorem Ax:∀(a0:List Int) (a1 a2:Int) r,V0 a0 a1 a2=some r->Y7 KZ 147 [sf cI a0,i6 a1,i6 a2] (.tup []):=by
 intro a0 a1 a2 r H;intro ss;unfold V0 at H;refine hdh mixed Tryz.func147 (rs:=[]) fun q tT hF hX=>?_;refine go ?_;obtain ⟨o9,ho9,H⟩:=bnd H;refine I2 a0 a1 a2 (i64.wrap (a1+1)) _ ho9 _ rfl _ _  ?_ ?_ _ _  S hF
 ·intro _ he T11 s12 tT hF;have he:=he.symm;subst he
  try dsimp only at H
  refine go ?_;cases pur H;exact rt _
 ·trivial
theorem AZ:∀(a0:List Int) (a1 a2 a3:Int) out,WI a0 a1 a2 a3=some out->∀c,Yf Tryz.f130 0=some c->∀(Q:QT) (tt:Sto),True->(∀r,out=r->∀s',I6 KZ [] (fun r' ss'=>r'=.tup []/\ss'=tt) s'->Q .ret s')->∀(T:TT) (ss:Sto),T 0=sf cI a0/\T 1=i6 a1/\T 2=i6 a2/\T 3=i6 a3/\T 8=.bool true/\T 9=.bool true->Fx tt ss [] []->aLp KZ c Q ⟨T,ss⟩:=by
 intro a0 a1 a2 a3 out H c hc Q tt  hE hR T ss tT hF;unfold WI at H;refine lpx tt hc rfl fun q hX=>go ?_;refine cdp H (fun h H=>go ?_) (fun h H=>go ?_)
 ·refine bp H (Ax a0 a1 a2) fun x27 h H=>cl h (go ?_);exact wq (hR _ (pur H).symm _ (rt _))
 ·refine cdp H (fun h H=>?_) (fun h H=>?_)
  ·cases H
  ·cases H
theorem Bx:∀(a0:List Int) (a1 a2 a3:Int) r,Jz a0 a1 a2 a3=some r->Y7 KZ 130 [sf cI a0,i6 a1,i6 a2,i6 a3] (.tup []):=by
 intro a0 a1 a2 a3 r H;intro ss;unfold Jz at H;refine hdh mixed Tryz.func130 (rs:=[]) fun q tT hF hX=>?_;refine go ?_;obtain ⟨o1,ho1,H⟩:=bnd H;refine AZ a0 a1 a2 a3  _ ho1 _ rfl _ _  ?_ ?_ _ _  S hF
 ·trivial
 ·intro r hr s' hs;subst hr;cases pur H;exact hsq hs
theorem DZ:∀(a0:List Int) r,GY a0=some r->Y7 KZ 110 [sf cI a0] (.tup []):=by
 intro a0 r H;intro ss;unfold GY at H;refine hdh mixed Tryz.func110 (rs:=[]) fun q tT hF hX=>?_;refine go ?_;obtain ⟨x9,hx9,H⟩:=bnd H;refine cl (MT (IntKind.u64.wrap (a0.length:Int)) _ hx9) (go ?_);refine bp H (Bx a0 0 (a0.length:Int) x9) fun x10 h H=>cl h (go ?_);cases pur H;exact rt _
theorem Bw:∀(a0:List Int) (Yw:Int) out,Wj a0 Yw=some out->∀c,Yf Tryz.f111 0=some c->∀(Q:QT) (tt:Sto),(∀(_u:Unit),out=()->∀(T:TT) (ss:Sto),T 0=sf cI a0->Fx tt ss [] []->Q (.ex 0) ⟨T,ss⟩)->True->∀(T:TT) (ss:Sto),T 0=sf cI a0/\T 3=i6 Yw->Fx tt ss [] []->aLp KZ c Q ⟨T,ss⟩:=by
 intro a0 Yw;revert Yw;refine Wj.partial_correctness a0 _ ?_;intro Wj IH Yw out H c hc Q tt  hE hR T ss tT hF;refine lpx tt hc rfl fun q hX=>go ?_;refine cdp H (fun h H=>go ?_) (fun h H=>go ?_)
 ·refine Yj E0 [.v,.v,.v,.v,.v,.v,.v,.v,.v,.v] (by kernel_rfl) ?_;obtain ⟨x18,f1,H⟩:=bil (g:=cI) (fun _=>rfl) H;obtain ⟨x23,f2,H⟩:=bil (g:=cI) (fun _=>rfl) H;refine go2 ?_;refine go ?_;refine cdp H (fun h H=>?_) (fun h H=>go ?_)
  ·cases H
  ·exact IH  (i64.wrap (Yw+1)) _ H _ rfl Q tt  hE hR _ _  S hF
 ·exact wq (hE () (pur H).symm _ _  S hF)
theorem CD:∀(a0:List Int) r,Ha a0=some r->Y7 KZ 111 [sf cI a0] (sf cI r):=by
 intro a0 r H;intro ss;unfold Ha at H;refine hdh mixed Tryz.func111 (rs:=[.tmp 2]) fun q tT hF hX=>?_;refine go ?_;refine cdp H (fun h H=>go ?_) (fun h H=>go ?_)
 ·cases pur H;exact rt _
 ·obtain ⟨o7,ho7,H⟩:=bnd H;refine Bw a0 1 _ ho7 _ rfl _ _  ?_ ?_ _ _  S hF
  ·intro _ he T9 s10 tT hF;have he:=he.symm;subst he
   try dsimp only at H
   refine go ?_;cases pur H;exact rt _
  ·trivial
theorem MI:∀(a0:Fm) r,IS a0=some r->Y7 KZ 75 [.agg (KY a0)] (sf cI r):=by
 intro a0 r H;intro ss;unfold IS at H;refine hdh mixed Tryz.func75 (rs:=[.tmp 2]) fun q tT hF hX=>?_;refine go ?_;refine X8 hF rfl fun b1 ss2 hF=>go ?_;refine X8 hF rfl fun b3 ss4 hF=>go ?_;refine st hF 0 rfl fun ss5 hF=>?_;refine go ?_;refine bp H (CU a0) fun x6 h H=>cl h (go ?_);refine cdb H (fun h H=>go ?_) (fun h H=>?_)
 ·cases pur H;exact rt _
 ·have hF:=hF.lit 3 1 (rws cI []) rfl;refine go ?_;obtain ⟨x11,hx11,H⟩:=bnd H;refine cx (Aw a0 [] _ hx11 b3 (.sl true (rws cI [])) _ (pre 1 0 1 hF hX)) ?_;rintro _ s7 ⟨t8,v6,rfl,hT,hG⟩;have hF:=Pm 1 1 hF hX hT hG;refine go ?_;obtain ⟨x13,hx13,H⟩:=bnd H;refine CP (DZ x11 _ hx13) .unit (.cons ((hF.wk 0 rfl).trans (Zp (Sub.zero _) _)) (fun _=>rfl) .nil) (go ?_);obtain ⟨x15,hx15,H⟩:=bnd H;obtain ⟨s10,hF,hw11,hb12,hz13⟩:=frz hF 0;refine FJ (CD x11 _ hx15 _) (.cons hw11 (fun _=>rfl) .nil) hb12 ?_;rintro _ _ ⟨rfl,rfl⟩;refine go ?_;cases pur H;exact rt _
theorem Cf:∀(a0:List Int) r,Ge a0=some r->∀(ss:Sto),Pre ss [] []->Ctr KZ 76 [.sl (false) (rws cI a0)] ss (fun r' ss'=>∃(tt':Sto) (w0:AV),r'=w0/\Tau (strip ss []) [] tt'/\Fx tt' ss' [] [⟨w0,3,1,rws cI r⟩]):=by
 intro a0 r H ss hP;unfold Ge at H;refine Td mixed Tryz.func76 rfl (by kernel_rfl) (rs:=[.tmp 2]) rfl (by kernel_rfl) ?_;obtain ⟨hF,hX⟩:=hP.start;generalize strip ss []=tt0 at hF hX ⊢;have q:=dum;have tT:=dum;have hF:=hF.lit 3 1 (rws cI []) rfl
 cases a0 with
 | nil =>
  obtain ⟨rfl,_⟩:=CA H;refine go ?_;refine Qe2 ?_ (go ?_)
  ·have hF:=hF.nil 3 1;refine go ?_;exact rg _ ⟨_,_,rfl,hX,hF.pick [] [0] (by decide) (by decide)⟩
  ·refine Tw hF 0 (g:=cI) (xs:=[]) (ys:=[]) rfl (by decide) (by decide) (RdL.of (c:=false) (fun _=>rfl) (by first | rfl | simp only [Vj,V7,cI,cU,cS,cL])) H fun v1 ss1 hF=>go ?_;exact rg _ ⟨_,_,rfl,hX,hF.pick [] [0] (by decide) (by decide)⟩
 | cons x xs =>
  refine go ?_;refine Tw hF 0 (g:=cI) (xs:=[]) (ys:=x :: xs) rfl (by decide) (by decide) (RdL.of (c:=false) (fun _=>rfl) (by first | rfl | simp only [Vj,V7,cI,cU,cS,cL])) H fun v1 ss1 hF=>go ?_;exact rg _ ⟨_,_,rfl,hX,hF.pick [] [0] (by decide) (by decide)⟩
theorem Cg:∀(a0 a1:List Int) (VW:Int) out,Y9 a0 a1 VW=some out->∀c,Yf Tryz.f77 0=some c->∀(Q:QT) (tt:Sto),(∀(_u:Unit),out=Sum.inr ()->∀(T:TT) (ss:Sto),0+0=0->Fx tt ss [] []->Q (.ex 0) ⟨T,ss⟩)->(∀r,out=Sum.inl r->∀s',I6 KZ [.tmp 4] (fun r' ss'=>r'=.bool r/\ss'=tt) s'->Q .ret s')->∀(T:TT) (ss:Sto),T 0=sf cI a0/\T 1=sf cI a1/\T 12=i6 (a0.length:Int)/\T 13=i6 VW->Fx tt ss [] []->aLp KZ c Q ⟨T,ss⟩:=by
 intro a0 a1 VW;revert VW;refine Y9.partial_correctness a0 a1 _ ?_;intro Y9 IH VW out H c hc Q tt  hE hR T ss tT hF;refine lpx tt hc rfl fun q hX=>go ?_;refine cdp H (fun h H=>go ?_) (fun h H=>go ?_)
 ·refine Yj E0 [.v,.v,.v,.v,.v,.v,.v,.v,.v] (by kernel_rfl) ?_;obtain ⟨x18,f1,H⟩:=bil (g:=cI) (fun _=>rfl) H;obtain ⟨x22,f2,H⟩:=bil (g:=cI) (fun _=>rfl) H;refine go2 ?_;refine go ?_;refine cdn H (fun h H=>go ?_) (fun h H=>go ?_)
  ·exact wq (hR _ (pur H).symm _ (rt _))
  ·exact IH  (i64.wrap (VW+1)) _ H _ rfl Q tt  hE hR _ _  S hF
 ·exact wq (hE () (pur H).symm _ _  S hF)
theorem AI:∀(a0 a1:List Int) r,Jc a0 a1=some r->Y7 KZ 77 [sf cI a0,sf cI a1] (.bool r):=by
 intro a0 a1 r H;intro ss;unfold Jc at H;refine hdh mixed Tryz.func77 (rs:=[.tmp 4]) fun q tT hF hX=>?_;refine go ?_;refine cdn H (fun h H=>go ?_) (fun h H=>go ?_)
 ·cases pur H;exact rt _
 ·obtain ⟨o1,ho1,H⟩:=bnd H;refine Cg a0 a1 0 _ ho1 _ rfl _ _  ?_ ?_ _ _  S hF
  ·intro _ he T3 ss4 tT hF;have he:=he.symm;subst he
   try dsimp only at H
   refine go ?_;cases pur H;exact rt _
  ·intro r hr s' hs;subst hr;cases pur H;exact hsq hs
theorem LM:(∀(a0 a1:Fm) r,Gd a0 a1=some r->Y7 KZ 78 [.agg (KY a0),.agg (KY a1)] (.bool r))/\(∀(a0 a1:List Fm) r,YL a0 a1=some r->Y7 KZ 112 [sf KY a0,sf KY a1,.fn 78 []] (.bool r)):=by
 have h:=Gd.mutual_partial_correctness  (motive_1:=fun a0 a1 r=>Y7 KZ 78 [.agg (KY a0),.agg (KY a1)] (.bool r)) (motive_2:=fun a0 a1 r=>Y7 KZ 112 [sf KY a0,sf KY a1,.fn 78 []] (.bool r)) (motive_3:=fun a0 a1 Wg out=>∀c,Yf Tryz.f112 0=some c->∀(Q:QT) (tt:Sto),(∀(_u:Unit),out=Sum.inr ()->∀(T:TT) (ss:Sto),0+0=0->Fx tt ss [] []->Q (.ex 0) ⟨T,ss⟩)->(∀r,out=Sum.inl r->∀s',I6 KZ [.tmp 6] (fun r' ss'=>r'=.bool r/\ss'=tt) s'->Q .ret s')->∀(T:TT) (ss:Sto),T 1=sf KY a1/\T 2=.fn 78 []/\T 15=sf KY a0/\T 16=i6 (a0.length:Int)/\T 17=i6 Wg->Fx tt ss [] []->aLp KZ c Q ⟨T,ss⟩) ?s0 ?s1 ?s2
 ·exact ⟨h.1,h.2.1⟩
 ·intro YL C1 a0 a1 r H;intro ss;refine hdh mixed Tryz.func78 (rs:=[.tmp 4]) fun q tT hF hX=>?_;refine go ?_;refine X8 hF rfl fun b1 ss2 hF=>go ?_;refine X8 hF rfl fun b3 ss4 hF=>go ?_;obtain ⟨x16,g5,H⟩:=bnd H;refine Yb 5 11 16 (.bool x16) (gi q (fun q=>go ?_) (fun q=>go ?_)) (fun J=>go ?_)
  ·exact Yq 11 g5
  ·exact Yq 11 g5
  obtain ⟨x23,g7,H⟩:=bnd H;refine Yb 5 18 23 (.bool x23) (gi q (fun q=>go ?_) (fun q=>go ?_)) (fun J=>go ?_)
  ·exact Yq 18 g7
  ·exact Yq 18 g7
  obtain ⟨x30,g9,H⟩:=bnd H;refine Yb 5 25 30 (.bool x30) (gi q (fun q=>?_) (fun q=>?_)) (fun J=>go ?_)
  ·rw [if_pos (dbt q)] at g9;refine go ?_;obtain ⟨x29,hx29,g9⟩:=bnd g9;refine cl (AI a0.sc a1.sc _ hx29) (go ?_);exact Yq 25 g9
  ·rw [if_neg (dbf q)] at g9;refine go ?_;exact Yq 25 g9
  obtain ⟨x37,g11,H⟩:=bnd H;refine Yb 5 32 37 (.bool x37) (gi q (fun q=>?_) (fun q=>?_)) (fun J=>go ?_)
  ·rw [if_pos (dbt q)] at g11;refine go ?_;obtain ⟨x36,hx36,g11⟩:=bnd g11;refine cl (C1 a0.kids a1.kids _ hx36) (go ?_);exact Yq 32 g11
  ·rw [if_neg (dbf q)] at g11;refine go ?_;exact Yq 32 g11
  cases pur H;exact rt _
 ·intro Yo L0 a0 a1 r H;intro ss;refine hdh mixed Tryz.func112 (rs:=[.tmp 6]) fun q tT hF hX=>?_;refine go ?_;refine cdn H (fun h H=>go ?_) (fun h H=>go ?_)
  ·cases pur H;exact rt _
  ·obtain ⟨o7,ho7,H⟩:=bnd H;refine L0 a0 a1 0 _ ho7 _ rfl _ _  ?_ ?_ _ _  S hF
   ·intro _ he T9 s10 tT hF;have he:=he.symm;subst he
    try dsimp only at H
    refine go ?_;cases pur H;exact rt _
   ·intro r hr s' hs;subst hr;cases pur H;exact hsq hs
 ·intro Gd Yo C0 L0 a0 a1 Wg out H c hc Q tt  hE hR T ss tT hF;refine lpx tt hc rfl fun q hX=>go ?_;refine cdp H (fun h H=>?_) (fun h H=>go ?_)
  ·obtain ⟨x20,f1,H⟩:=bil (g:=KY) Fm.X6 H;refine go1 ?_;refine X8 hF rfl fun b1 ss2 hF=>go ?_;refine st hF 0 rfl fun ss3 hF=>?_;obtain ⟨x24,f1,H⟩:=bil (g:=KY) Fm.X6 H;refine go1 ?_;refine X8 hF rfl fun b4 ss5 hF=>go ?_;refine st hF 0 rfl fun ss6 hF=>?_;refine go ?_;obtain ⟨x29,hx29,H⟩:=bnd H;refine cl (C0 x20 x24 _ hx29) (go ?_);refine cdb H (fun h H=>go ?_) (fun h H=>go ?_)
   ·exact wq (hR _ (pur H).symm _ (rt _))
   ·exact L0 a0 a1 (i64.wrap (Wg+1)) _ H _ rfl Q tt  hE hR _ _  S (hF.drop 2 0)
  ·exact wq (hE () (pur H).symm _ _  S hF)
theorem MH:∀(a0 a1:Fm) r,Gd a0 a1=some r->Y7 KZ 78 [.agg (KY a0),.agg (KY a1)] (.bool r):=LM.1
theorem LR:(∀(a0 a1:Cor) r,Jw a0 a1=some r->Y7 KZ 45 [.agg (K2 a0),.agg (K2 a1)] (.bool r))/\(∀(a0 a1:List Cor) r,YV a0 a1=some r->Y7 KZ 79 [sf K2 a0,sf K2 a1,.fn 45 []] (.bool r)):=by
 have h:=Jw.mutual_partial_correctness  (motive_1:=fun a0 a1 r=>Y7 KZ 45 [.agg (K2 a0),.agg (K2 a1)] (.bool r)) (motive_2:=fun a0 a1 r=>Y7 KZ 79 [sf K2 a0,sf K2 a1,.fn 45 []] (.bool r)) (motive_3:=fun a0 a1 Wg out=>∀c,Yf Tryz.f79 0=some c->∀(Q:QT) (tt:Sto),(∀(_u:Unit),out=Sum.inr ()->∀(T:TT) (ss:Sto),0+0=0->Fx tt ss [] []->Q (.ex 0) ⟨T,ss⟩)->(∀r,out=Sum.inl r->∀s',I6 KZ [.tmp 6] (fun r' ss'=>r'=.bool r/\ss'=tt) s'->Q .ret s')->∀(T:TT) (ss:Sto),T 1=sf K2 a1/\T 2=.fn 45 []/\T 15=sf K2 a0/\T 16=i6 (a0.length:Int)/\T 17=i6 Wg->Fx tt ss [] []->aLp KZ c Q ⟨T,ss⟩) ?s0 ?s1 ?s2
 ·exact ⟨h.1,h.2.1⟩
 ·intro YV C1 a0 a1 r H;intro ss;refine hdh mixed Tryz.func45 (rs:=[.tmp 4]) fun q tT hF hX=>?_;refine go ?_;refine X8 hF rfl fun b1 ss2 hF=>go ?_;refine X8 hF rfl fun b3 ss4 hF=>go ?_;obtain ⟨x16,g5,H⟩:=bnd H;refine Yb 5 11 16 (.bool x16) (gi q (fun q=>go ?_) (fun q=>go ?_)) (fun J=>go ?_)
  ·exact Yq 11 g5
  ·exact Yq 11 g5
  obtain ⟨x23,g7,H⟩:=bnd H;refine Yb 5 18 23 (.bool x23) (gi q (fun q=>go ?_) (fun q=>go ?_)) (fun J=>go ?_)
  ·exact Yq 18 g7
  ·exact Yq 18 g7
  obtain ⟨x30,g9,H⟩:=bnd H;refine Yb 5 25 30 (.bool x30) (gi q (fun q=>go ?_) (fun q=>go ?_)) (fun J=>go ?_)
  ·exact Yq 25 g9
  ·exact Yq 25 g9
  obtain ⟨x37,g11,H⟩:=bnd H;refine Yb 5 32 37 (.bool x37) (gi q (fun q=>?_) (fun q=>?_)) (fun J=>go ?_)
  ·rw [if_pos (dbt q)] at g11;refine go ?_;obtain ⟨x36,hx36,g11⟩:=bnd g11;refine cl (AI a0.ids a1.ids _ hx36) (go ?_);exact Yq 32 g11
  ·rw [if_neg (dbf q)] at g11;refine go ?_;exact Yq 32 g11
  obtain ⟨x44,g13,H⟩:=bnd H;refine Yb 5 39 44 (.bool x44) (gi q (fun q=>?_) (fun q=>?_)) (fun J=>go ?_)
  ·rw [if_pos (dbt q)] at g13;refine go ?_;obtain ⟨x43,hx43,g13⟩:=bnd g13;refine cl (MH a0.data a1.data _ hx43) (go ?_);exact Yq 39 g13
  ·rw [if_neg (dbf q)] at g13;refine go ?_;exact Yq 39 g13
  obtain ⟨x51,g15,H⟩:=bnd H;refine Yb 5 46 51 (.bool x51) (gi q (fun q=>?_) (fun q=>?_)) (fun J=>go ?_)
  ·rw [if_pos (dbt q)] at g15;refine go ?_;obtain ⟨x50,hx50,g15⟩:=bnd g15;refine cl (C1 a0.kids a1.kids _ hx50) (go ?_);exact Yq 46 g15
  ·rw [if_neg (dbf q)] at g15;refine go ?_;exact Yq 46 g15
  cases pur H;exact rt _
 ·intro Yn L0 a0 a1 r H;intro ss;refine hdh mixed Tryz.func79 (rs:=[.tmp 6]) fun q tT hF hX=>?_;refine go ?_;refine cdn H (fun h H=>go ?_) (fun h H=>go ?_)
  ·cases pur H;exact rt _
  ·obtain ⟨o7,ho7,H⟩:=bnd H;refine L0 a0 a1 0 _ ho7 _ rfl _ _  ?_ ?_ _ _  S hF
   ·intro _ he T9 s10 tT hF;have he:=he.symm;subst he
    try dsimp only at H
    refine go ?_;cases pur H;exact rt _
   ·intro r hr s' hs;subst hr;cases pur H;exact hsq hs
 ·intro Jw Yn C0 L0 a0 a1 Wg out H c hc Q tt  hE hR T ss tT hF;refine lpx tt hc rfl fun q hX=>go ?_;refine cdp H (fun h H=>?_) (fun h H=>go ?_)
  ·obtain ⟨x20,f1,H⟩:=bil (g:=K2) Cor.X6 H;refine go1 ?_;refine X8 hF rfl fun b1 ss2 hF=>go ?_;refine st hF 0 rfl fun ss3 hF=>?_;obtain ⟨x24,f1,H⟩:=bil (g:=K2) Cor.X6 H;refine go1 ?_;refine X8 hF rfl fun b4 ss5 hF=>go ?_;refine st hF 0 rfl fun ss6 hF=>?_;refine go ?_;refine bp H (C0 x20 x24) fun x29 h H=>cl h (go ?_);refine cdb H (fun h H=>go ?_) (fun h H=>go ?_)
   ·exact wq (hR _ (pur H).symm _ (rt _))
   ·exact L0 a0 a1 (i64.wrap (Wg+1)) _ H _ rfl Q tt  hE hR _ _  S (hF.drop 2 0)
  ·exact wq (hE () (pur H).symm _ _  S hF)
theorem MN:∀(a0 a1:Cor) r,Jw a0 a1=some r->Y7 KZ 45 [.agg (K2 a0),.agg (K2 a1)] (.bool r):=LR.1
theorem LP:∀(a0:Cor) (a2 c0:Int) (X7:List Int) (Cb:Int) out,Ju a0 a2 c0 X7 Cb=some out->∀c,Yf Tryz.f44 0=some c->∀(Q:QT) (tt0:Sto) (e0 b1 b7:Nat),(∀(YX:List Int),out=Sum.inr YX->∀(T:TT) (ss tt:Sto),T 2=i6 a2/\T 3=.ptr e0 0/\T 4=.ptr b1 0/\T 9=.ptr b7 0/\T 10=i6 1/\T 11=sf cI YX->Tau tt0 [(e0,⟨3,1,[i6 (i64.wrap (c0 - 1))]⟩)] tt->Fx tt ss [(b7,⟨31,11,[i6 a0.kind,i6 0,.str zB,i6 0,sf cI a0.ids,i6 0,.str zB,i6 0,.X4,.X4,sf K2 a0.kids]⟩),(b1,⟨31,11,[i6 a0.kind,i6 a0.id,.str a0.name,i6 a0.num,sf cI a0.ids,i6 a0.data.kind,.str a0.data.name,i6 a0.data.num,sf cI a0.data.sc,sf KY a0.data.kids,sf K2 a0.kids]⟩)] []->Q (.ex 1) ⟨T,ss⟩)->(∀r,out=Sum.inl r->∀s',I6 KZ [.tmp 8] (fun r' ss'=>∃(tt':Sto),r'=.bool r.1/\Tau tt0 [(e0,⟨3,1,[i6 r.2]⟩)] tt'/\Fx tt' ss' [] []) s'->Q .ret s')->∀(T:TT) (ss tt:Sto) (z0v0:AV),T 2=i6 a2/\T 3=.ptr e0 0/\T 4=.ptr b1 0/\T 9=.ptr b7 0/\T 10=i6 1/\T 11=z0v0/\T 95=sf cI a0.ids/\T 96=i6 (a0.ids.length:Int)/\T 97=i6 Cb->Tau tt0 [(e0,⟨3,1,[i6 (i64.wrap (c0 - 1))]⟩)] tt->Fx tt ss [(b7,⟨31,11,[i6 a0.kind,i6 0,.str zB,i6 0,sf cI a0.ids,i6 0,.str zB,i6 0,.X4,.X4,sf K2 a0.kids]⟩),(b1,⟨31,11,[i6 a0.kind,i6 a0.id,.str a0.name,i6 a0.num,sf cI a0.ids,i6 a0.data.kind,.str a0.data.name,i6 a0.data.num,sf cI a0.data.sc,sf KY a0.data.kids,sf K2 a0.kids]⟩)] [⟨z0v0,3,1,rws cI X7⟩]->aLp KZ c Q ⟨T,ss⟩:=by
 intro a0 a2 c0 X7 Cb;revert X7 Cb;refine Ju.partial_correctness a0 a2 c0 _ ?_;intro Ju IH X7 Cb out H c hc Q tt0 e0 b1 b7 hE hR T ss tt z0v0 tT hX hF;refine lpy hc rfl fun q=>go ?_;refine cdp H (fun h H=>?_) (fun h H=>go ?_)
 ·obtain ⟨x99,f1,H⟩:=bil (g:=cI) (fun _=>rfl) H;refine go1 ?_;refine go ?_;refine bp H (Hw x99 1 999) fun x102 h H=>cl h (go ?_);obtain ⟨x108,g25,H⟩:=bnd H;refine Yb 3 105 108 (.bool x108) (giN q (fun q=>?_) (fun q=>?_)) (fun J=>go ?_)
  ·rw [if_neg (dbf q)] at g25;refine go ?_;obtain ⟨x107,hx107,g25⟩:=bnd g25;refine CP (I0 X7 x99 _ hx107) .bool (.cons ((hF.wk 0 rfl).trans (Zp (Sub.zero _) _)) (fun _=>rfl) (.cons (Zp (Sub.zero _) _) id .nil)) (go ?_);exact Yq 105 g25
  ·rw [if_pos (dbt q)] at g25;refine go ?_;exact Yq 105 g25
  refine cdb H (fun h H=>go ?_) (fun h H=>go ?_)
  ·exact wq (hR _ (pur H).symm _ (rg _ ⟨_,rfl,hX,K1 _⟩))
  ·refine apd (g:=cI) hF 0 H (rdo (c:=true) (g:=cI) (fun _=>rfl)) fun x112 H v27 s28 hF=>go ?_;exact IH  x112 (i64.wrap (Cb+1)) _ H _ rfl Q tt0 e0 b1 b7 hE hR _ _ _ v27 S hX hF
 ·obtain ⟨s29,hF,hw30,hb31,hz32⟩:=frz hF 0;exact Qte 11 S hw30 hb31 (hE _ (pur H).symm _ _ _  S hX hF)
theorem Pt:∀(a0:Cor) (a1:List Int) (a2 c0:Int) r,H5 a0 a1 a2 c0=some r->∀(e0:Nat)  (ss:Sto),Pre ss [(e0,⟨3,1,[i6 c0]⟩)] []->Ctr KZ 44 [.agg (K2 a0),sf cI a1,i6 a2,.ptr e0 0] ss (fun r' ss'=>∃(tt':Sto),r'=.bool r.1/\Tau (strip ss []) [(e0,⟨3,1,[i6 r.2]⟩)] tt'/\Fx tt' ss' [] []):=by
 refine H5.partial_correctness _ (motive_2:=fun a0 a2 W4 W5 W6 W7 W8 W9 G7 Bp YS out=>∀c,Yf Tryz.f44 1=some c->∀(Q:QT) (tt0:Sto) (e0 b1 b7:Nat) (y10c_1_4v y10c_1_8v y10c_1_9v:AV),(∀(BK:Int),out=Sum.inr BK->∀(T:TT) (ss tt:Sto),0+0=0->Tau tt0 [(e0,⟨3,1,[i6 BK]⟩)] tt->Fx tt ss [(b7,⟨31,11,[i6 a0.kind,i6 W4,.str W5,i6 W6,y10c_1_4v,i6 W7,.str W8,i6 W9,y10c_1_8v,y10c_1_9v,sf K2 a0.kids]⟩),(b1,⟨31,11,[i6 a0.kind,i6 a0.id,.str a0.name,i6 a0.num,sf cI a0.ids,i6 a0.data.kind,.str a0.data.name,i6 a0.data.num,sf cI a0.data.sc,sf KY a0.data.kids,sf K2 a0.kids]⟩)] []->Q (.ex 3) ⟨T,ss⟩)->(∀r,out=Sum.inl r->∀s',I6 KZ [.tmp 8] (fun r' ss'=>∃(tt':Sto),r'=.bool r.1/\Tau tt0 [(e0,⟨3,1,[i6 r.2]⟩)] tt'/\Fx tt' ss' [] []) s'->Q .ret s')->∀(T:TT) (ss tt:Sto),T 2=i6 a2/\T 3=.ptr e0 0/\T 11=sf cI G7/\T 134=sf K2 a0.kids/\T 135=i6 (a0.kids.length:Int)/\T 136=i6 Bp->Tau tt0 [(e0,⟨3,1,[i6 YS]⟩)] tt->Fx tt ss [(b7,⟨31,11,[i6 a0.kind,i6 W4,.str W5,i6 W6,y10c_1_4v,i6 W7,.str W8,i6 W9,y10c_1_8v,y10c_1_9v,sf K2 a0.kids]⟩),(b1,⟨31,11,[i6 a0.kind,i6 a0.id,.str a0.name,i6 a0.num,sf cI a0.ids,i6 a0.data.kind,.str a0.data.name,i6 a0.data.num,sf cI a0.data.sc,sf KY a0.data.kids,sf K2 a0.kids]⟩)] []->aLp KZ c Q ⟨T,ss⟩) ?_ ?_
 ·intro Jv L0 a0 a1 a2 c0 r H;intro e0  ss hP;refine hdg mixed Tryz.func44 (rs:=[.tmp 8]) fun q tT=>?_;obtain ⟨hF,hX⟩:=hP.start;generalize strip ss []=tt0 at hF hX ⊢;refine go ?_;refine X8 hF rfl fun b1 ss2 hF=>go ?_;refine stT hF hX 0 rfl fun tt4 ss3 hF hX=>?_;refine go ?_;obtain ⟨x28,g5,H⟩:=bnd H;refine Yb 2 26 28 (.bool x28) (giN q (fun q=>go ?_) (fun q=>go ?_)) (fun J=>go ?_)
  ·exact Yq 26 g5
  ·exact Yq 26 g5
  refine cdb H (fun h H=>go ?_) (fun h H=>go ?_)
  ·cases pur H;exact rg _ ⟨_,rfl,hX,K1 _⟩
  ·refine X8 hF rfl fun b7 s8 hF=>go ?_;refine st hF 0 rfl fun s9 hF=>?_;refine go ?_;obtain ⟨o38,j11,H⟩:=bnd H;refine V6 (fun s'=>∃(W4:Int) (W5:ByteArray) (W6:Int) (EK:List Int) (W7:Int) (W8:ByteArray) (W9:Int) (EL:List Int) (EM:List Fm) (O1:Int) (G7:List Int),∃(T:TT) (ss1 tt1:Sto) (y10c_1_4v y10c_1_8v y10c_1_9v:AV),o38=Sum.inr (W4,W5,W6,EK,W7,W8,W9,EL,EM,O1,G7)/\s'=⟨T,ss1⟩/\(T 2=i6 a2/\T 3=.ptr e0 0/\T 4=.ptr b1 0/\T 9=.ptr b7 0/\T 10=i6 O1/\T 11=sf cI G7)/\WkV y10c_1_4v (sf cI EK)/\WkV y10c_1_8v (sf cI EL)/\WkV y10c_1_9v (sf KY EM)/\Tau tt0 [(e0,⟨3,1,[i6 (i64.wrap (c0 - 1))]⟩)] tt1/\Fx tt1 ss1 [(b7,⟨31,11,[i6 a0.kind,i6 W4,.str W5,i6 W6,y10c_1_4v,i6 W7,.str W8,i6 W9,y10c_1_8v,y10c_1_9v,sf K2 a0.kids]⟩),(b1,⟨31,11,[i6 a0.kind,i6 a0.id,.str a0.name,i6 a0.num,sf cI a0.ids,i6 a0.data.kind,.str a0.data.name,i6 a0.data.num,sf cI a0.data.sc,sf KY a0.data.kids,sf K2 a0.kids]⟩)] []) (cdp j11 (fun h j11=>go ?_) (fun h j11=>go ?_)) ?_
   ·refine st hF 0 rfl fun s12 hF=>?_;refine go ?_;obtain ⟨x44,hx44,j11⟩:=bnd j11;refine cl (Hw a0.id 1 999 _ hx44) (go ?_);obtain ⟨x52,g13,j11⟩:=bnd j11;refine Yb 5 47 52 (.bool x52) (giN q (fun q=>?_) (fun q=>?_)) (fun J=>go ?_)
    ·rw [if_neg (dbf q)] at g13;refine go ?_;obtain ⟨x50,hx50,g13⟩:=bnd g13;refine cl (I0 a1 a0.id _ hx50) (go ?_);exact Yq 47 g13
    ·rw [if_pos (dbt q)] at g13;refine go ?_;exact Yq 47 g13
    refine cdb j11 (fun h j11=>?_) (fun h j11=>go ?_)
    ·have e:=pur j11;subst e
     try dsimp only at H
     refine go ?_;cases pur H;exact rg _ ⟨_,rfl,hX,K1 _⟩
    ·exact ⟨a0.id,zB,0,[],0,zB,0,[],[],0,a1,_,_,_,.X4,.X4,.X4,(pur j11).symm,rfl,S,WkV.X4,WkV.X4,WkV.X4,hX,hF⟩
   ·refine cdp j11 (fun h j11=>go ?_) (fun h j11=>go ?_)
    ·refine st hF 0 rfl fun s15 hF=>?_;refine go ?_;obtain ⟨x60,hx60,j11⟩:=bnd j11;refine cl (CW a0.name _ hx60) (go ?_);refine cdb j11 (fun h j11=>?_) (fun h j11=>go ?_)
     ·have e:=pur j11;subst e
      try dsimp only at H
      refine go ?_;cases pur H;exact rg _ ⟨_,rfl,hX,K1 _⟩
     ·exact ⟨0,a0.name,0,[],0,zB,0,[],[],0,a1,_,_,_,.X4,.X4,.X4,(pur j11).symm,rfl,S,WkV.X4,WkV.X4,WkV.X4,hX,hF⟩
    ·refine cdp j11 (fun h j11=>go ?_) (fun h j11=>go ?_)
     ·refine st hF 0 rfl fun s16 hF=>?_;refine go ?_;obtain ⟨x69,hx69,j11⟩:=bnd j11;refine cl (Hw a0.num 0 999 _ hx69) (go ?_);refine cdb j11 (fun h j11=>?_) (fun h j11=>go ?_)
      ·have e:=pur j11;subst e
       try dsimp only at H
       refine go ?_;cases pur H;exact rg _ ⟨_,rfl,hX,K1 _⟩
      ·exact ⟨0,zB,a0.num,[],0,zB,0,[],[],0,a1,_,_,_,.X4,.X4,.X4,(pur j11).symm,rfl,S,WkV.X4,WkV.X4,WkV.X4,hX,hF⟩
     ·refine cdp j11 (fun h j11=>go ?_) (fun h j11=>go ?_)
      ·refine st hF 0 rfl fun s17 hF=>?_;refine go ?_;obtain ⟨x78,hx78,j11⟩:=bnd j11;refine cl (CU a0.data _ hx78) (go ?_);obtain ⟨x86,g18,j11⟩:=bnd j11;refine Yb 5 81 86 (.bool x86) (giN q (fun q=>?_) (fun q=>?_)) (fun J=>go ?_)
       ·rw [if_neg (dbf q)] at g18;refine go ?_;obtain ⟨x83,hx83,g18⟩:=bnd g18;refine cl (MI a0.data _ hx83) (go ?_);exact Yq 81 g18
       ·rw [if_pos (dbt q)] at g18;refine go ?_;exact Yq 81 g18
       refine cdb j11 (fun h j11=>?_) (fun h j11=>go ?_)
       ·have e:=pur j11;subst e
        try dsimp only at H
        refine go ?_;cases pur H;exact rg _ ⟨_,rfl,hX,K1 _⟩
       ·exact ⟨0,zB,0,[],a0.data.kind,a0.data.name,a0.data.num,a0.data.sc,a0.data.kids,0,a1,_,_,_,.X4,(sf cI a0.data.sc),(sf KY a0.data.kids),(pur j11).symm,rfl,S,WkV.X4,(WkV.refl _),(WkV.refl _),hX,hF⟩
      ·refine cdp j11 (fun h j11=>go ?_) (fun h j11=>go ?_)
       ·refine st hF 0 rfl fun s20 hF=>?_;refine go ?_;obtain ⟨x93,hx93,j11⟩:=bnd j11;refine cx (Cf a1 _ hx93   _ (pre 0 0 0 hF hX)) ?_;rintro v21 s22 ⟨t23,_,rfl,hT,hG⟩;obtain ⟨t24,hX,hF⟩:=aft 0 0 0 hF hX hT hG;refine go ?_;obtain ⟨o33,ho33,j11⟩:=bnd j11;refine LP a0 a2 c0 x93 0 _ ho33 _ rfl _ tt0 e0 b1 b7 ?_ ?_ _ _ _ v21 S hX hF
        ·intro Qg0 he T35 s36 tt37 tT hX hF;have he:=he.symm;subst he
         try dsimp only at j11
         refine go ?_;exact ⟨0,zB,0,a0.ids,0,zB,0,[],[],1,Qg0,_,_,_,(sf cI a0.ids),.X4,.X4,(pur j11).symm,rfl,S,(WkV.refl _),WkV.X4,WkV.X4,hX,hF⟩
        ·intro r hr s' hs;subst hr;have e:=pur j11;subst e
         try dsimp only at H
         cases pur H;exact hsq hs
       ·refine cdp j11 (fun h j11=>go ?_) (fun h j11=>go ?_)
        ·exact ⟨0,zB,0,[],0,zB,0,[],[],(if (a0.kids.length:Int) > 1 then (a0.kids.length:Int) else 1),a1,_,_,_,.X4,.X4,.X4,(pur j11).symm,rfl,S,WkV.X4,WkV.X4,WkV.X4,hX,hF⟩
        ·refine cdp j11 (fun h j11=>go ?_) (fun h j11=>?_)
         ·exact ⟨0,zB,0,[],0,zB,0,[],[],3,a1,_,_,_,.X4,.X4,.X4,(pur j11).symm,rfl,S,WkV.X4,WkV.X4,WkV.X4,hX,hF⟩
         ·have e:=pur j11;subst e
          try dsimp only at H
          refine go ?_;cases pur H;exact rg _ ⟨_,rfl,hX,K1 _⟩
   ·rintro s' ⟨W4,W5,W6,EK,W7,W8,W9,EL,EM,O1,G7,T39,s40,t41,y10c_1_4v,y10c_1_8v,y10c_1_9v,rfl,rfl,tT,y10c_1_4h,y10c_1_8h,y10c_1_9h,hX,hF⟩
    try dsimp only at H
    refine go ?_;obtain ⟨x132,g42,H⟩:=bnd H;refine Yb 4 128 132 (.bool x132) (giN q (fun q=>?_) (fun q=>?_)) (fun J=>go ?_)
    ·rw [if_pos (dnf q)] at g42;refine go ?_;obtain ⟨x130,hx130,g42⟩:=bnd g42;refine cl (MN a0 (Cor.mk a0.kind W4 W5 W6 EK (Fm.mk W7 W8 W9 EL EM) a0.kids) _ hx130) (go ?_);exact Yq 128 g42
    ·rw [if_neg (dnt q)] at g42;refine go ?_;exact Yq 128 g42
    refine cdb H (fun h H=>go ?_) (fun h H=>go ?_)
    ·cases pur H;exact rg _ ⟨_,rfl,hX,K1 _⟩
    ·obtain ⟨o50,ho50,H⟩:=bnd H;refine L0 a0 a2 W4 W5 W6 W7 W8 W9 G7 0 (i64.wrap (c0 - 1)) _ ho50 _ rfl _ tt0 e0 b1 b7 y10c_1_4v y10c_1_8v y10c_1_9v ?_ ?_ _ _ _  S hX hF
     ·intro Qbb he T52 s53 t54 tT hX hF;have he:=he.symm;subst he
      try dsimp only at H
      refine go ?_;cases pur H;exact rg _ ⟨_,rfl,hX,K1 _⟩
     ·intro r hr s' hs;subst hr;cases pur H;exact hsq hs
 ·intro H5 Jv C0 L0 a0 a2 W4 W5 W6 W7 W8 W9 G7 Bp YS out H c hc Q tt0 e0 b1 b7 y10c_1_4v y10c_1_8v y10c_1_9v hE hR T ss tt tT hX hF;refine lpy hc rfl fun q=>go ?_;refine cdp H (fun h H=>?_) (fun h H=>go ?_)
  ·obtain ⟨x138,f1,H⟩:=bil (g:=K2) Cor.X6 H;refine go1 ?_;refine X8 hF rfl fun b44 s45 hF=>go ?_;refine st hF 0 rfl fun s46 hF=>?_;refine go ?_;obtain ⟨x145,hx145,H⟩:=bnd H;refine cx (C0 x138 G7 (i64.wrap (a2+1)) YS _ hx145 e0  _ (pre 0 1 0 hF hX)) ?_;rintro _ s47 ⟨t48,rfl,hT,hG⟩;obtain ⟨t49,hX,hF⟩:=aft 0 1 0 hF hX hT hG;refine go ?_;refine cdb H (fun h H=>go ?_) (fun h H=>go ?_)
   ·exact wq (hR _ (pur H).symm _ (rg _ ⟨_,rfl,hX,K1 _⟩))
   ·exact L0 a0 a2 W4 W5 W6 W7 W8 W9 G7 (i64.wrap (Bp+1)) x145.2 _ H _ rfl Q tt0 e0 b1 b7 y10c_1_4v y10c_1_8v y10c_1_9v hE hR _ _ _  S hX (hF.drop 1 0)
  ·exact wq (hE _ (pur H).symm _ _ _  S hX hF)
theorem CT:∀(a0:Cor) r,Io a0=some r->Y7 KZ 20 [.agg (K2 a0)] (.bool r):=by
 intro a0 r H;intro ss;unfold Io at H;refine hdh mixed Tryz.func20 (rs:=[.tmp 2]) fun q tT hF hX=>?_;refine go ?_;refine X8 hF rfl fun b1 ss2 hF=>go ?_;refine X8 hF rfl fun b3 ss4 hF=>go ?_;refine st hF 0 rfl fun ss5 hF=>?_;refine go ?_;obtain ⟨x5,hx5,H⟩:=bnd H;refine cx (Pt a0 [] 1 600 _ hx5 b3  _ (pre 1 0 0 hF hX)) ?_;rintro _ ss6 ⟨t7,rfl,hT,hG⟩;have hF:=Pm 1 0 hF hX hT hG;refine go ?_;cases pur H;exact rt _
theorem J9:∀(a1:Int) (c0:Mch) r,VD a1 c0=some r->∀(e0:Nat)  (ss:Sto),Pre ss [(e0,⟨55,2,[i6 c0.fuel,i6 c0.code]⟩)] []->Ctr KZ 52 [.ptr e0 0,i6 a1] ss (fun r' ss'=>∃(tt':Sto),r'=.agg (Zo r.1)/\Tau (strip ss []) [(e0,⟨55,2,[i6 r.2.fuel,i6 r.2.code]⟩)] tt'/\Fx tt' ss' [] []):=by
 intro a1 c0 r H;intro e0  ss hP;unfold VD at H;refine hdg mixed Tryz.func52 (rs:=[.cell 4 34]) fun q tT=>?_;obtain ⟨hF,hX⟩:=hP.start;generalize strip ss []=tt0 at hF hX ⊢;refine go ?_;refine X8 hF rfl fun b1 ss2 hF=>go ?_;refine cdp H (fun h H=>go ?_) (fun h H=>go ?_)
 ·refine stT hF hX 0 rfl fun tt4 ss3 hF hX=>?_;refine go ?_;refine st hF 0 rfl fun ss5 hF=>?_;refine go ?_;cases pur H;exact rg _ ⟨_,rfl,hX,K1 _⟩
 ·refine st hF 0 rfl fun ss6 hF=>?_;refine go ?_;cases pur H;exact rg _ ⟨_,rfl,hX,K1 _⟩
theorem Ag:∀(a0:Int) r,H6 a0=some r->Y7 KZ 53 [i6 a0] (.agg (Zo r)):=by
 intro a0 r H;intro ss;unfold H6 at H;refine hdh mixed Tryz.func53 (rs:=[.cell 2 34]) fun q tT hF hX=>?_;refine go ?_;refine X8 hF rfl fun b1 ss2 hF=>go ?_;refine st hF 0 rfl fun ss3 hF=>?_;refine go ?_;cases pur H;exact rt _
theorem LQ:∀(a0:Fm) r,Gm a0=some r->Y7 KZ 24 [.agg (KY a0)] (.agg (Zo r)):=by
 refine Gm.partial_correctness _ (motive_2:=fun a0 X7 DO out=>∀c,Yf Tryz.f24 0=some c->∀(Q:QT) (tt:Sto) (b1 b3 b7:Nat),(∀(YX:List Val),out=YX->∀(T:TT) (ss:Sto) (e0v0:AV),T 2=.ptr b3 0/\T 3=.ptr b7 0->Fx tt ss [(b7,⟨34,16,[i6 3,i6 0,.str zB,e0v0,i6 0,i6 0,.str zB,i6 0,.X4,i6 0,.str zB,i6 0,.X4,.X4,.X4,.X4]⟩),(b3,⟨34,16,[i6 0,i6 0,.str zB,.X4,i6 0,i6 0,.str zB,i6 0,.X4,i6 0,.str zB,i6 0,.X4,.X4,.X4,.X4]⟩),(b1,⟨26,5,[i6 a0.kind,.str a0.name,i6 a0.num,sf cI a0.sc,sf KY a0.kids]⟩)] [⟨e0v0,34,16,rws Zo YX⟩]->Q (.ex 1) ⟨T,ss⟩)->True->∀(T:TT) (ss:Sto) (z0v0:AV),T 2=.ptr b3 0/\T 3=.ptr b7 0/\T 20=sf KY a0.kids/\T 21=i6 (a0.kids.length:Int)/\T 22=i6 DO->Fx tt ss [(b7,⟨34,16,[i6 3,i6 0,.str zB,z0v0,i6 0,i6 0,.str zB,i6 0,.X4,i6 0,.str zB,i6 0,.X4,.X4,.X4,.X4]⟩),(b3,⟨34,16,[i6 0,i6 0,.str zB,.X4,i6 0,i6 0,.str zB,i6 0,.X4,i6 0,.str zB,i6 0,.X4,.X4,.X4,.X4]⟩),(b1,⟨26,5,[i6 a0.kind,.str a0.name,i6 a0.num,sf cI a0.sc,sf KY a0.kids]⟩)] [⟨z0v0,34,16,rws Zo X7⟩]->aLp KZ c Q ⟨T,ss⟩) ?_ ?_
 ·intro Wz L0 a0 r H;intro ss;refine hdh mixed Tryz.func24 (rs:=[.cell 2 34]) fun q tT hF hX=>?_;refine go ?_;refine X8 hF rfl fun b1 ss2 hF=>go ?_;refine X8 hF rfl fun b3 ss4 hF=>go ?_;refine cdp H (fun h H=>go ?_) (fun h H=>go ?_)
  ·refine st hF 0 rfl fun ss5 hF=>?_;refine go ?_;cases pur H;exact rt _
  ·refine cdp H (fun h H=>go ?_) (fun h H=>go ?_)
   ·refine st hF 0 rfl fun ss6 hF=>?_;refine go ?_;cases pur H;exact rt _
   ·refine X8 hF rfl fun b7 s8 hF=>go ?_;refine st hF 0 rfl fun s9 hF=>?_;have hF:=hF.nil 34 16;refine go ?_;obtain ⟨o16,ho16,H⟩:=bnd H;refine L0 a0 [] 0 _ ho16 _ rfl _ _ b1 b3 b7 ?_ ?_ _ _ .X4 S hF
    ·intro Tn he T18 s19 e17v0 tT hF;have he:=he.symm;subst he;refine go ?_;refine st hF 1 rfl fun s21 hF=>?_;refine go ?_;cases pur H;exact rt _
    ·trivial
 ·intro Gm Wz C0 L0 a0 X7 DO out H c hc Q tt b1 b3 b7 hE hR T ss z0v0 tT hF;refine lpx tt hc rfl fun q hX=>go ?_;refine cdp H (fun h H=>?_) (fun h H=>go ?_)
  ·obtain ⟨x24,f1,H⟩:=bil (g:=KY) Fm.X6 H;refine go1 ?_;refine X8 hF rfl fun b10 s11 hF=>go ?_;refine st hF 0 rfl fun s12 hF=>?_;refine go ?_;refine Yj E0 [.v,.v,.v,.v,.v,.x,.v,.z] (by kernel_rfl) (go ?_);refine bp H (C0 x24) fun x29 h H=>cv h (go ?_);refine NN (g:=Zo) hF 0 H (rdo (c:=true) (g:=Zo) Val.X6) fun x31 H v13 s14 hF=>go ?_;refine st hF 1 (hF.cells 0 rfl) fun s15 hF=>?_;refine go ?_;exact L0 a0 x31 (i64.wrap (DO+1)) _ H _ rfl Q tt b1 b3 b7 hE hR _ _ v13 S (hF.drop 1 0)
  ·exact wq (hE _ (pur H).symm _ _ z0v0 S hF)
theorem AT:∀(a0:List ByteArray) (a1:ByteArray) (YK:Int) out,YQ a0 a1 YK=some out->∀c,Yf Tryz.f86 0=some c->∀(Q:QT) (tt:Sto),(∀(_u:Unit),out=Sum.inr ()->∀(T:TT) (ss:Sto),0+0=0->Fx tt ss [] []->Q (.ex 0) ⟨T,ss⟩)->(∀r,out=Sum.inl r->∀s',I6 KZ [.tmp 4] (fun r' ss'=>r'=i6 r/\ss'=tt) s'->Q .ret s')->∀(T:TT) (ss:Sto),T 0=sf cS a0/\T 1=.str a1/\T 7=i6 (a0.length:Int)/\T 8=i6 YK->Fx tt ss [] []->aLp KZ c Q ⟨T,ss⟩:=by
 intro a0 a1 YK;revert YK;refine YQ.partial_correctness a0 a1 _ ?_;intro YQ IH YK out H c hc Q tt  hE hR T ss tT hF;refine lpx tt hc rfl fun q hX=>go ?_;refine cdp H (fun h H=>?_) (fun h H=>go ?_)
 ·obtain ⟨x14,f1,H⟩:=bil (g:=cS) (fun _=>rfl) H;refine go1 ?_;refine go ?_;refine cdp H (fun h H=>go ?_) (fun h H=>go ?_)
  ·exact wq (hR _ (pur H).symm _ (rt _))
  ·exact IH  (i64.wrap (YK+1)) _ H _ rfl Q tt  hE hR _ _  S hF
 ·exact wq (hE () (pur H).symm _ _  S hF)
theorem Bl:∀(a0:List ByteArray) (a1:ByteArray) r,Jl a0 a1=some r->Y7 KZ 86 [sf cS a0,.str a1] (i6 r):=by
 intro a0 a1 r H;intro ss;unfold Jl at H;refine hdh mixed Tryz.func86 (rs:=[.tmp 4]) fun q tT hF hX=>?_;refine go ?_;obtain ⟨o1,ho1,H⟩:=bnd H;refine AT a0 a1 0 _ ho1 _ rfl _ _  ?_ ?_ _ _  S hF
 ·intro _ he T3 ss4 tT hF;have he:=he.symm;subst he
  try dsimp only at H
  refine go ?_;cases pur H;exact rt _
 ·intro r hr s' hs;subst hr;cases pur H;exact hsq hs
theorem AQ:∀(a0:List ByteArray) (a1:ByteArray) r,Vg a0 a1=some r->Y7 KZ 54 [sf cS a0,.str a1] (.bool r):=by
 intro a0 a1 r H;intro ss;unfold Vg at H;refine hdh mixed Tryz.func54 (rs:=[.tmp 4]) fun q tT hF hX=>?_;refine go ?_;refine bp H (Bl a0 a1) fun x7 h H=>cl h (go ?_);cases pur H;exact rt _
theorem Bt:∀(a0:Val) r,Wi a0=some r->Y7 KZ 88 [.agg (Zo a0)] (.bool r):=by
 intro a0 r H;intro ss;unfold Wi at H;refine hdh mixed Tryz.func88 (rs:=[.tmp 2]) fun q tT hF hX=>?_;refine go ?_;refine X8 hF rfl fun b1 ss2 hF=>go ?_;cases pur H;exact rt _
theorem Jk:∀(a0:List Val) (YK:Int) out,Yk a0 YK=some out->∀c,Yf Tryz.f114 0=some c->∀(Q:QT) (tt:Sto),(∀(_u:Unit),out=Sum.inr ()->∀(T:TT) (ss:Sto),0+0=0->Fx tt ss [] []->Q (.ex 0) ⟨T,ss⟩)->(∀r,out=Sum.inl r->∀s',I6 KZ [.tmp 4] (fun r' ss'=>r'=i6 r/\ss'=tt) s'->Q .ret s')->∀(T:TT) (ss:Sto),T 0=sf Zo a0/\T 1=.fn 88 []/\T 7=i6 (a0.length:Int)/\T 8=i6 YK->Fx tt ss [] []->aLp KZ c Q ⟨T,ss⟩:=by
 intro a0 YK;revert YK;refine Yk.partial_correctness a0 _ ?_;intro Yk IH YK out H c hc Q tt  hE hR T ss tT hF;refine lpx tt hc rfl fun q hX=>go ?_;refine cdp H (fun h H=>?_) (fun h H=>go ?_)
 ·obtain ⟨x14,f1,H⟩:=bil (g:=Zo) Val.X6 H;refine go1 ?_;refine bp H (Bt x14) fun x16 h H=>cl h (go ?_);refine cdb H (fun h H=>go ?_) (fun h H=>go ?_)
  ·exact wq (hR _ (pur H).symm _ (rt _))
  ·exact IH  (i64.wrap (YK+1)) _ H _ rfl Q tt  hE hR _ _  S hF
 ·exact wq (hE () (pur H).symm _ _  S hF)
theorem Jy:∀(a0:List Val) r,YP a0=some r->Y7 KZ 114 [sf Zo a0,.fn 88 []] (i6 r):=by
 intro a0 r H;intro ss;unfold YP at H;refine hdh mixed Tryz.func114 (rs:=[.tmp 4]) fun q tT hF hX=>?_;refine go ?_;obtain ⟨o1,ho1,H⟩:=bnd H;refine Jk a0 0 _ ho1 _ rfl _ _  ?_ ?_ _ _  S hF
 ·intro _ he T3 ss4 tT hF;have he:=he.symm;subst he
  try dsimp only at H
  refine go ?_;cases pur H;exact rt _
 ·intro r hr s' hs;subst hr;cases pur H;exact hsq hs
theorem Jj:∀(a0:List Val) r,Yz a0=some r->Y7 KZ 87 [sf Zo a0,.fn 88 []] (.bool r):=by
 intro a0 r H;intro ss;unfold Yz at H;refine hdh mixed Tryz.func87 (rs:=[.tmp 4]) fun q tT hF hX=>?_;refine go ?_;refine bp H (Jy a0) fun x7 h H=>cl h (go ?_);cases pur H;exact rt _
end Go.Proofs.SA
