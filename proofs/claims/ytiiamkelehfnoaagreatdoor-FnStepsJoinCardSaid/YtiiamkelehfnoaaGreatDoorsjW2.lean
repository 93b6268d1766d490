/- Printed by a program of mine: the plain functions that the code computes (D), and the walks that show it (W). -/
import Derived.Test.YtiiamkelehfnoaaGreatDoorGx
import Derived.Test.YtiiamkelehfnoaaGreatDoorSaTy
import Derived.Test.YtiiamkelehfnoaaGreatDoorChecked
import Derived.Lib.Strings
import Derived.Lib.Slices
import Derived.Lib.Walk
import Derived.Lib.Bytealg
import Derived.Test.YtiiamkelehfnoaaGreatDoorGv
import Derived.Test.YtiiamkelehfnoaaGreatDoorSf
import Derived.Test.YtiiamkelehfnoaaGreatDoorsjD
import Derived.Test.YtiiamkelehfnoaaGreatDoorsjW1
set_option maxRecDepth 100000
set_option maxHeartbeats 2000000
set_option linter.unusedSimpArgs false
set_option linter.unusedVariables false
open Go Go.Proofs Go.Proofs.Shadow
open Tryz renaming prog → K0
open Fm renaming cells → KZ
open Stp renaming cells → ZF
open _root_.ByteArray renaming mk → Ql
open Go.IntKind (i64)
namespace Go.Proofs.SA
theorem CU:∀(a0:Fm) (X8:List ByteArray) (CO:Int) out,GH a0 X8 CO=some out->∀c,Yh Tryz.f43 0=some c->∀(Q:QT) (tt:Sto) (b1:Nat),(∀(YO:List ByteArray),out=YO->∀(T:TT) (ss:Sto) (e0v0:AV),T 1=.ptr b1 0/\T 3=e0v0->Fx tt ss [(b1,⟨34,5,[i6 a0.kind,.str a0.name,i6 a0.num,sf cI a0.sc,sf KZ a0.kids]⟩)] [⟨e0v0,9,1,rws cS YO⟩]->Q (.ex 1) ⟨T,ss⟩)->True->∀(T:TT) (ss:Sto) (z0v0:AV),T 1=.ptr b1 0/\T 3=z0v0/\T 21=sf cI a0.sc/\T 22=i6 (a0.sc.length:Int)/\T 23=i6 CO->Fx tt ss [(b1,⟨34,5,[i6 a0.kind,.str a0.name,i6 a0.num,sf cI a0.sc,sf KZ a0.kids]⟩)] [⟨z0v0,9,1,rws cS X8⟩]->aLp K0 c Q ⟨T,ss⟩:=by
 intro a0 X8 CO;revert X8 CO;refine GH.partial_correctness a0 _ ?_;intro GH IH X8 CO out H c hc Q tt b1 hE hR T ss z0v0 tT hF;refine lpx tt hc rfl fun q hX=>go ?_;refine cdp H (fun h H=>?_) (fun h H=>?_)
 ·obtain ⟨x25,f1,H⟩:=bil (g:=cI) (fun _=>rfl) H;refine go1 ?_;refine go ?_;refine bp H (Cb x25) fun x29 h H=>cl h ?_;refine go ?_;refine apd (g:=cS) hF 0 H (rdo (c:=true) (g:=cS) (fun _=>rfl)) fun x31 H v3 ss4 hF=>?_;refine go ?_;exact IH  x31 (i64.wrap (CO+1)) _ H _ rfl Q tt b1 hE hR _ _ v3 S hF
 ·refine go ?_;exact wq (hE _ (pur H).symm _ _ z0v0 S hF)
theorem E5:∀(a0:Fm) r,JF a0=some r->Vb K0 43 [.agg (KZ a0)] (.str r):=by
 refine JF.partial_correctness _ (motive_2:=fun a0 Vj BC out=>∀c,Yh Tryz.f43 1=some c->∀(Q:QT) (tt:Sto) (b1:Nat),(∀(La:List ByteArray),out=La->∀(T:TT) (ss:Sto) (e1v0:AV),T 6=e1v0->Fx tt ss [(b1,⟨34,5,[i6 a0.kind,.str a0.name,i6 a0.num,sf cI a0.sc,sf KZ a0.kids]⟩)] [⟨e1v0,9,1,rws cS La⟩]->Q (.ex 3) ⟨T,ss⟩)->True->∀(T:TT) (ss:Sto) (z1v0:AV),T 6=z1v0/\T 47=sf KZ a0.kids/\T 48=i6 (a0.kids.length:Int)/\T 49=i6 BC->Fx tt ss [(b1,⟨34,5,[i6 a0.kind,.str a0.name,i6 a0.num,sf cI a0.sc,sf KZ a0.kids]⟩)] [⟨z1v0,9,1,rws cS Vj⟩]->aLp K0 c Q ⟨T,ss⟩) ?_ ?_
 ·intro Wa L0 a0 r H;intro ss;refine hdh mixed Tryz.func43 (rs:=[.tmp 2]) fun q tT hF hX=>?_;refine go ?_;refine X9 hF rfl fun b1 ss2 hF=>?_;refine go ?_;refine cdp H (fun h H=>?_) (fun h H=>?_)
  ·refine go ?_;refine cdp H (fun h H=>?_) (fun h H=>?_)
   ·refine go ?_;have e:=pur H;subst e;exact rt _
   ·have hF:=hF.lit 9 1 (rws cS []) rfl;refine go ?_;obtain ⟨o5,ho5,H⟩:=bnd H;refine CU a0 [] 0 _ ho5 _ rfl _ _ b1 ?_ ?_ _ _ (.sl true (rws cS [])) S hF
    ·intro SW he T7 s8 e6v0 tT hF;have he:=he.symm;subst he;refine go ?_;refine Yg E0 [.v,.v,.v,.v,.x,.v,.v,.v] (by kernel_rfl) ?_;obtain ⟨x35,f1,H⟩:=bsc H;refine go1 ?_;obtain ⟨x37,hx37,H⟩:=bnd H;refine Cg (Cc SW (Ql #[44]) _ hx37) .str (.cons ((hF.wk 0 rfl).trans (Wk.sub (Sub.zero _) _)) (fun _=>rfl) (.cons (Wk.sub (Sub.zero _) _) id .nil)) ?_;obtain ⟨x38,f1,H⟩:=bsc H;obtain ⟨x39,f2,H⟩:=bsc H;refine go2 ?_;refine go ?_;have e:=pur H;subst e;exact rt _
    ·trivial
  ·refine go ?_;refine cdp H (fun h H=>?_) (fun h H=>?_)
   ·refine go ?_;refine bp H (Cb a0.num) fun x44 h H=>cl h ?_;refine go ?_;have e:=pur H;subst e;exact rt _
   ·have hF:=hF.lit 9 1 (rws cS []) rfl;refine go ?_;obtain ⟨o15,ho15,H⟩:=bnd H;refine L0 a0 [] 0 _ ho15 _ rfl _ _ b1 ?_ ?_ _ _ (.sl true (rws cS [])) S hF
    ·intro U5 he T17 s18 e16v0 tT hF;have he:=he.symm;subst he;refine go ?_;obtain ⟨x60,hx60,H⟩:=bnd H;refine Cg (Cc U5 (Ql #[32]) _ hx60) .str (.cons ((hF.wk 0 rfl).trans (Wk.sub (Sub.zero _) _)) (fun _=>rfl) (.cons (Wk.sub (Sub.zero _) _) id .nil)) ?_;obtain ⟨x61,f1,H⟩:=bsc H;obtain ⟨x62,f2,H⟩:=bsc H;refine go2 ?_;refine go ?_;have e:=pur H;subst e;exact rt _
    ·trivial
 ·intro JF Wa C0 L0 a0 Vj BC out H c hc Q tt b1 hE hR T ss z1v0 tT hF;refine lpx tt hc rfl fun q hX=>go ?_;refine cdp H (fun h H=>?_) (fun h H=>?_)
  ·obtain ⟨x51,f1,H⟩:=bil (g:=KZ) Fm.X6 H;refine go1 ?_;refine X9 hF rfl fun b10 s11 hF=>?_;refine go ?_;refine st hF 0 rfl fun s12 hF=>?_;refine go ?_;refine bp H (C0 x51) fun x55 h H=>cl h ?_;refine go ?_;refine apd (g:=cS) hF 0 H (rdo (c:=true) (g:=cS) (fun _=>rfl)) fun x57 H v13 s14 hF=>?_;refine go ?_;exact L0 a0 x57 (i64.wrap (BC+1)) _ H _ rfl Q tt b1 hE hR _ _ v13 S (hF.drop 1 0)
  ·refine go ?_;exact wq (hE _ (pur H).symm _ _ z1v0 S hF)
theorem Aw:∀(a0:Fm) r,WC a0=some r->Vb K0 17 [.agg (KZ a0)] (.str r):=by
 intro a0 r H;intro ss;unfold WC at H;refine hdh mixed Tryz.func17 (rs:=[.tmp 2]) fun q tT hF hX=>?_;refine go ?_;refine X9 hF rfl fun b1 ss2 hF=>?_;refine go ?_;refine bp H (D3 a0) fun x4 h H=>cl h ?_;refine go ?_;refine cdb H (fun h H=>?_) (fun h H=>?_)
 ·refine go ?_;have e:=pur H;subst e;exact rt _
 ·refine go ?_;refine bp H (E5 a0) fun x7 h H=>cl h ?_;refine go ?_;have e:=pur H;subst e;exact rt _
theorem Cv:∀(a0:List Stp) (Yo:ByteArray) (YI:Int) out,Vk a0 Yo YI=some out->∀c,Yh Tryz.f7 0=some c->∀(Q:QT) (tt:Sto),(∀(A6:ByteArray),out=A6->∀(T:TT) (ss:Sto),T 3=.str A6->Fx tt ss [] []->Q (.ex 0) ⟨T,ss⟩)->True->∀(T:TT) (ss:Sto),T 3=.str Yo/\T 6=sf ZF a0/\T 7=i6 (a0.length:Int)/\T 8=i6 YI->Fx tt ss [] []->aLp K0 c Q ⟨T,ss⟩:=by
 intro a0 Yo YI;revert Yo YI;refine Vk.partial_correctness a0 _ ?_;intro Vk IH Yo YI out H c hc Q tt  hE hR T ss tT hF;refine lpx tt hc rfl fun q hX=>go ?_;refine cdp H (fun h H=>?_) (fun h H=>?_)
 ·obtain ⟨x10,f1,H⟩:=bil (g:=ZF) Stp.X6 H;refine go1 ?_;refine X9 hF rfl fun b1 ss2 hF=>?_;refine go ?_;refine st hF 0 rfl fun ss3 hF=>?_;refine go ?_;refine Yg E0 [.v,.v,.v,.v,.v,.v,.v,.v,.v,.v,.v,.v,.v,.v] (by kernel_rfl) ?_;refine go ?_;refine bp H (A8 x10.use) fun x15 h H=>cv h ?_;refine go ?_;refine bp H (Aw x15) fun x16 h H=>cv h ?_;obtain ⟨x17,f1,H⟩:=bsc H;refine go1 ?_;refine bp H (A8 x10.res) fun x20 h H=>cv h ?_;refine go ?_;refine bp H (Aw x20) fun x21 h H=>cv h ?_;obtain ⟨x22,f1,H⟩:=bsc H;obtain ⟨x23,f2,H⟩:=bsc H;obtain ⟨x24,f3,H⟩:=bsc H;refine go3 ?_;refine go ?_;exact IH  x24 (i64.wrap (YI+1)) _ H _ rfl Q tt  hE hR _ _  S (hF.drop 1 0)
 ·refine go ?_;exact wq (hE _ (pur H).symm _ _  S hF)
theorem A7:∀(a0:List Stp) r,JQ a0=some r->Vb K0 7 [sf ZF a0] (.str r):=by
 intro a0 r H;intro ss;unfold JQ at H;refine hdh mixed Tryz.func7 (rs:=[.tmp 2]) fun q tT hF hX=>?_;refine go ?_;obtain ⟨o4,ho4,H⟩:=bnd H;refine Cv a0 zB 0 _ ho4 _ rfl _ _  ?_ ?_ _ _  S hF
 ·intro Qgg he T6 s7 tT hF;have he:=he.symm;subst he;refine go ?_;have e:=pur H;subst e;exact rt _
 ·trivial
theorem Ef:∀(NU:Int) (Yo:ByteArray) out,JU NU Yo=some out->∀c,Yh Tryz.f71 0=some c->∀(Q:QT) (tt:Sto),(∀(Qjb:Int) (A6:ByteArray),out=(Qjb,A6)->∀(T:TT) (ss:Sto),T 0=i6 Qjb/\T 3=.str A6->Fx tt ss [] []->Q (.ex 0) ⟨T,ss⟩)->True->∀(T:TT) (ss:Sto),T 0=i6 NU/\T 3=.str Yo->Fx tt ss [] []->aLp K0 c Q ⟨T,ss⟩:=by
 refine JU.partial_correctness  _ ?_;intro JU IH NU Yo out H c hc Q tt  hE hR T ss tT hF;refine lpx tt hc rfl fun q hX=>go ?_;refine cdp H (fun h H=>?_) (fun h H=>?_)
 ·obtain ⟨x21,f1,H⟩:=bsc H;refine go1 ?_;refine go ?_;exact IH  (i64.wrap (NU.tdiv 10)) x21 _ H _ rfl Q tt  hE hR _ _  S hF
 ·refine go ?_;exact wq (hE _ _ (pur H).symm _ _  S hF)
theorem CG:∀(a0:Int) r,WR a0=some r->Vb K0 71 [i6 a0] (.str r):=by
 refine WR.partial_correctness  (motive:=fun a0 r=>Vb K0 71 [i6 a0] (.str r)) ?_
 ·intro WR C0 a0 r H;intro ss;refine hdh mixed Tryz.func71 (rs:=[.tmp 2]) fun q tT hF hX=>?_;refine go ?_;refine cdp H (fun h H=>?_) (fun h H=>?_)
  ·refine go ?_;have e:=pur H;subst e;exact rt _
  ·refine go ?_;refine cdp H (fun h H=>?_) (fun h H=>?_)
   ·refine go ?_;obtain ⟨x10,hx10,H⟩:=bnd H;refine cl (C0 (i64.wrap (0 - a0)) _ hx10) ?_;obtain ⟨x11,f1,H⟩:=bsc H;refine go1 ?_;refine go ?_;have e:=pur H;subst e;exact rt _
   ·refine go ?_;obtain ⟨o1,ho1,H⟩:=bnd H;refine Ef  a0 zB _ ho1 _ rfl _ _  ?_ ?_ _ _  S hF
    ·intro Qjf SU he T3 ss4 tT hF;have he:=he.symm;subst he
     try dsimp only at H
     obtain ⟨x30,f1,H⟩:=bsc H;refine go1 ?_;refine go ?_;have e:=pur H;subst e;exact rt _
    ·trivial
theorem El:∀(a0:Fm) (Yo:ByteArray) (Yx:Int) out,Wr a0 Yo Yx=some out->∀c,Yh Tryz.f45 0=some c->∀(Q:QT) (tt:Sto) (b1:Nat),(∀(A6:ByteArray),out=A6->∀(T:TT) (ss:Sto),T 1=.ptr b1 0/\T 3=.str A6->Fx tt ss [(b1,⟨34,5,[i6 a0.kind,.str a0.name,i6 a0.num,sf cI a0.sc,sf KZ a0.kids]⟩)] []->Q (.ex 0) ⟨T,ss⟩)->True->∀(T:TT) (ss:Sto),T 1=.ptr b1 0/\T 3=.str Yo/\T 4=i6 Yx->Fx tt ss [(b1,⟨34,5,[i6 a0.kind,.str a0.name,i6 a0.num,sf cI a0.sc,sf KZ a0.kids]⟩)] []->aLp K0 c Q ⟨T,ss⟩:=by
 intro a0 Yo Yx;revert Yo Yx;refine Wr.partial_correctness a0 _ ?_;intro Wr IH Yo Yx out H c hc Q tt b1 hE hR T ss tT hF;refine lpx tt hc rfl fun q hX=>go ?_;refine cdp H (fun h H=>?_) (fun h H=>?_)
 ·refine go ?_;obtain ⟨Qbm,j4,H⟩:=bnd H;refine Vy (fun s'=>∃(T:TT) (ss1:Sto),s'=⟨T,ss1⟩/\(T 1=.ptr b1 0/\T 3=.str Yo/\T 4=i6 Yx/\T 5=.str Qbm)/\Fx tt ss1 [(b1,⟨34,5,[i6 a0.kind,.str a0.name,i6 a0.num,sf cI a0.sc,sf KZ a0.kids]⟩)] []) (cdp j4 (fun h j4=>?_) (fun h j4=>?_)) ?_
  ·refine go ?_;have e:=pur j4;subst e;exact ⟨_,_,rfl,S,hF⟩
  ·refine go ?_;have e:=pur j4;subst e;exact ⟨_,_,rfl,S,hF⟩
  ·rintro s' ⟨T5,ss6,rfl,tT,hF⟩;obtain ⟨x30,f1,H⟩:=bsc H;obtain ⟨x34,f2,H⟩:=bil (g:=cI) (fun _=>rfl) H;refine go2 ?_;refine bp H (CG x34) fun x36 h H=>cl h ?_;obtain ⟨x37,f1,H⟩:=bsc H;refine go1 ?_;refine go ?_;exact IH  x37 (i64.wrap (Yx+1)) _ H _ rfl Q tt b1 hE hR _ _  S hF
 ·refine go ?_;exact wq (hE _ (pur H).symm _ _  S hF)
theorem Mo:∀(a0:Fm) r,G8 a0=some r->Vb K0 45 [.agg (KZ a0)] (.str r):=by
 refine G8.partial_correctness _ (motive_2:=fun a0 Bt Dj out=>∀c,Yh Tryz.f45 1=some c->∀(Q:QT) (tt:Sto) (b1:Nat),(∀(Qjd:ByteArray),out=Qjd->∀(T:TT) (ss:Sto),T 6=.str Qjd->Fx tt ss [(b1,⟨34,5,[i6 a0.kind,.str a0.name,i6 a0.num,sf cI a0.sc,sf KZ a0.kids]⟩)] []->Q (.ex 2) ⟨T,ss⟩)->True->∀(T:TT) (ss:Sto),T 1=.ptr b1 0/\T 6=.str Bt/\T 7=i6 Dj->Fx tt ss [(b1,⟨34,5,[i6 a0.kind,.str a0.name,i6 a0.num,sf cI a0.sc,sf KZ a0.kids]⟩)] []->aLp K0 c Q ⟨T,ss⟩) ?_ ?_
 ·intro Jf L0 a0 r H;intro ss;refine hdh mixed Tryz.func45 (rs:=[.tmp 2]) fun q tT hF hX=>?_;refine go ?_;refine X9 hF rfl fun b1 ss2 hF=>?_;refine go ?_;refine cdp H (fun h H=>?_) (fun h H=>?_)
  ·refine go ?_;refine bp H (CG a0.num) fun x13 h H=>cl h ?_;refine go ?_;have e:=pur H;subst e;exact rt _
  ·refine go ?_;refine cdp H (fun h H=>?_) (fun h H=>?_)
   ·refine go ?_;obtain ⟨o8,ho8,H⟩:=bnd H;refine El a0 a0.name 0 _ ho8 _ rfl _ _ b1 ?_ ?_ _ _  S hF
    ·intro Qcv he T10 s11 tT hF;have he:=he.symm;subst he;refine go ?_;refine cdp H (fun h H=>?_) (fun h H=>?_)
     ·obtain ⟨x43,f1,H⟩:=bsc H;refine go1 ?_;refine go ?_;have e:=pur H;subst e;exact rt _
     ·refine go ?_;have e:=pur H;subst e;exact rt _
    ·trivial
   ·refine go ?_;obtain ⟨o18,ho18,H⟩:=bnd H;refine L0 a0 (Ql #[40]) 0 _ ho18 _ rfl _ _ b1 ?_ ?_ _ _  S hF
    ·intro Qe7 he T20 s21 tT hF;have he:=he.symm;subst he;obtain ⟨x65,f1,H⟩:=bsc H;refine go1 ?_;refine go ?_;have e:=pur H;subst e;exact rt _
    ·trivial
 ·intro G8 Jf C0 L0 a0 Bt Dj out H c hc Q tt b1 hE hR T ss tT hF;refine lpx tt hc rfl fun q hX=>go ?_;refine cdp H (fun h H=>?_) (fun h H=>?_)
  ·refine go ?_;obtain ⟨Pg,j14,H⟩:=bnd H;refine Vy (fun s'=>∃(T:TT) (ss1:Sto),s'=⟨T,ss1⟩/\(T 1=.ptr b1 0/\T 6=.str Pg/\T 7=i6 Dj)/\Fx tt ss1 [(b1,⟨34,5,[i6 a0.kind,.str a0.name,i6 a0.num,sf cI a0.sc,sf KZ a0.kids]⟩)] []) (cdp j14 (fun h j14=>?_) (fun h j14=>?_)) ?_
   ·obtain ⟨x55,f1,j14⟩:=bsc j14;refine go1 ?_;refine go ?_;have e:=pur j14;subst e;exact ⟨_,_,rfl,S,hF⟩
   ·refine go ?_;have e:=pur j14;subst e;exact ⟨_,_,rfl,S,hF⟩
   ·rintro s' ⟨T15,s16,rfl,tT,hF⟩;obtain ⟨x60,f1,H⟩:=bil (g:=KZ) Fm.X6 H;refine go1 ?_;refine bp H (C0 x60) fun x62 h H=>cl h ?_;obtain ⟨x63,f1,H⟩:=bsc H;refine go1 ?_;refine go ?_;exact L0 a0 x63 (i64.wrap (Dj+1)) _ H _ rfl Q tt b1 hE hR _ _  S hF
  ·refine go ?_;exact wq (hE _ (pur H).symm _ _  S hF)
theorem AA:∀(a0:Fm) r,WE a0=some r->Vb K0 19 [.agg (KZ a0)] (.str r):=by
 intro a0 r H;intro ss;unfold WE at H;refine hdh mixed Tryz.func19 (rs:=[.tmp 2]) fun q tT hF hX=>?_;refine go ?_;refine X9 hF rfl fun b1 ss2 hF=>?_;refine go ?_;refine bp H (Yv a0) fun x4 h H=>cl h ?_;refine go ?_;refine cdb H (fun h H=>?_) (fun h H=>?_)
 ·refine go ?_;have e:=pur H;subst e;exact rt _
 ·refine go ?_;refine bp H (Mo a0) fun x7 h H=>cl h ?_;refine go ?_;have e:=pur H;subst e;exact rt _
theorem Cy:∀(a0:List Stp) (Yo:ByteArray) (Yx:Int) out,Vm a0 Yo Yx=some out->∀c,Yh Tryz.f8 0=some c->∀(Q:QT) (tt:Sto),(∀(A6:ByteArray),out=A6->∀(T:TT) (ss:Sto),T 3=.str A6->Fx tt ss [] []->Q (.ex 0) ⟨T,ss⟩)->True->∀(T:TT) (ss:Sto),T 0=sf ZF a0/\T 3=.str Yo/\T 4=i6 Yx->Fx tt ss [] []->aLp K0 c Q ⟨T,ss⟩:=by
 intro a0 Yo Yx;revert Yo Yx;refine Vm.partial_correctness a0 _ ?_;intro Vm IH Yo Yx out H c hc Q tt  hE hR T ss tT hF;refine lpx tt hc rfl fun q hX=>go ?_;refine cdp H (fun h H=>?_) (fun h H=>?_)
 ·refine go ?_;refine Yg E0 [.v,.v,.v,.v,.v,.v,.v,.v,.v,.v,.v,.v,.v,.v,.v,.v,.v,.v,.v,.v] (by kernel_rfl) ?_;obtain ⟨x14,f1,H⟩:=bil (g:=ZF) Stp.X6 H;refine go1 ?_;refine bp H (Hl x14.use) fun x17 h H=>cv h ?_;refine go ?_;refine bp H (AA x17) fun x18 h H=>cv h ?_;obtain ⟨x19,f1,H⟩:=bsc H;obtain ⟨x20,f2,H⟩:=bsc H;obtain ⟨x23,f3,H⟩:=bil (g:=ZF) Stp.X6 H;refine go3 ?_;refine bp H (Hl x23.res) fun x26 h H=>cv h ?_;refine go ?_;refine bp H (AA x26) fun x27 h H=>cv h ?_;obtain ⟨x28,f1,H⟩:=bsc H;obtain ⟨x29,f2,H⟩:=bsc H;refine go2 ?_;refine go ?_;exact IH  x29 (i64.wrap (Yx+1)) _ H _ rfl Q tt  hE hR _ _  S hF
 ·refine go ?_;exact wq (hE _ (pur H).symm _ _  S hF)
theorem Eb:∀(a0:List Stp) r,GM a0=some r->Vb K0 8 [sf ZF a0] (.str r):=by
 intro a0 r H;intro ss;unfold GM at H;refine hdh mixed Tryz.func8 (rs:=[.tmp 2]) fun q tT hF hX=>?_;refine go ?_;obtain ⟨o1,ho1,H⟩:=bnd H;refine Cy a0 zB 0 _ ho1 _ rfl _ _  ?_ ?_ _ _  S hF
 ·intro SU he T3 ss4 tT hF;have he:=he.symm;subst he;refine go ?_;have e:=pur H;subst e;exact rt _
 ·trivial
theorem BE:∀(x11:List Stp) (x13 Yi:ByteArray) (Yy:Int) out,Vd x11 x13 Yi Yy=some out->∀c,Yh Tryz.f4 0=some c->∀(Q:QT) (tt:Sto),(∀(Oo:ByteArray),out=Oo->∀(T:TT) (ss:Sto),T 4=.str x13/\T 5=.str Oo->Fx tt ss [] []->Q (.ex 0) ⟨T,ss⟩)->True->∀(T:TT) (ss:Sto),T 3=sf ZF x11/\T 4=.str x13/\T 5=.str Yi/\T 6=i6 Yy->Fx tt ss [] []->aLp K0 c Q ⟨T,ss⟩:=by
 intro x11 x13 Yi Yy;revert Yi Yy;refine Vd.partial_correctness x11 x13 _ ?_;intro Vd IH Yi Yy out H c hc Q tt  hE hR T ss tT hF;refine lpx tt hc rfl fun q hX=>go ?_;refine cdp H (fun h H=>?_) (fun h H=>?_)
 ·obtain ⟨x29,f1,H⟩:=bls (g:=ZF) Stp.X6 (lo:=some (i6 Yy)) (hi:=some (i6 (i64.wrap (Yy+1)))) rfl rfl H;refine go1 ?_;refine bp H (A7 x29) fun x30 h H=>cl h ?_;obtain ⟨x31,f1,H⟩:=bsc H;refine go1 ?_;refine go ?_;exact IH  x31 (i64.wrap (Yy+1)) _ H _ rfl Q tt  hE hR _ _  S hF
 ·refine go ?_;exact wq (hE _ (pur H).symm _ _  S hF)
theorem CX:∀(a0:List Int) r,HG a0=some r->Vb K0 4 [sf cU a0] (.bool r):=by
 intro a0 r H;intro ss;unfold HG at H;refine hdh mixed Tryz.func4 (rs:=[.tmp 2]) fun q tT hF hX=>?_;refine go ?_;refine cdp H (fun h H=>?_) (fun h H=>?_)
 ·refine go ?_;have e:=pur H;subst e;exact rt _
 ·refine go ?_;refine bp H (B1 a0) fun x11 h H=>cl h ?_;refine go ?_;refine bp H (A7 x11) fun x13 h H=>cl h ?_;refine go ?_;refine bp H (Eb x11) fun x16 h H=>cl h ?_;refine go ?_;refine cdn H (fun h H=>?_) (fun h H=>?_)
  ·refine go ?_;have e:=pur H;subst e;exact rt _
  ·refine go ?_;obtain ⟨o1,ho1,H⟩:=bnd H;refine BE x11 x13 zB 0 _ ho1 _ rfl _ _  ?_ ?_ _ _  S hF
   ·intro U8 he T3 ss4 tT hF;have he:=he.symm;subst he;refine go ?_;have e:=pur H;subst e;exact rt _
   ·trivial
end Go.Proofs.SA
