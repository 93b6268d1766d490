/- Printed by a program of mine: the plain functions that the code computes (D), and the walks that show it (W). -/
import Derived.Test.YtiiamkelehfnoaaGreatGx
import Derived.Test.YtiiamkelehfnoaaGreatSaTy
import Derived.Test.YtiiamkelehfnoaaGreatChecked
import Derived.Lib.Strings
import Derived.Lib.Slices
import Derived.Lib.Walk
import Derived.Lib.Bytealg
import Derived.Test.YtiiamkelehfnoaaGreatinD
import Derived.Test.YtiiamkelehfnoaaGreatinW0
set_option maxRecDepth 100000
set_option maxHeartbeats 2000000
set_option linter.unusedSimpArgs false
set_option linter.unusedVariables false
open Go Go.Proofs Go.Proofs.Shadow
open Fm renaming cells → KW
open _root_.And renaming intro → K0
open Tryz renaming prog → KX
open Stp renaming cells → ZC, mk → KU
open Xpn renaming cells → K5, mk → KS
open Hit renaming cells → KZ
open Cor renaming cells → ZD
open EE renaming not → K3, of → Zc, new → Zp
open Bnd renaming cells → KY
open Mac renaming cells → Zb
open _root_.List renaming not_mem_nil → KD, mem_cons → Kj, mem_cons_self → Kx
open Rul renaming cells → K2
open Fx renaming self → K1, kept → K8
open _root_.Int renaming toNat_natCast → Kl, reduceEq → Zg
open _root_.Nat renaming reduceEqDiff → K6, reduceLeDiff → K7, reduceAdd → Zd, reduceMul → Ze, reduceLT → Zf
open Go.IntKind (i64)
namespace Go.Proofs.SA
theorem F0 (fx0:List Bnd) (fx1:List Fm):(∀(a1 a3:Fm) r,V8 fx0 a1 fx1 a3=some r->Vm KX 203 [sf KY fx0,.agg (KW a1),sf KW fx1,.agg (KW a3)] (.tup [sf KZ r.1,.bool r.2]))/\(∀(a1 a3:List Fm) r,Cg fx0 a1 fx1 a3=some r->Vm KX 213 [sf KY fx0,sf KW a1,sf KW fx1,sf KW a3] (.tup [sf KZ r.1,.bool r.2])):=by
 have h:=V8.mutual_partial_correctness fx0 fx1 (motive_1:=fun a1 a3 r=>Vm KX 203 [sf KY fx0,.agg (KW a1),sf KW fx1,.agg (KW a3)] (.tup [sf KZ r.1,.bool r.2])) (motive_2:=fun a1 a3 r=>Vm KX 213 [sf KY fx0,sf KW a1,sf KW fx1,sf KW a3] (.tup [sf KZ r.1,.bool r.2])) (motive_3:=fun a1 a3 WG W8 Hs Jm out=>∀c,Yh Tryz.f213 1=some c->∀(Q:QT) (tt:Sto),(∀(Pf:List Hit),out=Sum.inr Pf->∀(T:TT) (ss:Sto) (e1v0:AV),T 10=e1v0->Fx tt ss [] [⟨e1v0,195,12,rws KZ Pf⟩]->Q (.ex 2) ⟨T,ss⟩)->(∀r,out=Sum.inl r->∀s',IE KX [.tmp 8,.tmp 9] (fun r' ss'=>r'=.tup [sf KZ r.1,.bool r.2]/\ss'=tt) s'->Q .ret s')->∀(T:TT) (ss:Sto) (z1v0:AV),T 0=sf KY fx0/\T 1=sf KW a1/\T 2=sf KW fx1/\T 3=sf KW a3/\T 10=z1v0/\T 11=i6 WG/\T 13=i6 Hs/\T 14=i6 Jm->Fx tt ss [] [⟨z1v0,195,12,rws KZ W8⟩]->aLp KX c Q ⟨T,ss⟩) (motive_4:=fun a1 a3 WG W8 Jm Qcd ML NM out=>∀c,Yh Tryz.f213 2=some c->∀(Q:QT) (tt:Sto) (z1v0:AV),(∀(Qjs:List (List Hit)) (Qfn:Int),out=Sum.inr (Qjs,Qfn)->∀(T:TT) (ss:Sto) (e2v1:AV),T 0=sf KY fx0/\T 1=sf KW a1/\T 2=sf KW fx1/\T 3=sf KW a3/\T 10=z1v0/\T 11=i6 WG/\T 13=i6 Qfn/\T 14=i6 Jm/\T 17=e2v1->Fx tt ss [] [⟨e2v1,169,1,rws (cL KZ) Qjs⟩,⟨z1v0,195,12,rws KZ W8⟩]->Q (.ex 4) ⟨T,ss⟩)->(∀r,out=Sum.inl r->∀s',IE KX [.tmp 8,.tmp 9] (fun r' ss'=>r'=.tup [sf KZ r.1,.bool r.2]/\ss'=tt) s'->Q .ret s')->∀(T:TT) (ss:Sto) (z2v1:AV),T 0=sf KY fx0/\T 1=sf KW a1/\T 2=sf KW fx1/\T 3=sf KW a3/\T 10=z1v0/\T 11=i6 WG/\T 13=i6 ML/\T 14=i6 Jm/\T 17=z2v1/\T 18=i6 NM->Fx tt ss [] [⟨z2v1,169,1,rws (cL KZ) Qcd⟩,⟨z1v0,195,12,rws KZ W8⟩]->aLp KX c Q ⟨T,ss⟩) ?s0 ?s1 ?s2 ?s3
 ·exact ⟨h.1,h.2.1⟩
 ·intro Cg C1 a1 a3 r H;intro ss;refine hdh mixed Tryz.func203 (rs:=[.tmp 8,.tmp 9]) fun q tT hF hX=>?_;refine go ?_;refine X8 hF rfl fun b1 ss2 hF=>?_;refine go ?_;refine X8 hF rfl fun b3 ss4 hF=>?_;refine go ?_;refine cdp H (fun h H=>?_) (fun h H=>?_)
  ·refine go ?_;refine cdp H (fun h H=>?_) (fun h H=>?_)
   ·refine go ?_;have e:=pur H;subst e;exact rt _
   ·refine go ?_;refine bp H (Iz fx1 a1) fun x21 h H=>cl h ?_;refine go ?_;refine cdb H (fun h H=>?_) (fun h H=>?_)
    ·refine go ?_;obtain ⟨x31,g5,H⟩:=bnd H;refine Ya 4 27 31 (.bool x31) (gi q (fun q=>?_) (fun q=>?_)) (fun J=>?_)
     ·rw [if_pos (dt q)] at g5;refine go ?_;obtain ⟨x30,hx30,g5⟩:=bnd g5;refine cl (M9 fx0 a1 a3 _ hx30) ?_;refine go ?_;exact Yt 27 g5
     ·rw [if_neg (df q)] at g5;refine go ?_;exact Yt 27 g5
     refine go ?_;have e:=pur H;subst e;exact rt _
    ·refine go ?_;have hF:=hF.lit 195 12 (rws KZ []) rfl;refine apw (g:=KZ) (rows:=[[i6 a1.kind,.str a1.name,i6 a1.num,sf cI a1.sc,sf KW a1.kids,i6 0,i6 a3.kind,.str a3.name,i6 a3.num,sf cI a3.sc,sf KW a3.kids,.Yb]]) hF 0 H Hit.X5 true rfl (by simp only [sf,i6,zB,Y8,Vu,cI,cU,cS,cL,Hit.X9,Fm.X9,Fm.kind,Fm.name,Fm.num,Fm.sc,Fm.kids,Hit.name,Hit.depth,Hit.one,Hit.many,Cor.kind,Cor.id,Cor.name,Cor.num,Cor.ids,Cor.data,Cor.kids,Val.kind,Val.num,Val.name,Val.items,Val.fn,Val.env,Slt.id,Slt.val,List.flatten_cons,List.flatten_nil,List.append_nil,List.cons_append,List.nil_append];exact (.cons (.refl _) id (.cons (.refl _) id (.cons (.refl _) id (.cons (.refl _) id (.cons (.refl _) id (.cons (.refl _) id (.cons (.refl _) id (.cons (.refl _) id (.cons (.refl _) id (.cons (.refl _) id (.cons (.refl _) id (.cons .Yb (fun _=>rfl) .nil))))))))))))) fun x37 H v7 s8 hF=>?_;refine go ?_;have e:=pur H;subst e;exact rt _
  ·refine go ?_;refine cdp H (fun h H=>?_) (fun h H=>?_)
   ·refine go ?_;refine bp H (J2 a1 a3) fun x44 h H=>cl h ?_;refine go ?_;have e:=pur H;subst e;exact rt _
   ·refine go ?_;refine cdn H (fun h H=>?_) (fun h H=>?_)
    ·refine go ?_;have e:=pur H;subst e;exact rt _
    ·refine go ?_;refine bp H (C1 a1.kids a3.kids) fun x55 h H=>cl h ?_;refine go ?_;have e:=pur H;subst e;exact rt _
 ·intro VT L1 a1 a3 r H;intro ss;refine hdh mixed Tryz.func213 (rs:=[.tmp 8,.tmp 9]) fun q tT hF hX=>?_;refine go ?_;obtain ⟨o1,ho1,H⟩:=bnd H;refine E6 fx0 a1 fx1 a3 (-1) 0 _ ho1 _ rfl _ _  ?_ ?_ _ _  S hF
  ·intro WG he T3 ss4 tT hF;have he:=he.symm;subst he;refine go ?_;obtain ⟨x44,g6,H⟩:=bnd H;refine Ya 5 39 44 (.bool x44) (gi q (fun q=>?_) (fun q=>?_)) (fun J=>?_)
   ·refine go ?_;exact Yt 39 g6
   ·refine go ?_;exact Yt 39 g6
   refine go ?_;obtain ⟨x56,g8,H⟩:=bnd H;refine Ya 10 46 56 (.bool x56) (giN q (fun q=>?_) (fun q=>?_)) (fun J=>?_)
   ·rw [if_neg (dbf q)] at g8;refine go ?_;obtain ⟨x55,g10,g8⟩:=bnd g8;refine Ya 6 49 55 (.bool x55) (gi q (fun q=>?_) (fun q=>?_)) (fun J=>?_)
    ·refine go ?_;exact Yt 49 g10
    ·refine go ?_;exact Yt 49 g10
    refine go ?_;exact Yt 46 g8
   ·rw [if_pos (dbt q)] at g8;refine go ?_;exact Yt 46 g8
   refine go ?_;refine cdb H (fun h H=>?_) (fun h H=>?_)
   ·refine go ?_;have e:=pur H;subst e;exact rt _
   ·have hF:=hF.lit 195 12 (rws KZ []) rfl;refine go ?_;obtain ⟨o27,ho27,H⟩:=bnd H;refine L1 a1 a3 WG [] 0 0 _ ho27 _ rfl _ _  ?_ ?_ _ _ (.sl true (rws KZ [])) S hF
    ·intro Sk he T29 s30 e28v0 tT hF;have he:=he.symm;subst he
     try dsimp only at H
     refine go ?_;have e:=pur H;subst e;exact rt _
    ·intro r hr s' hs;subst hr;have e:=pur H;subst e;exact hsq hs
  ·trivial
 ·intro V8 VT JC C0 L1 L0 a1 a3 WG W8 Hs Jm out H c hc Q tt  hE hR T ss z1v0 tT hF;refine lpx tt hc rfl fun q hX=>go ?_;refine cdp H (fun h H=>?_) (fun h H=>?_)
  ·obtain ⟨x66,f1,H⟩:=bil (g:=KW) Fm.X5 H;refine go1 ?_;refine bp H (Vr x66) fun x68 h H=>cl h ?_;refine go ?_;refine cdb H (fun h H=>?_) (fun h H=>?_)
   ·refine go ?_;exact L1 a1 a3 WG W8 Hs (i64.wrap (Jm+1)) _ H _ rfl Q tt  hE hR _ _ z1v0 S hF
   ·refine go ?_;refine cdn H (fun h H=>?_) (fun h H=>?_)
    ·refine go ?_;refine Yf E0 [.v,.v,.v,.v,.v,.v,.v,.v,.v,.v,.v,.v,.v,.v,.v,.v] (by kernel_rfl) ?_;obtain ⟨x76,f1,H⟩:=bil (g:=KW) Fm.X5 H;obtain ⟨x81,f2,H⟩:=bil (g:=KW) Fm.X5 H;refine go2 ?_;refine bp H (C0 x76 x81) fun x83 h H=>cv h ?_;refine go ?_;refine cdb H (fun h H=>?_) (fun h H=>?_)
     ·refine go ?_;exact wq (hR _ (pur H).symm _ (rt _))
     ·refine go ?_;refine apd (g:=KZ) hF 0 H (rdo (c:=false) (g:=KZ) Hit.X5) fun x91 H v12 s13 hF=>?_;refine go ?_;exact L1 a1 a3 WG x91 (i64.wrap (Hs+1)) (i64.wrap (Jm+1)) _ H _ rfl Q tt  hE hR _ _ v12 S hF
    ·have hF:=hF.lit 169 1 (rws (cL KZ) []) rfl;refine go ?_;obtain ⟨o16,ho16,H⟩:=bnd H;refine L0 a1 a3 WG W8 Jm [] Hs (i64.wrap ((a3.length:Int) - (i64.wrap ((a1.length:Int) - 2)))) _ ho16 _ rfl _ _ z1v0 ?_ ?_ _ _ (.sl true (rws (cL KZ) [])) S hF
     ·intro O7 LI he T18 s19 e17v1 tT hF;have he:=he.symm;subst he
      try dsimp only at H
      obtain ⟨x131,f1,H⟩:=bil (g:=KW) Fm.X5 H;refine go1 ?_;obtain ⟨x135,hx135,H⟩:=bnd H;obtain ⟨s21,hF,hw22,hb23,hz24⟩:=frz hF 0;refine Qcj (Ox x131 fx1 O7 _ hx135 _) (by (try simp only [sf,i6,zB,Fm.X9]);exact (.cons (Wk.sub hb23 _) id (.cons (Wk.sub hb23 _) id (.cons hw22 (fun _=>rfl) .nil)))) hb23 ?_;rintro _ _ ⟨rfl,rfl⟩;refine go ?_;refine apd (g:=KZ) hF 0 H (rdo (c:=false) (g:=KZ) Hit.X5) fun x136 H v25 s26 hF=>?_;refine go ?_;exact L1 a1 a3 WG x136 LI (i64.wrap (Jm+1)) _ H _ rfl Q tt  hE hR _ _ v25 S hF
     ·intro r hr s' hs;subst hr;exact wq (hR _ (pur H).symm _ hs)
  ·refine go ?_;exact wq (hE _ (pur H).symm _ _ z1v0 S hF)
 ·intro V8 JC C0 L0 a1 a3 WG W8 Jm Qcd ML NM out H c hc Q tt z1v0 hE hR T ss z2v1 tT hF;refine lpx tt hc rfl fun q hX=>go ?_;refine cdp H (fun h H=>?_) (fun h H=>?_)
  ·refine go ?_;refine Yf E0 [.v,.v,.v,.v,.v,.v,.v,.v,.v,.v,.v,.v,.v,.v,.v,.v] (by kernel_rfl) ?_;obtain ⟨x109,f1,H⟩:=bil (g:=KW) Fm.X5 H;obtain ⟨x114,f2,H⟩:=bil (g:=KW) Fm.X5 H;refine go2 ?_;refine bp H (C0 x109 x114) fun x116 h H=>cv h ?_;refine go ?_;refine cdb H (fun h H=>?_) (fun h H=>?_)
   ·refine go ?_;exact wq (hR _ (pur H).symm _ (rt _))
   ·refine go ?_;refine apd (g:=(cL KZ)) hF 0 H (rdo (c:=true) (g:=(cL KZ)) (fun _=>rfl)) fun x125 H v14 s15 hF=>?_;refine go ?_;exact L0 a1 a3 WG W8 Jm x125 (i64.wrap (ML+1)) (i64.wrap (NM - 1)) _ H _ rfl Q tt z1v0 hE hR _ _ v14 S hF
  ·refine go ?_;exact wq (hE _ _ (pur H).symm _ _ z2v1 S hF)
theorem CR:∀(a0:List Bnd) (a1:Fm) (a2:List Fm) (a3:Fm) r,V8 a0 a1 a2 a3=some r->Vm KX 203 [sf KY a0,.agg (KW a1),sf KW a2,.agg (KW a3)] (.tup [sf KZ r.1,.bool r.2]):=fun a0 a1 a2 a3=>(F0 a0 a2).1 a1 a3
theorem Di:∀(a0:List Bnd) (a1:List Rul) (a2:List Fm) (a3:Fm) (YU:Int) out,VC a0 a1 a2 a3 YU=some out->∀c,Yh Tryz.f185 0=some c->∀(Q:QT) (tt:Sto) (b1:Nat),(∀(_u:Unit),out=Sum.inr ()->∀(T:TT) (ss:Sto),0+0=0->Fx tt ss [(b1,⟨26,5,[i6 a3.kind,.str a3.name,i6 a3.num,sf cI a3.sc,sf KW a3.kids]⟩)] []->Q (.ex 0) ⟨T,ss⟩)->(∀r,out=Sum.inl r->∀s',IE KX [.tmp 8,.tmp 9] (fun r' ss'=>r'=.tup [i6 r.1,.bool r.2]/\ss'=tt) s'->Q .ret s')->∀(T:TT) (ss:Sto),T 0=sf KY a0/\T 1=sf K2 a1/\T 2=sf KW a2/\T 7=.ptr b1 0/\T 10=i6 YU->Fx tt ss [(b1,⟨26,5,[i6 a3.kind,.str a3.name,i6 a3.num,sf cI a3.sc,sf KW a3.kids]⟩)] []->aLp KX c Q ⟨T,ss⟩:=by
 intro a0 a1 a2 a3 YU;revert YU;refine VC.partial_correctness a0 a1 a2 a3 _ ?_;intro VC IH YU out H c hc Q tt b1 hE hR T ss tT hF;refine lpx tt hc rfl fun q hX=>go ?_;refine cdp H (fun h H=>?_) (fun h H=>?_)
 ·refine go ?_;refine Yf E0 [.v,.v,.v,.v,.v,.v,.v,.v,.v,.v,.v,.v,.v,.v] (by kernel_rfl) ?_;obtain ⟨x37,f1,H⟩:=bil (g:=K2) Rul.X5 H;refine go1 ?_;refine bp H (CR a0 x37.pat a2 a3) fun x42 h H=>cv h ?_;refine go ?_;refine cdb H (fun h H=>?_) (fun h H=>?_)
  ·refine go ?_;exact wq (hR _ (pur H).symm _ (rt _))
  ·refine go ?_;exact IH  (i64.wrap (YU+1)) _ H _ rfl Q tt b1 hE hR _ _  S hF
 ·refine go ?_;exact wq (hE () (pur H).symm _ _  S hF)
theorem HW:∀(a0:List Bnd) (a1:List Rul) (a2:List Fm) (a3:Fm) r,Ju a0 a1 a2 a3=some r->Vm KX 185 [sf KY a0,sf K2 a1,sf KW a2,.agg (KW a3)] (.tup [i6 r.1,.bool r.2]):=by
 intro a0 a1 a2 a3 r H;intro ss;unfold Ju at H;refine hdh mixed Tryz.func185 (rs:=[.tmp 8,.tmp 9]) fun q tT hF hX=>?_;refine go ?_;refine X8 hF rfl fun b1 ss2 hF=>?_;refine go ?_;refine bp H (IT a0) fun x14 h H=>cl h ?_;refine go ?_;obtain ⟨x21,g3,H⟩:=bnd H;refine Ya 4 17 21 (.bool x21) (giN q (fun q=>?_) (fun q=>?_)) (fun J=>?_)
 ·rw [if_neg (dbf q)] at g3;refine go ?_;obtain ⟨x19,hx19,g3⟩:=bnd g3;refine cl (CT a1 a2 _ hx19) ?_;refine go ?_;exact Yt 17 g3
 ·rw [if_pos (dbt q)] at g3;refine go ?_;exact Yt 17 g3
 refine go ?_;obtain ⟨x26,g5,H⟩:=bnd H;refine Ya 3 23 26 (.bool x26) (giN q (fun q=>?_) (fun q=>?_)) (fun J=>?_)
 ·rw [if_neg (dbf q)] at g5;refine go ?_;obtain ⟨x24,hx24,g5⟩:=bnd g5;refine cl (Yz a3 _ hx24) ?_;refine go ?_;exact Yt 23 g5
 ·rw [if_pos (dbt q)] at g5;refine go ?_;exact Yt 23 g5
 refine go ?_;refine cdb H (fun h H=>?_) (fun h H=>?_)
 ·refine go ?_;have e:=pur H;subst e;exact rt _
 ·refine go ?_;obtain ⟨o7,ho7,H⟩:=bnd H;refine Di a0 a1 a2 a3 0 _ ho7 _ rfl _ _ b1 ?_ ?_ _ _  S hF
  ·intro _ he T9 s10 tT hF;have he:=he.symm;subst he
   try dsimp only at H
   refine go ?_;have e:=pur H;subst e;exact rt _
  ·intro r hr s' hs;subst hr;have e:=pur H;subst e;exact hsq hs
theorem DP:(∀(a0:Fm) r,VP a0=some r->Vm KX 219 [.agg (KW a0)] (.agg (KW r)))/\(∀(a0:List Fm) r,G5 a0=some r->Vm KX 221 [sf KW a0] (sf KW r)):=by
 have h:=VP.mutual_partial_correctness  (motive_1:=fun a0 r=>Vm KX 219 [.agg (KW a0)] (.agg (KW r))) (motive_2:=fun a0 r=>Vm KX 221 [sf KW a0] (sf KW r)) (motive_3:=fun a0 X6 YM out=>∀c,Yh Tryz.f221 0=some c->∀(Q:QT) (tt:Sto),(∀(YS:List Fm),out=YS->∀(T:TT) (ss:Sto) (e0v0:AV),T 3=e0v0->Fx tt ss [] [⟨e0v0,26,5,rws KW YS⟩]->Q (.ex 0) ⟨T,ss⟩)->True->∀(T:TT) (ss:Sto) (z0v0:AV),T 3=z0v0/\T 7=sf KW a0/\T 8=i6 (a0.length:Int)/\T 9=i6 YM->Fx tt ss [] [⟨z0v0,26,5,rws KW X6⟩]->aLp KX c Q ⟨T,ss⟩) ?s0 ?s1 ?s2
 ·exact ⟨h.1,h.2.1⟩
 ·intro G5 C1 a0 r H;intro ss;refine hdh mixed Tryz.func219 (rs:=[.cell 2 26]) fun q tT hF hX=>?_;refine go ?_;refine X8 hF rfl fun b1 ss2 hF=>?_;refine go ?_;refine X8 hF rfl fun b3 ss4 hF=>?_;refine go ?_;refine apv (g:=cI) H (fun _=>rfl) (rdo (c:=false) (g:=cI) (fun _=>rfl)) fun x6 H=>?_;refine go ?_;refine st hF 1 rfl fun ss5 hF=>?_;refine go ?_;refine bp H (C1 a0.kids) fun x10 h H=>cl h ?_;refine go ?_;refine st hF 1 rfl fun ss6 hF=>?_;refine go ?_;refine st hF 0 rfl fun s7 hF=>?_;refine go ?_;have e:=pur H;subst e;exact rt _
 ·intro Vc L0 a0 r H;intro ss;refine hdh mixed Tryz.func221 (rs:=[.tmp 2]) fun q tT hF hX=>?_;have hF:=hF.lit 26 5 (rws KW []) rfl;refine go ?_;obtain ⟨o6,ho6,H⟩:=bnd H;refine L0 a0 [] 0 _ ho6 _ rfl _ _  ?_ ?_ _ _ (.sl true (rws KW [])) S hF
  ·intro Qa3 he T8 s9 e7v0 tT hF;have he:=he.symm;subst he;refine go ?_;have e:=pur H;subst e;exact rt _
  ·trivial
 ·intro VP Vc C0 L0 a0 X6 YM out H c hc Q tt  hE hR T ss z0v0 tT hF;refine lpx tt hc rfl fun q hX=>go ?_;refine cdp H (fun h H=>?_) (fun h H=>?_)
  ·obtain ⟨x11,f1,H⟩:=bil (g:=KW) Fm.X5 H;refine go1 ?_;refine X8 hF rfl fun b1 ss2 hF=>?_;refine go ?_;refine st hF 0 rfl fun ss3 hF=>?_;refine go ?_;refine bp H (C0 x11) fun x15 h H=>cl h ?_;refine go ?_;refine apd (g:=KW) hF 0 H (rdo (c:=true) (g:=KW) Fm.X5) fun x17 H v4 ss5 hF=>?_;refine go ?_;exact L0 a0 x17 (i64.wrap (YM+1)) _ H _ rfl Q tt  hE hR _ _ v4 S (hF.drop 1 0)
  ·refine go ?_;exact wq (hE _ (pur H).symm _ _ z0v0 S hF)
theorem Bo:∀(a0:Fm) r,VP a0=some r->Vm KX 219 [.agg (KW a0)] (.agg (KW r)):=DP.1
theorem Eh:∀(a0:Rul) r,HD a0=some r->Vm KX 215 [.agg (K2 a0)] (.agg (K2 r)):=by
 intro a0 r H;intro ss;unfold HD at H;refine hdh mixed Tryz.func215 (rs:=[.cell 2 116]) fun q tT hF hX=>?_;refine go ?_;refine X8 hF rfl fun b1 ss2 hF=>?_;refine go ?_;refine X8 hF rfl fun b3 ss4 hF=>?_;refine go ?_;refine bp H (Bo a0.pat) fun x5 h H=>cl h ?_;refine go ?_;refine st hF 1 rfl fun ss5 hF=>?_;refine go ?_;refine bp H (Bo a0.tpl) fun x9 h H=>cl h ?_;refine go ?_;refine st hF 1 rfl fun ss6 hF=>?_;refine go ?_;refine st hF 0 rfl fun s7 hF=>?_;refine go ?_;have e:=pur H;subst e;exact rt _
theorem BD:∀(a0 X6:List Rul) (YM:Int) out,Y2 a0 X6 YM=some out->∀c,Yh Tryz.f210 0=some c->∀(Q:QT) (tt:Sto),(∀(YS:List Rul),out=YS->∀(T:TT) (ss:Sto) (e0v0:AV),T 3=e0v0->Fx tt ss [] [⟨e0v0,116,10,rws K2 YS⟩]->Q (.ex 0) ⟨T,ss⟩)->True->∀(T:TT) (ss:Sto) (z0v0:AV),T 3=z0v0/\T 7=sf K2 a0/\T 8=i6 (a0.length:Int)/\T 9=i6 YM->Fx tt ss [] [⟨z0v0,116,10,rws K2 X6⟩]->aLp KX c Q ⟨T,ss⟩:=by
 intro a0 X6 YM;revert X6 YM;refine Y2.partial_correctness a0 _ ?_;intro Y2 IH X6 YM out H c hc Q tt  hE hR T ss z0v0 tT hF;refine lpx tt hc rfl fun q hX=>go ?_;refine cdp H (fun h H=>?_) (fun h H=>?_)
 ·obtain ⟨x11,f1,H⟩:=bil (g:=K2) Rul.X5 H;refine go1 ?_;refine X8 hF rfl fun b1 ss2 hF=>?_;refine go ?_;refine st hF 0 rfl fun ss3 hF=>?_;refine go ?_;refine bp H (Eh x11) fun x15 h H=>cl h ?_;refine go ?_;refine apd (g:=K2) hF 0 H (rdo (c:=true) (g:=K2) Rul.X5) fun x17 H v4 ss5 hF=>?_;refine go ?_;exact IH  x17 (i64.wrap (YM+1)) _ H _ rfl Q tt  hE hR _ _ v4 S (hF.drop 1 0)
 ·refine go ?_;exact wq (hE _ (pur H).symm _ _ z0v0 S hF)
theorem Cu:∀(a0:List Rul) r,JS a0=some r->Vm KX 210 [sf K2 a0] (sf K2 r):=by
 intro a0 r H;intro ss;unfold JS at H;refine hdh mixed Tryz.func210 (rs:=[.tmp 2]) fun q tT hF hX=>?_;have hF:=hF.lit 116 10 (rws K2 []) rfl;refine go ?_;obtain ⟨o6,ho6,H⟩:=bnd H;refine BD a0 [] 0 _ ho6 _ rfl _ _  ?_ ?_ _ _ (.sl true (rws K2 [])) S hF
 ·intro Qa3 he T8 s9 e7v0 tT hF;have he:=he.symm;subst he;refine go ?_;have e:=pur H;subst e;exact rt _
 ·trivial
theorem Dx:∀(a0 a1:Fm) r,JW a0 a1=some r->Vm KX 220 [.agg (KW a0),.agg (KW a1)] (.bool r):=by
 intro a0 a1;revert a0;refine JW.partial_correctness a1 (motive_1:=fun a0 r=>Vm KX 220 [.agg (KW a0),.agg (KW a1)] (.bool r)) (motive_2:=fun a0 Yd out=>∀c,Yh Tryz.f220 0=some c->∀(Q:QT) (tt:Sto) (b1 b3:Nat),(∀(_u:Unit),out=Sum.inr ()->∀(T:TT) (ss:Sto),0+0=0->Fx tt ss [(b3,⟨26,5,[i6 a1.kind,.str a1.name,i6 a1.num,sf cI a1.sc,sf KW a1.kids]⟩),(b1,⟨26,5,[i6 a0.kind,.str a0.name,i6 a0.num,sf cI a0.sc,sf KW a0.kids]⟩)] []->Q (.ex 0) ⟨T,ss⟩)->(∀r,out=Sum.inl r->∀s',IE KX [.tmp 4] (fun r' ss'=>r'=.bool r/\ss'=tt) s'->Q .ret s')->∀(T:TT) (ss:Sto),T 2=.ptr b1 0/\T 3=.ptr b3 0/\T 5=i6 Yd->Fx tt ss [(b3,⟨26,5,[i6 a1.kind,.str a1.name,i6 a1.num,sf cI a1.sc,sf KW a1.kids]⟩),(b1,⟨26,5,[i6 a0.kind,.str a0.name,i6 a0.num,sf cI a0.sc,sf KW a0.kids]⟩)] []->aLp KX c Q ⟨T,ss⟩) ?_ ?_
 ·intro WZ L0 a0 r H;intro ss;refine hdh mixed Tryz.func220 (rs:=[.tmp 4]) fun q tT hF hX=>?_;refine go ?_;refine X8 hF rfl fun b1 ss2 hF=>?_;refine go ?_;refine X8 hF rfl fun b3 ss4 hF=>?_;refine go ?_;obtain ⟨x13,g5,H⟩:=bnd H;refine Ya 3 10 13 (.bool x13) (gi q (fun q=>?_) (fun q=>?_)) (fun J=>?_)
  ·rw [if_pos (dt q)] at g5;refine go ?_;obtain ⟨x12,hx12,g5⟩:=bnd g5;refine cl (J2 a0 a1 _ hx12) ?_;refine go ?_;exact Yt 10 g5
  ·rw [if_neg (df q)] at g5;refine go ?_;exact Yt 10 g5
  refine go ?_;refine cdb H (fun h H=>?_) (fun h H=>?_)
  ·refine go ?_;have e:=pur H;subst e;exact rt _
  ·refine go ?_;obtain ⟨o7,ho7,H⟩:=bnd H;refine L0 a0 0 _ ho7 _ rfl _ _ b1 b3 ?_ ?_ _ _  S hF
   ·intro _ he T9 s10 tT hF;have he:=he.symm;subst he
    try dsimp only at H
    refine go ?_;have e:=pur H;subst e;exact rt _
   ·intro r hr s' hs;subst hr;have e:=pur H;subst e;exact hsq hs
 ·intro JW WZ C0 L0 a0 Yd out H c hc Q tt b1 b3 hE hR T ss tT hF;refine lpx tt hc rfl fun q hX=>go ?_;refine cdp H (fun h H=>?_) (fun h H=>?_)
  ·refine go ?_;refine Yf E0 [.v,.v,.v,.v,.v,.v,.v] (by kernel_rfl) ?_;obtain ⟨x24,f1,H⟩:=bil (g:=KW) Fm.X5 H;refine go1 ?_;refine bp H (C0 x24) fun x27 h H=>cv h ?_;refine go ?_;refine cdb H (fun h H=>?_) (fun h H=>?_)
   ·refine go ?_;exact wq (hR _ (pur H).symm _ (rt _))
   ·refine go ?_;exact L0 a0 (i64.wrap (Yd+1)) _ H _ rfl Q tt b1 b3 hE hR _ _  S hF
  ·refine go ?_;exact wq (hE () (pur H).symm _ _  S hF)
theorem Ej:∀(a0:Fm) (a1:List Hit) (Yd YE:Int) out,VU a0 a1 Yd YE=some out->∀c,Yh Tryz.f216 0=some c->∀(Q:QT) (tt:Sto) (b1:Nat),(∀(Qay:Int),out=Sum.inr Qay->∀(T:TT) (ss:Sto),T 5=i6 Qay->Fx tt ss [(b1,⟨26,5,[i6 a0.kind,.str a0.name,i6 a0.num,sf cI a0.sc,sf KW a0.kids]⟩)] []->Q (.ex 0) ⟨T,ss⟩)->(∀r,out=Sum.inl r->∀s',IE KX [.tmp 4] (fun r' ss'=>r'=i6 r/\ss'=tt) s'->Q .ret s')->∀(T:TT) (ss:Sto),T 1=sf KZ a1/\T 2=.ptr b1 0/\T 5=i6 Yd/\T 6=i6 YE->Fx tt ss [(b1,⟨26,5,[i6 a0.kind,.str a0.name,i6 a0.num,sf cI a0.sc,sf KW a0.kids]⟩)] []->aLp KX c Q ⟨T,ss⟩:=by
 intro a0 a1 Yd YE;revert Yd YE;refine VU.partial_correctness a0 a1 _ ?_;intro VU IH Yd YE out H c hc Q tt b1 hE hR T ss tT hF;refine lpx tt hc rfl fun q hX=>go ?_;refine cdp H (fun h H=>?_) (fun h H=>?_)
 ·refine go ?_;refine Yf E0 [.v,.v,.v,.v,.v,.v,.v,.v,.v,.v,.v,.v,.v,.v,.v,.v] (by kernel_rfl) ?_;obtain ⟨x15,f1,H⟩:=bil (g:=KZ) Hit.X5 H;refine go1 ?_;obtain ⟨x28,g3,H⟩:=bnd H;refine Jb 8 20 28 (.bool x28) (tiN q (fun q=>?_) (fun q=>?_)) (fun J=>?_)
  ·rw [if_neg (df q)] at g3;obtain ⟨x23,f1,g3⟩:=bil (g:=KZ) Hit.X5 g3;refine go1 ?_;obtain ⟨x26,hx26,g3⟩:=bnd g3;refine cv (Dx a0 x23.name _ hx26) ?_;refine go ?_;exact Yt 20 g3
  ·rw [if_pos (dt q)] at g3;refine go ?_;exact Yt 20 g3
  refine go ?_;refine cdb H (fun h H=>?_) (fun h H=>?_)
  ·refine go ?_;exact IH  Yd (i64.wrap (YE+1)) _ H _ rfl Q tt b1 hE hR _ _  S hF
  ·refine go ?_;obtain ⟨x40,g5,H⟩:=bnd H;refine Ya 8 32 40 (.bool x40) (gi q (fun q=>?_) (fun q=>?_)) (fun J=>?_)
   ·rw [if_pos (dt q)] at g5;obtain ⟨x35,f1,g5⟩:=bil (g:=KZ) Hit.X5 g5;refine go1 ?_;refine go ?_;exact Yt 32 g5
   ·rw [if_neg (df q)] at g5;refine go ?_;exact Yt 32 g5
   refine go ?_;refine cdb H (fun h H=>?_) (fun h H=>?_)
   ·refine go ?_;exact wq (hR _ (pur H).symm _ (rt _))
   ·obtain ⟨x43,f1,H⟩:=bil (g:=KZ) Hit.X5 H;refine go1 ?_;refine go ?_;exact IH  (x43.many.length:Int) (i64.wrap (YE+1)) _ H _ rfl Q tt b1 hE hR _ _  S hF
 ·refine go ?_;exact wq (hE _ (pur H).symm _ _  S hF)
theorem Mi:∀(a0:Fm) (a1:List Hit) r,IB a0 a1=some r->Vm KX 216 [.agg (KW a0),sf KZ a1] (i6 r):=by
 intro a0 a1 r H;intro ss;unfold IB at H;refine hdh mixed Tryz.func216 (rs:=[.tmp 4]) fun q tT hF hX=>?_;refine go ?_;refine X8 hF rfl fun b1 ss2 hF=>?_;refine go ?_;obtain ⟨o7,ho7,H⟩:=bnd H;refine Ej a0 a1 (-1) 0 _ ho7 _ rfl _ _ b1 ?_ ?_ _ _  S hF
 ·intro Qgy he T9 s10 tT hF;have he:=he.symm;subst he
  try dsimp only at H
  refine go ?_;have e:=pur H;subst e;exact rt _
 ·intro r hr s' hs;subst hr;have e:=pur H;subst e;exact hsq hs
theorem F5:∀(a0:Fm) (a1:List Hit) (a2:Int) (X6:List Hit) (YG:Int) out,Jr a0 a1 a2 X6 YG=some out->∀c,Yh Tryz.f217 0=some c->∀(Q:QT) (tt:Sto) (b1:Nat),(∀(YS:List Hit),out=YS->∀(T:TT) (ss:Sto) (e0v0:AV),T 7=e0v0->Fx tt ss [(b1,⟨26,5,[i6 a0.kind,.str a0.name,i6 a0.num,sf cI a0.sc,sf KW a0.kids]⟩)] [⟨e0v0,195,12,rws KZ YS⟩]->Q (.ex 0) ⟨T,ss⟩)->True->∀(T:TT) (ss:Sto) (z0v0:AV),T 1=sf KZ a1/\T 2=i6 a2/\T 3=.ptr b1 0/\T 7=z0v0/\T 8=i6 YG->Fx tt ss [(b1,⟨26,5,[i6 a0.kind,.str a0.name,i6 a0.num,sf cI a0.sc,sf KW a0.kids]⟩)] [⟨z0v0,195,12,rws KZ X6⟩]->aLp KX c Q ⟨T,ss⟩:=by
 intro a0 a1 a2 X6 YG;revert X6 YG;refine Jr.partial_correctness a0 a1 a2 _ ?_;intro Jr IH X6 YG out H c hc Q tt b1 hE hR T ss z0v0 tT hF;refine lpx tt hc rfl fun q hX=>go ?_;refine cdp H (fun h H=>?_) (fun h H=>?_)
 ·obtain ⟨x19,f1,H⟩:=bil (g:=KZ) Hit.X5 H;refine go1 ?_;refine X8 hF rfl fun b3 ss4 hF=>?_;refine go ?_;refine st hF 0 rfl fun ss5 hF=>?_;refine go ?_;obtain ⟨x29,g6,H⟩:=bnd H;refine Ya 4 25 29 (.bool x29) (gi q (fun q=>?_) (fun q=>?_)) (fun J=>?_)
  ·rw [if_pos (dt q)] at g6;refine go ?_;obtain ⟨x28,hx28,g6⟩:=bnd g6;refine cl (Dx a0 x19.name _ hx28) ?_;refine go ?_;exact Yt 25 g6
  ·rw [if_neg (df q)] at g6;refine go ?_;exact Yt 25 g6
  refine go ?_;obtain ⟨⟨Mz,MA,Ex,Ey,MB,MC,MD,ME,MF,MG,MH,MI⟩,j9,H⟩:=bnd H;refine VG (fun s'=>∃(T:TT) (ss1:Sto),s'=⟨T,ss1⟩/\(T 1=sf KZ a1/\T 2=i6 a2/\T 3=.ptr b1 0/\T 7=z0v0/\T 8=i6 YG/\T 9=.ptr b3 0)/\Fx tt ss1 [(b3,⟨195,12,[i6 Mz,.str MA,i6 MB,sf cI MC,sf KW MD,i6 ME,i6 MF,.str MG,i6 MH,sf cI MI,sf KW Ex,sf KZ Ey]⟩),(b1,⟨26,5,[i6 a0.kind,.str a0.name,i6 a0.num,sf cI a0.sc,sf KW a0.kids]⟩)] [⟨z0v0,195,12,rws KZ X6⟩]) (cdb j9 (fun h j9=>?_) (fun h j9=>?_)) ?_
  ·obtain ⟨x33,f1,j9⟩:=bil (g:=KZ) Hit.X5 j9;refine go1 ?_;refine st hF 0 rfl fun s10 hF=>?_;refine go ?_;have e:=pur j9
   injection e with e0 e
   injection e with e1 e
   injection e with e2 e
   injection e with e3 e
   injection e with e4 e
   injection e with e5 e
   injection e with e6 e
   injection e with e7 e
   injection e with e8 e
   injection e with e9 e
   injection e with e10 e
   subst e0;subst e1;subst e2;subst e3;subst e4;subst e5;subst e6;subst e7;subst e8;subst e9;subst e10;subst e;exact ⟨_,_,rfl,S,hF⟩
  ·refine go ?_;have e:=pur j9
   injection e with e0 e
   injection e with e1 e
   injection e with e2 e
   injection e with e3 e
   injection e with e4 e
   injection e with e5 e
   injection e with e6 e
   injection e with e7 e
   injection e with e8 e
   injection e with e9 e
   injection e with e10 e
   subst e0;subst e1;subst e2;subst e3;subst e4;subst e5;subst e6;subst e7;subst e8;subst e9;subst e10;subst e;exact ⟨_,_,rfl,S,hF⟩
  ·rintro s' ⟨T11,s12,rfl,tT,hF⟩;refine go ?_;refine apd (g:=KZ) hF 0 H (rdo (c:=true) (g:=KZ) Hit.X5) fun x38 H v14 s15 hF=>?_;refine go ?_;exact IH  x38 (i64.wrap (YG+1)) _ H _ rfl Q tt b1 hE hR _ _ v14 S (hF.drop 1 0)
 ·refine go ?_;exact wq (hE _ (pur H).symm _ _ z0v0 S hF)
theorem Oy:∀(a0:Fm) (a1:List Hit) (a2:Int) r,AF a0 a1 a2=some r->Vm KX 217 [.agg (KW a0),sf KZ a1,i6 a2] (sf KZ r):=by
 intro a0 a1 a2 r H;intro ss;unfold AF at H;refine hdh mixed Tryz.func217 (rs:=[.tmp 6]) fun q tT hF hX=>?_;refine go ?_;refine X8 hF rfl fun b1 ss2 hF=>?_;have hF:=hF.lit 195 12 (rws KZ []) rfl;refine go ?_;obtain ⟨o16,ho16,H⟩:=bnd H;refine F5 a0 a1 a2 [] 0 _ ho16 _ rfl _ _ b1 ?_ ?_ _ _ (.sl true (rws KZ [])) S hF
 ·intro Qfl he T18 s19 e17v0 tT hF;have he:=he.symm;subst he;refine go ?_;have e:=pur H;subst e;exact rt _
 ·trivial
theorem Nd:∀(a0:Fm) (a1:List Hit) r,Iu a0 a1=some r->Vm KX 211 [.agg (KW a0),sf KZ a1] (.tup [.agg (KW r.1),.bool r.2]):=by
 refine Iu.partial_correctness _ (motive_2:=fun a0 a1 x45 X6 YG YM out=>∀c,Yh Tryz.f211 0=some c->∀(Q:QT) (tt:Sto) (b1 b3 b12:Nat),(∀(YS:List Fm),out=Sum.inr YS->∀(T:TT) (ss:Sto) (e0v0:AV),T 4=.ptr b3 0/\T 7=.ptr b12 0->Fx tt ss [(b12,⟨26,5,[i6 a0.kind,.str a0.name,i6 a0.num,sf cI x45,e0v0]⟩),(b3,⟨26,5,[i6 0,.str zB,i6 0,.Yb,.Yb]⟩),(b1,⟨26,5,[i6 a0.kind,.str a0.name,i6 a0.num,sf cI a0.sc,sf KW a0.kids]⟩)] [⟨e0v0,26,5,rws KW YS⟩]->Q (.ex 0) ⟨T,ss⟩)->(∀r,out=Sum.inl r->∀s',IE KX [.cell 4 26,.tmp 5] (fun r' ss'=>r'=.tup [.agg (KW r.1),.bool r.2]/\ss'=tt) s'->Q .ret s')->∀(T:TT) (ss:Sto) (z0v0:AV),T 1=sf KZ a1/\T 2=.ptr b1 0/\T 4=.ptr b3 0/\T 7=.ptr b12 0/\T 8=i6 YG/\T 9=i6 YM->Fx tt ss [(b12,⟨26,5,[i6 a0.kind,.str a0.name,i6 a0.num,sf cI x45,z0v0]⟩),(b3,⟨26,5,[i6 0,.str zB,i6 0,.Yb,.Yb]⟩),(b1,⟨26,5,[i6 a0.kind,.str a0.name,i6 a0.num,sf cI a0.sc,sf KW a0.kids]⟩)] [⟨z0v0,26,5,rws KW X6⟩]->aLp KX c Q ⟨T,ss⟩) (motive_3:=fun a0 a1 x45 YM x74 H7 W8 Hj Ww out=>∀c,Yh Tryz.f211 1=some c->∀(Q:QT) (tt:Sto) (b1 b3 b12:Nat),(∀(Pf:List Fm) (Qa2:Int),out=Sum.inr (Pf,Qa2)->∀(T:TT) (ss:Sto) (e1v0:AV),T 1=sf KZ a1/\T 2=.ptr b1 0/\T 4=.ptr b3 0/\T 7=.ptr b12 0/\T 8=i6 Qa2/\T 9=i6 YM->Fx tt ss [(b12,⟨26,5,[i6 a0.kind,.str a0.name,i6 a0.num,sf cI x45,e1v0]⟩),(b3,⟨26,5,[i6 0,.str zB,i6 0,.Yb,.Yb]⟩),(b1,⟨26,5,[i6 a0.kind,.str a0.name,i6 a0.num,sf cI a0.sc,sf KW a0.kids]⟩)] [⟨e1v0,26,5,rws KW Pf⟩]->Q (.ex 2) ⟨T,ss⟩)->(∀r,out=Sum.inl r->∀s',IE KX [.cell 4 26,.tmp 5] (fun r' ss'=>r'=.tup [.agg (KW r.1),.bool r.2]/\ss'=tt) s'->Q .ret s')->∀(T:TT) (ss:Sto) (z1v0:AV),T 1=sf KZ a1/\T 2=.ptr b1 0/\T 4=.ptr b3 0/\T 7=.ptr b12 0/\T 8=i6 Ww/\T 9=i6 YM/\T 10=i6 H7/\T 11=.bool x74/\T 12=i6 Hj->Fx tt ss [(b12,⟨26,5,[i6 a0.kind,.str a0.name,i6 a0.num,sf cI x45,z1v0]⟩),(b3,⟨26,5,[i6 0,.str zB,i6 0,.Yb,.Yb]⟩),(b1,⟨26,5,[i6 a0.kind,.str a0.name,i6 a0.num,sf cI a0.sc,sf KW a0.kids]⟩)] [⟨z1v0,26,5,rws KW W8⟩]->aLp KX c Q ⟨T,ss⟩) ?_ ?_ ?_
 ·intro Wh L1 a0 a1 r H;intro ss;refine hdh mixed Tryz.func211 (rs:=[.cell 4 26,.tmp 5]) fun q tT hF hX=>?_;refine go ?_;refine X8 hF rfl fun b1 ss2 hF=>?_;refine go ?_;refine X8 hF rfl fun b3 ss4 hF=>?_;refine go ?_;obtain ⟨Qcc,j6,H⟩:=bnd H;refine VG (fun s'=>∃(T:TT) (ss1:Sto),s'=⟨T,ss1⟩/\(T 1=sf KZ a1/\T 2=.ptr b1 0/\T 4=.ptr b3 0/\T 6=i6 Qcc)/\Fx ss ss1 [(b3,⟨26,5,[i6 0,.str zB,i6 0,.Yb,.Yb]⟩),(b1,⟨26,5,[i6 a0.kind,.str a0.name,i6 a0.num,sf cI a0.sc,sf KW a0.kids]⟩)] []) (cdp j6 (fun h j6=>?_) (fun h j6=>?_)) ?_
  ·refine go ?_;obtain ⟨x21,hx21,j6⟩:=bnd j6;refine cl (Dw a1 a0 _ hx21) ?_;refine go ?_;have e:=pur j6;subst e;exact ⟨_,_,rfl,S,hF⟩
  ·refine go ?_;have e:=pur j6;subst e;exact ⟨_,_,rfl,S,hF⟩
  ·rintro s' ⟨T7,s8,rfl,tT,hF⟩;refine go ?_;refine cdp H (fun h H=>?_) (fun h H=>?_)
   ·refine go ?_;obtain ⟨E,hEq⟩:∃E,E=EE s8 [b3]:=⟨_,rfl⟩
    have n10:¬E b1:=by rw [hEq];exact K3 (hF.at 1 rfl) (nm1 (neL hF 1 0 rfl rfl (by decide)))
    refine Yf E [.v,.v,.v,.v,.v,.v,.v,.v,.v,.v,.v,.v,.x,.v] (by kernel_rfl) ?_;obtain ⟨x26,f1,H⟩:=bil (g:=KZ) Hit.X5 H;have z:=X4 (hF.at 1 rfl) n10;refine gh1 ?_;refine bp H (VQ x26.one) fun x29 h H=>cv h ?_;obtain ⟨x32,f1,H⟩:=bil (g:=KZ) Hit.X5 H;have z:=X4 (hF.at 1 rfl) n10;refine gh1 ?_;refine stK hF 0 (by rw [hEq];exact Zc (by simp)) rfl fun s11 hF=>?_;have z:=X4 (hF.at 1 rfl) n10;refine gh ?_;refine go ?_;have e:=pur H;subst e;exact rt [.agg [i6 x29.kind,.str x29.name,i6 x29.num,sf cI x29.sc,sf KW x29.kids],.bool (decide (x32.depth=0))]
   ·refine go ?_;refine Yf E0 [.v,.v,.v,.v,.v,.v,.v,.v,.v,.v,.v,.x,.z] (by kernel_rfl) ?_;refine go ?_;obtain ⟨x45,hx45,H⟩:=bnd H;refine Mu (g:=cI) (xs:=[]) (ys:=a0.sc) (fun _=>rfl) (by decide) (by decide) (.inr (by first | rfl | simp only [Y8,Vu,cI,cU,cS,cL])) (.inr ⟨_,by first | rfl | simp only [Y8,Vu,cI,cU,cS,cL]⟩) hx45 ?_;refine go ?_;refine WH hF rfl fun b12 s13 hF=>?_;refine go ?_;refine st hF 0 rfl fun s14 hF=>?_;have hF:=hF.nil 26 5;refine go ?_;obtain ⟨o42,ho42,H⟩:=bnd H;refine L1 a0 a1 x45 [] 0 0 _ ho42 _ rfl _ _ b1 b3 b12 ?_ ?_ _ _ .Yb S hF
    ·intro Sr he T44 s45 e43v0 tT hF;have he:=he.symm;subst he
     try dsimp only at H
     refine go ?_;refine st hF 1 rfl fun s47 hF=>?_;refine go ?_;have e:=pur H;subst e;exact rt _
    ·intro r hr s' hs;subst hr;have e:=pur H;subst e;exact hsq hs
 ·intro Wh Wi L1 L0 a0 a1 x45 X6 YG YM out H c hc Q tt b1 b3 b12 hE hR T ss z0v0 tT hF;refine lpx tt hc rfl fun q hX=>go ?_;refine cdp H (fun h H=>?_) (fun h H=>?_)
  ·obtain ⟨x57,f1,H⟩:=bil (g:=KW) Fm.X5 H;refine go1 ?_;refine bp H (Vr x57) fun x59 h H=>cl h ?_;refine go ?_;refine cdb H (fun h H=>?_) (fun h H=>?_)
   ·refine go ?_;exact L1 a0 a1 x45 X6 YG (i64.wrap (YM+1)) _ H _ rfl Q tt b1 b3 b12 hE hR _ _ z0v0 S hF
   ·refine go ?_;obtain ⟨x74,g15,H⟩:=bnd H;refine Ya 7 67 74 (.bool x74) (gi q (fun q=>?_) (fun q=>?_)) (fun J=>?_)
    ·rw [if_pos (dt q)] at g15;obtain ⟨x71,f1,g15⟩:=bil (g:=KW) Fm.X5 g15;refine go1 ?_;obtain ⟨x73,hx73,g15⟩:=bnd g15;refine cl (Vr x71 _ hx73) ?_;refine go ?_;exact Yt 67 g15
    ·rw [if_neg (df q)] at g15;refine go ?_;exact Yt 67 g15
    refine go ?_;obtain ⟨H7,j18,H⟩:=bnd H;refine VG (fun s'=>∃(T:TT) (ss1:Sto),s'=⟨T,ss1⟩/\(T 1=sf KZ a1/\T 2=.ptr b1 0/\T 4=.ptr b3 0/\T 7=.ptr b12 0/\T 8=i6 YG/\T 9=i6 YM/\T 10=i6 H7/\T 11=.bool x74)/\Fx tt ss1 [(b12,⟨26,5,[i6 a0.kind,.str a0.name,i6 a0.num,sf cI x45,z0v0]⟩),(b3,⟨26,5,[i6 0,.str zB,i6 0,.Yb,.Yb]⟩),(b1,⟨26,5,[i6 a0.kind,.str a0.name,i6 a0.num,sf cI a0.sc,sf KW a0.kids]⟩)] [⟨z0v0,26,5,rws KW X6⟩]) (cdb j18 (fun h j18=>?_) (fun h j18=>?_)) ?_
    ·obtain ⟨x79,f1,j18⟩:=bil (g:=KW) Fm.X5 j18;refine go1 ?_;obtain ⟨x82,hx82,j18⟩:=bnd j18;refine cl (Mi x79 a1 _ hx82) ?_;refine go ?_;have e:=pur j18;subst e;exact ⟨_,_,rfl,S,hF⟩
    ·refine go ?_;have e:=pur j18;subst e;exact ⟨_,_,rfl,S,hF⟩
    ·rintro s' ⟨T19,s20,rfl,tT,hF⟩;refine go ?_;refine cdp H (fun h H=>?_) (fun h H=>?_)
     ·refine go ?_;refine st hF 1 rfl fun s22 hF=>?_;refine go ?_;exact wq (hR _ (pur H).symm _ (rt _))
     ·refine go ?_;obtain ⟨o37,ho37,H⟩:=bnd H;refine L0 a0 a1 x45 YM x74 H7 X6 0 YG _ ho37 _ rfl _ _ b1 b3 b12 ?_ ?_ _ _ z0v0 S hF
      ·intro Dp LJ he T39 s40 e38v0 tT hF;have he:=he.symm;subst he
       try dsimp only at H
       refine go ?_;exact L1 a0 a1 x45 Dp LJ (i64.wrap (YM+1)) _ H _ rfl Q tt b1 b3 b12 hE hR _ _ e38v0 S hF
      ·intro r hr s' hs;subst hr;exact wq (hR _ (pur H).symm _ hs)
  ·refine go ?_;exact wq (hE _ (pur H).symm _ _ z0v0 S hF)
 ·intro Iu Wi C0 L0 a0 a1 x45 YM x74 H7 W8 Hj Ww out H c hc Q tt b1 b3 b12 hE hR T ss z1v0 tT hF;refine lpx tt hc rfl fun q hX=>go ?_;refine cdp H (fun h H=>?_) (fun h H=>?_)
  ·refine go ?_;obtain ⟨OE,j24,H⟩:=bnd H;refine VG (fun s'=>∃(T:TT) (ss1:Sto),s'=⟨T,ss1⟩/\(T 1=sf KZ a1/\T 2=.ptr b1 0/\T 4=.ptr b3 0/\T 7=.ptr b12 0/\T 8=i6 Ww/\T 9=i6 YM/\T 10=i6 H7/\T 11=.bool x74/\T 12=i6 Hj/\T 13=sf KZ OE)/\Fx tt ss1 [(b12,⟨26,5,[i6 a0.kind,.str a0.name,i6 a0.num,sf cI x45,z1v0]⟩),(b3,⟨26,5,[i6 0,.str zB,i6 0,.Yb,.Yb]⟩),(b1,⟨26,5,[i6 a0.kind,.str a0.name,i6 a0.num,sf cI a0.sc,sf KW a0.kids]⟩)] [⟨z1v0,26,5,rws KW W8⟩]) (cdb j24 (fun h j24=>?_) (fun h j24=>?_)) ?_
   ·obtain ⟨x96,f1,j24⟩:=bil (g:=KW) Fm.X5 j24;refine go1 ?_;obtain ⟨x100,hx100,j24⟩:=bnd j24;refine cl (Oy x96 a1 Hj _ hx100) ?_;refine go ?_;have e:=pur j24;subst e;exact ⟨_,_,rfl,S,hF⟩
   ·refine go ?_;have e:=pur j24;subst e;exact ⟨_,_,rfl,S,hF⟩
   ·rintro s' ⟨T25,s26,rfl,tT,hF⟩;obtain ⟨x105,f1,H⟩:=bil (g:=KW) Fm.X5 H;refine go1 ?_;refine bp H (C0 x105 OE) fun x108 h H=>cl h ?_;refine go ?_;refine X8 hF rfl fun b28 s29 hF=>?_;refine go ?_;refine st hF 0 rfl fun s30 hF=>?_;refine go ?_;refine bp H (CO x108.1) fun x113 h H=>cl h ?_;refine go ?_;obtain ⟨x120,g31,H⟩:=bnd H;refine Ya 2 118 120 (.bool x120) (giN q (fun q=>?_) (fun q=>?_)) (fun J=>?_)
    ·refine go ?_;exact Yt 118 g31
    ·refine go ?_;exact Yt 118 g31
    refine go ?_;refine cdb H (fun h H=>?_) (fun h H=>?_)
    ·refine go ?_;refine st hF 2 rfl fun s33 hF=>?_;refine go ?_;exact wq (hR _ (pur H).symm _ (rt _))
    ·refine go ?_;refine apd (g:=KW) hF 0 H (rdo (c:=true) (g:=KW) Fm.X5) fun x126 H v34 s35 hF=>?_;refine go ?_;refine st hF 1 (hF.cells 0 rfl) fun s36 hF=>?_;refine go ?_;exact L0 a0 a1 x45 YM x74 H7 x126 (i64.wrap (Hj+1)) (i64.wrap (Ww+x113)) _ H _ rfl Q tt b1 b3 b12 hE hR _ _ v34 S (hF.drop 1 0)
  ·refine go ?_;exact wq (hE _ _ (pur H).symm _ _ z1v0 S hF)
theorem Ee:∀(a0:List Bnd) (a1:List Rul) (a2:List Fm) (a3:Fm) r,Hx a0 a1 a2 a3=some r->Vm KX 202 [sf KY a0,sf K2 a1,sf KW a2,.agg (KW a3)] (.tup [.agg (KW r.1),.bool r.2]):=by
 intro a0 a1 a2 a3 r H;intro ss;unfold Hx at H;refine hdh mixed Tryz.func202 (rs:=[.cell 8 26,.tmp 9]) fun q tT hF hX=>?_;refine go ?_;refine X8 hF rfl fun b1 ss2 hF=>?_;refine go ?_;refine X8 hF rfl fun b3 ss4 hF=>?_;refine go ?_;refine bp H (Cu a1) fun x17 h H=>cl h ?_;refine go ?_;refine bp H (HW a0 x17 a2 a3) fun x23 h H=>cl h ?_;refine go ?_;refine cdb H (fun h H=>?_) (fun h H=>?_)
 ·refine go ?_;refine st hF 0 rfl fun ss5 hF=>?_;refine go ?_;have e:=pur H;subst e;exact rt _
 ·refine go ?_;refine Yf E0 [.v,.v,.v,.v,.v,.v,.v,.v,.v,.v,.v,.v,.v,.v] (by kernel_rfl) ?_;obtain ⟨x33,f1,H⟩:=bil (g:=K2) Rul.X5 H;refine go1 ?_;refine bp H (CR a0 x33.pat a2 a3) fun x38 h H=>cv h ?_;obtain ⟨x44,f1,H⟩:=bil (g:=K2) Rul.X5 H;refine go1 ?_;refine bp H (Nd x44.tpl x38.1) fun x48 h H=>cl h ?_;refine go ?_;refine X8 hF rfl fun b6 s7 hF=>?_;refine go ?_;refine st hF 0 rfl fun s8 hF=>?_;refine go ?_;obtain ⟨x57,g9,H⟩:=bnd H;refine Ya 3 54 57 (.bool x57) (giN q (fun q=>?_) (fun q=>?_)) (fun J=>?_)
  ·rw [if_neg (dbf q)] at g9;refine go ?_;obtain ⟨x55,hx55,g9⟩:=bnd g9;refine cl (Yz x48.1 _ hx55) ?_;refine go ?_;exact Yt 54 g9
  ·rw [if_pos (dbt q)] at g9;refine go ?_;exact Yt 54 g9
  refine go ?_;refine cdb H (fun h H=>?_) (fun h H=>?_)
  ·refine go ?_;refine st hF 1 rfl fun s11 hF=>?_;refine go ?_;have e:=pur H;subst e;exact rt _
  ·refine go ?_;refine st hF 1 rfl fun s12 hF=>?_;refine go ?_;have e:=pur H;subst e;exact rt _
theorem BH:∀(a0:Xpn) (a1:Fm) (a2 a3:Int) r,Iv a0 a1 a2 a3=some r->Vm KX 184 [.agg (K5 a0),.agg (KW a1),i6 a2,i6 a3] (.tup [.agg (K5 r.1),.agg (KW r.2.1),i6 r.2.2]):=by
 intro a0 a1 a2 a3 r H;intro ss;unfold Iv at H;refine hdh mixed Tryz.func184 (rs:=[.cell 8 42,.cell 9 26,.tmp 10]) fun q tT hF hX=>?_;refine go ?_;refine X8 hF rfl fun b1 ss2 hF=>?_;refine go ?_;refine X8 hF rfl fun b3 ss4 hF=>?_;refine go ?_;refine X8 hF rfl fun b5 ss6 hF=>?_;refine go ?_;refine X8 hF rfl fun b7 s8 hF=>?_;refine go ?_;refine cdp H (fun h H=>?_) (fun h H=>?_)
 ·refine go ?_;refine st hF 1 rfl fun s9 hF=>?_;refine go ?_;refine st hF 0 rfl fun s10 hF=>?_;refine go ?_;have e:=pur H;subst e;exact rt _
 ·refine go ?_;refine bp H (A3 a0) fun x27 h H=>cl h ?_;refine go ?_;refine st hF 3 rfl fun s11 hF=>?_;refine go ?_;refine cdb H (fun h H=>?_) (fun h H=>?_)
  ·refine go ?_;refine st hF 1 rfl fun s12 hF=>?_;refine go ?_;refine st hF 0 rfl fun s13 hF=>?_;refine go ?_;have e:=pur H;subst e;exact rt _
  ·refine go ?_;refine st hF 3 rfl fun s14 hF=>?_;refine go ?_;refine Yf E0 [.v,.v,.v,.v,.v,.v,.v,.x,.z] (by kernel_rfl) ?_;refine go ?_;obtain ⟨x42,hx42,H⟩:=bnd H;refine cv (IX (KS x27.1.binds x27.1.macs x27.1.scope x27.1.id (i64.wrap (x27.1.steps+1))) a2 _ hx42) ?_;obtain ⟨x43,f1,H⟩:=bil (g:=Zb) Mac.X5 H;refine go1 ?_;refine WH hF rfl fun b15 s16 hF=>?_;refine go ?_;refine st hF 0 rfl fun s17 hF=>?_;refine go ?_;refine bp H (Y7 a1 x27.1.scope 1) fun x48 h H=>cl h ?_;refine go ?_;refine X8 hF rfl fun b18 s19 hF=>?_;refine go ?_;refine st hF 0 rfl fun s20 hF=>?_;refine go ?_;refine bp H (Yz x48) fun x50 h H=>cl h ?_;refine go ?_;refine cdb H (fun h H=>?_) (fun h H=>?_)
   ·refine go ?_;refine st hF 3 rfl fun s21 hF=>?_;refine go ?_;refine st hF 2 rfl fun s22 hF=>?_;refine go ?_;have e:=pur H;subst e;exact rt _
   ·refine go ?_;refine bp H (HW x27.1.binds x43.rules x43.lits x48) fun x62 h H=>cl h ?_;refine go ?_;refine cdb H (fun h H=>?_) (fun h H=>?_)
    ·refine go ?_;refine st hF 3 rfl fun s23 hF=>?_;refine go ?_;refine st hF 2 rfl fun s24 hF=>?_;refine go ?_;have e:=pur H;subst e;exact rt _
    ·refine go ?_;refine bp H (Ee x27.1.binds x43.rules x43.lits x48) fun x77 h H=>cl h ?_;refine go ?_;refine X8 hF rfl fun b25 s26 hF=>?_;refine go ?_;refine st hF 0 rfl fun s27 hF=>?_;refine go ?_;refine cdb H (fun h H=>?_) (fun h H=>?_)
     ·refine go ?_;refine st hF 4 rfl fun s28 hF=>?_;refine go ?_;refine st hF 3 rfl fun s29 hF=>?_;refine go ?_;have e:=pur H;subst e;exact rt _
     ·refine go ?_;refine bp H (Y7 x77.1 x27.1.scope 1) fun x87 h H=>cl h ?_;refine go ?_;refine X8 hF rfl fun b30 s31 hF=>?_;refine go ?_;refine st hF 0 rfl fun s32 hF=>?_;refine go ?_;refine bp H (Yz x87) fun x89 h H=>cl h ?_;refine go ?_;refine cdb H (fun h H=>?_) (fun h H=>?_)
      ·refine go ?_;refine st hF 5 rfl fun s33 hF=>?_;refine go ?_;refine st hF 4 rfl fun s34 hF=>?_;refine go ?_;have e:=pur H;subst e;exact rt _
      ·refine go ?_;obtain ⟨E,hEq⟩:∃E,E=EE s32 [b5,b7]:=⟨_,rfl⟩
       have n35:¬E b30:=by rw [hEq];exact K3 (hF.at 0 rfl) (nm2 ⟨neL hF 0 5 rfl rfl (by decide),neL hF 0 4 rfl rfl (by decide)⟩)
       have n36:¬E b25:=by rw [hEq];exact K3 (hF.at 1 rfl) (nm2 ⟨neL hF 1 5 rfl rfl (by decide),neL hF 1 4 rfl rfl (by decide)⟩)
       have n37:¬E b18:=by rw [hEq];exact K3 (hF.at 2 rfl) (nm2 ⟨neL hF 2 5 rfl rfl (by decide),neL hF 2 4 rfl rfl (by decide)⟩)
       have n38:¬E b15:=by rw [hEq];exact K3 (hF.at 3 rfl) (nm2 ⟨neL hF 3 5 rfl rfl (by decide),neL hF 3 4 rfl rfl (by decide)⟩)
       have n39:¬E b3:=by rw [hEq];exact K3 (hF.at 6 rfl) (nm2 ⟨neL hF 6 5 rfl rfl (by decide),neL hF 6 4 rfl rfl (by decide)⟩)
       have n40:¬E b1:=by rw [hEq];exact K3 (hF.at 7 rfl) (nm2 ⟨neL hF 7 5 rfl rfl (by decide),neL hF 7 4 rfl rfl (by decide)⟩)
       refine Yf E [.v,.v,.x,.x,.v] (by kernel_rfl) ?_;have z:=K0 (X4 (hF.at 0 rfl) n35) (K0 (X4 (hF.at 1 rfl) n36) (K0 (X4 (hF.at 2 rfl) n37) (K0 (X4 (hF.at 3 rfl) n38) (K0 (X4 (hF.at 6 rfl) n39) (X4 (hF.at 7 rfl) n40)))));refine gh ?_;refine stK hF 5 (by rw [hEq];exact Zc (by simp)) rfl fun s41 hF=>?_;have z:=K0 (X4 (hF.at 0 rfl) n35) (K0 (X4 (hF.at 1 rfl) n36) (K0 (X4 (hF.at 2 rfl) n37) (K0 (X4 (hF.at 3 rfl) n38) (K0 (X4 (hF.at 6 rfl) n39) (X4 (hF.at 7 rfl) n40)))));refine gh ?_;refine stK hF 4 (by rw [hEq];exact Zc (by simp)) rfl fun s42 hF=>?_;have z:=K0 (X4 (hF.at 0 rfl) n35) (K0 (X4 (hF.at 1 rfl) n36) (K0 (X4 (hF.at 2 rfl) n37) (K0 (X4 (hF.at 3 rfl) n38) (K0 (X4 (hF.at 6 rfl) n39) (X4 (hF.at 7 rfl) n40)))));refine gh ?_;refine go ?_;have e:=pur H;subst e;exact rt [.agg [sf KY x27.1.binds,sf Zb x27.1.macs,i6 x27.1.scope,i6 x27.1.id,i6 (i64.wrap (x27.1.steps+1))],.agg [i6 x87.kind,.str x87.name,i6 x87.num,sf cI x87.sc,sf KW x87.kids],i6 0]
theorem La:∀(a1:List Fm) (a2:Fm) (a3:Int) (Yj:List Bnd) (Yk:List Mac) (Yi Yl Ym:Int) (X6:List Int) (Jc:Int) out,Js a1 a2 a3 Yj Yk Yi Yl Ym X6 Jc=some out->∀c,Yh Tryz.f187 0=some c->∀(Q:QT) (tt:Sto) (b1 b3 b5 b7 b12:Nat),(∀(IJ:List Bnd) (IK:List Mac) (IL IM IN:Int) (YS:List Int),out=Sum.inr (IJ,IK,IL,IM,IN,YS)->∀(T:TT) (ss:Sto) (e0v0:AV),T 3=i6 a3/\T 4=.ptr b1 0/\T 6=.ptr b3 0/\T 8=.ptr b5 0/\T 9=.ptr b7 0/\T 12=.ptr b12 0->Fx tt ss [(b12,⟨136,11,[i6 5,i6 0,.str zB,i6 0,e0v0,i6 0,.str zB,i6 0,.Yb,.Yb,.Yb]⟩),(b7,⟨136,11,[i6 0,i6 0,.str zB,i6 0,.Yb,i6 0,.str zB,i6 0,.Yb,.Yb,.Yb]⟩),(b5,⟨42,5,[.Yb,.Yb,i6 0,i6 0,i6 0]⟩),(b3,⟨26,5,[i6 a2.kind,.str a2.name,i6 a2.num,sf cI a2.sc,sf KW a2.kids]⟩),(b1,⟨42,5,[sf KY IJ,sf Zb IK,i6 IL,i6 IM,i6 IN]⟩)] [⟨e0v0,3,1,rws cI YS⟩]->Q (.ex 0) ⟨T,ss⟩)->(∀r,out=Sum.inl r->∀s',IE KX [.cell 8 42,.cell 9 136,.tmp 10] (fun r' ss'=>r'=.tup [.agg (K5 r.1),.agg (ZD r.2.1),i6 r.2.2]/\ss'=tt) s'->Q .ret s')->∀(T:TT) (ss:Sto) (z0v0:AV),T 1=sf KW a1/\T 3=i6 a3/\T 4=.ptr b1 0/\T 6=.ptr b3 0/\T 8=.ptr b5 0/\T 9=.ptr b7 0/\T 12=.ptr b12 0/\T 13=i6 Jc->Fx tt ss [(b12,⟨136,11,[i6 5,i6 0,.str zB,i6 0,z0v0,i6 0,.str zB,i6 0,.Yb,.Yb,.Yb]⟩),(b7,⟨136,11,[i6 0,i6 0,.str zB,i6 0,.Yb,i6 0,.str zB,i6 0,.Yb,.Yb,.Yb]⟩),(b5,⟨42,5,[.Yb,.Yb,i6 0,i6 0,i6 0]⟩),(b3,⟨26,5,[i6 a2.kind,.str a2.name,i6 a2.num,sf cI a2.sc,sf KW a2.kids]⟩),(b1,⟨42,5,[sf KY Yj,sf Zb Yk,i6 Yi,i6 Yl,i6 Ym]⟩)] [⟨z0v0,3,1,rws cI X6⟩]->aLp KX c Q ⟨T,ss⟩:=by
 intro a1 a2 a3 Yj Yk Yi Yl Ym X6 Jc;revert Yj Yk Yi Yl Ym X6 Jc;refine Js.partial_correctness a1 a2 a3 _ ?_;intro Js IH Yj Yk Yi Yl Ym X6 Jc out H c hc Q tt b1 b3 b5 b7 b12 hE hR T ss z0v0 tT hF;refine lpx tt hc rfl fun q hX=>go ?_;refine cdp H (fun h H=>?_) (fun h H=>?_)
 ·obtain ⟨x38,f1,H⟩:=bil (g:=KW) Fm.X5 H;refine go1 ?_;refine go ?_;refine cdn H (fun h H=>?_) (fun h H=>?_)
  ·refine go ?_;refine st hF 2 rfl fun s15 hF=>?_;refine go ?_;refine st hF 1 rfl fun s16 hF=>?_;refine go ?_;exact wq (hR _ (pur H).symm _ (rt _))
  ·refine go ?_;refine Yf E0 [.v,.v,.v,.v,.v,.v,.v,.x,.z] (by kernel_rfl) ?_;obtain ⟨x46,f1,H⟩:=bil (g:=KW) Fm.X5 H;refine go1 ?_;refine bp H (Y7 x46 Yi 0) fun x50 h H=>cv h ?_;refine go ?_;refine WH hF rfl fun b17 s18 hF=>?_;refine go ?_;refine st hF 0 rfl fun s19 hF=>?_;refine go ?_;refine bp H (Yz x50) fun x52 h H=>cl h ?_;refine go ?_;refine cdb H (fun h H=>?_) (fun h H=>?_)
   ·refine go ?_;refine st hF 3 rfl fun s20 hF=>?_;refine go ?_;refine st hF 2 rfl fun s21 hF=>?_;refine go ?_;exact wq (hR _ (pur H).symm _ (rt _))
   ·refine go ?_;refine bp H (Dy (KS Yj Yk Yi Yl Ym) x50) fun x59 h H=>cl h ?_;refine go ?_;refine X8 hF rfl fun b22 s23 hF=>?_;refine go ?_;refine st hF 0 rfl fun s24 hF=>?_;refine go ?_;refine st hF 6 rfl fun s25 hF=>?_;refine go ?_;refine cdn H (fun h H=>?_) (fun h H=>?_)
    ·refine go ?_;refine st hF 4 rfl fun s26 hF=>?_;refine go ?_;refine st hF 3 rfl fun s27 hF=>?_;refine go ?_;exact wq (hR _ (pur H).symm _ (rt _))
    ·refine go ?_;refine apd (g:=cI) hF 0 H (rdo (c:=true) (g:=cI) (fun _=>rfl)) fun x73 H v28 s29 hF=>?_;refine go ?_;refine st hF 2 (hF.cells 0 rfl) fun s30 hF=>?_;refine go ?_;exact IH  x59.1.binds x59.1.macs x59.1.scope x59.1.id x59.1.steps x73 (i64.wrap (Jc+1)) _ H _ rfl Q tt b1 b3 b5 b7 b12 hE hR _ _ v28 S (hF.drop 2 0)
 ·refine go ?_;exact wq (hE _ _ _ _ _ _ (pur H).symm _ _ z0v0 S hF)
theorem DW:∀(a1 a2:List Fm) (a3:Fm) (a4:Int) (Yj:List Bnd) (Yk:List Mac) (Yi Yl Ym I1:Int) out,VZ a1 a2 a3 a4 Yj Yk Yi Yl Ym I1=some out->∀c,Yh Tryz.f181 0=some c->∀(Q:QT) (tt:Sto) (b1 b3 b5 b7:Nat),(∀(IJ:List Bnd) (IK:List Mac) (IL IM IN:Int),out=Sum.inr (IJ,IK,IL,IM,IN)->∀(T:TT) (ss:Sto),T 4=i6 a4/\T 5=.ptr b1 0/\T 8=.ptr b3 0/\T 10=.ptr b5 0/\T 11=.ptr b7 0->Fx tt ss [(b7,⟨136,11,[i6 0,i6 0,.str zB,i6 0,.Yb,i6 0,.str zB,i6 0,.Yb,.Yb,.Yb]⟩),(b5,⟨42,5,[.Yb,.Yb,i6 0,i6 0,i6 0]⟩),(b3,⟨26,5,[i6 a3.kind,.str a3.name,i6 a3.num,sf cI a3.sc,sf KW a3.kids]⟩),(b1,⟨42,5,[sf KY IJ,sf Zb IK,i6 IL,i6 IM,i6 IN]⟩)] []->Q (.ex 0) ⟨T,ss⟩)->(∀r,out=Sum.inl r->∀s',IE KX [.cell 10 42,.cell 11 136,.tmp 12] (fun r' ss'=>r'=.tup [.agg (K5 r.1),.agg (ZD r.2.1),i6 r.2.2]/\ss'=tt) s'->Q .ret s')->∀(T:TT) (ss:Sto),T 1=sf KW a1/\T 2=sf KW a2/\T 4=i6 a4/\T 5=.ptr b1 0/\T 8=.ptr b3 0/\T 10=.ptr b5 0/\T 11=.ptr b7 0/\T 14=i6 I1->Fx tt ss [(b7,⟨136,11,[i6 0,i6 0,.str zB,i6 0,.Yb,i6 0,.str zB,i6 0,.Yb,.Yb,.Yb]⟩),(b5,⟨42,5,[.Yb,.Yb,i6 0,i6 0,i6 0]⟩),(b3,⟨26,5,[i6 a3.kind,.str a3.name,i6 a3.num,sf cI a3.sc,sf KW a3.kids]⟩),(b1,⟨42,5,[sf KY Yj,sf Zb Yk,i6 Yi,i6 Yl,i6 Ym]⟩)] []->aLp KX c Q ⟨T,ss⟩:=by
 intro a1 a2 a3 a4 Yj Yk Yi Yl Ym I1;revert Yj Yk Yi Yl Ym I1;refine VZ.partial_correctness a1 a2 a3 a4 _ ?_;intro VZ IH Yj Yk Yi Yl Ym I1 out H c hc Q tt b1 b3 b5 b7 hE hR T ss tT hF;refine lpx tt hc rfl fun q hX=>go ?_;refine cdp H (fun h H=>?_) (fun h H=>?_)
 ·refine go ?_;refine Yf E0 [.v,.v,.v,.v,.v,.v,.v,.x,.z] (by kernel_rfl) ?_;obtain ⟨x40,f1,H⟩:=bil (g:=KW) Fm.X5 H;refine go1 ?_;refine bp H (Y7 x40 Yi 0) fun x44 h H=>cv h ?_;refine go ?_;refine WH hF rfl fun b12 s13 hF=>?_;refine go ?_;refine st hF 0 rfl fun s14 hF=>?_;refine go ?_;refine Yf E0 [.v,.v,.v,.v,.v,.v,.v,.x,.z] (by kernel_rfl) ?_;obtain ⟨x47,f1,H⟩:=bil (g:=KW) Fm.X5 H;refine go1 ?_;refine bp H (Y7 x47 Yi 0) fun x51 h H=>cv h ?_;refine go ?_;refine WH hF rfl fun b15 s16 hF=>?_;refine go ?_;refine st hF 0 rfl fun s17 hF=>?_;obtain ⟨x54,f1,H⟩:=bil (g:=KW) Fm.X5 H;refine go1 ?_;refine go ?_;refine cdn H (fun h H=>?_) (fun h H=>?_)
  ·refine go ?_;refine st hF 3 rfl fun s18 hF=>?_;refine go ?_;refine st hF 2 rfl fun s19 hF=>?_;refine go ?_;exact wq (hR _ (pur H).symm _ (rt _))
  ·refine go ?_;refine bp H (Yz x44) fun x61 h H=>cl h ?_;refine go ?_;obtain ⟨x67,g20,H⟩:=bnd H;refine Ya 3 64 67 (.bool x67) (giN q (fun q=>?_) (fun q=>?_)) (fun J=>?_)
   ·rw [if_neg (dbf q)] at g20;refine go ?_;obtain ⟨x65,hx65,g20⟩:=bnd g20;refine cl (Yz x51 _ hx65) ?_;refine go ?_;exact Yt 64 g20
   ·rw [if_pos (dbt q)] at g20;refine go ?_;exact Yt 64 g20
   refine go ?_;refine cdb H (fun h H=>?_) (fun h H=>?_)
   ·refine go ?_;refine st hF 3 rfl fun s22 hF=>?_;refine go ?_;refine st hF 2 rfl fun s23 hF=>?_;refine go ?_;exact wq (hR _ (pur H).symm _ (rt _))
   ·refine go ?_;refine bp H (Eg x51) fun x72 h H=>cl h ?_;refine go ?_;refine cdb H (fun h H=>?_) (fun h H=>?_)
    ·refine go ?_;refine st hF 3 rfl fun s24 hF=>?_;refine go ?_;refine st hF 2 rfl fun s25 hF=>?_;refine go ?_;exact wq (hR _ (pur H).symm _ (rt _))
    ·refine go ?_;refine bp H (Dy (KS Yj Yk Yi Yl Ym) x44) fun x83 h H=>cl h ?_;refine go ?_;refine X8 hF rfl fun b26 s27 hF=>?_;refine go ?_;refine st hF 0 rfl fun s28 hF=>?_;refine go ?_;refine st hF 6 rfl fun s29 hF=>?_;refine go ?_;refine cdn H (fun h H=>?_) (fun h H=>?_)
     ·refine go ?_;refine st hF 4 rfl fun s30 hF=>?_;refine go ?_;refine st hF 3 rfl fun s31 hF=>?_;refine go ?_;exact wq (hR _ (pur H).symm _ (rt _))
     ·refine go ?_;refine Le E0 [.v,.v,.v,.v,.v,.v,.v,.v,.v,.x,.x,.v,.z] [0,1,2,4,5,6,7,8,9,3,10,11,12] (by kernel_rfl) ?_;refine go ?_;have hF:=hF.lit 49 3 (rws Zb []) rfl;refine PT (g:=Zb) hF 0 H (rdo (c:=false) (g:=Zb) Mac.X5) fun x95 H v32 s33 hF=>?_;refine go ?_;refine Qnk (g:=Zb) hF 0 H (rdo (c:=true) (g:=Zb) Mac.X5) fun x102 H s35 hF=>?_;refine go ?_;refine st hF 6 rfl fun s36 hF=>?_;refine go ?_;exact IH  x83.1.binds x102 x83.1.scope x83.1.id x83.1.steps (i64.wrap (I1+1)) _ H _ rfl Q tt b1 b3 b5 b7 hE hR _ _  S (hF.drop 3 0)
 ·refine go ?_;exact wq (hE _ _ _ _ _ (pur H).symm _ _  S hF)
theorem H2 (fx0:Int):(∀(a0:Xpn) (a1:Fm) r,YN a0 a1 fx0=some r->Vm KX 143 [.agg (K5 a0),.agg (KW a1),i6 fx0] (.tup [.agg (K5 r.1),.agg (ZD r.2.1),i6 r.2.2]))/\(∀(a0:Xpn) (a1:Fm) (a2:Int) r,Jh a0 a1 a2 fx0=some r->Vm KX 161 [.agg (K5 a0),.agg (KW a1),i6 a2,i6 fx0] (.tup [.agg (K5 r.1),.agg (ZD r.2.1),i6 r.2.2]))/\(∀(a0:Xpn) (a1:List Fm) r,GR a0 a1 fx0=some r->Vm KX 163 [.agg (K5 a0),sf KW a1,i6 fx0] (.tup [.agg (K5 r.1),sf ZD r.2.1,i6 r.2.2]))/\(∀(a0:Xpn) (a1:List Fm) (a2:Fm) r,Ho a0 a1 a2 fx0=some r->Vm KX 187 [.agg (K5 a0),sf KW a1,.agg (KW a2),i6 fx0] (.tup [.agg (K5 r.1),.agg (ZD r.2.1),i6 r.2.2]))/\(∀(a0:Xpn) (a1 a2:List Fm) (a3:Fm) r,Gf a0 a1 a2 a3 fx0=some r->Vm KX 181 [.agg (K5 a0),sf KW a1,sf KW a2,.agg (KW a3),i6 fx0] (.tup [.agg (K5 r.1),.agg (ZD r.2.1),i6 r.2.2]))/\(∀(a0:Xpn) (a1:Fm) (a2:Int) r,Br a0 a1 a2 fx0=some r->Vm KX 162 [.agg (K5 a0),.agg (KW a1),i6 a2,i6 fx0] (.tup [.agg (K5 r.1),.agg (ZD r.2.1),i6 r.2.2])):=by
 have h:=YN.mutual_partial_correctness fx0 (motive_1:=fun a0 a1 r=>Vm KX 143 [.agg (K5 a0),.agg (KW a1),i6 fx0] (.tup [.agg (K5 r.1),.agg (ZD r.2.1),i6 r.2.2])) (motive_2:=fun a0 a1 r=>Vm KX 163 [.agg (K5 a0),sf KW a1,i6 fx0] (.tup [.agg (K5 r.1),sf ZD r.2.1,i6 r.2.2])) (motive_3:=fun a1 Yj Yk Yi Yl Ym X6 YU out=>∀c,Yh Tryz.f163 0=some c->∀(Q:QT) (tt:Sto) (b1 b3:Nat),(∀(IJ:List Bnd) (IK:List Mac) (IL IM IN:Int) (YS:List Cor),out=Sum.inr (IJ,IK,IL,IM,IN,YS)->∀(T:TT) (ss:Sto) (e0v0:AV),T 3=.ptr b1 0/\T 6=.ptr b3 0/\T 9=e0v0->Fx tt ss [(b3,⟨42,5,[.Yb,.Yb,i6 0,i6 0,i6 0]⟩),(b1,⟨42,5,[sf KY IJ,sf Zb IK,i6 IL,i6 IM,i6 IN]⟩)] [⟨e0v0,136,11,rws ZD YS⟩]->Q (.ex 0) ⟨T,ss⟩)->(∀r,out=Sum.inl r->∀s',IE KX [.cell 6 42,.tmp 7,.tmp 8] (fun r' ss'=>r'=.tup [.agg (K5 r.1),sf ZD r.2.1,i6 r.2.2]/\ss'=tt) s'->Q .ret s')->∀(T:TT) (ss:Sto) (z0v0:AV),T 1=sf KW a1/\T 2=i6 fx0/\T 3=.ptr b1 0/\T 6=.ptr b3 0/\T 9=z0v0/\T 10=i6 YU->Fx tt ss [(b3,⟨42,5,[.Yb,.Yb,i6 0,i6 0,i6 0]⟩),(b1,⟨42,5,[sf KY Yj,sf Zb Yk,i6 Yi,i6 Yl,i6 Ym]⟩)] [⟨z0v0,136,11,rws ZD X6⟩]->aLp KX c Q ⟨T,ss⟩) (motive_4:=fun a0 a1 a2 r=>Vm KX 162 [.agg (K5 a0),.agg (KW a1),i6 a2,i6 fx0] (.tup [.agg (K5 r.1),.agg (ZD r.2.1),i6 r.2.2])) (motive_5:=fun a0 a1 a2 r=>Vm KX 161 [.agg (K5 a0),.agg (KW a1),i6 a2,i6 fx0] (.tup [.agg (K5 r.1),.agg (ZD r.2.1),i6 r.2.2])) (motive_6:=fun a0 a1 a2 a3 r=>Vm KX 181 [.agg (K5 a0),sf KW a1,sf KW a2,.agg (KW a3),i6 fx0] (.tup [.agg (K5 r.1),.agg (ZD r.2.1),i6 r.2.2])) (motive_7:=fun a0 a1 a2 r=>Vm KX 187 [.agg (K5 a0),sf KW a1,.agg (KW a2),i6 fx0] (.tup [.agg (K5 r.1),.agg (ZD r.2.1),i6 r.2.2])) ?s0 ?s1 ?s2 ?s3 ?s4 ?s5 ?s6
 ·exact ⟨h.1,h.2.2.2.2.1,h.2.1,h.2.2.2.2.2.2,h.2.2.2.2.2.1,h.2.2.2.1⟩
 ·intro GR Br Jh C2 C5 C1 a0 a1 r H;intro ss;refine hdh mixed Tryz.func143 (rs:=[.cell 6 42,.cell 7 136,.tmp 8]) fun q tT hF hX=>?_;refine go ?_;refine X8 hF rfl fun b1 ss2 hF=>?_;refine go ?_;refine X8 hF rfl fun b3 ss4 hF=>?_;refine go ?_;refine X8 hF rfl fun b5 ss6 hF=>?_;refine go ?_;refine X8 hF rfl fun b7 s8 hF=>?_;refine go ?_;refine cdp H (fun h H=>?_) (fun h H=>?_)
  ·refine go ?_;obtain ⟨E,hEq⟩:∃E,E=EE s8 [b5,b7]:=⟨_,rfl⟩
   have n9:¬E b3:=by rw [hEq];exact K3 (hF.at 2 rfl) (nm2 ⟨neL hF 2 1 rfl rfl (by decide),neL hF 2 0 rfl rfl (by decide)⟩)
   have n10:¬E b1:=by rw [hEq];exact K3 (hF.at 3 rfl) (nm2 ⟨neL hF 3 1 rfl rfl (by decide),neL hF 3 0 rfl rfl (by decide)⟩)
   refine Yf E [.v,.v,.v,.v,.x,.x,.v] (by kernel_rfl) ?_;have z:=K0 (X4 (hF.at 2 rfl) n9) (X4 (hF.at 3 rfl) n10);refine gh ?_;refine stK hF 1 (by rw [hEq];exact Zc (by simp)) rfl fun s11 hF=>?_;have z:=K0 (X4 (hF.at 2 rfl) n9) (X4 (hF.at 3 rfl) n10);refine gh ?_;refine stK hF 0 (by rw [hEq];exact Zc (by simp)) rfl fun s12 hF=>?_;have z:=K0 (X4 (hF.at 2 rfl) n9) (X4 (hF.at 3 rfl) n10);refine gh ?_;refine go ?_;have e:=pur H;subst e;exact rt [.agg [sf KY a0.binds,sf Zb a0.macs,i6 a0.scope,i6 a0.id,i6 a0.steps],.agg [i6 3,i6 0,.str zB,i6 a1.num,.Yb,i6 0,.str zB,i6 0,.Yb,.Yb,.Yb],i6 0]
  ·refine go ?_;refine cdp H (fun h H=>?_) (fun h H=>?_)
   ·refine go ?_;refine bp H (Np a0 a1) fun x25 h H=>cl h ?_;refine go ?_;refine st hF 1 rfl fun s13 hF=>?_;refine go ?_;refine st hF 0 rfl fun s14 hF=>?_;refine go ?_;have e:=pur H;subst e;exact rt _
   ·refine go ?_;refine cdp H (fun h H=>?_) (fun h H=>?_)
    ·refine go ?_;refine st hF 1 rfl fun s15 hF=>?_;refine go ?_;refine st hF 0 rfl fun s16 hF=>?_;refine go ?_;have e:=pur H;subst e;exact rt _
    ·obtain ⟨x37,f1,H⟩:=bil (g:=KW) Fm.X5 H;refine go1 ?_;refine go ?_;refine cdp H (fun h H=>?_) (fun h H=>?_)
     ·refine go ?_;refine Yf E0 [.v,.v,.v,.v,.v,.v,.v,.v,.v,.v,.v] (by kernel_rfl) ?_;obtain ⟨x45,f1,H⟩:=bil (g:=KW) Fm.X5 H;refine go1 ?_;refine bp H (H3 a0 x45) fun x47 h H=>cv h ?_;refine go ?_;refine cdp H (fun h H=>?_) (fun h H=>?_)
      ·refine go ?_;refine st hF 1 rfl fun s17 hF=>?_;refine go ?_;refine st hF 0 rfl fun s18 hF=>?_;refine go ?_;have e:=pur H;subst e;exact rt _
      ·refine go ?_;refine cdp H (fun h H=>?_) (fun h H=>?_)
       ·refine go ?_;refine bp H (C1 a0 a1 x47.2) fun x61 h H=>cl h ?_;refine go ?_;refine st hF 1 rfl fun s19 hF=>?_;refine go ?_;refine st hF 0 rfl fun s20 hF=>?_;refine go ?_;have e:=pur H;subst e;exact rt _
       ·refine go ?_;refine cdp H (fun h H=>?_) (fun h H=>?_)
        ·refine go ?_;refine bp H (C5 a0 a1 x47.2) fun x71 h H=>cl h ?_;refine go ?_;refine st hF 1 rfl fun s21 hF=>?_;refine go ?_;refine st hF 0 rfl fun s22 hF=>?_;refine go ?_;have e:=pur H;subst e;exact rt _
        ·refine go ?_;refine bp H (C2 a0 a1.kids) fun x80 h H=>cl h ?_;refine go ?_;refine st hF 3 rfl fun s23 hF=>?_;refine go ?_;refine st hF 1 rfl fun s24 hF=>?_;refine go ?_;refine st hF 0 rfl fun s25 hF=>?_;refine go ?_;have e:=pur H;subst e;exact rt _
     ·refine go ?_;obtain ⟨My,hx80_1,H⟩:=bnd H;refine cl (C2 a0 a1.kids _ hx80_1) ?_;refine go ?_;refine st hF 3 rfl fun s26 hF=>?_;refine go ?_;refine st hF 1 rfl fun s27 hF=>?_;refine go ?_;refine st hF 0 rfl fun s28 hF=>?_;refine go ?_;have e:=pur H;subst e;exact rt _
 ·intro Ge L0 a0 a1 r H;intro ss;refine hdh mixed Tryz.func163 (rs:=[.cell 6 42,.tmp 7,.tmp 8]) fun q tT hF hX=>?_;refine go ?_;refine X8 hF rfl fun b1 ss2 hF=>?_;refine go ?_;refine X8 hF rfl fun b3 ss4 hF=>?_;have hF:=hF.lit 136 11 (rws ZD []) rfl;refine go ?_;obtain ⟨o21,ho21,H⟩:=bnd H;refine L0 a1 a0.binds a0.macs a0.scope a0.id a0.steps [] 0 _ ho21 _ rfl _ _ b1 b3 ?_ ?_ _ _ (.sl true (rws ZD [])) S hF
  ·intro N0 N1 N2 N3 N4 Cj he T23 s24 e22v0 tT hF;have he:=he.symm;subst he
   try dsimp only at H
   refine go ?_;refine st hF 0 rfl fun s26 hF=>?_;refine go ?_;have e:=pur H;subst e;exact rt _
  ·intro r hr s' hs;subst hr;have e:=pur H;subst e;exact hsq hs
 ·intro YN Ge C0 L0 a1 Yj Yk Yi Yl Ym X6 YU out H c hc Q tt b1 b3 hE hR T ss z0v0 tT hF;refine lpx tt hc rfl fun q hX=>go ?_;refine cdp H (fun h H=>?_) (fun h H=>?_)
  ·refine go ?_;obtain ⟨E,hEq⟩:∃E,E=EE ss []:=⟨_,rfl⟩
   have n5:¬E b3:=by rw [hEq];exact K3 (hF.at 0 rfl) (by simp)
   have n6:¬E b1:=by rw [hEq];exact K3 (hF.at 1 rfl) (by simp)
   refine Yf E [.v,.v,.v,.v,.v,.v,.v,.v,.v,.v,.v,.x,.x,.x,.x,.v] (by kernel_rfl) ?_;obtain ⟨x25,f1,H⟩:=bil (g:=KW) Fm.X5 H;have z:=K0 (X4 (hF.at 0 rfl) n5) (X4 (hF.at 1 rfl) n6);refine gh1 ?_;refine bp H (C0 (KS Yj Yk Yi Yl Ym) x25) fun x28 h H=>cv h ?_;have z:=K0 (X4 (hF.at 0 rfl) n5) (X4 (hF.at 1 rfl) n6);refine gh ?_;refine Hd hF rfl fun b7 s8 nw9 mo10 hF=>?_;have z:=K0 (X4 (hF.at 1 rfl) n5) (X4 (hF.at 2 rfl) n6);refine gh ?_;refine Hd hF rfl fun b11 s12 nw13 mo14 hF=>?_;have z:=K0 (X4 (hF.at 2 rfl) n5) (X4 (hF.at 3 rfl) n6);refine gh ?_;refine stK hF 1 (show E _ from ((em0 hEq) _ nw9)) rfl fun s15 hF=>?_;have z:=K0 (X4 (hF.at 2 rfl) n5) (X4 (hF.at 3 rfl) n6);refine gh ?_;refine stK hF 0 (show E _ from ((fun x h=>(em0 hEq) x (mo10 x h)) _ nw13)) rfl fun s16 hF=>?_;have z:=K0 (X4 (hF.at 2 rfl) n5) (X4 (hF.at 3 rfl) n6);refine gh ?_;refine go ?_;refine st hF 3 rfl fun s17 hF=>?_;refine go ?_;refine cdn H (fun h H=>?_) (fun h H=>?_)
   ·refine go ?_;refine st hF 2 rfl fun s18 hF=>?_;refine go ?_;exact wq (hR _ (pur H).symm _ (rt _))
   ·refine go ?_;refine apd (g:=ZD) hF 0 H (rdo (c:=true) (g:=ZD) Cor.X5) fun x41 H v19 s20 hF=>?_;refine go ?_;exact L0 a1 x28.1.binds x28.1.macs x28.1.scope x28.1.id x28.1.steps x41 (i64.wrap (YU+1)) _ H _ rfl Q tt b1 b3 hE hR _ _ v19 S (hF.drop 2 0)
  ·refine go ?_;exact wq (hE _ _ _ _ _ _ (pur H).symm _ _ z0v0 S hF)
 ·intro YN C0 a0 a1 a2 r H;intro ss;refine hdh mixed Tryz.func162 (rs:=[.cell 8 42,.cell 9 136,.tmp 10]) fun q tT hF hX=>?_;refine go ?_;refine X8 hF rfl fun b1 ss2 hF=>?_;refine go ?_;refine X8 hF rfl fun b3 ss4 hF=>?_;refine go ?_;refine X8 hF rfl fun b5 ss6 hF=>?_;refine go ?_;refine X8 hF rfl fun b7 s8 hF=>?_;refine go ?_;refine bp H (BH a0 a1 a2 fx0) fun x18 h H=>cl h ?_;refine go ?_;refine X8 hF rfl fun b9 s10 hF=>?_;refine go ?_;refine st hF 4 rfl fun s11 hF=>?_;refine go ?_;refine st hF 0 rfl fun s12 hF=>?_;refine go ?_;refine cdn H (fun h H=>?_) (fun h H=>?_)
  ·refine go ?_;refine st hF 2 rfl fun s13 hF=>?_;refine go ?_;refine st hF 1 rfl fun s14 hF=>?_;refine go ?_;have e:=pur H;subst e;exact rt _
  ·refine go ?_;refine bp H (C0 x18.1 x18.2.1) fun x30 h H=>cl h ?_;refine go ?_;refine st hF 2 rfl fun s15 hF=>?_;refine go ?_;refine st hF 1 rfl fun s16 hF=>?_;refine go ?_;have e:=pur H;subst e;exact rt _
 ·intro GR Gf Ho C2 C4 C3 a0 a1 a2 r H;intro ss;refine hdh mixed Tryz.func161 (rs:=[.cell 8 42,.cell 9 136,.tmp 10]) fun q tT hF hX=>?_;refine go ?_;refine X8 hF rfl fun b1 ss2 hF=>?_;refine go ?_;refine X8 hF rfl fun b3 ss4 hF=>?_;refine go ?_;refine X8 hF rfl fun b5 ss6 hF=>?_;refine go ?_;refine X8 hF rfl fun b7 s8 hF=>?_;refine go ?_;obtain ⟨x29,g9,H⟩:=bnd H;refine Ya 4 25 29 (.bool x29) (gi q (fun q=>?_) (fun q=>?_)) (fun J=>?_)
  ·refine go ?_;exact Yt 25 g9
  ·refine go ?_;exact Yt 25 g9
  refine go ?_;refine cdb H (fun h H=>?_) (fun h H=>?_)
  ·refine go ?_;obtain ⟨E,hEq⟩:∃E,E=EE s8 [b5,b7]:=⟨_,rfl⟩
   have n11:¬E b3:=by rw [hEq];exact K3 (hF.at 2 rfl) (nm2 ⟨neL hF 2 1 rfl rfl (by decide),neL hF 2 0 rfl rfl (by decide)⟩)
   have n12:¬E b1:=by rw [hEq];exact K3 (hF.at 3 rfl) (nm2 ⟨neL hF 3 1 rfl rfl (by decide),neL hF 3 0 rfl rfl (by decide)⟩)
   refine Yf E [.v,.v,.v,.v,.v,.v,.v,.x,.x,.v] (by kernel_rfl) ?_;obtain ⟨x33,f1,H⟩:=bil (g:=KW) Fm.X5 H;have z:=K0 (X4 (hF.at 2 rfl) n11) (X4 (hF.at 3 rfl) n12);refine gh1 ?_;refine bp H (BP x33) fun x35 h H=>cv h ?_;have z:=K0 (X4 (hF.at 2 rfl) n11) (X4 (hF.at 3 rfl) n12);refine gh ?_;refine stK hF 1 (by rw [hEq];exact Zc (by simp)) rfl fun s13 hF=>?_;have z:=K0 (X4 (hF.at 2 rfl) n11) (X4 (hF.at 3 rfl) n12);refine gh ?_;refine stK hF 0 (by rw [hEq];exact Zc (by simp)) rfl fun s14 hF=>?_;have z:=K0 (X4 (hF.at 2 rfl) n11) (X4 (hF.at 3 rfl) n12);refine gh ?_;refine go ?_;have e:=pur H;subst e;exact rt [.agg [sf KY a0.binds,sf Zb a0.macs,i6 a0.scope,i6 a0.id,i6 a0.steps],.agg [i6 4,i6 0,.str zB,i6 0,.Yb,i6 x35.kind,.str x35.name,i6 x35.num,sf cI x35.sc,sf KW x35.kids,.Yb],i6 0]
  ·refine go ?_;obtain ⟨x45,g15,H⟩:=bnd H;refine Ya 4 41 45 (.bool x45) (gi q (fun q=>?_) (fun q=>?_)) (fun J=>?_)
   ·refine go ?_;exact Yt 41 g15
   ·refine go ?_;exact Yt 41 g15
   refine go ?_;refine cdb H (fun h H=>?_) (fun h H=>?_)
   ·refine go ?_;obtain ⟨E,hEq⟩:∃E,E=EE s8 []:=⟨_,rfl⟩
    have n17:¬E b7:=by rw [hEq];exact K3 (hF.at 0 rfl) (by simp)
    have n18:¬E b5:=by rw [hEq];exact K3 (hF.at 1 rfl) (by simp)
    have n19:¬E b3:=by rw [hEq];exact K3 (hF.at 2 rfl) (by simp)
    have n20:¬E b1:=by rw [hEq];exact K3 (hF.at 3 rfl) (by simp)
    refine Yf E [.v,.v,.v,.v,.v,.v,.v,.v,.v,.v,.x,.x,.v,.v] (by kernel_rfl) ?_;obtain ⟨x50,f1,H⟩:=bls (g:=KW) Fm.X5 (lo:=some (i6 1)) (hi:=none) rfl rfl H;have z:=K0 (X4 (hF.at 0 rfl) n17) (K0 (X4 (hF.at 1 rfl) n18) (K0 (X4 (hF.at 2 rfl) n19) (X4 (hF.at 3 rfl) n20)));refine gh1 ?_;refine bp H (C2 a0 x50) fun x52 h H=>cv h ?_;have z:=K0 (X4 (hF.at 0 rfl) n17) (K0 (X4 (hF.at 1 rfl) n18) (K0 (X4 (hF.at 2 rfl) n19) (X4 (hF.at 3 rfl) n20)));refine gh ?_;refine Hd hF rfl fun b21 s22 nw23 mo24 hF=>?_;have z:=K0 (X4 (hF.at 1 rfl) n17) (K0 (X4 (hF.at 2 rfl) n18) (K0 (X4 (hF.at 3 rfl) n19) (X4 (hF.at 4 rfl) n20)));refine gh ?_;refine stK hF 0 (show E _ from ((em0 hEq) _ nw23)) rfl fun s25 hF=>?_;have z:=K0 (X4 (hF.at 1 rfl) n17) (K0 (X4 (hF.at 2 rfl) n18) (K0 (X4 (hF.at 3 rfl) n19) (X4 (hF.at 4 rfl) n20)));refine gh ?_;refine go ?_;refine st hF 2 rfl fun s26 hF=>?_;refine go ?_;refine st hF 1 rfl fun s27 hF=>?_;refine go ?_;have e:=pur H;subst e;exact rt _
   ·refine go ?_;obtain ⟨x68,g28,H⟩:=bnd H;refine Ya 4 64 68 (.bool x68) (gi q (fun q=>?_) (fun q=>?_)) (fun J=>?_)
    ·refine go ?_;exact Yt 64 g28
    ·refine go ?_;exact Yt 64 g28
    refine go ?_;obtain ⟨x76,g30,H⟩:=bnd H;refine Ya 6 70 76 (.bool x76) (gi q (fun q=>?_) (fun q=>?_)) (fun J=>?_)
    ·rw [if_pos (dbt q)] at g30;obtain ⟨x72,f1,g30⟩:=bil (g:=KW) Fm.X5 g30;refine go1 ?_;refine go ?_;exact Yt 70 g30
    ·rw [if_neg (dbf q)] at g30;refine go ?_;exact Yt 70 g30
    refine go ?_;refine cdb H (fun h H=>?_) (fun h H=>?_)
    ·refine go ?_;obtain ⟨E,hEq⟩:∃E,E=EE s8 [b5,b7]:=⟨_,rfl⟩
     have n32:¬E b3:=by rw [hEq];exact K3 (hF.at 2 rfl) (nm2 ⟨neL hF 2 1 rfl rfl (by decide),neL hF 2 0 rfl rfl (by decide)⟩)
     have n33:¬E b1:=by rw [hEq];exact K3 (hF.at 3 rfl) (nm2 ⟨neL hF 3 1 rfl rfl (by decide),neL hF 3 0 rfl rfl (by decide)⟩)
     refine Yf E [.v,.v,.v,.v,.v,.v,.v,.v,.v,.v,.v,.v,.v,.v,.v,.x,.x,.v] (by kernel_rfl) ?_;obtain ⟨x80,f1,H⟩:=bil (g:=KW) Fm.X5 H;obtain ⟨x85,f2,H⟩:=bil (g:=KW) Fm.X5 H;have z:=K0 (X4 (hF.at 2 rfl) n32) (X4 (hF.at 3 rfl) n33);refine gh2 ?_;refine bp H (C3 a0 x80.kids x85) fun x88 h H=>cv h ?_;have z:=K0 (X4 (hF.at 2 rfl) n32) (X4 (hF.at 3 rfl) n33);refine gh ?_;refine stK hF 1 (by rw [hEq];exact Zc (by simp)) rfl fun s34 hF=>?_;have z:=K0 (X4 (hF.at 2 rfl) n32) (X4 (hF.at 3 rfl) n33);refine gh ?_;refine stK hF 0 (by rw [hEq];exact Zc (by simp)) rfl fun s35 hF=>?_;have z:=K0 (X4 (hF.at 2 rfl) n32) (X4 (hF.at 3 rfl) n33);refine gh ?_;refine go ?_;have e:=pur H;subst e;exact rt [.agg [sf KY x88.1.binds,sf Zb x88.1.macs,i6 x88.1.scope,i6 x88.1.id,i6 x88.1.steps],.agg [i6 x88.2.1.kind,i6 x88.2.1.id,.str x88.2.1.name,i6 x88.2.1.num,sf cI x88.2.1.ids,i6 x88.2.1.data.kind,.str x88.2.1.data.name,i6 x88.2.1.data.num,sf cI x88.2.1.data.sc,sf KW x88.2.1.data.kids,sf ZD x88.2.1.kids],i6 x88.2.2]
    ·refine go ?_;obtain ⟨x97,g36,H⟩:=bnd H;refine Ya 2 95 97 (.bool x97) (gi q (fun q=>?_) (fun q=>?_)) (fun J=>?_)
     ·refine go ?_;exact Yt 95 g36
     ·refine go ?_;exact Yt 95 g36
     refine go ?_;obtain ⟨x103,g38,H⟩:=bnd H;refine Ya 4 99 103 (.bool x103) (giN q (fun q=>?_) (fun q=>?_)) (fun J=>?_)
     ·refine go ?_;exact Yt 99 g38
     ·refine go ?_;exact Yt 99 g38
     refine go ?_;refine cdb H (fun h H=>?_) (fun h H=>?_)
     ·refine go ?_;refine st hF 1 rfl fun s40 hF=>?_;refine go ?_;refine st hF 0 rfl fun s41 hF=>?_;refine go ?_;have e:=pur H;subst e;exact rt _
     ·obtain ⟨x109,f1,H⟩:=bil (g:=KW) Fm.X5 H;refine go1 ?_;refine bp H (HM x109) fun x111 h H=>cl h ?_;refine go ?_;refine cdb H (fun h H=>?_) (fun h H=>?_)
      ·refine go ?_;refine st hF 1 rfl fun s42 hF=>?_;refine go ?_;refine st hF 0 rfl fun s43 hF=>?_;refine go ?_;have e:=pur H;subst e;exact rt _
      ·refine go ?_;refine cdp H (fun h H=>?_) (fun h H=>?_)
       ·refine go ?_;obtain ⟨E,hEq⟩:∃E,E=EE s8 [b5,b7]:=⟨_,rfl⟩
        have n44:¬E b3:=by rw [hEq];exact K3 (hF.at 2 rfl) (nm2 ⟨neL hF 2 1 rfl rfl (by decide),neL hF 2 0 rfl rfl (by decide)⟩)
        have n45:¬E b1:=by rw [hEq];exact K3 (hF.at 3 rfl) (nm2 ⟨neL hF 3 1 rfl rfl (by decide),neL hF 3 0 rfl rfl (by decide)⟩)
        refine Yf E [.v,.v,.v,.v,.v,.v,.v,.v,.v,.v,.v,.v,.x,.x,.v] (by kernel_rfl) ?_;obtain ⟨x126,f1,H⟩:=bil (g:=KW) Fm.X5 H;have z:=K0 (X4 (hF.at 2 rfl) n44) (X4 (hF.at 3 rfl) n45);refine gh1 ?_;refine bp H (C4 a0 x111.1 x111.2.1 x126) fun x129 h H=>cv h ?_;have z:=K0 (X4 (hF.at 2 rfl) n44) (X4 (hF.at 3 rfl) n45);refine gh ?_;refine stK hF 1 (by rw [hEq];exact Zc (by simp)) rfl fun s46 hF=>?_;have z:=K0 (X4 (hF.at 2 rfl) n44) (X4 (hF.at 3 rfl) n45);refine gh ?_;refine stK hF 0 (by rw [hEq];exact Zc (by simp)) rfl fun s47 hF=>?_;have z:=K0 (X4 (hF.at 2 rfl) n44) (X4 (hF.at 3 rfl) n45);refine gh ?_;refine go ?_;have e:=pur H;subst e;exact rt [.agg [sf KY x129.1.binds,sf Zb x129.1.macs,i6 x129.1.scope,i6 x129.1.id,i6 x129.1.steps],.agg [i6 x129.2.1.kind,i6 x129.2.1.id,.str x129.2.1.name,i6 x129.2.1.num,sf cI x129.2.1.ids,i6 x129.2.1.data.kind,.str x129.2.1.data.name,i6 x129.2.1.data.num,sf cI x129.2.1.data.sc,sf KW x129.2.1.data.kids,sf ZD x129.2.1.kids],i6 x129.2.2]
       ·refine go ?_;refine bp H (C2 a0 x111.2.1) fun x137 h H=>cl h ?_;refine go ?_;refine st hF 3 rfl fun s48 hF=>?_;refine go ?_;refine cdn H (fun h H=>?_) (fun h H=>?_)
        ·refine go ?_;refine st hF 1 rfl fun s49 hF=>?_;refine go ?_;refine st hF 0 rfl fun s50 hF=>?_;refine go ?_;have e:=pur H;subst e;exact rt _
        ·refine go ?_;obtain ⟨E,hEq⟩:∃E,E=EE s48 [b1]:=⟨_,rfl⟩
         have n51:¬E b7:=by rw [hEq];exact K3 (hF.at 0 rfl) (nm1 (neL hF 0 3 rfl rfl (by decide)))
         have n52:¬E b5:=by rw [hEq];exact K3 (hF.at 1 rfl) (nm1 (neL hF 1 3 rfl rfl (by decide)))
         have n53:¬E b3:=by rw [hEq];exact K3 (hF.at 2 rfl) (nm1 (neL hF 2 3 rfl rfl (by decide)))
         refine Le E [.v,.v,.v,.v,.v,.v,.x,.v,.v,.v,.v,.v,.x,.x,.x,.v] [1,2,3,4,5,6,0,7,8,9,10,11,12,13,14,15] (by kernel_rfl) ?_;obtain ⟨x151,f1,H⟩:=bil (g:=KW) Fm.X5 H;have z:=K0 (X4 (hF.at 0 rfl) n51) (K0 (X4 (hF.at 1 rfl) n52) (X4 (hF.at 2 rfl) n53));refine gh1 ?_;refine bp H (C3 x137.1 x111.1 x151) fun x154 h H=>cv h ?_;have z:=K0 (X4 (hF.at 0 rfl) n51) (K0 (X4 (hF.at 1 rfl) n52) (X4 (hF.at 2 rfl) n53));refine gh ?_;refine Hd hF rfl fun b54 s55 nw56 mo57 hF=>?_;have z:=K0 (X4 (hF.at 1 rfl) n51) (K0 (X4 (hF.at 2 rfl) n52) (X4 (hF.at 3 rfl) n53));refine gh ?_;refine stK hF 4 (by rw [hEq];exact Zc (by simp)) rfl fun s58 hF=>?_;have z:=K0 (X4 (hF.at 1 rfl) n51) (K0 (X4 (hF.at 2 rfl) n52) (X4 (hF.at 3 rfl) n53));refine gh ?_;refine stK hF 0 (show E _ from ((em0 hEq) _ nw56)) rfl fun s59 hF=>?_;have z:=K0 (X4 (hF.at 1 rfl) n51) (K0 (X4 (hF.at 2 rfl) n52) (X4 (hF.at 3 rfl) n53));refine gh ?_;refine go ?_;obtain ⟨E,hEq⟩:∃E,E=EE s59 [b5,b7]:=⟨_,rfl⟩
         have n60:¬E b54:=by rw [hEq];exact K3 (hF.at 0 rfl) (nm2 ⟨neL hF 0 2 rfl rfl (by decide),neL hF 0 1 rfl rfl (by decide)⟩)
         have n61:¬E b3:=by rw [hEq];exact K3 (hF.at 3 rfl) (nm2 ⟨neL hF 3 2 rfl rfl (by decide),neL hF 3 1 rfl rfl (by decide)⟩)
         have n62:¬E b1:=by rw [hEq];exact K3 (hF.at 4 rfl) (nm2 ⟨neL hF 4 2 rfl rfl (by decide),neL hF 4 1 rfl rfl (by decide)⟩)
         refine Yf E [.v,.v,.v,.v,.v,.v,.v,.x,.x,.v] (by kernel_rfl) ?_;have z:=K0 (X4 (hF.at 0 rfl) n60) (K0 (X4 (hF.at 3 rfl) n61) (X4 (hF.at 4 rfl) n62));refine gh ?_;obtain ⟨x162,hx162,H⟩:=bnd H;refine Mu (g:=ZD) (xs:=[x154.2.1]) (ys:=x137.2.1) Cor.X5 (by decide) (by decide) (.inr (by first | rfl | simp only [sf,i6,zB,Y8,Vu,cI,cU,cS,cL,Cor.X9,Fm.X9])) (.inr ⟨_,by first | rfl | simp only [sf,i6,zB,Y8,Vu,cI,cU,cS,cL,Cor.X9,Fm.X9]⟩) hx162 ?_;have z:=K0 (X4 (hF.at 0 rfl) n60) (K0 (X4 (hF.at 3 rfl) n61) (X4 (hF.at 4 rfl) n62));refine gh ?_;refine stK hF 2 (by rw [hEq];exact Zc (by simp)) rfl fun s63 hF=>?_;have z:=K0 (X4 (hF.at 0 rfl) n60) (K0 (X4 (hF.at 3 rfl) n61) (X4 (hF.at 4 rfl) n62));refine gh ?_;refine stK hF 1 (by rw [hEq];exact Zc (by simp)) rfl fun s64 hF=>?_;have z:=K0 (X4 (hF.at 0 rfl) n60) (K0 (X4 (hF.at 3 rfl) n61) (X4 (hF.at 4 rfl) n62));refine gh ?_;refine go ?_;have e:=pur H;subst e;exact rt [.agg [sf KY x154.1.binds,sf Zb x154.1.macs,i6 x154.1.scope,i6 x154.1.id,i6 x154.1.steps],.agg [i6 6,i6 0,.str zB,i6 0,.Yb,i6 0,.str zB,i6 0,.Yb,.Yb,sf ZD x162],i6 x154.2.2]
 ·intro YN C0 a0 a1 a2 a3 r H;intro ss;refine hdh mixed Tryz.func181 (rs:=[.cell 10 42,.cell 11 136,.tmp 12]) fun q tT hF hX=>?_;refine go ?_;refine X8 hF rfl fun b1 ss2 hF=>?_;refine go ?_;refine X8 hF rfl fun b3 ss4 hF=>?_;refine go ?_;refine X8 hF rfl fun b5 ss6 hF=>?_;refine go ?_;refine X8 hF rfl fun b7 s8 hF=>?_;refine go ?_;refine bp H (A3 a0) fun x25 h H=>cl h ?_;refine go ?_;refine st hF 3 rfl fun s9 hF=>?_;refine go ?_;refine cdb H (fun h H=>?_) (fun h H=>?_)
  ·refine go ?_;refine st hF 1 rfl fun s10 hF=>?_;refine go ?_;refine st hF 0 rfl fun s11 hF=>?_;refine go ?_;have e:=pur H;subst e;exact rt _
  ·refine go ?_;obtain ⟨o37,ho37,H⟩:=bnd H;refine DW a1 a2 a3 fx0 x25.1.binds x25.1.macs x25.1.scope x25.1.id x25.1.steps 0 _ ho37 _ rfl _ _ b1 b3 b5 b7 ?_ ?_ _ _  S hF
   ·intro D2 D3 BZ D4 D5 he T39 s40 tT hF;have he:=he.symm;subst he
    try dsimp only at H
    refine go ?_;refine bp H (Y7 a3 BZ 0) fun x107 h H=>cl h ?_;refine go ?_;refine X8 hF rfl fun b42 s43 hF=>?_;refine go ?_;refine st hF 0 rfl fun s44 hF=>?_;refine go ?_;refine bp H (Yz x107) fun x109 h H=>cl h ?_;refine go ?_;refine cdb H (fun h H=>?_) (fun h H=>?_)
    ·refine go ?_;refine st hF 2 rfl fun s45 hF=>?_;refine go ?_;refine st hF 1 rfl fun s46 hF=>?_;refine go ?_;have e:=pur H;subst e;exact rt _
    ·refine go ?_;refine bp H (C0 (KS D2 D3 BZ D4 D5) x107) fun x116 h H=>cl h ?_;refine go ?_;refine st hF 2 rfl fun s47 hF=>?_;refine go ?_;refine st hF 1 rfl fun s48 hF=>?_;refine go ?_;have e:=pur H;subst e;exact rt _
   ·intro r hr s' hs;subst hr;have e:=pur H;subst e;exact hsq hs
 ·intro YN C0 a0 a1 a2 r H;intro ss;refine hdh mixed Tryz.func187 (rs:=[.cell 8 42,.cell 9 136,.tmp 10]) fun q tT hF hX=>?_;refine go ?_;refine X8 hF rfl fun b1 ss2 hF=>?_;refine go ?_;refine X8 hF rfl fun b3 ss4 hF=>?_;refine go ?_;refine X8 hF rfl fun b5 ss6 hF=>?_;refine go ?_;refine X8 hF rfl fun b7 s8 hF=>?_;refine go ?_;refine bp H (A3 a0) fun x22 h H=>cl h ?_;refine go ?_;refine st hF 3 rfl fun s9 hF=>?_;refine go ?_;refine cdb H (fun h H=>?_) (fun h H=>?_)
  ·refine go ?_;refine st hF 1 rfl fun s10 hF=>?_;refine go ?_;refine st hF 0 rfl fun s11 hF=>?_;refine go ?_;have e:=pur H;subst e;exact rt _
  ·refine go ?_;refine X8 hF rfl fun b12 s13 hF=>?_;refine go ?_;refine st hF 0 rfl fun s14 hF=>?_;have hF:=hF.nil 3 1;refine go ?_;obtain ⟨o31,ho31,H⟩:=bnd H;refine La a1 a2 fx0 x22.1.binds x22.1.macs x22.1.scope x22.1.id x22.1.steps [] 0 _ ho31 _ rfl _ _ b1 b3 b5 b7 b12 ?_ ?_ _ _ .Yb S hF
   ·intro HQ HR G0 HT HU CB he T33 s34 e32v0 tT hF;have he:=he.symm;subst he
    try dsimp only at H
    refine go ?_;refine bp H (Y7 a2 G0 0) fun x78 h H=>cl h ?_;refine go ?_;refine X8 hF rfl fun b36 s37 hF=>?_;refine go ?_;refine st hF 0 rfl fun s38 hF=>?_;refine go ?_;refine bp H (Yz x78) fun x80 h H=>cl h ?_;refine go ?_;refine cdb H (fun h H=>?_) (fun h H=>?_)
    ·refine go ?_;refine st hF 3 rfl fun s39 hF=>?_;refine go ?_;refine st hF 2 rfl fun s40 hF=>?_;refine go ?_;have e:=pur H;subst e;exact rt _
    ·refine go ?_;refine bp H (C0 (KS HQ HR G0 HT HU) x78) fun x88 h H=>cl h ?_;refine go ?_;refine X8 hF rfl fun b41 s42 hF=>?_;refine go ?_;refine st hF 6 rfl fun s43 hF=>?_;refine go ?_;refine st hF 0 rfl fun s44 hF=>?_;refine go ?_;refine st hF 2 rfl fun s45 hF=>?_;refine go ?_;obtain ⟨E,hEq⟩:∃E,E=EE s45 [b5,b7]:=⟨_,rfl⟩
     have n46:¬E b41:=by rw [hEq];exact K3 (hF.at 0 rfl) (nm2 ⟨neL hF 0 4 rfl rfl (by decide),neL hF 0 3 rfl rfl (by decide)⟩)
     have n47:¬E b36:=by rw [hEq];exact K3 (hF.at 1 rfl) (nm2 ⟨neL hF 1 4 rfl rfl (by decide),neL hF 1 3 rfl rfl (by decide)⟩)
     have n48:¬E b12:=by rw [hEq];exact K3 (hF.at 2 rfl) (nm2 ⟨neL hF 2 4 rfl rfl (by decide),neL hF 2 3 rfl rfl (by decide)⟩)
     have n49:¬E b3:=by rw [hEq];exact K3 (hF.at 5 rfl) (nm2 ⟨neL hF 5 4 rfl rfl (by decide),neL hF 5 3 rfl rfl (by decide)⟩)
     have n50:¬E b1:=by rw [hEq];exact K3 (hF.at 6 rfl) (nm2 ⟨neL hF 6 4 rfl rfl (by decide),neL hF 6 3 rfl rfl (by decide)⟩)
     refine Yf E [.v,.v,.v,.x,.x,.v] (by kernel_rfl) ?_;have z:=K0 (X4 (hF.at 0 rfl) n46) (K0 (X4 (hF.at 1 rfl) n47) (K0 (X4 (hF.at 2 rfl) n48) (K0 (X4 (hF.at 5 rfl) n49) (X4 (hF.at 6 rfl) n50))));refine gh ?_;refine stK hF 4 (by rw [hEq];exact Zc (by simp)) rfl fun s51 hF=>?_;have z:=K0 (X4 (hF.at 0 rfl) n46) (K0 (X4 (hF.at 1 rfl) n47) (K0 (X4 (hF.at 2 rfl) n48) (K0 (X4 (hF.at 5 rfl) n49) (X4 (hF.at 6 rfl) n50))));refine gh ?_;refine stK hF 3 (by rw [hEq];exact Zc (by simp)) rfl fun s52 hF=>?_;have z:=K0 (X4 (hF.at 0 rfl) n46) (K0 (X4 (hF.at 1 rfl) n47) (K0 (X4 (hF.at 2 rfl) n48) (K0 (X4 (hF.at 5 rfl) n49) (X4 (hF.at 6 rfl) n50))));refine gh ?_;refine go ?_;have e:=pur H;subst e;exact rt [.agg [sf KY x88.1.binds,sf Zb x88.1.macs,i6 x88.1.scope,i6 x88.1.id,i6 x88.1.steps],.agg [i6 5,i6 0,.str zB,i6 0,e32v0,i6 0,.str zB,i6 0,.Yb,.Yb,.sl true (rws ZD [x88.2.1])],i6 x88.2.2]
   ·intro r hr s' hs;subst hr;have e:=pur H;subst e;exact hsq hs
theorem Ar:∀(a0:Xpn) (a1:Fm) (a2:Int) r,YN a0 a1 a2=some r->Vm KX 143 [.agg (K5 a0),.agg (KW a1),i6 a2] (.tup [.agg (K5 r.1),.agg (ZD r.2.1),i6 r.2.2]):=fun a0 a1 a2=>(H2 a2).1 a0 a1
theorem Dz:∀(a0:Xpn) (a1:Fm) (a2 a3:Int) r,Jh a0 a1 a2 a3=some r->Vm KX 161 [.agg (K5 a0),.agg (KW a1),i6 a2,i6 a3] (.tup [.agg (K5 r.1),.agg (ZD r.2.1),i6 r.2.2]):=fun a0 a1 a2 a3=>(H2 a3).2.1 a0 a1 a2
theorem Em:∀(a0:Xpn) (a1:List Fm) (a2:Fm) (a3:Int) r,Ho a0 a1 a2 a3=some r->Vm KX 187 [.agg (K5 a0),sf KW a1,.agg (KW a2),i6 a3] (.tup [.agg (K5 r.1),.agg (ZD r.2.1),i6 r.2.2]):=fun a0 a1 a2 a3=>(H2 a3).2.2.2.1 a0 a1 a2
theorem Co:∀(a0:Xpn) (a1 a2:List Fm) (a3:Fm) (a4:Int) r,Gf a0 a1 a2 a3 a4=some r->Vm KX 181 [.agg (K5 a0),sf KW a1,sf KW a2,.agg (KW a3),i6 a4] (.tup [.agg (K5 r.1),.agg (ZD r.2.1),i6 r.2.2]):=fun a0 a1 a2 a3 a4=>(H2 a4).2.2.2.2.1 a0 a1 a2 a3
theorem Ds:∀(a0:Int) r,I3 a0=some r->Vm KX 183 [i6 a0] (i6 r):=by
 intro a0 r H;intro ss;unfold I3 at H;refine hdh mixed Tryz.func183 (rs:=[.tmp 2]) fun q tT hF hX=>?_;refine go ?_;refine cdp H (fun h H=>?_) (fun h H=>?_)
 ·refine go ?_;have e:=pur H;subst e;exact rt _
 ·refine go ?_;have e:=pur H;subst e;exact rt _
theorem Bn (fx0:Int):(∀(a0:Xpn) (a1:List Fm) (a3:List Stp) r,Y3 a0 a1 fx0 a3=some r->∀  (p3:AV) (ss:Sto),Pre ss [] [⟨p3,28,13,rws ZC a3⟩]->Ctr KX 156 [.agg (K5 a0),sf KW a1,i6 fx0,p3] ss (fun r' ss'=>∃(tt':Sto) (w1:AV),r'=.tup [.agg (K5 r.1),w1,i6 r.2.2]/\Tau (strip ss [⟨p3,28,13,rws ZC a3⟩]) [] tt'/\Fx tt' ss' [] [⟨w1,28,13,rws ZC r.2.1⟩]))/\(∀(a0:Xpn) (a1:Fm) (a3:List Stp) r,Yx a0 a1 fx0 a3=some r->∀  (p3:AV) (ss:Sto),Pre ss [] [⟨p3,28,13,rws ZC a3⟩]->Ctr KX 130 [.agg (K5 a0),.agg (KW a1),i6 fx0,p3] ss (fun r' ss'=>∃(tt':Sto) (w1:AV),r'=.tup [.agg (K5 r.1),w1,i6 r.2.2]/\Tau (strip ss [⟨p3,28,13,rws ZC a3⟩]) [] tt'/\Fx tt' ss' [] [⟨w1,28,13,rws ZC r.2.1⟩]))/\(∀(a0:Xpn) (a1:Fm) (a2:Int) (a4:List Stp) r,Hz a0 a1 a2 fx0 a4=some r->∀  (p4:AV) (ss:Sto),Pre ss [] [⟨p4,28,13,rws ZC a4⟩]->Ctr KX 154 [.agg (K5 a0),.agg (KW a1),i6 a2,i6 fx0,p4] ss (fun r' ss'=>∃(tt':Sto) (w1:AV),r'=.tup [.agg (K5 r.1),w1,i6 r.2.2]/\Tau (strip ss [⟨p4,28,13,rws ZC a4⟩]) [] tt'/\Fx tt' ss' [] [⟨w1,28,13,rws ZC r.2.1⟩]))/\(∀(a0:Xpn) (a1:List Fm) (a2:Fm) (a4:List Stp) r,Gk a0 a1 a2 fx0 a4=some r->∀  (p4:AV) (ss:Sto),Pre ss [] [⟨p4,28,13,rws ZC a4⟩]->Ctr KX 179 [.agg (K5 a0),sf KW a1,.agg (KW a2),i6 fx0,p4] ss (fun r' ss'=>∃(tt':Sto) (w1:AV),r'=.tup [.agg (K5 r.1),w1,i6 r.2.2]/\Tau (strip ss [⟨p4,28,13,rws ZC a4⟩]) [] tt'/\Fx tt' ss' [] [⟨w1,28,13,rws ZC r.2.1⟩]))/\(∀(a0:Xpn) (a1:Fm) (a2:Int) (a4:List Stp) r,HA a0 a1 a2 fx0 a4=some r->∀  (p4:AV) (ss:Sto),Pre ss [] [⟨p4,28,13,rws ZC a4⟩]->Ctr KX 155 [.agg (K5 a0),.agg (KW a1),i6 a2,i6 fx0,p4] ss (fun r' ss'=>∃(tt':Sto) (w1:AV),r'=.tup [.agg (K5 r.1),w1,i6 r.2.2]/\Tau (strip ss [⟨p4,28,13,rws ZC a4⟩]) [] tt'/\Fx tt' ss' [] [⟨w1,28,13,rws ZC r.2.1⟩])):=by
 have h:=Y3.mutual_partial_correctness fx0 (motive_1:=fun a0 a1 a3 r=>∀  (p3:AV) (ss:Sto),Pre ss [] [⟨p3,28,13,rws ZC a3⟩]->Ctr KX 156 [.agg (K5 a0),sf KW a1,i6 fx0,p3] ss (fun r' ss'=>∃(tt':Sto) (w1:AV),r'=.tup [.agg (K5 r.1),w1,i6 r.2.2]/\Tau (strip ss [⟨p3,28,13,rws ZC a3⟩]) [] tt'/\Fx tt' ss' [] [⟨w1,28,13,rws ZC r.2.1⟩])) (motive_2:=fun a1 Yj Yk Yi Yl Ym X6 Wc out=>∀c,Yh Tryz.f156 0=some c->∀(Q:QT) (tt0:Sto) (b1 b3:Nat),(∀(IJ:List Bnd) (IK:List Mac) (IL IM IN:Int) (YS:List Stp),out=Sum.inr (IJ,IK,IL,IM,IN,YS)->∀(T:TT) (ss tt:Sto) (e0v0:AV),T 3=e0v0/\T 4=.ptr b1 0/\T 8=.ptr b3 0->Tau tt0 [] tt->Fx tt ss [(b3,⟨42,5,[.Yb,.Yb,i6 0,i6 0,i6 0]⟩),(b1,⟨42,5,[sf KY IJ,sf Zb IK,i6 IL,i6 IM,i6 IN]⟩)] [⟨e0v0,28,13,rws ZC YS⟩]->Q (.ex 0) ⟨T,ss⟩)->(∀r,out=Sum.inl r->∀s',IE KX [.cell 8 42,.tmp 9,.tmp 10] (fun r' ss'=>∃(tt':Sto) (w1:AV),r'=.tup [.agg (K5 r.1),w1,i6 r.2.2]/\Tau tt0 [] tt'/\Fx tt' ss' [] [⟨w1,28,13,rws ZC r.2.1⟩]) s'->Q .ret s')->∀(T:TT) (ss tt:Sto) (z0v0:AV),T 1=sf KW a1/\T 2=i6 fx0/\T 3=z0v0/\T 4=.ptr b1 0/\T 8=.ptr b3 0/\T 11=i6 Wc->Tau tt0 [] tt->Fx tt ss [(b3,⟨42,5,[.Yb,.Yb,i6 0,i6 0,i6 0]⟩),(b1,⟨42,5,[sf KY Yj,sf Zb Yk,i6 Yi,i6 Yl,i6 Ym]⟩)] [⟨z0v0,28,13,rws ZC X6⟩]->aLp KX c Q ⟨T,ss⟩) (motive_3:=fun a0 a1 a3 r=>∀  (p3:AV) (ss:Sto),Pre ss [] [⟨p3,28,13,rws ZC a3⟩]->Ctr KX 130 [.agg (K5 a0),.agg (KW a1),i6 fx0,p3] ss (fun r' ss'=>∃(tt':Sto) (w1:AV),r'=.tup [.agg (K5 r.1),w1,i6 r.2.2]/\Tau (strip ss [⟨p3,28,13,rws ZC a3⟩]) [] tt'/\Fx tt' ss' [] [⟨w1,28,13,rws ZC r.2.1⟩])) (motive_4:=fun a0 a1 a2 a4 r=>∀  (p4:AV) (ss:Sto),Pre ss [] [⟨p4,28,13,rws ZC a4⟩]->Ctr KX 155 [.agg (K5 a0),.agg (KW a1),i6 a2,i6 fx0,p4] ss (fun r' ss'=>∃(tt':Sto) (w1:AV),r'=.tup [.agg (K5 r.1),w1,i6 r.2.2]/\Tau (strip ss [⟨p4,28,13,rws ZC a4⟩]) [] tt'/\Fx tt' ss' [] [⟨w1,28,13,rws ZC r.2.1⟩])) (motive_5:=fun a0 a1 a2 a4 r=>∀  (p4:AV) (ss:Sto),Pre ss [] [⟨p4,28,13,rws ZC a4⟩]->Ctr KX 154 [.agg (K5 a0),.agg (KW a1),i6 a2,i6 fx0,p4] ss (fun r' ss'=>∃(tt':Sto) (w1:AV),r'=.tup [.agg (K5 r.1),w1,i6 r.2.2]/\Tau (strip ss [⟨p4,28,13,rws ZC a4⟩]) [] tt'/\Fx tt' ss' [] [⟨w1,28,13,rws ZC r.2.1⟩])) (motive_6:=fun a0 a1 a2 a4 r=>∀  (p4:AV) (ss:Sto),Pre ss [] [⟨p4,28,13,rws ZC a4⟩]->Ctr KX 179 [.agg (K5 a0),sf KW a1,.agg (KW a2),i6 fx0,p4] ss (fun r' ss'=>∃(tt':Sto) (w1:AV),r'=.tup [.agg (K5 r.1),w1,i6 r.2.2]/\Tau (strip ss [⟨p4,28,13,rws ZC a4⟩]) [] tt'/\Fx tt' ss' [] [⟨w1,28,13,rws ZC r.2.1⟩])) ?s0 ?s1 ?s2 ?s3 ?s4 ?s5
 ·exact ⟨h.1,h.2.2.1,h.2.2.2.2.1,h.2.2.2.2.2,h.2.2.2.1⟩
 ·intro V6 L0 a0 a1 a3 r H;intro  p3 ss hP;refine hdg mixed Tryz.func156 (rs:=[.cell 8 42,.tmp 9,.tmp 10]) fun q tT=>?_;obtain ⟨hF,hX⟩:=hP.start;generalize strip ss [⟨p3,28,13,rws ZC a3⟩]=tt0 at hF hX ⊢;refine go ?_;refine X8 hF rfl fun b1 ss2 hF=>?_;refine go ?_;refine X8 hF rfl fun b3 ss4 hF=>?_;refine go ?_;obtain ⟨o31,ho31,H⟩:=bnd H;refine L0 a1 a0.binds a0.macs a0.scope a0.id a0.steps a3 0 _ ho31 _ rfl _ tt0 b1 b3 ?_ ?_ _ _ _ p3 S hX hF
  ·intro HQ HR G0 HT HU CB he T33 s34 t35 e32v0 tT hX hF;have he:=he.symm;subst he
   try dsimp only at H
   refine go ?_;refine st hF 0 rfl fun s36 hF=>?_;refine go ?_;have e:=pur H;subst e;exact rg _ ⟨_,_,rfl,hX,hF.pick [] [0] (by decide) (by decide)⟩
  ·intro r hr s' hs;subst hr;have e:=pur H;subst e;exact hsq hs
 ·intro V6 Yx L0 C1 a1 Yj Yk Yi Yl Ym X6 Wc out H c hc Q tt0 b1 b3 hE hR T ss tt z0v0 tT hX hF;refine lpy hc rfl fun q=>go ?_;refine cdp H (fun h H=>?_) (fun h H=>?_)
  ·refine go ?_;obtain ⟨E,hEq⟩:∃E,E=EE ss []:=⟨_,rfl⟩
   have n5:¬E b3:=by rw [hEq];exact K3 (hF.at 0 rfl) (by simp)
   have n6:¬E b1:=by rw [hEq];exact K3 (hF.at 1 rfl) (by simp)
   refine Ld E [.v,.v,.v,.v,.v,.v,.v] [0,1,2,3,4,5,6] 7 12 [.v,.v,.v,.v] [8,9,10,11] [.x,.v,.v] [13,14,15] (by kernel_rfl) ?_;obtain ⟨x25,f1,H⟩:=bil (g:=KW) Fm.X5 H;have z:=K0 (X4 (hF.at 0 rfl) n5) (X4 (hF.at 1 rfl) n6);refine gh1 ?_;refine ⟨?_,?_⟩
   ·have z:=K0 (X4 (hF.at 0 rfl) n5) (X4 (hF.at 1 rfl) n6);refine gh ?_;obtain ⟨x29,hx29,H⟩:=bnd H;refine cx (C1 (KS Yj Yk Yi Yl Ym) x25 X6 _ hx29  z0v0 _ (pre 0 0 1 hF hX)) ?_;rintro _ s8 ⟨t9,v7,rfl,hT,hG⟩
    refine V0 (K8 hT hG (by intro p hp;simp only [Kj,KD,or_false] at hp<;>first | (rcases hp with rfl<;>(rw [hEq];first | (refine Zc ?_;simp;done) | exact Zp rfl))| cases hp)) fun kp11=>?_
    obtain ⟨t10,hX,hF⟩:=aft 0 0 1 hF hX hT hG;have z:=K0 (X4 (hF.at 0 rfl) n5) (X4 (hF.at 1 rfl) n6);refine gh ?_;refine Hd hF rfl fun b12 s13 nw14 mo15 hF=>?_;have z:=K0 (X4 (hF.at 1 rfl) n5) (X4 (hF.at 2 rfl) n6);refine gh ?_;refine stK hF 0 (show E _ from ((Rz kp11 (em0 hEq)) _ nw14)) rfl fun s16 hF=>?_;have z:=K0 (X4 (hF.at 1 rfl) n5) (X4 (hF.at 2 rfl) n6);refine gh ?_;refine go ?_;refine st hF 2 rfl fun s17 hF=>?_;refine go ?_;refine cdn H (fun h H=>?_) (fun h H=>?_)
    ·refine go ?_;refine st hF 1 rfl fun s18 hF=>?_;refine go ?_;exact wq (hR _ (pur H).symm _ (rg _ ⟨_,_,rfl,hX,hF.pick [] [0] (by decide) (by decide)⟩))
    ·refine go ?_;exact L0 a1 x29.1.binds x29.1.macs x29.1.scope x29.1.id x29.1.steps x29.2.1 (i64.wrap (Wc+1)) _ H _ rfl Q tt0 b1 b3 hE hR _ _ _ v7 S hX (hF.drop 1 0)
   ·have z:=K0 (X4 (hF.at 0 rfl) n5) (X4 (hF.at 1 rfl) n6);refine gh ?_;refine Hd hF rfl fun b19 s20 nw21 mo22 hF=>?_;have z:=K0 (X4 (hF.at 1 rfl) n5) (X4 (hF.at 2 rfl) n6);refine gh ?_;obtain ⟨x29,hx29,H⟩:=bnd H;refine cx (C1 (KS Yj Yk Yi Yl Ym) x25 X6 _ hx29  z0v0 _ (pre 0 0 1 hF hX)) ?_;rintro _ s24 ⟨t25,v23,rfl,hT,hG⟩
    refine V0 (K8 hT hG (by intro p hp;simp only [Kj,KD,or_false] at hp<;>first | (rcases hp with rfl<;>(rw [hEq];first | (refine Zc ?_;simp;done) | exact Zp rfl))| cases hp)) fun kp27=>?_
    obtain ⟨t26,hX,hF⟩:=aft 0 0 1 hF hX hT hG;have z:=K0 (X4 (hF.at 1 rfl) n5) (X4 (hF.at 2 rfl) n6);refine gh ?_;refine stK hF 0 (show E _ from ((em0 hEq) _ nw21)) rfl fun s28 hF=>?_;have z:=K0 (X4 (hF.at 1 rfl) n5) (X4 (hF.at 2 rfl) n6);refine gh ?_;refine go ?_;refine st hF 2 rfl fun s29 hF=>?_;refine go ?_;refine cdn H (fun h H=>?_) (fun h H=>?_)
    ·refine go ?_;refine st hF 1 rfl fun s30 hF=>?_;refine go ?_;exact wq (hR _ (pur H).symm _ (rg _ ⟨_,_,rfl,hX,hF.pick [] [0] (by decide) (by decide)⟩))
    ·refine go ?_;exact L0 a1 x29.1.binds x29.1.macs x29.1.scope x29.1.id x29.1.steps x29.2.1 (i64.wrap (Wc+1)) _ H _ rfl Q tt0 b1 b3 hE hR _ _ _ v23 S hX (hF.drop 1 0)
  ·refine go ?_;exact wq (hE _ _ _ _ _ _ (pur H).symm _ _ _ z0v0 S hX hF)
 ·intro Y3 HA Hz C0 C4 C2 a0 a1 a3 r H;intro  p3 ss hP;refine hdg mixed Tryz.func130 (rs:=[.cell 8 42,.tmp 9,.tmp 10]) fun q tT=>?_;obtain ⟨hF,hX⟩:=hP.start;generalize strip ss [⟨p3,28,13,rws ZC a3⟩]=tt0 at hF hX ⊢;refine go ?_;refine X8 hF rfl fun b1 ss2 hF=>?_;refine go ?_;refine X8 hF rfl fun b3 ss4 hF=>?_;refine go ?_;refine X8 hF rfl fun b5 ss6 hF=>?_;refine go ?_;obtain ⟨x24,g7,H⟩:=bnd H;refine Ya 4 20 24 (.bool x24) (giN q (fun q=>?_) (fun q=>?_)) (fun J=>?_)
  ·refine go ?_;exact Yt 20 g7
  ·refine go ?_;exact Yt 20 g7
  refine go ?_;refine cdb H (fun h H=>?_) (fun h H=>?_)
  ·refine go ?_;refine bp H (Ar a0 a1 fx0) fun x29 h H=>cl h ?_;refine go ?_;refine X8 hF rfl fun b9 s10 hF=>?_;refine go ?_;refine X8 hF rfl fun b11 s12 hF=>?_;refine go ?_;refine st hF 1 rfl fun s13 hF=>?_;refine go ?_;refine st hF 0 rfl fun s14 hF=>?_;refine go ?_;refine st hF 2 rfl fun s15 hF=>?_;refine go ?_;have e:=pur H;subst e;exact rg _ ⟨_,_,rfl,hX,hF.pick [] [0] (by decide) (by decide)⟩
  ·obtain ⟨x38,f1,H⟩:=bil (g:=KW) Fm.X5 H;refine go1 ?_;refine go ?_;refine cdp H (fun h H=>?_) (fun h H=>?_)
   ·refine go ?_;refine Yf E0 [.v,.v,.v,.v,.v,.v,.v,.v,.v,.v,.v] (by kernel_rfl) ?_;obtain ⟨x46,f1,H⟩:=bil (g:=KW) Fm.X5 H;refine go1 ?_;refine bp H (H3 a0 x46) fun x48 h H=>cv h ?_;refine go ?_;refine cdp H (fun h H=>?_) (fun h H=>?_)
    ·refine go ?_;refine st hF 0 rfl fun s16 hF=>?_;refine go ?_;have e:=pur H;subst e;exact rg _ ⟨_,_,rfl,hX,hF.pick [] [0] (by decide) (by decide)⟩
    ·refine go ?_;refine cdp H (fun h H=>?_) (fun h H=>?_)
     ·refine go ?_;obtain ⟨x63,hx63,H⟩:=bnd H;refine cx (C2 a0 a1 x48.2 a3 _ hx63  p3 _ (pre 0 0 1 hF hX)) ?_;rintro _ s18 ⟨t19,v17,rfl,hT,hG⟩;obtain ⟨t20,hX,hF⟩:=aft 0 0 1 hF hX hT hG;refine go ?_;refine st hF 0 rfl fun s21 hF=>?_;refine go ?_;have e:=pur H;subst e;exact rg _ ⟨_,_,rfl,hX,hF.pick [] [0] (by decide) (by decide)⟩
     ·refine go ?_;refine cdp H (fun h H=>?_) (fun h H=>?_)
      ·refine go ?_;obtain ⟨x74,hx74,H⟩:=bnd H;refine cx (C4 a0 a1 x48.2 a3 _ hx74  p3 _ (pre 0 0 1 hF hX)) ?_;rintro _ s23 ⟨t24,v22,rfl,hT,hG⟩;obtain ⟨t25,hX,hF⟩:=aft 0 0 1 hF hX hT hG;refine go ?_;refine st hF 0 rfl fun s26 hF=>?_;refine go ?_;have e:=pur H;subst e;exact rg _ ⟨_,_,rfl,hX,hF.pick [] [0] (by decide) (by decide)⟩
      ·refine go ?_;obtain ⟨x83,hx83,H⟩:=bnd H;refine cx (C0 a0 a1.kids a3 _ hx83  p3 _ (pre 0 0 1 hF hX)) ?_;rintro _ s28 ⟨t29,v27,rfl,hT,hG⟩;obtain ⟨t30,hX,hF⟩:=aft 0 0 1 hF hX hT hG;refine go ?_;refine st hF 0 rfl fun s31 hF=>?_;refine go ?_;have e:=pur H;subst e;exact rg _ ⟨_,_,rfl,hX,hF.pick [] [0] (by decide) (by decide)⟩
   ·refine go ?_;obtain ⟨Bd,hx83_1,H⟩:=bnd H;refine cx (C0 a0 a1.kids a3 _ hx83_1  p3 _ (pre 0 0 1 hF hX)) ?_;rintro _ s33 ⟨t34,v32,rfl,hT,hG⟩;obtain ⟨t35,hX,hF⟩:=aft 0 0 1 hF hX hT hG;refine go ?_;refine st hF 0 rfl fun s36 hF=>?_;refine go ?_;have e:=pur H;subst e;exact rg _ ⟨_,_,rfl,hX,hF.pick [] [0] (by decide) (by decide)⟩
 ·intro Yx C1 a0 a1 a2 a4 r H;intro  p4 ss hP;refine hdg mixed Tryz.func155 (rs:=[.cell 10 42,.tmp 11,.tmp 12]) fun q tT=>?_;obtain ⟨hF,hX⟩:=hP.start;generalize strip ss [⟨p4,28,13,rws ZC a4⟩]=tt0 at hF hX ⊢;refine go ?_;refine X8 hF rfl fun b1 ss2 hF=>?_;refine go ?_;refine X8 hF rfl fun b3 ss4 hF=>?_;refine go ?_;refine X8 hF rfl fun b5 ss6 hF=>?_;refine go ?_;refine Yf E0 [.v,.v,.v,.v,.v,.v,.v,.x,.z] (by kernel_rfl) ?_;refine go ?_;refine bp H (IX a0 a2) fun x25 h H=>cv h ?_;obtain ⟨x26,f1,H⟩:=bil (g:=Zb) Mac.X5 H;refine go1 ?_;refine WH hF rfl fun b7 s8 hF=>?_;refine go ?_;refine st hF 0 rfl fun s9 hF=>?_;refine go ?_;refine bp H (BH a0 a1 a2 fx0) fun x33 h H=>cl h ?_;refine go ?_;refine X8 hF rfl fun b10 s11 hF=>?_;refine go ?_;refine st hF 4 rfl fun s12 hF=>?_;refine go ?_;refine st hF 0 rfl fun s13 hF=>?_;refine go ?_;refine cdn H (fun h H=>?_) (fun h H=>?_)
  ·refine go ?_;refine st hF 2 rfl fun s14 hF=>?_;refine go ?_;have e:=pur H;subst e;exact rg _ ⟨_,_,rfl,hX,hF.pick [] [0] (by decide) (by decide)⟩
  ·refine go ?_;refine Yf E0 [.v,.v,.v,.v,.v,.v,.v,.v,.v,.v,.v,.v,.v,.v,.v] (by kernel_rfl) ?_;refine go ?_;refine bp H (Y7 a1 x33.1.scope 1) fun x51 h H=>cv h ?_;refine go ?_;refine bp H (HW a0.binds x26.rules x26.lits x51) fun x52 h H=>cv h ?_;refine go ?_;refine apd (g:=ZC) hF 0 H (rdo (c:=true) (g:=ZC) Stp.X5) fun x64 H v15 s16 hF=>?_;refine go ?_;obtain ⟨x69,hx69,H⟩:=bnd H;refine cx (C1 x33.1 x33.2.1 x64 _ hx69  v15 _ (pre 0 0 1 hF hX)) ?_;rintro _ s18 ⟨t19,v17,rfl,hT,hG⟩;obtain ⟨t20,hX,hF⟩:=aft 0 0 1 hF hX hT hG;refine go ?_;refine st hF 2 rfl fun s21 hF=>?_;refine go ?_;have e:=pur H;subst e;exact rg _ ⟨_,_,rfl,hX,hF.pick [] [0] (by decide) (by decide)⟩
 ·intro Y3 Yx Gk C0 C1 C3 a0 a1 a2 a4 r H;intro  p4 ss hP;refine hdg mixed Tryz.func154 (rs:=[.cell 10 42,.tmp 11,.tmp 12]) fun q tT=>?_;obtain ⟨hF,hX⟩:=hP.start;generalize strip ss [⟨p4,28,13,rws ZC a4⟩]=tt0 at hF hX ⊢;refine go ?_;refine X8 hF rfl fun b1 ss2 hF=>?_;refine go ?_;refine X8 hF rfl fun b3 ss4 hF=>?_;refine go ?_;refine X8 hF rfl fun b5 ss6 hF=>?_;refine go ?_;obtain ⟨x37,g7,H⟩:=bnd H;refine Ya 4 33 37 (.bool x37) (gi q (fun q=>?_) (fun q=>?_)) (fun J=>?_)
  ·refine go ?_;exact Yt 33 g7
  ·refine go ?_;exact Yt 33 g7
  refine go ?_;refine cdb H (fun h H=>?_) (fun h H=>?_)
  ·refine go ?_;obtain ⟨E,hEq⟩:∃E,E=EE ss6 [b5]:=⟨_,rfl⟩
   have n9:¬E b3:=by rw [hEq];exact K3 (hF.at 1 rfl) (nm1 (neL hF 1 0 rfl rfl (by decide)))
   have n10:¬E b1:=by rw [hEq];exact K3 (hF.at 2 rfl) (nm1 (neL hF 2 0 rfl rfl (by decide)))
   refine Yf E [.v,.v,.v,.v,.v,.v,.x,.v,.v,.v,.x,.v,.v] (by kernel_rfl) ?_;obtain ⟨x41,f1,H⟩:=bls (g:=KW) Fm.X5 (lo:=some (i6 1)) (hi:=none) rfl rfl H;have z:=K0 (X4 (hF.at 1 rfl) n9) (X4 (hF.at 2 rfl) n10);refine gh1 ?_;obtain ⟨x44,hx44,H⟩:=bnd H;refine cx (C0 a0 x41 a4 _ hx44  p4 _ (pre 0 0 1 hF hX)) ?_;rintro _ s12 ⟨t13,v11,rfl,hT,hG⟩
   refine V0 (K8 hT hG (by intro p hp;simp only [Kj,KD,or_false] at hp<;>first | (rcases hp with rfl<;>(rw [hEq];first | (refine Zc ?_;simp;done) | exact Zp rfl))| cases hp)) fun kp15=>?_
   obtain ⟨t14,hX,hF⟩:=aft 0 0 1 hF hX hT hG;have z:=K0 (X4 (hF.at 1 rfl) n9) (X4 (hF.at 2 rfl) n10);refine gh ?_;refine stK hF 0 (by rw [hEq];exact Zc (by simp)) rfl fun s16 hF=>?_;have z:=K0 (X4 (hF.at 1 rfl) n9) (X4 (hF.at 2 rfl) n10);refine gh ?_;refine go ?_;have e:=pur H;subst e;exact rg [.agg [sf KY x44.1.binds,sf Zb x44.1.macs,i6 x44.1.scope,i6 x44.1.id,i6 x44.1.steps],v11,i6 x44.2.2] ⟨_,_,rfl,hX,hF.pick [] [0] (by decide) (by decide)⟩
  ·refine go ?_;obtain ⟨x56,g17,H⟩:=bnd H;refine Ya 4 52 56 (.bool x56) (gi q (fun q=>?_) (fun q=>?_)) (fun J=>?_)
   ·refine go ?_;exact Yt 52 g17
   ·refine go ?_;exact Yt 52 g17
   refine go ?_;obtain ⟨x64,g19,H⟩:=bnd H;refine Ya 6 58 64 (.bool x64) (gi q (fun q=>?_) (fun q=>?_)) (fun J=>?_)
   ·rw [if_pos (dbt q)] at g19;obtain ⟨x60,f1,g19⟩:=bil (g:=KW) Fm.X5 g19;refine go1 ?_;refine go ?_;exact Yt 58 g19
   ·rw [if_neg (dbf q)] at g19;refine go ?_;exact Yt 58 g19
   refine go ?_;refine cdb H (fun h H=>?_) (fun h H=>?_)
   ·refine go ?_;obtain ⟨E,hEq⟩:∃E,E=EE ss6 [b5]:=⟨_,rfl⟩
    have n21:¬E b3:=by rw [hEq];exact K3 (hF.at 1 rfl) (nm1 (neL hF 1 0 rfl rfl (by decide)))
    have n22:¬E b1:=by rw [hEq];exact K3 (hF.at 2 rfl) (nm1 (neL hF 2 0 rfl rfl (by decide)))
    refine Yf E [.v,.v,.v,.v,.v,.v,.v,.v,.v,.v,.v,.v,.x,.v,.v,.v,.x,.v,.v] (by kernel_rfl) ?_;obtain ⟨x68,f1,H⟩:=bil (g:=KW) Fm.X5 H;obtain ⟨x73,f2,H⟩:=bil (g:=KW) Fm.X5 H;have z:=K0 (X4 (hF.at 1 rfl) n21) (X4 (hF.at 2 rfl) n22);refine gh2 ?_;obtain ⟨x77,hx77,H⟩:=bnd H;refine cx (C3 a0 x68.kids x73 a4 _ hx77  p4 _ (pre 0 0 1 hF hX)) ?_;rintro _ s24 ⟨t25,v23,rfl,hT,hG⟩
    refine V0 (K8 hT hG (by intro p hp;simp only [Kj,KD,or_false] at hp<;>first | (rcases hp with rfl<;>(rw [hEq];first | (refine Zc ?_;simp;done) | exact Zp rfl))| cases hp)) fun kp27=>?_
    obtain ⟨t26,hX,hF⟩:=aft 0 0 1 hF hX hT hG;have z:=K0 (X4 (hF.at 1 rfl) n21) (X4 (hF.at 2 rfl) n22);refine gh ?_;refine stK hF 0 (by rw [hEq];exact Zc (by simp)) rfl fun s28 hF=>?_;have z:=K0 (X4 (hF.at 1 rfl) n21) (X4 (hF.at 2 rfl) n22);refine gh ?_;refine go ?_;have e:=pur H;subst e;exact rg [.agg [sf KY x77.1.binds,sf Zb x77.1.macs,i6 x77.1.scope,i6 x77.1.id,i6 x77.1.steps],v23,i6 x77.2.2] ⟨_,_,rfl,hX,hF.pick [] [0] (by decide) (by decide)⟩
   ·refine go ?_;obtain ⟨x89,g29,H⟩:=bnd H;refine Ya 4 85 89 (.bool x89) (gi q (fun q=>?_) (fun q=>?_)) (fun J=>?_)
    ·refine go ?_;exact Yt 85 g29
    ·refine go ?_;exact Yt 85 g29
    refine go ?_;refine cdb H (fun h H=>?_) (fun h H=>?_)
    ·obtain ⟨x93,f1,H⟩:=bil (g:=KW) Fm.X5 H;refine go1 ?_;refine bp H (HM x93) fun x95 h H=>cl h ?_;refine go ?_;refine cdb H (fun h H=>?_) (fun h H=>?_)
     ·refine go ?_;refine st hF 0 rfl fun s31 hF=>?_;refine go ?_;have e:=pur H;subst e;exact rg _ ⟨_,_,rfl,hX,hF.pick [] [0] (by decide) (by decide)⟩
     ·refine go ?_;obtain ⟨x108,hx108,H⟩:=bnd H;refine cx (C0 a0 x95.2.1 a4 _ hx108  p4 _ (pre 0 0 1 hF hX)) ?_;rintro _ s33 ⟨t34,v32,rfl,hT,hG⟩;obtain ⟨t35,hX,hF⟩:=aft 0 0 1 hF hX hT hG;refine go ?_;refine X8 hF rfl fun b36 s37 hF=>?_;refine go ?_;refine st hF 0 rfl fun s38 hF=>?_;refine go ?_;refine cdn H (fun h H=>?_) (fun h H=>?_)
      ·refine go ?_;refine st hF 1 rfl fun s39 hF=>?_;refine go ?_;have e:=pur H;subst e;exact rg _ ⟨_,_,rfl,hX,hF.pick [] [0] (by decide) (by decide)⟩
      ·refine go ?_;obtain ⟨E,hEq⟩:∃E,E=EE s38 [b5]:=⟨_,rfl⟩
       have n40:¬E b36:=by rw [hEq];exact K3 (hF.at 0 rfl) (nm1 (neL hF 0 1 rfl rfl (by decide)))
       have n41:¬E b3:=by rw [hEq];exact K3 (hF.at 2 rfl) (nm1 (neL hF 2 1 rfl rfl (by decide)))
       have n42:¬E b1:=by rw [hEq];exact K3 (hF.at 3 rfl) (nm1 (neL hF 3 1 rfl rfl (by decide)))
       refine Yf E [.v,.v,.v,.v,.v,.v,.v,.v,.x,.v,.v,.v,.x,.v,.v] (by kernel_rfl) ?_;obtain ⟨x121,f1,H⟩:=bil (g:=KW) Fm.X5 H;have z:=K0 (X4 (hF.at 0 rfl) n40) (K0 (X4 (hF.at 2 rfl) n41) (X4 (hF.at 3 rfl) n42));refine gh1 ?_;obtain ⟨x125,hx125,H⟩:=bnd H;refine cx (C3 x108.1 x95.1 x121 x108.2.1 _ hx125  v32 _ (pre 0 0 1 hF hX)) ?_;rintro _ s44 ⟨t45,v43,rfl,hT,hG⟩
       refine V0 (K8 hT hG (by intro p hp;simp only [Kj,KD,or_false] at hp<;>first | (rcases hp with rfl<;>(rw [hEq];first | (refine Zc ?_;simp;done) | exact Zp rfl))| cases hp)) fun kp47=>?_
       obtain ⟨t46,hX,hF⟩:=aft 0 0 1 hF hX hT hG;have z:=K0 (X4 (hF.at 0 rfl) n40) (K0 (X4 (hF.at 2 rfl) n41) (X4 (hF.at 3 rfl) n42));refine gh ?_;refine stK hF 1 (by rw [hEq];exact Zc (by simp)) rfl fun s48 hF=>?_;have z:=K0 (X4 (hF.at 0 rfl) n40) (K0 (X4 (hF.at 2 rfl) n41) (X4 (hF.at 3 rfl) n42));refine gh ?_;refine go ?_;have e:=pur H;subst e;exact rg [.agg [sf KY x125.1.binds,sf Zb x125.1.macs,i6 x125.1.scope,i6 x125.1.id,i6 x125.1.steps],v43,i6 x125.2.2] ⟨_,_,rfl,hX,hF.pick [] [0] (by decide) (by decide)⟩
    ·refine go ?_;obtain ⟨x137,g49,H⟩:=bnd H;refine Ya 4 133 137 (.bool x137) (gi q (fun q=>?_) (fun q=>?_)) (fun J=>?_)
     ·refine go ?_;exact Yt 133 g49
     ·refine go ?_;exact Yt 133 g49
     refine go ?_;refine cdb H (fun h H=>?_) (fun h H=>?_)
     ·obtain ⟨x141,f1,H⟩:=bil (g:=KW) Fm.X5 H;refine go1 ?_;refine bp H (HM x141) fun x143 h H=>cl h ?_;refine go ?_;refine cdb H (fun h H=>?_) (fun h H=>?_)
      ·refine go ?_;refine st hF 0 rfl fun s51 hF=>?_;refine go ?_;have e:=pur H;subst e;exact rg _ ⟨_,_,rfl,hX,hF.pick [] [0] (by decide) (by decide)⟩
      ·refine go ?_;refine bp H (Co a0 x143.1 x143.2.1 (Fm.mk 2 zB 0 [] []) fx0) fun x157 h H=>cl h ?_;refine go ?_;refine X8 hF rfl fun b52 s53 hF=>?_;refine go ?_;refine X8 hF rfl fun b54 s55 hF=>?_;refine go ?_;refine st hF 1 rfl fun s56 hF=>?_;refine go ?_;refine st hF 0 rfl fun s57 hF=>?_;refine go ?_;refine Yf E0 [.v,.v,.v,.v,.v,.v,.v,.x,.z] (by kernel_rfl) ?_;obtain ⟨x163,f1,H⟩:=bil (g:=KW) Fm.X5 H;refine go1 ?_;refine bp H (Y7 x163 x157.1.scope 0) fun x167 h H=>cv h ?_;refine go ?_;refine WH hF rfl fun b58 s59 hF=>?_;refine go ?_;refine st hF 0 rfl fun s60 hF=>?_;refine go ?_;obtain ⟨x174,g61,H⟩:=bnd H;refine Ya 3 171 174 (.bool x174) (giN q (fun q=>?_) (fun q=>?_)) (fun J=>?_)
       ·rw [if_pos (dnf q)] at g61;refine go ?_;obtain ⟨x172,hx172,g61⟩:=bnd g61;refine cl (Yz x167 _ hx172) ?_;refine go ?_;exact Yt 171 g61
       ·rw [if_neg (dnt q)] at g61;refine go ?_;exact Yt 171 g61
       refine go ?_;refine cdb H (fun h H=>?_) (fun h H=>?_)
       ·refine go ?_;obtain ⟨E,hEq⟩:∃E,E=EE s60 [b5]:=⟨_,rfl⟩
        have n63:¬E b58:=by rw [hEq];exact K3 (hF.at 0 rfl) (nm1 (neL hF 0 3 rfl rfl (by decide)))
        have n64:¬E b54:=by rw [hEq];exact K3 (hF.at 1 rfl) (nm1 (neL hF 1 3 rfl rfl (by decide)))
        have n65:¬E b52:=by rw [hEq];exact K3 (hF.at 2 rfl) (nm1 (neL hF 2 3 rfl rfl (by decide)))
        have n66:¬E b3:=by rw [hEq];exact K3 (hF.at 4 rfl) (nm1 (neL hF 4 3 rfl rfl (by decide)))
        have n67:¬E b1:=by rw [hEq];exact K3 (hF.at 5 rfl) (nm1 (neL hF 5 3 rfl rfl (by decide)))
        refine Yf E [.v,.v,.v,.v,.x,.v,.v] (by kernel_rfl) ?_;have z:=K0 (X4 (hF.at 0 rfl) n63) (K0 (X4 (hF.at 1 rfl) n64) (K0 (X4 (hF.at 2 rfl) n65) (K0 (X4 (hF.at 4 rfl) n66) (X4 (hF.at 5 rfl) n67))));refine gh ?_;refine bp H (Ds x157.2.2) fun x178 h H=>cv h ?_;have z:=K0 (X4 (hF.at 0 rfl) n63) (K0 (X4 (hF.at 1 rfl) n64) (K0 (X4 (hF.at 2 rfl) n65) (K0 (X4 (hF.at 4 rfl) n66) (X4 (hF.at 5 rfl) n67))));refine gh ?_;refine stK hF 3 (by rw [hEq];exact Zc (by simp)) rfl fun s68 hF=>?_;have z:=K0 (X4 (hF.at 0 rfl) n63) (K0 (X4 (hF.at 1 rfl) n64) (K0 (X4 (hF.at 2 rfl) n65) (K0 (X4 (hF.at 4 rfl) n66) (X4 (hF.at 5 rfl) n67))));refine gh ?_;refine go ?_;have e:=pur H;subst e;exact rg [.agg [sf KY x157.1.binds,sf Zb x157.1.macs,i6 x157.1.scope,i6 x157.1.id,i6 x157.1.steps],p4,i6 x178] ⟨_,_,rfl,hX,hF.pick [] [0] (by decide) (by decide)⟩
       ·refine go ?_;obtain ⟨x183,hx183,H⟩:=bnd H;refine cx (C1 x157.1 x167 a4 _ hx183  p4 _ (pre 0 0 1 hF hX)) ?_;rintro _ s70 ⟨t71,v69,rfl,hT,hG⟩;obtain ⟨t72,hX,hF⟩:=aft 0 0 1 hF hX hT hG;refine go ?_;refine st hF 3 rfl fun s73 hF=>?_;refine go ?_;have e:=pur H;subst e;exact rg _ ⟨_,_,rfl,hX,hF.pick [] [0] (by decide) (by decide)⟩
     ·refine go ?_;refine bp H (Dz a0 a1 a2 fx0) fun x192 h H=>cl h ?_;refine go ?_;refine X8 hF rfl fun b74 s75 hF=>?_;refine go ?_;refine X8 hF rfl fun b76 s77 hF=>?_;refine go ?_;refine st hF 1 rfl fun s78 hF=>?_;refine go ?_;refine st hF 0 rfl fun s79 hF=>?_;refine go ?_;refine st hF 2 rfl fun s80 hF=>?_;refine go ?_;have e:=pur H;subst e;exact rg _ ⟨_,_,rfl,hX,hF.pick [] [0] (by decide) (by decide)⟩
 ·intro Yx C1 a0 a1 a2 a4 r H;intro  p4 ss hP;refine hdg mixed Tryz.func179 (rs:=[.cell 10 42,.tmp 11,.tmp 12]) fun q tT=>?_;obtain ⟨hF,hX⟩:=hP.start;generalize strip ss [⟨p4,28,13,rws ZC a4⟩]=tt0 at hF hX ⊢;refine go ?_;refine X8 hF rfl fun b1 ss2 hF=>?_;refine go ?_;refine X8 hF rfl fun b3 ss4 hF=>?_;refine go ?_;refine X8 hF rfl fun b5 ss6 hF=>?_;refine go ?_;refine bp H (Em a0 a1 (Fm.mk 2 zB 0 [] []) fx0) fun x22 h H=>cl h ?_;refine go ?_;refine X8 hF rfl fun b7 s8 hF=>?_;refine go ?_;refine X8 hF rfl fun b9 s10 hF=>?_;refine go ?_;refine st hF 1 rfl fun s11 hF=>?_;refine go ?_;refine st hF 0 rfl fun s12 hF=>?_;refine go ?_;refine cdn H (fun h H=>?_) (fun h H=>?_)
  ·refine go ?_;refine st hF 2 rfl fun s13 hF=>?_;refine go ?_;have e:=pur H;subst e;exact rg _ ⟨_,_,rfl,hX,hF.pick [] [0] (by decide) (by decide)⟩
  ·refine go ?_;refine bp H (Y7 a2 x22.1.scope 0) fun x34 h H=>cl h ?_;refine go ?_;refine X8 hF rfl fun b14 s15 hF=>?_;refine go ?_;refine st hF 0 rfl fun s16 hF=>?_;refine go ?_;refine bp H (Yz x34) fun x36 h H=>cl h ?_;refine go ?_;refine cdb H (fun h H=>?_) (fun h H=>?_)
   ·refine go ?_;refine st hF 3 rfl fun s17 hF=>?_;refine go ?_;have e:=pur H;subst e;exact rg _ ⟨_,_,rfl,hX,hF.pick [] [0] (by decide) (by decide)⟩
   ·refine go ?_;obtain ⟨x44,hx44,H⟩:=bnd H;refine cx (C1 x22.1 x34 a4 _ hx44  p4 _ (pre 0 0 1 hF hX)) ?_;rintro _ s19 ⟨t20,v18,rfl,hT,hG⟩;obtain ⟨t21,hX,hF⟩:=aft 0 0 1 hF hX hT hG;refine go ?_;refine st hF 3 rfl fun s22 hF=>?_;refine go ?_;have e:=pur H;subst e;exact rg _ ⟨_,_,rfl,hX,hF.pick [] [0] (by decide) (by decide)⟩
theorem BQ:∀(a0:Xpn) (a1:List Fm) (a2:Int) (a3:List Stp) r,Y3 a0 a1 a2 a3=some r->∀  (p3:AV) (ss:Sto),Pre ss [] [⟨p3,28,13,rws ZC a3⟩]->Ctr KX 156 [.agg (K5 a0),sf KW a1,i6 a2,p3] ss (fun r' ss'=>∃(tt':Sto) (w1:AV),r'=.tup [.agg (K5 r.1),w1,i6 r.2.2]/\Tau (strip ss [⟨p3,28,13,rws ZC a3⟩]) [] tt'/\Fx tt' ss' [] [⟨w1,28,13,rws ZC r.2.1⟩]):=fun a0 a1 a2 a3=>(Bn a2).1 a0 a1 a3
theorem AO:∀(a0:Xpn) (a1:Fm) (a2:Int) (a3:List Stp) r,Yx a0 a1 a2 a3=some r->∀  (p3:AV) (ss:Sto),Pre ss [] [⟨p3,28,13,rws ZC a3⟩]->Ctr KX 130 [.agg (K5 a0),.agg (KW a1),i6 a2,p3] ss (fun r' ss'=>∃(tt':Sto) (w1:AV),r'=.tup [.agg (K5 r.1),w1,i6 r.2.2]/\Tau (strip ss [⟨p3,28,13,rws ZC a3⟩]) [] tt'/\Fx tt' ss' [] [⟨w1,28,13,rws ZC r.2.1⟩]):=fun a0 a1 a2 a3=>(Bn a2).2.1 a0 a1 a3
theorem EP:∀(a1:List Fm) (a2:Int) (Yj:List Bnd) (Yk:List Mac) (Yi Yl Ym:Int) (X6:List Stp) (Wc:Int) out,WN a1 a2 Yj Yk Yi Yl Ym X6 Wc=some out->∀c,Yh Tryz.f156 0=some c->∀(Q:QT) (tt0:Sto) (b1 b3:Nat),(∀(IJ:List Bnd) (IK:List Mac) (IL IM IN:Int) (YS:List Stp),out=Sum.inr (IJ,IK,IL,IM,IN,YS)->∀(T:TT) (ss tt:Sto) (e0v0:AV),T 3=e0v0/\T 4=.ptr b1 0/\T 8=.ptr b3 0->Tau tt0 [] tt->Fx tt ss [(b3,⟨42,5,[.Yb,.Yb,i6 0,i6 0,i6 0]⟩),(b1,⟨42,5,[sf KY IJ,sf Zb IK,i6 IL,i6 IM,i6 IN]⟩)] [⟨e0v0,28,13,rws ZC YS⟩]->Q (.ex 0) ⟨T,ss⟩)->(∀r,out=Sum.inl r->∀s',IE KX [.cell 8 42,.tmp 9,.tmp 10] (fun r' ss'=>∃(tt':Sto),r'=.tup [.agg (K5 r.1),sf ZC r.2.1,i6 r.2.2]/\Tau tt0 [] tt'/\Fx tt' ss' [] []) s'->Q .ret s')->∀(T:TT) (ss tt:Sto) (z0v0:AV),T 1=sf KW a1/\T 2=i6 a2/\T 3=z0v0/\T 4=.ptr b1 0/\T 8=.ptr b3 0/\T 11=i6 Wc->Tau tt0 [] tt->Fx tt ss [(b3,⟨42,5,[.Yb,.Yb,i6 0,i6 0,i6 0]⟩),(b1,⟨42,5,[sf KY Yj,sf Zb Yk,i6 Yi,i6 Yl,i6 Ym]⟩)] [⟨z0v0,28,13,rws ZC X6⟩]->aLp KX c Q ⟨T,ss⟩:=by
 intro a1 a2 Yj Yk Yi Yl Ym X6 Wc;revert Yj Yk Yi Yl Ym X6 Wc;refine WN.partial_correctness a1 a2 _ ?_;intro WN IH Yj Yk Yi Yl Ym X6 Wc out H c hc Q tt0 b1 b3 hE hR T ss tt z0v0 tT hX hF;refine lpy hc rfl fun q=>go ?_;refine cdp H (fun h H=>?_) (fun h H=>?_)
 ·refine go ?_;obtain ⟨E,hEq⟩:∃E,E=EE ss []:=⟨_,rfl⟩
  have n5:¬E b3:=by rw [hEq];exact K3 (hF.at 0 rfl) (by simp)
  have n6:¬E b1:=by rw [hEq];exact K3 (hF.at 1 rfl) (by simp)
  refine Ld E [.v,.v,.v,.v,.v,.v,.v] [0,1,2,3,4,5,6] 7 12 [.v,.v,.v,.v] [8,9,10,11] [.x,.v,.v] [13,14,15] (by kernel_rfl) ?_;obtain ⟨x25,f1,H⟩:=bil (g:=KW) Fm.X5 H;have z:=K0 (X4 (hF.at 0 rfl) n5) (X4 (hF.at 1 rfl) n6);refine gh1 ?_;refine ⟨?_,?_⟩
  ·have z:=K0 (X4 (hF.at 0 rfl) n5) (X4 (hF.at 1 rfl) n6);refine gh ?_;obtain ⟨x29,hx29,H⟩:=bnd H;refine cx (AO (KS Yj Yk Yi Yl Ym) x25 a2 X6 _ hx29  z0v0 _ (pre 0 0 1 hF hX)) ?_;rintro _ s8 ⟨t9,v7,rfl,hT,hG⟩
   refine V0 (K8 hT hG (by intro p hp;simp only [Kj,KD,or_false] at hp<;>first | (rcases hp with rfl<;>(rw [hEq];first | (refine Zc ?_;simp;done) | exact Zp rfl))| cases hp)) fun kp11=>?_
   obtain ⟨t10,hX,hF⟩:=aft 0 0 1 hF hX hT hG;have z:=K0 (X4 (hF.at 0 rfl) n5) (X4 (hF.at 1 rfl) n6);refine gh ?_;refine Hd hF rfl fun b12 s13 nw14 mo15 hF=>?_;have z:=K0 (X4 (hF.at 1 rfl) n5) (X4 (hF.at 2 rfl) n6);refine gh ?_;refine stK hF 0 (show E _ from ((Rz kp11 (em0 hEq)) _ nw14)) rfl fun s16 hF=>?_;have z:=K0 (X4 (hF.at 1 rfl) n5) (X4 (hF.at 2 rfl) n6);refine gh ?_;refine go ?_;refine st hF 2 rfl fun s17 hF=>?_;refine go ?_;refine cdn H (fun h H=>?_) (fun h H=>?_)
   ·refine go ?_;refine st hF 1 rfl fun s18 hF=>?_;refine go ?_;exact wq (hR _ (pur H).symm _ (rg _ ⟨_,rfl,hX,K1 _⟩))
   ·refine go ?_;exact IH  x29.1.binds x29.1.macs x29.1.scope x29.1.id x29.1.steps x29.2.1 (i64.wrap (Wc+1)) _ H _ rfl Q tt0 b1 b3 hE hR _ _ _ v7 S hX (hF.drop 1 0)
  ·have z:=K0 (X4 (hF.at 0 rfl) n5) (X4 (hF.at 1 rfl) n6);refine gh ?_;refine Hd hF rfl fun b19 s20 nw21 mo22 hF=>?_;have z:=K0 (X4 (hF.at 1 rfl) n5) (X4 (hF.at 2 rfl) n6);refine gh ?_;obtain ⟨x29,hx29,H⟩:=bnd H;refine cx (AO (KS Yj Yk Yi Yl Ym) x25 a2 X6 _ hx29  z0v0 _ (pre 0 0 1 hF hX)) ?_;rintro _ s24 ⟨t25,v23,rfl,hT,hG⟩
   refine V0 (K8 hT hG (by intro p hp;simp only [Kj,KD,or_false] at hp<;>first | (rcases hp with rfl<;>(rw [hEq];first | (refine Zc ?_;simp;done) | exact Zp rfl))| cases hp)) fun kp27=>?_
   obtain ⟨t26,hX,hF⟩:=aft 0 0 1 hF hX hT hG;have z:=K0 (X4 (hF.at 1 rfl) n5) (X4 (hF.at 2 rfl) n6);refine gh ?_;refine stK hF 0 (show E _ from ((em0 hEq) _ nw21)) rfl fun s28 hF=>?_;have z:=K0 (X4 (hF.at 1 rfl) n5) (X4 (hF.at 2 rfl) n6);refine gh ?_;refine go ?_;refine st hF 2 rfl fun s29 hF=>?_;refine go ?_;refine cdn H (fun h H=>?_) (fun h H=>?_)
   ·refine go ?_;refine st hF 1 rfl fun s30 hF=>?_;refine go ?_;exact wq (hR _ (pur H).symm _ (rg _ ⟨_,rfl,hX,K1 _⟩))
   ·refine go ?_;exact IH  x29.1.binds x29.1.macs x29.1.scope x29.1.id x29.1.steps x29.2.1 (i64.wrap (Wc+1)) _ H _ rfl Q tt0 b1 b3 hE hR _ _ _ v23 S hX (hF.drop 1 0)
 ·refine go ?_;exact wq (hE _ _ _ _ _ _ (pur H).symm _ _ _ z0v0 S hX hF)
theorem Dr:∀(a0:Xpn) (a1:List Fm) (a2:Int) (a3:List Stp) r,Ip a0 a1 a2 a3=some r->∀  (p3:AV) (ss:Sto),Pre ss [] [⟨p3,28,13,rws ZC a3⟩]->Ctr KX 156 [.agg (K5 a0),sf KW a1,i6 a2,p3] ss (fun r' ss'=>∃(tt':Sto),r'=.tup [.agg (K5 r.1),sf ZC r.2.1,i6 r.2.2]/\Tau (strip ss [⟨p3,28,13,rws ZC a3⟩]) [] tt'/\Fx tt' ss' [] []):=by
 intro a0 a1 a2 a3 r H;intro  p3 ss hP;unfold Ip at H;refine hdg mixed Tryz.func156 (rs:=[.cell 8 42,.tmp 9,.tmp 10]) fun q tT=>?_;obtain ⟨hF,hX⟩:=hP.start;generalize strip ss [⟨p3,28,13,rws ZC a3⟩]=tt0 at hF hX ⊢;refine go ?_;refine X8 hF rfl fun b1 ss2 hF=>?_;refine go ?_;refine X8 hF rfl fun b3 ss4 hF=>?_;refine go ?_;obtain ⟨o31,ho31,H⟩:=bnd H;refine EP a1 a2 a0.binds a0.macs a0.scope a0.id a0.steps a3 0 _ ho31 _ rfl _ tt0 b1 b3 ?_ ?_ _ _ _ p3 S hX hF
 ·intro HQ HR G0 HT HU CB he T33 s34 t35 e32v0 tT hX hF;have he:=he.symm;subst he
  try dsimp only at H
  refine go ?_;refine st hF 0 rfl fun s36 hF=>?_;refine go ?_;have e:=pur H;subst e;exact rg _ ⟨_,rfl,hX,K1 _⟩
 ·intro r hr s' hs;subst hr;have e:=pur H;subst e;exact hsq hs
theorem ER (fx0:Int):(∀(a0:Xpn) (a1:Fm) (a3:List Stp) r,Vj a0 a1 fx0 a3=some r->∀  (p3:AV) (ss:Sto),Pre ss [] [⟨p3,28,13,rws ZC a3⟩]->Ctr KX 130 [.agg (K5 a0),.agg (KW a1),i6 fx0,p3] ss (fun r' ss'=>∃(tt':Sto),r'=.tup [.agg (K5 r.1),sf ZC r.2.1,i6 r.2.2]/\Tau (strip ss [⟨p3,28,13,rws ZC a3⟩]) [] tt'/\Fx tt' ss' [] []))/\(∀(a0:Xpn) (a1:Fm) (a2:Int) (a4:List Stp) r,Ak a0 a1 a2 fx0 a4=some r->∀  (p4:AV) (ss:Sto),Pre ss [] [⟨p4,28,13,rws ZC a4⟩]->Ctr KX 154 [.agg (K5 a0),.agg (KW a1),i6 a2,i6 fx0,p4] ss (fun r' ss'=>∃(tt':Sto),r'=.tup [.agg (K5 r.1),sf ZC r.2.1,i6 r.2.2]/\Tau (strip ss [⟨p4,28,13,rws ZC a4⟩]) [] tt'/\Fx tt' ss' [] []))/\(∀(a0:Xpn) (a1:List Fm) (a2:Fm) (a4:List Stp) r,Iq a0 a1 a2 fx0 a4=some r->∀  (p4:AV) (ss:Sto),Pre ss [] [⟨p4,28,13,rws ZC a4⟩]->Ctr KX 179 [.agg (K5 a0),sf KW a1,.agg (KW a2),i6 fx0,p4] ss (fun r' ss'=>∃(tt':Sto),r'=.tup [.agg (K5 r.1),sf ZC r.2.1,i6 r.2.2]/\Tau (strip ss [⟨p4,28,13,rws ZC a4⟩]) [] tt'/\Fx tt' ss' [] []))/\(∀(a0:Xpn) (a1:Fm) (a2:Int) (a4:List Stp) r,Al a0 a1 a2 fx0 a4=some r->∀  (p4:AV) (ss:Sto),Pre ss [] [⟨p4,28,13,rws ZC a4⟩]->Ctr KX 155 [.agg (K5 a0),.agg (KW a1),i6 a2,i6 fx0,p4] ss (fun r' ss'=>∃(tt':Sto),r'=.tup [.agg (K5 r.1),sf ZC r.2.1,i6 r.2.2]/\Tau (strip ss [⟨p4,28,13,rws ZC a4⟩]) [] tt'/\Fx tt' ss' [] [])):=by
 have h:=Vj.mutual_partial_correctness fx0 (motive_1:=fun a0 a1 a3 r=>∀  (p3:AV) (ss:Sto),Pre ss [] [⟨p3,28,13,rws ZC a3⟩]->Ctr KX 130 [.agg (K5 a0),.agg (KW a1),i6 fx0,p3] ss (fun r' ss'=>∃(tt':Sto),r'=.tup [.agg (K5 r.1),sf ZC r.2.1,i6 r.2.2]/\Tau (strip ss [⟨p3,28,13,rws ZC a3⟩]) [] tt'/\Fx tt' ss' [] [])) (motive_2:=fun a0 a1 a2 a4 r=>∀  (p4:AV) (ss:Sto),Pre ss [] [⟨p4,28,13,rws ZC a4⟩]->Ctr KX 155 [.agg (K5 a0),.agg (KW a1),i6 a2,i6 fx0,p4] ss (fun r' ss'=>∃(tt':Sto),r'=.tup [.agg (K5 r.1),sf ZC r.2.1,i6 r.2.2]/\Tau (strip ss [⟨p4,28,13,rws ZC a4⟩]) [] tt'/\Fx tt' ss' [] [])) (motive_3:=fun a0 a1 a2 a4 r=>∀  (p4:AV) (ss:Sto),Pre ss [] [⟨p4,28,13,rws ZC a4⟩]->Ctr KX 154 [.agg (K5 a0),.agg (KW a1),i6 a2,i6 fx0,p4] ss (fun r' ss'=>∃(tt':Sto),r'=.tup [.agg (K5 r.1),sf ZC r.2.1,i6 r.2.2]/\Tau (strip ss [⟨p4,28,13,rws ZC a4⟩]) [] tt'/\Fx tt' ss' [] [])) (motive_4:=fun a0 a1 a2 a4 r=>∀  (p4:AV) (ss:Sto),Pre ss [] [⟨p4,28,13,rws ZC a4⟩]->Ctr KX 179 [.agg (K5 a0),sf KW a1,.agg (KW a2),i6 fx0,p4] ss (fun r' ss'=>∃(tt':Sto),r'=.tup [.agg (K5 r.1),sf ZC r.2.1,i6 r.2.2]/\Tau (strip ss [⟨p4,28,13,rws ZC a4⟩]) [] tt'/\Fx tt' ss' [] [])) ?s0 ?s1 ?s2 ?s3
 ·exact ⟨h.1,h.2.2.1,h.2.2.2,h.2.1⟩
 ·intro Al Ak C3 C1 a0 a1 a3 r H;intro  p3 ss hP;refine hdg mixed Tryz.func130 (rs:=[.cell 8 42,.tmp 9,.tmp 10]) fun q tT=>?_;obtain ⟨hF,hX⟩:=hP.start;generalize strip ss [⟨p3,28,13,rws ZC a3⟩]=tt0 at hF hX ⊢;refine go ?_;refine X8 hF rfl fun b1 ss2 hF=>?_;refine go ?_;refine X8 hF rfl fun b3 ss4 hF=>?_;refine go ?_;refine X8 hF rfl fun b5 ss6 hF=>?_;refine go ?_;obtain ⟨x24,g7,H⟩:=bnd H;refine Ya 4 20 24 (.bool x24) (giN q (fun q=>?_) (fun q=>?_)) (fun J=>?_)
  ·refine go ?_;exact Yt 20 g7
  ·refine go ?_;exact Yt 20 g7
  refine go ?_;refine cdb H (fun h H=>?_) (fun h H=>?_)
  ·refine go ?_;refine bp H (Ar a0 a1 fx0) fun x29 h H=>cl h ?_;refine go ?_;refine X8 hF rfl fun b9 s10 hF=>?_;refine go ?_;refine X8 hF rfl fun b11 s12 hF=>?_;refine go ?_;refine st hF 1 rfl fun s13 hF=>?_;refine go ?_;refine st hF 0 rfl fun s14 hF=>?_;refine go ?_;refine st hF 2 rfl fun s15 hF=>?_;refine go ?_;have e:=pur H;subst e;exact rg _ ⟨_,rfl,hX,K1 _⟩
  ·obtain ⟨x38,f1,H⟩:=bil (g:=KW) Fm.X5 H;refine go1 ?_;refine go ?_;refine cdp H (fun h H=>?_) (fun h H=>?_)
   ·refine go ?_;refine Yf E0 [.v,.v,.v,.v,.v,.v,.v,.v,.v,.v,.v] (by kernel_rfl) ?_;obtain ⟨x46,f1,H⟩:=bil (g:=KW) Fm.X5 H;refine go1 ?_;refine bp H (H3 a0 x46) fun x48 h H=>cv h ?_;refine go ?_;refine cdp H (fun h H=>?_) (fun h H=>?_)
    ·refine go ?_;refine st hF 0 rfl fun s16 hF=>?_;refine go ?_;have e:=pur H;subst e;exact rg _ ⟨_,rfl,hX,K1 _⟩
    ·refine go ?_;refine cdp H (fun h H=>?_) (fun h H=>?_)
     ·refine go ?_;obtain ⟨x63,hx63,H⟩:=bnd H;refine cx (C1 a0 a1 x48.2 a3 _ hx63  p3 _ (pre 0 0 1 hF hX)) ?_;rintro _ s17 ⟨t18,rfl,hT,hG⟩;obtain ⟨t19,hX,hF⟩:=aft 0 0 1 hF hX hT hG;refine go ?_;refine st hF 0 rfl fun s20 hF=>?_;refine go ?_;have e:=pur H;subst e;exact rg _ ⟨_,rfl,hX,K1 _⟩
     ·refine go ?_;refine cdp H (fun h H=>?_) (fun h H=>?_)
      ·refine go ?_;obtain ⟨x74,hx74,H⟩:=bnd H;refine cx (C3 a0 a1 x48.2 a3 _ hx74  p3 _ (pre 0 0 1 hF hX)) ?_;rintro _ s21 ⟨t22,rfl,hT,hG⟩;obtain ⟨t23,hX,hF⟩:=aft 0 0 1 hF hX hT hG;refine go ?_;refine st hF 0 rfl fun s24 hF=>?_;refine go ?_;have e:=pur H;subst e;exact rg _ ⟨_,rfl,hX,K1 _⟩
      ·refine go ?_;obtain ⟨x83,hx83,H⟩:=bnd H;refine cx (Dr a0 a1.kids fx0 a3 _ hx83  p3 _ (pre 0 0 1 hF hX)) ?_;rintro _ s25 ⟨t26,rfl,hT,hG⟩;obtain ⟨t27,hX,hF⟩:=aft 0 0 1 hF hX hT hG;refine go ?_;refine st hF 0 rfl fun s28 hF=>?_;refine go ?_;have e:=pur H;subst e;exact rg _ ⟨_,rfl,hX,K1 _⟩
   ·refine go ?_;obtain ⟨Bd,hx83_1,H⟩:=bnd H;refine cx (Dr a0 a1.kids fx0 a3 _ hx83_1  p3 _ (pre 0 0 1 hF hX)) ?_;rintro _ s29 ⟨t30,rfl,hT,hG⟩;obtain ⟨t31,hX,hF⟩:=aft 0 0 1 hF hX hT hG;refine go ?_;refine st hF 0 rfl fun s32 hF=>?_;refine go ?_;have e:=pur H;subst e;exact rg _ ⟨_,rfl,hX,K1 _⟩
 ·intro Vj C0 a0 a1 a2 a4 r H;intro  p4 ss hP;refine hdg mixed Tryz.func155 (rs:=[.cell 10 42,.tmp 11,.tmp 12]) fun q tT=>?_;obtain ⟨hF,hX⟩:=hP.start;generalize strip ss [⟨p4,28,13,rws ZC a4⟩]=tt0 at hF hX ⊢;refine go ?_;refine X8 hF rfl fun b1 ss2 hF=>?_;refine go ?_;refine X8 hF rfl fun b3 ss4 hF=>?_;refine go ?_;refine X8 hF rfl fun b5 ss6 hF=>?_;refine go ?_;refine Yf E0 [.v,.v,.v,.v,.v,.v,.v,.x,.z] (by kernel_rfl) ?_;refine go ?_;refine bp H (IX a0 a2) fun x25 h H=>cv h ?_;obtain ⟨x26,f1,H⟩:=bil (g:=Zb) Mac.X5 H;refine go1 ?_;refine WH hF rfl fun b7 s8 hF=>?_;refine go ?_;refine st hF 0 rfl fun s9 hF=>?_;refine go ?_;refine bp H (BH a0 a1 a2 fx0) fun x33 h H=>cl h ?_;refine go ?_;refine X8 hF rfl fun b10 s11 hF=>?_;refine go ?_;refine st hF 4 rfl fun s12 hF=>?_;refine go ?_;refine st hF 0 rfl fun s13 hF=>?_;refine go ?_;refine cdn H (fun h H=>?_) (fun h H=>?_)
  ·refine go ?_;refine st hF 2 rfl fun s14 hF=>?_;refine go ?_;have e:=pur H;subst e;exact rg _ ⟨_,rfl,hX,K1 _⟩
  ·refine go ?_;refine Yf E0 [.v,.v,.v,.v,.v,.v,.v,.v,.v,.v,.v,.v,.v,.v,.v] (by kernel_rfl) ?_;refine go ?_;refine bp H (Y7 a1 x33.1.scope 1) fun x51 h H=>cv h ?_;refine go ?_;refine bp H (HW a0.binds x26.rules x26.lits x51) fun x52 h H=>cv h ?_;refine go ?_;refine apd (g:=ZC) hF 0 H (rdo (c:=true) (g:=ZC) Stp.X5) fun x64 H v15 s16 hF=>?_;refine go ?_;obtain ⟨x69,hx69,H⟩:=bnd H;refine cx (C0 x33.1 x33.2.1 x64 _ hx69  v15 _ (pre 0 0 1 hF hX)) ?_;rintro _ s17 ⟨t18,rfl,hT,hG⟩;obtain ⟨t19,hX,hF⟩:=aft 0 0 1 hF hX hT hG;refine go ?_;refine st hF 2 rfl fun s20 hF=>?_;refine go ?_;have e:=pur H;subst e;exact rg _ ⟨_,rfl,hX,K1 _⟩
 ·intro Vj Iq C0 C2 a0 a1 a2 a4 r H;intro  p4 ss hP;refine hdg mixed Tryz.func154 (rs:=[.cell 10 42,.tmp 11,.tmp 12]) fun q tT=>?_;obtain ⟨hF,hX⟩:=hP.start;generalize strip ss [⟨p4,28,13,rws ZC a4⟩]=tt0 at hF hX ⊢;refine go ?_;refine X8 hF rfl fun b1 ss2 hF=>?_;refine go ?_;refine X8 hF rfl fun b3 ss4 hF=>?_;refine go ?_;refine X8 hF rfl fun b5 ss6 hF=>?_;refine go ?_;obtain ⟨x37,g7,H⟩:=bnd H;refine Ya 4 33 37 (.bool x37) (gi q (fun q=>?_) (fun q=>?_)) (fun J=>?_)
  ·refine go ?_;exact Yt 33 g7
  ·refine go ?_;exact Yt 33 g7
  refine go ?_;refine cdb H (fun h H=>?_) (fun h H=>?_)
  ·refine go ?_;obtain ⟨E,hEq⟩:∃E,E=EE ss6 [b5]:=⟨_,rfl⟩
   have n9:¬E b3:=by rw [hEq];exact K3 (hF.at 1 rfl) (nm1 (neL hF 1 0 rfl rfl (by decide)))
   have n10:¬E b1:=by rw [hEq];exact K3 (hF.at 2 rfl) (nm1 (neL hF 2 0 rfl rfl (by decide)))
   refine Yf E [.v,.v,.v,.v,.v,.v,.x,.v,.v,.v,.x,.v,.v] (by kernel_rfl) ?_;obtain ⟨x41,f1,H⟩:=bls (g:=KW) Fm.X5 (lo:=some (i6 1)) (hi:=none) rfl rfl H;have z:=K0 (X4 (hF.at 1 rfl) n9) (X4 (hF.at 2 rfl) n10);refine gh1 ?_;obtain ⟨x44,hx44,H⟩:=bnd H;refine cx (BQ a0 x41 fx0 a4 _ hx44  p4 _ (pre 0 0 1 hF hX)) ?_;rintro _ s12 ⟨t13,v11,rfl,hT,hG⟩
   refine V0 (K8 hT hG (by intro p hp;simp only [Kj,KD,or_false] at hp<;>first | (rcases hp with rfl<;>(rw [hEq];first | (refine Zc ?_;simp;done) | exact Zp rfl))| cases hp)) fun kp15=>?_
   obtain ⟨t14,hX,hF⟩:=aft 0 0 1 hF hX hT hG;have z:=K0 (X4 (hF.at 1 rfl) n9) (X4 (hF.at 2 rfl) n10);refine gh ?_;refine stK hF 0 (by rw [hEq];exact Zc (by simp)) rfl fun s16 hF=>?_;have z:=K0 (X4 (hF.at 1 rfl) n9) (X4 (hF.at 2 rfl) n10);refine gh ?_;refine go ?_;have e:=pur H;subst e;exact rg [.agg [sf KY x44.1.binds,sf Zb x44.1.macs,i6 x44.1.scope,i6 x44.1.id,i6 x44.1.steps],v11,i6 x44.2.2] ⟨_,rfl,hX,K1 _⟩
  ·refine go ?_;obtain ⟨x56,g17,H⟩:=bnd H;refine Ya 4 52 56 (.bool x56) (gi q (fun q=>?_) (fun q=>?_)) (fun J=>?_)
   ·refine go ?_;exact Yt 52 g17
   ·refine go ?_;exact Yt 52 g17
   refine go ?_;obtain ⟨x64,g19,H⟩:=bnd H;refine Ya 6 58 64 (.bool x64) (gi q (fun q=>?_) (fun q=>?_)) (fun J=>?_)
   ·rw [if_pos (dbt q)] at g19;obtain ⟨x60,f1,g19⟩:=bil (g:=KW) Fm.X5 g19;refine go1 ?_;refine go ?_;exact Yt 58 g19
   ·rw [if_neg (dbf q)] at g19;refine go ?_;exact Yt 58 g19
   refine go ?_;refine cdb H (fun h H=>?_) (fun h H=>?_)
   ·refine go ?_;obtain ⟨E,hEq⟩:∃E,E=EE ss6 [b5]:=⟨_,rfl⟩
    have n21:¬E b3:=by rw [hEq];exact K3 (hF.at 1 rfl) (nm1 (neL hF 1 0 rfl rfl (by decide)))
    have n22:¬E b1:=by rw [hEq];exact K3 (hF.at 2 rfl) (nm1 (neL hF 2 0 rfl rfl (by decide)))
    refine Yf E [.v,.v,.v,.v,.v,.v,.v,.v,.v,.v,.v,.v,.x,.v,.v,.v,.x,.v,.v] (by kernel_rfl) ?_;obtain ⟨x68,f1,H⟩:=bil (g:=KW) Fm.X5 H;obtain ⟨x73,f2,H⟩:=bil (g:=KW) Fm.X5 H;have z:=K0 (X4 (hF.at 1 rfl) n21) (X4 (hF.at 2 rfl) n22);refine gh2 ?_;obtain ⟨x77,hx77,H⟩:=bnd H;refine cx (C2 a0 x68.kids x73 a4 _ hx77  p4 _ (pre 0 0 1 hF hX)) ?_;rintro _ s23 ⟨t24,rfl,hT,hG⟩
    refine V0 (K8 hT hG (by intro p hp;simp only [Kj,KD,or_false] at hp<;>first | (rcases hp with rfl<;>(rw [hEq];first | (refine Zc ?_;simp;done) | exact Zp rfl))| cases hp)) fun kp26=>?_
    obtain ⟨t25,hX,hF⟩:=aft 0 0 1 hF hX hT hG;have z:=K0 (X4 (hF.at 1 rfl) n21) (X4 (hF.at 2 rfl) n22);refine gh ?_;refine stK hF 0 (by rw [hEq];exact Zc (by simp)) rfl fun s27 hF=>?_;have z:=K0 (X4 (hF.at 1 rfl) n21) (X4 (hF.at 2 rfl) n22);refine gh ?_;refine go ?_;have e:=pur H;subst e;exact rg [.agg [sf KY x77.1.binds,sf Zb x77.1.macs,i6 x77.1.scope,i6 x77.1.id,i6 x77.1.steps],sf ZC x77.2.1,i6 x77.2.2] ⟨_,rfl,hX,K1 _⟩
   ·refine go ?_;obtain ⟨x89,g28,H⟩:=bnd H;refine Ya 4 85 89 (.bool x89) (gi q (fun q=>?_) (fun q=>?_)) (fun J=>?_)
    ·refine go ?_;exact Yt 85 g28
    ·refine go ?_;exact Yt 85 g28
    refine go ?_;refine cdb H (fun h H=>?_) (fun h H=>?_)
    ·obtain ⟨x93,f1,H⟩:=bil (g:=KW) Fm.X5 H;refine go1 ?_;refine bp H (HM x93) fun x95 h H=>cl h ?_;refine go ?_;refine cdb H (fun h H=>?_) (fun h H=>?_)
     ·refine go ?_;refine st hF 0 rfl fun s30 hF=>?_;refine go ?_;have e:=pur H;subst e;exact rg _ ⟨_,rfl,hX,K1 _⟩
     ·refine go ?_;obtain ⟨x108,hx108,H⟩:=bnd H;refine cx (BQ a0 x95.2.1 fx0 a4 _ hx108  p4 _ (pre 0 0 1 hF hX)) ?_;rintro _ s32 ⟨t33,v31,rfl,hT,hG⟩;obtain ⟨t34,hX,hF⟩:=aft 0 0 1 hF hX hT hG;refine go ?_;refine X8 hF rfl fun b35 s36 hF=>?_;refine go ?_;refine st hF 0 rfl fun s37 hF=>?_;refine go ?_;refine cdn H (fun h H=>?_) (fun h H=>?_)
      ·refine go ?_;refine st hF 1 rfl fun s38 hF=>?_;refine go ?_;have e:=pur H;subst e;exact rg _ ⟨_,rfl,hX,K1 _⟩
      ·refine go ?_;obtain ⟨E,hEq⟩:∃E,E=EE s37 [b5]:=⟨_,rfl⟩
       have n39:¬E b35:=by rw [hEq];exact K3 (hF.at 0 rfl) (nm1 (neL hF 0 1 rfl rfl (by decide)))
       have n40:¬E b3:=by rw [hEq];exact K3 (hF.at 2 rfl) (nm1 (neL hF 2 1 rfl rfl (by decide)))
       have n41:¬E b1:=by rw [hEq];exact K3 (hF.at 3 rfl) (nm1 (neL hF 3 1 rfl rfl (by decide)))
       refine Yf E [.v,.v,.v,.v,.v,.v,.v,.v,.x,.v,.v,.v,.x,.v,.v] (by kernel_rfl) ?_;obtain ⟨x121,f1,H⟩:=bil (g:=KW) Fm.X5 H;have z:=K0 (X4 (hF.at 0 rfl) n39) (K0 (X4 (hF.at 2 rfl) n40) (X4 (hF.at 3 rfl) n41));refine gh1 ?_;obtain ⟨x125,hx125,H⟩:=bnd H;refine cx (C2 x108.1 x95.1 x121 x108.2.1 _ hx125  v31 _ (pre 0 0 1 hF hX)) ?_;rintro _ s42 ⟨t43,rfl,hT,hG⟩
       refine V0 (K8 hT hG (by intro p hp;simp only [Kj,KD,or_false] at hp<;>first | (rcases hp with rfl<;>(rw [hEq];first | (refine Zc ?_;simp;done) | exact Zp rfl))| cases hp)) fun kp45=>?_
       obtain ⟨t44,hX,hF⟩:=aft 0 0 1 hF hX hT hG;have z:=K0 (X4 (hF.at 0 rfl) n39) (K0 (X4 (hF.at 2 rfl) n40) (X4 (hF.at 3 rfl) n41));refine gh ?_;refine stK hF 1 (by rw [hEq];exact Zc (by simp)) rfl fun s46 hF=>?_;have z:=K0 (X4 (hF.at 0 rfl) n39) (K0 (X4 (hF.at 2 rfl) n40) (X4 (hF.at 3 rfl) n41));refine gh ?_;refine go ?_;have e:=pur H;subst e;exact rg [.agg [sf KY x125.1.binds,sf Zb x125.1.macs,i6 x125.1.scope,i6 x125.1.id,i6 x125.1.steps],sf ZC x125.2.1,i6 x125.2.2] ⟨_,rfl,hX,K1 _⟩
    ·refine go ?_;obtain ⟨x137,g47,H⟩:=bnd H;refine Ya 4 133 137 (.bool x137) (gi q (fun q=>?_) (fun q=>?_)) (fun J=>?_)
     ·refine go ?_;exact Yt 133 g47
     ·refine go ?_;exact Yt 133 g47
     refine go ?_;refine cdb H (fun h H=>?_) (fun h H=>?_)
     ·obtain ⟨x141,f1,H⟩:=bil (g:=KW) Fm.X5 H;refine go1 ?_;refine bp H (HM x141) fun x143 h H=>cl h ?_;refine go ?_;refine cdb H (fun h H=>?_) (fun h H=>?_)
      ·refine go ?_;refine st hF 0 rfl fun s49 hF=>?_;refine go ?_;have e:=pur H;subst e;exact rg _ ⟨_,rfl,hX,K1 _⟩
      ·refine go ?_;refine bp H (Co a0 x143.1 x143.2.1 (Fm.mk 2 zB 0 [] []) fx0) fun x157 h H=>cl h ?_;refine go ?_;refine X8 hF rfl fun b50 s51 hF=>?_;refine go ?_;refine X8 hF rfl fun b52 s53 hF=>?_;refine go ?_;refine st hF 1 rfl fun s54 hF=>?_;refine go ?_;refine st hF 0 rfl fun s55 hF=>?_;refine go ?_;refine Yf E0 [.v,.v,.v,.v,.v,.v,.v,.x,.z] (by kernel_rfl) ?_;obtain ⟨x163,f1,H⟩:=bil (g:=KW) Fm.X5 H;refine go1 ?_;refine bp H (Y7 x163 x157.1.scope 0) fun x167 h H=>cv h ?_;refine go ?_;refine WH hF rfl fun b56 s57 hF=>?_;refine go ?_;refine st hF 0 rfl fun s58 hF=>?_;refine go ?_;obtain ⟨x174,g59,H⟩:=bnd H;refine Ya 3 171 174 (.bool x174) (giN q (fun q=>?_) (fun q=>?_)) (fun J=>?_)
       ·rw [if_pos (dnf q)] at g59;refine go ?_;obtain ⟨x172,hx172,g59⟩:=bnd g59;refine cl (Yz x167 _ hx172) ?_;refine go ?_;exact Yt 171 g59
       ·rw [if_neg (dnt q)] at g59;refine go ?_;exact Yt 171 g59
       refine go ?_;refine cdb H (fun h H=>?_) (fun h H=>?_)
       ·refine go ?_;obtain ⟨E,hEq⟩:∃E,E=EE s58 [b5]:=⟨_,rfl⟩
        have n61:¬E b56:=by rw [hEq];exact K3 (hF.at 0 rfl) (nm1 (neL hF 0 3 rfl rfl (by decide)))
        have n62:¬E b52:=by rw [hEq];exact K3 (hF.at 1 rfl) (nm1 (neL hF 1 3 rfl rfl (by decide)))
        have n63:¬E b50:=by rw [hEq];exact K3 (hF.at 2 rfl) (nm1 (neL hF 2 3 rfl rfl (by decide)))
        have n64:¬E b3:=by rw [hEq];exact K3 (hF.at 4 rfl) (nm1 (neL hF 4 3 rfl rfl (by decide)))
        have n65:¬E b1:=by rw [hEq];exact K3 (hF.at 5 rfl) (nm1 (neL hF 5 3 rfl rfl (by decide)))
        refine Yf E [.v,.v,.v,.v,.x,.v,.v] (by kernel_rfl) ?_;have z:=K0 (X4 (hF.at 0 rfl) n61) (K0 (X4 (hF.at 1 rfl) n62) (K0 (X4 (hF.at 2 rfl) n63) (K0 (X4 (hF.at 4 rfl) n64) (X4 (hF.at 5 rfl) n65))));refine gh ?_;refine bp H (Ds x157.2.2) fun x178 h H=>cv h ?_;have z:=K0 (X4 (hF.at 0 rfl) n61) (K0 (X4 (hF.at 1 rfl) n62) (K0 (X4 (hF.at 2 rfl) n63) (K0 (X4 (hF.at 4 rfl) n64) (X4 (hF.at 5 rfl) n65))));refine gh ?_;refine stK hF 3 (by rw [hEq];exact Zc (by simp)) rfl fun s66 hF=>?_;have z:=K0 (X4 (hF.at 0 rfl) n61) (K0 (X4 (hF.at 1 rfl) n62) (K0 (X4 (hF.at 2 rfl) n63) (K0 (X4 (hF.at 4 rfl) n64) (X4 (hF.at 5 rfl) n65))));refine gh ?_;refine go ?_;have e:=pur H;subst e;exact rg [.agg [sf KY x157.1.binds,sf Zb x157.1.macs,i6 x157.1.scope,i6 x157.1.id,i6 x157.1.steps],p4,i6 x178] ⟨_,rfl,hX,K1 _⟩
       ·refine go ?_;obtain ⟨x183,hx183,H⟩:=bnd H;refine cx (C0 x157.1 x167 a4 _ hx183  p4 _ (pre 0 0 1 hF hX)) ?_;rintro _ s67 ⟨t68,rfl,hT,hG⟩;obtain ⟨t69,hX,hF⟩:=aft 0 0 1 hF hX hT hG;refine go ?_;refine st hF 3 rfl fun s70 hF=>?_;refine go ?_;have e:=pur H;subst e;exact rg _ ⟨_,rfl,hX,K1 _⟩
     ·refine go ?_;refine bp H (Dz a0 a1 a2 fx0) fun x192 h H=>cl h ?_;refine go ?_;refine X8 hF rfl fun b71 s72 hF=>?_;refine go ?_;refine X8 hF rfl fun b73 s74 hF=>?_;refine go ?_;refine st hF 1 rfl fun s75 hF=>?_;refine go ?_;refine st hF 0 rfl fun s76 hF=>?_;refine go ?_;refine st hF 2 rfl fun s77 hF=>?_;refine go ?_;have e:=pur H;subst e;exact rg _ ⟨_,rfl,hX,K1 _⟩
 ·intro Vj C0 a0 a1 a2 a4 r H;intro  p4 ss hP;refine hdg mixed Tryz.func179 (rs:=[.cell 10 42,.tmp 11,.tmp 12]) fun q tT=>?_;obtain ⟨hF,hX⟩:=hP.start;generalize strip ss [⟨p4,28,13,rws ZC a4⟩]=tt0 at hF hX ⊢;refine go ?_;refine X8 hF rfl fun b1 ss2 hF=>?_;refine go ?_;refine X8 hF rfl fun b3 ss4 hF=>?_;refine go ?_;refine X8 hF rfl fun b5 ss6 hF=>?_;refine go ?_;refine bp H (Em a0 a1 (Fm.mk 2 zB 0 [] []) fx0) fun x22 h H=>cl h ?_;refine go ?_;refine X8 hF rfl fun b7 s8 hF=>?_;refine go ?_;refine X8 hF rfl fun b9 s10 hF=>?_;refine go ?_;refine st hF 1 rfl fun s11 hF=>?_;refine go ?_;refine st hF 0 rfl fun s12 hF=>?_;refine go ?_;refine cdn H (fun h H=>?_) (fun h H=>?_)
  ·refine go ?_;refine st hF 2 rfl fun s13 hF=>?_;refine go ?_;have e:=pur H;subst e;exact rg _ ⟨_,rfl,hX,K1 _⟩
  ·refine go ?_;refine bp H (Y7 a2 x22.1.scope 0) fun x34 h H=>cl h ?_;refine go ?_;refine X8 hF rfl fun b14 s15 hF=>?_;refine go ?_;refine st hF 0 rfl fun s16 hF=>?_;refine go ?_;refine bp H (Yz x34) fun x36 h H=>cl h ?_;refine go ?_;refine cdb H (fun h H=>?_) (fun h H=>?_)
   ·refine go ?_;refine st hF 3 rfl fun s17 hF=>?_;refine go ?_;have e:=pur H;subst e;exact rg _ ⟨_,rfl,hX,K1 _⟩
   ·refine go ?_;obtain ⟨x44,hx44,H⟩:=bnd H;refine cx (C0 x22.1 x34 a4 _ hx44  p4 _ (pre 0 0 1 hF hX)) ?_;rintro _ s18 ⟨t19,rfl,hT,hG⟩;obtain ⟨t20,hX,hF⟩:=aft 0 0 1 hF hX hT hG;refine go ?_;refine st hF 3 rfl fun s21 hF=>?_;refine go ?_;have e:=pur H;subst e;exact rg _ ⟨_,rfl,hX,K1 _⟩
theorem Ck:∀(a0:Xpn) (a1:Fm) (a2:Int) (a3:List Stp) r,Vj a0 a1 a2 a3=some r->∀  (p3:AV) (ss:Sto),Pre ss [] [⟨p3,28,13,rws ZC a3⟩]->Ctr KX 130 [.agg (K5 a0),.agg (KW a1),i6 a2,p3] ss (fun r' ss'=>∃(tt':Sto),r'=.tup [.agg (K5 r.1),sf ZC r.2.1,i6 r.2.2]/\Tau (strip ss [⟨p3,28,13,rws ZC a3⟩]) [] tt'/\Fx tt' ss' [] []):=fun a0 a1 a2 a3=>(ER a2).1 a0 a1 a3
theorem Nm:∀(a0 a1:Int) r,A0 a0 a1=some r->Vm KX 188 [i6 a0,i6 a1] (.bool r):=by
 intro a0 a1 r H;intro ss;unfold A0 at H;refine hdh mixed Tryz.func188 (rs:=[.tmp 4]) fun q tT hF hX=>?_;refine go ?_;obtain ⟨Qi4,j2,H⟩:=bnd H;refine VG (fun s'=>∃(T:TT) (ss1:Sto),s'=⟨T,ss1⟩/\(T 0=i6 a0/\T 1=i6 a1/\T 5=i6 a0/\T 6=.bool Qi4)/\Fx ss ss1 [] []) (cdp j2 (fun h j2=>?_) (fun h j2=>?_)) ?_
 ·refine go ?_;have e:=pur j2;subst e;exact ⟨_,_,rfl,S,hF⟩
 ·refine go ?_;refine cdp j2 (fun h j2=>?_) (fun h j2=>?_)
  ·refine go ?_;have e:=pur j2;subst e;exact ⟨_,_,rfl,S,hF⟩
  ·refine go ?_;refine cdp j2 (fun h j2=>?_) (fun h j2=>?_)
   ·refine go ?_;have e:=pur j2;subst e;exact ⟨_,_,rfl,S,hF⟩
   ·refine go ?_;have e:=pur j2;subst e;exact ⟨_,_,rfl,S,hF⟩
 ·rintro s' ⟨T3,ss4,rfl,tT,hF⟩;refine go ?_;refine cdb H (fun h H=>?_) (fun h H=>?_)
  ·refine go ?_;have e:=pur H;subst e;exact rt _
  ·refine go ?_;refine cdp H (fun h H=>?_) (fun h H=>?_)
   ·refine go ?_;have e:=pur H;subst e;exact rt _
   ·refine go ?_;refine cdp H (fun h H=>?_) (fun h H=>?_)
    ·refine go ?_;have e:=pur H;subst e;exact rt _
    ·refine go ?_;obtain ⟨x26,g6,H⟩:=bnd H;refine Ya 2 24 26 (.bool x26) (gi q (fun q=>?_) (fun q=>?_)) (fun J=>?_)
     ·refine go ?_;exact Yt 24 g6
     ·refine go ?_;exact Yt 24 g6
     refine go ?_;have e:=pur H;subst e;exact rt _
theorem F9:∀(a0:Cor) r,H0 a0=some r->Vm KX 189 [.agg (ZD a0)] (.bool r):=by
 intro a0 r H;intro ss;unfold H0 at H;refine hdh mixed Tryz.func189 (rs:=[.tmp 2]) fun q tT hF hX=>?_;refine go ?_;refine X8 hF rfl fun b1 ss2 hF=>?_;refine go ?_;obtain ⟨x15,g3,H⟩:=bnd H;refine Ya 8 7 15 (.bool x15) (gi q (fun q=>?_) (fun q=>?_)) (fun J=>?_)
 ·rw [if_pos (dt q)] at g3;refine go ?_;obtain ⟨x14,g5,g3⟩:=bnd g3;refine Ya 3 11 14 (.bool x14) (giN q (fun q=>?_) (fun q=>?_)) (fun J=>?_)
  ·refine go ?_;exact Yt 11 g5
  ·refine go ?_;exact Yt 11 g5
  refine go ?_;exact Yt 7 g3
 ·rw [if_neg (df q)] at g3;refine go ?_;exact Yt 7 g3
 refine go ?_;obtain ⟨x25,g7,H⟩:=bnd H;refine Ya 8 17 25 (.bool x25) (giN q (fun q=>?_) (fun q=>?_)) (fun J=>?_)
 ·rw [if_neg (dbf q)] at g7;refine go ?_;obtain ⟨x24,g9,g7⟩:=bnd g7;refine Ya 3 21 24 (.bool x24) (gi q (fun q=>?_) (fun q=>?_)) (fun J=>?_)
  ·refine go ?_;exact Yt 21 g9
  ·refine go ?_;exact Yt 21 g9
  refine go ?_;exact Yt 17 g7
 ·rw [if_pos (dbt q)] at g7;refine go ?_;exact Yt 17 g7
 refine go ?_;refine cdb H (fun h H=>?_) (fun h H=>?_)
 ·refine go ?_;have e:=pur H;subst e;exact rt _
 ·refine go ?_;obtain ⟨x34,g11,H⟩:=bnd H;refine Ya 4 30 34 (.bool x34) (gi q (fun q=>?_) (fun q=>?_)) (fun J=>?_)
  ·rw [if_pos (dt q)] at g11;refine go ?_;obtain ⟨x32,hx32,g11⟩:=bnd g11;refine cl (I2 a0.name _ hx32) ?_;refine go ?_;exact Yt 30 g11
  ·rw [if_neg (df q)] at g11;refine go ?_;exact Yt 30 g11
  refine go ?_;obtain ⟨x44,g13,H⟩:=bnd H;refine Ya 8 36 44 (.bool x44) (giN q (fun q=>?_) (fun q=>?_)) (fun J=>?_)
  ·rw [if_neg (dbf q)] at g13;refine go ?_;obtain ⟨x43,g15,g13⟩:=bnd g13;refine Ya 3 40 43 (.bool x43) (gi q (fun q=>?_) (fun q=>?_)) (fun J=>?_)
   ·refine go ?_;exact Yt 40 g15
   ·refine go ?_;exact Yt 40 g15
   refine go ?_;exact Yt 36 g13
  ·rw [if_pos (dbt q)] at g13;refine go ?_;exact Yt 36 g13
  refine go ?_;refine cdb H (fun h H=>?_) (fun h H=>?_)
  ·refine go ?_;have e:=pur H;subst e;exact rt _
  ·refine go ?_;obtain ⟨x57,g17,H⟩:=bnd H;refine Ya 8 49 57 (.bool x57) (gi q (fun q=>?_) (fun q=>?_)) (fun J=>?_)
   ·rw [if_pos (dt q)] at g17;refine go ?_;obtain ⟨x56,g19,g17⟩:=bnd g17;refine Ya 3 53 56 (.bool x56) (giN q (fun q=>?_) (fun q=>?_)) (fun J=>?_)
    ·refine go ?_;exact Yt 53 g19
    ·refine go ?_;exact Yt 53 g19
    refine go ?_;exact Yt 49 g17
   ·rw [if_neg (df q)] at g17;refine go ?_;exact Yt 49 g17
   refine go ?_;obtain ⟨x67,g21,H⟩:=bnd H;refine Ya 8 59 67 (.bool x67) (giN q (fun q=>?_) (fun q=>?_)) (fun J=>?_)
   ·rw [if_neg (dbf q)] at g21;refine go ?_;obtain ⟨x66,g23,g21⟩:=bnd g21;refine Ya 3 63 66 (.bool x66) (gi q (fun q=>?_) (fun q=>?_)) (fun J=>?_)
    ·refine go ?_;exact Yt 63 g23
    ·refine go ?_;exact Yt 63 g23
    refine go ?_;exact Yt 59 g21
   ·rw [if_pos (dbt q)] at g21;refine go ?_;exact Yt 59 g21
   refine go ?_;refine cdb H (fun h H=>?_) (fun h H=>?_)
   ·refine go ?_;have e:=pur H;subst e;exact rt _
   ·refine go ?_;refine Yf E0 [.v,.v,.v,.v,.v,.v,.v,.v,.v,.v,.v,.v,.v,.v,.v,.v,.v,.v,.v,.v,.v,.v,.v,.v,.v,.v,.v,.v,.v,.v] (by kernel_rfl) ?_;refine go ?_;obtain ⟨x85,g25,H⟩:=bnd H;refine Jb 13 72 85 (.bool x85) (ti q (fun q=>?_) (fun q=>?_)) (fun J=>?_)
    ·rw [if_pos (dt q)] at g25;refine go ?_;obtain ⟨x74,hx74,g25⟩:=bnd g25;refine cv (Yz a0.data _ hx74) ?_;refine go ?_;obtain ⟨x84,g27,g25⟩:=bnd g25;refine Jb 7 77 84 (.bool x84) (tiN q (fun q=>?_) (fun q=>?_)) (fun J=>?_)
     ·rw [if_neg (dbf q)] at g27;refine go ?_;obtain ⟨x79,hx79,g27⟩:=bnd g27;refine cv (BP a0.data _ hx79) ?_;refine go ?_;obtain ⟨x82,hx82,g27⟩:=bnd g27;refine cv (J2 x79 a0.data _ hx82) ?_;refine go ?_;exact Yt 77 g27
     ·rw [if_pos (dbt q)] at g27;refine go ?_;exact Yt 77 g27
     refine go ?_;exact Yt 72 g25
    ·rw [if_neg (df q)] at g25;refine go ?_;exact Yt 72 g25
    refine go ?_;obtain ⟨x97,g29,H⟩:=bnd H;refine Jb 10 87 97 (.bool x97) (tiN q (fun q=>?_) (fun q=>?_)) (fun J=>?_)
    ·rw [if_neg (dbf q)] at g29;refine go ?_;obtain ⟨x96,g31,g29⟩:=bnd g29;refine Jb 5 91 96 (.bool x96) (ti q (fun q=>?_) (fun q=>?_)) (fun J=>?_)
     ·rw [if_neg (dnt q)] at g31;refine go ?_;obtain ⟨x94,hx94,g31⟩:=bnd g31;refine cv (J2 a0.data (Fm.mk 0 zB 0 [] []) _ hx94) ?_;refine go ?_;exact Yt 91 g31
     ·rw [if_pos (dnf q)] at g31;refine go ?_;exact Yt 91 g31
     refine go ?_;exact Yt 87 g29
    ·rw [if_pos (dbt q)] at g29;refine go ?_;exact Yt 87 g29
    refine go ?_;refine cdb H (fun h H=>?_) (fun h H=>?_)
    ·refine go ?_;have e:=pur H;subst e;exact rt _
    ·refine go ?_;obtain ⟨x106,g33,H⟩:=bnd H;refine Ya 4 102 106 (.bool x106) (giN q (fun q=>?_) (fun q=>?_)) (fun J=>?_)
     ·refine go ?_;exact Yt 102 g33
     ·refine go ?_;exact Yt 102 g33
     refine go ?_;have e:=pur H;subst e;exact rt _
theorem Mm:∀(a0:Cor) (a2:Int) (Yo:List Int) (YG:Int) out,Gd a0 a2 Yo YG=some out->∀c,Yh Tryz.f164 0=some c->∀(Q:QT) (tt:Sto) (b1:Nat),(∀(Qaz:List Int),out=Sum.inr Qaz->∀(T:TT) (ss:Sto),T 2=i6 a2/\T 3=.ptr b1 0/\T 7=sf cI Qaz->Fx tt ss [(b1,⟨136,11,[i6 a0.kind,i6 a0.id,.str a0.name,i6 a0.num,sf cI a0.ids,i6 a0.data.kind,.str a0.data.name,i6 a0.data.num,sf cI a0.data.sc,sf KW a0.data.kids,sf ZD a0.kids]⟩)] []->Q (.ex 0) ⟨T,ss⟩)->(∀r,out=Sum.inl r->∀s',IE KX [.tmp 6] (fun r' ss'=>r'=.bool r/\ss'=tt) s'->Q .ret s')->∀(T:TT) (ss:Sto),T 2=i6 a2/\T 3=.ptr b1 0/\T 7=sf cI Yo/\T 8=i6 YG->Fx tt ss [(b1,⟨136,11,[i6 a0.kind,i6 a0.id,.str a0.name,i6 a0.num,sf cI a0.ids,i6 a0.data.kind,.str a0.data.name,i6 a0.data.num,sf cI a0.data.sc,sf KW a0.data.kids,sf ZD a0.kids]⟩)] []->aLp KX c Q ⟨T,ss⟩:=by
 intro a0 a2 Yo YG;revert Yo YG;refine Gd.partial_correctness a0 a2 _ ?_;intro Gd IH Yo YG out H c hc Q tt b1 hE hR T ss tT hF;refine lpx tt hc rfl fun q hX=>go ?_;refine cdp H (fun h H=>?_) (fun h H=>?_)
 ·obtain ⟨x49,f1,H⟩:=bil (g:=cI) (fun _=>rfl) H;refine go1 ?_;obtain ⟨x59,g11,H⟩:=bnd H;refine Ya 6 53 59 (.bool x59) (giN q (fun q=>?_) (fun q=>?_)) (fun J=>?_)
  ·rw [if_neg (df q)] at g11;obtain ⟨x56,f1,g11⟩:=bil (g:=cI) (fun _=>rfl) g11;refine go1 ?_;refine go ?_;exact Yt 53 g11
  ·rw [if_pos (dt q)] at g11;refine go ?_;exact Yt 53 g11
  refine go ?_;obtain ⟨x68,g13,H⟩:=bnd H;refine Ya 7 61 68 (.bool x68) (giN q (fun q=>?_) (fun q=>?_)) (fun J=>?_)
  ·rw [if_neg (dbf q)] at g13;obtain ⟨x65,f1,g13⟩:=bil (g:=cI) (fun _=>rfl) g13;refine go1 ?_;obtain ⟨x67,hx67,g13⟩:=bnd g13;refine cl (G7 Yo x65 _ hx67) ?_;refine go ?_;exact Yt 61 g13
  ·rw [if_pos (dbt q)] at g13;refine go ?_;exact Yt 61 g13
  refine go ?_;refine cdb H (fun h H=>?_) (fun h H=>?_)
  ·refine go ?_;exact wq (hR _ (pur H).symm _ (rt _))
  ·refine go ?_;refine Le E0 [.v,.v,.v,.v,.v,.v,.v,.v,.x,.x,.v] [0,1,3,4,5,6,7,8,2,9,10] (by kernel_rfl) ?_;obtain ⟨x75,f1,H⟩:=bil (g:=cI) (fun _=>rfl) H;refine go1 ?_;have hF:=hF.lit 3 1 (rws cI []) rfl;refine PT (g:=cI) hF 0 H (rdo (c:=false) (g:=cI) (fun _=>rfl)) fun x71 H v15 s16 hF=>?_;refine go ?_;refine Qnk (g:=cI) hF 0 H (rdo (c:=true) (g:=cI) (fun _=>rfl)) fun x78 H s18 hF=>?_;refine go ?_;exact IH  x78 (i64.wrap (YG+1)) _ H _ rfl Q tt b1 hE hR _ _  S hF
 ·refine go ?_;exact wq (hE _ (pur H).symm _ _  S hF)
theorem PE:∀(a0:Cor) (a1:List Int) (a2:Int) r,IW a0 a1 a2=some r->Vm KX 164 [.agg (ZD a0),sf cI a1,i6 a2] (.bool r):=by
 refine IW.partial_correctness _ (motive_2:=fun a0 a2 Iy GV out=>∀c,Yh Tryz.f164 1=some c->∀(Q:QT) (tt:Sto) (b1:Nat),(∀(_u:Unit),out=Sum.inr ()->∀(T:TT) (ss:Sto),0+0=0->Fx tt ss [(b1,⟨136,11,[i6 a0.kind,i6 a0.id,.str a0.name,i6 a0.num,sf cI a0.ids,i6 a0.data.kind,.str a0.data.name,i6 a0.data.num,sf cI a0.data.sc,sf KW a0.data.kids,sf ZD a0.kids]⟩)] []->Q (.ex 2) ⟨T,ss⟩)->(∀r,out=Sum.inl r->∀s',IE KX [.tmp 6] (fun r' ss'=>r'=.bool r/\ss'=tt) s'->Q .ret s')->∀(T:TT) (ss:Sto),T 2=i6 a2/\T 3=.ptr b1 0/\T 7=sf cI Iy/\T 9=i6 GV->Fx tt ss [(b1,⟨136,11,[i6 a0.kind,i6 a0.id,.str a0.name,i6 a0.num,sf cI a0.ids,i6 a0.data.kind,.str a0.data.name,i6 a0.data.num,sf cI a0.data.sc,sf KW a0.data.kids,sf ZD a0.kids]⟩)] []->aLp KX c Q ⟨T,ss⟩) ?_ ?_
 ·intro GY L0 a0 a1 a2 r H;intro ss;refine hdh mixed Tryz.func164 (rs:=[.tmp 6]) fun q tT hF hX=>?_;refine go ?_;refine X8 hF rfl fun b1 ss2 hF=>?_;refine go ?_;obtain ⟨x20,g3,H⟩:=bnd H;refine Ya 7 13 20 (.bool x20) (giN q (fun q=>?_) (fun q=>?_)) (fun J=>?_)
  ·rw [if_neg (df q)] at g3;refine go ?_;obtain ⟨x18,hx18,g3⟩:=bnd g3;refine cl (Nm a0.kind (a0.kids.length:Int) _ hx18) ?_;refine go ?_;exact Yt 13 g3
  ·rw [if_pos (dt q)] at g3;refine go ?_;exact Yt 13 g3
  refine go ?_;obtain ⟨x25,g5,H⟩:=bnd H;refine Ya 3 22 25 (.bool x25) (giN q (fun q=>?_) (fun q=>?_)) (fun J=>?_)
  ·rw [if_neg (dbf q)] at g5;refine go ?_;obtain ⟨x23,hx23,g5⟩:=bnd g5;refine cl (F9 a0 _ hx23) ?_;refine go ?_;exact Yt 22 g5
  ·rw [if_pos (dbt q)] at g5;refine go ?_;exact Yt 22 g5
  refine go ?_;obtain ⟨x37,g7,H⟩:=bnd H;refine Ya 10 27 37 (.bool x37) (giN q (fun q=>?_) (fun q=>?_)) (fun J=>?_)
  ·rw [if_neg (dbf q)] at g7;refine go ?_;obtain ⟨x36,g9,g7⟩:=bnd g7;refine Ya 5 31 36 (.bool x36) (gi q (fun q=>?_) (fun q=>?_)) (fun J=>?_)
   ·rw [if_pos (dt q)] at g9;refine go ?_;obtain ⟨x34,hx34,g9⟩:=bnd g9;refine cl (G7 a1 a0.id _ hx34) ?_;refine go ?_;exact Yt 31 g9
   ·rw [if_neg (df q)] at g9;refine go ?_;exact Yt 31 g9
   refine go ?_;exact Yt 27 g7
  ·rw [if_pos (dbt q)] at g7;refine go ?_;exact Yt 27 g7
  refine go ?_;refine cdb H (fun h H=>?_) (fun h H=>?_)
  ·refine go ?_;have e:=pur H;subst e;exact rt _
  ·refine go ?_;obtain ⟨o19,ho19,H⟩:=bnd H;refine Mm a0 a2 a1 0 _ ho19 _ rfl _ _ b1 ?_ ?_ _ _  S hF
   ·intro Iy he T21 s22 tT hF;have he:=he.symm;subst he
    try dsimp only at H
    refine go ?_;obtain ⟨o24,ho24,H⟩:=bnd H;refine L0 a0 a2 Iy 0 _ ho24 _ rfl _ _ b1 ?_ ?_ _ _  S hF
    ·intro _ he T26 s27 tT hF;have he:=he.symm;subst he
     try dsimp only at H
     refine go ?_;have e:=pur H;subst e;exact rt _
    ·intro r hr s' hs;subst hr;have e:=pur H;subst e;exact hsq hs
   ·intro r hr s' hs;subst hr;have e:=pur H;subst e;exact hsq hs
 ·intro IW GY C0 L0 a0 a2 Iy GV out H c hc Q tt b1 hE hR T ss tT hF;refine lpx tt hc rfl fun q hX=>go ?_;refine cdp H (fun h H=>?_) (fun h H=>?_)
  ·obtain ⟨x89,f1,H⟩:=bil (g:=ZD) Cor.X5 H;refine go1 ?_;obtain ⟨x94,hx94,H⟩:=bnd H;refine cl (C0 x89 Iy (i64.wrap (a2 - 1)) _ hx94) ?_;refine go ?_;refine cdb H (fun h H=>?_) (fun h H=>?_)
   ·refine go ?_;exact wq (hR _ (pur H).symm _ (rt _))
   ·refine go ?_;exact L0 a0 a2 Iy (i64.wrap (GV+1)) _ H _ rfl Q tt b1 hE hR _ _  S hF
  ·refine go ?_;exact wq (hE () (pur H).symm _ _  S hF)
theorem Ml:∀(a0:Cor) r,GX a0=some r->Vm KX 165 [.agg (ZD a0)] (i6 r):=by
 refine GX.partial_correctness _ (motive_2:=fun a0 YB YD out=>∀c,Yh Tryz.f165 0=some c->∀(Q:QT) (tt:Sto) (b1:Nat),(∀(O5:Int),out=O5->∀(T:TT) (ss:Sto),T 3=i6 O5->Fx tt ss [(b1,⟨136,11,[i6 a0.kind,i6 a0.id,.str a0.name,i6 a0.num,sf cI a0.ids,i6 a0.data.kind,.str a0.data.name,i6 a0.data.num,sf cI a0.data.sc,sf KW a0.data.kids,sf ZD a0.kids]⟩)] []->Q (.ex 0) ⟨T,ss⟩)->True->∀(T:TT) (ss:Sto),T 1=.ptr b1 0/\T 3=i6 YB/\T 4=i6 YD->Fx tt ss [(b1,⟨136,11,[i6 a0.kind,i6 a0.id,.str a0.name,i6 a0.num,sf cI a0.ids,i6 a0.data.kind,.str a0.data.name,i6 a0.data.num,sf cI a0.data.sc,sf KW a0.data.kids,sf ZD a0.kids]⟩)] []->aLp KX c Q ⟨T,ss⟩) ?_ ?_
 ·intro W6 L0 a0 r H;intro ss;refine hdh mixed Tryz.func165 (rs:=[.tmp 2]) fun q tT hF hX=>?_;refine go ?_;refine X8 hF rfl fun b1 ss2 hF=>?_;refine go ?_;obtain ⟨o3,ho3,H⟩:=bnd H;refine L0 a0 1 0 _ ho3 _ rfl _ _ b1 ?_ ?_ _ _  S hF
  ·intro Ry he T5 ss6 tT hF;have he:=he.symm;subst he;refine go ?_;have e:=pur H;subst e;exact rt _
  ·trivial
 ·intro GX W6 C0 L0 a0 YB YD out H c hc Q tt b1 hE hR T ss tT hF;refine lpx tt hc rfl fun q hX=>go ?_;refine cdp H (fun h H=>?_) (fun h H=>?_)
  ·obtain ⟨x16,f1,H⟩:=bil (g:=ZD) Cor.X5 H;refine go1 ?_;refine bp H (C0 x16) fun x18 h H=>cl h ?_;refine go ?_;exact L0 a0 (i64.wrap (YB+x18)) (i64.wrap (YD+1)) _ H _ rfl Q tt b1 hE hR _ _  S hF
  ·refine go ?_;exact wq (hE _ (pur H).symm _ _  S hF)
theorem EN:∀(a0:Cor) r,Ib a0=some r->Vm KX 144 [.agg (ZD a0)] (.bool r):=by
 intro a0 r H;intro ss;unfold Ib at H;refine hdh mixed Tryz.func144 (rs:=[.tmp 2]) fun q tT hF hX=>?_;refine go ?_;refine X8 hF rfl fun b1 ss2 hF=>?_;refine go ?_;refine bp H (PE a0 [] 120) fun x5 h H=>cl h ?_;refine go ?_;obtain ⟨x10,g3,H⟩:=bnd H;refine Ya 3 7 10 (.bool x10) (gi q (fun q=>?_) (fun q=>?_)) (fun J=>?_)
 ·rw [if_pos (dbt q)] at g3;refine go ?_;obtain ⟨x8,hx8,g3⟩:=bnd g3;refine cl (Ml a0 _ hx8) ?_;refine go ?_;exact Yt 7 g3
 ·rw [if_neg (dbf q)] at g3;refine go ?_;exact Yt 7 g3
 refine go ?_;have e:=pur H;subst e;exact rt _
theorem Oz:∀(a0:Fm) (a1:Int) r,BW a0 a1=some r->Vm KX 110 [.agg (KW a0),i6 a1] (.tup [.agg (K5 r.1),.agg (ZD r.2.1),i6 r.2.2]):=by
 intro a0 a1 r H;intro ss;unfold BW at H;refine hdh mixed Tryz.func110 (rs:=[.cell 4 42,.cell 5 136,.tmp 6]) fun q tT hF hX=>?_;refine go ?_;refine X8 hF rfl fun b1 ss2 hF=>?_;refine go ?_;refine X8 hF rfl fun b3 ss4 hF=>?_;refine go ?_;refine X8 hF rfl fun b5 ss6 hF=>?_;refine go ?_;refine bp H (Yz a0) fun x11 h H=>cl h ?_;refine go ?_;obtain ⟨x16,g7,H⟩:=bnd H;refine Ya 2 14 16 (.bool x16) (giN q (fun q=>?_) (fun q=>?_)) (fun J=>?_)
 ·refine go ?_;exact Yt 14 g7
 ·refine go ?_;exact Yt 14 g7
 refine go ?_;obtain ⟨x20,g9,H⟩:=bnd H;refine Ya 2 18 20 (.bool x20) (giN q (fun q=>?_) (fun q=>?_)) (fun J=>?_)
 ·refine go ?_;exact Yt 18 g9
 ·refine go ?_;exact Yt 18 g9
 refine go ?_;refine cdb H (fun h H=>?_) (fun h H=>?_)
 ·refine go ?_;refine st hF 1 rfl fun s11 hF=>?_;refine go ?_;refine st hF 0 rfl fun s12 hF=>?_;refine go ?_;have e:=pur H;subst e;exact rt _
 ·refine go ?_;obtain ⟨E,hEq⟩:∃E,E=EE ss6 []:=⟨_,rfl⟩
  have n13:¬E b5:=by rw [hEq];exact K3 (hF.at 0 rfl) (by simp)
  have n14:¬E b3:=by rw [hEq];exact K3 (hF.at 1 rfl) (by simp)
  have n15:¬E b1:=by rw [hEq];exact K3 (hF.at 2 rfl) (by simp)
  refine Yf E [.v,.v,.v,.v,.v,.v,.v,.v,.x,.x,.x,.x,.v] (by kernel_rfl) ?_;have z:=K0 (X4 (hF.at 0 rfl) n13) (K0 (X4 (hF.at 1 rfl) n14) (X4 (hF.at 2 rfl) n15));refine gh ?_;refine bp H (I0 ) fun x24 h H=>cv h ?_;have z:=K0 (X4 (hF.at 0 rfl) n13) (K0 (X4 (hF.at 1 rfl) n14) (X4 (hF.at 2 rfl) n15));refine gh ?_;refine bp H (Ar x24 a0 a1) fun x27 h H=>cv h ?_;have z:=K0 (X4 (hF.at 0 rfl) n13) (K0 (X4 (hF.at 1 rfl) n14) (X4 (hF.at 2 rfl) n15));refine gh ?_;refine Hd hF rfl fun b16 s17 nw18 mo19 hF=>?_;have z:=K0 (X4 (hF.at 1 rfl) n13) (K0 (X4 (hF.at 2 rfl) n14) (X4 (hF.at 3 rfl) n15));refine gh ?_;refine Hd hF rfl fun b20 s21 nw22 mo23 hF=>?_;have z:=K0 (X4 (hF.at 2 rfl) n13) (K0 (X4 (hF.at 3 rfl) n14) (X4 (hF.at 4 rfl) n15));refine gh ?_;refine stK hF 1 (show E _ from ((em0 hEq) _ nw18)) rfl fun s24 hF=>?_;have z:=K0 (X4 (hF.at 2 rfl) n13) (K0 (X4 (hF.at 3 rfl) n14) (X4 (hF.at 4 rfl) n15));refine gh ?_;refine stK hF 0 (show E _ from ((fun x h=>(em0 hEq) x (mo19 x h)) _ nw22)) rfl fun s25 hF=>?_;have z:=K0 (X4 (hF.at 2 rfl) n13) (K0 (X4 (hF.at 3 rfl) n14) (X4 (hF.at 4 rfl) n15));refine gh ?_;refine go ?_;refine cdn H (fun h H=>?_) (fun h H=>?_)
  ·refine go ?_;refine st hF 3 rfl fun s26 hF=>?_;refine go ?_;refine st hF 2 rfl fun s27 hF=>?_;refine go ?_;have e:=pur H;subst e;exact rt _
  ·refine go ?_;refine bp H (EN x27.2.1) fun x37 h H=>cl h ?_;refine go ?_;refine cdb H (fun h H=>?_) (fun h H=>?_)
   ·refine go ?_;refine st hF 3 rfl fun s28 hF=>?_;refine go ?_;refine st hF 2 rfl fun s29 hF=>?_;refine go ?_;have e:=pur H;subst e;exact rt _
   ·refine go ?_;obtain ⟨E,hEq⟩:∃E,E=EE s25 [b3,b5]:=⟨_,rfl⟩
    have n30:¬E b20:=by rw [hEq];exact K3 (hF.at 0 rfl) (nm2 ⟨neL hF 0 3 rfl rfl (by decide),neL hF 0 2 rfl rfl (by decide)⟩)
    have n31:¬E b16:=by rw [hEq];exact K3 (hF.at 1 rfl) (nm2 ⟨neL hF 1 3 rfl rfl (by decide),neL hF 1 2 rfl rfl (by decide)⟩)
    have n32:¬E b1:=by rw [hEq];exact K3 (hF.at 4 rfl) (nm2 ⟨neL hF 4 3 rfl rfl (by decide),neL hF 4 2 rfl rfl (by decide)⟩)
    refine Yf E [.v,.v,.x,.x,.v] (by kernel_rfl) ?_;have z:=K0 (X4 (hF.at 0 rfl) n30) (K0 (X4 (hF.at 1 rfl) n31) (X4 (hF.at 4 rfl) n32));refine gh ?_;refine stK hF 3 (by rw [hEq];exact Zc (by simp)) rfl fun s33 hF=>?_;have z:=K0 (X4 (hF.at 0 rfl) n30) (K0 (X4 (hF.at 1 rfl) n31) (X4 (hF.at 4 rfl) n32));refine gh ?_;refine stK hF 2 (by rw [hEq];exact Zc (by simp)) rfl fun s34 hF=>?_;have z:=K0 (X4 (hF.at 0 rfl) n30) (K0 (X4 (hF.at 1 rfl) n31) (X4 (hF.at 4 rfl) n32));refine gh ?_;refine go ?_;have e:=pur H;subst e;exact rt [.agg [sf KY x27.1.binds,sf Zb x27.1.macs,i6 x27.1.scope,i6 x27.1.id,i6 x27.1.steps],.agg [i6 x27.2.1.kind,i6 x27.2.1.id,.str x27.2.1.name,i6 x27.2.1.num,sf cI x27.2.1.ids,i6 x27.2.1.data.kind,.str x27.2.1.data.name,i6 x27.2.1.data.num,sf cI x27.2.1.data.sc,sf KW x27.2.1.data.kids,sf ZD x27.2.1.kids],i6 0]
theorem Nj:∀(a0:Cor) r,HJ a0=some r->Vm KX 157 [.agg (ZD a0)] (.agg (ZD r)):=by
 refine HJ.partial_correctness _ (motive_2:=fun a0 x16 x19 X6 YD out=>∀c,Yh Tryz.f157 0=some c->∀(Q:QT) (tt:Sto) (b1 b3 b5:Nat),(∀(YS:List Cor),out=YS->∀(T:TT) (ss:Sto) (e0v0:AV),T 2=.ptr b3 0/\T 3=.ptr b5 0->Fx tt ss [(b5,⟨136,11,[i6 a0.kind,i6 a0.id,.str a0.name,i6 a0.num,sf cI x16,i6 x19.kind,.str x19.name,i6 x19.num,sf cI x19.sc,sf KW x19.kids,e0v0]⟩),(b3,⟨136,11,[i6 0,i6 0,.str zB,i6 0,.Yb,i6 0,.str zB,i6 0,.Yb,.Yb,.Yb]⟩),(b1,⟨136,11,[i6 a0.kind,i6 a0.id,.str a0.name,i6 a0.num,sf cI a0.ids,i6 a0.data.kind,.str a0.data.name,i6 a0.data.num,sf cI a0.data.sc,sf KW a0.data.kids,sf ZD a0.kids]⟩)] [⟨e0v0,136,11,rws ZD YS⟩]->Q (.ex 0) ⟨T,ss⟩)->True->∀(T:TT) (ss:Sto) (z0v0:AV),T 1=.ptr b1 0/\T 2=.ptr b3 0/\T 3=.ptr b5 0/\T 4=i6 YD->Fx tt ss [(b5,⟨136,11,[i6 a0.kind,i6 a0.id,.str a0.name,i6 a0.num,sf cI x16,i6 x19.kind,.str x19.name,i6 x19.num,sf cI x19.sc,sf KW x19.kids,z0v0]⟩),(b3,⟨136,11,[i6 0,i6 0,.str zB,i6 0,.Yb,i6 0,.str zB,i6 0,.Yb,.Yb,.Yb]⟩),(b1,⟨136,11,[i6 a0.kind,i6 a0.id,.str a0.name,i6 a0.num,sf cI a0.ids,i6 a0.data.kind,.str a0.data.name,i6 a0.data.num,sf cI a0.data.sc,sf KW a0.data.kids,sf ZD a0.kids]⟩)] [⟨z0v0,136,11,rws ZD X6⟩]->aLp KX c Q ⟨T,ss⟩) ?_ ?_
 ·intro JG L0 a0 r H;intro ss;refine hdh mixed Tryz.func157 (rs:=[.cell 2 136]) fun q tT hF hX=>?_;refine go ?_;refine X8 hF rfl fun b1 ss2 hF=>?_;refine go ?_;refine X8 hF rfl fun b3 ss4 hF=>?_;refine go ?_;refine Yf E0 [.v,.v,.v,.v,.v,.v,.v,.v,.v,.v,.v,.v,.v,.v,.v,.v,.x,.z] (by kernel_rfl) ?_;refine go ?_;obtain ⟨x16,hx16,H⟩:=bnd H;refine Mu (g:=cI) (xs:=[]) (ys:=a0.ids) (fun _=>rfl) (by decide) (by decide) (.inr (by first | rfl | simp only [Y8,Vu,cI,cU,cS,cL])) (.inr ⟨_,by first | rfl | simp only [Y8,Vu,cI,cU,cS,cL]⟩) hx16 ?_;refine go ?_;refine bp H (VQ a0.data) fun x19 h H=>cv h ?_;refine go ?_;refine WH hF rfl fun b5 ss6 hF=>?_;refine go ?_;refine st hF 0 rfl fun s7 hF=>?_;have hF:=hF.nil 136 11;refine go ?_;obtain ⟨o11,ho11,H⟩:=bnd H;refine L0 a0 x16 x19 [] 0 _ ho11 _ rfl _ _ b1 b3 b5 ?_ ?_ _ _ .Yb S hF
  ·intro CA he T13 s14 e12v0 tT hF;have he:=he.symm;subst he;refine go ?_;refine st hF 1 rfl fun s16 hF=>?_;refine go ?_;have e:=pur H;subst e;exact rt _
  ·trivial
 ·intro HJ JG C0 L0 a0 x16 x19 X6 YD out H c hc Q tt b1 b3 b5 hE hR T ss z0v0 tT hF;refine lpx tt hc rfl fun q hX=>go ?_;refine cdp H (fun h H=>?_) (fun h H=>?_)
  ·refine go ?_;refine Yf E0 [.v,.v,.v,.v,.v,.v,.v,.v,.v,.x,.v,.z] (by kernel_rfl) ?_;obtain ⟨x33,f1,H⟩:=bil (g:=ZD) Cor.X5 H;refine go1 ?_;refine bp H (C0 x33) fun x35 h H=>cv h ?_;refine go ?_;refine PT (g:=ZD) hF 0 H (rdo (c:=true) (g:=ZD) Cor.X5) fun x37 H v8 s9 hF=>?_;refine go ?_;refine st hF 0 (hF.cells 0 rfl) fun s10 hF=>?_;refine go ?_;exact L0 a0 x16 x19 x37 (i64.wrap (YD+1)) _ H _ rfl Q tt b1 b3 b5 hE hR _ _ v8 S hF
  ·refine go ?_;exact wq (hE _ (pur H).symm _ _ z0v0 S hF)
theorem Bm:∀(a0:Fm) (a1:Int) r,Hy a0 a1=some r->Vm KX 131 [.agg (KW a0),i6 a1] (.tup [.agg (ZD r.1),i6 r.2]):=by
 intro a0 a1 r H;intro ss;unfold Hy at H;refine hdh mixed Tryz.func131 (rs:=[.cell 4 136,.tmp 5]) fun q tT hF hX=>?_;refine go ?_;refine X8 hF rfl fun b1 ss2 hF=>?_;refine go ?_;refine X8 hF rfl fun b3 ss4 hF=>?_;refine go ?_;refine bp H (Oz a0 a1) fun x12 h H=>cl h ?_;refine go ?_;refine X8 hF rfl fun b5 ss6 hF=>?_;refine go ?_;refine X8 hF rfl fun b7 s8 hF=>?_;refine go ?_;refine st hF 1 rfl fun s9 hF=>?_;refine go ?_;refine st hF 0 rfl fun s10 hF=>?_;refine go ?_;refine bp H (Nj x12.2.1) fun x17 h H=>cl h ?_;refine go ?_;refine st hF 2 rfl fun s11 hF=>?_;refine go ?_;have e:=pur H;subst e;exact rt _
theorem M1:∀(a0:Fm) (a1:Int) r,AN a0 a1=some r->Vm KX 91 [.agg (KW a0),i6 a1] (.tup [sf ZC r.1,i6 r.2]):=by
 intro a0 a1 r H;intro ss;unfold AN at H;refine hdh mixed Tryz.func91 (rs:=[.tmp 4,.tmp 5]) fun q tT hF hX=>?_;refine go ?_;refine X8 hF rfl fun b1 ss2 hF=>?_;refine go ?_;refine bp H (Yz a0) fun x12 h H=>cl h ?_;refine go ?_;obtain ⟨x17,g3,H⟩:=bnd H;refine Ya 2 15 17 (.bool x17) (giN q (fun q=>?_) (fun q=>?_)) (fun J=>?_)
 ·refine go ?_;exact Yt 15 g3
 ·refine go ?_;exact Yt 15 g3
 refine go ?_;obtain ⟨x21,g5,H⟩:=bnd H;refine Ya 2 19 21 (.bool x21) (giN q (fun q=>?_) (fun q=>?_)) (fun J=>?_)
 ·refine go ?_;exact Yt 19 g5
 ·refine go ?_;exact Yt 19 g5
 refine go ?_;refine cdb H (fun h H=>?_) (fun h H=>?_)
 ·refine go ?_;have e:=pur H;subst e;exact rt _
 ·refine go ?_;obtain ⟨E,hEq⟩:∃E,E=EE ss2 []:=⟨_,rfl⟩
  have n7:¬E b1:=by rw [hEq];exact K3 (hF.at 0 rfl) (by simp)
  refine Ld E [.v,.v,.v,.v] [0,1,2,3] 4 9 [.v,.v,.v,.v] [5,6,7,8] [.x,.v,.v] [10,11,12] (by kernel_rfl) ?_;have z:=X4 (hF.at 0 rfl) n7;refine gh ?_;refine bp H (I0 ) fun x24 h H=>cv h ?_;have z:=X4 (hF.at 0 rfl) n7;refine gh ?_;refine ⟨?_,?_⟩
  ·have hF:=hF.lit 28 13 (rws ZC []) rfl;have z:=X4 (hF.at 0 rfl) n7;refine gh ?_;obtain ⟨x28,hx28,H⟩:=bnd H;refine cx (Ck x24 a0 a1 [] _ hx28  (.sl true (rws ZC [])) _ (pre 0 0 1 hF hX)) ?_;rintro _ s8 ⟨t9,rfl,hT,hG⟩
   refine V0 (K8 hT hG (by intro p hp;simp only [Kj,KD,or_false] at hp<;>first | (rcases hp with rfl<;>(rw [hEq];first | (refine Zc ?_;simp;done) | exact Zp rfl))| cases hp)) fun kp11=>?_
   have hF:=DC 0 1 hF hX hT hG;have z:=X4 (hF.at 0 rfl) n7;refine gh ?_;refine Hd hF rfl fun b12 s13 nw14 mo15 hF=>?_;have z:=X4 (hF.at 1 rfl) n7;refine gh ?_;refine stK hF 0 (show E _ from ((Rz kp11 (em0 hEq)) _ nw14)) rfl fun s16 hF=>?_;have z:=X4 (hF.at 1 rfl) n7;refine gh ?_;refine go ?_;refine cdp H (fun h H=>?_) (fun h H=>?_)
   ·refine go ?_;refine bp H (Bm a0 a1) fun x37 h H=>cl h ?_;refine go ?_;refine X8 hF rfl fun b17 s18 hF=>?_;refine go ?_;refine st hF 0 rfl fun s19 hF=>?_;refine go ?_;have e:=pur H;subst e;exact rt _
   ·refine go ?_;have e:=pur H;subst e;exact rt _
  ·have z:=X4 (hF.at 0 rfl) n7;refine gh ?_;refine Hd hF rfl fun b20 s21 nw22 mo23 hF=>?_;have hF:=hF.lit 28 13 (rws ZC []) rfl;have z:=X4 (hF.at 1 rfl) n7;refine gh ?_;obtain ⟨x28,hx28,H⟩:=bnd H;refine cx (Ck x24 a0 a1 [] _ hx28  (.sl true (rws ZC [])) _ (pre 0 0 1 hF hX)) ?_;rintro _ s24 ⟨t25,rfl,hT,hG⟩
   refine V0 (K8 hT hG (by intro p hp;simp only [Kj,KD,or_false] at hp<;>first | (rcases hp with rfl<;>(rw [hEq];first | (refine Zc ?_;simp;done) | exact Zp rfl))| cases hp)) fun kp27=>?_
   have hF:=DC 0 1 hF hX hT hG;have z:=X4 (hF.at 1 rfl) n7;refine gh ?_;refine stK hF 0 (show E _ from ((em0 hEq) _ nw22)) rfl fun s28 hF=>?_;have z:=X4 (hF.at 1 rfl) n7;refine gh ?_;refine go ?_;refine cdp H (fun h H=>?_) (fun h H=>?_)
   ·refine go ?_;refine bp H (Bm a0 a1) fun x37 h H=>cl h ?_;refine go ?_;refine X8 hF rfl fun b29 s30 hF=>?_;refine go ?_;refine st hF 0 rfl fun s31 hF=>?_;refine go ?_;have e:=pur H;subst e;exact rt _
   ·refine go ?_;have e:=pur H;subst e;exact rt _
theorem Cf:∀(a0:Fm) (x14:List Stp × Int) (X6:List Stp) (YM:Int) out,Vf a0 x14 X6 YM=some out->∀c,Yh Tryz.f55 0=some c->∀(Q:QT) (tt0:Sto) (b1:Nat),(∀(YS:List Stp),out=YS->∀(T:TT) (ss tt:Sto) (e0v0:AV),T 7=i6 x14.2/\T 8=e0v0->Tau tt0 [] tt->Fx tt ss [(b1,⟨26,5,[i6 a0.kind,.str a0.name,i6 a0.num,sf cI a0.sc,sf KW a0.kids]⟩)] [⟨e0v0,28,13,rws ZC YS⟩]->Q (.ex 0) ⟨T,ss⟩)->True->∀(T:TT) (ss tt:Sto) (z0v0:AV),T 6=sf ZC x14.1/\T 7=i6 x14.2/\T 8=z0v0/\T 9=i6 YM->Tau tt0 [] tt->Fx tt ss [(b1,⟨26,5,[i6 a0.kind,.str a0.name,i6 a0.num,sf cI a0.sc,sf KW a0.kids]⟩)] [⟨z0v0,28,13,rws ZC X6⟩]->aLp KX c Q ⟨T,ss⟩:=by
 intro a0 x14 X6 YM;revert X6 YM;refine Vf.partial_correctness a0 x14 _ ?_;intro Vf IH X6 YM out H c hc Q tt0 b1 hE hR T ss tt z0v0 tT hX hF;refine lpy hc rfl fun q=>go ?_;refine cdp H (fun h H=>?_) (fun h H=>?_)
 ·obtain ⟨x26,f1,H⟩:=bil (g:=ZC) Stp.X5 H;refine go1 ?_;refine X8 hF rfl fun b3 ss4 hF=>?_;refine go ?_;refine st hF 0 rfl fun ss5 hF=>?_;refine go ?_;refine bp H (VQ x26.use) fun x30 h H=>cl h ?_;refine go ?_;refine st hF 0 rfl fun ss6 hF=>?_;refine go ?_;refine bp H (VQ x26.res) fun x34 h H=>cl h ?_;refine go ?_;refine st hF 0 rfl fun s7 hF=>?_;refine go ?_;refine apd (g:=ZC) hF 0 H (rdo (c:=true) (g:=ZC) Stp.X5) fun x39 H v8 s9 hF=>?_;refine go ?_;exact IH  x39 (i64.wrap (YM+1)) _ H _ rfl Q tt0 b1 hE hR _ _ _ v8 S hX (hF.drop 1 0)
 ·refine go ?_;exact wq (hE _ (pur H).symm _ _ _ z0v0 S hX hF)
theorem Dk:∀(a0:Fm) (a1:Int) r,GI a0 a1=some r->∀   (ss:Sto),Pre ss [] []->Ctr KX 55 [.agg (KW a0),i6 a1] ss (fun r' ss'=>∃(tt':Sto) (w0:AV),r'=.tup [w0,i6 r.2]/\Tau (strip ss []) [] tt'/\Fx tt' ss' [] [⟨w0,28,13,rws ZC r.1⟩]):=by
 intro a0 a1 r H;intro   ss hP;unfold GI at H;refine hdg mixed Tryz.func55 (rs:=[.tmp 4,.tmp 5]) fun q tT=>?_;obtain ⟨hF,hX⟩:=hP.start;generalize strip ss []=tt0 at hF hX ⊢;refine go ?_;refine X8 hF rfl fun b1 ss2 hF=>?_;refine go ?_;refine bp H (M1 a0 a1) fun x14 h H=>cl h ?_;have hF:=hF.lit 28 13 (rws ZC []) rfl;refine go ?_;obtain ⟨o10,ho10,H⟩:=bnd H;refine Cf a0 x14 [] 0 _ ho10 _ rfl _ tt0 b1 ?_ ?_ _ _ _ (.sl true (rws ZC [])) S hX hF
 ·intro Qfi he T12 s13 t14 e11v0 tT hX hF;have he:=he.symm;subst he;refine go ?_;have e:=pur H;subst e;exact rg _ ⟨_,_,rfl,hX,hF.pick [] [0] (by decide) (by decide)⟩
 ·trivial
theorem FM:∀(a0:List Int) r,IV a0=some r->Vm KX 20 [sf cU a0] (sf ZC r):=by
 intro a0 r H;intro ss;unfold IV at H;refine hdh mixed Tryz.func20 (rs:=[.tmp 2]) fun q tT hF hX=>?_;refine go ?_;refine bp H (Nr a0) fun x10 h H=>cl h ?_;refine go ?_;refine X8 hF rfl fun b1 ss2 hF=>?_;refine go ?_;refine st hF 0 rfl fun ss3 hF=>?_;refine go ?_;obtain ⟨x15,hx15,H⟩:=bnd H;refine cx (Dk x10.1 20 _ hx15   _ (pre 0 0 0 hF hX)) ?_;rintro _ ss5 ⟨t6,v4,rfl,hT,hG⟩;have hF:=DC 0 0 hF hX hT hG;refine go ?_;obtain ⟨x19,hx19,H⟩:=bnd H;refine cx (HC a0 _ hx19   _ (pre 0 0 0 hF hX)) ?_;rintro _ s9 ⟨t10,b8,rfl,hT,hG⟩;have nw12:ss5.var b8=none:=(hT.off b8 (by simp)).symm.trans (hG.var _ (Kx ..)).2.1;have hF:=DC 0 0 hF hX hT hG;refine go ?_;obtain ⟨Ao,j14,H⟩:=bnd H;refine VG (fun s'=>∃(T:TT) (ss1:Sto) (y13v0:AV),s'=⟨T,ss1⟩/\(T 5=y13v0/\T 7=.ptr b8 0)/\Fx ss ss1 [(b8,⟨89,2,[sf cU x19.b,i6 x19.p]⟩),(b1,⟨26,5,[i6 x10.1.kind,.str x10.1.name,i6 x10.1.num,sf cI x10.1.sc,sf KW x10.1.kids]⟩)] [⟨y13v0,28,13,rws ZC Ao⟩]) (cdp j14 (fun h j14=>?_) (fun h j14=>?_)) ?_
 ·refine go ?_;obtain ⟨x24n,hx24n,j14⟩:=bnd j14;obtain ⟨b15,k16,hv⟩:=hF.ref 0 rfl hx24n;subst hv;obtain ⟨x24,hx24,j14⟩:=bnd j14;refine Qhj (g:=ZC) hF 0 rfl hx24 (by rfl) fun s17 hF=>?_;refine go ?_;have e:=pur j14;subst e;exact ⟨_,_,(.ref b15 x24.length k16),rfl,S,hF⟩
 ·refine go ?_;have e:=pur j14;subst e;exact ⟨_,_,v4,rfl,S,hF⟩
 ·rintro s' ⟨T18,s19,y13v0,rfl,tT,hF⟩;refine go ?_;refine gi q (fun q=>?_) (fun q=>?_)
  ·rw [if_pos (dt q)] at H;refine go ?_;obtain ⟨Qfa,hx30_1,H⟩:=bnd H;refine cx (Ys 12 x19 _ hx30_1 b8  _ (pre 1 0 0 hF hX)) ?_;rintro _ s26 ⟨t27,rfl,hT,hG⟩;have hF:=DC 1 0 hF hX hT hG;refine go ?_;refine cdp H (fun h H=>?_) (fun h H=>?_)
   ·refine go ?_;obtain ⟨x37,hx37,H⟩:=bnd H;obtain ⟨b29,k30,hv⟩:=hF.ref 0 rfl hx37;subst hv
    try simp only [go_sem,↓reduceIte,K6,Zd,Ze,K7,Zf,Zg,Kl,q,tT,hF.f,hF.m,hF.x hX,Bg (l:=Ao) rfl hx37,Lz hF 0 (sz:=13) (ag:=true) (k:=5) (o:=3) (g:=ZC) (x:=x37) (i:=0) (v:=(.agg [i6 x37.use.kind,.str x37.use.name,i6 x37.use.num,sf cI x37.use.sc,sf KW x37.use.kids])) (by first | rfl | simp) Stp.X5 rfl hx37 (by decide) (by first | rfl | (simp only [sf,i6,zB,cI,cU,cS,cL,cB,Stp.X9,Fm.X9];rfl))]
    obtain ⟨x40,hx40,H⟩:=bnd H;refine cx (Ij x37.use Qfa.2 _ hx40 b8  _ (pre 1 0 0 hF hX)) ?_;rintro _ s31 ⟨t32,rfl,hT,hG⟩;have hF:=DC 1 0 hF hX hT hG;refine go ?_;obtain ⟨x41,hx41,H⟩:=bnd H;refine cx (Ij x40.1 x40.2 _ hx41 b8  _ (pre 1 0 0 hF hX)) ?_;rintro _ s34 ⟨t35,rfl,hT,hG⟩;have hF:=DC 1 0 hF hX hT hG;obtain ⟨x42,hx42,H⟩:=bnd H
    try simp only [go_sem,↓reduceIte,K6,Zd,Ze,K7,Zf,Zg,Kl,q,tT,hF.f,hF.m,hF.x hX,Bg (l:=Ao) ((Dq hF 0 rfl).1.trans (WD _)) hx42]
    refine N9 hF 0 (o:=3) (sz:=13) (k:=5) (v:=(.agg [i6 x41.1.kind,.str x41.1.name,i6 x41.1.num,sf cI x41.1.sc,sf KW x41.1.kids])) (cs:=[i6 x41.1.kind,.str x41.1.name,i6 x41.1.num,sf cI x41.1.sc,sf KW x41.1.kids]) (g:=ZC) (i:=0) (KU x42.id x42.rule x42.scope x41.1 x42.res) Stp.X5 (by first | rfl | simp) rfl hx42 rfl rfl (by decide) (by first | rfl | simp [Hh,cI,cU,cS,cL,cB,Stp.X9,Fm.X9]) fun s37 hF=>?_;have hF:Fx ss s37 [(b8,⟨89,2,[sf cU x41.2.b,i6 x41.2.p]⟩),(b1,⟨26,5,[i6 x10.1.kind,.str x10.1.name,i6 x10.1.num,sf cI x10.1.sc,sf KW x10.1.kids]⟩)] [⟨.ref b29 Ao.length k30,28,13,rws ZC (Ao.set (0:Int).toNat (KU x42.id x42.rule x42.scope x41.1 x42.res))⟩]:=hF;refine go ?_;obtain ⟨x47,hx47,H⟩:=bnd H;refine cx (Y0 [0,3,100] x41.2 _ hx47 b8  _ (pre 1 0 0 hF hX)) ?_;rintro _ s38 ⟨t39,rfl,hT,hG⟩;have hF:=DC 1 0 hF hX hT hG;obtain ⟨x48,hx48,H⟩:=bnd H
    try simp only [go_sem,↓reduceIte,K6,Zd,Ze,K7,Zf,Zg,Kl,q,tT,hF.f,hF.m,hF.x hX,Bg (l:=Ao.set (0:Int).toNat (KU x42.id x42.rule x42.scope x41.1 x42.res)) ((Dq hF 0 rfl).1.trans (WD _)) hx48]
    refine N9 hF 0 (o:=2) (sz:=13) (k:=1) (v:=(i6 x47.1)) (cs:=[i6 x47.1]) (g:=ZC) (i:=0) (KU x48.id x48.rule x47.1 x48.use x48.res) Stp.X5 (by first | rfl | simp) rfl hx48 rfl rfl (by decide) (by first | rfl | simp [Hh,cI,cU,cS,cL,cB,Stp.X9,Fm.X9]) fun s41 hF=>?_;have hF:Fx ss s41 [(b8,⟨89,2,[sf cU x47.2.b,i6 x47.2.p]⟩),(b1,⟨26,5,[i6 x10.1.kind,.str x10.1.name,i6 x10.1.num,sf cI x10.1.sc,sf KW x10.1.kids]⟩)] [⟨.ref b29 Ao.length k30,28,13,rws ZC ((Ao.set (0:Int).toNat (KU x42.id x42.rule x42.scope x41.1 x42.res)).set (0:Int).toNat (KU x48.id x48.rule x47.1 x48.use x48.res))⟩]:=hF;refine go ?_;have e:=pur H;subst e;exact rt _
   ·refine go ?_;have e:=pur H;subst e;exact rt _
  ·rw [if_neg (df q)] at H;refine go ?_;have e:=pur H;subst e;exact rt _
theorem Cw:∀(a0:Fm) (x14:List Int) (X6:List Fm) (YD:Int) out,Vk a0 x14 X6 YD=some out->∀c,Yh Tryz.f58 0=some c->∀(Q:QT) (tt0:Sto) (b1 b3 b5:Nat),(∀(YS:List Fm),out=YS->∀(T:TT) (ss tt:Sto) (e0v0:AV),T 2=.ptr b3 0/\T 3=.ptr b5 0->Tau tt0 [] tt->Fx tt ss [(b5,⟨26,5,[i6 a0.kind,.str a0.name,i6 a0.num,sf cI x14,e0v0]⟩),(b3,⟨26,5,[i6 0,.str zB,i6 0,.Yb,.Yb]⟩),(b1,⟨26,5,[i6 a0.kind,.str a0.name,i6 a0.num,sf cI a0.sc,sf KW a0.kids]⟩)] [⟨e0v0,26,5,rws KW YS⟩]->Q (.ex 0) ⟨T,ss⟩)->True->∀(T:TT) (ss tt:Sto) (z0v0:AV),T 1=.ptr b1 0/\T 2=.ptr b3 0/\T 3=.ptr b5 0/\T 4=i6 YD->Tau tt0 [] tt->Fx tt ss [(b5,⟨26,5,[i6 a0.kind,.str a0.name,i6 a0.num,sf cI x14,z0v0]⟩),(b3,⟨26,5,[i6 0,.str zB,i6 0,.Yb,.Yb]⟩),(b1,⟨26,5,[i6 a0.kind,.str a0.name,i6 a0.num,sf cI a0.sc,sf KW a0.kids]⟩)] [⟨z0v0,26,5,rws KW X6⟩]->aLp KX c Q ⟨T,ss⟩:=by
 intro a0 x14 X6 YD;revert X6 YD;refine Vk.partial_correctness a0 x14 _ ?_;intro Vk IH X6 YD out H c hc Q tt0 b1 b3 b5 hE hR T ss tt z0v0 tT hX hF;refine lpy hc rfl fun q=>go ?_;refine cdp H (fun h H=>?_) (fun h H=>?_)
 ·refine go ?_;refine Yf E0 [.v,.v,.v,.v,.v,.v,.v,.v,.v,.x,.v,.z] (by kernel_rfl) ?_;obtain ⟨x28,f1,H⟩:=bil (g:=KW) Fm.X5 H;refine go1 ?_;refine bp H (VQ x28) fun x30 h H=>cv h ?_;refine go ?_;refine PT (g:=KW) hF 0 H (rdo (c:=true) (g:=KW) Fm.X5) fun x32 H v8 s9 hF=>?_;refine go ?_;refine st hF 0 (hF.cells 0 rfl) fun s10 hF=>?_;refine go ?_;exact IH  x32 (i64.wrap (YD+1)) _ H _ rfl Q tt0 b1 b3 b5 hE hR _ _ _ v8 S hX hF
 ·refine go ?_;exact wq (hE _ (pur H).symm _ _ _ z0v0 S hX hF)
theorem DQ:∀(a0:Fm) r,Hf a0=some r->∀   (ss:Sto),Pre ss [] []->Ctr KX 58 [.agg (KW a0)] ss (fun r' ss'=>∃(tt':Sto) (Qli:AV),r'=.agg [i6 r.kind,.str r.name,i6 r.num,sf cI r.sc,Qli]/\Tau (strip ss []) [] tt'/\Fx tt' ss' [] [⟨Qli,26,5,rws KW r.kids⟩]):=by
 intro a0 r H;intro   ss hP;unfold Hf at H;refine hdg mixed Tryz.func58 (rs:=[.cell 2 26]) fun q tT=>?_;obtain ⟨hF,hX⟩:=hP.start;generalize strip ss []=tt0 at hF hX ⊢;refine go ?_;refine X8 hF rfl fun b1 ss2 hF=>?_;refine go ?_;refine X8 hF rfl fun b3 ss4 hF=>?_;refine go ?_;refine Yf E0 [.v,.v,.v,.v,.v,.v,.v,.v,.v,.v,.v,.x,.z] (by kernel_rfl) ?_;refine go ?_;obtain ⟨x14,hx14,H⟩:=bnd H;refine Mu (g:=cI) (xs:=[]) (ys:=a0.sc) (fun _=>rfl) (by decide) (by decide) (.inr (by first | rfl | simp only [Y8,Vu,cI,cU,cS,cL])) (.inr ⟨_,by first | rfl | simp only [Y8,Vu,cI,cU,cS,cL]⟩) hx14 ?_;refine go ?_;refine WH hF rfl fun b5 ss6 hF=>?_;refine go ?_;refine st hF 0 rfl fun s7 hF=>?_;have hF:=hF.nil 26 5;refine go ?_;obtain ⟨o11,ho11,H⟩:=bnd H;refine Cw a0 x14 [] 0 _ ho11 _ rfl _ tt0 b1 b3 b5 ?_ ?_ _ _ _ .Yb S hX hF
 ·intro CA he T13 s14 t15 e12v0 tT hX hF;have he:=he.symm;subst he;refine go ?_;refine st hF 1 rfl fun s16 hF=>?_;refine go ?_;have e:=pur H;subst e;exact rg _ ⟨_,_,rfl,hX,hF.pick [] [0] (by decide) (by decide)⟩
 ·trivial
theorem L9:∀(a1:Fm) (c0:Rdr) r,HE a1 c0=some r->∀(e0:Nat)  (ss:Sto),Pre ss [(e0,⟨89,2,[sf cU c0.b,i6 c0.p]⟩)] []->Ctr KX 21 [.ptr e0 0,.agg (KW a1)] ss (fun r' ss'=>∃(tt':Sto),r'=.agg (KW r.1)/\Tau (strip ss []) [(e0,⟨89,2,[sf cU r.2.b,i6 r.2.p]⟩)] tt'/\Fx tt' ss' [] []):=by
 refine HE.partial_correctness _ (motive_2:=fun a1 x9 Hr X6 Yo GU I9 out=>∀c,Yh Tryz.f21 0=some c->∀(Q:QT) (tt0:Sto) (e0 b1 b3 b9:Nat),(∀(YS:List Fm) (Cz:List Int) (LH:Int),out=(YS,Cz,LH)->∀(T:TT) (ss tt:Sto) (e0v0:AV),T 4=.ptr b3 0/\T 5=.ptr b9 0->Tau tt0 [(e0,⟨89,2,[sf cU Cz,i6 LH]⟩)] tt->Fx tt ss [(b9,⟨26,5,[i6 x9.kind,.str x9.name,i6 x9.num,sf cI Hr,e0v0]⟩),(b3,⟨26,5,[i6 0,.str zB,i6 0,.Yb,.Yb]⟩),(b1,⟨26,5,[i6 a1.kind,.str a1.name,i6 a1.num,sf cI a1.sc,sf KW a1.kids]⟩)] [⟨e0v0,26,5,rws KW YS⟩]->Q (.ex 0) ⟨T,ss⟩)->True->∀(T:TT) (ss tt:Sto) (z0v0:AV),T 0=.ptr e0 0/\T 4=.ptr b3 0/\T 5=.ptr b9 0/\T 7=i6 Yo->Tau tt0 [(e0,⟨89,2,[sf cU GU,i6 I9]⟩)] tt->Fx tt ss [(b9,⟨26,5,[i6 x9.kind,.str x9.name,i6 x9.num,sf cI Hr,z0v0]⟩),(b3,⟨26,5,[i6 0,.str zB,i6 0,.Yb,.Yb]⟩),(b1,⟨26,5,[i6 a1.kind,.str a1.name,i6 a1.num,sf cI a1.sc,sf KW a1.kids]⟩)] [⟨z0v0,26,5,rws KW X6⟩]->aLp KX c Q ⟨T,ss⟩) ?_ ?_
 ·intro W2 L0 a1 c0 r H;intro e0  ss hP;refine hdg mixed Tryz.func21 (rs:=[.cell 4 26]) fun q tT=>?_;obtain ⟨hF,hX⟩:=hP.start;generalize strip ss []=tt0 at hF hX ⊢;refine go ?_;refine X8 hF rfl fun b1 ss2 hF=>?_;refine go ?_;refine X8 hF rfl fun b3 ss4 hF=>?_;refine go ?_;obtain ⟨x9,hx9,H⟩:=bnd H;refine cx (DQ a1 _ hx9   _ (pre 0 0 0 hF hX)) ?_;rintro _ ss6 ⟨t7,v5,rfl,hT,hG⟩;obtain ⟨t8,hX,hF⟩:=aft 0 0 0 hF hX hT hG;refine go ?_;refine X8 hF rfl fun b9 s10 hF=>?_;refine go ?_;refine st hF 0 rfl fun s11 hF=>?_;refine go ?_;obtain ⟨⟨Hr,Ln,Lo⟩,j13,H⟩:=bnd H;refine VG (fun s'=>∃(T:TT) (ss1 tt1:Sto),s'=⟨T,ss1⟩/\(T 0=.ptr e0 0/\T 4=.ptr b3 0/\T 5=.ptr b9 0)/\Tau tt0 [(e0,⟨89,2,[sf cU Ln,i6 Lo]⟩)] tt1/\Fx tt1 ss1 [(b9,⟨26,5,[i6 x9.kind,.str x9.name,i6 x9.num,sf cI Hr,v5]⟩),(b3,⟨26,5,[i6 0,.str zB,i6 0,.Yb,.Yb]⟩),(b1,⟨26,5,[i6 a1.kind,.str a1.name,i6 a1.num,sf cI a1.sc,sf KW a1.kids]⟩)] [⟨v5,26,5,rws KW x9.kids⟩]) (cdp j13 (fun h j13=>?_) (fun h j13=>?_)) ?_
  ·refine go ?_;obtain ⟨x26,hx26,j13⟩:=bnd j13;refine cx (Ys 7 c0 _ hx26 e0  _ (pre 0 1 0 hF hX)) ?_;rintro _ s14 ⟨t15,rfl,hT,hG⟩;obtain ⟨t16,hX,hF⟩:=aft 0 1 0 hF hX hT hG;obtain ⟨x27,f1,j13⟩:=bll (g:=cI) [[.sl true []],[.sl true [[i6 1]]],[.sl true [[i6 2]]],[.sl true [[i6 1],[i6 2]]],[.sl true [[i6 1],[i6 3]]],[.sl true [[i6 1],[i6 2],[i6 3]]],[.sl true [[i6 99]]]] rfl j13;refine go1 ?_;refine apv (g:=cI) j13 (fun _=>rfl) (rdo (c:=true) (g:=cI) (fun _=>rfl)) fun x29 j13=>?_;refine go ?_;refine st hF 0 rfl fun s17 hF=>?_;refine go ?_;have e:=pur j13
   injection e with e0 e
   injection e with e1 e
   subst e0;subst e1;subst e;exact ⟨_,_,_,rfl,S,hX,hF⟩
  ·refine go ?_;have e:=pur j13
   injection e with e0 e
   injection e with e1 e
   subst e0;subst e1;subst e;exact ⟨_,_,_,rfl,S,hX,hF⟩
  ·rintro s' ⟨T18,s19,t20,rfl,tT,hX,hF⟩;refine go ?_;obtain ⟨o31,ho31,H⟩:=bnd H;refine L0 a1 x9 Hr x9.kids 0 Ln Lo _ ho31 _ rfl _ tt0 e0 b1 b3 b9 ?_ ?_ _ _ _ v5 S hX hF
   ·intro CB Sn So he T33 s34 t35 e32v0 tT hX hF;have he:=he.symm;subst he
    try dsimp only at H
    refine go ?_;refine st hF 1 rfl fun s36 hF=>?_;refine go ?_;have e:=pur H;subst e;exact rg _ ⟨_,rfl,hX,K1 _⟩
   ·trivial
 ·intro HE W2 C0 L0 a1 x9 Hr X6 Yo GU I9 out H c hc Q tt0 e0 b1 b3 b9 hE hR T ss tt z0v0 tT hX hF;refine lpy hc rfl fun q=>go ?_;refine cdp H (fun h H=>?_) (fun h H=>?_)
  ·refine go ?_;obtain ⟨E,hEq⟩:∃E,E=EE ss [e0]:=⟨_,rfl⟩
   have n21:¬E b9:=by rw [hEq];exact K3 (hF.at 0 rfl) (nm1 (neX hF 0 rfl hX 0 rfl))
   have n22:¬E b3:=by rw [hEq];exact K3 (hF.at 1 rfl) (nm1 (neX hF 1 rfl hX 0 rfl))
   have n23:¬E b1:=by rw [hEq];exact K3 (hF.at 2 rfl) (nm1 (neX hF 2 rfl hX 0 rfl))
   refine Yf E [.v,.v,.v,.v,.v,.v,.v,.v,.x,.x,.v,.z] (by kernel_rfl) ?_;have z:=K0 (X4 (hF.at 0 rfl) n21) (K0 (X4 (hF.at 1 rfl) n22) (X4 (hF.at 2 rfl) n23));refine gh ?_;obtain ⟨x45,hx45,H⟩:=bnd H;obtain ⟨b24,k25,hv⟩:=hF.ref 0 rfl hx45;subst hv
   try simp only [go_sem,↓reduceIte,K6,Zd,Ze,K7,Zf,Zg,Kl,q,tT,hF.f,hF.m,hF.x hX,X4 (hF.at 0 rfl) n21,X4 (hF.at 1 rfl) n22,X4 (hF.at 2 rfl) n23,Bg (l:=X6) rfl hx45,Lz hF 0 (p:=Yo.toNat * 5) (sz:=5) (ag:=true) (k:=5) (o:=0) (g:=KW) (x:=x45) (i:=Yo) (v:=(.agg [i6 x45.kind,.str x45.name,i6 x45.num,sf cI x45.sc,sf KW x45.kids])) (by first | rfl | simp) Fm.X5 rfl hx45 (by decide) (by first | rfl | (simp only [sf,i6,zB,cI,cU,cS,cL,cB,Fm.X9];rfl))]
   obtain ⟨x47,hx47,H⟩:=bnd H;refine cx (C0 x45 (Rdr.mk GU I9) _ hx47 e0  _ (pre 0 1 0 hF hX)) ?_;rintro _ s26 ⟨t27,rfl,hT,hG⟩
   refine V0 (K8 hT hG (by intro p hp;simp only [Kj,KD,or_false] at hp<;>first | (rcases hp with rfl<;>(rw [hEq];first | (refine Zc ?_;simp;done) | exact Zp rfl))| cases hp)) fun kp29=>?_
   obtain ⟨t28,hX,hF⟩:=aft 0 1 0 hF hX hT hG;obtain ⟨x48,hx48,H⟩:=bnd H
   try simp only [go_sem,↓reduceIte,K6,Zd,Ze,K7,Zf,Zg,Kl,q,tT,hF.f,hF.m,hF.x hX,X4 (hF.at 0 rfl) n21,X4 (hF.at 1 rfl) n22,X4 (hF.at 2 rfl) n23,Bg (l:=X6) ((Dq hF 0 rfl).1.trans (WD _)) hx48]
   refine N9 hF 0 (o:=0) (sz:=5) (k:=5) (v:=(.agg [i6 x47.1.kind,.str x47.1.name,i6 x47.1.num,sf cI x47.1.sc,sf KW x47.1.kids])) (cs:=[i6 x47.1.kind,.str x47.1.name,i6 x47.1.num,sf cI x47.1.sc,sf KW x47.1.kids]) (g:=KW) (i:=Yo) x47.1 Fm.X5 (by first | rfl | simp) rfl hx48 rfl rfl (by decide) (by first | rfl | simp [Hh,cI,cU,cS,cL,cB,Fm.X9]) fun s30 hF=>?_;have hF:Fx t28 s30 [(b9,⟨26,5,[i6 x9.kind,.str x9.name,i6 x9.num,sf cI Hr,.ref b24 X6.length k25]⟩),(b3,⟨26,5,[i6 0,.str zB,i6 0,.Yb,.Yb]⟩),(b1,⟨26,5,[i6 a1.kind,.str a1.name,i6 a1.num,sf cI a1.sc,sf KW a1.kids]⟩)] [⟨.ref b24 X6.length k25,26,5,rws KW (X6.set Yo.toNat x47.1)⟩]:=hF;have z:=K0 (X4 (hF.at 0 rfl) n21) (K0 (X4 (hF.at 1 rfl) n22) (X4 (hF.at 2 rfl) n23));refine gh ?_;refine go ?_;exact L0 a1 x9 Hr (X6.set Yo.toNat x47.1) (i64.wrap (Yo+1)) x47.2.b x47.2.p _ H _ rfl Q tt0 e0 b1 b3 b9 hE hR _ _ _ (.ref b24 X6.length k25) S hX hF
  ·refine go ?_;exact wq (hE _ _ _ (pur H).symm _ _ _ z0v0 S hX hF)
theorem AM:∀(a0:List Int) r,V2 a0=some r->Vm KX 6 [sf cU a0] (.agg (ZC r)):=by
 intro a0 r H;intro ss;unfold V2 at H;refine hdh mixed Tryz.func6 (rs:=[.cell 2 28]) fun q tT hF hX=>?_;refine go ?_;refine X8 hF rfl fun b1 ss2 hF=>?_;refine go ?_;refine bp H (FM a0) fun x5 h H=>cl h ?_;refine go ?_;refine cdp H (fun h H=>?_) (fun h H=>?_)
 ·refine go ?_;obtain ⟨x10,hx10,H⟩:=bnd H;refine cx (HC a0 _ hx10   _ (pre 0 0 0 hF hX)) ?_;rintro _ ss4 ⟨t5,b3,rfl,hT,hG⟩;have nw7:ss2.var b3=none:=(hT.off b3 (by simp)).symm.trans (hG.var _ (Kx ..)).2.1;have hF:=DC 0 0 hF hX hT hG;refine go ?_;obtain ⟨x12,hx12,H⟩:=bnd H;refine cx (HC a0 _ hx12   _ (pre 0 0 0 hF hX)) ?_;rintro _ s9 ⟨t10,b8,rfl,hT,hG⟩;have nw12:ss4.var b8=none:=(hT.off b8 (by simp)).symm.trans (hG.var _ (Kx ..)).2.1;have hF:=DC 0 0 hF hX hT hG;refine go ?_;obtain ⟨x13,hx13,H⟩:=bnd H;refine cx (Dv 2 x12 _ hx13 b8  _ (pre 1 0 0 hF hX)) ?_;rintro _ s13 ⟨t14,rfl,hT,hG⟩;have hF:=DC 1 0 hF hX hT hG;refine go ?_;have hF:=pck hF [1,0,2] [];obtain ⟨x14,hx14,H⟩:=bnd H;refine cx (L9 x13.1 x10 _ hx14 b3  _ (pre 1 0 0 hF hX)) ?_;rintro _ s16 ⟨t17,rfl,hT,hG⟩;have hF:=DC 1 0 hF hX hT hG;refine go ?_;refine st hF 2 rfl fun s19 hF=>?_;refine go ?_;have e:=pur H;subst e;exact rt _
 ·refine go ?_;obtain ⟨x18,hx18,H⟩:=bnd H;refine cx (HC a0 _ hx18   _ (pre 0 0 0 hF hX)) ?_;rintro _ s21 ⟨t22,b20,rfl,hT,hG⟩;have nw24:ss2.var b20=none:=(hT.off b20 (by simp)).symm.trans (hG.var _ (Kx ..)).2.1;have hF:=DC 0 0 hF hX hT hG;refine go ?_;obtain ⟨x21,hx21,H⟩:=bnd H;refine cx (Ys (x5.length:Int) x18 _ hx21 b20  _ (pre 1 0 0 hF hX)) ?_;rintro _ s25 ⟨t26,rfl,hT,hG⟩;have hF:=DC 1 0 hF hX hT hG;obtain ⟨x22,f1,H⟩:=bil (g:=ZC) Stp.X5 H;refine go1 ?_;refine st hF 1 rfl fun s28 hF=>?_;refine go ?_;have e:=pur H;subst e;exact rt _
set_option maxHeartbeats 1000000 in
set_option maxRecDepth 100000 in
theorem Qhm (s:ByteArray) (c:Int) (w:World) :
  Calls KX 133 #[.string s,.int .u8 c] w fun e w'=>e=.returned (Value.int .i64 (Lib.indexByte s.data.toList c.toNat.toUInt8))/\w'=w:=by
 go_enter Tryz.func133,Tryz.ntmps133
 go_wp2
 rw [run_callFunc_extern Tryz.func158 (by kernel_rfl) (by kernel_rfl) (by kernel_rfl) (e:=Extern.BytealgIndexByte.indexByte) (by kernel_rfl),Lib.run_indexByteString];simp only [Result.andThen];rw [Oper.upon_value]
 go_wp2
 go_ret
 exact ⟨rfl,rfl⟩
set_option maxHeartbeats 1000000 in
theorem Qkr (s:ByteArray) (c:Int) (w:World) :
  Calls KX 96 #[.string s,.int .u8 c] w fun e w'=>e=.returned (Value.int .i64 (Lib.indexByte s.data.toList c.toNat.toUInt8))/\w'=w:=by
 go_enter Tryz.func96,Tryz.ntmps96
 go_wp2_with (go_at_call 133;refine (Qhm _ _ _).mono ?_;rintro e w' ⟨rfl,rfl⟩)
 go_ret
 exact ⟨rfl,rfl⟩
theorem Qkp {P : Program} {f : FuncId} {fn : Func} (hf : P.funcs[f]? = some fn) (hb : fn.body.isNone = false) (hn : (fn.name == "runtime.NumGoroutine") = false) {s : ByteArray} {c r : Int}
  (h:∀w,Calls P f #[.string s,.int .u8 c] w fun e w'=>e=.returned (Value.int .i64 r)/\w'=w):Vm P f [.str s,.int .u8 c] (i6 r):=by
 intro ss;refine ⟨⟨fn,hf,hb,hn⟩,fun w cargs hsim htb hl hr=>?_⟩;have h0:=hr 0 _ rfl;have h1:=hr 1 _ rfl
 match cargs,hl with
 | [x,y],_ =>
  simp only [List.getD_cons_zero,List.getD_cons_succ] at h0 h1;cases h0;cases h1;refine (h w).mono ?_;rintro e w' ⟨rfl,rfl⟩;exact ⟨_,_,ss,rfl,Step.refl _ _,hsim,.int,rfl,rfl⟩
theorem Dn:∀(a0:ByteArray) (a1:Int) r,H4 a0 a1=some r->Vm KX 96 [.str a0,.int .u8 a1] (i6 r):=by
 intro a0 a1 r H
 injection H with H
 subst H;exact Qkp Tryz.func96 (by kernel_rfl) (by kernel_rfl) (Qkr a0 a1)
theorem Aa:∀(a0 a1 a2:Int) r,JP a0 a1 a2=some r->Vm KX 25 [i6 a0,i6 a1,i6 a2] (.bool r):=by
 intro a0 a1 a2 r H;intro ss;unfold JP at H;refine hdh mixed Tryz.func25 (rs:=[.tmp 6]) fun q tT hF hX=>?_;refine go ?_;obtain ⟨x14,g1,H⟩:=bnd H;refine Ya 3 11 14 (.bool x14) (gi q (fun q=>?_) (fun q=>?_)) (fun J=>?_)
 ·refine go ?_;exact Yt 11 g1
 ·refine go ?_;exact Yt 11 g1
 refine go ?_;have e:=pur H;subst e;exact rt _
theorem Dg:∀(a0:ByteArray) (YB:Int) out,Vp a0 YB=some out->∀c,Yh Tryz.f67 0=some c->∀(Q:QT) (tt:Sto),(∀(_u:Unit),out=Sum.inr ()->∀(T:TT) (ss:Sto),T 0=.str a0->Fx tt ss [] []->Q (.ex 0) ⟨T,ss⟩)->(∀r,out=Sum.inl r->∀s',IE KX [.tmp 2] (fun r' ss'=>r'=.bool r/\ss'=tt) s'->Q .ret s')->∀(T:TT) (ss:Sto),T 0=.str a0/\T 3=i6 YB->Fx tt ss [] []->aLp KX c Q ⟨T,ss⟩:=by
 intro a0 YB;revert YB;refine Vp.partial_correctness a0 _ ?_;intro Vp IH YB out H c hc Q tt  hE hR T ss tT hF;refine lpx tt hc rfl fun q hX=>go ?_;refine cdp H (fun h H=>?_) (fun h H=>?_)
 ·obtain ⟨x19,f1,H⟩:=bsx H;refine go1 ?_;refine go ?_;obtain ⟨x26,g3,H⟩:=bnd H;refine Ya 2 24 26 (.bool x26) (gi q (fun q=>?_) (fun q=>?_)) (fun J=>?_)
  ·refine go ?_;exact Yt 24 g3
  ·refine go ?_;exact Yt 24 g3
  refine go ?_;obtain ⟨x31,g5,H⟩:=bnd H;refine Ya 3 28 31 (.bool x31) (giN q (fun q=>?_) (fun q=>?_)) (fun J=>?_)
  ·rw [if_neg (dbf q)] at g5;refine go ?_;obtain ⟨x29,hx29,g5⟩:=bnd g5;refine cl (Dn (ByteArray.mk #[42,63,61,43,60]) x19 _ hx29) ?_;refine go ?_;exact Yt 28 g5
  ·rw [if_pos (dbt q)] at g5;refine go ?_;exact Yt 28 g5
  refine go ?_;refine cdb H (fun h H=>?_) (fun h H=>?_)
  ·refine go ?_;exact IH  (i64.wrap (YB+1)) _ H _ rfl Q tt  hE hR _ _  S hF
  ·refine go ?_;obtain ⟨x46,g7,H⟩:=bnd H;refine Ya 10 36 46 (.bool x46) (gi q (fun q=>?_) (fun q=>?_)) (fun J=>?_)
   ·rw [if_pos (dt q)] at g7;refine go ?_;obtain ⟨x41,g9,g7⟩:=bnd g7;refine Ya 2 39 41 (.bool x41) (gi q (fun q=>?_) (fun q=>?_)) (fun J=>?_)
    ·refine go ?_;exact Yt 39 g9
    ·refine go ?_;exact Yt 39 g9
    refine go ?_;obtain ⟨x45,g11,g7⟩:=bnd g7;refine Ya 2 43 45 (.bool x45) (giN q (fun q=>?_) (fun q=>?_)) (fun J=>?_)
    ·refine go ?_;exact Yt 43 g11
    ·refine go ?_;exact Yt 43 g11
    refine go ?_;exact Yt 36 g7
   ·rw [if_neg (df q)] at g7;refine go ?_;exact Yt 36 g7
   refine go ?_;refine cdb H (fun h H=>?_) (fun h H=>?_)
   ·refine go ?_;exact IH  (i64.wrap (YB+1)) _ H _ rfl Q tt  hE hR _ _  S hF
   ·refine go ?_;exact wq (hR _ (pur H).symm _ (rt _))
 ·refine go ?_;exact wq (hE () (pur H).symm _ _  S hF)
end Go.Proofs.SA
