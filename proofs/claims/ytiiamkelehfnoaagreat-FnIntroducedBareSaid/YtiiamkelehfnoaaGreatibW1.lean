/- Printed by a program of mine: the plain functions that the code computes (D), and the walks that show it (W). -/
import Derived.Test.YtiiamkelehfnoaaGreatGs
import Derived.Test.YtiiamkelehfnoaaGreatSaTy
import Derived.Test.YtiiamkelehfnoaaGreatSf
import Derived.Test.YtiiamkelehfnoaaGreatDf
import Derived.Test.YtiiamkelehfnoaaGreatChecked
import Derived.Lib.Strings
import Derived.Lib.Slices
import Derived.Lib.Walk
import Derived.Lib.Bytealg
import Derived.Test.YtiiamkelehfnoaaGreatibD
import Derived.Test.YtiiamkelehfnoaaGreatibW0
set_option maxRecDepth 100000
set_option maxHeartbeats 2000000
set_option linter.unusedSimpArgs false
set_option linter.unusedVariables false
open Go Go.Proofs Go.Proofs.Shadow
open Fm renaming cells → KY
open _root_.And renaming intro → K2
open Tryz renaming prog → KZ
open Stp renaming cells → ZE, mk → KW
open Xpn renaming cells → K7, mk → KU
open Hit renaming cells → K1
open Cor renaming cells → ZF
open EE renaming not → K5, of → Ze, new → Zr
open Bnd renaming cells → K0
open Mac renaming cells → Zd
open _root_.List renaming not_mem_nil → KD, mem_cons → Kj, mem_cons_self → Kx
open Rul renaming cells → K4
open Fx renaming self → K3, kept → Za
open _root_.Int renaming toNat_natCast → Kl, reduceEq → Zi
open _root_.Nat renaming reduceEqDiff → K8, reduceLeDiff → K9, reduceAdd → Zf, reduceMul → Zg, reduceLT → Zh
open Go.IntKind (i64)
namespace Go.Proofs.SA
theorem Lp (fx0:List Bnd) (fx1:List Fm):(∀(a1 a3:Fm) r,We fx0 a1 fx1 a3=some r->Vr KZ 203 [sf K0 fx0,.agg (KY a1),sf KY fx1,.agg (KY a3)] (.tup [sf K1 r.1,.bool r.2]))/\(∀(a1 a3:List Fm) r,Cx fx0 a1 fx1 a3=some r->Vr KZ 213 [sf K0 fx0,sf KY a1,sf KY fx1,sf KY a3] (.tup [sf K1 r.1,.bool r.2])):=by
 have h:=We.mutual_partial_correctness fx0 fx1 (motive_1:=fun a1 a3 r=>Vr KZ 203 [sf K0 fx0,.agg (KY a1),sf KY fx1,.agg (KY a3)] (.tup [sf K1 r.1,.bool r.2])) (motive_2:=fun a1 a3 r=>Vr KZ 213 [sf K0 fx0,sf KY a1,sf KY fx1,sf KY a3] (.tup [sf K1 r.1,.bool r.2])) (motive_3:=fun a1 a3 WO Ji HD Jw out=>∀c,Yf Tryz.f213 1=some c->∀(Q:QT) (tt:Sto),(∀(PT:List Hit),out=Sum.inr PT->∀(T:TT) (ss:Sto) (e1v0:AV),T 10=e1v0->Fx tt ss [] [⟨e1v0,195,12,rws K1 PT⟩]->Q (.ex 2) ⟨T,ss⟩)->(∀r,out=Sum.inl r->∀s',Aj KZ [.tmp 8,.tmp 9] (fun r' ss'=>r'=.tup [sf K1 r.1,.bool r.2]/\ss'=tt) s'->Q .ret s')->∀(T:TT) (ss:Sto) (z1v0:AV),T 0=sf K0 fx0/\T 1=sf KY a1/\T 2=sf KY fx1/\T 3=sf KY a3/\T 10=z1v0/\T 11=i6 WO/\T 13=i6 HD/\T 14=i6 Jw->Fx tt ss [] [⟨z1v0,195,12,rws K1 Ji⟩]->aLp KZ c Q ⟨T,ss⟩) (motive_4:=fun a1 a3 WO Ji Jw Qdt Nk Ol out=>∀c,Yf Tryz.f213 2=some c->∀(Q:QT) (tt:Sto) (z1v0:AV),(∀(Qlu:List (List Hit)) (Qhg:Int),out=Sum.inr (Qlu,Qhg)->∀(T:TT) (ss:Sto) (e2v1:AV),T 0=sf K0 fx0/\T 1=sf KY a1/\T 2=sf KY fx1/\T 3=sf KY a3/\T 10=z1v0/\T 11=i6 WO/\T 13=i6 Qhg/\T 14=i6 Jw/\T 17=e2v1->Fx tt ss [] [⟨e2v1,169,1,rws (cL K1) Qlu⟩,⟨z1v0,195,12,rws K1 Ji⟩]->Q (.ex 4) ⟨T,ss⟩)->(∀r,out=Sum.inl r->∀s',Aj KZ [.tmp 8,.tmp 9] (fun r' ss'=>r'=.tup [sf K1 r.1,.bool r.2]/\ss'=tt) s'->Q .ret s')->∀(T:TT) (ss:Sto) (z2v1:AV),T 0=sf K0 fx0/\T 1=sf KY a1/\T 2=sf KY fx1/\T 3=sf KY a3/\T 10=z1v0/\T 11=i6 WO/\T 13=i6 Nk/\T 14=i6 Jw/\T 17=z2v1/\T 18=i6 Ol->Fx tt ss [] [⟨z2v1,169,1,rws (cL K1) Qdt⟩,⟨z1v0,195,12,rws K1 Ji⟩]->aLp KZ c Q ⟨T,ss⟩) ?s0 ?s1 ?s2 ?s3
 ·exact ⟨h.1,h.2.1⟩
 ·intro Cx C1 a1 a3 r H;intro ss;refine hdh mixed Tryz.func203 (rs:=[.tmp 8,.tmp 9]) fun q tT hF hX=>?_;refine go ?_;refine X8 hF rfl fun b1 ss2 hF=>?_;refine go ?_;refine X8 hF rfl fun b3 ss4 hF=>?_;refine go ?_;refine cdp H (fun h H=>?_) (fun h H=>?_)
  ·refine go ?_;refine cdp H (fun h H=>?_) (fun h H=>?_)
   ·refine go ?_;have e:=pur H;subst e;exact rt _
   ·refine go ?_;refine bp H (IT fx1 a1) fun x21 h H=>cl h ?_;refine go ?_;refine cdb H (fun h H=>?_) (fun h H=>?_)
    ·refine go ?_;obtain ⟨x31,g5,H⟩:=bnd H;refine Yb 4 27 31 (.bool x31) (gi q (fun q=>?_) (fun q=>?_)) (fun J=>?_)
     ·rw [if_pos (dt q)] at g5;refine go ?_;obtain ⟨x30,hx30,g5⟩:=bnd g5;refine cl (NH fx0 a1 a3 _ hx30) ?_;refine go ?_;exact Yt 27 g5
     ·rw [if_neg (df q)] at g5;refine go ?_;exact Yt 27 g5
     refine go ?_;have e:=pur H;subst e;exact rt _
    ·refine go ?_;have hF:=hF.lit 195 12 (rws K1 []) rfl;refine apw (g:=K1) (rows:=[[i6 a1.kind,.str a1.name,i6 a1.num,sf cI a1.sc,sf KY a1.kids,i6 0,i6 a3.kind,.str a3.name,i6 a3.num,sf cI a3.sc,sf KY a3.kids,.Ya]]) hF 0 H Hit.X6 true rfl (by simp only [sf,i6,zB,Y8,Vy,cI,cU,cS,cL,Hit.X9,Fm.X9,Fm.kind,Fm.name,Fm.num,Fm.sc,Fm.kids,Hit.name,Hit.depth,Hit.one,Hit.many,Cor.kind,Cor.id,Cor.name,Cor.num,Cor.ids,Cor.data,Cor.kids,Val.kind,Val.num,Val.name,Val.items,Val.fn,Val.env,Slt.id,Slt.val,List.flatten_cons,List.flatten_nil,List.append_nil,List.cons_append,List.nil_append];exact (.cons (.refl _) id (.cons (.refl _) id (.cons (.refl _) id (.cons (.refl _) id (.cons (.refl _) id (.cons (.refl _) id (.cons (.refl _) id (.cons (.refl _) id (.cons (.refl _) id (.cons (.refl _) id (.cons (.refl _) id (.cons .Ya (fun _=>rfl) .nil))))))))))))) fun x37 H v7 s8 hF=>?_;refine go ?_;have e:=pur H;subst e;exact rt _
  ·refine go ?_;refine cdp H (fun h H=>?_) (fun h H=>?_)
   ·refine go ?_;refine bp H (Ga a1 a3) fun x44 h H=>cl h ?_;refine go ?_;have e:=pur H;subst e;exact rt _
   ·refine go ?_;refine cdn H (fun h H=>?_) (fun h H=>?_)
    ·refine go ?_;have e:=pur H;subst e;exact rt _
    ·refine go ?_;refine bp H (C1 a1.kids a3.kids) fun x55 h H=>cl h ?_;refine go ?_;have e:=pur H;subst e;exact rt _
 ·intro VZ L1 a1 a3 r H;intro ss;refine hdh mixed Tryz.func213 (rs:=[.tmp 8,.tmp 9]) fun q tT hF hX=>?_;refine go ?_;obtain ⟨o1,ho1,H⟩:=bnd H;refine FB fx0 a1 fx1 a3 (-1) 0 _ ho1 _ rfl _ _  ?_ ?_ _ _  S hF
  ·intro WO he T3 ss4 tT hF;have he:=he.symm;subst he;refine go ?_;obtain ⟨x44,g6,H⟩:=bnd H;refine Yb 5 39 44 (.bool x44) (gi q (fun q=>?_) (fun q=>?_)) (fun J=>?_)
   ·refine go ?_;exact Yt 39 g6
   ·refine go ?_;exact Yt 39 g6
   refine go ?_;obtain ⟨x56,g8,H⟩:=bnd H;refine Yb 10 46 56 (.bool x56) (giN q (fun q=>?_) (fun q=>?_)) (fun J=>?_)
   ·rw [if_neg (dbf q)] at g8;refine go ?_;obtain ⟨x55,g10,g8⟩:=bnd g8;refine Yb 6 49 55 (.bool x55) (gi q (fun q=>?_) (fun q=>?_)) (fun J=>?_)
    ·refine go ?_;exact Yt 49 g10
    ·refine go ?_;exact Yt 49 g10
    refine go ?_;exact Yt 46 g8
   ·rw [if_pos (dbt q)] at g8;refine go ?_;exact Yt 46 g8
   refine go ?_;refine cdb H (fun h H=>?_) (fun h H=>?_)
   ·refine go ?_;have e:=pur H;subst e;exact rt _
   ·have hF:=hF.lit 195 12 (rws K1 []) rfl;refine go ?_;obtain ⟨o27,ho27,H⟩:=bnd H;refine L1 a1 a3 WO [] 0 0 _ ho27 _ rfl _ _  ?_ ?_ _ _ (.sl true (rws K1 [])) S hF
    ·intro S7 he T29 s30 e28v0 tT hF;have he:=he.symm;subst he
     try dsimp only at H
     refine go ?_;have e:=pur H;subst e;exact rt _
    ·intro r hr s' hs;subst hr;have e:=pur H;subst e;exact hsq hs
  ·trivial
 ·intro We VZ JN C0 L1 L0 a1 a3 WO Ji HD Jw out H c hc Q tt  hE hR T ss z1v0 tT hF;refine lpx tt hc rfl fun q hX=>go ?_;refine cdp H (fun h H=>?_) (fun h H=>?_)
  ·obtain ⟨x66,f1,H⟩:=bil (g:=KY) Fm.X6 H;refine go1 ?_;refine bp H (Vw x66) fun x68 h H=>cl h ?_;refine go ?_;refine cdb H (fun h H=>?_) (fun h H=>?_)
   ·refine go ?_;exact L1 a1 a3 WO Ji HD (i64.wrap (Jw+1)) _ H _ rfl Q tt  hE hR _ _ z1v0 S hF
   ·refine go ?_;refine cdn H (fun h H=>?_) (fun h H=>?_)
    ·refine go ?_;refine Ye E0 [.v,.v,.v,.v,.v,.v,.v,.v,.v,.v,.v,.v,.v,.v,.v,.v] (by kernel_rfl) ?_;obtain ⟨x76,f1,H⟩:=bil (g:=KY) Fm.X6 H;obtain ⟨x81,f2,H⟩:=bil (g:=KY) Fm.X6 H;refine go2 ?_;refine bp H (C0 x76 x81) fun x83 h H=>cv h ?_;refine go ?_;refine cdb H (fun h H=>?_) (fun h H=>?_)
     ·refine go ?_;exact wq (hR _ (pur H).symm _ (rt _))
     ·refine go ?_;refine apd (g:=K1) hF 0 H (rdo (c:=false) (g:=K1) Hit.X6) fun x91 H v12 s13 hF=>?_;refine go ?_;exact L1 a1 a3 WO x91 (i64.wrap (HD+1)) (i64.wrap (Jw+1)) _ H _ rfl Q tt  hE hR _ _ v12 S hF
    ·have hF:=hF.lit 169 1 (rws (cL K1) []) rfl;refine go ?_;obtain ⟨o16,ho16,H⟩:=bnd H;refine L0 a1 a3 WO Ji Jw [] HD (i64.wrap ((a3.length:Int) - (i64.wrap ((a1.length:Int) - 2)))) _ ho16 _ rfl _ _ z1v0 ?_ ?_ _ _ (.sl true (rws (cL K1) [])) S hF
     ·intro PQ Mc he T18 s19 e17v1 tT hF;have he:=he.symm;subst he
      try dsimp only at H
      obtain ⟨x131,f1,H⟩:=bil (g:=KY) Fm.X6 H;refine go1 ?_;obtain ⟨x135,hx135,H⟩:=bnd H;obtain ⟨s21,hF,hw22,hb23,hz24⟩:=frz hF 0;refine Qdz (O6 x131 fx1 PQ _ hx135 _) (by (try simp only [sf,i6,zB,Fm.X9]);exact (.cons (Wk.sub hb23 _) id (.cons (Wk.sub hb23 _) id (.cons hw22 (fun _=>rfl) .nil)))) hb23 ?_;rintro _ _ ⟨rfl,rfl⟩;refine go ?_;refine apd (g:=K1) hF 0 H (rdo (c:=false) (g:=K1) Hit.X6) fun x136 H v25 s26 hF=>?_;refine go ?_;exact L1 a1 a3 WO x136 Mc (i64.wrap (Jw+1)) _ H _ rfl Q tt  hE hR _ _ v25 S hF
     ·intro r hr s' hs;subst hr;exact wq (hR _ (pur H).symm _ hs)
  ·refine go ?_;exact wq (hE _ (pur H).symm _ _ z1v0 S hF)
 ·intro We JN C0 L0 a1 a3 WO Ji Jw Qdt Nk Ol out H c hc Q tt z1v0 hE hR T ss z2v1 tT hF;refine lpx tt hc rfl fun q hX=>go ?_;refine cdp H (fun h H=>?_) (fun h H=>?_)
  ·refine go ?_;refine Ye E0 [.v,.v,.v,.v,.v,.v,.v,.v,.v,.v,.v,.v,.v,.v,.v,.v] (by kernel_rfl) ?_;obtain ⟨x109,f1,H⟩:=bil (g:=KY) Fm.X6 H;obtain ⟨x114,f2,H⟩:=bil (g:=KY) Fm.X6 H;refine go2 ?_;refine bp H (C0 x109 x114) fun x116 h H=>cv h ?_;refine go ?_;refine cdb H (fun h H=>?_) (fun h H=>?_)
   ·refine go ?_;exact wq (hR _ (pur H).symm _ (rt _))
   ·refine go ?_;refine apd (g:=(cL K1)) hF 0 H (rdo (c:=true) (g:=(cL K1)) (fun _=>rfl)) fun x125 H v14 s15 hF=>?_;refine go ?_;exact L0 a1 a3 WO Ji Jw x125 (i64.wrap (Nk+1)) (i64.wrap (Ol - 1)) _ H _ rfl Q tt z1v0 hE hR _ _ v14 S hF
  ·refine go ?_;exact wq (hE _ _ (pur H).symm _ _ z2v1 S hF)
theorem Dj:∀(a0:List Bnd) (a1:Fm) (a2:List Fm) (a3:Fm) r,We a0 a1 a2 a3=some r->Vr KZ 203 [sf K0 a0,.agg (KY a1),sf KY a2,.agg (KY a3)] (.tup [sf K1 r.1,.bool r.2]):=fun a0 a1 a2 a3=>(Lp a0 a2).1 a1 a3
theorem DG:∀(a0:List Bnd) (a1:List Rul) (a2:List Fm) (a3:Fm) (Y0:Int) out,VH a0 a1 a2 a3 Y0=some out->∀c,Yf Tryz.f185 0=some c->∀(Q:QT) (tt:Sto) (b1:Nat),(∀(_u:Unit),out=Sum.inr ()->∀(T:TT) (ss:Sto),0+0=0->Fx tt ss [(b1,⟨26,5,[i6 a3.kind,.str a3.name,i6 a3.num,sf cI a3.sc,sf KY a3.kids]⟩)] []->Q (.ex 0) ⟨T,ss⟩)->(∀r,out=Sum.inl r->∀s',Aj KZ [.tmp 8,.tmp 9] (fun r' ss'=>r'=.tup [i6 r.1,.bool r.2]/\ss'=tt) s'->Q .ret s')->∀(T:TT) (ss:Sto),T 0=sf K0 a0/\T 1=sf K4 a1/\T 2=sf KY a2/\T 7=.ptr b1 0/\T 10=i6 Y0->Fx tt ss [(b1,⟨26,5,[i6 a3.kind,.str a3.name,i6 a3.num,sf cI a3.sc,sf KY a3.kids]⟩)] []->aLp KZ c Q ⟨T,ss⟩:=by
 intro a0 a1 a2 a3 Y0;revert Y0;refine VH.partial_correctness a0 a1 a2 a3 _ ?_;intro VH IH Y0 out H c hc Q tt b1 hE hR T ss tT hF;refine lpx tt hc rfl fun q hX=>go ?_;refine cdp H (fun h H=>?_) (fun h H=>?_)
 ·refine go ?_;refine Ye E0 [.v,.v,.v,.v,.v,.v,.v,.v,.v,.v,.v,.v,.v,.v] (by kernel_rfl) ?_;obtain ⟨x37,f1,H⟩:=bil (g:=K4) Rul.X6 H;refine go1 ?_;refine bp H (Dj a0 x37.pat a2 a3) fun x42 h H=>cv h ?_;refine go ?_;refine cdb H (fun h H=>?_) (fun h H=>?_)
  ·refine go ?_;exact wq (hR _ (pur H).symm _ (rt _))
  ·refine go ?_;exact IH  (i64.wrap (Y0+1)) _ H _ rfl Q tt b1 hE hR _ _  S hF
 ·refine go ?_;exact wq (hE () (pur H).symm _ _  S hF)
theorem H9:∀(a0:List Bnd) (a1:List Rul) (a2:List Fm) (a3:Fm) r,JF a0 a1 a2 a3=some r->Vr KZ 185 [sf K0 a0,sf K4 a1,sf KY a2,.agg (KY a3)] (.tup [i6 r.1,.bool r.2]):=by
 intro a0 a1 a2 a3 r H;intro ss;unfold JF at H;refine hdh mixed Tryz.func185 (rs:=[.tmp 8,.tmp 9]) fun q tT hF hX=>?_;refine go ?_;refine X8 hF rfl fun b1 ss2 hF=>?_;refine go ?_;refine bp H (Ac a0) fun x14 h H=>cl h ?_;refine go ?_;obtain ⟨x21,g3,H⟩:=bnd H;refine Yb 4 17 21 (.bool x21) (giN q (fun q=>?_) (fun q=>?_)) (fun J=>?_)
 ·rw [if_neg (dbf q)] at g3;refine go ?_;obtain ⟨x19,hx19,g3⟩:=bnd g3;refine cl (Dl a1 a2 _ hx19) ?_;refine go ?_;exact Yt 17 g3
 ·rw [if_pos (dbt q)] at g3;refine go ?_;exact Yt 17 g3
 refine go ?_;obtain ⟨x26,g5,H⟩:=bnd H;refine Yb 3 23 26 (.bool x26) (giN q (fun q=>?_) (fun q=>?_)) (fun J=>?_)
 ·rw [if_neg (dbf q)] at g5;refine go ?_;obtain ⟨x24,hx24,g5⟩:=bnd g5;refine cl (YA a3 _ hx24) ?_;refine go ?_;exact Yt 23 g5
 ·rw [if_pos (dbt q)] at g5;refine go ?_;exact Yt 23 g5
 refine go ?_;refine cdb H (fun h H=>?_) (fun h H=>?_)
 ·refine go ?_;have e:=pur H;subst e;exact rt _
 ·refine go ?_;obtain ⟨o7,ho7,H⟩:=bnd H;refine DG a0 a1 a2 a3 0 _ ho7 _ rfl _ _ b1 ?_ ?_ _ _  S hF
  ·intro _ he T9 s10 tT hF;have he:=he.symm;subst he
   try dsimp only at H
   refine go ?_;have e:=pur H;subst e;exact rt _
  ·intro r hr s' hs;subst hr;have e:=pur H;subst e;exact hsq hs
theorem Ef:(∀(a0:Fm) r,VV a0=some r->Vr KZ 219 [.agg (KY a0)] (.agg (KY r)))/\(∀(a0:List Fm) r,He a0=some r->Vr KZ 221 [sf KY a0] (sf KY r)):=by
 have h:=VV.mutual_partial_correctness  (motive_1:=fun a0 r=>Vr KZ 219 [.agg (KY a0)] (.agg (KY r))) (motive_2:=fun a0 r=>Vr KZ 221 [sf KY a0] (sf KY r)) (motive_3:=fun a0 X5 YR out=>∀c,Yf Tryz.f221 0=some c->∀(Q:QT) (tt:Sto),(∀(YT:List Fm),out=YT->∀(T:TT) (ss:Sto) (e0v0:AV),T 3=e0v0->Fx tt ss [] [⟨e0v0,26,5,rws KY YT⟩]->Q (.ex 0) ⟨T,ss⟩)->True->∀(T:TT) (ss:Sto) (z0v0:AV),T 3=z0v0/\T 7=sf KY a0/\T 8=i6 (a0.length:Int)/\T 9=i6 YR->Fx tt ss [] [⟨z0v0,26,5,rws KY X5⟩]->aLp KZ c Q ⟨T,ss⟩) ?s0 ?s1 ?s2
 ·exact ⟨h.1,h.2.1⟩
 ·intro He C1 a0 r H;intro ss;refine hdh mixed Tryz.func219 (rs:=[.cell 2 26]) fun q tT hF hX=>?_;refine go ?_;refine X8 hF rfl fun b1 ss2 hF=>?_;refine go ?_;refine X8 hF rfl fun b3 ss4 hF=>?_;refine go ?_;refine apv (g:=cI) H (fun _=>rfl) (rdo (c:=false) (g:=cI) (fun _=>rfl)) fun x6 H=>?_;refine go ?_;refine st hF 1 rfl fun ss5 hF=>?_;refine go ?_;refine bp H (C1 a0.kids) fun x10 h H=>cl h ?_;refine go ?_;refine st hF 1 rfl fun ss6 hF=>?_;refine go ?_;refine st hF 0 rfl fun s7 hF=>?_;refine go ?_;have e:=pur H;subst e;exact rt _
 ·intro Vi L0 a0 r H;intro ss;refine hdh mixed Tryz.func221 (rs:=[.tmp 2]) fun q tT hF hX=>?_;have hF:=hF.lit 26 5 (rws KY []) rfl;refine go ?_;obtain ⟨o6,ho6,H⟩:=bnd H;refine L0 a0 [] 0 _ ho6 _ rfl _ _  ?_ ?_ _ _ (.sl true (rws KY [])) S hF
  ·intro Qcf he T8 s9 e7v0 tT hF;have he:=he.symm;subst he;refine go ?_;have e:=pur H;subst e;exact rt _
  ·trivial
 ·intro VV Vi C0 L0 a0 X5 YR out H c hc Q tt  hE hR T ss z0v0 tT hF;refine lpx tt hc rfl fun q hX=>go ?_;refine cdp H (fun h H=>?_) (fun h H=>?_)
  ·obtain ⟨x11,f1,H⟩:=bil (g:=KY) Fm.X6 H;refine go1 ?_;refine X8 hF rfl fun b1 ss2 hF=>?_;refine go ?_;refine st hF 0 rfl fun ss3 hF=>?_;refine go ?_;refine bp H (C0 x11) fun x15 h H=>cl h ?_;refine go ?_;refine apd (g:=KY) hF 0 H (rdo (c:=true) (g:=KY) Fm.X6) fun x17 H v4 ss5 hF=>?_;refine go ?_;exact L0 a0 x17 (i64.wrap (YR+1)) _ H _ rfl Q tt  hE hR _ _ v4 S (hF.drop 1 0)
  ·refine go ?_;exact wq (hE _ (pur H).symm _ _ z0v0 S hF)
theorem BG:∀(a0:Fm) r,VV a0=some r->Vr KZ 219 [.agg (KY a0)] (.agg (KY r)):=Ef.1
theorem EK:∀(a0:Rul) r,HO a0=some r->Vr KZ 215 [.agg (K4 a0)] (.agg (K4 r)):=by
 intro a0 r H;intro ss;unfold HO at H;refine hdh mixed Tryz.func215 (rs:=[.cell 2 116]) fun q tT hF hX=>?_;refine go ?_;refine X8 hF rfl fun b1 ss2 hF=>?_;refine go ?_;refine X8 hF rfl fun b3 ss4 hF=>?_;refine go ?_;refine bp H (BG a0.pat) fun x5 h H=>cl h ?_;refine go ?_;refine st hF 1 rfl fun ss5 hF=>?_;refine go ?_;refine bp H (BG a0.tpl) fun x9 h H=>cl h ?_;refine go ?_;refine st hF 1 rfl fun ss6 hF=>?_;refine go ?_;refine st hF 0 rfl fun s7 hF=>?_;refine go ?_;have e:=pur H;subst e;exact rt _
theorem BX:∀(a0 X5:List Rul) (YR:Int) out,Va a0 X5 YR=some out->∀c,Yf Tryz.f210 0=some c->∀(Q:QT) (tt:Sto),(∀(YT:List Rul),out=YT->∀(T:TT) (ss:Sto) (e0v0:AV),T 3=e0v0->Fx tt ss [] [⟨e0v0,116,10,rws K4 YT⟩]->Q (.ex 0) ⟨T,ss⟩)->True->∀(T:TT) (ss:Sto) (z0v0:AV),T 3=z0v0/\T 7=sf K4 a0/\T 8=i6 (a0.length:Int)/\T 9=i6 YR->Fx tt ss [] [⟨z0v0,116,10,rws K4 X5⟩]->aLp KZ c Q ⟨T,ss⟩:=by
 intro a0 X5 YR;revert X5 YR;refine Va.partial_correctness a0 _ ?_;intro Va IH X5 YR out H c hc Q tt  hE hR T ss z0v0 tT hF;refine lpx tt hc rfl fun q hX=>go ?_;refine cdp H (fun h H=>?_) (fun h H=>?_)
 ·obtain ⟨x11,f1,H⟩:=bil (g:=K4) Rul.X6 H;refine go1 ?_;refine X8 hF rfl fun b1 ss2 hF=>?_;refine go ?_;refine st hF 0 rfl fun ss3 hF=>?_;refine go ?_;refine bp H (EK x11) fun x15 h H=>cl h ?_;refine go ?_;refine apd (g:=K4) hF 0 H (rdo (c:=true) (g:=K4) Rul.X6) fun x17 H v4 ss5 hF=>?_;refine go ?_;exact IH  x17 (i64.wrap (YR+1)) _ H _ rfl Q tt  hE hR _ _ v4 S (hF.drop 1 0)
 ·refine go ?_;exact wq (hE _ (pur H).symm _ _ z0v0 S hF)
theorem CM:∀(a0:List Rul) r,J1 a0=some r->Vr KZ 210 [sf K4 a0] (sf K4 r):=by
 intro a0 r H;intro ss;unfold J1 at H;refine hdh mixed Tryz.func210 (rs:=[.tmp 2]) fun q tT hF hX=>?_;have hF:=hF.lit 116 10 (rws K4 []) rfl;refine go ?_;obtain ⟨o6,ho6,H⟩:=bnd H;refine BX a0 [] 0 _ ho6 _ rfl _ _  ?_ ?_ _ _ (.sl true (rws K4 [])) S hF
 ·intro Qcf he T8 s9 e7v0 tT hF;have he:=he.symm;subst he;refine go ?_;have e:=pur H;subst e;exact rt _
 ·trivial
theorem DV:∀(a0 a1:Fm) r,J5 a0 a1=some r->Vr KZ 220 [.agg (KY a0),.agg (KY a1)] (.bool r):=by
 intro a0 a1;revert a0;refine J5.partial_correctness a1 (motive_1:=fun a0 r=>Vr KZ 220 [.agg (KY a0),.agg (KY a1)] (.bool r)) (motive_2:=fun a0 Yh out=>∀c,Yf Tryz.f220 0=some c->∀(Q:QT) (tt:Sto) (b1 b3:Nat),(∀(_u:Unit),out=Sum.inr ()->∀(T:TT) (ss:Sto),0+0=0->Fx tt ss [(b3,⟨26,5,[i6 a1.kind,.str a1.name,i6 a1.num,sf cI a1.sc,sf KY a1.kids]⟩),(b1,⟨26,5,[i6 a0.kind,.str a0.name,i6 a0.num,sf cI a0.sc,sf KY a0.kids]⟩)] []->Q (.ex 0) ⟨T,ss⟩)->(∀r,out=Sum.inl r->∀s',Aj KZ [.tmp 4] (fun r' ss'=>r'=.bool r/\ss'=tt) s'->Q .ret s')->∀(T:TT) (ss:Sto),T 2=.ptr b1 0/\T 3=.ptr b3 0/\T 5=i6 Yh->Fx tt ss [(b3,⟨26,5,[i6 a1.kind,.str a1.name,i6 a1.num,sf cI a1.sc,sf KY a1.kids]⟩),(b1,⟨26,5,[i6 a0.kind,.str a0.name,i6 a0.num,sf cI a0.sc,sf KY a0.kids]⟩)] []->aLp KZ c Q ⟨T,ss⟩) ?_ ?_
 ·intro W9 L0 a0 r H;intro ss;refine hdh mixed Tryz.func220 (rs:=[.tmp 4]) fun q tT hF hX=>?_;refine go ?_;refine X8 hF rfl fun b1 ss2 hF=>?_;refine go ?_;refine X8 hF rfl fun b3 ss4 hF=>?_;refine go ?_;obtain ⟨x13,g5,H⟩:=bnd H;refine Yb 3 10 13 (.bool x13) (gi q (fun q=>?_) (fun q=>?_)) (fun J=>?_)
  ·rw [if_pos (dt q)] at g5;refine go ?_;obtain ⟨x12,hx12,g5⟩:=bnd g5;refine cl (Ga a0 a1 _ hx12) ?_;refine go ?_;exact Yt 10 g5
  ·rw [if_neg (df q)] at g5;refine go ?_;exact Yt 10 g5
  refine go ?_;refine cdb H (fun h H=>?_) (fun h H=>?_)
  ·refine go ?_;have e:=pur H;subst e;exact rt _
  ·refine go ?_;obtain ⟨o7,ho7,H⟩:=bnd H;refine L0 a0 0 _ ho7 _ rfl _ _ b1 b3 ?_ ?_ _ _  S hF
   ·intro _ he T9 s10 tT hF;have he:=he.symm;subst he
    try dsimp only at H
    refine go ?_;have e:=pur H;subst e;exact rt _
   ·intro r hr s' hs;subst hr;have e:=pur H;subst e;exact hsq hs
 ·intro J5 W9 C0 L0 a0 Yh out H c hc Q tt b1 b3 hE hR T ss tT hF;refine lpx tt hc rfl fun q hX=>go ?_;refine cdp H (fun h H=>?_) (fun h H=>?_)
  ·refine go ?_;refine Ye E0 [.v,.v,.v,.v,.v,.v,.v] (by kernel_rfl) ?_;obtain ⟨x24,f1,H⟩:=bil (g:=KY) Fm.X6 H;refine go1 ?_;refine bp H (C0 x24) fun x27 h H=>cv h ?_;refine go ?_;refine cdb H (fun h H=>?_) (fun h H=>?_)
   ·refine go ?_;exact wq (hR _ (pur H).symm _ (rt _))
   ·refine go ?_;exact L0 a0 (i64.wrap (Yh+1)) _ H _ rfl Q tt b1 b3 hE hR _ _  S hF
  ·refine go ?_;exact wq (hE () (pur H).symm _ _  S hF)
theorem EM:∀(a0:Fm) (a1:List Hit) (Yh YI:Int) out,V0 a0 a1 Yh YI=some out->∀c,Yf Tryz.f216 0=some c->∀(Q:QT) (tt:Sto) (b1:Nat),(∀(Qca:Int),out=Sum.inr Qca->∀(T:TT) (ss:Sto),T 5=i6 Qca->Fx tt ss [(b1,⟨26,5,[i6 a0.kind,.str a0.name,i6 a0.num,sf cI a0.sc,sf KY a0.kids]⟩)] []->Q (.ex 0) ⟨T,ss⟩)->(∀r,out=Sum.inl r->∀s',Aj KZ [.tmp 4] (fun r' ss'=>r'=i6 r/\ss'=tt) s'->Q .ret s')->∀(T:TT) (ss:Sto),T 1=sf K1 a1/\T 2=.ptr b1 0/\T 5=i6 Yh/\T 6=i6 YI->Fx tt ss [(b1,⟨26,5,[i6 a0.kind,.str a0.name,i6 a0.num,sf cI a0.sc,sf KY a0.kids]⟩)] []->aLp KZ c Q ⟨T,ss⟩:=by
 intro a0 a1 Yh YI;revert Yh YI;refine V0.partial_correctness a0 a1 _ ?_;intro V0 IH Yh YI out H c hc Q tt b1 hE hR T ss tT hF;refine lpx tt hc rfl fun q hX=>go ?_;refine cdp H (fun h H=>?_) (fun h H=>?_)
 ·refine go ?_;refine Ye E0 [.v,.v,.v,.v,.v,.v,.v,.v,.v,.v,.v,.v,.v,.v,.v,.v] (by kernel_rfl) ?_;obtain ⟨x15,f1,H⟩:=bil (g:=K1) Hit.X6 H;refine go1 ?_;obtain ⟨x28,g3,H⟩:=bnd H;refine Jb 8 20 28 (.bool x28) (tiN q (fun q=>?_) (fun q=>?_)) (fun J=>?_)
  ·rw [if_neg (df q)] at g3;obtain ⟨x23,f1,g3⟩:=bil (g:=K1) Hit.X6 g3;refine go1 ?_;obtain ⟨x26,hx26,g3⟩:=bnd g3;refine cv (DV a0 x23.name _ hx26) ?_;refine go ?_;exact Yt 20 g3
  ·rw [if_pos (dt q)] at g3;refine go ?_;exact Yt 20 g3
  refine go ?_;refine cdb H (fun h H=>?_) (fun h H=>?_)
  ·refine go ?_;exact IH  Yh (i64.wrap (YI+1)) _ H _ rfl Q tt b1 hE hR _ _  S hF
  ·refine go ?_;obtain ⟨x40,g5,H⟩:=bnd H;refine Yb 8 32 40 (.bool x40) (gi q (fun q=>?_) (fun q=>?_)) (fun J=>?_)
   ·rw [if_pos (dt q)] at g5;obtain ⟨x35,f1,g5⟩:=bil (g:=K1) Hit.X6 g5;refine go1 ?_;refine go ?_;exact Yt 32 g5
   ·rw [if_neg (df q)] at g5;refine go ?_;exact Yt 32 g5
   refine go ?_;refine cdb H (fun h H=>?_) (fun h H=>?_)
   ·refine go ?_;exact wq (hR _ (pur H).symm _ (rt _))
   ·obtain ⟨x43,f1,H⟩:=bil (g:=K1) Hit.X6 H;refine go1 ?_;refine go ?_;exact IH  (x43.many.length:Int) (i64.wrap (YI+1)) _ H _ rfl Q tt b1 hE hR _ _  S hF
 ·refine go ?_;exact wq (hE _ (pur H).symm _ _  S hF)
theorem MM:∀(a0:Fm) (a1:List Hit) r,IV a0 a1=some r->Vr KZ 216 [.agg (KY a0),sf K1 a1] (i6 r):=by
 intro a0 a1 r H;intro ss;unfold IV at H;refine hdh mixed Tryz.func216 (rs:=[.tmp 4]) fun q tT hF hX=>?_;refine go ?_;refine X8 hF rfl fun b1 ss2 hF=>?_;refine go ?_;obtain ⟨o7,ho7,H⟩:=bnd H;refine EM a0 a1 (-1) 0 _ ho7 _ rfl _ _ b1 ?_ ?_ _ _  S hF
 ·intro Qix he T9 s10 tT hF;have he:=he.symm;subst he
  try dsimp only at H
  refine go ?_;have e:=pur H;subst e;exact rt _
 ·intro r hr s' hs;subst hr;have e:=pur H;subst e;exact hsq hs
theorem Lu:∀(a0:Fm) (a1:List Hit) (a2:Int) (X5:List Hit) (YL:Int) out,JD a0 a1 a2 X5 YL=some out->∀c,Yf Tryz.f217 0=some c->∀(Q:QT) (tt:Sto) (b1:Nat),(∀(YT:List Hit),out=YT->∀(T:TT) (ss:Sto) (e0v0:AV),T 7=e0v0->Fx tt ss [(b1,⟨26,5,[i6 a0.kind,.str a0.name,i6 a0.num,sf cI a0.sc,sf KY a0.kids]⟩)] [⟨e0v0,195,12,rws K1 YT⟩]->Q (.ex 0) ⟨T,ss⟩)->True->∀(T:TT) (ss:Sto) (z0v0:AV),T 1=sf K1 a1/\T 2=i6 a2/\T 3=.ptr b1 0/\T 7=z0v0/\T 8=i6 YL->Fx tt ss [(b1,⟨26,5,[i6 a0.kind,.str a0.name,i6 a0.num,sf cI a0.sc,sf KY a0.kids]⟩)] [⟨z0v0,195,12,rws K1 X5⟩]->aLp KZ c Q ⟨T,ss⟩:=by
 intro a0 a1 a2 X5 YL;revert X5 YL;refine JD.partial_correctness a0 a1 a2 _ ?_;intro JD IH X5 YL out H c hc Q tt b1 hE hR T ss z0v0 tT hF;refine lpx tt hc rfl fun q hX=>go ?_;refine cdp H (fun h H=>?_) (fun h H=>?_)
 ·obtain ⟨x19,f1,H⟩:=bil (g:=K1) Hit.X6 H;refine go1 ?_;refine X8 hF rfl fun b3 ss4 hF=>?_;refine go ?_;refine st hF 0 rfl fun ss5 hF=>?_;refine go ?_;obtain ⟨x29,g6,H⟩:=bnd H;refine Yb 4 25 29 (.bool x29) (gi q (fun q=>?_) (fun q=>?_)) (fun J=>?_)
  ·rw [if_pos (dt q)] at g6;refine go ?_;obtain ⟨x28,hx28,g6⟩:=bnd g6;refine cl (DV a0 x19.name _ hx28) ?_;refine go ?_;exact Yt 25 g6
  ·rw [if_neg (df q)] at g6;refine go ?_;exact Yt 25 g6
  refine go ?_;obtain ⟨⟨M7,M8,E1,E2,M9,Na,Nb,Nc,Nd,Nf,Ng,Nh⟩,j9,H⟩:=bnd H;refine VL (fun s'=>∃(T:TT) (ss1:Sto),s'=⟨T,ss1⟩/\(T 1=sf K1 a1/\T 2=i6 a2/\T 3=.ptr b1 0/\T 7=z0v0/\T 8=i6 YL/\T 9=.ptr b3 0)/\Fx tt ss1 [(b3,⟨195,12,[i6 M7,.str M8,i6 M9,sf cI Na,sf KY Nb,i6 Nc,i6 Nd,.str Nf,i6 Ng,sf cI Nh,sf KY E1,sf K1 E2]⟩),(b1,⟨26,5,[i6 a0.kind,.str a0.name,i6 a0.num,sf cI a0.sc,sf KY a0.kids]⟩)] [⟨z0v0,195,12,rws K1 X5⟩]) (cdb j9 (fun h j9=>?_) (fun h j9=>?_)) ?_
  ·obtain ⟨x33,f1,j9⟩:=bil (g:=K1) Hit.X6 j9;refine go1 ?_;refine st hF 0 rfl fun s10 hF=>?_;refine go ?_;have e:=pur j9
   injection e with e0 e
   injection e with e1 e
   injection e with e2 e
   injection e with e3 e
   injection e with e4 e
   injection e with e5 e
   injection e with e6 e
   injection e with e7 e
   injection e with e8 e
   injection e with e9 e
   injection e with e10 e
   subst e0;subst e1;subst e2;subst e3;subst e4;subst e5;subst e6;subst e7;subst e8;subst e9;subst e10;subst e;exact ⟨_,_,rfl,S,hF⟩
  ·refine go ?_;have e:=pur j9
   injection e with e0 e
   injection e with e1 e
   injection e with e2 e
   injection e with e3 e
   injection e with e4 e
   injection e with e5 e
   injection e with e6 e
   injection e with e7 e
   injection e with e8 e
   injection e with e9 e
   injection e with e10 e
   subst e0;subst e1;subst e2;subst e3;subst e4;subst e5;subst e6;subst e7;subst e8;subst e9;subst e10;subst e;exact ⟨_,_,rfl,S,hF⟩
  ·rintro s' ⟨T11,s12,rfl,tT,hF⟩;refine go ?_;refine apd (g:=K1) hF 0 H (rdo (c:=true) (g:=K1) Hit.X6) fun x38 H v14 s15 hF=>?_;refine go ?_;exact IH  x38 (i64.wrap (YL+1)) _ H _ rfl Q tt b1 hE hR _ _ v14 S (hF.drop 1 0)
 ·refine go ?_;exact wq (hE _ (pur H).symm _ _ z0v0 S hF)
theorem O7:∀(a0:Fm) (a1:List Hit) (a2:Int) r,A0 a0 a1 a2=some r->Vr KZ 217 [.agg (KY a0),sf K1 a1,i6 a2] (sf K1 r):=by
 intro a0 a1 a2 r H;intro ss;unfold A0 at H;refine hdh mixed Tryz.func217 (rs:=[.tmp 6]) fun q tT hF hX=>?_;refine go ?_;refine X8 hF rfl fun b1 ss2 hF=>?_;have hF:=hF.lit 195 12 (rws K1 []) rfl;refine go ?_;obtain ⟨o16,ho16,H⟩:=bnd H;refine Lu a0 a1 a2 [] 0 _ ho16 _ rfl _ _ b1 ?_ ?_ _ _ (.sl true (rws K1 [])) S hF
 ·intro Qhe he T18 s19 e17v0 tT hF;have he:=he.symm;subst he;refine go ?_;have e:=pur H;subst e;exact rt _
 ·trivial
theorem NL:∀(a0:Fm) (a1:List Hit) r,IM a0 a1=some r->Vr KZ 211 [.agg (KY a0),sf K1 a1] (.tup [.agg (KY r.1),.bool r.2]):=by
 refine IM.partial_correctness _ (motive_2:=fun a0 a1 x45 X5 YL YR out=>∀c,Yf Tryz.f211 0=some c->∀(Q:QT) (tt:Sto) (b1 b3 b12:Nat),(∀(YT:List Fm),out=Sum.inr YT->∀(T:TT) (ss:Sto) (e0v0:AV),T 4=.ptr b3 0/\T 7=.ptr b12 0->Fx tt ss [(b12,⟨26,5,[i6 a0.kind,.str a0.name,i6 a0.num,sf cI x45,e0v0]⟩),(b3,⟨26,5,[i6 0,.str zB,i6 0,.Ya,.Ya]⟩),(b1,⟨26,5,[i6 a0.kind,.str a0.name,i6 a0.num,sf cI a0.sc,sf KY a0.kids]⟩)] [⟨e0v0,26,5,rws KY YT⟩]->Q (.ex 0) ⟨T,ss⟩)->(∀r,out=Sum.inl r->∀s',Aj KZ [.cell 4 26,.tmp 5] (fun r' ss'=>r'=.tup [.agg (KY r.1),.bool r.2]/\ss'=tt) s'->Q .ret s')->∀(T:TT) (ss:Sto) (z0v0:AV),T 1=sf K1 a1/\T 2=.ptr b1 0/\T 4=.ptr b3 0/\T 7=.ptr b12 0/\T 8=i6 YL/\T 9=i6 YR->Fx tt ss [(b12,⟨26,5,[i6 a0.kind,.str a0.name,i6 a0.num,sf cI x45,z0v0]⟩),(b3,⟨26,5,[i6 0,.str zB,i6 0,.Ya,.Ya]⟩),(b1,⟨26,5,[i6 a0.kind,.str a0.name,i6 a0.num,sf cI a0.sc,sf KY a0.kids]⟩)] [⟨z0v0,26,5,rws KY X5⟩]->aLp KZ c Q ⟨T,ss⟩) (motive_3:=fun a0 a1 x45 YR x74 Im Ji Ht WD out=>∀c,Yf Tryz.f211 1=some c->∀(Q:QT) (tt:Sto) (b1 b3 b12:Nat),(∀(PT:List Fm) (Qce:Int),out=Sum.inr (PT,Qce)->∀(T:TT) (ss:Sto) (e1v0:AV),T 1=sf K1 a1/\T 2=.ptr b1 0/\T 4=.ptr b3 0/\T 7=.ptr b12 0/\T 8=i6 Qce/\T 9=i6 YR->Fx tt ss [(b12,⟨26,5,[i6 a0.kind,.str a0.name,i6 a0.num,sf cI x45,e1v0]⟩),(b3,⟨26,5,[i6 0,.str zB,i6 0,.Ya,.Ya]⟩),(b1,⟨26,5,[i6 a0.kind,.str a0.name,i6 a0.num,sf cI a0.sc,sf KY a0.kids]⟩)] [⟨e1v0,26,5,rws KY PT⟩]->Q (.ex 2) ⟨T,ss⟩)->(∀r,out=Sum.inl r->∀s',Aj KZ [.cell 4 26,.tmp 5] (fun r' ss'=>r'=.tup [.agg (KY r.1),.bool r.2]/\ss'=tt) s'->Q .ret s')->∀(T:TT) (ss:Sto) (z1v0:AV),T 1=sf K1 a1/\T 2=.ptr b1 0/\T 4=.ptr b3 0/\T 7=.ptr b12 0/\T 8=i6 WD/\T 9=i6 YR/\T 10=i6 Im/\T 11=.bool x74/\T 12=i6 Ht->Fx tt ss [(b12,⟨26,5,[i6 a0.kind,.str a0.name,i6 a0.num,sf cI x45,z1v0]⟩),(b3,⟨26,5,[i6 0,.str zB,i6 0,.Ya,.Ya]⟩),(b1,⟨26,5,[i6 a0.kind,.str a0.name,i6 a0.num,sf cI a0.sc,sf KY a0.kids]⟩)] [⟨z1v0,26,5,rws KY Ji⟩]->aLp KZ c Q ⟨T,ss⟩) ?_ ?_ ?_
 ·intro Wo L1 a0 a1 r H;intro ss;refine hdh mixed Tryz.func211 (rs:=[.cell 4 26,.tmp 5]) fun q tT hF hX=>?_;refine go ?_;refine X8 hF rfl fun b1 ss2 hF=>?_;refine go ?_;refine X8 hF rfl fun b3 ss4 hF=>?_;refine go ?_;obtain ⟨Qds,j6,H⟩:=bnd H;refine VL (fun s'=>∃(T:TT) (ss1:Sto),s'=⟨T,ss1⟩/\(T 1=sf K1 a1/\T 2=.ptr b1 0/\T 4=.ptr b3 0/\T 6=i6 Qds)/\Fx ss ss1 [(b3,⟨26,5,[i6 0,.str zB,i6 0,.Ya,.Ya]⟩),(b1,⟨26,5,[i6 a0.kind,.str a0.name,i6 a0.num,sf cI a0.sc,sf KY a0.kids]⟩)] []) (cdp j6 (fun h j6=>?_) (fun h j6=>?_)) ?_
  ·refine go ?_;obtain ⟨x21,hx21,j6⟩:=bnd j6;refine cl (DU a1 a0 _ hx21) ?_;refine go ?_;have e:=pur j6;subst e;exact ⟨_,_,rfl,S,hF⟩
  ·refine go ?_;have e:=pur j6;subst e;exact ⟨_,_,rfl,S,hF⟩
  ·rintro s' ⟨T7,s8,rfl,tT,hF⟩;refine go ?_;refine cdp H (fun h H=>?_) (fun h H=>?_)
   ·refine go ?_;obtain ⟨E,hEq⟩:∃E,E=EE s8 [b3]:=⟨_,rfl⟩
    have n10:¬E b1:=by rw [hEq];exact K5 (hF.at 1 rfl) (nm1 (neL hF 1 0 rfl rfl (by decide)))
    refine Ye E [.v,.v,.v,.v,.v,.v,.v,.v,.v,.v,.v,.v,.x,.v] (by kernel_rfl) ?_;obtain ⟨x26,f1,H⟩:=bil (g:=K1) Hit.X6 H;have z:=X4 (hF.at 1 rfl) n10;refine gh1 ?_;refine bp H (VW x26.one) fun x29 h H=>cv h ?_;obtain ⟨x32,f1,H⟩:=bil (g:=K1) Hit.X6 H;have z:=X4 (hF.at 1 rfl) n10;refine gh1 ?_;refine stK hF 0 (by rw [hEq];exact Ze (by simp)) rfl fun s11 hF=>?_;have z:=X4 (hF.at 1 rfl) n10;refine gh ?_;refine go ?_;have e:=pur H;subst e;exact rt [.agg [i6 x29.kind,.str x29.name,i6 x29.num,sf cI x29.sc,sf KY x29.kids],.bool (decide (x32.depth=0))]
   ·refine go ?_;refine Ye E0 [.v,.v,.v,.v,.v,.v,.v,.v,.v,.v,.v,.x,.z] (by kernel_rfl) ?_;refine go ?_;obtain ⟨x45,hx45,H⟩:=bnd H;refine M1 (g:=cI) (xs:=[]) (ys:=a0.sc) (fun _=>rfl) (by decide) (by decide) (.inr (by first | rfl | simp only [Y8,Vy,cI,cU,cS,cL])) (.inr ⟨_,by first | rfl | simp only [Y8,Vy,cI,cU,cS,cL]⟩) hx45 ?_;refine go ?_;refine WQ hF rfl fun b12 s13 hF=>?_;refine go ?_;refine st hF 0 rfl fun s14 hF=>?_;have hF:=hF.nil 26 5;refine go ?_;obtain ⟨o42,ho42,H⟩:=bnd H;refine L1 a0 a1 x45 [] 0 0 _ ho42 _ rfl _ _ b1 b3 b12 ?_ ?_ _ _ .Ya S hF
    ·intro Th he T44 s45 e43v0 tT hF;have he:=he.symm;subst he
     try dsimp only at H
     refine go ?_;refine st hF 1 rfl fun s47 hF=>?_;refine go ?_;have e:=pur H;subst e;exact rt _
    ·intro r hr s' hs;subst hr;have e:=pur H;subst e;exact hsq hs
 ·intro Wo Wp L1 L0 a0 a1 x45 X5 YL YR out H c hc Q tt b1 b3 b12 hE hR T ss z0v0 tT hF;refine lpx tt hc rfl fun q hX=>go ?_;refine cdp H (fun h H=>?_) (fun h H=>?_)
  ·obtain ⟨x57,f1,H⟩:=bil (g:=KY) Fm.X6 H;refine go1 ?_;refine bp H (Vw x57) fun x59 h H=>cl h ?_;refine go ?_;refine cdb H (fun h H=>?_) (fun h H=>?_)
   ·refine go ?_;exact L1 a0 a1 x45 X5 YL (i64.wrap (YR+1)) _ H _ rfl Q tt b1 b3 b12 hE hR _ _ z0v0 S hF
   ·refine go ?_;obtain ⟨x74,g15,H⟩:=bnd H;refine Yb 7 67 74 (.bool x74) (gi q (fun q=>?_) (fun q=>?_)) (fun J=>?_)
    ·rw [if_pos (dt q)] at g15;obtain ⟨x71,f1,g15⟩:=bil (g:=KY) Fm.X6 g15;refine go1 ?_;obtain ⟨x73,hx73,g15⟩:=bnd g15;refine cl (Vw x71 _ hx73) ?_;refine go ?_;exact Yt 67 g15
    ·rw [if_neg (df q)] at g15;refine go ?_;exact Yt 67 g15
    refine go ?_;obtain ⟨Im,j18,H⟩:=bnd H;refine VL (fun s'=>∃(T:TT) (ss1:Sto),s'=⟨T,ss1⟩/\(T 1=sf K1 a1/\T 2=.ptr b1 0/\T 4=.ptr b3 0/\T 7=.ptr b12 0/\T 8=i6 YL/\T 9=i6 YR/\T 10=i6 Im/\T 11=.bool x74)/\Fx tt ss1 [(b12,⟨26,5,[i6 a0.kind,.str a0.name,i6 a0.num,sf cI x45,z0v0]⟩),(b3,⟨26,5,[i6 0,.str zB,i6 0,.Ya,.Ya]⟩),(b1,⟨26,5,[i6 a0.kind,.str a0.name,i6 a0.num,sf cI a0.sc,sf KY a0.kids]⟩)] [⟨z0v0,26,5,rws KY X5⟩]) (cdb j18 (fun h j18=>?_) (fun h j18=>?_)) ?_
    ·obtain ⟨x79,f1,j18⟩:=bil (g:=KY) Fm.X6 j18;refine go1 ?_;obtain ⟨x82,hx82,j18⟩:=bnd j18;refine cl (MM x79 a1 _ hx82) ?_;refine go ?_;have e:=pur j18;subst e;exact ⟨_,_,rfl,S,hF⟩
    ·refine go ?_;have e:=pur j18;subst e;exact ⟨_,_,rfl,S,hF⟩
    ·rintro s' ⟨T19,s20,rfl,tT,hF⟩;refine go ?_;refine cdp H (fun h H=>?_) (fun h H=>?_)
     ·refine go ?_;refine st hF 1 rfl fun s22 hF=>?_;refine go ?_;exact wq (hR _ (pur H).symm _ (rt _))
     ·refine go ?_;obtain ⟨o37,ho37,H⟩:=bnd H;refine L0 a0 a1 x45 YR x74 Im X5 0 YL _ ho37 _ rfl _ _ b1 b3 b12 ?_ ?_ _ _ z0v0 S hF
      ·intro DM Md he T39 s40 e38v0 tT hF;have he:=he.symm;subst he
       try dsimp only at H
       refine go ?_;exact L1 a0 a1 x45 DM Md (i64.wrap (YR+1)) _ H _ rfl Q tt b1 b3 b12 hE hR _ _ e38v0 S hF
      ·intro r hr s' hs;subst hr;exact wq (hR _ (pur H).symm _ hs)
  ·refine go ?_;exact wq (hE _ (pur H).symm _ _ z0v0 S hF)
 ·intro IM Wp C0 L0 a0 a1 x45 YR x74 Im Ji Ht WD out H c hc Q tt b1 b3 b12 hE hR T ss z1v0 tT hF;refine lpx tt hc rfl fun q hX=>go ?_;refine cdp H (fun h H=>?_) (fun h H=>?_)
  ·refine go ?_;obtain ⟨Pk,j24,H⟩:=bnd H;refine VL (fun s'=>∃(T:TT) (ss1:Sto),s'=⟨T,ss1⟩/\(T 1=sf K1 a1/\T 2=.ptr b1 0/\T 4=.ptr b3 0/\T 7=.ptr b12 0/\T 8=i6 WD/\T 9=i6 YR/\T 10=i6 Im/\T 11=.bool x74/\T 12=i6 Ht/\T 13=sf K1 Pk)/\Fx tt ss1 [(b12,⟨26,5,[i6 a0.kind,.str a0.name,i6 a0.num,sf cI x45,z1v0]⟩),(b3,⟨26,5,[i6 0,.str zB,i6 0,.Ya,.Ya]⟩),(b1,⟨26,5,[i6 a0.kind,.str a0.name,i6 a0.num,sf cI a0.sc,sf KY a0.kids]⟩)] [⟨z1v0,26,5,rws KY Ji⟩]) (cdb j24 (fun h j24=>?_) (fun h j24=>?_)) ?_
   ·obtain ⟨x96,f1,j24⟩:=bil (g:=KY) Fm.X6 j24;refine go1 ?_;obtain ⟨x100,hx100,j24⟩:=bnd j24;refine cl (O7 x96 a1 Ht _ hx100) ?_;refine go ?_;have e:=pur j24;subst e;exact ⟨_,_,rfl,S,hF⟩
   ·refine go ?_;have e:=pur j24;subst e;exact ⟨_,_,rfl,S,hF⟩
   ·rintro s' ⟨T25,s26,rfl,tT,hF⟩;obtain ⟨x105,f1,H⟩:=bil (g:=KY) Fm.X6 H;refine go1 ?_;refine bp H (C0 x105 Pk) fun x108 h H=>cl h ?_;refine go ?_;refine X8 hF rfl fun b28 s29 hF=>?_;refine go ?_;refine st hF 0 rfl fun s30 hF=>?_;refine go ?_;refine bp H (Dg x108.1) fun x113 h H=>cl h ?_;refine go ?_;obtain ⟨x120,g31,H⟩:=bnd H;refine Yb 2 118 120 (.bool x120) (giN q (fun q=>?_) (fun q=>?_)) (fun J=>?_)
    ·refine go ?_;exact Yt 118 g31
    ·refine go ?_;exact Yt 118 g31
    refine go ?_;refine cdb H (fun h H=>?_) (fun h H=>?_)
    ·refine go ?_;refine st hF 2 rfl fun s33 hF=>?_;refine go ?_;exact wq (hR _ (pur H).symm _ (rt _))
    ·refine go ?_;refine apd (g:=KY) hF 0 H (rdo (c:=true) (g:=KY) Fm.X6) fun x126 H v34 s35 hF=>?_;refine go ?_;refine st hF 1 (hF.cells 0 rfl) fun s36 hF=>?_;refine go ?_;exact L0 a0 a1 x45 YR x74 Im x126 (i64.wrap (Ht+1)) (i64.wrap (WD+x113)) _ H _ rfl Q tt b1 b3 b12 hE hR _ _ v34 S (hF.drop 1 0)
  ·refine go ?_;exact wq (hE _ _ (pur H).symm _ _ z1v0 S hF)
theorem EH:∀(a0:List Bnd) (a1:List Rul) (a2:List Fm) (a3:Fm) r,HI a0 a1 a2 a3=some r->Vr KZ 202 [sf K0 a0,sf K4 a1,sf KY a2,.agg (KY a3)] (.tup [.agg (KY r.1),.bool r.2]):=by
 intro a0 a1 a2 a3 r H;intro ss;unfold HI at H;refine hdh mixed Tryz.func202 (rs:=[.cell 8 26,.tmp 9]) fun q tT hF hX=>?_;refine go ?_;refine X8 hF rfl fun b1 ss2 hF=>?_;refine go ?_;refine X8 hF rfl fun b3 ss4 hF=>?_;refine go ?_;refine bp H (CM a1) fun x17 h H=>cl h ?_;refine go ?_;refine bp H (H9 a0 x17 a2 a3) fun x23 h H=>cl h ?_;refine go ?_;refine cdb H (fun h H=>?_) (fun h H=>?_)
 ·refine go ?_;refine st hF 0 rfl fun ss5 hF=>?_;refine go ?_;have e:=pur H;subst e;exact rt _
 ·refine go ?_;refine Ye E0 [.v,.v,.v,.v,.v,.v,.v,.v,.v,.v,.v,.v,.v,.v] (by kernel_rfl) ?_;obtain ⟨x33,f1,H⟩:=bil (g:=K4) Rul.X6 H;refine go1 ?_;refine bp H (Dj a0 x33.pat a2 a3) fun x38 h H=>cv h ?_;obtain ⟨x44,f1,H⟩:=bil (g:=K4) Rul.X6 H;refine go1 ?_;refine bp H (NL x44.tpl x38.1) fun x48 h H=>cl h ?_;refine go ?_;refine X8 hF rfl fun b6 s7 hF=>?_;refine go ?_;refine st hF 0 rfl fun s8 hF=>?_;refine go ?_;obtain ⟨x57,g9,H⟩:=bnd H;refine Yb 3 54 57 (.bool x57) (giN q (fun q=>?_) (fun q=>?_)) (fun J=>?_)
  ·rw [if_neg (dbf q)] at g9;refine go ?_;obtain ⟨x55,hx55,g9⟩:=bnd g9;refine cl (YA x48.1 _ hx55) ?_;refine go ?_;exact Yt 54 g9
  ·rw [if_pos (dbt q)] at g9;refine go ?_;exact Yt 54 g9
  refine go ?_;refine cdb H (fun h H=>?_) (fun h H=>?_)
  ·refine go ?_;refine st hF 1 rfl fun s11 hF=>?_;refine go ?_;have e:=pur H;subst e;exact rt _
  ·refine go ?_;refine st hF 1 rfl fun s12 hF=>?_;refine go ?_;have e:=pur H;subst e;exact rt _
theorem B1:∀(a0:Xpn) (a1:Fm) (a2 a3:Int) r,IN a0 a1 a2 a3=some r->Vr KZ 184 [.agg (K7 a0),.agg (KY a1),i6 a2,i6 a3] (.tup [.agg (K7 r.1),.agg (KY r.2.1),i6 r.2.2]):=by
 intro a0 a1 a2 a3 r H;intro ss;unfold IN at H;refine hdh mixed Tryz.func184 (rs:=[.cell 8 42,.cell 9 26,.tmp 10]) fun q tT hF hX=>?_;refine go ?_;refine X8 hF rfl fun b1 ss2 hF=>?_;refine go ?_;refine X8 hF rfl fun b3 ss4 hF=>?_;refine go ?_;refine X8 hF rfl fun b5 ss6 hF=>?_;refine go ?_;refine X8 hF rfl fun b7 s8 hF=>?_;refine go ?_;refine cdp H (fun h H=>?_) (fun h H=>?_)
 ·refine go ?_;refine st hF 1 rfl fun s9 hF=>?_;refine go ?_;refine st hF 0 rfl fun s10 hF=>?_;refine go ?_;have e:=pur H;subst e;exact rt _
 ·refine go ?_;refine bp H (Bl a0) fun x27 h H=>cl h ?_;refine go ?_;refine st hF 3 rfl fun s11 hF=>?_;refine go ?_;refine cdb H (fun h H=>?_) (fun h H=>?_)
  ·refine go ?_;refine st hF 1 rfl fun s12 hF=>?_;refine go ?_;refine st hF 0 rfl fun s13 hF=>?_;refine go ?_;have e:=pur H;subst e;exact rt _
  ·refine go ?_;refine st hF 3 rfl fun s14 hF=>?_;refine go ?_;refine Ye E0 [.v,.v,.v,.v,.v,.v,.v,.x,.z] (by kernel_rfl) ?_;refine go ?_;obtain ⟨x42,hx42,H⟩:=bnd H;refine cv (Ag (KU x27.1.binds x27.1.macs x27.1.scope x27.1.id (i64.wrap (x27.1.steps+1))) a2 _ hx42) ?_;obtain ⟨x43,f1,H⟩:=bil (g:=Zd) Mac.X6 H;refine go1 ?_;refine WQ hF rfl fun b15 s16 hF=>?_;refine go ?_;refine st hF 0 rfl fun s17 hF=>?_;refine go ?_;refine bp H (Ve a1 x27.1.scope 1) fun x48 h H=>cl h ?_;refine go ?_;refine X8 hF rfl fun b18 s19 hF=>?_;refine go ?_;refine st hF 0 rfl fun s20 hF=>?_;refine go ?_;refine bp H (YA x48) fun x50 h H=>cl h ?_;refine go ?_;refine cdb H (fun h H=>?_) (fun h H=>?_)
   ·refine go ?_;refine st hF 3 rfl fun s21 hF=>?_;refine go ?_;refine st hF 2 rfl fun s22 hF=>?_;refine go ?_;have e:=pur H;subst e;exact rt _
   ·refine go ?_;refine bp H (H9 x27.1.binds x43.rules x43.lits x48) fun x62 h H=>cl h ?_;refine go ?_;refine cdb H (fun h H=>?_) (fun h H=>?_)
    ·refine go ?_;refine st hF 3 rfl fun s23 hF=>?_;refine go ?_;refine st hF 2 rfl fun s24 hF=>?_;refine go ?_;have e:=pur H;subst e;exact rt _
    ·refine go ?_;refine bp H (EH x27.1.binds x43.rules x43.lits x48) fun x77 h H=>cl h ?_;refine go ?_;refine X8 hF rfl fun b25 s26 hF=>?_;refine go ?_;refine st hF 0 rfl fun s27 hF=>?_;refine go ?_;refine cdb H (fun h H=>?_) (fun h H=>?_)
     ·refine go ?_;refine st hF 4 rfl fun s28 hF=>?_;refine go ?_;refine st hF 3 rfl fun s29 hF=>?_;refine go ?_;have e:=pur H;subst e;exact rt _
     ·refine go ?_;refine bp H (Ve x77.1 x27.1.scope 1) fun x87 h H=>cl h ?_;refine go ?_;refine X8 hF rfl fun b30 s31 hF=>?_;refine go ?_;refine st hF 0 rfl fun s32 hF=>?_;refine go ?_;refine bp H (YA x87) fun x89 h H=>cl h ?_;refine go ?_;refine cdb H (fun h H=>?_) (fun h H=>?_)
      ·refine go ?_;refine st hF 5 rfl fun s33 hF=>?_;refine go ?_;refine st hF 4 rfl fun s34 hF=>?_;refine go ?_;have e:=pur H;subst e;exact rt _
      ·refine go ?_;obtain ⟨E,hEq⟩:∃E,E=EE s32 [b5,b7]:=⟨_,rfl⟩
       have n35:¬E b30:=by rw [hEq];exact K5 (hF.at 0 rfl) (nm2 ⟨neL hF 0 5 rfl rfl (by decide),neL hF 0 4 rfl rfl (by decide)⟩)
       have n36:¬E b25:=by rw [hEq];exact K5 (hF.at 1 rfl) (nm2 ⟨neL hF 1 5 rfl rfl (by decide),neL hF 1 4 rfl rfl (by decide)⟩)
       have n37:¬E b18:=by rw [hEq];exact K5 (hF.at 2 rfl) (nm2 ⟨neL hF 2 5 rfl rfl (by decide),neL hF 2 4 rfl rfl (by decide)⟩)
       have n38:¬E b15:=by rw [hEq];exact K5 (hF.at 3 rfl) (nm2 ⟨neL hF 3 5 rfl rfl (by decide),neL hF 3 4 rfl rfl (by decide)⟩)
       have n39:¬E b3:=by rw [hEq];exact K5 (hF.at 6 rfl) (nm2 ⟨neL hF 6 5 rfl rfl (by decide),neL hF 6 4 rfl rfl (by decide)⟩)
       have n40:¬E b1:=by rw [hEq];exact K5 (hF.at 7 rfl) (nm2 ⟨neL hF 7 5 rfl rfl (by decide),neL hF 7 4 rfl rfl (by decide)⟩)
       refine Ye E [.v,.v,.x,.x,.v] (by kernel_rfl) ?_;have z:=K2 (X4 (hF.at 0 rfl) n35) (K2 (X4 (hF.at 1 rfl) n36) (K2 (X4 (hF.at 2 rfl) n37) (K2 (X4 (hF.at 3 rfl) n38) (K2 (X4 (hF.at 6 rfl) n39) (X4 (hF.at 7 rfl) n40)))));refine gh ?_;refine stK hF 5 (by rw [hEq];exact Ze (by simp)) rfl fun s41 hF=>?_;have z:=K2 (X4 (hF.at 0 rfl) n35) (K2 (X4 (hF.at 1 rfl) n36) (K2 (X4 (hF.at 2 rfl) n37) (K2 (X4 (hF.at 3 rfl) n38) (K2 (X4 (hF.at 6 rfl) n39) (X4 (hF.at 7 rfl) n40)))));refine gh ?_;refine stK hF 4 (by rw [hEq];exact Ze (by simp)) rfl fun s42 hF=>?_;have z:=K2 (X4 (hF.at 0 rfl) n35) (K2 (X4 (hF.at 1 rfl) n36) (K2 (X4 (hF.at 2 rfl) n37) (K2 (X4 (hF.at 3 rfl) n38) (K2 (X4 (hF.at 6 rfl) n39) (X4 (hF.at 7 rfl) n40)))));refine gh ?_;refine go ?_;have e:=pur H;subst e;exact rt [.agg [sf K0 x27.1.binds,sf Zd x27.1.macs,i6 x27.1.scope,i6 x27.1.id,i6 (i64.wrap (x27.1.steps+1))],.agg [i6 x87.kind,.str x87.name,i6 x87.num,sf cI x87.sc,sf KY x87.kids],i6 0]
theorem Lz:∀(a1:List Fm) (a2:Fm) (a3:Int) (Yj:List Bnd) (Yk:List Mac) (Yi Yl Ym:Int) (X5:List Int) (Jl:Int) out,JE a1 a2 a3 Yj Yk Yi Yl Ym X5 Jl=some out->∀c,Yf Tryz.f187 0=some c->∀(Q:QT) (tt:Sto) (b1 b3 b5 b7 b12:Nat),(∀(I2:List Bnd) (I3:List Mac) (I4 I5 I6:Int) (YT:List Int),out=Sum.inr (I2,I3,I4,I5,I6,YT)->∀(T:TT) (ss:Sto) (e0v0:AV),T 3=i6 a3/\T 4=.ptr b1 0/\T 6=.ptr b3 0/\T 8=.ptr b5 0/\T 9=.ptr b7 0/\T 12=.ptr b12 0->Fx tt ss [(b12,⟨136,11,[i6 5,i6 0,.str zB,i6 0,e0v0,i6 0,.str zB,i6 0,.Ya,.Ya,.Ya]⟩),(b7,⟨136,11,[i6 0,i6 0,.str zB,i6 0,.Ya,i6 0,.str zB,i6 0,.Ya,.Ya,.Ya]⟩),(b5,⟨42,5,[.Ya,.Ya,i6 0,i6 0,i6 0]⟩),(b3,⟨26,5,[i6 a2.kind,.str a2.name,i6 a2.num,sf cI a2.sc,sf KY a2.kids]⟩),(b1,⟨42,5,[sf K0 I2,sf Zd I3,i6 I4,i6 I5,i6 I6]⟩)] [⟨e0v0,3,1,rws cI YT⟩]->Q (.ex 0) ⟨T,ss⟩)->(∀r,out=Sum.inl r->∀s',Aj KZ [.cell 8 42,.cell 9 136,.tmp 10] (fun r' ss'=>r'=.tup [.agg (K7 r.1),.agg (ZF r.2.1),i6 r.2.2]/\ss'=tt) s'->Q .ret s')->∀(T:TT) (ss:Sto) (z0v0:AV),T 1=sf KY a1/\T 3=i6 a3/\T 4=.ptr b1 0/\T 6=.ptr b3 0/\T 8=.ptr b5 0/\T 9=.ptr b7 0/\T 12=.ptr b12 0/\T 13=i6 Jl->Fx tt ss [(b12,⟨136,11,[i6 5,i6 0,.str zB,i6 0,z0v0,i6 0,.str zB,i6 0,.Ya,.Ya,.Ya]⟩),(b7,⟨136,11,[i6 0,i6 0,.str zB,i6 0,.Ya,i6 0,.str zB,i6 0,.Ya,.Ya,.Ya]⟩),(b5,⟨42,5,[.Ya,.Ya,i6 0,i6 0,i6 0]⟩),(b3,⟨26,5,[i6 a2.kind,.str a2.name,i6 a2.num,sf cI a2.sc,sf KY a2.kids]⟩),(b1,⟨42,5,[sf K0 Yj,sf Zd Yk,i6 Yi,i6 Yl,i6 Ym]⟩)] [⟨z0v0,3,1,rws cI X5⟩]->aLp KZ c Q ⟨T,ss⟩:=by
 intro a1 a2 a3 Yj Yk Yi Yl Ym X5 Jl;revert Yj Yk Yi Yl Ym X5 Jl;refine JE.partial_correctness a1 a2 a3 _ ?_;intro JE IH Yj Yk Yi Yl Ym X5 Jl out H c hc Q tt b1 b3 b5 b7 b12 hE hR T ss z0v0 tT hF;refine lpx tt hc rfl fun q hX=>go ?_;refine cdp H (fun h H=>?_) (fun h H=>?_)
 ·obtain ⟨x38,f1,H⟩:=bil (g:=KY) Fm.X6 H;refine go1 ?_;refine go ?_;refine cdn H (fun h H=>?_) (fun h H=>?_)
  ·refine go ?_;refine st hF 2 rfl fun s15 hF=>?_;refine go ?_;refine st hF 1 rfl fun s16 hF=>?_;refine go ?_;exact wq (hR _ (pur H).symm _ (rt _))
  ·refine go ?_;refine Ye E0 [.v,.v,.v,.v,.v,.v,.v,.x,.z] (by kernel_rfl) ?_;obtain ⟨x46,f1,H⟩:=bil (g:=KY) Fm.X6 H;refine go1 ?_;refine bp H (Ve x46 Yi 0) fun x50 h H=>cv h ?_;refine go ?_;refine WQ hF rfl fun b17 s18 hF=>?_;refine go ?_;refine st hF 0 rfl fun s19 hF=>?_;refine go ?_;refine bp H (YA x50) fun x52 h H=>cl h ?_;refine go ?_;refine cdb H (fun h H=>?_) (fun h H=>?_)
   ·refine go ?_;refine st hF 3 rfl fun s20 hF=>?_;refine go ?_;refine st hF 2 rfl fun s21 hF=>?_;refine go ?_;exact wq (hR _ (pur H).symm _ (rt _))
   ·refine go ?_;refine bp H (DW (KU Yj Yk Yi Yl Ym) x50) fun x59 h H=>cl h ?_;refine go ?_;refine X8 hF rfl fun b22 s23 hF=>?_;refine go ?_;refine st hF 0 rfl fun s24 hF=>?_;refine go ?_;refine st hF 6 rfl fun s25 hF=>?_;refine go ?_;refine cdn H (fun h H=>?_) (fun h H=>?_)
    ·refine go ?_;refine st hF 4 rfl fun s26 hF=>?_;refine go ?_;refine st hF 3 rfl fun s27 hF=>?_;refine go ?_;exact wq (hR _ (pur H).symm _ (rt _))
    ·refine go ?_;refine apd (g:=cI) hF 0 H (rdo (c:=true) (g:=cI) (fun _=>rfl)) fun x73 H v28 s29 hF=>?_;refine go ?_;refine st hF 2 (hF.cells 0 rfl) fun s30 hF=>?_;refine go ?_;exact IH  x59.1.binds x59.1.macs x59.1.scope x59.1.id x59.1.steps x73 (i64.wrap (Jl+1)) _ H _ rfl Q tt b1 b3 b5 b7 b12 hE hR _ _ v28 S (hF.drop 2 0)
 ·refine go ?_;exact wq (hE _ _ _ _ _ _ (pur H).symm _ _ z0v0 S hF)
theorem Em:∀(a1 a2:List Fm) (a3:Fm) (a4:Int) (Yj:List Bnd) (Yk:List Mac) (Yi Yl Ym Al:Int) out,V5 a1 a2 a3 a4 Yj Yk Yi Yl Ym Al=some out->∀c,Yf Tryz.f181 0=some c->∀(Q:QT) (tt:Sto) (b1 b3 b5 b7:Nat),(∀(I2:List Bnd) (I3:List Mac) (I4 I5 I6:Int),out=Sum.inr (I2,I3,I4,I5,I6)->∀(T:TT) (ss:Sto),T 4=i6 a4/\T 5=.ptr b1 0/\T 8=.ptr b3 0/\T 10=.ptr b5 0/\T 11=.ptr b7 0->Fx tt ss [(b7,⟨136,11,[i6 0,i6 0,.str zB,i6 0,.Ya,i6 0,.str zB,i6 0,.Ya,.Ya,.Ya]⟩),(b5,⟨42,5,[.Ya,.Ya,i6 0,i6 0,i6 0]⟩),(b3,⟨26,5,[i6 a3.kind,.str a3.name,i6 a3.num,sf cI a3.sc,sf KY a3.kids]⟩),(b1,⟨42,5,[sf K0 I2,sf Zd I3,i6 I4,i6 I5,i6 I6]⟩)] []->Q (.ex 0) ⟨T,ss⟩)->(∀r,out=Sum.inl r->∀s',Aj KZ [.cell 10 42,.cell 11 136,.tmp 12] (fun r' ss'=>r'=.tup [.agg (K7 r.1),.agg (ZF r.2.1),i6 r.2.2]/\ss'=tt) s'->Q .ret s')->∀(T:TT) (ss:Sto),T 1=sf KY a1/\T 2=sf KY a2/\T 4=i6 a4/\T 5=.ptr b1 0/\T 8=.ptr b3 0/\T 10=.ptr b5 0/\T 11=.ptr b7 0/\T 14=i6 Al->Fx tt ss [(b7,⟨136,11,[i6 0,i6 0,.str zB,i6 0,.Ya,i6 0,.str zB,i6 0,.Ya,.Ya,.Ya]⟩),(b5,⟨42,5,[.Ya,.Ya,i6 0,i6 0,i6 0]⟩),(b3,⟨26,5,[i6 a3.kind,.str a3.name,i6 a3.num,sf cI a3.sc,sf KY a3.kids]⟩),(b1,⟨42,5,[sf K0 Yj,sf Zd Yk,i6 Yi,i6 Yl,i6 Ym]⟩)] []->aLp KZ c Q ⟨T,ss⟩:=by
 intro a1 a2 a3 a4 Yj Yk Yi Yl Ym Al;revert Yj Yk Yi Yl Ym Al;refine V5.partial_correctness a1 a2 a3 a4 _ ?_;intro V5 IH Yj Yk Yi Yl Ym Al out H c hc Q tt b1 b3 b5 b7 hE hR T ss tT hF;refine lpx tt hc rfl fun q hX=>go ?_;refine cdp H (fun h H=>?_) (fun h H=>?_)
 ·refine go ?_;refine Ye E0 [.v,.v,.v,.v,.v,.v,.v,.x,.z] (by kernel_rfl) ?_;obtain ⟨x40,f1,H⟩:=bil (g:=KY) Fm.X6 H;refine go1 ?_;refine bp H (Ve x40 Yi 0) fun x44 h H=>cv h ?_;refine go ?_;refine WQ hF rfl fun b12 s13 hF=>?_;refine go ?_;refine st hF 0 rfl fun s14 hF=>?_;refine go ?_;refine Ye E0 [.v,.v,.v,.v,.v,.v,.v,.x,.z] (by kernel_rfl) ?_;obtain ⟨x47,f1,H⟩:=bil (g:=KY) Fm.X6 H;refine go1 ?_;refine bp H (Ve x47 Yi 0) fun x51 h H=>cv h ?_;refine go ?_;refine WQ hF rfl fun b15 s16 hF=>?_;refine go ?_;refine st hF 0 rfl fun s17 hF=>?_;obtain ⟨x54,f1,H⟩:=bil (g:=KY) Fm.X6 H;refine go1 ?_;refine go ?_;refine cdn H (fun h H=>?_) (fun h H=>?_)
  ·refine go ?_;refine st hF 3 rfl fun s18 hF=>?_;refine go ?_;refine st hF 2 rfl fun s19 hF=>?_;refine go ?_;exact wq (hR _ (pur H).symm _ (rt _))
  ·refine go ?_;refine bp H (YA x44) fun x61 h H=>cl h ?_;refine go ?_;obtain ⟨x67,g20,H⟩:=bnd H;refine Yb 3 64 67 (.bool x67) (giN q (fun q=>?_) (fun q=>?_)) (fun J=>?_)
   ·rw [if_neg (dbf q)] at g20;refine go ?_;obtain ⟨x65,hx65,g20⟩:=bnd g20;refine cl (YA x51 _ hx65) ?_;refine go ?_;exact Yt 64 g20
   ·rw [if_pos (dbt q)] at g20;refine go ?_;exact Yt 64 g20
   refine go ?_;refine cdb H (fun h H=>?_) (fun h H=>?_)
   ·refine go ?_;refine st hF 3 rfl fun s22 hF=>?_;refine go ?_;refine st hF 2 rfl fun s23 hF=>?_;refine go ?_;exact wq (hR _ (pur H).symm _ (rt _))
   ·refine go ?_;refine bp H (EJ x51) fun x72 h H=>cl h ?_;refine go ?_;refine cdb H (fun h H=>?_) (fun h H=>?_)
    ·refine go ?_;refine st hF 3 rfl fun s24 hF=>?_;refine go ?_;refine st hF 2 rfl fun s25 hF=>?_;refine go ?_;exact wq (hR _ (pur H).symm _ (rt _))
    ·refine go ?_;refine bp H (DW (KU Yj Yk Yi Yl Ym) x44) fun x83 h H=>cl h ?_;refine go ?_;refine X8 hF rfl fun b26 s27 hF=>?_;refine go ?_;refine st hF 0 rfl fun s28 hF=>?_;refine go ?_;refine st hF 6 rfl fun s29 hF=>?_;refine go ?_;refine cdn H (fun h H=>?_) (fun h H=>?_)
     ·refine go ?_;refine st hF 4 rfl fun s30 hF=>?_;refine go ?_;refine st hF 3 rfl fun s31 hF=>?_;refine go ?_;exact wq (hR _ (pur H).symm _ (rt _))
     ·refine go ?_;refine LD E0 [.v,.v,.v,.v,.v,.v,.v,.v,.v,.x,.x,.v,.z] [0,1,2,4,5,6,7,8,9,3,10,11,12] (by kernel_rfl) ?_;refine go ?_;have hF:=hF.lit 49 3 (rws Zd []) rfl;refine Pn (g:=Zd) hF 0 H (rdo (c:=false) (g:=Zd) Mac.X6) fun x95 H v32 s33 hF=>?_;refine go ?_;refine Qpu (g:=Zd) hF 0 H (rdo (c:=true) (g:=Zd) Mac.X6) fun x102 H s35 hF=>?_;refine go ?_;refine st hF 6 rfl fun s36 hF=>?_;refine go ?_;exact IH  x83.1.binds x102 x83.1.scope x83.1.id x83.1.steps (i64.wrap (Al+1)) _ H _ rfl Q tt b1 b3 b5 b7 hE hR _ _  S (hF.drop 3 0)
 ·refine go ?_;exact wq (hE _ _ _ _ _ (pur H).symm _ _  S hF)
theorem Ig (fx0:Int):(∀(a0:Xpn) (a1:Fm) r,YV a0 a1 fx0=some r->Vr KZ 143 [.agg (K7 a0),.agg (KY a1),i6 fx0] (.tup [.agg (K7 r.1),.agg (ZF r.2.1),i6 r.2.2]))/\(∀(a0:Xpn) (a1:Fm) (a2:Int) r,Jr a0 a1 a2 fx0=some r->Vr KZ 161 [.agg (K7 a0),.agg (KY a1),i6 a2,i6 fx0] (.tup [.agg (K7 r.1),.agg (ZF r.2.1),i6 r.2.2]))/\(∀(a0:Xpn) (a1:List Fm) r,G3 a0 a1 fx0=some r->Vr KZ 163 [.agg (K7 a0),sf KY a1,i6 fx0] (.tup [.agg (K7 r.1),sf ZF r.2.1,i6 r.2.2]))/\(∀(a0:Xpn) (a1:List Fm) (a2:Fm) r,Hy a0 a1 a2 fx0=some r->Vr KZ 187 [.agg (K7 a0),sf KY a1,.agg (KY a2),i6 fx0] (.tup [.agg (K7 r.1),.agg (ZF r.2.1),i6 r.2.2]))/\(∀(a0:Xpn) (a1 a2:List Fm) (a3:Fm) r,Gq a0 a1 a2 a3 fx0=some r->Vr KZ 181 [.agg (K7 a0),sf KY a1,sf KY a2,.agg (KY a3),i6 fx0] (.tup [.agg (K7 r.1),.agg (ZF r.2.1),i6 r.2.2]))/\(∀(a0:Xpn) (a1:Fm) (a2:Int) r,BJ a0 a1 a2 fx0=some r->Vr KZ 162 [.agg (K7 a0),.agg (KY a1),i6 a2,i6 fx0] (.tup [.agg (K7 r.1),.agg (ZF r.2.1),i6 r.2.2])):=by
 have h:=YV.mutual_partial_correctness fx0 (motive_1:=fun a0 a1 r=>Vr KZ 143 [.agg (K7 a0),.agg (KY a1),i6 fx0] (.tup [.agg (K7 r.1),.agg (ZF r.2.1),i6 r.2.2])) (motive_2:=fun a0 a1 r=>Vr KZ 163 [.agg (K7 a0),sf KY a1,i6 fx0] (.tup [.agg (K7 r.1),sf ZF r.2.1,i6 r.2.2])) (motive_3:=fun a1 Yj Yk Yi Yl Ym X5 Y0 out=>∀c,Yf Tryz.f163 0=some c->∀(Q:QT) (tt:Sto) (b1 b3:Nat),(∀(I2:List Bnd) (I3:List Mac) (I4 I5 I6:Int) (YT:List Cor),out=Sum.inr (I2,I3,I4,I5,I6,YT)->∀(T:TT) (ss:Sto) (e0v0:AV),T 3=.ptr b1 0/\T 6=.ptr b3 0/\T 9=e0v0->Fx tt ss [(b3,⟨42,5,[.Ya,.Ya,i6 0,i6 0,i6 0]⟩),(b1,⟨42,5,[sf K0 I2,sf Zd I3,i6 I4,i6 I5,i6 I6]⟩)] [⟨e0v0,136,11,rws ZF YT⟩]->Q (.ex 0) ⟨T,ss⟩)->(∀r,out=Sum.inl r->∀s',Aj KZ [.cell 6 42,.tmp 7,.tmp 8] (fun r' ss'=>r'=.tup [.agg (K7 r.1),sf ZF r.2.1,i6 r.2.2]/\ss'=tt) s'->Q .ret s')->∀(T:TT) (ss:Sto) (z0v0:AV),T 1=sf KY a1/\T 2=i6 fx0/\T 3=.ptr b1 0/\T 6=.ptr b3 0/\T 9=z0v0/\T 10=i6 Y0->Fx tt ss [(b3,⟨42,5,[.Ya,.Ya,i6 0,i6 0,i6 0]⟩),(b1,⟨42,5,[sf K0 Yj,sf Zd Yk,i6 Yi,i6 Yl,i6 Ym]⟩)] [⟨z0v0,136,11,rws ZF X5⟩]->aLp KZ c Q ⟨T,ss⟩) (motive_4:=fun a0 a1 a2 r=>Vr KZ 162 [.agg (K7 a0),.agg (KY a1),i6 a2,i6 fx0] (.tup [.agg (K7 r.1),.agg (ZF r.2.1),i6 r.2.2])) (motive_5:=fun a0 a1 a2 r=>Vr KZ 161 [.agg (K7 a0),.agg (KY a1),i6 a2,i6 fx0] (.tup [.agg (K7 r.1),.agg (ZF r.2.1),i6 r.2.2])) (motive_6:=fun a0 a1 a2 a3 r=>Vr KZ 181 [.agg (K7 a0),sf KY a1,sf KY a2,.agg (KY a3),i6 fx0] (.tup [.agg (K7 r.1),.agg (ZF r.2.1),i6 r.2.2])) (motive_7:=fun a0 a1 a2 r=>Vr KZ 187 [.agg (K7 a0),sf KY a1,.agg (KY a2),i6 fx0] (.tup [.agg (K7 r.1),.agg (ZF r.2.1),i6 r.2.2])) ?s0 ?s1 ?s2 ?s3 ?s4 ?s5 ?s6
 ·exact ⟨h.1,h.2.2.2.2.1,h.2.1,h.2.2.2.2.2.2,h.2.2.2.2.2.1,h.2.2.2.1⟩
 ·intro G3 BJ Jr C2 C5 C1 a0 a1 r H;intro ss;refine hdh mixed Tryz.func143 (rs:=[.cell 6 42,.cell 7 136,.tmp 8]) fun q tT hF hX=>?_;refine go ?_;refine X8 hF rfl fun b1 ss2 hF=>?_;refine go ?_;refine X8 hF rfl fun b3 ss4 hF=>?_;refine go ?_;refine X8 hF rfl fun b5 ss6 hF=>?_;refine go ?_;refine X8 hF rfl fun b7 s8 hF=>?_;refine go ?_;refine cdp H (fun h H=>?_) (fun h H=>?_)
  ·refine go ?_;obtain ⟨E,hEq⟩:∃E,E=EE s8 [b5,b7]:=⟨_,rfl⟩
   have n9:¬E b3:=by rw [hEq];exact K5 (hF.at 2 rfl) (nm2 ⟨neL hF 2 1 rfl rfl (by decide),neL hF 2 0 rfl rfl (by decide)⟩)
   have n10:¬E b1:=by rw [hEq];exact K5 (hF.at 3 rfl) (nm2 ⟨neL hF 3 1 rfl rfl (by decide),neL hF 3 0 rfl rfl (by decide)⟩)
   refine Ye E [.v,.v,.v,.v,.x,.x,.v] (by kernel_rfl) ?_;have z:=K2 (X4 (hF.at 2 rfl) n9) (X4 (hF.at 3 rfl) n10);refine gh ?_;refine stK hF 1 (by rw [hEq];exact Ze (by simp)) rfl fun s11 hF=>?_;have z:=K2 (X4 (hF.at 2 rfl) n9) (X4 (hF.at 3 rfl) n10);refine gh ?_;refine stK hF 0 (by rw [hEq];exact Ze (by simp)) rfl fun s12 hF=>?_;have z:=K2 (X4 (hF.at 2 rfl) n9) (X4 (hF.at 3 rfl) n10);refine gh ?_;refine go ?_;have e:=pur H;subst e;exact rt [.agg [sf K0 a0.binds,sf Zd a0.macs,i6 a0.scope,i6 a0.id,i6 a0.steps],.agg [i6 3,i6 0,.str zB,i6 a1.num,.Ya,i6 0,.str zB,i6 0,.Ya,.Ya,.Ya],i6 0]
  ·refine go ?_;refine cdp H (fun h H=>?_) (fun h H=>?_)
   ·refine go ?_;refine bp H (NX a0 a1) fun x25 h H=>cl h ?_;refine go ?_;refine st hF 1 rfl fun s13 hF=>?_;refine go ?_;refine st hF 0 rfl fun s14 hF=>?_;refine go ?_;have e:=pur H;subst e;exact rt _
   ·refine go ?_;refine cdp H (fun h H=>?_) (fun h H=>?_)
    ·refine go ?_;refine st hF 1 rfl fun s15 hF=>?_;refine go ?_;refine st hF 0 rfl fun s16 hF=>?_;refine go ?_;have e:=pur H;subst e;exact rt _
    ·obtain ⟨x37,f1,H⟩:=bil (g:=KY) Fm.X6 H;refine go1 ?_;refine go ?_;refine cdp H (fun h H=>?_) (fun h H=>?_)
     ·refine go ?_;refine Ye E0 [.v,.v,.v,.v,.v,.v,.v,.v,.v,.v,.v] (by kernel_rfl) ?_;obtain ⟨x45,f1,H⟩:=bil (g:=KY) Fm.X6 H;refine go1 ?_;refine bp H (Ih a0 x45) fun x47 h H=>cv h ?_;refine go ?_;refine cdp H (fun h H=>?_) (fun h H=>?_)
      ·refine go ?_;refine st hF 1 rfl fun s17 hF=>?_;refine go ?_;refine st hF 0 rfl fun s18 hF=>?_;refine go ?_;have e:=pur H;subst e;exact rt _
      ·refine go ?_;refine cdp H (fun h H=>?_) (fun h H=>?_)
       ·refine go ?_;refine bp H (C1 a0 a1 x47.2) fun x61 h H=>cl h ?_;refine go ?_;refine st hF 1 rfl fun s19 hF=>?_;refine go ?_;refine st hF 0 rfl fun s20 hF=>?_;refine go ?_;have e:=pur H;subst e;exact rt _
       ·refine go ?_;refine cdp H (fun h H=>?_) (fun h H=>?_)
        ·refine go ?_;refine bp H (C5 a0 a1 x47.2) fun x71 h H=>cl h ?_;refine go ?_;refine st hF 1 rfl fun s21 hF=>?_;refine go ?_;refine st hF 0 rfl fun s22 hF=>?_;refine go ?_;have e:=pur H;subst e;exact rt _
        ·refine go ?_;refine bp H (C2 a0 a1.kids) fun x80 h H=>cl h ?_;refine go ?_;refine st hF 3 rfl fun s23 hF=>?_;refine go ?_;refine st hF 1 rfl fun s24 hF=>?_;refine go ?_;refine st hF 0 rfl fun s25 hF=>?_;refine go ?_;have e:=pur H;subst e;exact rt _
     ·refine go ?_;obtain ⟨M6,hx80_1,H⟩:=bnd H;refine cl (C2 a0 a1.kids _ hx80_1) ?_;refine go ?_;refine st hF 3 rfl fun s26 hF=>?_;refine go ?_;refine st hF 1 rfl fun s27 hF=>?_;refine go ?_;refine st hF 0 rfl fun s28 hF=>?_;refine go ?_;have e:=pur H;subst e;exact rt _
 ·intro Gn L0 a0 a1 r H;intro ss;refine hdh mixed Tryz.func163 (rs:=[.cell 6 42,.tmp 7,.tmp 8]) fun q tT hF hX=>?_;refine go ?_;refine X8 hF rfl fun b1 ss2 hF=>?_;refine go ?_;refine X8 hF rfl fun b3 ss4 hF=>?_;have hF:=hF.lit 136 11 (rws ZF []) rfl;refine go ?_;obtain ⟨o21,ho21,H⟩:=bnd H;refine L0 a1 a0.binds a0.macs a0.scope a0.id a0.steps [] 0 _ ho21 _ rfl _ _ b1 b3 ?_ ?_ _ _ (.sl true (rws ZF [])) S hF
  ·intro OB OC OD OE OF CA he T23 s24 e22v0 tT hF;have he:=he.symm;subst he
   try dsimp only at H
   refine go ?_;refine st hF 0 rfl fun s26 hF=>?_;refine go ?_;have e:=pur H;subst e;exact rt _
  ·intro r hr s' hs;subst hr;have e:=pur H;subst e;exact hsq hs
 ·intro YV Gn C0 L0 a1 Yj Yk Yi Yl Ym X5 Y0 out H c hc Q tt b1 b3 hE hR T ss z0v0 tT hF;refine lpx tt hc rfl fun q hX=>go ?_;refine cdp H (fun h H=>?_) (fun h H=>?_)
  ·refine go ?_;obtain ⟨E,hEq⟩:∃E,E=EE ss []:=⟨_,rfl⟩
   have n5:¬E b3:=by rw [hEq];exact K5 (hF.at 0 rfl) (by simp)
   have n6:¬E b1:=by rw [hEq];exact K5 (hF.at 1 rfl) (by simp)
   refine Ye E [.v,.v,.v,.v,.v,.v,.v,.v,.v,.v,.v,.x,.x,.x,.x,.v] (by kernel_rfl) ?_;obtain ⟨x25,f1,H⟩:=bil (g:=KY) Fm.X6 H;have z:=K2 (X4 (hF.at 0 rfl) n5) (X4 (hF.at 1 rfl) n6);refine gh1 ?_;refine bp H (C0 (KU Yj Yk Yi Yl Ym) x25) fun x28 h H=>cv h ?_;have z:=K2 (X4 (hF.at 0 rfl) n5) (X4 (hF.at 1 rfl) n6);refine gh ?_;refine Hm hF rfl fun b7 s8 nw9 mo10 hF=>?_;have z:=K2 (X4 (hF.at 1 rfl) n5) (X4 (hF.at 2 rfl) n6);refine gh ?_;refine Hm hF rfl fun b11 s12 nw13 mo14 hF=>?_;have z:=K2 (X4 (hF.at 2 rfl) n5) (X4 (hF.at 3 rfl) n6);refine gh ?_;refine stK hF 1 (show E _ from ((em0 hEq) _ nw9)) rfl fun s15 hF=>?_;have z:=K2 (X4 (hF.at 2 rfl) n5) (X4 (hF.at 3 rfl) n6);refine gh ?_;refine stK hF 0 (show E _ from ((fun x h=>(em0 hEq) x (mo10 x h)) _ nw13)) rfl fun s16 hF=>?_;have z:=K2 (X4 (hF.at 2 rfl) n5) (X4 (hF.at 3 rfl) n6);refine gh ?_;refine go ?_;refine st hF 3 rfl fun s17 hF=>?_;refine go ?_;refine cdn H (fun h H=>?_) (fun h H=>?_)
   ·refine go ?_;refine st hF 2 rfl fun s18 hF=>?_;refine go ?_;exact wq (hR _ (pur H).symm _ (rt _))
   ·refine go ?_;refine apd (g:=ZF) hF 0 H (rdo (c:=true) (g:=ZF) Cor.X6) fun x41 H v19 s20 hF=>?_;refine go ?_;exact L0 a1 x28.1.binds x28.1.macs x28.1.scope x28.1.id x28.1.steps x41 (i64.wrap (Y0+1)) _ H _ rfl Q tt b1 b3 hE hR _ _ v19 S (hF.drop 2 0)
  ·refine go ?_;exact wq (hE _ _ _ _ _ _ (pur H).symm _ _ z0v0 S hF)
 ·intro YV C0 a0 a1 a2 r H;intro ss;refine hdh mixed Tryz.func162 (rs:=[.cell 8 42,.cell 9 136,.tmp 10]) fun q tT hF hX=>?_;refine go ?_;refine X8 hF rfl fun b1 ss2 hF=>?_;refine go ?_;refine X8 hF rfl fun b3 ss4 hF=>?_;refine go ?_;refine X8 hF rfl fun b5 ss6 hF=>?_;refine go ?_;refine X8 hF rfl fun b7 s8 hF=>?_;refine go ?_;refine bp H (B1 a0 a1 a2 fx0) fun x18 h H=>cl h ?_;refine go ?_;refine X8 hF rfl fun b9 s10 hF=>?_;refine go ?_;refine st hF 4 rfl fun s11 hF=>?_;refine go ?_;refine st hF 0 rfl fun s12 hF=>?_;refine go ?_;refine cdn H (fun h H=>?_) (fun h H=>?_)
  ·refine go ?_;refine st hF 2 rfl fun s13 hF=>?_;refine go ?_;refine st hF 1 rfl fun s14 hF=>?_;refine go ?_;have e:=pur H;subst e;exact rt _
  ·refine go ?_;refine bp H (C0 x18.1 x18.2.1) fun x30 h H=>cl h ?_;refine go ?_;refine st hF 2 rfl fun s15 hF=>?_;refine go ?_;refine st hF 1 rfl fun s16 hF=>?_;refine go ?_;have e:=pur H;subst e;exact rt _
 ·intro G3 Gq Hy C2 C4 C3 a0 a1 a2 r H;intro ss;refine hdh mixed Tryz.func161 (rs:=[.cell 8 42,.cell 9 136,.tmp 10]) fun q tT hF hX=>?_;refine go ?_;refine X8 hF rfl fun b1 ss2 hF=>?_;refine go ?_;refine X8 hF rfl fun b3 ss4 hF=>?_;refine go ?_;refine X8 hF rfl fun b5 ss6 hF=>?_;refine go ?_;refine X8 hF rfl fun b7 s8 hF=>?_;refine go ?_;obtain ⟨x29,g9,H⟩:=bnd H;refine Yb 4 25 29 (.bool x29) (gi q (fun q=>?_) (fun q=>?_)) (fun J=>?_)
  ·refine go ?_;exact Yt 25 g9
  ·refine go ?_;exact Yt 25 g9
  refine go ?_;refine cdb H (fun h H=>?_) (fun h H=>?_)
  ·refine go ?_;obtain ⟨E,hEq⟩:∃E,E=EE s8 [b5,b7]:=⟨_,rfl⟩
   have n11:¬E b3:=by rw [hEq];exact K5 (hF.at 2 rfl) (nm2 ⟨neL hF 2 1 rfl rfl (by decide),neL hF 2 0 rfl rfl (by decide)⟩)
   have n12:¬E b1:=by rw [hEq];exact K5 (hF.at 3 rfl) (nm2 ⟨neL hF 3 1 rfl rfl (by decide),neL hF 3 0 rfl rfl (by decide)⟩)
   refine Ye E [.v,.v,.v,.v,.v,.v,.v,.x,.x,.v] (by kernel_rfl) ?_;obtain ⟨x33,f1,H⟩:=bil (g:=KY) Fm.X6 H;have z:=K2 (X4 (hF.at 2 rfl) n11) (X4 (hF.at 3 rfl) n12);refine gh1 ?_;refine bp H (B9 x33) fun x35 h H=>cv h ?_;have z:=K2 (X4 (hF.at 2 rfl) n11) (X4 (hF.at 3 rfl) n12);refine gh ?_;refine stK hF 1 (by rw [hEq];exact Ze (by simp)) rfl fun s13 hF=>?_;have z:=K2 (X4 (hF.at 2 rfl) n11) (X4 (hF.at 3 rfl) n12);refine gh ?_;refine stK hF 0 (by rw [hEq];exact Ze (by simp)) rfl fun s14 hF=>?_;have z:=K2 (X4 (hF.at 2 rfl) n11) (X4 (hF.at 3 rfl) n12);refine gh ?_;refine go ?_;have e:=pur H;subst e;exact rt [.agg [sf K0 a0.binds,sf Zd a0.macs,i6 a0.scope,i6 a0.id,i6 a0.steps],.agg [i6 4,i6 0,.str zB,i6 0,.Ya,i6 x35.kind,.str x35.name,i6 x35.num,sf cI x35.sc,sf KY x35.kids,.Ya],i6 0]
  ·refine go ?_;obtain ⟨x45,g15,H⟩:=bnd H;refine Yb 4 41 45 (.bool x45) (gi q (fun q=>?_) (fun q=>?_)) (fun J=>?_)
   ·refine go ?_;exact Yt 41 g15
   ·refine go ?_;exact Yt 41 g15
   refine go ?_;refine cdb H (fun h H=>?_) (fun h H=>?_)
   ·refine go ?_;obtain ⟨E,hEq⟩:∃E,E=EE s8 []:=⟨_,rfl⟩
    have n17:¬E b7:=by rw [hEq];exact K5 (hF.at 0 rfl) (by simp)
    have n18:¬E b5:=by rw [hEq];exact K5 (hF.at 1 rfl) (by simp)
    have n19:¬E b3:=by rw [hEq];exact K5 (hF.at 2 rfl) (by simp)
    have n20:¬E b1:=by rw [hEq];exact K5 (hF.at 3 rfl) (by simp)
    refine Ye E [.v,.v,.v,.v,.v,.v,.v,.v,.v,.v,.x,.x,.v,.v] (by kernel_rfl) ?_;obtain ⟨x50,f1,H⟩:=bls (g:=KY) Fm.X6 (lo:=some (i6 1)) (hi:=none) rfl rfl H;have z:=K2 (X4 (hF.at 0 rfl) n17) (K2 (X4 (hF.at 1 rfl) n18) (K2 (X4 (hF.at 2 rfl) n19) (X4 (hF.at 3 rfl) n20)));refine gh1 ?_;refine bp H (C2 a0 x50) fun x52 h H=>cv h ?_;have z:=K2 (X4 (hF.at 0 rfl) n17) (K2 (X4 (hF.at 1 rfl) n18) (K2 (X4 (hF.at 2 rfl) n19) (X4 (hF.at 3 rfl) n20)));refine gh ?_;refine Hm hF rfl fun b21 s22 nw23 mo24 hF=>?_;have z:=K2 (X4 (hF.at 1 rfl) n17) (K2 (X4 (hF.at 2 rfl) n18) (K2 (X4 (hF.at 3 rfl) n19) (X4 (hF.at 4 rfl) n20)));refine gh ?_;refine stK hF 0 (show E _ from ((em0 hEq) _ nw23)) rfl fun s25 hF=>?_;have z:=K2 (X4 (hF.at 1 rfl) n17) (K2 (X4 (hF.at 2 rfl) n18) (K2 (X4 (hF.at 3 rfl) n19) (X4 (hF.at 4 rfl) n20)));refine gh ?_;refine go ?_;refine st hF 2 rfl fun s26 hF=>?_;refine go ?_;refine st hF 1 rfl fun s27 hF=>?_;refine go ?_;have e:=pur H;subst e;exact rt _
   ·refine go ?_;obtain ⟨x68,g28,H⟩:=bnd H;refine Yb 4 64 68 (.bool x68) (gi q (fun q=>?_) (fun q=>?_)) (fun J=>?_)
    ·refine go ?_;exact Yt 64 g28
    ·refine go ?_;exact Yt 64 g28
    refine go ?_;obtain ⟨x76,g30,H⟩:=bnd H;refine Yb 6 70 76 (.bool x76) (gi q (fun q=>?_) (fun q=>?_)) (fun J=>?_)
    ·rw [if_pos (dbt q)] at g30;obtain ⟨x72,f1,g30⟩:=bil (g:=KY) Fm.X6 g30;refine go1 ?_;refine go ?_;exact Yt 70 g30
    ·rw [if_neg (dbf q)] at g30;refine go ?_;exact Yt 70 g30
    refine go ?_;refine cdb H (fun h H=>?_) (fun h H=>?_)
    ·refine go ?_;obtain ⟨E,hEq⟩:∃E,E=EE s8 [b5,b7]:=⟨_,rfl⟩
     have n32:¬E b3:=by rw [hEq];exact K5 (hF.at 2 rfl) (nm2 ⟨neL hF 2 1 rfl rfl (by decide),neL hF 2 0 rfl rfl (by decide)⟩)
     have n33:¬E b1:=by rw [hEq];exact K5 (hF.at 3 rfl) (nm2 ⟨neL hF 3 1 rfl rfl (by decide),neL hF 3 0 rfl rfl (by decide)⟩)
     refine Ye E [.v,.v,.v,.v,.v,.v,.v,.v,.v,.v,.v,.v,.v,.v,.v,.x,.x,.v] (by kernel_rfl) ?_;obtain ⟨x80,f1,H⟩:=bil (g:=KY) Fm.X6 H;obtain ⟨x85,f2,H⟩:=bil (g:=KY) Fm.X6 H;have z:=K2 (X4 (hF.at 2 rfl) n32) (X4 (hF.at 3 rfl) n33);refine gh2 ?_;refine bp H (C3 a0 x80.kids x85) fun x88 h H=>cv h ?_;have z:=K2 (X4 (hF.at 2 rfl) n32) (X4 (hF.at 3 rfl) n33);refine gh ?_;refine stK hF 1 (by rw [hEq];exact Ze (by simp)) rfl fun s34 hF=>?_;have z:=K2 (X4 (hF.at 2 rfl) n32) (X4 (hF.at 3 rfl) n33);refine gh ?_;refine stK hF 0 (by rw [hEq];exact Ze (by simp)) rfl fun s35 hF=>?_;have z:=K2 (X4 (hF.at 2 rfl) n32) (X4 (hF.at 3 rfl) n33);refine gh ?_;refine go ?_;have e:=pur H;subst e;exact rt [.agg [sf K0 x88.1.binds,sf Zd x88.1.macs,i6 x88.1.scope,i6 x88.1.id,i6 x88.1.steps],.agg [i6 x88.2.1.kind,i6 x88.2.1.id,.str x88.2.1.name,i6 x88.2.1.num,sf cI x88.2.1.ids,i6 x88.2.1.data.kind,.str x88.2.1.data.name,i6 x88.2.1.data.num,sf cI x88.2.1.data.sc,sf KY x88.2.1.data.kids,sf ZF x88.2.1.kids],i6 x88.2.2]
    ·refine go ?_;obtain ⟨x97,g36,H⟩:=bnd H;refine Yb 2 95 97 (.bool x97) (gi q (fun q=>?_) (fun q=>?_)) (fun J=>?_)
     ·refine go ?_;exact Yt 95 g36
     ·refine go ?_;exact Yt 95 g36
     refine go ?_;obtain ⟨x103,g38,H⟩:=bnd H;refine Yb 4 99 103 (.bool x103) (giN q (fun q=>?_) (fun q=>?_)) (fun J=>?_)
     ·refine go ?_;exact Yt 99 g38
     ·refine go ?_;exact Yt 99 g38
     refine go ?_;refine cdb H (fun h H=>?_) (fun h H=>?_)
     ·refine go ?_;refine st hF 1 rfl fun s40 hF=>?_;refine go ?_;refine st hF 0 rfl fun s41 hF=>?_;refine go ?_;have e:=pur H;subst e;exact rt _
     ·obtain ⟨x109,f1,H⟩:=bil (g:=KY) Fm.X6 H;refine go1 ?_;refine bp H (HX x109) fun x111 h H=>cl h ?_;refine go ?_;refine cdb H (fun h H=>?_) (fun h H=>?_)
      ·refine go ?_;refine st hF 1 rfl fun s42 hF=>?_;refine go ?_;refine st hF 0 rfl fun s43 hF=>?_;refine go ?_;have e:=pur H;subst e;exact rt _
      ·refine go ?_;refine cdp H (fun h H=>?_) (fun h H=>?_)
       ·refine go ?_;obtain ⟨E,hEq⟩:∃E,E=EE s8 [b5,b7]:=⟨_,rfl⟩
        have n44:¬E b3:=by rw [hEq];exact K5 (hF.at 2 rfl) (nm2 ⟨neL hF 2 1 rfl rfl (by decide),neL hF 2 0 rfl rfl (by decide)⟩)
        have n45:¬E b1:=by rw [hEq];exact K5 (hF.at 3 rfl) (nm2 ⟨neL hF 3 1 rfl rfl (by decide),neL hF 3 0 rfl rfl (by decide)⟩)
        refine Ye E [.v,.v,.v,.v,.v,.v,.v,.v,.v,.v,.v,.v,.x,.x,.v] (by kernel_rfl) ?_;obtain ⟨x126,f1,H⟩:=bil (g:=KY) Fm.X6 H;have z:=K2 (X4 (hF.at 2 rfl) n44) (X4 (hF.at 3 rfl) n45);refine gh1 ?_;refine bp H (C4 a0 x111.1 x111.2.1 x126) fun x129 h H=>cv h ?_;have z:=K2 (X4 (hF.at 2 rfl) n44) (X4 (hF.at 3 rfl) n45);refine gh ?_;refine stK hF 1 (by rw [hEq];exact Ze (by simp)) rfl fun s46 hF=>?_;have z:=K2 (X4 (hF.at 2 rfl) n44) (X4 (hF.at 3 rfl) n45);refine gh ?_;refine stK hF 0 (by rw [hEq];exact Ze (by simp)) rfl fun s47 hF=>?_;have z:=K2 (X4 (hF.at 2 rfl) n44) (X4 (hF.at 3 rfl) n45);refine gh ?_;refine go ?_;have e:=pur H;subst e;exact rt [.agg [sf K0 x129.1.binds,sf Zd x129.1.macs,i6 x129.1.scope,i6 x129.1.id,i6 x129.1.steps],.agg [i6 x129.2.1.kind,i6 x129.2.1.id,.str x129.2.1.name,i6 x129.2.1.num,sf cI x129.2.1.ids,i6 x129.2.1.data.kind,.str x129.2.1.data.name,i6 x129.2.1.data.num,sf cI x129.2.1.data.sc,sf KY x129.2.1.data.kids,sf ZF x129.2.1.kids],i6 x129.2.2]
       ·refine go ?_;refine bp H (C2 a0 x111.2.1) fun x137 h H=>cl h ?_;refine go ?_;refine st hF 3 rfl fun s48 hF=>?_;refine go ?_;refine cdn H (fun h H=>?_) (fun h H=>?_)
        ·refine go ?_;refine st hF 1 rfl fun s49 hF=>?_;refine go ?_;refine st hF 0 rfl fun s50 hF=>?_;refine go ?_;have e:=pur H;subst e;exact rt _
        ·refine go ?_;obtain ⟨E,hEq⟩:∃E,E=EE s48 [b1]:=⟨_,rfl⟩
         have n51:¬E b7:=by rw [hEq];exact K5 (hF.at 0 rfl) (nm1 (neL hF 0 3 rfl rfl (by decide)))
         have n52:¬E b5:=by rw [hEq];exact K5 (hF.at 1 rfl) (nm1 (neL hF 1 3 rfl rfl (by decide)))
         have n53:¬E b3:=by rw [hEq];exact K5 (hF.at 2 rfl) (nm1 (neL hF 2 3 rfl rfl (by decide)))
         refine LD E [.v,.v,.v,.v,.v,.v,.x,.v,.v,.v,.v,.v,.x,.x,.x,.v] [1,2,3,4,5,6,0,7,8,9,10,11,12,13,14,15] (by kernel_rfl) ?_;obtain ⟨x151,f1,H⟩:=bil (g:=KY) Fm.X6 H;have z:=K2 (X4 (hF.at 0 rfl) n51) (K2 (X4 (hF.at 1 rfl) n52) (X4 (hF.at 2 rfl) n53));refine gh1 ?_;refine bp H (C3 x137.1 x111.1 x151) fun x154 h H=>cv h ?_;have z:=K2 (X4 (hF.at 0 rfl) n51) (K2 (X4 (hF.at 1 rfl) n52) (X4 (hF.at 2 rfl) n53));refine gh ?_;refine Hm hF rfl fun b54 s55 nw56 mo57 hF=>?_;have z:=K2 (X4 (hF.at 1 rfl) n51) (K2 (X4 (hF.at 2 rfl) n52) (X4 (hF.at 3 rfl) n53));refine gh ?_;refine stK hF 4 (by rw [hEq];exact Ze (by simp)) rfl fun s58 hF=>?_;have z:=K2 (X4 (hF.at 1 rfl) n51) (K2 (X4 (hF.at 2 rfl) n52) (X4 (hF.at 3 rfl) n53));refine gh ?_;refine stK hF 0 (show E _ from ((em0 hEq) _ nw56)) rfl fun s59 hF=>?_;have z:=K2 (X4 (hF.at 1 rfl) n51) (K2 (X4 (hF.at 2 rfl) n52) (X4 (hF.at 3 rfl) n53));refine gh ?_;refine go ?_;obtain ⟨E,hEq⟩:∃E,E=EE s59 [b5,b7]:=⟨_,rfl⟩
         have n60:¬E b54:=by rw [hEq];exact K5 (hF.at 0 rfl) (nm2 ⟨neL hF 0 2 rfl rfl (by decide),neL hF 0 1 rfl rfl (by decide)⟩)
         have n61:¬E b3:=by rw [hEq];exact K5 (hF.at 3 rfl) (nm2 ⟨neL hF 3 2 rfl rfl (by decide),neL hF 3 1 rfl rfl (by decide)⟩)
         have n62:¬E b1:=by rw [hEq];exact K5 (hF.at 4 rfl) (nm2 ⟨neL hF 4 2 rfl rfl (by decide),neL hF 4 1 rfl rfl (by decide)⟩)
         refine Ye E [.v,.v,.v,.v,.v,.v,.v,.x,.x,.v] (by kernel_rfl) ?_;have z:=K2 (X4 (hF.at 0 rfl) n60) (K2 (X4 (hF.at 3 rfl) n61) (X4 (hF.at 4 rfl) n62));refine gh ?_;obtain ⟨x162,hx162,H⟩:=bnd H;refine M1 (g:=ZF) (xs:=[x154.2.1]) (ys:=x137.2.1) Cor.X6 (by decide) (by decide) (.inr (by first | rfl | simp only [sf,i6,zB,Y8,Vy,cI,cU,cS,cL,Cor.X9,Fm.X9])) (.inr ⟨_,by first | rfl | simp only [sf,i6,zB,Y8,Vy,cI,cU,cS,cL,Cor.X9,Fm.X9]⟩) hx162 ?_;have z:=K2 (X4 (hF.at 0 rfl) n60) (K2 (X4 (hF.at 3 rfl) n61) (X4 (hF.at 4 rfl) n62));refine gh ?_;refine stK hF 2 (by rw [hEq];exact Ze (by simp)) rfl fun s63 hF=>?_;have z:=K2 (X4 (hF.at 0 rfl) n60) (K2 (X4 (hF.at 3 rfl) n61) (X4 (hF.at 4 rfl) n62));refine gh ?_;refine stK hF 1 (by rw [hEq];exact Ze (by simp)) rfl fun s64 hF=>?_;have z:=K2 (X4 (hF.at 0 rfl) n60) (K2 (X4 (hF.at 3 rfl) n61) (X4 (hF.at 4 rfl) n62));refine gh ?_;refine go ?_;have e:=pur H;subst e;exact rt [.agg [sf K0 x154.1.binds,sf Zd x154.1.macs,i6 x154.1.scope,i6 x154.1.id,i6 x154.1.steps],.agg [i6 6,i6 0,.str zB,i6 0,.Ya,i6 0,.str zB,i6 0,.Ya,.Ya,sf ZF x162],i6 x154.2.2]
 ·intro YV C0 a0 a1 a2 a3 r H;intro ss;refine hdh mixed Tryz.func181 (rs:=[.cell 10 42,.cell 11 136,.tmp 12]) fun q tT hF hX=>?_;refine go ?_;refine X8 hF rfl fun b1 ss2 hF=>?_;refine go ?_;refine X8 hF rfl fun b3 ss4 hF=>?_;refine go ?_;refine X8 hF rfl fun b5 ss6 hF=>?_;refine go ?_;refine X8 hF rfl fun b7 s8 hF=>?_;refine go ?_;refine bp H (Bl a0) fun x25 h H=>cl h ?_;refine go ?_;refine st hF 3 rfl fun s9 hF=>?_;refine go ?_;refine cdb H (fun h H=>?_) (fun h H=>?_)
  ·refine go ?_;refine st hF 1 rfl fun s10 hF=>?_;refine go ?_;refine st hF 0 rfl fun s11 hF=>?_;refine go ?_;have e:=pur H;subst e;exact rt _
  ·refine go ?_;obtain ⟨o37,ho37,H⟩:=bnd H;refine Em a1 a2 a3 fx0 x25.1.binds x25.1.macs x25.1.scope x25.1.id x25.1.steps 0 _ ho37 _ rfl _ _ b1 b3 b5 b7 ?_ ?_ _ _  S hF
   ·intro Eu Ev Ch Ew Ex he T39 s40 tT hF;have he:=he.symm;subst he
    try dsimp only at H
    refine go ?_;refine bp H (Ve a3 Ch 0) fun x107 h H=>cl h ?_;refine go ?_;refine X8 hF rfl fun b42 s43 hF=>?_;refine go ?_;refine st hF 0 rfl fun s44 hF=>?_;refine go ?_;refine bp H (YA x107) fun x109 h H=>cl h ?_;refine go ?_;refine cdb H (fun h H=>?_) (fun h H=>?_)
    ·refine go ?_;refine st hF 2 rfl fun s45 hF=>?_;refine go ?_;refine st hF 1 rfl fun s46 hF=>?_;refine go ?_;have e:=pur H;subst e;exact rt _
    ·refine go ?_;refine bp H (C0 (KU Eu Ev Ch Ew Ex) x107) fun x116 h H=>cl h ?_;refine go ?_;refine st hF 2 rfl fun s47 hF=>?_;refine go ?_;refine st hF 1 rfl fun s48 hF=>?_;refine go ?_;have e:=pur H;subst e;exact rt _
   ·intro r hr s' hs;subst hr;have e:=pur H;subst e;exact hsq hs
 ·intro YV C0 a0 a1 a2 r H;intro ss;refine hdh mixed Tryz.func187 (rs:=[.cell 8 42,.cell 9 136,.tmp 10]) fun q tT hF hX=>?_;refine go ?_;refine X8 hF rfl fun b1 ss2 hF=>?_;refine go ?_;refine X8 hF rfl fun b3 ss4 hF=>?_;refine go ?_;refine X8 hF rfl fun b5 ss6 hF=>?_;refine go ?_;refine X8 hF rfl fun b7 s8 hF=>?_;refine go ?_;refine bp H (Bl a0) fun x22 h H=>cl h ?_;refine go ?_;refine st hF 3 rfl fun s9 hF=>?_;refine go ?_;refine cdb H (fun h H=>?_) (fun h H=>?_)
  ·refine go ?_;refine st hF 1 rfl fun s10 hF=>?_;refine go ?_;refine st hF 0 rfl fun s11 hF=>?_;refine go ?_;have e:=pur H;subst e;exact rt _
  ·refine go ?_;refine X8 hF rfl fun b12 s13 hF=>?_;refine go ?_;refine st hF 0 rfl fun s14 hF=>?_;have hF:=hF.nil 3 1;refine go ?_;obtain ⟨o31,ho31,H⟩:=bnd H;refine Lz a1 a2 fx0 x22.1.binds x22.1.macs x22.1.scope x22.1.id x22.1.steps [] 0 _ ho31 _ rfl _ _ b1 b3 b5 b7 b12 ?_ ?_ _ _ .Ya S hF
   ·intro H3 H4 Ha H5 H6 CU he T33 s34 e32v0 tT hF;have he:=he.symm;subst he
    try dsimp only at H
    refine go ?_;refine bp H (Ve a2 Ha 0) fun x78 h H=>cl h ?_;refine go ?_;refine X8 hF rfl fun b36 s37 hF=>?_;refine go ?_;refine st hF 0 rfl fun s38 hF=>?_;refine go ?_;refine bp H (YA x78) fun x80 h H=>cl h ?_;refine go ?_;refine cdb H (fun h H=>?_) (fun h H=>?_)
    ·refine go ?_;refine st hF 3 rfl fun s39 hF=>?_;refine go ?_;refine st hF 2 rfl fun s40 hF=>?_;refine go ?_;have e:=pur H;subst e;exact rt _
    ·refine go ?_;refine bp H (C0 (KU H3 H4 Ha H5 H6) x78) fun x88 h H=>cl h ?_;refine go ?_;refine X8 hF rfl fun b41 s42 hF=>?_;refine go ?_;refine st hF 6 rfl fun s43 hF=>?_;refine go ?_;refine st hF 0 rfl fun s44 hF=>?_;refine go ?_;refine st hF 2 rfl fun s45 hF=>?_;refine go ?_;obtain ⟨E,hEq⟩:∃E,E=EE s45 [b5,b7]:=⟨_,rfl⟩
     have n46:¬E b41:=by rw [hEq];exact K5 (hF.at 0 rfl) (nm2 ⟨neL hF 0 4 rfl rfl (by decide),neL hF 0 3 rfl rfl (by decide)⟩)
     have n47:¬E b36:=by rw [hEq];exact K5 (hF.at 1 rfl) (nm2 ⟨neL hF 1 4 rfl rfl (by decide),neL hF 1 3 rfl rfl (by decide)⟩)
     have n48:¬E b12:=by rw [hEq];exact K5 (hF.at 2 rfl) (nm2 ⟨neL hF 2 4 rfl rfl (by decide),neL hF 2 3 rfl rfl (by decide)⟩)
     have n49:¬E b3:=by rw [hEq];exact K5 (hF.at 5 rfl) (nm2 ⟨neL hF 5 4 rfl rfl (by decide),neL hF 5 3 rfl rfl (by decide)⟩)
     have n50:¬E b1:=by rw [hEq];exact K5 (hF.at 6 rfl) (nm2 ⟨neL hF 6 4 rfl rfl (by decide),neL hF 6 3 rfl rfl (by decide)⟩)
     refine Ye E [.v,.v,.v,.x,.x,.v] (by kernel_rfl) ?_;have z:=K2 (X4 (hF.at 0 rfl) n46) (K2 (X4 (hF.at 1 rfl) n47) (K2 (X4 (hF.at 2 rfl) n48) (K2 (X4 (hF.at 5 rfl) n49) (X4 (hF.at 6 rfl) n50))));refine gh ?_;refine stK hF 4 (by rw [hEq];exact Ze (by simp)) rfl fun s51 hF=>?_;have z:=K2 (X4 (hF.at 0 rfl) n46) (K2 (X4 (hF.at 1 rfl) n47) (K2 (X4 (hF.at 2 rfl) n48) (K2 (X4 (hF.at 5 rfl) n49) (X4 (hF.at 6 rfl) n50))));refine gh ?_;refine stK hF 3 (by rw [hEq];exact Ze (by simp)) rfl fun s52 hF=>?_;have z:=K2 (X4 (hF.at 0 rfl) n46) (K2 (X4 (hF.at 1 rfl) n47) (K2 (X4 (hF.at 2 rfl) n48) (K2 (X4 (hF.at 5 rfl) n49) (X4 (hF.at 6 rfl) n50))));refine gh ?_;refine go ?_;have e:=pur H;subst e;exact rt [.agg [sf K0 x88.1.binds,sf Zd x88.1.macs,i6 x88.1.scope,i6 x88.1.id,i6 x88.1.steps],.agg [i6 5,i6 0,.str zB,i6 0,e32v0,i6 0,.str zB,i6 0,.Ya,.Ya,.sl true (rws ZF [x88.2.1])],i6 x88.2.2]
   ·intro r hr s' hs;subst hr;have e:=pur H;subst e;exact hsq hs
theorem AN:∀(a0:Xpn) (a1:Fm) (a2:Int) r,YV a0 a1 a2=some r->Vr KZ 143 [.agg (K7 a0),.agg (KY a1),i6 a2] (.tup [.agg (K7 r.1),.agg (ZF r.2.1),i6 r.2.2]):=fun a0 a1 a2=>(Ig a2).1 a0 a1
theorem DX:∀(a0:Xpn) (a1:Fm) (a2 a3:Int) r,Jr a0 a1 a2 a3=some r->Vr KZ 161 [.agg (K7 a0),.agg (KY a1),i6 a2,i6 a3] (.tup [.agg (K7 r.1),.agg (ZF r.2.1),i6 r.2.2]):=fun a0 a1 a2 a3=>(Ig a3).2.1 a0 a1 a2
theorem EP:∀(a0:Xpn) (a1:List Fm) (a2:Fm) (a3:Int) r,Hy a0 a1 a2 a3=some r->Vr KZ 187 [.agg (K7 a0),sf KY a1,.agg (KY a2),i6 a3] (.tup [.agg (K7 r.1),.agg (ZF r.2.1),i6 r.2.2]):=fun a0 a1 a2 a3=>(Ig a3).2.2.2.1 a0 a1 a2
theorem CH:∀(a0:Xpn) (a1 a2:List Fm) (a3:Fm) (a4:Int) r,Gq a0 a1 a2 a3 a4=some r->Vr KZ 181 [.agg (K7 a0),sf KY a1,sf KY a2,.agg (KY a3),i6 a4] (.tup [.agg (K7 r.1),.agg (ZF r.2.1),i6 r.2.2]):=fun a0 a1 a2 a3 a4=>(Ig a4).2.2.2.2.1 a0 a1 a2 a3
theorem DQ:∀(a0:Int) r,An a0=some r->Vr KZ 183 [i6 a0] (i6 r):=by
 intro a0 r H;intro ss;unfold An at H;refine hdh mixed Tryz.func183 (rs:=[.tmp 2]) fun q tT hF hX=>?_;refine go ?_;refine cdp H (fun h H=>?_) (fun h H=>?_)
 ·refine go ?_;have e:=pur H;subst e;exact rt _
 ·refine go ?_;have e:=pur H;subst e;exact rt _
theorem BF (fx0:Int):(∀(a0:Xpn) (a1:List Fm) (a3:List Stp) r,Vb a0 a1 fx0 a3=some r->∀  (p3:AV) (ss:Sto),Pre ss [] [⟨p3,28,13,rws ZE a3⟩]->Ctr KZ 156 [.agg (K7 a0),sf KY a1,i6 fx0,p3] ss (fun r' ss'=>∃(tt':Sto) (w1:AV),r'=.tup [.agg (K7 r.1),w1,i6 r.2.2]/\Tau (strip ss [⟨p3,28,13,rws ZE a3⟩]) [] tt'/\Fx tt' ss' [] [⟨w1,28,13,rws ZE r.2.1⟩]))/\(∀(a0:Xpn) (a1:Fm) (a3:List Stp) r,Yy a0 a1 fx0 a3=some r->∀  (p3:AV) (ss:Sto),Pre ss [] [⟨p3,28,13,rws ZE a3⟩]->Ctr KZ 130 [.agg (K7 a0),.agg (KY a1),i6 fx0,p3] ss (fun r' ss'=>∃(tt':Sto) (w1:AV),r'=.tup [.agg (K7 r.1),w1,i6 r.2.2]/\Tau (strip ss [⟨p3,28,13,rws ZE a3⟩]) [] tt'/\Fx tt' ss' [] [⟨w1,28,13,rws ZE r.2.1⟩]))/\(∀(a0:Xpn) (a1:Fm) (a2:Int) (a4:List Stp) r,HK a0 a1 a2 fx0 a4=some r->∀  (p4:AV) (ss:Sto),Pre ss [] [⟨p4,28,13,rws ZE a4⟩]->Ctr KZ 154 [.agg (K7 a0),.agg (KY a1),i6 a2,i6 fx0,p4] ss (fun r' ss'=>∃(tt':Sto) (w1:AV),r'=.tup [.agg (K7 r.1),w1,i6 r.2.2]/\Tau (strip ss [⟨p4,28,13,rws ZE a4⟩]) [] tt'/\Fx tt' ss' [] [⟨w1,28,13,rws ZE r.2.1⟩]))/\(∀(a0:Xpn) (a1:List Fm) (a2:Fm) (a4:List Stp) r,GC a0 a1 a2 fx0 a4=some r->∀  (p4:AV) (ss:Sto),Pre ss [] [⟨p4,28,13,rws ZE a4⟩]->Ctr KZ 179 [.agg (K7 a0),sf KY a1,.agg (KY a2),i6 fx0,p4] ss (fun r' ss'=>∃(tt':Sto) (w1:AV),r'=.tup [.agg (K7 r.1),w1,i6 r.2.2]/\Tau (strip ss [⟨p4,28,13,rws ZE a4⟩]) [] tt'/\Fx tt' ss' [] [⟨w1,28,13,rws ZE r.2.1⟩]))/\(∀(a0:Xpn) (a1:Fm) (a2:Int) (a4:List Stp) r,HM a0 a1 a2 fx0 a4=some r->∀  (p4:AV) (ss:Sto),Pre ss [] [⟨p4,28,13,rws ZE a4⟩]->Ctr KZ 155 [.agg (K7 a0),.agg (KY a1),i6 a2,i6 fx0,p4] ss (fun r' ss'=>∃(tt':Sto) (w1:AV),r'=.tup [.agg (K7 r.1),w1,i6 r.2.2]/\Tau (strip ss [⟨p4,28,13,rws ZE a4⟩]) [] tt'/\Fx tt' ss' [] [⟨w1,28,13,rws ZE r.2.1⟩])):=by
 have h:=Vb.mutual_partial_correctness fx0 (motive_1:=fun a0 a1 a3 r=>∀  (p3:AV) (ss:Sto),Pre ss [] [⟨p3,28,13,rws ZE a3⟩]->Ctr KZ 156 [.agg (K7 a0),sf KY a1,i6 fx0,p3] ss (fun r' ss'=>∃(tt':Sto) (w1:AV),r'=.tup [.agg (K7 r.1),w1,i6 r.2.2]/\Tau (strip ss [⟨p3,28,13,rws ZE a3⟩]) [] tt'/\Fx tt' ss' [] [⟨w1,28,13,rws ZE r.2.1⟩])) (motive_2:=fun a1 Yj Yk Yi Yl Ym X5 Wh out=>∀c,Yf Tryz.f156 0=some c->∀(Q:QT) (tt0:Sto) (b1 b3:Nat),(∀(I2:List Bnd) (I3:List Mac) (I4 I5 I6:Int) (YT:List Stp),out=Sum.inr (I2,I3,I4,I5,I6,YT)->∀(T:TT) (ss tt:Sto) (e0v0:AV),T 3=e0v0/\T 4=.ptr b1 0/\T 8=.ptr b3 0->Tau tt0 [] tt->Fx tt ss [(b3,⟨42,5,[.Ya,.Ya,i6 0,i6 0,i6 0]⟩),(b1,⟨42,5,[sf K0 I2,sf Zd I3,i6 I4,i6 I5,i6 I6]⟩)] [⟨e0v0,28,13,rws ZE YT⟩]->Q (.ex 0) ⟨T,ss⟩)->(∀r,out=Sum.inl r->∀s',Aj KZ [.cell 8 42,.tmp 9,.tmp 10] (fun r' ss'=>∃(tt':Sto) (w1:AV),r'=.tup [.agg (K7 r.1),w1,i6 r.2.2]/\Tau tt0 [] tt'/\Fx tt' ss' [] [⟨w1,28,13,rws ZE r.2.1⟩]) s'->Q .ret s')->∀(T:TT) (ss tt:Sto) (z0v0:AV),T 1=sf KY a1/\T 2=i6 fx0/\T 3=z0v0/\T 4=.ptr b1 0/\T 8=.ptr b3 0/\T 11=i6 Wh->Tau tt0 [] tt->Fx tt ss [(b3,⟨42,5,[.Ya,.Ya,i6 0,i6 0,i6 0]⟩),(b1,⟨42,5,[sf K0 Yj,sf Zd Yk,i6 Yi,i6 Yl,i6 Ym]⟩)] [⟨z0v0,28,13,rws ZE X5⟩]->aLp KZ c Q ⟨T,ss⟩) (motive_3:=fun a0 a1 a3 r=>∀  (p3:AV) (ss:Sto),Pre ss [] [⟨p3,28,13,rws ZE a3⟩]->Ctr KZ 130 [.agg (K7 a0),.agg (KY a1),i6 fx0,p3] ss (fun r' ss'=>∃(tt':Sto) (w1:AV),r'=.tup [.agg (K7 r.1),w1,i6 r.2.2]/\Tau (strip ss [⟨p3,28,13,rws ZE a3⟩]) [] tt'/\Fx tt' ss' [] [⟨w1,28,13,rws ZE r.2.1⟩])) (motive_4:=fun a0 a1 a2 a4 r=>∀  (p4:AV) (ss:Sto),Pre ss [] [⟨p4,28,13,rws ZE a4⟩]->Ctr KZ 155 [.agg (K7 a0),.agg (KY a1),i6 a2,i6 fx0,p4] ss (fun r' ss'=>∃(tt':Sto) (w1:AV),r'=.tup [.agg (K7 r.1),w1,i6 r.2.2]/\Tau (strip ss [⟨p4,28,13,rws ZE a4⟩]) [] tt'/\Fx tt' ss' [] [⟨w1,28,13,rws ZE r.2.1⟩])) (motive_5:=fun a0 a1 a2 a4 r=>∀  (p4:AV) (ss:Sto),Pre ss [] [⟨p4,28,13,rws ZE a4⟩]->Ctr KZ 154 [.agg (K7 a0),.agg (KY a1),i6 a2,i6 fx0,p4] ss (fun r' ss'=>∃(tt':Sto) (w1:AV),r'=.tup [.agg (K7 r.1),w1,i6 r.2.2]/\Tau (strip ss [⟨p4,28,13,rws ZE a4⟩]) [] tt'/\Fx tt' ss' [] [⟨w1,28,13,rws ZE r.2.1⟩])) (motive_6:=fun a0 a1 a2 a4 r=>∀  (p4:AV) (ss:Sto),Pre ss [] [⟨p4,28,13,rws ZE a4⟩]->Ctr KZ 179 [.agg (K7 a0),sf KY a1,.agg (KY a2),i6 fx0,p4] ss (fun r' ss'=>∃(tt':Sto) (w1:AV),r'=.tup [.agg (K7 r.1),w1,i6 r.2.2]/\Tau (strip ss [⟨p4,28,13,rws ZE a4⟩]) [] tt'/\Fx tt' ss' [] [⟨w1,28,13,rws ZE r.2.1⟩])) ?s0 ?s1 ?s2 ?s3 ?s4 ?s5
 ·exact ⟨h.1,h.2.2.1,h.2.2.2.2.1,h.2.2.2.2.2,h.2.2.2.1⟩
 ·intro Wc L0 a0 a1 a3 r H;intro  p3 ss hP;refine hdg mixed Tryz.func156 (rs:=[.cell 8 42,.tmp 9,.tmp 10]) fun q tT=>?_;obtain ⟨hF,hX⟩:=hP.start;generalize strip ss [⟨p3,28,13,rws ZE a3⟩]=tt0 at hF hX ⊢;refine go ?_;refine X8 hF rfl fun b1 ss2 hF=>?_;refine go ?_;refine X8 hF rfl fun b3 ss4 hF=>?_;refine go ?_;obtain ⟨o31,ho31,H⟩:=bnd H;refine L0 a1 a0.binds a0.macs a0.scope a0.id a0.steps a3 0 _ ho31 _ rfl _ tt0 b1 b3 ?_ ?_ _ _ _ p3 S hX hF
  ·intro H3 H4 Ha H5 H6 CU he T33 s34 t35 e32v0 tT hX hF;have he:=he.symm;subst he
   try dsimp only at H
   refine go ?_;refine st hF 0 rfl fun s36 hF=>?_;refine go ?_;have e:=pur H;subst e;exact rg _ ⟨_,_,rfl,hX,hF.pick [] [0] (by decide) (by decide)⟩
  ·intro r hr s' hs;subst hr;have e:=pur H;subst e;exact hsq hs
 ·intro Wc Yy L0 C1 a1 Yj Yk Yi Yl Ym X5 Wh out H c hc Q tt0 b1 b3 hE hR T ss tt z0v0 tT hX hF;refine lpy hc rfl fun q=>go ?_;refine cdp H (fun h H=>?_) (fun h H=>?_)
  ·refine go ?_;obtain ⟨E,hEq⟩:∃E,E=EE ss []:=⟨_,rfl⟩
   have n5:¬E b3:=by rw [hEq];exact K5 (hF.at 0 rfl) (by simp)
   have n6:¬E b1:=by rw [hEq];exact K5 (hF.at 1 rfl) (by simp)
   refine LC E [.v,.v,.v,.v,.v,.v,.v] [0,1,2,3,4,5,6] 7 12 [.v,.v,.v,.v] [8,9,10,11] [.x,.v,.v] [13,14,15] (by kernel_rfl) ?_;obtain ⟨x25,f1,H⟩:=bil (g:=KY) Fm.X6 H;have z:=K2 (X4 (hF.at 0 rfl) n5) (X4 (hF.at 1 rfl) n6);refine gh1 ?_;refine ⟨?_,?_⟩
   ·have z:=K2 (X4 (hF.at 0 rfl) n5) (X4 (hF.at 1 rfl) n6);refine gh ?_;obtain ⟨x29,hx29,H⟩:=bnd H;refine cx (C1 (KU Yj Yk Yi Yl Ym) x25 X5 _ hx29  z0v0 _ (pre 0 0 1 hF hX)) ?_;rintro _ s8 ⟨tt9,v7,rfl,hT,hG⟩
    refine VM (Za hT hG (by intro p hp;simp only [Kj,KD,or_false] at hp<;>first | (rcases hp with rfl<;>(rw [hEq];first | (refine Ze ?_;simp;done) | exact Zr rfl))| cases hp)) fun kp11=>?_
    obtain ⟨t10,hX,hF⟩:=aft 0 0 1 hF hX hT hG;have z:=K2 (X4 (hF.at 0 rfl) n5) (X4 (hF.at 1 rfl) n6);refine gh ?_;refine Hm hF rfl fun b12 s13 nw14 mo15 hF=>?_;have z:=K2 (X4 (hF.at 1 rfl) n5) (X4 (hF.at 2 rfl) n6);refine gh ?_;refine stK hF 0 (show E _ from ((Si kp11 (em0 hEq)) _ nw14)) rfl fun s16 hF=>?_;have z:=K2 (X4 (hF.at 1 rfl) n5) (X4 (hF.at 2 rfl) n6);refine gh ?_;refine go ?_;refine st hF 2 rfl fun s17 hF=>?_;refine go ?_;refine cdn H (fun h H=>?_) (fun h H=>?_)
    ·refine go ?_;refine st hF 1 rfl fun s18 hF=>?_;refine go ?_;exact wq (hR _ (pur H).symm _ (rg _ ⟨_,_,rfl,hX,hF.pick [] [0] (by decide) (by decide)⟩))
    ·refine go ?_;exact L0 a1 x29.1.binds x29.1.macs x29.1.scope x29.1.id x29.1.steps x29.2.1 (i64.wrap (Wh+1)) _ H _ rfl Q tt0 b1 b3 hE hR _ _ _ v7 S hX (hF.drop 1 0)
   ·have z:=K2 (X4 (hF.at 0 rfl) n5) (X4 (hF.at 1 rfl) n6);refine gh ?_;refine Hm hF rfl fun b19 s20 nw21 mo22 hF=>?_;have z:=K2 (X4 (hF.at 1 rfl) n5) (X4 (hF.at 2 rfl) n6);refine gh ?_;obtain ⟨x29,hx29,H⟩:=bnd H;refine cx (C1 (KU Yj Yk Yi Yl Ym) x25 X5 _ hx29  z0v0 _ (pre 0 0 1 hF hX)) ?_;rintro _ s24 ⟨tt25,v23,rfl,hT,hG⟩
    refine VM (Za hT hG (by intro p hp;simp only [Kj,KD,or_false] at hp<;>first | (rcases hp with rfl<;>(rw [hEq];first | (refine Ze ?_;simp;done) | exact Zr rfl))| cases hp)) fun kp27=>?_
    obtain ⟨t26,hX,hF⟩:=aft 0 0 1 hF hX hT hG;have z:=K2 (X4 (hF.at 1 rfl) n5) (X4 (hF.at 2 rfl) n6);refine gh ?_;refine stK hF 0 (show E _ from ((em0 hEq) _ nw21)) rfl fun s28 hF=>?_;have z:=K2 (X4 (hF.at 1 rfl) n5) (X4 (hF.at 2 rfl) n6);refine gh ?_;refine go ?_;refine st hF 2 rfl fun s29 hF=>?_;refine go ?_;refine cdn H (fun h H=>?_) (fun h H=>?_)
    ·refine go ?_;refine st hF 1 rfl fun s30 hF=>?_;refine go ?_;exact wq (hR _ (pur H).symm _ (rg _ ⟨_,_,rfl,hX,hF.pick [] [0] (by decide) (by decide)⟩))
    ·refine go ?_;exact L0 a1 x29.1.binds x29.1.macs x29.1.scope x29.1.id x29.1.steps x29.2.1 (i64.wrap (Wh+1)) _ H _ rfl Q tt0 b1 b3 hE hR _ _ _ v23 S hX (hF.drop 1 0)
  ·refine go ?_;exact wq (hE _ _ _ _ _ _ (pur H).symm _ _ _ z0v0 S hX hF)
 ·intro Vb HM HK C0 C4 C2 a0 a1 a3 r H;intro  p3 ss hP;refine hdg mixed Tryz.func130 (rs:=[.cell 8 42,.tmp 9,.tmp 10]) fun q tT=>?_;obtain ⟨hF,hX⟩:=hP.start;generalize strip ss [⟨p3,28,13,rws ZE a3⟩]=tt0 at hF hX ⊢;refine go ?_;refine X8 hF rfl fun b1 ss2 hF=>?_;refine go ?_;refine X8 hF rfl fun b3 ss4 hF=>?_;refine go ?_;refine X8 hF rfl fun b5 ss6 hF=>?_;refine go ?_;obtain ⟨x24,g7,H⟩:=bnd H;refine Yb 4 20 24 (.bool x24) (giN q (fun q=>?_) (fun q=>?_)) (fun J=>?_)
  ·refine go ?_;exact Yt 20 g7
  ·refine go ?_;exact Yt 20 g7
  refine go ?_;refine cdb H (fun h H=>?_) (fun h H=>?_)
  ·refine go ?_;refine bp H (AN a0 a1 fx0) fun x29 h H=>cl h ?_;refine go ?_;refine X8 hF rfl fun b9 s10 hF=>?_;refine go ?_;refine X8 hF rfl fun b11 s12 hF=>?_;refine go ?_;refine st hF 1 rfl fun s13 hF=>?_;refine go ?_;refine st hF 0 rfl fun s14 hF=>?_;refine go ?_;refine st hF 2 rfl fun s15 hF=>?_;refine go ?_;have e:=pur H;subst e;exact rg _ ⟨_,_,rfl,hX,hF.pick [] [0] (by decide) (by decide)⟩
  ·obtain ⟨x38,f1,H⟩:=bil (g:=KY) Fm.X6 H;refine go1 ?_;refine go ?_;refine cdp H (fun h H=>?_) (fun h H=>?_)
   ·refine go ?_;refine Ye E0 [.v,.v,.v,.v,.v,.v,.v,.v,.v,.v,.v] (by kernel_rfl) ?_;obtain ⟨x46,f1,H⟩:=bil (g:=KY) Fm.X6 H;refine go1 ?_;refine bp H (Ih a0 x46) fun x48 h H=>cv h ?_;refine go ?_;refine cdp H (fun h H=>?_) (fun h H=>?_)
    ·refine go ?_;refine st hF 0 rfl fun s16 hF=>?_;refine go ?_;have e:=pur H;subst e;exact rg _ ⟨_,_,rfl,hX,hF.pick [] [0] (by decide) (by decide)⟩
    ·refine go ?_;refine cdp H (fun h H=>?_) (fun h H=>?_)
     ·refine go ?_;obtain ⟨x63,hx63,H⟩:=bnd H;refine cx (C2 a0 a1 x48.2 a3 _ hx63  p3 _ (pre 0 0 1 hF hX)) ?_;rintro _ s18 ⟨t19,v17,rfl,hT,hG⟩;obtain ⟨t20,hX,hF⟩:=aft 0 0 1 hF hX hT hG;refine go ?_;refine st hF 0 rfl fun s21 hF=>?_;refine go ?_;have e:=pur H;subst e;exact rg _ ⟨_,_,rfl,hX,hF.pick [] [0] (by decide) (by decide)⟩
     ·refine go ?_;refine cdp H (fun h H=>?_) (fun h H=>?_)
      ·refine go ?_;obtain ⟨x74,hx74,H⟩:=bnd H;refine cx (C4 a0 a1 x48.2 a3 _ hx74  p3 _ (pre 0 0 1 hF hX)) ?_;rintro _ s23 ⟨t24,v22,rfl,hT,hG⟩;obtain ⟨tt25,hX,hF⟩:=aft 0 0 1 hF hX hT hG;refine go ?_;refine st hF 0 rfl fun s26 hF=>?_;refine go ?_;have e:=pur H;subst e;exact rg _ ⟨_,_,rfl,hX,hF.pick [] [0] (by decide) (by decide)⟩
      ·refine go ?_;obtain ⟨x83,hx83,H⟩:=bnd H;refine cx (C0 a0 a1.kids a3 _ hx83  p3 _ (pre 0 0 1 hF hX)) ?_;rintro _ s28 ⟨t29,v27,rfl,hT,hG⟩;obtain ⟨t30,hX,hF⟩:=aft 0 0 1 hF hX hT hG;refine go ?_;refine st hF 0 rfl fun s31 hF=>?_;refine go ?_;have e:=pur H;subst e;exact rg _ ⟨_,_,rfl,hX,hF.pick [] [0] (by decide) (by decide)⟩
   ·refine go ?_;obtain ⟨Bx,hx83_1,H⟩:=bnd H;refine cx (C0 a0 a1.kids a3 _ hx83_1  p3 _ (pre 0 0 1 hF hX)) ?_;rintro _ s33 ⟨t34,v32,rfl,hT,hG⟩;obtain ⟨t35,hX,hF⟩:=aft 0 0 1 hF hX hT hG;refine go ?_;refine st hF 0 rfl fun s36 hF=>?_;refine go ?_;have e:=pur H;subst e;exact rg _ ⟨_,_,rfl,hX,hF.pick [] [0] (by decide) (by decide)⟩
 ·intro Yy C1 a0 a1 a2 a4 r H;intro  p4 ss hP;refine hdg mixed Tryz.func155 (rs:=[.cell 10 42,.tmp 11,.tmp 12]) fun q tT=>?_;obtain ⟨hF,hX⟩:=hP.start;generalize strip ss [⟨p4,28,13,rws ZE a4⟩]=tt0 at hF hX ⊢;refine go ?_;refine X8 hF rfl fun b1 ss2 hF=>?_;refine go ?_;refine X8 hF rfl fun b3 ss4 hF=>?_;refine go ?_;refine X8 hF rfl fun b5 ss6 hF=>?_;refine go ?_;refine Ye E0 [.v,.v,.v,.v,.v,.v,.v,.x,.z] (by kernel_rfl) ?_;refine go ?_;refine bp H (Ag a0 a2) fun x25 h H=>cv h ?_;obtain ⟨x26,f1,H⟩:=bil (g:=Zd) Mac.X6 H;refine go1 ?_;refine WQ hF rfl fun b7 s8 hF=>?_;refine go ?_;refine st hF 0 rfl fun s9 hF=>?_;refine go ?_;refine bp H (B1 a0 a1 a2 fx0) fun x33 h H=>cl h ?_;refine go ?_;refine X8 hF rfl fun b10 s11 hF=>?_;refine go ?_;refine st hF 4 rfl fun s12 hF=>?_;refine go ?_;refine st hF 0 rfl fun s13 hF=>?_;refine go ?_;refine cdn H (fun h H=>?_) (fun h H=>?_)
  ·refine go ?_;refine st hF 2 rfl fun s14 hF=>?_;refine go ?_;have e:=pur H;subst e;exact rg _ ⟨_,_,rfl,hX,hF.pick [] [0] (by decide) (by decide)⟩
  ·refine go ?_;refine Ye E0 [.v,.v,.v,.v,.v,.v,.v,.v,.v,.v,.v,.v,.v,.v,.v] (by kernel_rfl) ?_;refine go ?_;refine bp H (Ve a1 x33.1.scope 1) fun x51 h H=>cv h ?_;refine go ?_;refine bp H (H9 a0.binds x26.rules x26.lits x51) fun x52 h H=>cv h ?_;refine go ?_;refine apd (g:=ZE) hF 0 H (rdo (c:=true) (g:=ZE) Stp.X6) fun x64 H v15 s16 hF=>?_;refine go ?_;obtain ⟨x69,hx69,H⟩:=bnd H;refine cx (C1 x33.1 x33.2.1 x64 _ hx69  v15 _ (pre 0 0 1 hF hX)) ?_;rintro _ s18 ⟨t19,v17,rfl,hT,hG⟩;obtain ⟨t20,hX,hF⟩:=aft 0 0 1 hF hX hT hG;refine go ?_;refine st hF 2 rfl fun s21 hF=>?_;refine go ?_;have e:=pur H;subst e;exact rg _ ⟨_,_,rfl,hX,hF.pick [] [0] (by decide) (by decide)⟩
 ·intro Vb Yy GC C0 C1 C3 a0 a1 a2 a4 r H;intro  p4 ss hP;refine hdg mixed Tryz.func154 (rs:=[.cell 10 42,.tmp 11,.tmp 12]) fun q tT=>?_;obtain ⟨hF,hX⟩:=hP.start;generalize strip ss [⟨p4,28,13,rws ZE a4⟩]=tt0 at hF hX ⊢;refine go ?_;refine X8 hF rfl fun b1 ss2 hF=>?_;refine go ?_;refine X8 hF rfl fun b3 ss4 hF=>?_;refine go ?_;refine X8 hF rfl fun b5 ss6 hF=>?_;refine go ?_;obtain ⟨x37,g7,H⟩:=bnd H;refine Yb 4 33 37 (.bool x37) (gi q (fun q=>?_) (fun q=>?_)) (fun J=>?_)
  ·refine go ?_;exact Yt 33 g7
  ·refine go ?_;exact Yt 33 g7
  refine go ?_;refine cdb H (fun h H=>?_) (fun h H=>?_)
  ·refine go ?_;obtain ⟨E,hEq⟩:∃E,E=EE ss6 [b5]:=⟨_,rfl⟩
   have n9:¬E b3:=by rw [hEq];exact K5 (hF.at 1 rfl) (nm1 (neL hF 1 0 rfl rfl (by decide)))
   have n10:¬E b1:=by rw [hEq];exact K5 (hF.at 2 rfl) (nm1 (neL hF 2 0 rfl rfl (by decide)))
   refine Ye E [.v,.v,.v,.v,.v,.v,.x,.v,.v,.v,.x,.v,.v] (by kernel_rfl) ?_;obtain ⟨x41,f1,H⟩:=bls (g:=KY) Fm.X6 (lo:=some (i6 1)) (hi:=none) rfl rfl H;have z:=K2 (X4 (hF.at 1 rfl) n9) (X4 (hF.at 2 rfl) n10);refine gh1 ?_;obtain ⟨x44,hx44,H⟩:=bnd H;refine cx (C0 a0 x41 a4 _ hx44  p4 _ (pre 0 0 1 hF hX)) ?_;rintro _ s12 ⟨t13,v11,rfl,hT,hG⟩
   refine VM (Za hT hG (by intro p hp;simp only [Kj,KD,or_false] at hp<;>first | (rcases hp with rfl<;>(rw [hEq];first | (refine Ze ?_;simp;done) | exact Zr rfl))| cases hp)) fun kp15=>?_
   obtain ⟨t14,hX,hF⟩:=aft 0 0 1 hF hX hT hG;have z:=K2 (X4 (hF.at 1 rfl) n9) (X4 (hF.at 2 rfl) n10);refine gh ?_;refine stK hF 0 (by rw [hEq];exact Ze (by simp)) rfl fun s16 hF=>?_;have z:=K2 (X4 (hF.at 1 rfl) n9) (X4 (hF.at 2 rfl) n10);refine gh ?_;refine go ?_;have e:=pur H;subst e;exact rg [.agg [sf K0 x44.1.binds,sf Zd x44.1.macs,i6 x44.1.scope,i6 x44.1.id,i6 x44.1.steps],v11,i6 x44.2.2] ⟨_,_,rfl,hX,hF.pick [] [0] (by decide) (by decide)⟩
  ·refine go ?_;obtain ⟨x56,g17,H⟩:=bnd H;refine Yb 4 52 56 (.bool x56) (gi q (fun q=>?_) (fun q=>?_)) (fun J=>?_)
   ·refine go ?_;exact Yt 52 g17
   ·refine go ?_;exact Yt 52 g17
   refine go ?_;obtain ⟨x64,g19,H⟩:=bnd H;refine Yb 6 58 64 (.bool x64) (gi q (fun q=>?_) (fun q=>?_)) (fun J=>?_)
   ·rw [if_pos (dbt q)] at g19;obtain ⟨x60,f1,g19⟩:=bil (g:=KY) Fm.X6 g19;refine go1 ?_;refine go ?_;exact Yt 58 g19
   ·rw [if_neg (dbf q)] at g19;refine go ?_;exact Yt 58 g19
   refine go ?_;refine cdb H (fun h H=>?_) (fun h H=>?_)
   ·refine go ?_;obtain ⟨E,hEq⟩:∃E,E=EE ss6 [b5]:=⟨_,rfl⟩
    have n21:¬E b3:=by rw [hEq];exact K5 (hF.at 1 rfl) (nm1 (neL hF 1 0 rfl rfl (by decide)))
    have n22:¬E b1:=by rw [hEq];exact K5 (hF.at 2 rfl) (nm1 (neL hF 2 0 rfl rfl (by decide)))
    refine Ye E [.v,.v,.v,.v,.v,.v,.v,.v,.v,.v,.v,.v,.x,.v,.v,.v,.x,.v,.v] (by kernel_rfl) ?_;obtain ⟨x68,f1,H⟩:=bil (g:=KY) Fm.X6 H;obtain ⟨x73,f2,H⟩:=bil (g:=KY) Fm.X6 H;have z:=K2 (X4 (hF.at 1 rfl) n21) (X4 (hF.at 2 rfl) n22);refine gh2 ?_;obtain ⟨x77,hx77,H⟩:=bnd H;refine cx (C3 a0 x68.kids x73 a4 _ hx77  p4 _ (pre 0 0 1 hF hX)) ?_;rintro _ s24 ⟨tt25,v23,rfl,hT,hG⟩
    refine VM (Za hT hG (by intro p hp;simp only [Kj,KD,or_false] at hp<;>first | (rcases hp with rfl<;>(rw [hEq];first | (refine Ze ?_;simp;done) | exact Zr rfl))| cases hp)) fun kp27=>?_
    obtain ⟨t26,hX,hF⟩:=aft 0 0 1 hF hX hT hG;have z:=K2 (X4 (hF.at 1 rfl) n21) (X4 (hF.at 2 rfl) n22);refine gh ?_;refine stK hF 0 (by rw [hEq];exact Ze (by simp)) rfl fun s28 hF=>?_;have z:=K2 (X4 (hF.at 1 rfl) n21) (X4 (hF.at 2 rfl) n22);refine gh ?_;refine go ?_;have e:=pur H;subst e;exact rg [.agg [sf K0 x77.1.binds,sf Zd x77.1.macs,i6 x77.1.scope,i6 x77.1.id,i6 x77.1.steps],v23,i6 x77.2.2] ⟨_,_,rfl,hX,hF.pick [] [0] (by decide) (by decide)⟩
   ·refine go ?_;obtain ⟨x89,g29,H⟩:=bnd H;refine Yb 4 85 89 (.bool x89) (gi q (fun q=>?_) (fun q=>?_)) (fun J=>?_)
    ·refine go ?_;exact Yt 85 g29
    ·refine go ?_;exact Yt 85 g29
    refine go ?_;refine cdb H (fun h H=>?_) (fun h H=>?_)
    ·obtain ⟨x93,f1,H⟩:=bil (g:=KY) Fm.X6 H;refine go1 ?_;refine bp H (HX x93) fun x95 h H=>cl h ?_;refine go ?_;refine cdb H (fun h H=>?_) (fun h H=>?_)
     ·refine go ?_;refine st hF 0 rfl fun s31 hF=>?_;refine go ?_;have e:=pur H;subst e;exact rg _ ⟨_,_,rfl,hX,hF.pick [] [0] (by decide) (by decide)⟩
     ·refine go ?_;obtain ⟨x108,hx108,H⟩:=bnd H;refine cx (C0 a0 x95.2.1 a4 _ hx108  p4 _ (pre 0 0 1 hF hX)) ?_;rintro _ s33 ⟨t34,v32,rfl,hT,hG⟩;obtain ⟨t35,hX,hF⟩:=aft 0 0 1 hF hX hT hG;refine go ?_;refine X8 hF rfl fun b36 s37 hF=>?_;refine go ?_;refine st hF 0 rfl fun s38 hF=>?_;refine go ?_;refine cdn H (fun h H=>?_) (fun h H=>?_)
      ·refine go ?_;refine st hF 1 rfl fun s39 hF=>?_;refine go ?_;have e:=pur H;subst e;exact rg _ ⟨_,_,rfl,hX,hF.pick [] [0] (by decide) (by decide)⟩
      ·refine go ?_;obtain ⟨E,hEq⟩:∃E,E=EE s38 [b5]:=⟨_,rfl⟩
       have n40:¬E b36:=by rw [hEq];exact K5 (hF.at 0 rfl) (nm1 (neL hF 0 1 rfl rfl (by decide)))
       have n41:¬E b3:=by rw [hEq];exact K5 (hF.at 2 rfl) (nm1 (neL hF 2 1 rfl rfl (by decide)))
       have n42:¬E b1:=by rw [hEq];exact K5 (hF.at 3 rfl) (nm1 (neL hF 3 1 rfl rfl (by decide)))
       refine Ye E [.v,.v,.v,.v,.v,.v,.v,.v,.x,.v,.v,.v,.x,.v,.v] (by kernel_rfl) ?_;obtain ⟨x121,f1,H⟩:=bil (g:=KY) Fm.X6 H;have z:=K2 (X4 (hF.at 0 rfl) n40) (K2 (X4 (hF.at 2 rfl) n41) (X4 (hF.at 3 rfl) n42));refine gh1 ?_;obtain ⟨x125,hx125,H⟩:=bnd H;refine cx (C3 x108.1 x95.1 x121 x108.2.1 _ hx125  v32 _ (pre 0 0 1 hF hX)) ?_;rintro _ s44 ⟨t45,v43,rfl,hT,hG⟩
       refine VM (Za hT hG (by intro p hp;simp only [Kj,KD,or_false] at hp<;>first | (rcases hp with rfl<;>(rw [hEq];first | (refine Ze ?_;simp;done) | exact Zr rfl))| cases hp)) fun kp47=>?_
       obtain ⟨tt46,hX,hF⟩:=aft 0 0 1 hF hX hT hG;have z:=K2 (X4 (hF.at 0 rfl) n40) (K2 (X4 (hF.at 2 rfl) n41) (X4 (hF.at 3 rfl) n42));refine gh ?_;refine stK hF 1 (by rw [hEq];exact Ze (by simp)) rfl fun s48 hF=>?_;have z:=K2 (X4 (hF.at 0 rfl) n40) (K2 (X4 (hF.at 2 rfl) n41) (X4 (hF.at 3 rfl) n42));refine gh ?_;refine go ?_;have e:=pur H;subst e;exact rg [.agg [sf K0 x125.1.binds,sf Zd x125.1.macs,i6 x125.1.scope,i6 x125.1.id,i6 x125.1.steps],v43,i6 x125.2.2] ⟨_,_,rfl,hX,hF.pick [] [0] (by decide) (by decide)⟩
    ·refine go ?_;obtain ⟨x137,g49,H⟩:=bnd H;refine Yb 4 133 137 (.bool x137) (gi q (fun q=>?_) (fun q=>?_)) (fun J=>?_)
     ·refine go ?_;exact Yt 133 g49
     ·refine go ?_;exact Yt 133 g49
     refine go ?_;refine cdb H (fun h H=>?_) (fun h H=>?_)
     ·obtain ⟨x141,f1,H⟩:=bil (g:=KY) Fm.X6 H;refine go1 ?_;refine bp H (HX x141) fun x143 h H=>cl h ?_;refine go ?_;refine cdb H (fun h H=>?_) (fun h H=>?_)
      ·refine go ?_;refine st hF 0 rfl fun s51 hF=>?_;refine go ?_;have e:=pur H;subst e;exact rg _ ⟨_,_,rfl,hX,hF.pick [] [0] (by decide) (by decide)⟩
      ·refine go ?_;refine bp H (CH a0 x143.1 x143.2.1 (Fm.mk 2 zB 0 [] []) fx0) fun x157 h H=>cl h ?_;refine go ?_;refine X8 hF rfl fun b52 s53 hF=>?_;refine go ?_;refine X8 hF rfl fun b54 s55 hF=>?_;refine go ?_;refine st hF 1 rfl fun s56 hF=>?_;refine go ?_;refine st hF 0 rfl fun s57 hF=>?_;refine go ?_;refine Ye E0 [.v,.v,.v,.v,.v,.v,.v,.x,.z] (by kernel_rfl) ?_;obtain ⟨x163,f1,H⟩:=bil (g:=KY) Fm.X6 H;refine go1 ?_;refine bp H (Ve x163 x157.1.scope 0) fun x167 h H=>cv h ?_;refine go ?_;refine WQ hF rfl fun b58 s59 hF=>?_;refine go ?_;refine st hF 0 rfl fun s60 hF=>?_;refine go ?_;obtain ⟨x174,g61,H⟩:=bnd H;refine Yb 3 171 174 (.bool x174) (giN q (fun q=>?_) (fun q=>?_)) (fun J=>?_)
       ·rw [if_pos (dnf q)] at g61;refine go ?_;obtain ⟨x172,hx172,g61⟩:=bnd g61;refine cl (YA x167 _ hx172) ?_;refine go ?_;exact Yt 171 g61
       ·rw [if_neg (dnt q)] at g61;refine go ?_;exact Yt 171 g61
       refine go ?_;refine cdb H (fun h H=>?_) (fun h H=>?_)
       ·refine go ?_;obtain ⟨E,hEq⟩:∃E,E=EE s60 [b5]:=⟨_,rfl⟩
        have n63:¬E b58:=by rw [hEq];exact K5 (hF.at 0 rfl) (nm1 (neL hF 0 3 rfl rfl (by decide)))
        have n64:¬E b54:=by rw [hEq];exact K5 (hF.at 1 rfl) (nm1 (neL hF 1 3 rfl rfl (by decide)))
        have n65:¬E b52:=by rw [hEq];exact K5 (hF.at 2 rfl) (nm1 (neL hF 2 3 rfl rfl (by decide)))
        have n66:¬E b3:=by rw [hEq];exact K5 (hF.at 4 rfl) (nm1 (neL hF 4 3 rfl rfl (by decide)))
        have n67:¬E b1:=by rw [hEq];exact K5 (hF.at 5 rfl) (nm1 (neL hF 5 3 rfl rfl (by decide)))
        refine Ye E [.v,.v,.v,.v,.x,.v,.v] (by kernel_rfl) ?_;have z:=K2 (X4 (hF.at 0 rfl) n63) (K2 (X4 (hF.at 1 rfl) n64) (K2 (X4 (hF.at 2 rfl) n65) (K2 (X4 (hF.at 4 rfl) n66) (X4 (hF.at 5 rfl) n67))));refine gh ?_;refine bp H (DQ x157.2.2) fun x178 h H=>cv h ?_;have z:=K2 (X4 (hF.at 0 rfl) n63) (K2 (X4 (hF.at 1 rfl) n64) (K2 (X4 (hF.at 2 rfl) n65) (K2 (X4 (hF.at 4 rfl) n66) (X4 (hF.at 5 rfl) n67))));refine gh ?_;refine stK hF 3 (by rw [hEq];exact Ze (by simp)) rfl fun s68 hF=>?_;have z:=K2 (X4 (hF.at 0 rfl) n63) (K2 (X4 (hF.at 1 rfl) n64) (K2 (X4 (hF.at 2 rfl) n65) (K2 (X4 (hF.at 4 rfl) n66) (X4 (hF.at 5 rfl) n67))));refine gh ?_;refine go ?_;have e:=pur H;subst e;exact rg [.agg [sf K0 x157.1.binds,sf Zd x157.1.macs,i6 x157.1.scope,i6 x157.1.id,i6 x157.1.steps],p4,i6 x178] ⟨_,_,rfl,hX,hF.pick [] [0] (by decide) (by decide)⟩
       ·refine go ?_;obtain ⟨x183,hx183,H⟩:=bnd H;refine cx (C1 x157.1 x167 a4 _ hx183  p4 _ (pre 0 0 1 hF hX)) ?_;rintro _ s70 ⟨t71,v69,rfl,hT,hG⟩;obtain ⟨t72,hX,hF⟩:=aft 0 0 1 hF hX hT hG;refine go ?_;refine st hF 3 rfl fun s73 hF=>?_;refine go ?_;have e:=pur H;subst e;exact rg _ ⟨_,_,rfl,hX,hF.pick [] [0] (by decide) (by decide)⟩
     ·refine go ?_;refine bp H (DX a0 a1 a2 fx0) fun x192 h H=>cl h ?_;refine go ?_;refine X8 hF rfl fun b74 s75 hF=>?_;refine go ?_;refine X8 hF rfl fun b76 s77 hF=>?_;refine go ?_;refine st hF 1 rfl fun s78 hF=>?_;refine go ?_;refine st hF 0 rfl fun s79 hF=>?_;refine go ?_;refine st hF 2 rfl fun s80 hF=>?_;refine go ?_;have e:=pur H;subst e;exact rg _ ⟨_,_,rfl,hX,hF.pick [] [0] (by decide) (by decide)⟩
 ·intro Yy C1 a0 a1 a2 a4 r H;intro  p4 ss hP;refine hdg mixed Tryz.func179 (rs:=[.cell 10 42,.tmp 11,.tmp 12]) fun q tT=>?_;obtain ⟨hF,hX⟩:=hP.start;generalize strip ss [⟨p4,28,13,rws ZE a4⟩]=tt0 at hF hX ⊢;refine go ?_;refine X8 hF rfl fun b1 ss2 hF=>?_;refine go ?_;refine X8 hF rfl fun b3 ss4 hF=>?_;refine go ?_;refine X8 hF rfl fun b5 ss6 hF=>?_;refine go ?_;refine bp H (EP a0 a1 (Fm.mk 2 zB 0 [] []) fx0) fun x22 h H=>cl h ?_;refine go ?_;refine X8 hF rfl fun b7 s8 hF=>?_;refine go ?_;refine X8 hF rfl fun b9 s10 hF=>?_;refine go ?_;refine st hF 1 rfl fun s11 hF=>?_;refine go ?_;refine st hF 0 rfl fun s12 hF=>?_;refine go ?_;refine cdn H (fun h H=>?_) (fun h H=>?_)
  ·refine go ?_;refine st hF 2 rfl fun s13 hF=>?_;refine go ?_;have e:=pur H;subst e;exact rg _ ⟨_,_,rfl,hX,hF.pick [] [0] (by decide) (by decide)⟩
  ·refine go ?_;refine bp H (Ve a2 x22.1.scope 0) fun x34 h H=>cl h ?_;refine go ?_;refine X8 hF rfl fun b14 s15 hF=>?_;refine go ?_;refine st hF 0 rfl fun s16 hF=>?_;refine go ?_;refine bp H (YA x34) fun x36 h H=>cl h ?_;refine go ?_;refine cdb H (fun h H=>?_) (fun h H=>?_)
   ·refine go ?_;refine st hF 3 rfl fun s17 hF=>?_;refine go ?_;have e:=pur H;subst e;exact rg _ ⟨_,_,rfl,hX,hF.pick [] [0] (by decide) (by decide)⟩
   ·refine go ?_;obtain ⟨x44,hx44,H⟩:=bnd H;refine cx (C1 x22.1 x34 a4 _ hx44  p4 _ (pre 0 0 1 hF hX)) ?_;rintro _ s19 ⟨t20,v18,rfl,hT,hG⟩;obtain ⟨t21,hX,hF⟩:=aft 0 0 1 hF hX hT hG;refine go ?_;refine st hF 3 rfl fun s22 hF=>?_;refine go ?_;have e:=pur H;subst e;exact rg _ ⟨_,_,rfl,hX,hF.pick [] [0] (by decide) (by decide)⟩
theorem Ca:∀(a0:Xpn) (a1:List Fm) (a2:Int) (a3:List Stp) r,Vb a0 a1 a2 a3=some r->∀  (p3:AV) (ss:Sto),Pre ss [] [⟨p3,28,13,rws ZE a3⟩]->Ctr KZ 156 [.agg (K7 a0),sf KY a1,i6 a2,p3] ss (fun r' ss'=>∃(tt':Sto) (w1:AV),r'=.tup [.agg (K7 r.1),w1,i6 r.2.2]/\Tau (strip ss [⟨p3,28,13,rws ZE a3⟩]) [] tt'/\Fx tt' ss' [] [⟨w1,28,13,rws ZE r.2.1⟩]):=fun a0 a1 a2 a3=>(BF a2).1 a0 a1 a3
theorem A9:∀(a0:Xpn) (a1:Fm) (a2:Int) (a3:List Stp) r,Yy a0 a1 a2 a3=some r->∀  (p3:AV) (ss:Sto),Pre ss [] [⟨p3,28,13,rws ZE a3⟩]->Ctr KZ 130 [.agg (K7 a0),.agg (KY a1),i6 a2,p3] ss (fun r' ss'=>∃(tt':Sto) (w1:AV),r'=.tup [.agg (K7 r.1),w1,i6 r.2.2]/\Tau (strip ss [⟨p3,28,13,rws ZE a3⟩]) [] tt'/\Fx tt' ss' [] [⟨w1,28,13,rws ZE r.2.1⟩]):=fun a0 a1 a2 a3=>(BF a2).2.1 a0 a1 a3
theorem Fi:∀(a1:List Fm) (a2:Int) (Yj:List Bnd) (Yk:List Mac) (Yi Yl Ym:Int) (X5:List Stp) (Wh:Int) out,WY a1 a2 Yj Yk Yi Yl Ym X5 Wh=some out->∀c,Yf Tryz.f156 0=some c->∀(Q:QT) (tt0:Sto) (b1 b3:Nat),(∀(I2:List Bnd) (I3:List Mac) (I4 I5 I6:Int) (YT:List Stp),out=Sum.inr (I2,I3,I4,I5,I6,YT)->∀(T:TT) (ss tt:Sto) (e0v0:AV),T 3=e0v0/\T 4=.ptr b1 0/\T 8=.ptr b3 0->Tau tt0 [] tt->Fx tt ss [(b3,⟨42,5,[.Ya,.Ya,i6 0,i6 0,i6 0]⟩),(b1,⟨42,5,[sf K0 I2,sf Zd I3,i6 I4,i6 I5,i6 I6]⟩)] [⟨e0v0,28,13,rws ZE YT⟩]->Q (.ex 0) ⟨T,ss⟩)->(∀r,out=Sum.inl r->∀s',Aj KZ [.cell 8 42,.tmp 9,.tmp 10] (fun r' ss'=>∃(tt':Sto),r'=.tup [.agg (K7 r.1),sf ZE r.2.1,i6 r.2.2]/\Tau tt0 [] tt'/\Fx tt' ss' [] []) s'->Q .ret s')->∀(T:TT) (ss tt:Sto) (z0v0:AV),T 1=sf KY a1/\T 2=i6 a2/\T 3=z0v0/\T 4=.ptr b1 0/\T 8=.ptr b3 0/\T 11=i6 Wh->Tau tt0 [] tt->Fx tt ss [(b3,⟨42,5,[.Ya,.Ya,i6 0,i6 0,i6 0]⟩),(b1,⟨42,5,[sf K0 Yj,sf Zd Yk,i6 Yi,i6 Yl,i6 Ym]⟩)] [⟨z0v0,28,13,rws ZE X5⟩]->aLp KZ c Q ⟨T,ss⟩:=by
 intro a1 a2 Yj Yk Yi Yl Ym X5 Wh;revert Yj Yk Yi Yl Ym X5 Wh;refine WY.partial_correctness a1 a2 _ ?_;intro WY IH Yj Yk Yi Yl Ym X5 Wh out H c hc Q tt0 b1 b3 hE hR T ss tt z0v0 tT hX hF;refine lpy hc rfl fun q=>go ?_;refine cdp H (fun h H=>?_) (fun h H=>?_)
 ·refine go ?_;obtain ⟨E,hEq⟩:∃E,E=EE ss []:=⟨_,rfl⟩
  have n5:¬E b3:=by rw [hEq];exact K5 (hF.at 0 rfl) (by simp)
  have n6:¬E b1:=by rw [hEq];exact K5 (hF.at 1 rfl) (by simp)
  refine LC E [.v,.v,.v,.v,.v,.v,.v] [0,1,2,3,4,5,6] 7 12 [.v,.v,.v,.v] [8,9,10,11] [.x,.v,.v] [13,14,15] (by kernel_rfl) ?_;obtain ⟨x25,f1,H⟩:=bil (g:=KY) Fm.X6 H;have z:=K2 (X4 (hF.at 0 rfl) n5) (X4 (hF.at 1 rfl) n6);refine gh1 ?_;refine ⟨?_,?_⟩
  ·have z:=K2 (X4 (hF.at 0 rfl) n5) (X4 (hF.at 1 rfl) n6);refine gh ?_;obtain ⟨x29,hx29,H⟩:=bnd H;refine cx (A9 (KU Yj Yk Yi Yl Ym) x25 a2 X5 _ hx29  z0v0 _ (pre 0 0 1 hF hX)) ?_;rintro _ s8 ⟨tt9,v7,rfl,hT,hG⟩
   refine VM (Za hT hG (by intro p hp;simp only [Kj,KD,or_false] at hp<;>first | (rcases hp with rfl<;>(rw [hEq];first | (refine Ze ?_;simp;done) | exact Zr rfl))| cases hp)) fun kp11=>?_
   obtain ⟨t10,hX,hF⟩:=aft 0 0 1 hF hX hT hG;have z:=K2 (X4 (hF.at 0 rfl) n5) (X4 (hF.at 1 rfl) n6);refine gh ?_;refine Hm hF rfl fun b12 s13 nw14 mo15 hF=>?_;have z:=K2 (X4 (hF.at 1 rfl) n5) (X4 (hF.at 2 rfl) n6);refine gh ?_;refine stK hF 0 (show E _ from ((Si kp11 (em0 hEq)) _ nw14)) rfl fun s16 hF=>?_;have z:=K2 (X4 (hF.at 1 rfl) n5) (X4 (hF.at 2 rfl) n6);refine gh ?_;refine go ?_;refine st hF 2 rfl fun s17 hF=>?_;refine go ?_;refine cdn H (fun h H=>?_) (fun h H=>?_)
   ·refine go ?_;refine st hF 1 rfl fun s18 hF=>?_;refine go ?_;exact wq (hR _ (pur H).symm _ (rg _ ⟨_,rfl,hX,K3 _⟩))
   ·refine go ?_;exact IH  x29.1.binds x29.1.macs x29.1.scope x29.1.id x29.1.steps x29.2.1 (i64.wrap (Wh+1)) _ H _ rfl Q tt0 b1 b3 hE hR _ _ _ v7 S hX (hF.drop 1 0)
  ·have z:=K2 (X4 (hF.at 0 rfl) n5) (X4 (hF.at 1 rfl) n6);refine gh ?_;refine Hm hF rfl fun b19 s20 nw21 mo22 hF=>?_;have z:=K2 (X4 (hF.at 1 rfl) n5) (X4 (hF.at 2 rfl) n6);refine gh ?_;obtain ⟨x29,hx29,H⟩:=bnd H;refine cx (A9 (KU Yj Yk Yi Yl Ym) x25 a2 X5 _ hx29  z0v0 _ (pre 0 0 1 hF hX)) ?_;rintro _ s24 ⟨tt25,v23,rfl,hT,hG⟩
   refine VM (Za hT hG (by intro p hp;simp only [Kj,KD,or_false] at hp<;>first | (rcases hp with rfl<;>(rw [hEq];first | (refine Ze ?_;simp;done) | exact Zr rfl))| cases hp)) fun kp27=>?_
   obtain ⟨t26,hX,hF⟩:=aft 0 0 1 hF hX hT hG;have z:=K2 (X4 (hF.at 1 rfl) n5) (X4 (hF.at 2 rfl) n6);refine gh ?_;refine stK hF 0 (show E _ from ((em0 hEq) _ nw21)) rfl fun s28 hF=>?_;have z:=K2 (X4 (hF.at 1 rfl) n5) (X4 (hF.at 2 rfl) n6);refine gh ?_;refine go ?_;refine st hF 2 rfl fun s29 hF=>?_;refine go ?_;refine cdn H (fun h H=>?_) (fun h H=>?_)
   ·refine go ?_;refine st hF 1 rfl fun s30 hF=>?_;refine go ?_;exact wq (hR _ (pur H).symm _ (rg _ ⟨_,rfl,hX,K3 _⟩))
   ·refine go ?_;exact IH  x29.1.binds x29.1.macs x29.1.scope x29.1.id x29.1.steps x29.2.1 (i64.wrap (Wh+1)) _ H _ rfl Q tt0 b1 b3 hE hR _ _ _ v23 S hX (hF.drop 1 0)
 ·refine go ?_;exact wq (hE _ _ _ _ _ _ (pur H).symm _ _ _ z0v0 S hX hF)
theorem DP:∀(a0:Xpn) (a1:List Fm) (a2:Int) (a3:List Stp) r,IG a0 a1 a2 a3=some r->∀  (p3:AV) (ss:Sto),Pre ss [] [⟨p3,28,13,rws ZE a3⟩]->Ctr KZ 156 [.agg (K7 a0),sf KY a1,i6 a2,p3] ss (fun r' ss'=>∃(tt':Sto),r'=.tup [.agg (K7 r.1),sf ZE r.2.1,i6 r.2.2]/\Tau (strip ss [⟨p3,28,13,rws ZE a3⟩]) [] tt'/\Fx tt' ss' [] []):=by
 intro a0 a1 a2 a3 r H;intro  p3 ss hP;unfold IG at H;refine hdg mixed Tryz.func156 (rs:=[.cell 8 42,.tmp 9,.tmp 10]) fun q tT=>?_;obtain ⟨hF,hX⟩:=hP.start;generalize strip ss [⟨p3,28,13,rws ZE a3⟩]=tt0 at hF hX ⊢;refine go ?_;refine X8 hF rfl fun b1 ss2 hF=>?_;refine go ?_;refine X8 hF rfl fun b3 ss4 hF=>?_;refine go ?_;obtain ⟨o31,ho31,H⟩:=bnd H;refine Fi a1 a2 a0.binds a0.macs a0.scope a0.id a0.steps a3 0 _ ho31 _ rfl _ tt0 b1 b3 ?_ ?_ _ _ _ p3 S hX hF
 ·intro H3 H4 Ha H5 H6 CU he T33 s34 t35 e32v0 tT hX hF;have he:=he.symm;subst he
  try dsimp only at H
  refine go ?_;refine st hF 0 rfl fun s36 hF=>?_;refine go ?_;have e:=pur H;subst e;exact rg _ ⟨_,rfl,hX,K3 _⟩
 ·intro r hr s' hs;subst hr;have e:=pur H;subst e;exact hsq hs
theorem Fj (fx0:Int):(∀(a0:Xpn) (a1:Fm) (a3:List Stp) r,Vo a0 a1 fx0 a3=some r->∀  (p3:AV) (ss:Sto),Pre ss [] [⟨p3,28,13,rws ZE a3⟩]->Ctr KZ 130 [.agg (K7 a0),.agg (KY a1),i6 fx0,p3] ss (fun r' ss'=>∃(tt':Sto),r'=.tup [.agg (K7 r.1),sf ZE r.2.1,i6 r.2.2]/\Tau (strip ss [⟨p3,28,13,rws ZE a3⟩]) [] tt'/\Fx tt' ss' [] []))/\(∀(a0:Xpn) (a1:Fm) (a2:Int) (a4:List Stp) r,AG a0 a1 a2 fx0 a4=some r->∀  (p4:AV) (ss:Sto),Pre ss [] [⟨p4,28,13,rws ZE a4⟩]->Ctr KZ 154 [.agg (K7 a0),.agg (KY a1),i6 a2,i6 fx0,p4] ss (fun r' ss'=>∃(tt':Sto),r'=.tup [.agg (K7 r.1),sf ZE r.2.1,i6 r.2.2]/\Tau (strip ss [⟨p4,28,13,rws ZE a4⟩]) [] tt'/\Fx tt' ss' [] []))/\(∀(a0:Xpn) (a1:List Fm) (a2:Fm) (a4:List Stp) r,II a0 a1 a2 fx0 a4=some r->∀  (p4:AV) (ss:Sto),Pre ss [] [⟨p4,28,13,rws ZE a4⟩]->Ctr KZ 179 [.agg (K7 a0),sf KY a1,.agg (KY a2),i6 fx0,p4] ss (fun r' ss'=>∃(tt':Sto),r'=.tup [.agg (K7 r.1),sf ZE r.2.1,i6 r.2.2]/\Tau (strip ss [⟨p4,28,13,rws ZE a4⟩]) [] tt'/\Fx tt' ss' [] []))/\(∀(a0:Xpn) (a1:Fm) (a2:Int) (a4:List Stp) r,AH a0 a1 a2 fx0 a4=some r->∀  (p4:AV) (ss:Sto),Pre ss [] [⟨p4,28,13,rws ZE a4⟩]->Ctr KZ 155 [.agg (K7 a0),.agg (KY a1),i6 a2,i6 fx0,p4] ss (fun r' ss'=>∃(tt':Sto),r'=.tup [.agg (K7 r.1),sf ZE r.2.1,i6 r.2.2]/\Tau (strip ss [⟨p4,28,13,rws ZE a4⟩]) [] tt'/\Fx tt' ss' [] [])):=by
 have h:=Vo.mutual_partial_correctness fx0 (motive_1:=fun a0 a1 a3 r=>∀  (p3:AV) (ss:Sto),Pre ss [] [⟨p3,28,13,rws ZE a3⟩]->Ctr KZ 130 [.agg (K7 a0),.agg (KY a1),i6 fx0,p3] ss (fun r' ss'=>∃(tt':Sto),r'=.tup [.agg (K7 r.1),sf ZE r.2.1,i6 r.2.2]/\Tau (strip ss [⟨p3,28,13,rws ZE a3⟩]) [] tt'/\Fx tt' ss' [] [])) (motive_2:=fun a0 a1 a2 a4 r=>∀  (p4:AV) (ss:Sto),Pre ss [] [⟨p4,28,13,rws ZE a4⟩]->Ctr KZ 155 [.agg (K7 a0),.agg (KY a1),i6 a2,i6 fx0,p4] ss (fun r' ss'=>∃(tt':Sto),r'=.tup [.agg (K7 r.1),sf ZE r.2.1,i6 r.2.2]/\Tau (strip ss [⟨p4,28,13,rws ZE a4⟩]) [] tt'/\Fx tt' ss' [] [])) (motive_3:=fun a0 a1 a2 a4 r=>∀  (p4:AV) (ss:Sto),Pre ss [] [⟨p4,28,13,rws ZE a4⟩]->Ctr KZ 154 [.agg (K7 a0),.agg (KY a1),i6 a2,i6 fx0,p4] ss (fun r' ss'=>∃(tt':Sto),r'=.tup [.agg (K7 r.1),sf ZE r.2.1,i6 r.2.2]/\Tau (strip ss [⟨p4,28,13,rws ZE a4⟩]) [] tt'/\Fx tt' ss' [] [])) (motive_4:=fun a0 a1 a2 a4 r=>∀  (p4:AV) (ss:Sto),Pre ss [] [⟨p4,28,13,rws ZE a4⟩]->Ctr KZ 179 [.agg (K7 a0),sf KY a1,.agg (KY a2),i6 fx0,p4] ss (fun r' ss'=>∃(tt':Sto),r'=.tup [.agg (K7 r.1),sf ZE r.2.1,i6 r.2.2]/\Tau (strip ss [⟨p4,28,13,rws ZE a4⟩]) [] tt'/\Fx tt' ss' [] [])) ?s0 ?s1 ?s2 ?s3
 ·exact ⟨h.1,h.2.2.1,h.2.2.2,h.2.1⟩
 ·intro AH AG C3 C1 a0 a1 a3 r H;intro  p3 ss hP;refine hdg mixed Tryz.func130 (rs:=[.cell 8 42,.tmp 9,.tmp 10]) fun q tT=>?_;obtain ⟨hF,hX⟩:=hP.start;generalize strip ss [⟨p3,28,13,rws ZE a3⟩]=tt0 at hF hX ⊢;refine go ?_;refine X8 hF rfl fun b1 ss2 hF=>?_;refine go ?_;refine X8 hF rfl fun b3 ss4 hF=>?_;refine go ?_;refine X8 hF rfl fun b5 ss6 hF=>?_;refine go ?_;obtain ⟨x24,g7,H⟩:=bnd H;refine Yb 4 20 24 (.bool x24) (giN q (fun q=>?_) (fun q=>?_)) (fun J=>?_)
  ·refine go ?_;exact Yt 20 g7
  ·refine go ?_;exact Yt 20 g7
  refine go ?_;refine cdb H (fun h H=>?_) (fun h H=>?_)
  ·refine go ?_;refine bp H (AN a0 a1 fx0) fun x29 h H=>cl h ?_;refine go ?_;refine X8 hF rfl fun b9 s10 hF=>?_;refine go ?_;refine X8 hF rfl fun b11 s12 hF=>?_;refine go ?_;refine st hF 1 rfl fun s13 hF=>?_;refine go ?_;refine st hF 0 rfl fun s14 hF=>?_;refine go ?_;refine st hF 2 rfl fun s15 hF=>?_;refine go ?_;have e:=pur H;subst e;exact rg _ ⟨_,rfl,hX,K3 _⟩
  ·obtain ⟨x38,f1,H⟩:=bil (g:=KY) Fm.X6 H;refine go1 ?_;refine go ?_;refine cdp H (fun h H=>?_) (fun h H=>?_)
   ·refine go ?_;refine Ye E0 [.v,.v,.v,.v,.v,.v,.v,.v,.v,.v,.v] (by kernel_rfl) ?_;obtain ⟨x46,f1,H⟩:=bil (g:=KY) Fm.X6 H;refine go1 ?_;refine bp H (Ih a0 x46) fun x48 h H=>cv h ?_;refine go ?_;refine cdp H (fun h H=>?_) (fun h H=>?_)
    ·refine go ?_;refine st hF 0 rfl fun s16 hF=>?_;refine go ?_;have e:=pur H;subst e;exact rg _ ⟨_,rfl,hX,K3 _⟩
    ·refine go ?_;refine cdp H (fun h H=>?_) (fun h H=>?_)
     ·refine go ?_;obtain ⟨x63,hx63,H⟩:=bnd H;refine cx (C1 a0 a1 x48.2 a3 _ hx63  p3 _ (pre 0 0 1 hF hX)) ?_;rintro _ s17 ⟨t18,rfl,hT,hG⟩;obtain ⟨t19,hX,hF⟩:=aft 0 0 1 hF hX hT hG;refine go ?_;refine st hF 0 rfl fun s20 hF=>?_;refine go ?_;have e:=pur H;subst e;exact rg _ ⟨_,rfl,hX,K3 _⟩
     ·refine go ?_;refine cdp H (fun h H=>?_) (fun h H=>?_)
      ·refine go ?_;obtain ⟨x74,hx74,H⟩:=bnd H;refine cx (C3 a0 a1 x48.2 a3 _ hx74  p3 _ (pre 0 0 1 hF hX)) ?_;rintro _ s21 ⟨tt22,rfl,hT,hG⟩;obtain ⟨t23,hX,hF⟩:=aft 0 0 1 hF hX hT hG;refine go ?_;refine st hF 0 rfl fun s24 hF=>?_;refine go ?_;have e:=pur H;subst e;exact rg _ ⟨_,rfl,hX,K3 _⟩
      ·refine go ?_;obtain ⟨x83,hx83,H⟩:=bnd H;refine cx (DP a0 a1.kids fx0 a3 _ hx83  p3 _ (pre 0 0 1 hF hX)) ?_;rintro _ s25 ⟨t26,rfl,hT,hG⟩;obtain ⟨t27,hX,hF⟩:=aft 0 0 1 hF hX hT hG;refine go ?_;refine st hF 0 rfl fun s28 hF=>?_;refine go ?_;have e:=pur H;subst e;exact rg _ ⟨_,rfl,hX,K3 _⟩
   ·refine go ?_;obtain ⟨Bx,hx83_1,H⟩:=bnd H;refine cx (DP a0 a1.kids fx0 a3 _ hx83_1  p3 _ (pre 0 0 1 hF hX)) ?_;rintro _ s29 ⟨t30,rfl,hT,hG⟩;obtain ⟨t31,hX,hF⟩:=aft 0 0 1 hF hX hT hG;refine go ?_;refine st hF 0 rfl fun s32 hF=>?_;refine go ?_;have e:=pur H;subst e;exact rg _ ⟨_,rfl,hX,K3 _⟩
 ·intro Vo C0 a0 a1 a2 a4 r H;intro  p4 ss hP;refine hdg mixed Tryz.func155 (rs:=[.cell 10 42,.tmp 11,.tmp 12]) fun q tT=>?_;obtain ⟨hF,hX⟩:=hP.start;generalize strip ss [⟨p4,28,13,rws ZE a4⟩]=tt0 at hF hX ⊢;refine go ?_;refine X8 hF rfl fun b1 ss2 hF=>?_;refine go ?_;refine X8 hF rfl fun b3 ss4 hF=>?_;refine go ?_;refine X8 hF rfl fun b5 ss6 hF=>?_;refine go ?_;refine Ye E0 [.v,.v,.v,.v,.v,.v,.v,.x,.z] (by kernel_rfl) ?_;refine go ?_;refine bp H (Ag a0 a2) fun x25 h H=>cv h ?_;obtain ⟨x26,f1,H⟩:=bil (g:=Zd) Mac.X6 H;refine go1 ?_;refine WQ hF rfl fun b7 s8 hF=>?_;refine go ?_;refine st hF 0 rfl fun s9 hF=>?_;refine go ?_;refine bp H (B1 a0 a1 a2 fx0) fun x33 h H=>cl h ?_;refine go ?_;refine X8 hF rfl fun b10 s11 hF=>?_;refine go ?_;refine st hF 4 rfl fun s12 hF=>?_;refine go ?_;refine st hF 0 rfl fun s13 hF=>?_;refine go ?_;refine cdn H (fun h H=>?_) (fun h H=>?_)
  ·refine go ?_;refine st hF 2 rfl fun s14 hF=>?_;refine go ?_;have e:=pur H;subst e;exact rg _ ⟨_,rfl,hX,K3 _⟩
  ·refine go ?_;refine Ye E0 [.v,.v,.v,.v,.v,.v,.v,.v,.v,.v,.v,.v,.v,.v,.v] (by kernel_rfl) ?_;refine go ?_;refine bp H (Ve a1 x33.1.scope 1) fun x51 h H=>cv h ?_;refine go ?_;refine bp H (H9 a0.binds x26.rules x26.lits x51) fun x52 h H=>cv h ?_;refine go ?_;refine apd (g:=ZE) hF 0 H (rdo (c:=true) (g:=ZE) Stp.X6) fun x64 H v15 s16 hF=>?_;refine go ?_;obtain ⟨x69,hx69,H⟩:=bnd H;refine cx (C0 x33.1 x33.2.1 x64 _ hx69  v15 _ (pre 0 0 1 hF hX)) ?_;rintro _ s17 ⟨t18,rfl,hT,hG⟩;obtain ⟨t19,hX,hF⟩:=aft 0 0 1 hF hX hT hG;refine go ?_;refine st hF 2 rfl fun s20 hF=>?_;refine go ?_;have e:=pur H;subst e;exact rg _ ⟨_,rfl,hX,K3 _⟩
 ·intro Vo II C0 C2 a0 a1 a2 a4 r H;intro  p4 ss hP;refine hdg mixed Tryz.func154 (rs:=[.cell 10 42,.tmp 11,.tmp 12]) fun q tT=>?_;obtain ⟨hF,hX⟩:=hP.start;generalize strip ss [⟨p4,28,13,rws ZE a4⟩]=tt0 at hF hX ⊢;refine go ?_;refine X8 hF rfl fun b1 ss2 hF=>?_;refine go ?_;refine X8 hF rfl fun b3 ss4 hF=>?_;refine go ?_;refine X8 hF rfl fun b5 ss6 hF=>?_;refine go ?_;obtain ⟨x37,g7,H⟩:=bnd H;refine Yb 4 33 37 (.bool x37) (gi q (fun q=>?_) (fun q=>?_)) (fun J=>?_)
  ·refine go ?_;exact Yt 33 g7
  ·refine go ?_;exact Yt 33 g7
  refine go ?_;refine cdb H (fun h H=>?_) (fun h H=>?_)
  ·refine go ?_;obtain ⟨E,hEq⟩:∃E,E=EE ss6 [b5]:=⟨_,rfl⟩
   have n9:¬E b3:=by rw [hEq];exact K5 (hF.at 1 rfl) (nm1 (neL hF 1 0 rfl rfl (by decide)))
   have n10:¬E b1:=by rw [hEq];exact K5 (hF.at 2 rfl) (nm1 (neL hF 2 0 rfl rfl (by decide)))
   refine Ye E [.v,.v,.v,.v,.v,.v,.x,.v,.v,.v,.x,.v,.v] (by kernel_rfl) ?_;obtain ⟨x41,f1,H⟩:=bls (g:=KY) Fm.X6 (lo:=some (i6 1)) (hi:=none) rfl rfl H;have z:=K2 (X4 (hF.at 1 rfl) n9) (X4 (hF.at 2 rfl) n10);refine gh1 ?_;obtain ⟨x44,hx44,H⟩:=bnd H;refine cx (Ca a0 x41 fx0 a4 _ hx44  p4 _ (pre 0 0 1 hF hX)) ?_;rintro _ s12 ⟨t13,v11,rfl,hT,hG⟩
   refine VM (Za hT hG (by intro p hp;simp only [Kj,KD,or_false] at hp<;>first | (rcases hp with rfl<;>(rw [hEq];first | (refine Ze ?_;simp;done) | exact Zr rfl))| cases hp)) fun kp15=>?_
   obtain ⟨t14,hX,hF⟩:=aft 0 0 1 hF hX hT hG;have z:=K2 (X4 (hF.at 1 rfl) n9) (X4 (hF.at 2 rfl) n10);refine gh ?_;refine stK hF 0 (by rw [hEq];exact Ze (by simp)) rfl fun s16 hF=>?_;have z:=K2 (X4 (hF.at 1 rfl) n9) (X4 (hF.at 2 rfl) n10);refine gh ?_;refine go ?_;have e:=pur H;subst e;exact rg [.agg [sf K0 x44.1.binds,sf Zd x44.1.macs,i6 x44.1.scope,i6 x44.1.id,i6 x44.1.steps],v11,i6 x44.2.2] ⟨_,rfl,hX,K3 _⟩
  ·refine go ?_;obtain ⟨x56,g17,H⟩:=bnd H;refine Yb 4 52 56 (.bool x56) (gi q (fun q=>?_) (fun q=>?_)) (fun J=>?_)
   ·refine go ?_;exact Yt 52 g17
   ·refine go ?_;exact Yt 52 g17
   refine go ?_;obtain ⟨x64,g19,H⟩:=bnd H;refine Yb 6 58 64 (.bool x64) (gi q (fun q=>?_) (fun q=>?_)) (fun J=>?_)
   ·rw [if_pos (dbt q)] at g19;obtain ⟨x60,f1,g19⟩:=bil (g:=KY) Fm.X6 g19;refine go1 ?_;refine go ?_;exact Yt 58 g19
   ·rw [if_neg (dbf q)] at g19;refine go ?_;exact Yt 58 g19
   refine go ?_;refine cdb H (fun h H=>?_) (fun h H=>?_)
   ·refine go ?_;obtain ⟨E,hEq⟩:∃E,E=EE ss6 [b5]:=⟨_,rfl⟩
    have n21:¬E b3:=by rw [hEq];exact K5 (hF.at 1 rfl) (nm1 (neL hF 1 0 rfl rfl (by decide)))
    have n22:¬E b1:=by rw [hEq];exact K5 (hF.at 2 rfl) (nm1 (neL hF 2 0 rfl rfl (by decide)))
    refine Ye E [.v,.v,.v,.v,.v,.v,.v,.v,.v,.v,.v,.v,.x,.v,.v,.v,.x,.v,.v] (by kernel_rfl) ?_;obtain ⟨x68,f1,H⟩:=bil (g:=KY) Fm.X6 H;obtain ⟨x73,f2,H⟩:=bil (g:=KY) Fm.X6 H;have z:=K2 (X4 (hF.at 1 rfl) n21) (X4 (hF.at 2 rfl) n22);refine gh2 ?_;obtain ⟨x77,hx77,H⟩:=bnd H;refine cx (C2 a0 x68.kids x73 a4 _ hx77  p4 _ (pre 0 0 1 hF hX)) ?_;rintro _ s23 ⟨t24,rfl,hT,hG⟩
    refine VM (Za hT hG (by intro p hp;simp only [Kj,KD,or_false] at hp<;>first | (rcases hp with rfl<;>(rw [hEq];first | (refine Ze ?_;simp;done) | exact Zr rfl))| cases hp)) fun kp26=>?_
    obtain ⟨tt25,hX,hF⟩:=aft 0 0 1 hF hX hT hG;have z:=K2 (X4 (hF.at 1 rfl) n21) (X4 (hF.at 2 rfl) n22);refine gh ?_;refine stK hF 0 (by rw [hEq];exact Ze (by simp)) rfl fun s27 hF=>?_;have z:=K2 (X4 (hF.at 1 rfl) n21) (X4 (hF.at 2 rfl) n22);refine gh ?_;refine go ?_;have e:=pur H;subst e;exact rg [.agg [sf K0 x77.1.binds,sf Zd x77.1.macs,i6 x77.1.scope,i6 x77.1.id,i6 x77.1.steps],sf ZE x77.2.1,i6 x77.2.2] ⟨_,rfl,hX,K3 _⟩
   ·refine go ?_;obtain ⟨x89,g28,H⟩:=bnd H;refine Yb 4 85 89 (.bool x89) (gi q (fun q=>?_) (fun q=>?_)) (fun J=>?_)
    ·refine go ?_;exact Yt 85 g28
    ·refine go ?_;exact Yt 85 g28
    refine go ?_;refine cdb H (fun h H=>?_) (fun h H=>?_)
    ·obtain ⟨x93,f1,H⟩:=bil (g:=KY) Fm.X6 H;refine go1 ?_;refine bp H (HX x93) fun x95 h H=>cl h ?_;refine go ?_;refine cdb H (fun h H=>?_) (fun h H=>?_)
     ·refine go ?_;refine st hF 0 rfl fun s30 hF=>?_;refine go ?_;have e:=pur H;subst e;exact rg _ ⟨_,rfl,hX,K3 _⟩
     ·refine go ?_;obtain ⟨x108,hx108,H⟩:=bnd H;refine cx (Ca a0 x95.2.1 fx0 a4 _ hx108  p4 _ (pre 0 0 1 hF hX)) ?_;rintro _ s32 ⟨t33,v31,rfl,hT,hG⟩;obtain ⟨t34,hX,hF⟩:=aft 0 0 1 hF hX hT hG;refine go ?_;refine X8 hF rfl fun b35 s36 hF=>?_;refine go ?_;refine st hF 0 rfl fun s37 hF=>?_;refine go ?_;refine cdn H (fun h H=>?_) (fun h H=>?_)
      ·refine go ?_;refine st hF 1 rfl fun s38 hF=>?_;refine go ?_;have e:=pur H;subst e;exact rg _ ⟨_,rfl,hX,K3 _⟩
      ·refine go ?_;obtain ⟨E,hEq⟩:∃E,E=EE s37 [b5]:=⟨_,rfl⟩
       have n39:¬E b35:=by rw [hEq];exact K5 (hF.at 0 rfl) (nm1 (neL hF 0 1 rfl rfl (by decide)))
       have n40:¬E b3:=by rw [hEq];exact K5 (hF.at 2 rfl) (nm1 (neL hF 2 1 rfl rfl (by decide)))
       have n41:¬E b1:=by rw [hEq];exact K5 (hF.at 3 rfl) (nm1 (neL hF 3 1 rfl rfl (by decide)))
       refine Ye E [.v,.v,.v,.v,.v,.v,.v,.v,.x,.v,.v,.v,.x,.v,.v] (by kernel_rfl) ?_;obtain ⟨x121,f1,H⟩:=bil (g:=KY) Fm.X6 H;have z:=K2 (X4 (hF.at 0 rfl) n39) (K2 (X4 (hF.at 2 rfl) n40) (X4 (hF.at 3 rfl) n41));refine gh1 ?_;obtain ⟨x125,hx125,H⟩:=bnd H;refine cx (C2 x108.1 x95.1 x121 x108.2.1 _ hx125  v31 _ (pre 0 0 1 hF hX)) ?_;rintro _ s42 ⟨t43,rfl,hT,hG⟩
       refine VM (Za hT hG (by intro p hp;simp only [Kj,KD,or_false] at hp<;>first | (rcases hp with rfl<;>(rw [hEq];first | (refine Ze ?_;simp;done) | exact Zr rfl))| cases hp)) fun kp45=>?_
       obtain ⟨t44,hX,hF⟩:=aft 0 0 1 hF hX hT hG;have z:=K2 (X4 (hF.at 0 rfl) n39) (K2 (X4 (hF.at 2 rfl) n40) (X4 (hF.at 3 rfl) n41));refine gh ?_;refine stK hF 1 (by rw [hEq];exact Ze (by simp)) rfl fun s46 hF=>?_;have z:=K2 (X4 (hF.at 0 rfl) n39) (K2 (X4 (hF.at 2 rfl) n40) (X4 (hF.at 3 rfl) n41));refine gh ?_;refine go ?_;have e:=pur H;subst e;exact rg [.agg [sf K0 x125.1.binds,sf Zd x125.1.macs,i6 x125.1.scope,i6 x125.1.id,i6 x125.1.steps],sf ZE x125.2.1,i6 x125.2.2] ⟨_,rfl,hX,K3 _⟩
    ·refine go ?_;obtain ⟨x137,g47,H⟩:=bnd H;refine Yb 4 133 137 (.bool x137) (gi q (fun q=>?_) (fun q=>?_)) (fun J=>?_)
     ·refine go ?_;exact Yt 133 g47
     ·refine go ?_;exact Yt 133 g47
     refine go ?_;refine cdb H (fun h H=>?_) (fun h H=>?_)
     ·obtain ⟨x141,f1,H⟩:=bil (g:=KY) Fm.X6 H;refine go1 ?_;refine bp H (HX x141) fun x143 h H=>cl h ?_;refine go ?_;refine cdb H (fun h H=>?_) (fun h H=>?_)
      ·refine go ?_;refine st hF 0 rfl fun s49 hF=>?_;refine go ?_;have e:=pur H;subst e;exact rg _ ⟨_,rfl,hX,K3 _⟩
      ·refine go ?_;refine bp H (CH a0 x143.1 x143.2.1 (Fm.mk 2 zB 0 [] []) fx0) fun x157 h H=>cl h ?_;refine go ?_;refine X8 hF rfl fun b50 s51 hF=>?_;refine go ?_;refine X8 hF rfl fun b52 s53 hF=>?_;refine go ?_;refine st hF 1 rfl fun s54 hF=>?_;refine go ?_;refine st hF 0 rfl fun s55 hF=>?_;refine go ?_;refine Ye E0 [.v,.v,.v,.v,.v,.v,.v,.x,.z] (by kernel_rfl) ?_;obtain ⟨x163,f1,H⟩:=bil (g:=KY) Fm.X6 H;refine go1 ?_;refine bp H (Ve x163 x157.1.scope 0) fun x167 h H=>cv h ?_;refine go ?_;refine WQ hF rfl fun b56 s57 hF=>?_;refine go ?_;refine st hF 0 rfl fun s58 hF=>?_;refine go ?_;obtain ⟨x174,g59,H⟩:=bnd H;refine Yb 3 171 174 (.bool x174) (giN q (fun q=>?_) (fun q=>?_)) (fun J=>?_)
       ·rw [if_pos (dnf q)] at g59;refine go ?_;obtain ⟨x172,hx172,g59⟩:=bnd g59;refine cl (YA x167 _ hx172) ?_;refine go ?_;exact Yt 171 g59
       ·rw [if_neg (dnt q)] at g59;refine go ?_;exact Yt 171 g59
       refine go ?_;refine cdb H (fun h H=>?_) (fun h H=>?_)
       ·refine go ?_;obtain ⟨E,hEq⟩:∃E,E=EE s58 [b5]:=⟨_,rfl⟩
        have n61:¬E b56:=by rw [hEq];exact K5 (hF.at 0 rfl) (nm1 (neL hF 0 3 rfl rfl (by decide)))
        have n62:¬E b52:=by rw [hEq];exact K5 (hF.at 1 rfl) (nm1 (neL hF 1 3 rfl rfl (by decide)))
        have n63:¬E b50:=by rw [hEq];exact K5 (hF.at 2 rfl) (nm1 (neL hF 2 3 rfl rfl (by decide)))
        have n64:¬E b3:=by rw [hEq];exact K5 (hF.at 4 rfl) (nm1 (neL hF 4 3 rfl rfl (by decide)))
        have n65:¬E b1:=by rw [hEq];exact K5 (hF.at 5 rfl) (nm1 (neL hF 5 3 rfl rfl (by decide)))
        refine Ye E [.v,.v,.v,.v,.x,.v,.v] (by kernel_rfl) ?_;have z:=K2 (X4 (hF.at 0 rfl) n61) (K2 (X4 (hF.at 1 rfl) n62) (K2 (X4 (hF.at 2 rfl) n63) (K2 (X4 (hF.at 4 rfl) n64) (X4 (hF.at 5 rfl) n65))));refine gh ?_;refine bp H (DQ x157.2.2) fun x178 h H=>cv h ?_;have z:=K2 (X4 (hF.at 0 rfl) n61) (K2 (X4 (hF.at 1 rfl) n62) (K2 (X4 (hF.at 2 rfl) n63) (K2 (X4 (hF.at 4 rfl) n64) (X4 (hF.at 5 rfl) n65))));refine gh ?_;refine stK hF 3 (by rw [hEq];exact Ze (by simp)) rfl fun s66 hF=>?_;have z:=K2 (X4 (hF.at 0 rfl) n61) (K2 (X4 (hF.at 1 rfl) n62) (K2 (X4 (hF.at 2 rfl) n63) (K2 (X4 (hF.at 4 rfl) n64) (X4 (hF.at 5 rfl) n65))));refine gh ?_;refine go ?_;have e:=pur H;subst e;exact rg [.agg [sf K0 x157.1.binds,sf Zd x157.1.macs,i6 x157.1.scope,i6 x157.1.id,i6 x157.1.steps],p4,i6 x178] ⟨_,rfl,hX,K3 _⟩
       ·refine go ?_;obtain ⟨x183,hx183,H⟩:=bnd H;refine cx (C0 x157.1 x167 a4 _ hx183  p4 _ (pre 0 0 1 hF hX)) ?_;rintro _ s67 ⟨t68,rfl,hT,hG⟩;obtain ⟨t69,hX,hF⟩:=aft 0 0 1 hF hX hT hG;refine go ?_;refine st hF 3 rfl fun s70 hF=>?_;refine go ?_;have e:=pur H;subst e;exact rg _ ⟨_,rfl,hX,K3 _⟩
     ·refine go ?_;refine bp H (DX a0 a1 a2 fx0) fun x192 h H=>cl h ?_;refine go ?_;refine X8 hF rfl fun b71 s72 hF=>?_;refine go ?_;refine X8 hF rfl fun b73 s74 hF=>?_;refine go ?_;refine st hF 1 rfl fun s75 hF=>?_;refine go ?_;refine st hF 0 rfl fun s76 hF=>?_;refine go ?_;refine st hF 2 rfl fun s77 hF=>?_;refine go ?_;have e:=pur H;subst e;exact rg _ ⟨_,rfl,hX,K3 _⟩
 ·intro Vo C0 a0 a1 a2 a4 r H;intro  p4 ss hP;refine hdg mixed Tryz.func179 (rs:=[.cell 10 42,.tmp 11,.tmp 12]) fun q tT=>?_;obtain ⟨hF,hX⟩:=hP.start;generalize strip ss [⟨p4,28,13,rws ZE a4⟩]=tt0 at hF hX ⊢;refine go ?_;refine X8 hF rfl fun b1 ss2 hF=>?_;refine go ?_;refine X8 hF rfl fun b3 ss4 hF=>?_;refine go ?_;refine X8 hF rfl fun b5 ss6 hF=>?_;refine go ?_;refine bp H (EP a0 a1 (Fm.mk 2 zB 0 [] []) fx0) fun x22 h H=>cl h ?_;refine go ?_;refine X8 hF rfl fun b7 s8 hF=>?_;refine go ?_;refine X8 hF rfl fun b9 s10 hF=>?_;refine go ?_;refine st hF 1 rfl fun s11 hF=>?_;refine go ?_;refine st hF 0 rfl fun s12 hF=>?_;refine go ?_;refine cdn H (fun h H=>?_) (fun h H=>?_)
  ·refine go ?_;refine st hF 2 rfl fun s13 hF=>?_;refine go ?_;have e:=pur H;subst e;exact rg _ ⟨_,rfl,hX,K3 _⟩
  ·refine go ?_;refine bp H (Ve a2 x22.1.scope 0) fun x34 h H=>cl h ?_;refine go ?_;refine X8 hF rfl fun b14 s15 hF=>?_;refine go ?_;refine st hF 0 rfl fun s16 hF=>?_;refine go ?_;refine bp H (YA x34) fun x36 h H=>cl h ?_;refine go ?_;refine cdb H (fun h H=>?_) (fun h H=>?_)
   ·refine go ?_;refine st hF 3 rfl fun s17 hF=>?_;refine go ?_;have e:=pur H;subst e;exact rg _ ⟨_,rfl,hX,K3 _⟩
   ·refine go ?_;obtain ⟨x44,hx44,H⟩:=bnd H;refine cx (C0 x22.1 x34 a4 _ hx44  p4 _ (pre 0 0 1 hF hX)) ?_;rintro _ s18 ⟨t19,rfl,hT,hG⟩;obtain ⟨t20,hX,hF⟩:=aft 0 0 1 hF hX hT hG;refine go ?_;refine st hF 3 rfl fun s21 hF=>?_;refine go ?_;have e:=pur H;subst e;exact rg _ ⟨_,rfl,hX,K3 _⟩
theorem CE:∀(a0:Xpn) (a1:Fm) (a2:Int) (a3:List Stp) r,Vo a0 a1 a2 a3=some r->∀  (p3:AV) (ss:Sto),Pre ss [] [⟨p3,28,13,rws ZE a3⟩]->Ctr KZ 130 [.agg (K7 a0),.agg (KY a1),i6 a2,p3] ss (fun r' ss'=>∃(tt':Sto),r'=.tup [.agg (K7 r.1),sf ZE r.2.1,i6 r.2.2]/\Tau (strip ss [⟨p3,28,13,rws ZE a3⟩]) [] tt'/\Fx tt' ss' [] []):=fun a0 a1 a2 a3=>(Fj a2).1 a0 a1 a3
theorem NU:∀(a0 a1:Int) r,Bi a0 a1=some r->Vr KZ 188 [i6 a0,i6 a1] (.bool r):=by
 intro a0 a1 r H;intro ss;unfold Bi at H;refine hdh mixed Tryz.func188 (rs:=[.tmp 4]) fun q tT hF hX=>?_;refine go ?_;obtain ⟨Qk3,j2,H⟩:=bnd H;refine VL (fun s'=>∃(T:TT) (ss1:Sto),s'=⟨T,ss1⟩/\(T 0=i6 a0/\T 1=i6 a1/\T 5=i6 a0/\T 6=.bool Qk3)/\Fx ss ss1 [] []) (cdp j2 (fun h j2=>?_) (fun h j2=>?_)) ?_
 ·refine go ?_;have e:=pur j2;subst e;exact ⟨_,_,rfl,S,hF⟩
 ·refine go ?_;refine cdp j2 (fun h j2=>?_) (fun h j2=>?_)
  ·refine go ?_;have e:=pur j2;subst e;exact ⟨_,_,rfl,S,hF⟩
  ·refine go ?_;refine cdp j2 (fun h j2=>?_) (fun h j2=>?_)
   ·refine go ?_;have e:=pur j2;subst e;exact ⟨_,_,rfl,S,hF⟩
   ·refine go ?_;have e:=pur j2;subst e;exact ⟨_,_,rfl,S,hF⟩
 ·rintro s' ⟨T3,ss4,rfl,tT,hF⟩;refine go ?_;refine cdb H (fun h H=>?_) (fun h H=>?_)
  ·refine go ?_;have e:=pur H;subst e;exact rt _
  ·refine go ?_;refine cdp H (fun h H=>?_) (fun h H=>?_)
   ·refine go ?_;have e:=pur H;subst e;exact rt _
   ·refine go ?_;refine cdp H (fun h H=>?_) (fun h H=>?_)
    ·refine go ?_;have e:=pur H;subst e;exact rt _
    ·refine go ?_;obtain ⟨x26,g6,H⟩:=bnd H;refine Yb 2 24 26 (.bool x26) (gi q (fun q=>?_) (fun q=>?_)) (fun J=>?_)
     ·refine go ?_;exact Yt 24 g6
     ·refine go ?_;exact Yt 24 g6
     refine go ?_;have e:=pur H;subst e;exact rt _
theorem Ly:∀(a0:Cor) r,Ie a0=some r->Vr KZ 189 [.agg (ZF a0)] (.bool r):=by
 intro a0 r H;intro ss;unfold Ie at H;refine hdh mixed Tryz.func189 (rs:=[.tmp 2]) fun q tT hF hX=>?_;refine go ?_;refine X8 hF rfl fun b1 ss2 hF=>?_;refine go ?_;obtain ⟨x15,g3,H⟩:=bnd H;refine Yb 8 7 15 (.bool x15) (gi q (fun q=>?_) (fun q=>?_)) (fun J=>?_)
 ·rw [if_pos (dt q)] at g3;refine go ?_;obtain ⟨x14,g5,g3⟩:=bnd g3;refine Yb 3 11 14 (.bool x14) (giN q (fun q=>?_) (fun q=>?_)) (fun J=>?_)
  ·refine go ?_;exact Yt 11 g5
  ·refine go ?_;exact Yt 11 g5
  refine go ?_;exact Yt 7 g3
 ·rw [if_neg (df q)] at g3;refine go ?_;exact Yt 7 g3
 refine go ?_;obtain ⟨x25,g7,H⟩:=bnd H;refine Yb 8 17 25 (.bool x25) (giN q (fun q=>?_) (fun q=>?_)) (fun J=>?_)
 ·rw [if_neg (dbf q)] at g7;refine go ?_;obtain ⟨x24,g9,g7⟩:=bnd g7;refine Yb 3 21 24 (.bool x24) (gi q (fun q=>?_) (fun q=>?_)) (fun J=>?_)
  ·refine go ?_;exact Yt 21 g9
  ·refine go ?_;exact Yt 21 g9
  refine go ?_;exact Yt 17 g7
 ·rw [if_pos (dbt q)] at g7;refine go ?_;exact Yt 17 g7
 refine go ?_;refine cdb H (fun h H=>?_) (fun h H=>?_)
 ·refine go ?_;have e:=pur H;subst e;exact rt _
 ·refine go ?_;obtain ⟨x34,g11,H⟩:=bnd H;refine Yb 4 30 34 (.bool x34) (gi q (fun q=>?_) (fun q=>?_)) (fun J=>?_)
  ·rw [if_pos (dt q)] at g11;refine go ?_;obtain ⟨x32,hx32,g11⟩:=bnd g11;refine cl (Am a0.name _ hx32) ?_;refine go ?_;exact Yt 30 g11
  ·rw [if_neg (df q)] at g11;refine go ?_;exact Yt 30 g11
  refine go ?_;obtain ⟨x44,g13,H⟩:=bnd H;refine Yb 8 36 44 (.bool x44) (giN q (fun q=>?_) (fun q=>?_)) (fun J=>?_)
  ·rw [if_neg (dbf q)] at g13;refine go ?_;obtain ⟨x43,g15,g13⟩:=bnd g13;refine Yb 3 40 43 (.bool x43) (gi q (fun q=>?_) (fun q=>?_)) (fun J=>?_)
   ·refine go ?_;exact Yt 40 g15
   ·refine go ?_;exact Yt 40 g15
   refine go ?_;exact Yt 36 g13
  ·rw [if_pos (dbt q)] at g13;refine go ?_;exact Yt 36 g13
  refine go ?_;refine cdb H (fun h H=>?_) (fun h H=>?_)
  ·refine go ?_;have e:=pur H;subst e;exact rt _
  ·refine go ?_;obtain ⟨x57,g17,H⟩:=bnd H;refine Yb 8 49 57 (.bool x57) (gi q (fun q=>?_) (fun q=>?_)) (fun J=>?_)
   ·rw [if_pos (dt q)] at g17;refine go ?_;obtain ⟨x56,g19,g17⟩:=bnd g17;refine Yb 3 53 56 (.bool x56) (giN q (fun q=>?_) (fun q=>?_)) (fun J=>?_)
    ·refine go ?_;exact Yt 53 g19
    ·refine go ?_;exact Yt 53 g19
    refine go ?_;exact Yt 49 g17
   ·rw [if_neg (df q)] at g17;refine go ?_;exact Yt 49 g17
   refine go ?_;obtain ⟨x67,g21,H⟩:=bnd H;refine Yb 8 59 67 (.bool x67) (giN q (fun q=>?_) (fun q=>?_)) (fun J=>?_)
   ·rw [if_neg (dbf q)] at g21;refine go ?_;obtain ⟨x66,g23,g21⟩:=bnd g21;refine Yb 3 63 66 (.bool x66) (gi q (fun q=>?_) (fun q=>?_)) (fun J=>?_)
    ·refine go ?_;exact Yt 63 g23
    ·refine go ?_;exact Yt 63 g23
    refine go ?_;exact Yt 59 g21
   ·rw [if_pos (dbt q)] at g21;refine go ?_;exact Yt 59 g21
   refine go ?_;refine cdb H (fun h H=>?_) (fun h H=>?_)
   ·refine go ?_;have e:=pur H;subst e;exact rt _
   ·refine go ?_;refine Ye E0 [.v,.v,.v,.v,.v,.v,.v,.v,.v,.v,.v,.v,.v,.v,.v,.v,.v,.v,.v,.v,.v,.v,.v,.v,.v,.v,.v,.v,.v,.v] (by kernel_rfl) ?_;refine go ?_;obtain ⟨x85,g25,H⟩:=bnd H;refine Jb 13 72 85 (.bool x85) (ti q (fun q=>?_) (fun q=>?_)) (fun J=>?_)
    ·rw [if_pos (dt q)] at g25;refine go ?_;obtain ⟨x74,hx74,g25⟩:=bnd g25;refine cv (YA a0.data _ hx74) ?_;refine go ?_;obtain ⟨x84,g27,g25⟩:=bnd g25;refine Jb 7 77 84 (.bool x84) (tiN q (fun q=>?_) (fun q=>?_)) (fun J=>?_)
     ·rw [if_neg (dbf q)] at g27;refine go ?_;obtain ⟨x79,hx79,g27⟩:=bnd g27;refine cv (B9 a0.data _ hx79) ?_;refine go ?_;obtain ⟨x82,hx82,g27⟩:=bnd g27;refine cv (Ga x79 a0.data _ hx82) ?_;refine go ?_;exact Yt 77 g27
     ·rw [if_pos (dbt q)] at g27;refine go ?_;exact Yt 77 g27
     refine go ?_;exact Yt 72 g25
    ·rw [if_neg (df q)] at g25;refine go ?_;exact Yt 72 g25
    refine go ?_;obtain ⟨x97,g29,H⟩:=bnd H;refine Jb 10 87 97 (.bool x97) (tiN q (fun q=>?_) (fun q=>?_)) (fun J=>?_)
    ·rw [if_neg (dbf q)] at g29;refine go ?_;obtain ⟨x96,g31,g29⟩:=bnd g29;refine Jb 5 91 96 (.bool x96) (ti q (fun q=>?_) (fun q=>?_)) (fun J=>?_)
     ·rw [if_neg (dnt q)] at g31;refine go ?_;obtain ⟨x94,hx94,g31⟩:=bnd g31;refine cv (Ga a0.data (Fm.mk 0 zB 0 [] []) _ hx94) ?_;refine go ?_;exact Yt 91 g31
     ·rw [if_pos (dnf q)] at g31;refine go ?_;exact Yt 91 g31
     refine go ?_;exact Yt 87 g29
    ·rw [if_pos (dbt q)] at g29;refine go ?_;exact Yt 87 g29
    refine go ?_;refine cdb H (fun h H=>?_) (fun h H=>?_)
    ·refine go ?_;have e:=pur H;subst e;exact rt _
    ·refine go ?_;obtain ⟨x106,g33,H⟩:=bnd H;refine Yb 4 102 106 (.bool x106) (giN q (fun q=>?_) (fun q=>?_)) (fun J=>?_)
     ·refine go ?_;exact Yt 102 g33
     ·refine go ?_;exact Yt 102 g33
     refine go ?_;have e:=pur H;subst e;exact rt _
theorem MQ:∀(a0:Cor) (a2:Int) (Yo:List Int) (YL:Int) out,Gm a0 a2 Yo YL=some out->∀c,Yf Tryz.f164 0=some c->∀(Q:QT) (tt:Sto) (b1:Nat),(∀(Qcb:List Int),out=Sum.inr Qcb->∀(T:TT) (ss:Sto),T 2=i6 a2/\T 3=.ptr b1 0/\T 7=sf cI Qcb->Fx tt ss [(b1,⟨136,11,[i6 a0.kind,i6 a0.id,.str a0.name,i6 a0.num,sf cI a0.ids,i6 a0.data.kind,.str a0.data.name,i6 a0.data.num,sf cI a0.data.sc,sf KY a0.data.kids,sf ZF a0.kids]⟩)] []->Q (.ex 0) ⟨T,ss⟩)->(∀r,out=Sum.inl r->∀s',Aj KZ [.tmp 6] (fun r' ss'=>r'=.bool r/\ss'=tt) s'->Q .ret s')->∀(T:TT) (ss:Sto),T 2=i6 a2/\T 3=.ptr b1 0/\T 7=sf cI Yo/\T 8=i6 YL->Fx tt ss [(b1,⟨136,11,[i6 a0.kind,i6 a0.id,.str a0.name,i6 a0.num,sf cI a0.ids,i6 a0.data.kind,.str a0.data.name,i6 a0.data.num,sf cI a0.data.sc,sf KY a0.data.kids,sf ZF a0.kids]⟩)] []->aLp KZ c Q ⟨T,ss⟩:=by
 intro a0 a2 Yo YL;revert Yo YL;refine Gm.partial_correctness a0 a2 _ ?_;intro Gm IH Yo YL out H c hc Q tt b1 hE hR T ss tT hF;refine lpx tt hc rfl fun q hX=>go ?_;refine cdp H (fun h H=>?_) (fun h H=>?_)
 ·obtain ⟨x49,f1,H⟩:=bil (g:=cI) (fun _=>rfl) H;refine go1 ?_;obtain ⟨x59,g11,H⟩:=bnd H;refine Yb 6 53 59 (.bool x59) (giN q (fun q=>?_) (fun q=>?_)) (fun J=>?_)
  ·rw [if_neg (df q)] at g11;obtain ⟨x56,f1,g11⟩:=bil (g:=cI) (fun _=>rfl) g11;refine go1 ?_;refine go ?_;exact Yt 53 g11
  ·rw [if_pos (dt q)] at g11;refine go ?_;exact Yt 53 g11
  refine go ?_;obtain ⟨x68,g13,H⟩:=bnd H;refine Yb 7 61 68 (.bool x68) (giN q (fun q=>?_) (fun q=>?_)) (fun J=>?_)
  ·rw [if_neg (dbf q)] at g13;obtain ⟨x65,f1,g13⟩:=bil (g:=cI) (fun _=>rfl) g13;refine go1 ?_;obtain ⟨x67,hx67,g13⟩:=bnd g13;refine cl (Hg Yo x65 _ hx67) ?_;refine go ?_;exact Yt 61 g13
  ·rw [if_pos (dbt q)] at g13;refine go ?_;exact Yt 61 g13
  refine go ?_;refine cdb H (fun h H=>?_) (fun h H=>?_)
  ·refine go ?_;exact wq (hR _ (pur H).symm _ (rt _))
  ·refine go ?_;refine LD E0 [.v,.v,.v,.v,.v,.v,.v,.v,.x,.x,.v] [0,1,3,4,5,6,7,8,2,9,10] (by kernel_rfl) ?_;obtain ⟨x75,f1,H⟩:=bil (g:=cI) (fun _=>rfl) H;refine go1 ?_;have hF:=hF.lit 3 1 (rws cI []) rfl;refine Pn (g:=cI) hF 0 H (rdo (c:=false) (g:=cI) (fun _=>rfl)) fun x71 H v15 s16 hF=>?_;refine go ?_;refine Qpu (g:=cI) hF 0 H (rdo (c:=true) (g:=cI) (fun _=>rfl)) fun x78 H s18 hF=>?_;refine go ?_;exact IH  x78 (i64.wrap (YL+1)) _ H _ rfl Q tt b1 hE hR _ _  S hF
 ·refine go ?_;exact wq (hE _ (pur H).symm _ _  S hF)
theorem RA:∀(a0:Cor) (a1:List Int) (a2:Int) r,Af a0 a1 a2=some r->Vr KZ 164 [.agg (ZF a0),sf cI a1,i6 a2] (.bool r):=by
 refine Af.partial_correctness _ (motive_2:=fun a0 a2 IS G5 out=>∀c,Yf Tryz.f164 1=some c->∀(Q:QT) (tt:Sto) (b1:Nat),(∀(_u:Unit),out=Sum.inr ()->∀(T:TT) (ss:Sto),0+0=0->Fx tt ss [(b1,⟨136,11,[i6 a0.kind,i6 a0.id,.str a0.name,i6 a0.num,sf cI a0.ids,i6 a0.data.kind,.str a0.data.name,i6 a0.data.num,sf cI a0.data.sc,sf KY a0.data.kids,sf ZF a0.kids]⟩)] []->Q (.ex 2) ⟨T,ss⟩)->(∀r,out=Sum.inl r->∀s',Aj KZ [.tmp 6] (fun r' ss'=>r'=.bool r/\ss'=tt) s'->Q .ret s')->∀(T:TT) (ss:Sto),T 2=i6 a2/\T 3=.ptr b1 0/\T 7=sf cI IS/\T 9=i6 G5->Fx tt ss [(b1,⟨136,11,[i6 a0.kind,i6 a0.id,.str a0.name,i6 a0.num,sf cI a0.ids,i6 a0.data.kind,.str a0.data.name,i6 a0.data.num,sf cI a0.data.sc,sf KY a0.data.kids,sf ZF a0.kids]⟩)] []->aLp KZ c Q ⟨T,ss⟩) ?_ ?_
 ·intro G8 L0 a0 a1 a2 r H;intro ss;refine hdh mixed Tryz.func164 (rs:=[.tmp 6]) fun q tT hF hX=>?_;refine go ?_;refine X8 hF rfl fun b1 ss2 hF=>?_;refine go ?_;obtain ⟨x20,g3,H⟩:=bnd H;refine Yb 7 13 20 (.bool x20) (giN q (fun q=>?_) (fun q=>?_)) (fun J=>?_)
  ·rw [if_neg (df q)] at g3;refine go ?_;obtain ⟨x18,hx18,g3⟩:=bnd g3;refine cl (NU a0.kind (a0.kids.length:Int) _ hx18) ?_;refine go ?_;exact Yt 13 g3
  ·rw [if_pos (dt q)] at g3;refine go ?_;exact Yt 13 g3
  refine go ?_;obtain ⟨x25,g5,H⟩:=bnd H;refine Yb 3 22 25 (.bool x25) (giN q (fun q=>?_) (fun q=>?_)) (fun J=>?_)
  ·rw [if_neg (dbf q)] at g5;refine go ?_;obtain ⟨x23,hx23,g5⟩:=bnd g5;refine cl (Ly a0 _ hx23) ?_;refine go ?_;exact Yt 22 g5
  ·rw [if_pos (dbt q)] at g5;refine go ?_;exact Yt 22 g5
  refine go ?_;obtain ⟨x37,g7,H⟩:=bnd H;refine Yb 10 27 37 (.bool x37) (giN q (fun q=>?_) (fun q=>?_)) (fun J=>?_)
  ·rw [if_neg (dbf q)] at g7;refine go ?_;obtain ⟨x36,g9,g7⟩:=bnd g7;refine Yb 5 31 36 (.bool x36) (gi q (fun q=>?_) (fun q=>?_)) (fun J=>?_)
   ·rw [if_pos (dt q)] at g9;refine go ?_;obtain ⟨x34,hx34,g9⟩:=bnd g9;refine cl (Hg a1 a0.id _ hx34) ?_;refine go ?_;exact Yt 31 g9
   ·rw [if_neg (df q)] at g9;refine go ?_;exact Yt 31 g9
   refine go ?_;exact Yt 27 g7
  ·rw [if_pos (dbt q)] at g7;refine go ?_;exact Yt 27 g7
  refine go ?_;refine cdb H (fun h H=>?_) (fun h H=>?_)
  ·refine go ?_;have e:=pur H;subst e;exact rt _
  ·refine go ?_;obtain ⟨o19,ho19,H⟩:=bnd H;refine MQ a0 a2 a1 0 _ ho19 _ rfl _ _ b1 ?_ ?_ _ _  S hF
   ·intro IS he T21 s22 tT hF;have he:=he.symm;subst he
    try dsimp only at H
    refine go ?_;obtain ⟨o24,ho24,H⟩:=bnd H;refine L0 a0 a2 IS 0 _ ho24 _ rfl _ _ b1 ?_ ?_ _ _  S hF
    ·intro _ he T26 s27 tT hF;have he:=he.symm;subst he
     try dsimp only at H
     refine go ?_;have e:=pur H;subst e;exact rt _
    ·intro r hr s' hs;subst hr;have e:=pur H;subst e;exact hsq hs
   ·intro r hr s' hs;subst hr;have e:=pur H;subst e;exact hsq hs
 ·intro Af G8 C0 L0 a0 a2 IS G5 out H c hc Q tt b1 hE hR T ss tT hF;refine lpx tt hc rfl fun q hX=>go ?_;refine cdp H (fun h H=>?_) (fun h H=>?_)
  ·obtain ⟨x89,f1,H⟩:=bil (g:=ZF) Cor.X6 H;refine go1 ?_;obtain ⟨x94,hx94,H⟩:=bnd H;refine cl (C0 x89 IS (i64.wrap (a2 - 1)) _ hx94) ?_;refine go ?_;refine cdb H (fun h H=>?_) (fun h H=>?_)
   ·refine go ?_;exact wq (hR _ (pur H).symm _ (rt _))
   ·refine go ?_;exact L0 a0 a2 IS (i64.wrap (G5+1)) _ H _ rfl Q tt b1 hE hR _ _  S hF
  ·refine go ?_;exact wq (hE () (pur H).symm _ _  S hF)
theorem MP:∀(a0:Cor) r,G7 a0=some r->Vr KZ 165 [.agg (ZF a0)] (i6 r):=by
 refine G7.partial_correctness _ (motive_2:=fun a0 YC YH out=>∀c,Yf Tryz.f165 0=some c->∀(Q:QT) (tt:Sto) (b1:Nat),(∀(PN:Int),out=PN->∀(T:TT) (ss:Sto),T 3=i6 PN->Fx tt ss [(b1,⟨136,11,[i6 a0.kind,i6 a0.id,.str a0.name,i6 a0.num,sf cI a0.ids,i6 a0.data.kind,.str a0.data.name,i6 a0.data.num,sf cI a0.data.sc,sf KY a0.data.kids,sf ZF a0.kids]⟩)] []->Q (.ex 0) ⟨T,ss⟩)->True->∀(T:TT) (ss:Sto),T 1=.ptr b1 0/\T 3=i6 YC/\T 4=i6 YH->Fx tt ss [(b1,⟨136,11,[i6 a0.kind,i6 a0.id,.str a0.name,i6 a0.num,sf cI a0.ids,i6 a0.data.kind,.str a0.data.name,i6 a0.data.num,sf cI a0.data.sc,sf KY a0.data.kids,sf ZF a0.kids]⟩)] []->aLp KZ c Q ⟨T,ss⟩) ?_ ?_
 ·intro Jh L0 a0 r H;intro ss;refine hdh mixed Tryz.func165 (rs:=[.tmp 2]) fun q tT hF hX=>?_;refine go ?_;refine X8 hF rfl fun b1 ss2 hF=>?_;refine go ?_;obtain ⟨o3,ho3,H⟩:=bnd H;refine L0 a0 1 0 _ ho3 _ rfl _ _ b1 ?_ ?_ _ _  S hF
  ·intro Sh he T5 ss6 tT hF;have he:=he.symm;subst he;refine go ?_;have e:=pur H;subst e;exact rt _
  ·trivial
 ·intro G7 Jh C0 L0 a0 YC YH out H c hc Q tt b1 hE hR T ss tT hF;refine lpx tt hc rfl fun q hX=>go ?_;refine cdp H (fun h H=>?_) (fun h H=>?_)
  ·obtain ⟨x16,f1,H⟩:=bil (g:=ZF) Cor.X6 H;refine go1 ?_;refine bp H (C0 x16) fun x18 h H=>cl h ?_;refine go ?_;exact L0 a0 (i64.wrap (YC+x18)) (i64.wrap (YH+1)) _ H _ rfl Q tt b1 hE hR _ _  S hF
  ·refine go ?_;exact wq (hE _ (pur H).symm _ _  S hF)
theorem Fg:∀(a0:Cor) r,Iu a0=some r->Vr KZ 144 [.agg (ZF a0)] (.bool r):=by
 intro a0 r H;intro ss;unfold Iu at H;refine hdh mixed Tryz.func144 (rs:=[.tmp 2]) fun q tT hF hX=>?_;refine go ?_;refine X8 hF rfl fun b1 ss2 hF=>?_;refine go ?_;refine bp H (RA a0 [] 120) fun x5 h H=>cl h ?_;refine go ?_;obtain ⟨x10,g3,H⟩:=bnd H;refine Yb 3 7 10 (.bool x10) (gi q (fun q=>?_) (fun q=>?_)) (fun J=>?_)
 ·rw [if_pos (dbt q)] at g3;refine go ?_;obtain ⟨x8,hx8,g3⟩:=bnd g3;refine cl (MP a0 _ hx8) ?_;refine go ?_;exact Yt 7 g3
 ·rw [if_neg (dbf q)] at g3;refine go ?_;exact Yt 7 g3
 refine go ?_;have e:=pur H;subst e;exact rt _
theorem O8:∀(a0:Fm) (a1:Int) r,Ce a0 a1=some r->Vr KZ 110 [.agg (KY a0),i6 a1] (.tup [.agg (K7 r.1),.agg (ZF r.2.1),i6 r.2.2]):=by
 intro a0 a1 r H;intro ss;unfold Ce at H;refine hdh mixed Tryz.func110 (rs:=[.cell 4 42,.cell 5 136,.tmp 6]) fun q tT hF hX=>?_;refine go ?_;refine X8 hF rfl fun b1 ss2 hF=>?_;refine go ?_;refine X8 hF rfl fun b3 ss4 hF=>?_;refine go ?_;refine X8 hF rfl fun b5 ss6 hF=>?_;refine go ?_;refine bp H (YA a0) fun x11 h H=>cl h ?_;refine go ?_;obtain ⟨x16,g7,H⟩:=bnd H;refine Yb 2 14 16 (.bool x16) (giN q (fun q=>?_) (fun q=>?_)) (fun J=>?_)
 ·refine go ?_;exact Yt 14 g7
 ·refine go ?_;exact Yt 14 g7
 refine go ?_;obtain ⟨x20,g9,H⟩:=bnd H;refine Yb 2 18 20 (.bool x20) (giN q (fun q=>?_) (fun q=>?_)) (fun J=>?_)
 ·refine go ?_;exact Yt 18 g9
 ·refine go ?_;exact Yt 18 g9
 refine go ?_;refine cdb H (fun h H=>?_) (fun h H=>?_)
 ·refine go ?_;refine st hF 1 rfl fun s11 hF=>?_;refine go ?_;refine st hF 0 rfl fun s12 hF=>?_;refine go ?_;have e:=pur H;subst e;exact rt _
 ·refine go ?_;obtain ⟨E,hEq⟩:∃E,E=EE ss6 []:=⟨_,rfl⟩
  have n13:¬E b5:=by rw [hEq];exact K5 (hF.at 0 rfl) (by simp)
  have n14:¬E b3:=by rw [hEq];exact K5 (hF.at 1 rfl) (by simp)
  have n15:¬E b1:=by rw [hEq];exact K5 (hF.at 2 rfl) (by simp)
  refine Ye E [.v,.v,.v,.v,.v,.v,.v,.v,.x,.x,.x,.x,.v] (by kernel_rfl) ?_;have z:=K2 (X4 (hF.at 0 rfl) n13) (K2 (X4 (hF.at 1 rfl) n14) (X4 (hF.at 2 rfl) n15));refine gh ?_;refine bp H (Ak ) fun x24 h H=>cv h ?_;have z:=K2 (X4 (hF.at 0 rfl) n13) (K2 (X4 (hF.at 1 rfl) n14) (X4 (hF.at 2 rfl) n15));refine gh ?_;refine bp H (AN x24 a0 a1) fun x27 h H=>cv h ?_;have z:=K2 (X4 (hF.at 0 rfl) n13) (K2 (X4 (hF.at 1 rfl) n14) (X4 (hF.at 2 rfl) n15));refine gh ?_;refine Hm hF rfl fun b16 s17 nw18 mo19 hF=>?_;have z:=K2 (X4 (hF.at 1 rfl) n13) (K2 (X4 (hF.at 2 rfl) n14) (X4 (hF.at 3 rfl) n15));refine gh ?_;refine Hm hF rfl fun b20 s21 nw22 mo23 hF=>?_;have z:=K2 (X4 (hF.at 2 rfl) n13) (K2 (X4 (hF.at 3 rfl) n14) (X4 (hF.at 4 rfl) n15));refine gh ?_;refine stK hF 1 (show E _ from ((em0 hEq) _ nw18)) rfl fun s24 hF=>?_;have z:=K2 (X4 (hF.at 2 rfl) n13) (K2 (X4 (hF.at 3 rfl) n14) (X4 (hF.at 4 rfl) n15));refine gh ?_;refine stK hF 0 (show E _ from ((fun x h=>(em0 hEq) x (mo19 x h)) _ nw22)) rfl fun s25 hF=>?_;have z:=K2 (X4 (hF.at 2 rfl) n13) (K2 (X4 (hF.at 3 rfl) n14) (X4 (hF.at 4 rfl) n15));refine gh ?_;refine go ?_;refine cdn H (fun h H=>?_) (fun h H=>?_)
  ·refine go ?_;refine st hF 3 rfl fun s26 hF=>?_;refine go ?_;refine st hF 2 rfl fun s27 hF=>?_;refine go ?_;have e:=pur H;subst e;exact rt _
  ·refine go ?_;refine bp H (Fg x27.2.1) fun x37 h H=>cl h ?_;refine go ?_;refine cdb H (fun h H=>?_) (fun h H=>?_)
   ·refine go ?_;refine st hF 3 rfl fun s28 hF=>?_;refine go ?_;refine st hF 2 rfl fun s29 hF=>?_;refine go ?_;have e:=pur H;subst e;exact rt _
   ·refine go ?_;obtain ⟨E,hEq⟩:∃E,E=EE s25 [b3,b5]:=⟨_,rfl⟩
    have n30:¬E b20:=by rw [hEq];exact K5 (hF.at 0 rfl) (nm2 ⟨neL hF 0 3 rfl rfl (by decide),neL hF 0 2 rfl rfl (by decide)⟩)
    have n31:¬E b16:=by rw [hEq];exact K5 (hF.at 1 rfl) (nm2 ⟨neL hF 1 3 rfl rfl (by decide),neL hF 1 2 rfl rfl (by decide)⟩)
    have n32:¬E b1:=by rw [hEq];exact K5 (hF.at 4 rfl) (nm2 ⟨neL hF 4 3 rfl rfl (by decide),neL hF 4 2 rfl rfl (by decide)⟩)
    refine Ye E [.v,.v,.x,.x,.v] (by kernel_rfl) ?_;have z:=K2 (X4 (hF.at 0 rfl) n30) (K2 (X4 (hF.at 1 rfl) n31) (X4 (hF.at 4 rfl) n32));refine gh ?_;refine stK hF 3 (by rw [hEq];exact Ze (by simp)) rfl fun s33 hF=>?_;have z:=K2 (X4 (hF.at 0 rfl) n30) (K2 (X4 (hF.at 1 rfl) n31) (X4 (hF.at 4 rfl) n32));refine gh ?_;refine stK hF 2 (by rw [hEq];exact Ze (by simp)) rfl fun s34 hF=>?_;have z:=K2 (X4 (hF.at 0 rfl) n30) (K2 (X4 (hF.at 1 rfl) n31) (X4 (hF.at 4 rfl) n32));refine gh ?_;refine go ?_;have e:=pur H;subst e;exact rt [.agg [sf K0 x27.1.binds,sf Zd x27.1.macs,i6 x27.1.scope,i6 x27.1.id,i6 x27.1.steps],.agg [i6 x27.2.1.kind,i6 x27.2.1.id,.str x27.2.1.name,i6 x27.2.1.num,sf cI x27.2.1.ids,i6 x27.2.1.data.kind,.str x27.2.1.data.name,i6 x27.2.1.data.num,sf cI x27.2.1.data.sc,sf KY x27.2.1.data.kids,sf ZF x27.2.1.kids],i6 0]
theorem NR:∀(a0:Cor) r,HV a0=some r->Vr KZ 157 [.agg (ZF a0)] (.agg (ZF r)):=by
 refine HV.partial_correctness _ (motive_2:=fun a0 x16 x19 X5 YH out=>∀c,Yf Tryz.f157 0=some c->∀(Q:QT) (tt:Sto) (b1 b3 b5:Nat),(∀(YT:List Cor),out=YT->∀(T:TT) (ss:Sto) (e0v0:AV),T 2=.ptr b3 0/\T 3=.ptr b5 0->Fx tt ss [(b5,⟨136,11,[i6 a0.kind,i6 a0.id,.str a0.name,i6 a0.num,sf cI x16,i6 x19.kind,.str x19.name,i6 x19.num,sf cI x19.sc,sf KY x19.kids,e0v0]⟩),(b3,⟨136,11,[i6 0,i6 0,.str zB,i6 0,.Ya,i6 0,.str zB,i6 0,.Ya,.Ya,.Ya]⟩),(b1,⟨136,11,[i6 a0.kind,i6 a0.id,.str a0.name,i6 a0.num,sf cI a0.ids,i6 a0.data.kind,.str a0.data.name,i6 a0.data.num,sf cI a0.data.sc,sf KY a0.data.kids,sf ZF a0.kids]⟩)] [⟨e0v0,136,11,rws ZF YT⟩]->Q (.ex 0) ⟨T,ss⟩)->True->∀(T:TT) (ss:Sto) (z0v0:AV),T 1=.ptr b1 0/\T 2=.ptr b3 0/\T 3=.ptr b5 0/\T 4=i6 YH->Fx tt ss [(b5,⟨136,11,[i6 a0.kind,i6 a0.id,.str a0.name,i6 a0.num,sf cI x16,i6 x19.kind,.str x19.name,i6 x19.num,sf cI x19.sc,sf KY x19.kids,z0v0]⟩),(b3,⟨136,11,[i6 0,i6 0,.str zB,i6 0,.Ya,i6 0,.str zB,i6 0,.Ya,.Ya,.Ya]⟩),(b1,⟨136,11,[i6 a0.kind,i6 a0.id,.str a0.name,i6 a0.num,sf cI a0.ids,i6 a0.data.kind,.str a0.data.name,i6 a0.data.num,sf cI a0.data.sc,sf KY a0.data.kids,sf ZF a0.kids]⟩)] [⟨z0v0,136,11,rws ZF X5⟩]->aLp KZ c Q ⟨T,ss⟩) ?_ ?_
 ·intro JR L0 a0 r H;intro ss;refine hdh mixed Tryz.func157 (rs:=[.cell 2 136]) fun q tT hF hX=>?_;refine go ?_;refine X8 hF rfl fun b1 ss2 hF=>?_;refine go ?_;refine X8 hF rfl fun b3 ss4 hF=>?_;refine go ?_;refine Ye E0 [.v,.v,.v,.v,.v,.v,.v,.v,.v,.v,.v,.v,.v,.v,.v,.v,.x,.z] (by kernel_rfl) ?_;refine go ?_;obtain ⟨x16,hx16,H⟩:=bnd H;refine M1 (g:=cI) (xs:=[]) (ys:=a0.ids) (fun _=>rfl) (by decide) (by decide) (.inr (by first | rfl | simp only [Y8,Vy,cI,cU,cS,cL])) (.inr ⟨_,by first | rfl | simp only [Y8,Vy,cI,cU,cS,cL]⟩) hx16 ?_;refine go ?_;refine bp H (VW a0.data) fun x19 h H=>cv h ?_;refine go ?_;refine WQ hF rfl fun b5 ss6 hF=>?_;refine go ?_;refine st hF 0 rfl fun s7 hF=>?_;have hF:=hF.nil 136 11;refine go ?_;obtain ⟨o11,ho11,H⟩:=bnd H;refine L0 a0 x16 x19 [] 0 _ ho11 _ rfl _ _ b1 b3 b5 ?_ ?_ _ _ .Ya S hF
  ·intro CT he T13 s14 e12v0 tT hF;have he:=he.symm;subst he;refine go ?_;refine st hF 1 rfl fun s16 hF=>?_;refine go ?_;have e:=pur H;subst e;exact rt _
  ·trivial
 ·intro HV JR C0 L0 a0 x16 x19 X5 YH out H c hc Q tt b1 b3 b5 hE hR T ss z0v0 tT hF;refine lpx tt hc rfl fun q hX=>go ?_;refine cdp H (fun h H=>?_) (fun h H=>?_)
  ·refine go ?_;refine Ye E0 [.v,.v,.v,.v,.v,.v,.v,.v,.v,.x,.v,.z] (by kernel_rfl) ?_;obtain ⟨x33,f1,H⟩:=bil (g:=ZF) Cor.X6 H;refine go1 ?_;refine bp H (C0 x33) fun x35 h H=>cv h ?_;refine go ?_;refine Pn (g:=ZF) hF 0 H (rdo (c:=true) (g:=ZF) Cor.X6) fun x37 H v8 s9 hF=>?_;refine go ?_;refine st hF 0 (hF.cells 0 rfl) fun s10 hF=>?_;refine go ?_;exact L0 a0 x16 x19 x37 (i64.wrap (YH+1)) _ H _ rfl Q tt b1 b3 b5 hE hR _ _ v8 S hF
  ·refine go ?_;exact wq (hE _ (pur H).symm _ _ z0v0 S hF)
theorem BE:∀(a0:Fm) (a1:Int) r,HJ a0 a1=some r->Vr KZ 131 [.agg (KY a0),i6 a1] (.tup [.agg (ZF r.1),i6 r.2]):=by
 intro a0 a1 r H;intro ss;unfold HJ at H;refine hdh mixed Tryz.func131 (rs:=[.cell 4 136,.tmp 5]) fun q tT hF hX=>?_;refine go ?_;refine X8 hF rfl fun b1 ss2 hF=>?_;refine go ?_;refine X8 hF rfl fun b3 ss4 hF=>?_;refine go ?_;refine bp H (O8 a0 a1) fun x12 h H=>cl h ?_;refine go ?_;refine X8 hF rfl fun b5 ss6 hF=>?_;refine go ?_;refine X8 hF rfl fun b7 s8 hF=>?_;refine go ?_;refine st hF 1 rfl fun s9 hF=>?_;refine go ?_;refine st hF 0 rfl fun s10 hF=>?_;refine go ?_;refine bp H (NR x12.2.1) fun x17 h H=>cl h ?_;refine go ?_;refine st hF 2 rfl fun s11 hF=>?_;refine go ?_;have e:=pur H;subst e;exact rt _
theorem Nz:∀(a0:Fm) (a1:Int) r,A8 a0 a1=some r->Vr KZ 91 [.agg (KY a0),i6 a1] (.tup [sf ZE r.1,i6 r.2]):=by
 intro a0 a1 r H;intro ss;unfold A8 at H;refine hdh mixed Tryz.func91 (rs:=[.tmp 4,.tmp 5]) fun q tT hF hX=>?_;refine go ?_;refine X8 hF rfl fun b1 ss2 hF=>?_;refine go ?_;refine bp H (YA a0) fun x12 h H=>cl h ?_;refine go ?_;obtain ⟨x17,g3,H⟩:=bnd H;refine Yb 2 15 17 (.bool x17) (giN q (fun q=>?_) (fun q=>?_)) (fun J=>?_)
 ·refine go ?_;exact Yt 15 g3
 ·refine go ?_;exact Yt 15 g3
 refine go ?_;obtain ⟨x21,g5,H⟩:=bnd H;refine Yb 2 19 21 (.bool x21) (giN q (fun q=>?_) (fun q=>?_)) (fun J=>?_)
 ·refine go ?_;exact Yt 19 g5
 ·refine go ?_;exact Yt 19 g5
 refine go ?_;refine cdb H (fun h H=>?_) (fun h H=>?_)
 ·refine go ?_;have e:=pur H;subst e;exact rt _
 ·refine go ?_;obtain ⟨E,hEq⟩:∃E,E=EE ss2 []:=⟨_,rfl⟩
  have n7:¬E b1:=by rw [hEq];exact K5 (hF.at 0 rfl) (by simp)
  refine LC E [.v,.v,.v,.v] [0,1,2,3] 4 9 [.v,.v,.v,.v] [5,6,7,8] [.x,.v,.v] [10,11,12] (by kernel_rfl) ?_;have z:=X4 (hF.at 0 rfl) n7;refine gh ?_;refine bp H (Ak ) fun x24 h H=>cv h ?_;have z:=X4 (hF.at 0 rfl) n7;refine gh ?_;refine ⟨?_,?_⟩
  ·have hF:=hF.lit 28 13 (rws ZE []) rfl;have z:=X4 (hF.at 0 rfl) n7;refine gh ?_;obtain ⟨x28,hx28,H⟩:=bnd H;refine cx (CE x24 a0 a1 [] _ hx28  (.sl true (rws ZE [])) _ (pre 0 0 1 hF hX)) ?_;rintro _ s8 ⟨tt9,rfl,hT,hG⟩
   refine VM (Za hT hG (by intro p hp;simp only [Kj,KD,or_false] at hp<;>first | (rcases hp with rfl<;>(rw [hEq];first | (refine Ze ?_;simp;done) | exact Zr rfl))| cases hp)) fun kp11=>?_
   have hF:=DB 0 1 hF hX hT hG;have z:=X4 (hF.at 0 rfl) n7;refine gh ?_;refine Hm hF rfl fun b12 s13 nw14 mo15 hF=>?_;have z:=X4 (hF.at 1 rfl) n7;refine gh ?_;refine stK hF 0 (show E _ from ((Si kp11 (em0 hEq)) _ nw14)) rfl fun s16 hF=>?_;have z:=X4 (hF.at 1 rfl) n7;refine gh ?_;refine go ?_;refine cdp H (fun h H=>?_) (fun h H=>?_)
   ·refine go ?_;refine bp H (BE a0 a1) fun x37 h H=>cl h ?_;refine go ?_;refine X8 hF rfl fun b17 s18 hF=>?_;refine go ?_;refine st hF 0 rfl fun s19 hF=>?_;refine go ?_;have e:=pur H;subst e;exact rt _
   ·refine go ?_;have e:=pur H;subst e;exact rt _
  ·have z:=X4 (hF.at 0 rfl) n7;refine gh ?_;refine Hm hF rfl fun b20 s21 nw22 mo23 hF=>?_;have hF:=hF.lit 28 13 (rws ZE []) rfl;have z:=X4 (hF.at 1 rfl) n7;refine gh ?_;obtain ⟨x28,hx28,H⟩:=bnd H;refine cx (CE x24 a0 a1 [] _ hx28  (.sl true (rws ZE [])) _ (pre 0 0 1 hF hX)) ?_;rintro _ s24 ⟨tt25,rfl,hT,hG⟩
   refine VM (Za hT hG (by intro p hp;simp only [Kj,KD,or_false] at hp<;>first | (rcases hp with rfl<;>(rw [hEq];first | (refine Ze ?_;simp;done) | exact Zr rfl))| cases hp)) fun kp27=>?_
   have hF:=DB 0 1 hF hX hT hG;have z:=X4 (hF.at 1 rfl) n7;refine gh ?_;refine stK hF 0 (show E _ from ((em0 hEq) _ nw22)) rfl fun s28 hF=>?_;have z:=X4 (hF.at 1 rfl) n7;refine gh ?_;refine go ?_;refine cdp H (fun h H=>?_) (fun h H=>?_)
   ·refine go ?_;refine bp H (BE a0 a1) fun x37 h H=>cl h ?_;refine go ?_;refine X8 hF rfl fun b29 s30 hF=>?_;refine go ?_;refine st hF 0 rfl fun s31 hF=>?_;refine go ?_;have e:=pur H;subst e;exact rt _
   ·refine go ?_;have e:=pur H;subst e;exact rt _
theorem Cw:∀(a0:Fm) (x14:List Stp × Int) (X5:List Stp) (YR:Int) out,Vl a0 x14 X5 YR=some out->∀c,Yf Tryz.f55 0=some c->∀(Q:QT) (tt0:Sto) (b1:Nat),(∀(YT:List Stp),out=YT->∀(T:TT) (ss tt:Sto) (e0v0:AV),T 7=i6 x14.2/\T 8=e0v0->Tau tt0 [] tt->Fx tt ss [(b1,⟨26,5,[i6 a0.kind,.str a0.name,i6 a0.num,sf cI a0.sc,sf KY a0.kids]⟩)] [⟨e0v0,28,13,rws ZE YT⟩]->Q (.ex 0) ⟨T,ss⟩)->True->∀(T:TT) (ss tt:Sto) (z0v0:AV),T 6=sf ZE x14.1/\T 7=i6 x14.2/\T 8=z0v0/\T 9=i6 YR->Tau tt0 [] tt->Fx tt ss [(b1,⟨26,5,[i6 a0.kind,.str a0.name,i6 a0.num,sf cI a0.sc,sf KY a0.kids]⟩)] [⟨z0v0,28,13,rws ZE X5⟩]->aLp KZ c Q ⟨T,ss⟩:=by
 intro a0 x14 X5 YR;revert X5 YR;refine Vl.partial_correctness a0 x14 _ ?_;intro Vl IH X5 YR out H c hc Q tt0 b1 hE hR T ss tt z0v0 tT hX hF;refine lpy hc rfl fun q=>go ?_;refine cdp H (fun h H=>?_) (fun h H=>?_)
 ·obtain ⟨x26,f1,H⟩:=bil (g:=ZE) Stp.X6 H;refine go1 ?_;refine X8 hF rfl fun b3 ss4 hF=>?_;refine go ?_;refine st hF 0 rfl fun ss5 hF=>?_;refine go ?_;refine bp H (VW x26.use) fun x30 h H=>cl h ?_;refine go ?_;refine st hF 0 rfl fun ss6 hF=>?_;refine go ?_;refine bp H (VW x26.res) fun x34 h H=>cl h ?_;refine go ?_;refine st hF 0 rfl fun s7 hF=>?_;refine go ?_;refine apd (g:=ZE) hF 0 H (rdo (c:=true) (g:=ZE) Stp.X6) fun x39 H v8 s9 hF=>?_;refine go ?_;exact IH  x39 (i64.wrap (YR+1)) _ H _ rfl Q tt0 b1 hE hR _ _ _ v8 S hX (hF.drop 1 0)
 ·refine go ?_;exact wq (hE _ (pur H).symm _ _ _ z0v0 S hX hF)
theorem DI:∀(a0:Fm) (a1:Int) r,GU a0 a1=some r->∀   (ss:Sto),Pre ss [] []->Ctr KZ 55 [.agg (KY a0),i6 a1] ss (fun r' ss'=>∃(tt':Sto) (w0:AV),r'=.tup [w0,i6 r.2]/\Tau (strip ss []) [] tt'/\Fx tt' ss' [] [⟨w0,28,13,rws ZE r.1⟩]):=by
 intro a0 a1 r H;intro   ss hP;unfold GU at H;refine hdg mixed Tryz.func55 (rs:=[.tmp 4,.tmp 5]) fun q tT=>?_;obtain ⟨hF,hX⟩:=hP.start;generalize strip ss []=tt0 at hF hX ⊢;refine go ?_;refine X8 hF rfl fun b1 ss2 hF=>?_;refine go ?_;refine bp H (Nz a0 a1) fun x14 h H=>cl h ?_;have hF:=hF.lit 28 13 (rws ZE []) rfl;refine go ?_;obtain ⟨o10,ho10,H⟩:=bnd H;refine Cw a0 x14 [] 0 _ ho10 _ rfl _ tt0 b1 ?_ ?_ _ _ _ (.sl true (rws ZE [])) S hX hF
 ·intro Qhb he T12 s13 t14 e11v0 tT hX hF;have he:=he.symm;subst he;refine go ?_;have e:=pur H;subst e;exact rg _ ⟨_,_,rfl,hX,hF.pick [] [0] (by decide) (by decide)⟩
 ·trivial
theorem Lf:∀(a0:List Int) r,Ae a0=some r->Vr KZ 20 [sf cU a0] (sf ZE r):=by
 intro a0 r H;intro ss;unfold Ae at H;refine hdh mixed Tryz.func20 (rs:=[.tmp 2]) fun q tT hF hX=>?_;refine go ?_;refine bp H (NZ a0) fun x10 h H=>cl h ?_;refine go ?_;refine X8 hF rfl fun b1 ss2 hF=>?_;refine go ?_;refine st hF 0 rfl fun ss3 hF=>?_;refine go ?_;obtain ⟨x15,hx15,H⟩:=bnd H;refine cx (DI x10.1 20 _ hx15   _ (pre 0 0 0 hF hX)) ?_;rintro _ ss5 ⟨t6,v4,rfl,hT,hG⟩;have hF:=DB 0 0 hF hX hT hG;refine go ?_;obtain ⟨x19,hx19,H⟩:=bnd H;refine cx (HN a0 _ hx19   _ (pre 0 0 0 hF hX)) ?_;rintro _ s9 ⟨t10,b8,rfl,hT,hG⟩;have nw12:ss5.var b8=none:=(hT.off b8 (by simp)).symm.trans (hG.var _ (Kx ..)).2.1;have hF:=DB 0 0 hF hX hT hG;refine go ?_;obtain ⟨AK,j14,H⟩:=bnd H;refine VL (fun s'=>∃(T:TT) (ss1:Sto) (y13v0:AV),s'=⟨T,ss1⟩/\(T 5=y13v0/\T 7=.ptr b8 0)/\Fx ss ss1 [(b8,⟨89,2,[sf cU x19.b,i6 x19.p]⟩),(b1,⟨26,5,[i6 x10.1.kind,.str x10.1.name,i6 x10.1.num,sf cI x10.1.sc,sf KY x10.1.kids]⟩)] [⟨y13v0,28,13,rws ZE AK⟩]) (cdp j14 (fun h j14=>?_) (fun h j14=>?_)) ?_
 ·refine go ?_;obtain ⟨x24n,hx24n,j14⟩:=bnd j14;obtain ⟨b15,k16,hv⟩:=hF.ref 0 rfl hx24n;subst hv;obtain ⟨x24,hx24,j14⟩:=bnd j14;refine Qjh (g:=ZE) hF 0 rfl hx24 (by rfl) fun s17 hF=>?_;refine go ?_;have e:=pur j14;subst e;exact ⟨_,_,(.ref b15 x24.length k16),rfl,S,hF⟩
 ·refine go ?_;have e:=pur j14;subst e;exact ⟨_,_,v4,rfl,S,hF⟩
 ·rintro s' ⟨T18,s19,y13v0,rfl,tT,hF⟩;refine go ?_;refine gi q (fun q=>?_) (fun q=>?_)
  ·rw [if_pos (dt q)] at H;refine go ?_;obtain ⟨Qg0,hx30_1,H⟩:=bnd H;refine cx (Ys 12 x19 _ hx30_1 b8  _ (pre 1 0 0 hF hX)) ?_;rintro _ s26 ⟨t27,rfl,hT,hG⟩;have hF:=DB 1 0 hF hX hT hG;refine go ?_;refine cdp H (fun h H=>?_) (fun h H=>?_)
   ·refine go ?_;obtain ⟨x37,hx37,H⟩:=bnd H;obtain ⟨b29,k30,hv⟩:=hF.ref 0 rfl hx37;subst hv
    try simp only [go_sem,↓reduceIte,K8,Zf,Zg,K9,Zh,Zi,Kl,q,tT,hF.f,hF.m,hF.x hX,Bz (l:=AK) rfl hx37,L3 hF 0 (sz:=13) (ag:=true) (k:=5) (o:=3) (g:=ZE) (x:=x37) (i:=0) (v:=(.agg [i6 x37.use.kind,.str x37.use.name,i6 x37.use.num,sf cI x37.use.sc,sf KY x37.use.kids])) (by first | rfl | simp) Stp.X6 rfl hx37 (by decide) (by first | rfl | (simp only [sf,i6,zB,cI,cU,cS,cL,cB,Stp.X9,Fm.X9];rfl))]
    obtain ⟨x40,hx40,H⟩:=bnd H;refine cx (IA x37.use Qg0.2 _ hx40 b8  _ (pre 1 0 0 hF hX)) ?_;rintro _ s31 ⟨t32,rfl,hT,hG⟩;have hF:=DB 1 0 hF hX hT hG;refine go ?_;obtain ⟨x41,hx41,H⟩:=bnd H;refine cx (IA x40.1 x40.2 _ hx41 b8  _ (pre 1 0 0 hF hX)) ?_;rintro _ s34 ⟨t35,rfl,hT,hG⟩;have hF:=DB 1 0 hF hX hT hG;obtain ⟨x42,hx42,H⟩:=bnd H
    try simp only [go_sem,↓reduceIte,K8,Zf,Zg,K9,Zh,Zi,Kl,q,tT,hF.f,hF.m,hF.x hX,Bz (l:=AK) ((DO hF 0 rfl).1.trans (WM _)) hx42]
    refine OL hF 0 (o:=3) (sz:=13) (k:=5) (v:=(.agg [i6 x41.1.kind,.str x41.1.name,i6 x41.1.num,sf cI x41.1.sc,sf KY x41.1.kids])) (cs:=[i6 x41.1.kind,.str x41.1.name,i6 x41.1.num,sf cI x41.1.sc,sf KY x41.1.kids]) (g:=ZE) (i:=0) (KW x42.id x42.rule x42.scope x41.1 x42.res) Stp.X6 (by first | rfl | simp) rfl hx42 rfl rfl (by decide) (by first | rfl | simp [Hq,cI,cU,cS,cL,cB,Stp.X9,Fm.X9]) fun s37 hF=>?_;have hF:Fx ss s37 [(b8,⟨89,2,[sf cU x41.2.b,i6 x41.2.p]⟩),(b1,⟨26,5,[i6 x10.1.kind,.str x10.1.name,i6 x10.1.num,sf cI x10.1.sc,sf KY x10.1.kids]⟩)] [⟨.ref b29 AK.length k30,28,13,rws ZE (AK.set (0:Int).toNat (KW x42.id x42.rule x42.scope x41.1 x42.res))⟩]:=hF;refine go ?_;obtain ⟨x47,hx47,H⟩:=bnd H;refine cx (Y6 [0,3,100] x41.2 _ hx47 b8  _ (pre 1 0 0 hF hX)) ?_;rintro _ s38 ⟨t39,rfl,hT,hG⟩;have hF:=DB 1 0 hF hX hT hG;obtain ⟨x48,hx48,H⟩:=bnd H
    try simp only [go_sem,↓reduceIte,K8,Zf,Zg,K9,Zh,Zi,Kl,q,tT,hF.f,hF.m,hF.x hX,Bz (l:=AK.set (0:Int).toNat (KW x42.id x42.rule x42.scope x41.1 x42.res)) ((DO hF 0 rfl).1.trans (WM _)) hx48]
    refine OL hF 0 (o:=2) (sz:=13) (k:=1) (v:=(i6 x47.1)) (cs:=[i6 x47.1]) (g:=ZE) (i:=0) (KW x48.id x48.rule x47.1 x48.use x48.res) Stp.X6 (by first | rfl | simp) rfl hx48 rfl rfl (by decide) (by first | rfl | simp [Hq,cI,cU,cS,cL,cB,Stp.X9,Fm.X9]) fun s41 hF=>?_;have hF:Fx ss s41 [(b8,⟨89,2,[sf cU x47.2.b,i6 x47.2.p]⟩),(b1,⟨26,5,[i6 x10.1.kind,.str x10.1.name,i6 x10.1.num,sf cI x10.1.sc,sf KY x10.1.kids]⟩)] [⟨.ref b29 AK.length k30,28,13,rws ZE ((AK.set (0:Int).toNat (KW x42.id x42.rule x42.scope x41.1 x42.res)).set (0:Int).toNat (KW x48.id x48.rule x47.1 x48.use x48.res))⟩]:=hF;refine go ?_;have e:=pur H;subst e;exact rt _
   ·refine go ?_;have e:=pur H;subst e;exact rt _
  ·rw [if_neg (df q)] at H;refine go ?_;have e:=pur H;subst e;exact rt _
theorem CO:∀(a0:Fm) (x14:List Int) (X5:List Fm) (YH:Int) out,Vp a0 x14 X5 YH=some out->∀c,Yf Tryz.f58 0=some c->∀(Q:QT) (tt0:Sto) (b1 b3 b5:Nat),(∀(YT:List Fm),out=YT->∀(T:TT) (ss tt:Sto) (e0v0:AV),T 2=.ptr b3 0/\T 3=.ptr b5 0->Tau tt0 [] tt->Fx tt ss [(b5,⟨26,5,[i6 a0.kind,.str a0.name,i6 a0.num,sf cI x14,e0v0]⟩),(b3,⟨26,5,[i6 0,.str zB,i6 0,.Ya,.Ya]⟩),(b1,⟨26,5,[i6 a0.kind,.str a0.name,i6 a0.num,sf cI a0.sc,sf KY a0.kids]⟩)] [⟨e0v0,26,5,rws KY YT⟩]->Q (.ex 0) ⟨T,ss⟩)->True->∀(T:TT) (ss tt:Sto) (z0v0:AV),T 1=.ptr b1 0/\T 2=.ptr b3 0/\T 3=.ptr b5 0/\T 4=i6 YH->Tau tt0 [] tt->Fx tt ss [(b5,⟨26,5,[i6 a0.kind,.str a0.name,i6 a0.num,sf cI x14,z0v0]⟩),(b3,⟨26,5,[i6 0,.str zB,i6 0,.Ya,.Ya]⟩),(b1,⟨26,5,[i6 a0.kind,.str a0.name,i6 a0.num,sf cI a0.sc,sf KY a0.kids]⟩)] [⟨z0v0,26,5,rws KY X5⟩]->aLp KZ c Q ⟨T,ss⟩:=by
 intro a0 x14 X5 YH;revert X5 YH;refine Vp.partial_correctness a0 x14 _ ?_;intro Vp IH X5 YH out H c hc Q tt0 b1 b3 b5 hE hR T ss tt z0v0 tT hX hF;refine lpy hc rfl fun q=>go ?_;refine cdp H (fun h H=>?_) (fun h H=>?_)
 ·refine go ?_;refine Ye E0 [.v,.v,.v,.v,.v,.v,.v,.v,.v,.x,.v,.z] (by kernel_rfl) ?_;obtain ⟨x28,f1,H⟩:=bil (g:=KY) Fm.X6 H;refine go1 ?_;refine bp H (VW x28) fun x30 h H=>cv h ?_;refine go ?_;refine Pn (g:=KY) hF 0 H (rdo (c:=true) (g:=KY) Fm.X6) fun x32 H v8 s9 hF=>?_;refine go ?_;refine st hF 0 (hF.cells 0 rfl) fun s10 hF=>?_;refine go ?_;exact IH  x32 (i64.wrap (YH+1)) _ H _ rfl Q tt0 b1 b3 b5 hE hR _ _ _ v8 S hX hF
 ·refine go ?_;exact wq (hE _ (pur H).symm _ _ _ z0v0 S hX hF)
theorem Eg:∀(a0:Fm) r,Ho a0=some r->∀   (ss:Sto),Pre ss [] []->Ctr KZ 58 [.agg (KY a0)] ss (fun r' ss'=>∃(tt':Sto) (Qnp:AV),r'=.agg [i6 r.kind,.str r.name,i6 r.num,sf cI r.sc,Qnp]/\Tau (strip ss []) [] tt'/\Fx tt' ss' [] [⟨Qnp,26,5,rws KY r.kids⟩]):=by
 intro a0 r H;intro   ss hP;unfold Ho at H;refine hdg mixed Tryz.func58 (rs:=[.cell 2 26]) fun q tT=>?_;obtain ⟨hF,hX⟩:=hP.start;generalize strip ss []=tt0 at hF hX ⊢;refine go ?_;refine X8 hF rfl fun b1 ss2 hF=>?_;refine go ?_;refine X8 hF rfl fun b3 ss4 hF=>?_;refine go ?_;refine Ye E0 [.v,.v,.v,.v,.v,.v,.v,.v,.v,.v,.v,.x,.z] (by kernel_rfl) ?_;refine go ?_;obtain ⟨x14,hx14,H⟩:=bnd H;refine M1 (g:=cI) (xs:=[]) (ys:=a0.sc) (fun _=>rfl) (by decide) (by decide) (.inr (by first | rfl | simp only [Y8,Vy,cI,cU,cS,cL])) (.inr ⟨_,by first | rfl | simp only [Y8,Vy,cI,cU,cS,cL]⟩) hx14 ?_;refine go ?_;refine WQ hF rfl fun b5 ss6 hF=>?_;refine go ?_;refine st hF 0 rfl fun s7 hF=>?_;have hF:=hF.nil 26 5;refine go ?_;obtain ⟨o11,ho11,H⟩:=bnd H;refine CO a0 x14 [] 0 _ ho11 _ rfl _ tt0 b1 b3 b5 ?_ ?_ _ _ _ .Ya S hX hF
 ·intro CT he T13 s14 t15 e12v0 tT hX hF;have he:=he.symm;subst he;refine go ?_;refine st hF 1 rfl fun s16 hF=>?_;refine go ?_;have e:=pur H;subst e;exact rg _ ⟨_,_,rfl,hX,hF.pick [] [0] (by decide) (by decide)⟩
 ·trivial
theorem MD:∀(a1:Fm) (c0:Rdr) r,HP a1 c0=some r->∀(e0:Nat)  (ss:Sto),Pre ss [(e0,⟨89,2,[sf cU c0.b,i6 c0.p]⟩)] []->Ctr KZ 21 [.ptr e0 0,.agg (KY a1)] ss (fun r' ss'=>∃(tt':Sto),r'=.agg (KY r.1)/\Tau (strip ss []) [(e0,⟨89,2,[sf cU r.2.b,i6 r.2.p]⟩)] tt'/\Fx tt' ss' [] []):=by
 refine HP.partial_correctness _ (motive_2:=fun a1 x9 HC X5 Yo G4 Au out=>∀c,Yf Tryz.f21 0=some c->∀(Q:QT) (tt0:Sto) (e0 b1 b3 b9:Nat),(∀(YT:List Fm) (CS:List Int) (Mb:Int),out=(YT,CS,Mb)->∀(T:TT) (ss tt:Sto) (e0v0:AV),T 4=.ptr b3 0/\T 5=.ptr b9 0->Tau tt0 [(e0,⟨89,2,[sf cU CS,i6 Mb]⟩)] tt->Fx tt ss [(b9,⟨26,5,[i6 x9.kind,.str x9.name,i6 x9.num,sf cI HC,e0v0]⟩),(b3,⟨26,5,[i6 0,.str zB,i6 0,.Ya,.Ya]⟩),(b1,⟨26,5,[i6 a1.kind,.str a1.name,i6 a1.num,sf cI a1.sc,sf KY a1.kids]⟩)] [⟨e0v0,26,5,rws KY YT⟩]->Q (.ex 0) ⟨T,ss⟩)->True->∀(T:TT) (ss tt:Sto) (z0v0:AV),T 0=.ptr e0 0/\T 4=.ptr b3 0/\T 5=.ptr b9 0/\T 7=i6 Yo->Tau tt0 [(e0,⟨89,2,[sf cU G4,i6 Au]⟩)] tt->Fx tt ss [(b9,⟨26,5,[i6 x9.kind,.str x9.name,i6 x9.num,sf cI HC,z0v0]⟩),(b3,⟨26,5,[i6 0,.str zB,i6 0,.Ya,.Ya]⟩),(b1,⟨26,5,[i6 a1.kind,.str a1.name,i6 a1.num,sf cI a1.sc,sf KY a1.kids]⟩)] [⟨z0v0,26,5,rws KY X5⟩]->aLp KZ c Q ⟨T,ss⟩) ?_ ?_
 ·intro Jd L0 a1 c0 r H;intro e0  ss hP;refine hdg mixed Tryz.func21 (rs:=[.cell 4 26]) fun q tT=>?_;obtain ⟨hF,hX⟩:=hP.start;generalize strip ss []=tt0 at hF hX ⊢;refine go ?_;refine X8 hF rfl fun b1 ss2 hF=>?_;refine go ?_;refine X8 hF rfl fun b3 ss4 hF=>?_;refine go ?_;obtain ⟨x9,hx9,H⟩:=bnd H;refine cx (Eg a1 _ hx9   _ (pre 0 0 0 hF hX)) ?_;rintro _ ss6 ⟨t7,v5,rfl,hT,hG⟩;obtain ⟨t8,hX,hF⟩:=aft 0 0 0 hF hX hT hG;refine go ?_;refine X8 hF rfl fun b9 s10 hF=>?_;refine go ?_;refine st hF 0 rfl fun s11 hF=>?_;refine go ?_;obtain ⟨⟨HC,LO,LP⟩,j13,H⟩:=bnd H;refine VL (fun s'=>∃(T:TT) (ss1 tt1:Sto),s'=⟨T,ss1⟩/\(T 0=.ptr e0 0/\T 4=.ptr b3 0/\T 5=.ptr b9 0)/\Tau tt0 [(e0,⟨89,2,[sf cU LO,i6 LP]⟩)] tt1/\Fx tt1 ss1 [(b9,⟨26,5,[i6 x9.kind,.str x9.name,i6 x9.num,sf cI HC,v5]⟩),(b3,⟨26,5,[i6 0,.str zB,i6 0,.Ya,.Ya]⟩),(b1,⟨26,5,[i6 a1.kind,.str a1.name,i6 a1.num,sf cI a1.sc,sf KY a1.kids]⟩)] [⟨v5,26,5,rws KY x9.kids⟩]) (cdp j13 (fun h j13=>?_) (fun h j13=>?_)) ?_
  ·refine go ?_;obtain ⟨x26,hx26,j13⟩:=bnd j13;refine cx (Ys 7 c0 _ hx26 e0  _ (pre 0 1 0 hF hX)) ?_;rintro _ s14 ⟨t15,rfl,hT,hG⟩;obtain ⟨t16,hX,hF⟩:=aft 0 1 0 hF hX hT hG;obtain ⟨x27,f1,j13⟩:=bll (g:=cI) [[.sl true []],[.sl true [[i6 1]]],[.sl true [[i6 2]]],[.sl true [[i6 1],[i6 2]]],[.sl true [[i6 1],[i6 3]]],[.sl true [[i6 1],[i6 2],[i6 3]]],[.sl true [[i6 99]]]] rfl j13;refine go1 ?_;refine apv (g:=cI) j13 (fun _=>rfl) (rdo (c:=true) (g:=cI) (fun _=>rfl)) fun x29 j13=>?_;refine go ?_;refine st hF 0 rfl fun s17 hF=>?_;refine go ?_;have e:=pur j13
   injection e with e0 e
   injection e with e1 e
   subst e0;subst e1;subst e;exact ⟨_,_,_,rfl,S,hX,hF⟩
  ·refine go ?_;have e:=pur j13
   injection e with e0 e
   injection e with e1 e
   subst e0;subst e1;subst e;exact ⟨_,_,_,rfl,S,hX,hF⟩
  ·rintro s' ⟨T18,s19,t20,rfl,tT,hX,hF⟩;refine go ?_;obtain ⟨o31,ho31,H⟩:=bnd H;refine L0 a1 x9 HC x9.kids 0 LO LP _ ho31 _ rfl _ tt0 e0 b1 b3 b9 ?_ ?_ _ _ _ v5 S hX hF
   ·intro CU S9 Te he T33 s34 t35 e32v0 tT hX hF;have he:=he.symm;subst he
    try dsimp only at H
    refine go ?_;refine st hF 1 rfl fun s36 hF=>?_;refine go ?_;have e:=pur H;subst e;exact rg _ ⟨_,rfl,hX,K3 _⟩
   ·trivial
 ·intro HP Jd C0 L0 a1 x9 HC X5 Yo G4 Au out H c hc Q tt0 e0 b1 b3 b9 hE hR T ss tt z0v0 tT hX hF;refine lpy hc rfl fun q=>go ?_;refine cdp H (fun h H=>?_) (fun h H=>?_)
  ·refine go ?_;obtain ⟨E,hEq⟩:∃E,E=EE ss [e0]:=⟨_,rfl⟩
   have n21:¬E b9:=by rw [hEq];exact K5 (hF.at 0 rfl) (nm1 (neX hF 0 rfl hX 0 rfl))
   have n22:¬E b3:=by rw [hEq];exact K5 (hF.at 1 rfl) (nm1 (neX hF 1 rfl hX 0 rfl))
   have n23:¬E b1:=by rw [hEq];exact K5 (hF.at 2 rfl) (nm1 (neX hF 2 rfl hX 0 rfl))
   refine Ye E [.v,.v,.v,.v,.v,.v,.v,.v,.x,.x,.v,.z] (by kernel_rfl) ?_;have z:=K2 (X4 (hF.at 0 rfl) n21) (K2 (X4 (hF.at 1 rfl) n22) (X4 (hF.at 2 rfl) n23));refine gh ?_;obtain ⟨x45,hx45,H⟩:=bnd H;obtain ⟨b24,k25,hv⟩:=hF.ref 0 rfl hx45;subst hv
   try simp only [go_sem,↓reduceIte,K8,Zf,Zg,K9,Zh,Zi,Kl,q,tT,hF.f,hF.m,hF.x hX,X4 (hF.at 0 rfl) n21,X4 (hF.at 1 rfl) n22,X4 (hF.at 2 rfl) n23,Bz (l:=X5) rfl hx45,L3 hF 0 (p:=Yo.toNat * 5) (sz:=5) (ag:=true) (k:=5) (o:=0) (g:=KY) (x:=x45) (i:=Yo) (v:=(.agg [i6 x45.kind,.str x45.name,i6 x45.num,sf cI x45.sc,sf KY x45.kids])) (by first | rfl | simp) Fm.X6 rfl hx45 (by decide) (by first | rfl | (simp only [sf,i6,zB,cI,cU,cS,cL,cB,Fm.X9];rfl))]
   obtain ⟨x47,hx47,H⟩:=bnd H;refine cx (C0 x45 (Rdr.mk G4 Au) _ hx47 e0  _ (pre 0 1 0 hF hX)) ?_;rintro _ s26 ⟨t27,rfl,hT,hG⟩
   refine VM (Za hT hG (by intro p hp;simp only [Kj,KD,or_false] at hp<;>first | (rcases hp with rfl<;>(rw [hEq];first | (refine Ze ?_;simp;done) | exact Zr rfl))| cases hp)) fun kp29=>?_
   obtain ⟨tt28,hX,hF⟩:=aft 0 1 0 hF hX hT hG;obtain ⟨x48,hx48,H⟩:=bnd H
   try simp only [go_sem,↓reduceIte,K8,Zf,Zg,K9,Zh,Zi,Kl,q,tT,hF.f,hF.m,hF.x hX,X4 (hF.at 0 rfl) n21,X4 (hF.at 1 rfl) n22,X4 (hF.at 2 rfl) n23,Bz (l:=X5) ((DO hF 0 rfl).1.trans (WM _)) hx48]
   refine OL hF 0 (o:=0) (sz:=5) (k:=5) (v:=(.agg [i6 x47.1.kind,.str x47.1.name,i6 x47.1.num,sf cI x47.1.sc,sf KY x47.1.kids])) (cs:=[i6 x47.1.kind,.str x47.1.name,i6 x47.1.num,sf cI x47.1.sc,sf KY x47.1.kids]) (g:=KY) (i:=Yo) x47.1 Fm.X6 (by first | rfl | simp) rfl hx48 rfl rfl (by decide) (by first | rfl | simp [Hq,cI,cU,cS,cL,cB,Fm.X9]) fun s30 hF=>?_;have hF:Fx tt28 s30 [(b9,⟨26,5,[i6 x9.kind,.str x9.name,i6 x9.num,sf cI HC,.ref b24 X5.length k25]⟩),(b3,⟨26,5,[i6 0,.str zB,i6 0,.Ya,.Ya]⟩),(b1,⟨26,5,[i6 a1.kind,.str a1.name,i6 a1.num,sf cI a1.sc,sf KY a1.kids]⟩)] [⟨.ref b24 X5.length k25,26,5,rws KY (X5.set Yo.toNat x47.1)⟩]:=hF;have z:=K2 (X4 (hF.at 0 rfl) n21) (K2 (X4 (hF.at 1 rfl) n22) (X4 (hF.at 2 rfl) n23));refine gh ?_;refine go ?_;exact L0 a1 x9 HC (X5.set Yo.toNat x47.1) (i64.wrap (Yo+1)) x47.2.b x47.2.p _ H _ rfl Q tt0 e0 b1 b3 b9 hE hR _ _ _ (.ref b24 X5.length k25) S hX hF
  ·refine go ?_;exact wq (hE _ _ _ (pur H).symm _ _ _ z0v0 S hX hF)
theorem A7:∀(a0:List Int) r,V8 a0=some r->Vr KZ 6 [sf cU a0] (.agg (ZE r)):=by
 intro a0 r H;intro ss;unfold V8 at H;refine hdh mixed Tryz.func6 (rs:=[.cell 2 28]) fun q tT hF hX=>?_;refine go ?_;refine X8 hF rfl fun b1 ss2 hF=>?_;refine go ?_;refine bp H (Lf a0) fun x5 h H=>cl h ?_;refine go ?_;refine cdp H (fun h H=>?_) (fun h H=>?_)
 ·refine go ?_;obtain ⟨x10,hx10,H⟩:=bnd H;refine cx (HN a0 _ hx10   _ (pre 0 0 0 hF hX)) ?_;rintro _ ss4 ⟨tt5,b3,rfl,hT,hG⟩;have nw7:ss2.var b3=none:=(hT.off b3 (by simp)).symm.trans (hG.var _ (Kx ..)).2.1;have hF:=DB 0 0 hF hX hT hG;refine go ?_;obtain ⟨x12,hx12,H⟩:=bnd H;refine cx (HN a0 _ hx12   _ (pre 0 0 0 hF hX)) ?_;rintro _ s9 ⟨t10,b8,rfl,hT,hG⟩;have nw12:ss4.var b8=none:=(hT.off b8 (by simp)).symm.trans (hG.var _ (Kx ..)).2.1;have hF:=DB 0 0 hF hX hT hG;refine go ?_;obtain ⟨x13,hx13,H⟩:=bnd H;refine cx (DT 2 x12 _ hx13 b8  _ (pre 1 0 0 hF hX)) ?_;rintro _ s13 ⟨t14,rfl,hT,hG⟩;have hF:=DB 1 0 hF hX hT hG;refine go ?_;have hF:=pck hF [1,0,2] [];obtain ⟨x14,hx14,H⟩:=bnd H;refine cx (MD x13.1 x10 _ hx14 b3  _ (pre 1 0 0 hF hX)) ?_;rintro _ s16 ⟨t17,rfl,hT,hG⟩;have hF:=DB 1 0 hF hX hT hG;refine go ?_;refine st hF 2 rfl fun s19 hF=>?_;refine go ?_;have e:=pur H;subst e;exact rt _
 ·refine go ?_;obtain ⟨x18,hx18,H⟩:=bnd H;refine cx (HN a0 _ hx18   _ (pre 0 0 0 hF hX)) ?_;rintro _ s21 ⟨tt22,b20,rfl,hT,hG⟩;have nw24:ss2.var b20=none:=(hT.off b20 (by simp)).symm.trans (hG.var _ (Kx ..)).2.1;have hF:=DB 0 0 hF hX hT hG;refine go ?_;obtain ⟨x21,hx21,H⟩:=bnd H;refine cx (Ys (x5.length:Int) x18 _ hx21 b20  _ (pre 1 0 0 hF hX)) ?_;rintro _ s25 ⟨t26,rfl,hT,hG⟩;have hF:=DB 1 0 hF hX hT hG;obtain ⟨x22,f1,H⟩:=bil (g:=ZE) Stp.X6 H;refine go1 ?_;refine st hF 1 rfl fun s28 hF=>?_;refine go ?_;have e:=pur H;subst e;exact rt _
set_option maxHeartbeats 1000000 in
set_option maxRecDepth 100000 in
theorem Qjk (s:ByteArray) (c:Int) (w:World) :
  Calls KZ 133 #[.string s,.int .u8 c] w fun e w'=>e=.returned (Value.int .i64 (Lib.indexByte s.data.toList c.toNat.toUInt8))/\w'=w:=by
 go_enter Tryz.func133,Tryz.ntmps133
 go_wp2
 rw [run_callFunc_extern Tryz.func158 (by kernel_rfl) (by kernel_rfl) (by kernel_rfl) (e:=Extern.BytealgIndexByte.indexByte) (by kernel_rfl),Lib.run_indexByteString];simp only [Result.andThen];rw [Oper.upon_value]
 go_wp2
 go_ret
 exact ⟨rfl,rfl⟩
set_option maxHeartbeats 1000000 in
theorem Qmt (s:ByteArray) (c:Int) (w:World) :
  Calls KZ 96 #[.string s,.int .u8 c] w fun e w'=>e=.returned (Value.int .i64 (Lib.indexByte s.data.toList c.toNat.toUInt8))/\w'=w:=by
 go_enter Tryz.func96,Tryz.ntmps96
 go_wp2_with (go_at_call 133;refine (Qjk _ _ _).mono ?_;rintro e w' ⟨rfl,rfl⟩)
 go_ret
 exact ⟨rfl,rfl⟩
theorem Qmr {P : Program} {f : FuncId} {fn : Func} (hf : P.funcs[f]? = some fn) (hb : fn.body.isNone = false) (hn : (fn.name == "runtime.NumGoroutine") = false) {s : ByteArray} {c r : Int}
  (h:∀w,Calls P f #[.string s,.int .u8 c] w fun e w'=>e=.returned (Value.int .i64 r)/\w'=w):Vr P f [.str s,.int .u8 c] (i6 r):=by
 intro ss;refine ⟨⟨fn,hf,hb,hn⟩,fun w cargs hsim htb hl hr=>?_⟩;have h0:=hr 0 _ rfl;have h1:=hr 1 _ rfl
 match cargs,hl with
 | [x,y],_ =>
  simp only [List.getD_cons_zero,List.getD_cons_succ] at h0 h1;cases h0;cases h1;refine (h w).mono ?_;rintro e w' ⟨rfl,rfl⟩;exact ⟨_,_,ss,rfl,Step.refl _ _,hsim,.int,rfl,rfl⟩
theorem DL:∀(a0:ByteArray) (a1:Int) r,Ii a0 a1=some r->Vr KZ 96 [.str a0,.int .u8 a1] (i6 r):=by
 intro a0 a1 r H
 injection H with H
 subst H;exact Qmr Tryz.func96 (by kernel_rfl) (by kernel_rfl) (Qmt a0 a1)
theorem Is:∀(a0 a1 a2:Int) r,Jm a0 a1 a2=some r->Vr KZ 25 [i6 a0,i6 a1,i6 a2] (.bool r):=by
 intro a0 a1 a2 r H;intro ss;unfold Jm at H;refine hdh mixed Tryz.func25 (rs:=[.tmp 6]) fun q tT hF hX=>?_;refine go ?_;obtain ⟨x14,g1,H⟩:=bnd H;refine Yb 3 11 14 (.bool x14) (gi q (fun q=>?_) (fun q=>?_)) (fun J=>?_)
 ·refine go ?_;exact Yt 11 g1
 ·refine go ?_;exact Yt 11 g1
 refine go ?_;have e:=pur H;subst e;exact rt _
theorem DE:∀(a0:ByteArray) (YC:Int) out,Vu a0 YC=some out->∀c,Yf Tryz.f67 0=some c->∀(Q:QT) (tt:Sto),(∀(_u:Unit),out=Sum.inr ()->∀(T:TT) (ss:Sto),T 0=.str a0->Fx tt ss [] []->Q (.ex 0) ⟨T,ss⟩)->(∀r,out=Sum.inl r->∀s',Aj KZ [.tmp 2] (fun r' ss'=>r'=.bool r/\ss'=tt) s'->Q .ret s')->∀(T:TT) (ss:Sto),T 0=.str a0/\T 3=i6 YC->Fx tt ss [] []->aLp KZ c Q ⟨T,ss⟩:=by
 intro a0 YC;revert YC;refine Vu.partial_correctness a0 _ ?_;intro Vu IH YC out H c hc Q tt  hE hR T ss tT hF;refine lpx tt hc rfl fun q hX=>go ?_;refine cdp H (fun h H=>?_) (fun h H=>?_)
 ·obtain ⟨x19,f1,H⟩:=bsx H;refine go1 ?_;refine go ?_;obtain ⟨x26,g3,H⟩:=bnd H;refine Yb 2 24 26 (.bool x26) (gi q (fun q=>?_) (fun q=>?_)) (fun J=>?_)
  ·refine go ?_;exact Yt 24 g3
  ·refine go ?_;exact Yt 24 g3
  refine go ?_;obtain ⟨x31,g5,H⟩:=bnd H;refine Yb 3 28 31 (.bool x31) (giN q (fun q=>?_) (fun q=>?_)) (fun J=>?_)
  ·rw [if_neg (dbf q)] at g5;refine go ?_;obtain ⟨x29,hx29,g5⟩:=bnd g5;refine cl (DL (ByteArray.mk #[42,63,61,43,60]) x19 _ hx29) ?_;refine go ?_;exact Yt 28 g5
  ·rw [if_pos (dbt q)] at g5;refine go ?_;exact Yt 28 g5
  refine go ?_;refine cdb H (fun h H=>?_) (fun h H=>?_)
  ·refine go ?_;exact IH  (i64.wrap (YC+1)) _ H _ rfl Q tt  hE hR _ _  S hF
  ·refine go ?_;obtain ⟨x46,g7,H⟩:=bnd H;refine Yb 10 36 46 (.bool x46) (gi q (fun q=>?_) (fun q=>?_)) (fun J=>?_)
   ·rw [if_pos (dt q)] at g7;refine go ?_;obtain ⟨x41,g9,g7⟩:=bnd g7;refine Yb 2 39 41 (.bool x41) (gi q (fun q=>?_) (fun q=>?_)) (fun J=>?_)
    ·refine go ?_;exact Yt 39 g9
    ·refine go ?_;exact Yt 39 g9
    refine go ?_;obtain ⟨x45,g11,g7⟩:=bnd g7;refine Yb 2 43 45 (.bool x45) (giN q (fun q=>?_) (fun q=>?_)) (fun J=>?_)
    ·refine go ?_;exact Yt 43 g11
    ·refine go ?_;exact Yt 43 g11
    refine go ?_;exact Yt 36 g7
   ·rw [if_neg (df q)] at g7;refine go ?_;exact Yt 36 g7
   refine go ?_;refine cdb H (fun h H=>?_) (fun h H=>?_)
   ·refine go ?_;exact IH  (i64.wrap (YC+1)) _ H _ rfl Q tt  hE hR _ _  S hF
   ·refine go ?_;exact wq (hR _ (pur H).symm _ (rt _))
 ·refine go ?_;exact wq (hE () (pur H).symm _ _  S hF)
end Go.Proofs.SA
