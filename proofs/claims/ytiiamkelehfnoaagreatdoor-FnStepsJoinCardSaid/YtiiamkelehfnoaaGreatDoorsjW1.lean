/- Printed by a program of mine: the plain functions that the code computes (D), and the walks that show it (W). -/
import Derived.Test.YtiiamkelehfnoaaGreatDoorGx
import Derived.Test.YtiiamkelehfnoaaGreatDoorSaTy
import Derived.Test.YtiiamkelehfnoaaGreatDoorChecked
import Derived.Lib.Strings
import Derived.Lib.Slices
import Derived.Lib.Walk
import Derived.Lib.Bytealg
import Derived.Test.YtiiamkelehfnoaaGreatDoorGv
import Derived.Test.YtiiamkelehfnoaaGreatDoorSf
import Derived.Test.YtiiamkelehfnoaaGreatDoorsjD
import Derived.Test.YtiiamkelehfnoaaGreatDoorsjW0
set_option maxRecDepth 100000
set_option maxHeartbeats 2000000
set_option linter.unusedSimpArgs false
set_option linter.unusedVariables false
open Go Go.Proofs Go.Proofs.Shadow
open Fm renaming cells → KZ
open _root_.And renaming intro → K3
open Tryz renaming prog → K0
open Stp renaming cells → ZF, mk → KY
open Xpn renaming cells → K8, mk → KV
open Hit renaming cells → K2
open Cor renaming cells → ZG
open EE renaming not → K6, of → Zf, new → Zs
open Bnd renaming cells → K1
open Mac renaming cells → Ze
open _root_.List renaming not_mem_nil → KE, mem_cons → Kk
open Fx renaming self → K4, kept → Zb
open Rul renaming cells → K5
open _root_.Int renaming toNat_natCast → Km, reduceEq → Zj
open _root_.Nat renaming reduceEqDiff → K9, reduceLeDiff → Za, reduceAdd → Zg, reduceMul → Zh, reduceLT → Zi
open Go.IntKind (i64)
namespace Go.Proofs.SA
theorem Fo (fx0:List Bnd) (fx1:List Fm):(∀(a1 a3:Fm) r,VR fx0 a1 fx1 a3=some r->Vb K0 170 [sf K1 fx0,.agg (KZ a1),sf KZ fx1,.agg (KZ a3)] (.tup [sf K2 r.1,.bool r.2]))/\(∀(a1 a3:List Fm) r,Br fx0 a1 fx1 a3=some r->Vb K0 188 [sf K1 fx0,sf KZ a1,sf KZ fx1,sf KZ a3] (.tup [sf K2 r.1,.bool r.2])):=by
 have h:=VR.mutual_partial_correctness fx0 fx1 (motive_1:=fun a1 a3 r=>Vb K0 170 [sf K1 fx0,.agg (KZ a1),sf KZ fx1,.agg (KZ a3)] (.tup [sf K2 r.1,.bool r.2])) (motive_2:=fun a1 a3 r=>Vb K0 188 [sf K1 fx0,sf KZ a1,sf KZ fx1,sf KZ a3] (.tup [sf K2 r.1,.bool r.2])) (motive_3:=fun a1 a3 Wf Vj GU WZ out=>∀c,Yh Tryz.f188 1=some c->∀(Q:QT) (tt:Sto),(∀(La:List Hit),out=Sum.inr La->∀(T:TT) (ss:Sto) (e1v0:AV),T 10=e1v0->Fx tt ss [] [⟨e1v0,217,12,rws K2 La⟩]->Q (.ex 2) ⟨T,ss⟩)->(∀r,out=Sum.inl r->∀s',IP K0 [.tmp 8,.tmp 9] (fun r' ss'=>r'=.tup [sf K2 r.1,.bool r.2]/\ss'=tt) s'->Q .ret s')->∀(T:TT) (ss:Sto) (z1v0:AV),T 0=sf K1 fx0/\T 1=sf KZ a1/\T 2=sf KZ fx1/\T 3=sf KZ a3/\T 10=z1v0/\T 11=i6 Wf/\T 13=i6 GU/\T 14=i6 WZ->Fx tt ss [] [⟨z1v0,217,12,rws K2 Vj⟩]->aLp K0 c Q ⟨T,ss⟩) (motive_4:=fun a1 a3 Wf Vj WZ Qbo L5 M1 out=>∀c,Yh Tryz.f188 2=some c->∀(Q:QT) (tt:Sto) (z1v0:AV),(∀(Qje:List (List Hit)) (Qe8:Int),out=Sum.inr (Qje,Qe8)->∀(T:TT) (ss:Sto) (e2v1:AV),T 0=sf K1 fx0/\T 1=sf KZ a1/\T 2=sf KZ fx1/\T 3=sf KZ a3/\T 10=z1v0/\T 11=i6 Wf/\T 13=i6 Qe8/\T 14=i6 WZ/\T 17=e2v1->Fx tt ss [] [⟨e2v1,199,1,rws (cL K2) Qje⟩,⟨z1v0,217,12,rws K2 Vj⟩]->Q (.ex 4) ⟨T,ss⟩)->(∀r,out=Sum.inl r->∀s',IP K0 [.tmp 8,.tmp 9] (fun r' ss'=>r'=.tup [sf K2 r.1,.bool r.2]/\ss'=tt) s'->Q .ret s')->∀(T:TT) (ss:Sto) (z2v1:AV),T 0=sf K1 fx0/\T 1=sf KZ a1/\T 2=sf KZ fx1/\T 3=sf KZ a3/\T 10=z1v0/\T 11=i6 Wf/\T 13=i6 L5/\T 14=i6 WZ/\T 17=z2v1/\T 18=i6 M1->Fx tt ss [] [⟨z2v1,199,1,rws (cL K2) Qbo⟩,⟨z1v0,217,12,rws K2 Vj⟩]->aLp K0 c Q ⟨T,ss⟩) ?s0 ?s1 ?s2 ?s3
 ·exact ⟨h.1,h.2.1⟩
 ·intro Br C1 a1 a3 r H;intro ss;refine hdh mixed Tryz.func170 (rs:=[.tmp 8,.tmp 9]) fun q tT hF hX=>?_;refine go ?_;refine X9 hF rfl fun b1 ss2 hF=>?_;refine go ?_;refine X9 hF rfl fun b3 ss4 hF=>?_;refine go ?_;refine cdp H (fun h H=>?_) (fun h H=>?_)
  ·refine go ?_;refine cdp H (fun h H=>?_) (fun h H=>?_)
   ·refine go ?_;have e:=pur H;subst e;exact rt _
   ·refine go ?_;refine bp H (AF fx1 a1) fun x21 h H=>cl h ?_;refine go ?_;refine cdb H (fun h H=>?_) (fun h H=>?_)
    ·refine go ?_;obtain ⟨x31,g5,H⟩:=bnd H;refine Yc 4 27 31 (.bool x31) (gi q (fun q=>?_) (fun q=>?_)) (fun J=>?_)
     ·rw [if_pos (dt q)] at g5;refine go ?_;obtain ⟨x30,hx30,g5⟩:=bnd g5;refine cl (Mr fx0 a1 a3 _ hx30) ?_;refine go ?_;exact Yt 27 g5
     ·rw [if_neg (df q)] at g5;refine go ?_;exact Yt 27 g5
     refine go ?_;have e:=pur H;subst e;exact rt _
    ·refine go ?_;have hF:=hF.lit 217 12 (rws K2 []) rfl;refine apw (g:=K2) (rows:=[[i6 a1.kind,.str a1.name,i6 a1.num,sf cI a1.sc,sf KZ a1.kids,i6 0,i6 a3.kind,.str a3.name,i6 a3.num,sf cI a3.sc,sf KZ a3.kids,.Yb]]) hF 0 H Hit.X6 true rfl (by simp only [sf,i6,zB,Y2,VJ,cI,cU,cS,cL,Hit.Ya,Fm.Ya,Fm.kind,Fm.name,Fm.num,Fm.sc,Fm.kids,Hit.name,Hit.depth,Hit.one,Hit.many,Cor.kind,Cor.id,Cor.name,Cor.num,Cor.ids,Cor.data,Cor.kids,Val.kind,Val.num,Val.name,Val.items,Val.fn,Val.env,Slt.id,Slt.val,List.flatten_cons,List.flatten_nil,List.append_nil,List.cons_append,List.nil_append];exact (.cons (.refl _) id (.cons (.refl _) id (.cons (.refl _) id (.cons (.refl _) id (.cons (.refl _) id (.cons (.refl _) id (.cons (.refl _) id (.cons (.refl _) id (.cons (.refl _) id (.cons (.refl _) id (.cons (.refl _) id (.cons .Yb (fun _=>rfl) .nil))))))))))))) fun x37 H v7 s8 hF=>?_;refine go ?_;have e:=pur H;subst e;exact rt _
  ·refine go ?_;refine cdp H (fun h H=>?_) (fun h H=>?_)
   ·refine go ?_;refine bp H (JD a1 a3) fun x44 h H=>cl h ?_;refine go ?_;have e:=pur H;subst e;exact rt _
   ·refine go ?_;refine cdn H (fun h H=>?_) (fun h H=>?_)
    ·refine go ?_;have e:=pur H;subst e;exact rt _
    ·refine go ?_;refine bp H (C1 a1.kids a3.kids) fun x55 h H=>cl h ?_;refine go ?_;have e:=pur H;subst e;exact rt _
 ·intro VD L1 a1 a3 r H;intro ss;refine hdh mixed Tryz.func188 (rs:=[.tmp 8,.tmp 9]) fun q tT hF hX=>?_;refine go ?_;obtain ⟨o1,ho1,H⟩:=bnd H;refine Eu fx0 a1 fx1 a3 (-1) 0 _ ho1 _ rfl _ _  ?_ ?_ _ _  S hF
  ·intro Wf he T3 ss4 tT hF;have he:=he.symm;subst he;refine go ?_;obtain ⟨x44,g6,H⟩:=bnd H;refine Yc 5 39 44 (.bool x44) (gi q (fun q=>?_) (fun q=>?_)) (fun J=>?_)
   ·refine go ?_;exact Yt 39 g6
   ·refine go ?_;exact Yt 39 g6
   refine go ?_;obtain ⟨x56,g8,H⟩:=bnd H;refine Yc 10 46 56 (.bool x56) (giN q (fun q=>?_) (fun q=>?_)) (fun J=>?_)
   ·rw [if_neg (dbf q)] at g8;refine go ?_;obtain ⟨x55,g10,g8⟩:=bnd g8;refine Yc 6 49 55 (.bool x55) (gi q (fun q=>?_) (fun q=>?_)) (fun J=>?_)
    ·refine go ?_;exact Yt 49 g10
    ·refine go ?_;exact Yt 49 g10
    refine go ?_;exact Yt 46 g8
   ·rw [if_pos (dbt q)] at g8;refine go ?_;exact Yt 46 g8
   refine go ?_;refine cdb H (fun h H=>?_) (fun h H=>?_)
   ·refine go ?_;have e:=pur H;subst e;exact rt _
   ·have hF:=hF.lit 217 12 (rws K2 []) rfl;refine go ?_;obtain ⟨o27,ho27,H⟩:=bnd H;refine L1 a1 a3 Wf [] 0 0 _ ho27 _ rfl _ _  ?_ ?_ _ _ (.sl true (rws K2 [])) S hF
    ·intro RH he T29 s30 e28v0 tT hF;have he:=he.symm;subst he
     try dsimp only at H
     refine go ?_;have e:=pur H;subst e;exact rt _
    ·intro r hr s' hs;subst hr;have e:=pur H;subst e;exact hsq hs
  ·trivial
 ·intro VR VD Jh C0 L1 L0 a1 a3 Wf Vj GU WZ out H c hc Q tt  hE hR T ss z1v0 tT hF;refine lpx tt hc rfl fun q hX=>go ?_;refine cdp H (fun h H=>?_) (fun h H=>?_)
  ·obtain ⟨x66,f1,H⟩:=bil (g:=KZ) Fm.X6 H;refine go1 ?_;refine bp H (Va x66) fun x68 h H=>cl h ?_;refine go ?_;refine cdb H (fun h H=>?_) (fun h H=>?_)
   ·refine go ?_;exact L1 a1 a3 Wf Vj GU (i64.wrap (WZ+1)) _ H _ rfl Q tt  hE hR _ _ z1v0 S hF
   ·refine go ?_;refine cdn H (fun h H=>?_) (fun h H=>?_)
    ·refine go ?_;refine Yg E0 [.v,.v,.v,.v,.v,.v,.v,.v,.v,.v,.v,.v,.v,.v,.v,.v] (by kernel_rfl) ?_;obtain ⟨x76,f1,H⟩:=bil (g:=KZ) Fm.X6 H;obtain ⟨x81,f2,H⟩:=bil (g:=KZ) Fm.X6 H;refine go2 ?_;refine bp H (C0 x76 x81) fun x83 h H=>cv h ?_;refine go ?_;refine cdb H (fun h H=>?_) (fun h H=>?_)
     ·refine go ?_;exact wq (hR _ (pur H).symm _ (rt _))
     ·refine go ?_;refine apd (g:=K2) hF 0 H (rdo (c:=false) (g:=K2) Hit.X6) fun x91 H v12 s13 hF=>?_;refine go ?_;exact L1 a1 a3 Wf x91 (i64.wrap (GU+1)) (i64.wrap (WZ+1)) _ H _ rfl Q tt  hE hR _ _ v12 S hF
    ·have hF:=hF.lit 199 1 (rws (cL K2) []) rfl;refine go ?_;obtain ⟨o16,ho16,H⟩:=bnd H;refine L0 a1 a3 Wf Vj WZ [] GU (i64.wrap ((a3.length:Int) - (i64.wrap ((a1.length:Int) - 2)))) _ ho16 _ rfl _ _ z1v0 ?_ ?_ _ _ (.sl true (rws (cL K2) [])) S hF
     ·intro Ot F9 he T18 s19 e17v1 tT hF;have he:=he.symm;subst he
      try dsimp only at H
      obtain ⟨x131,f1,H⟩:=bil (g:=KZ) Fm.X6 H;refine go1 ?_;obtain ⟨x135,hx135,H⟩:=bnd H;obtain ⟨s21,hF,hw22,hb23,hz24⟩:=frz hF 0;refine Qbv (NM x131 fx1 Ot _ hx135 _) (by (try simp only [sf,i6,zB,Fm.Ya]);exact (.cons (Wk.sub hb23 _) id (.cons (Wk.sub hb23 _) id (.cons hw22 (fun _=>rfl) .nil)))) hb23 ?_;rintro _ _ ⟨rfl,rfl⟩;refine go ?_;refine apd (g:=K2) hF 0 H (rdo (c:=false) (g:=K2) Hit.X6) fun x136 H v25 s26 hF=>?_;refine go ?_;exact L1 a1 a3 Wf x136 F9 (i64.wrap (WZ+1)) _ H _ rfl Q tt  hE hR _ _ v25 S hF
     ·intro r hr s' hs;subst hr;exact wq (hR _ (pur H).symm _ hs)
  ·refine go ?_;exact wq (hE _ (pur H).symm _ _ z1v0 S hF)
 ·intro VR Jh C0 L0 a1 a3 Wf Vj WZ Qbo L5 M1 out H c hc Q tt z1v0 hE hR T ss z2v1 tT hF;refine lpx tt hc rfl fun q hX=>go ?_;refine cdp H (fun h H=>?_) (fun h H=>?_)
  ·refine go ?_;refine Yg E0 [.v,.v,.v,.v,.v,.v,.v,.v,.v,.v,.v,.v,.v,.v,.v,.v] (by kernel_rfl) ?_;obtain ⟨x109,f1,H⟩:=bil (g:=KZ) Fm.X6 H;obtain ⟨x114,f2,H⟩:=bil (g:=KZ) Fm.X6 H;refine go2 ?_;refine bp H (C0 x109 x114) fun x116 h H=>cv h ?_;refine go ?_;refine cdb H (fun h H=>?_) (fun h H=>?_)
   ·refine go ?_;exact wq (hR _ (pur H).symm _ (rt _))
   ·refine go ?_;refine apd (g:=(cL K2)) hF 0 H (rdo (c:=true) (g:=(cL K2)) (fun _=>rfl)) fun x125 H v14 s15 hF=>?_;refine go ?_;exact L0 a1 a3 Wf Vj WZ x125 (i64.wrap (L5+1)) (i64.wrap (M1 - 1)) _ H _ rfl Q tt z1v0 hE hR _ _ v14 S hF
  ·refine go ?_;exact wq (hE _ _ (pur H).symm _ _ z2v1 S hF)
theorem B8:∀(a0:List Bnd) (a1:Fm) (a2:List Fm) (a3:Fm) r,VR a0 a1 a2 a3=some r->Vb K0 170 [sf K1 a0,.agg (KZ a1),sf KZ a2,.agg (KZ a3)] (.tup [sf K2 r.1,.bool r.2]):=fun a0 a1 a2 a3=>(Fo a0 a2).1 a1 a3
theorem Cw:∀(a0:List Bnd) (a1:List Rul) (a2:List Fm) (a3:Fm) (YJ:Int) out,Vl a0 a1 a2 a3 YJ=some out->∀c,Yh Tryz.f146 0=some c->∀(Q:QT) (tt:Sto) (b1:Nat),(∀(_u:Unit),out=Sum.inr ()->∀(T:TT) (ss:Sto),0+0=0->Fx tt ss [(b1,⟨34,5,[i6 a3.kind,.str a3.name,i6 a3.num,sf cI a3.sc,sf KZ a3.kids]⟩)] []->Q (.ex 0) ⟨T,ss⟩)->(∀r,out=Sum.inl r->∀s',IP K0 [.tmp 8,.tmp 9] (fun r' ss'=>r'=.tup [i6 r.1,.bool r.2]/\ss'=tt) s'->Q .ret s')->∀(T:TT) (ss:Sto),T 0=sf K1 a0/\T 1=sf K5 a1/\T 2=sf KZ a2/\T 7=.ptr b1 0/\T 10=i6 YJ->Fx tt ss [(b1,⟨34,5,[i6 a3.kind,.str a3.name,i6 a3.num,sf cI a3.sc,sf KZ a3.kids]⟩)] []->aLp K0 c Q ⟨T,ss⟩:=by
 intro a0 a1 a2 a3 YJ;revert YJ;refine Vl.partial_correctness a0 a1 a2 a3 _ ?_;intro Vl IH YJ out H c hc Q tt b1 hE hR T ss tT hF;refine lpx tt hc rfl fun q hX=>go ?_;refine cdp H (fun h H=>?_) (fun h H=>?_)
 ·refine go ?_;refine Yg E0 [.v,.v,.v,.v,.v,.v,.v,.v,.v,.v,.v,.v,.v,.v] (by kernel_rfl) ?_;obtain ⟨x37,f1,H⟩:=bil (g:=K5) Rul.X6 H;refine go1 ?_;refine bp H (B8 a0 x37.pat a2 a3) fun x42 h H=>cv h ?_;refine go ?_;refine cdb H (fun h H=>?_) (fun h H=>?_)
  ·refine go ?_;exact wq (hR _ (pur H).symm _ (rt _))
  ·refine go ?_;exact IH  (i64.wrap (YJ+1)) _ H _ rfl Q tt b1 hE hR _ _  S hF
 ·refine go ?_;exact wq (hE () (pur H).symm _ _  S hF)
theorem Hk:∀(a0:List Bnd) (a1:List Rul) (a2:List Fm) (a3:Fm) r,W7 a0 a1 a2 a3=some r->Vb K0 146 [sf K1 a0,sf K5 a1,sf KZ a2,.agg (KZ a3)] (.tup [i6 r.1,.bool r.2]):=by
 intro a0 a1 a2 a3 r H;intro ss;unfold W7 at H;refine hdh mixed Tryz.func146 (rs:=[.tmp 8,.tmp 9]) fun q tT hF hX=>?_;refine go ?_;refine X9 hF rfl fun b1 ss2 hF=>?_;refine go ?_;refine bp H (Ic a0) fun x14 h H=>cl h ?_;refine go ?_;obtain ⟨x21,g3,H⟩:=bnd H;refine Yc 4 17 21 (.bool x21) (giN q (fun q=>?_) (fun q=>?_)) (fun J=>?_)
 ·rw [if_neg (dbf q)] at g3;refine go ?_;obtain ⟨x19,hx19,g3⟩:=bnd g3;refine cl (Ca a1 a2 _ hx19) ?_;refine go ?_;exact Yt 17 g3
 ·rw [if_pos (dbt q)] at g3;refine go ?_;exact Yt 17 g3
 refine go ?_;obtain ⟨x26,g5,H⟩:=bnd H;refine Yc 3 23 26 (.bool x26) (giN q (fun q=>?_) (fun q=>?_)) (fun J=>?_)
 ·rw [if_neg (dbf q)] at g5;refine go ?_;obtain ⟨x24,hx24,g5⟩:=bnd g5;refine cl (Yv a3 _ hx24) ?_;refine go ?_;exact Yt 23 g5
 ·rw [if_pos (dbt q)] at g5;refine go ?_;exact Yt 23 g5
 refine go ?_;refine cdb H (fun h H=>?_) (fun h H=>?_)
 ·refine go ?_;have e:=pur H;subst e;exact rt _
 ·refine go ?_;obtain ⟨o7,ho7,H⟩:=bnd H;refine Cw a0 a1 a2 a3 0 _ ho7 _ rfl _ _ b1 ?_ ?_ _ _  S hF
  ·intro _ he T9 s10 tT hF;have he:=he.symm;subst he
   try dsimp only at H
   refine go ?_;have e:=pur H;subst e;exact rt _
  ·intro r hr s' hs;subst hr;have e:=pur H;subst e;exact hsq hs
theorem Dc:(∀(a0:Fm) r,VA a0=some r->Vb K0 202 [.agg (KZ a0)] (.agg (KZ r)))/\(∀(a0:List Fm) r,Gn a0=some r->Vb K0 210 [sf KZ a0] (sf KZ r)):=by
 have h:=VA.mutual_partial_correctness  (motive_1:=fun a0 r=>Vb K0 202 [.agg (KZ a0)] (.agg (KZ r))) (motive_2:=fun a0 r=>Vb K0 210 [sf KZ a0] (sf KZ r)) (motive_3:=fun a0 X8 YC out=>∀c,Yh Tryz.f210 0=some c->∀(Q:QT) (tt:Sto),(∀(YO:List Fm),out=YO->∀(T:TT) (ss:Sto) (e0v0:AV),T 3=e0v0->Fx tt ss [] [⟨e0v0,34,5,rws KZ YO⟩]->Q (.ex 0) ⟨T,ss⟩)->True->∀(T:TT) (ss:Sto) (z0v0:AV),T 3=z0v0/\T 7=sf KZ a0/\T 8=i6 (a0.length:Int)/\T 9=i6 YC->Fx tt ss [] [⟨z0v0,34,5,rws KZ X8⟩]->aLp K0 c Q ⟨T,ss⟩) ?s0 ?s1 ?s2
 ·exact ⟨h.1,h.2.1⟩
 ·intro Gn C1 a0 r H;intro ss;refine hdh mixed Tryz.func202 (rs:=[.cell 2 34]) fun q tT hF hX=>?_;refine go ?_;refine X9 hF rfl fun b1 ss2 hF=>?_;refine go ?_;refine X9 hF rfl fun b3 ss4 hF=>?_;refine go ?_;refine apv (g:=cI) H (fun _=>rfl) (rdo (c:=false) (g:=cI) (fun _=>rfl)) fun x6 H=>?_;refine go ?_;refine st hF 1 rfl fun ss5 hF=>?_;refine go ?_;refine bp H (C1 a0.kids) fun x10 h H=>cl h ?_;refine go ?_;refine st hF 1 rfl fun ss6 hF=>?_;refine go ?_;refine st hF 0 rfl fun s7 hF=>?_;refine go ?_;have e:=pur H;subst e;exact rt _
 ·intro YX L0 a0 r H;intro ss;refine hdh mixed Tryz.func210 (rs:=[.tmp 2]) fun q tT hF hX=>?_;have hF:=hF.lit 34 5 (rws KZ []) rfl;refine go ?_;obtain ⟨o6,ho6,H⟩:=bnd H;refine L0 a0 [] 0 _ ho6 _ rfl _ _  ?_ ?_ _ _ (.sl true (rws KZ [])) S hF
  ·intro U9 he T8 s9 e7v0 tT hF;have he:=he.symm;subst he;refine go ?_;have e:=pur H;subst e;exact rt _
  ·trivial
 ·intro VA YX C0 L0 a0 X8 YC out H c hc Q tt  hE hR T ss z0v0 tT hF;refine lpx tt hc rfl fun q hX=>go ?_;refine cdp H (fun h H=>?_) (fun h H=>?_)
  ·obtain ⟨x11,f1,H⟩:=bil (g:=KZ) Fm.X6 H;refine go1 ?_;refine X9 hF rfl fun b1 ss2 hF=>?_;refine go ?_;refine st hF 0 rfl fun ss3 hF=>?_;refine go ?_;refine bp H (C0 x11) fun x15 h H=>cl h ?_;refine go ?_;refine apd (g:=KZ) hF 0 H (rdo (c:=true) (g:=KZ) Fm.X6) fun x17 H v4 ss5 hF=>?_;refine go ?_;exact L0 a0 x17 (i64.wrap (YC+1)) _ H _ rfl Q tt  hE hR _ _ v4 S (hF.drop 1 0)
  ·refine go ?_;exact wq (hE _ (pur H).symm _ _ z0v0 S hF)
theorem AD:∀(a0:Fm) r,VA a0=some r->Vb K0 202 [.agg (KZ a0)] (.agg (KZ r)):=Dc.1
theorem DG:∀(a0:Rul) r,G4 a0=some r->Vb K0 193 [.agg (K5 a0)] (.agg (K5 r)):=by
 intro a0 r H;intro ss;unfold G4 at H;refine hdh mixed Tryz.func193 (rs:=[.cell 2 87]) fun q tT hF hX=>?_;refine go ?_;refine X9 hF rfl fun b1 ss2 hF=>?_;refine go ?_;refine X9 hF rfl fun b3 ss4 hF=>?_;refine go ?_;refine bp H (AD a0.pat) fun x5 h H=>cl h ?_;refine go ?_;refine st hF 1 rfl fun ss5 hF=>?_;refine go ?_;refine bp H (AD a0.tpl) fun x9 h H=>cl h ?_;refine go ?_;refine st hF 1 rfl fun ss6 hF=>?_;refine go ?_;refine st hF 0 rfl fun s7 hF=>?_;refine go ?_;have e:=pur H;subst e;exact rt _
theorem AU:∀(a0 X8:List Rul) (YC:Int) out,YQ a0 X8 YC=some out->∀c,Yh Tryz.f181 0=some c->∀(Q:QT) (tt:Sto),(∀(YO:List Rul),out=YO->∀(T:TT) (ss:Sto) (e0v0:AV),T 3=e0v0->Fx tt ss [] [⟨e0v0,87,10,rws K5 YO⟩]->Q (.ex 0) ⟨T,ss⟩)->True->∀(T:TT) (ss:Sto) (z0v0:AV),T 3=z0v0/\T 7=sf K5 a0/\T 8=i6 (a0.length:Int)/\T 9=i6 YC->Fx tt ss [] [⟨z0v0,87,10,rws K5 X8⟩]->aLp K0 c Q ⟨T,ss⟩:=by
 intro a0 X8 YC;revert X8 YC;refine YQ.partial_correctness a0 _ ?_;intro YQ IH X8 YC out H c hc Q tt  hE hR T ss z0v0 tT hF;refine lpx tt hc rfl fun q hX=>go ?_;refine cdp H (fun h H=>?_) (fun h H=>?_)
 ·obtain ⟨x11,f1,H⟩:=bil (g:=K5) Rul.X6 H;refine go1 ?_;refine X9 hF rfl fun b1 ss2 hF=>?_;refine go ?_;refine st hF 0 rfl fun ss3 hF=>?_;refine go ?_;refine bp H (DG x11) fun x15 h H=>cl h ?_;refine go ?_;refine apd (g:=K5) hF 0 H (rdo (c:=true) (g:=K5) Rul.X6) fun x17 H v4 ss5 hF=>?_;refine go ?_;exact IH  x17 (i64.wrap (YC+1)) _ H _ rfl Q tt  hE hR _ _ v4 S (hF.drop 1 0)
 ·refine go ?_;exact wq (hE _ (pur H).symm _ _ z0v0 S hF)
theorem BI:∀(a0:List Rul) r,Jv a0=some r->Vb K0 181 [sf K5 a0] (sf K5 r):=by
 intro a0 r H;intro ss;unfold Jv at H;refine hdh mixed Tryz.func181 (rs:=[.tmp 2]) fun q tT hF hX=>?_;have hF:=hF.lit 87 10 (rws K5 []) rfl;refine go ?_;obtain ⟨o6,ho6,H⟩:=bnd H;refine AU a0 [] 0 _ ho6 _ rfl _ _  ?_ ?_ _ _ (.sl true (rws K5 [])) S hF
 ·intro U9 he T8 s9 e7v0 tT hF;have he:=he.symm;subst he;refine go ?_;have e:=pur H;subst e;exact rt _
 ·trivial
theorem CK:∀(a0 a1:Fm) r,Jz a0 a1=some r->Vb K0 203 [.agg (KZ a0),.agg (KZ a1)] (.bool r):=by
 intro a0 a1;revert a0;refine Jz.partial_correctness a1 (motive_1:=fun a0 r=>Vb K0 203 [.agg (KZ a0),.agg (KZ a1)] (.bool r)) (motive_2:=fun a0 Yi out=>∀c,Yh Tryz.f203 0=some c->∀(Q:QT) (tt:Sto) (b1 b3:Nat),(∀(_u:Unit),out=Sum.inr ()->∀(T:TT) (ss:Sto),0+0=0->Fx tt ss [(b3,⟨34,5,[i6 a1.kind,.str a1.name,i6 a1.num,sf cI a1.sc,sf KZ a1.kids]⟩),(b1,⟨34,5,[i6 a0.kind,.str a0.name,i6 a0.num,sf cI a0.sc,sf KZ a0.kids]⟩)] []->Q (.ex 0) ⟨T,ss⟩)->(∀r,out=Sum.inl r->∀s',IP K0 [.tmp 4] (fun r' ss'=>r'=.bool r/\ss'=tt) s'->Q .ret s')->∀(T:TT) (ss:Sto),T 2=.ptr b1 0/\T 3=.ptr b3 0/\T 5=i6 Yi->Fx tt ss [(b3,⟨34,5,[i6 a1.kind,.str a1.name,i6 a1.num,sf cI a1.sc,sf KZ a1.kids]⟩),(b1,⟨34,5,[i6 a0.kind,.str a0.name,i6 a0.num,sf cI a0.sc,sf KZ a0.kids]⟩)] []->aLp K0 c Q ⟨T,ss⟩) ?_ ?_
 ·intro Wz L0 a0 r H;intro ss;refine hdh mixed Tryz.func203 (rs:=[.tmp 4]) fun q tT hF hX=>?_;refine go ?_;refine X9 hF rfl fun b1 ss2 hF=>?_;refine go ?_;refine X9 hF rfl fun b3 ss4 hF=>?_;refine go ?_;obtain ⟨x13,g5,H⟩:=bnd H;refine Yc 3 10 13 (.bool x13) (gi q (fun q=>?_) (fun q=>?_)) (fun J=>?_)
  ·rw [if_pos (dt q)] at g5;refine go ?_;obtain ⟨x12,hx12,g5⟩:=bnd g5;refine cl (JD a0 a1 _ hx12) ?_;refine go ?_;exact Yt 10 g5
  ·rw [if_neg (df q)] at g5;refine go ?_;exact Yt 10 g5
  refine go ?_;refine cdb H (fun h H=>?_) (fun h H=>?_)
  ·refine go ?_;have e:=pur H;subst e;exact rt _
  ·refine go ?_;obtain ⟨o7,ho7,H⟩:=bnd H;refine L0 a0 0 _ ho7 _ rfl _ _ b1 b3 ?_ ?_ _ _  S hF
   ·intro _ he T9 s10 tT hF;have he:=he.symm;subst he
    try dsimp only at H
    refine go ?_;have e:=pur H;subst e;exact rt _
   ·intro r hr s' hs;subst hr;have e:=pur H;subst e;exact hsq hs
 ·intro Jz Wz C0 L0 a0 Yi out H c hc Q tt b1 b3 hE hR T ss tT hF;refine lpx tt hc rfl fun q hX=>go ?_;refine cdp H (fun h H=>?_) (fun h H=>?_)
  ·refine go ?_;refine Yg E0 [.v,.v,.v,.v,.v,.v,.v] (by kernel_rfl) ?_;obtain ⟨x24,f1,H⟩:=bil (g:=KZ) Fm.X6 H;refine go1 ?_;refine bp H (C0 x24) fun x27 h H=>cv h ?_;refine go ?_;refine cdb H (fun h H=>?_) (fun h H=>?_)
   ·refine go ?_;exact wq (hR _ (pur H).symm _ (rt _))
   ·refine go ?_;exact L0 a0 (i64.wrap (Yi+1)) _ H _ rfl Q tt b1 b3 hE hR _ _  S hF
  ·refine go ?_;exact wq (hE () (pur H).symm _ _  S hF)
theorem DI:∀(a0:Fm) (a1:List Hit) (Yi Yy:Int) out,VE a0 a1 Yi Yy=some out->∀c,Yh Tryz.f196 0=some c->∀(Q:QT) (tt:Sto) (b1:Nat),(∀(Oo:Int),out=Sum.inr Oo->∀(T:TT) (ss:Sto),T 5=i6 Oo->Fx tt ss [(b1,⟨34,5,[i6 a0.kind,.str a0.name,i6 a0.num,sf cI a0.sc,sf KZ a0.kids]⟩)] []->Q (.ex 0) ⟨T,ss⟩)->(∀r,out=Sum.inl r->∀s',IP K0 [.tmp 4] (fun r' ss'=>r'=i6 r/\ss'=tt) s'->Q .ret s')->∀(T:TT) (ss:Sto),T 1=sf K2 a1/\T 2=.ptr b1 0/\T 5=i6 Yi/\T 6=i6 Yy->Fx tt ss [(b1,⟨34,5,[i6 a0.kind,.str a0.name,i6 a0.num,sf cI a0.sc,sf KZ a0.kids]⟩)] []->aLp K0 c Q ⟨T,ss⟩:=by
 intro a0 a1 Yi Yy;revert Yi Yy;refine VE.partial_correctness a0 a1 _ ?_;intro VE IH Yi Yy out H c hc Q tt b1 hE hR T ss tT hF;refine lpx tt hc rfl fun q hX=>go ?_;refine cdp H (fun h H=>?_) (fun h H=>?_)
 ·refine go ?_;refine Yg E0 [.v,.v,.v,.v,.v,.v,.v,.v,.v,.v,.v,.v,.v,.v,.v,.v] (by kernel_rfl) ?_;obtain ⟨x15,f1,H⟩:=bil (g:=K2) Hit.X6 H;refine go1 ?_;obtain ⟨x28,g3,H⟩:=bnd H;refine W6 8 20 28 (.bool x28) (tiN q (fun q=>?_) (fun q=>?_)) (fun J=>?_)
  ·rw [if_neg (df q)] at g3;obtain ⟨x23,f1,g3⟩:=bil (g:=K2) Hit.X6 g3;refine go1 ?_;obtain ⟨x26,hx26,g3⟩:=bnd g3;refine cv (CK a0 x23.name _ hx26) ?_;refine go ?_;exact Yt 20 g3
  ·rw [if_pos (dt q)] at g3;refine go ?_;exact Yt 20 g3
  refine go ?_;refine cdb H (fun h H=>?_) (fun h H=>?_)
  ·refine go ?_;exact IH  Yi (i64.wrap (Yy+1)) _ H _ rfl Q tt b1 hE hR _ _  S hF
  ·refine go ?_;obtain ⟨x40,g5,H⟩:=bnd H;refine Yc 8 32 40 (.bool x40) (gi q (fun q=>?_) (fun q=>?_)) (fun J=>?_)
   ·rw [if_pos (dt q)] at g5;obtain ⟨x35,f1,g5⟩:=bil (g:=K2) Hit.X6 g5;refine go1 ?_;refine go ?_;exact Yt 32 g5
   ·rw [if_neg (df q)] at g5;refine go ?_;exact Yt 32 g5
   refine go ?_;refine cdb H (fun h H=>?_) (fun h H=>?_)
   ·refine go ?_;exact wq (hR _ (pur H).symm _ (rt _))
   ·obtain ⟨x43,f1,H⟩:=bil (g:=K2) Hit.X6 H;refine go1 ?_;refine go ?_;exact IH  (x43.many.length:Int) (i64.wrap (Yy+1)) _ H _ rfl Q tt b1 hE hR _ _  S hF
 ·refine go ?_;exact wq (hE _ (pur H).symm _ _  S hF)
theorem Ly:∀(a0:Fm) (a1:List Hit) r,HY a0 a1=some r->Vb K0 196 [.agg (KZ a0),sf K2 a1] (i6 r):=by
 intro a0 a1 r H;intro ss;unfold HY at H;refine hdh mixed Tryz.func196 (rs:=[.tmp 4]) fun q tT hF hX=>?_;refine go ?_;refine X9 hF rfl fun b1 ss2 hF=>?_;refine go ?_;obtain ⟨o7,ho7,H⟩:=bnd H;refine DI a0 a1 (-1) 0 _ ho7 _ rfl _ _ b1 ?_ ?_ _ _  S hF
 ·intro Qgi he T9 s10 tT hF;have he:=he.symm;subst he
  try dsimp only at H
  refine go ?_;have e:=pur H;subst e;exact rt _
 ·intro r hr s' hs;subst hr;have e:=pur H;subst e;exact hsq hs
theorem Fu:∀(a0:Fm) (a1:List Hit) (a2:Int) (X8:List Hit) (YI:Int) out,W4 a0 a1 a2 X8 YI=some out->∀c,Yh Tryz.f197 0=some c->∀(Q:QT) (tt:Sto) (b1:Nat),(∀(YO:List Hit),out=YO->∀(T:TT) (ss:Sto) (e0v0:AV),T 7=e0v0->Fx tt ss [(b1,⟨34,5,[i6 a0.kind,.str a0.name,i6 a0.num,sf cI a0.sc,sf KZ a0.kids]⟩)] [⟨e0v0,217,12,rws K2 YO⟩]->Q (.ex 0) ⟨T,ss⟩)->True->∀(T:TT) (ss:Sto) (z0v0:AV),T 1=sf K2 a1/\T 2=i6 a2/\T 3=.ptr b1 0/\T 7=z0v0/\T 8=i6 YI->Fx tt ss [(b1,⟨34,5,[i6 a0.kind,.str a0.name,i6 a0.num,sf cI a0.sc,sf KZ a0.kids]⟩)] [⟨z0v0,217,12,rws K2 X8⟩]->aLp K0 c Q ⟨T,ss⟩:=by
 intro a0 a1 a2 X8 YI;revert X8 YI;refine W4.partial_correctness a0 a1 a2 _ ?_;intro W4 IH X8 YI out H c hc Q tt b1 hE hR T ss z0v0 tT hF;refine lpx tt hc rfl fun q hX=>go ?_;refine cdp H (fun h H=>?_) (fun h H=>?_)
 ·obtain ⟨x19,f1,H⟩:=bil (g:=K2) Hit.X6 H;refine go1 ?_;refine X9 hF rfl fun b3 ss4 hF=>?_;refine go ?_;refine st hF 0 rfl fun ss5 hF=>?_;refine go ?_;obtain ⟨x29,g6,H⟩:=bnd H;refine Yc 4 25 29 (.bool x29) (gi q (fun q=>?_) (fun q=>?_)) (fun J=>?_)
  ·rw [if_pos (dt q)] at g6;refine go ?_;obtain ⟨x28,hx28,g6⟩:=bnd g6;refine cl (CK a0 x19.name _ hx28) ?_;refine go ?_;exact Yt 25 g6
  ·rw [if_neg (df q)] at g6;refine go ?_;exact Yt 25 g6
  refine go ?_;obtain ⟨⟨LQ,LR,DU,DV,LS,LU,LV,LW,LX,LY,LZ,L2⟩,j9,H⟩:=bnd H;refine Vy (fun s'=>∃(T:TT) (ss1:Sto),s'=⟨T,ss1⟩/\(T 1=sf K2 a1/\T 2=i6 a2/\T 3=.ptr b1 0/\T 7=z0v0/\T 8=i6 YI/\T 9=.ptr b3 0)/\Fx tt ss1 [(b3,⟨217,12,[i6 LQ,.str LR,i6 LS,sf cI LU,sf KZ LV,i6 LW,i6 LX,.str LY,i6 LZ,sf cI L2,sf KZ DU,sf K2 DV]⟩),(b1,⟨34,5,[i6 a0.kind,.str a0.name,i6 a0.num,sf cI a0.sc,sf KZ a0.kids]⟩)] [⟨z0v0,217,12,rws K2 X8⟩]) (cdb j9 (fun h j9=>?_) (fun h j9=>?_)) ?_
  ·obtain ⟨x33,f1,j9⟩:=bil (g:=K2) Hit.X6 j9;refine go1 ?_;refine st hF 0 rfl fun s10 hF=>?_;refine go ?_;have e:=pur j9
   injection e with e0 e
   injection e with e1 e
   injection e with e2 e
   injection e with e3 e
   injection e with e4 e
   injection e with e5 e
   injection e with e6 e
   injection e with e7 e
   injection e with e8 e
   injection e with e9 e
   injection e with e10 e
   subst e0;subst e1;subst e2;subst e3;subst e4;subst e5;subst e6;subst e7;subst e8;subst e9;subst e10;subst e;exact ⟨_,_,rfl,S,hF⟩
  ·refine go ?_;have e:=pur j9
   injection e with e0 e
   injection e with e1 e
   injection e with e2 e
   injection e with e3 e
   injection e with e4 e
   injection e with e5 e
   injection e with e6 e
   injection e with e7 e
   injection e with e8 e
   injection e with e9 e
   injection e with e10 e
   subst e0;subst e1;subst e2;subst e3;subst e4;subst e5;subst e6;subst e7;subst e8;subst e9;subst e10;subst e;exact ⟨_,_,rfl,S,hF⟩
  ·rintro s' ⟨T11,s12,rfl,tT,hF⟩;refine go ?_;refine apd (g:=K2) hF 0 H (rdo (c:=true) (g:=K2) Hit.X6) fun x38 H v14 s15 hF=>?_;refine go ?_;exact IH  x38 (i64.wrap (YI+1)) _ H _ rfl Q tt b1 hE hR _ _ v14 S (hF.drop 1 0)
 ·refine go ?_;exact wq (hE _ (pur H).symm _ _ z0v0 S hF)
theorem NN:∀(a0:Fm) (a1:List Hit) (a2:Int) r,I4 a0 a1 a2=some r->Vb K0 197 [.agg (KZ a0),sf K2 a1,i6 a2] (sf K2 r):=by
 intro a0 a1 a2 r H;intro ss;unfold I4 at H;refine hdh mixed Tryz.func197 (rs:=[.tmp 6]) fun q tT hF hX=>?_;refine go ?_;refine X9 hF rfl fun b1 ss2 hF=>?_;have hF:=hF.lit 217 12 (rws K2 []) rfl;refine go ?_;obtain ⟨o16,ho16,H⟩:=bnd H;refine Fu a0 a1 a2 [] 0 _ ho16 _ rfl _ _ b1 ?_ ?_ _ _ (.sl true (rws K2 [])) S hF
 ·intro Qe5 he T18 s19 e17v0 tT hF;have he:=he.symm;subst he;refine go ?_;have e:=pur H;subst e;exact rt _
 ·trivial
theorem Mv:∀(a0:Fm) (a1:List Hit) r,HR a0 a1=some r->Vb K0 182 [.agg (KZ a0),sf K2 a1] (.tup [.agg (KZ r.1),.bool r.2]):=by
 refine HR.partial_correctness _ (motive_2:=fun a0 a1 x45 X8 YI YC out=>∀c,Yh Tryz.f182 0=some c->∀(Q:QT) (tt:Sto) (b1 b3 b12:Nat),(∀(YO:List Fm),out=Sum.inr YO->∀(T:TT) (ss:Sto) (e0v0:AV),T 4=.ptr b3 0/\T 7=.ptr b12 0->Fx tt ss [(b12,⟨34,5,[i6 a0.kind,.str a0.name,i6 a0.num,sf cI x45,e0v0]⟩),(b3,⟨34,5,[i6 0,.str zB,i6 0,.Yb,.Yb]⟩),(b1,⟨34,5,[i6 a0.kind,.str a0.name,i6 a0.num,sf cI a0.sc,sf KZ a0.kids]⟩)] [⟨e0v0,34,5,rws KZ YO⟩]->Q (.ex 0) ⟨T,ss⟩)->(∀r,out=Sum.inl r->∀s',IP K0 [.cell 4 34,.tmp 5] (fun r' ss'=>r'=.tup [.agg (KZ r.1),.bool r.2]/\ss'=tt) s'->Q .ret s')->∀(T:TT) (ss:Sto) (z0v0:AV),T 1=sf K2 a1/\T 2=.ptr b1 0/\T 4=.ptr b3 0/\T 7=.ptr b12 0/\T 8=i6 YI/\T 9=i6 YC->Fx tt ss [(b12,⟨34,5,[i6 a0.kind,.str a0.name,i6 a0.num,sf cI x45,z0v0]⟩),(b3,⟨34,5,[i6 0,.str zB,i6 0,.Yb,.Yb]⟩),(b1,⟨34,5,[i6 a0.kind,.str a0.name,i6 a0.num,sf cI a0.sc,sf KZ a0.kids]⟩)] [⟨z0v0,34,5,rws KZ X8⟩]->aLp K0 c Q ⟨T,ss⟩) (motive_3:=fun a0 a1 x45 YC x74 Hv Vj GL V9 out=>∀c,Yh Tryz.f182 1=some c->∀(Q:QT) (tt:Sto) (b1 b3 b12:Nat),(∀(La:List Fm) (U7:Int),out=Sum.inr (La,U7)->∀(T:TT) (ss:Sto) (e1v0:AV),T 1=sf K2 a1/\T 2=.ptr b1 0/\T 4=.ptr b3 0/\T 7=.ptr b12 0/\T 8=i6 U7/\T 9=i6 YC->Fx tt ss [(b12,⟨34,5,[i6 a0.kind,.str a0.name,i6 a0.num,sf cI x45,e1v0]⟩),(b3,⟨34,5,[i6 0,.str zB,i6 0,.Yb,.Yb]⟩),(b1,⟨34,5,[i6 a0.kind,.str a0.name,i6 a0.num,sf cI a0.sc,sf KZ a0.kids]⟩)] [⟨e1v0,34,5,rws KZ La⟩]->Q (.ex 2) ⟨T,ss⟩)->(∀r,out=Sum.inl r->∀s',IP K0 [.cell 4 34,.tmp 5] (fun r' ss'=>r'=.tup [.agg (KZ r.1),.bool r.2]/\ss'=tt) s'->Q .ret s')->∀(T:TT) (ss:Sto) (z1v0:AV),T 1=sf K2 a1/\T 2=.ptr b1 0/\T 4=.ptr b3 0/\T 7=.ptr b12 0/\T 8=i6 V9/\T 9=i6 YC/\T 10=i6 Hv/\T 11=.bool x74/\T 12=i6 GL->Fx tt ss [(b12,⟨34,5,[i6 a0.kind,.str a0.name,i6 a0.num,sf cI x45,z1v0]⟩),(b3,⟨34,5,[i6 0,.str zB,i6 0,.Yb,.Yb]⟩),(b1,⟨34,5,[i6 a0.kind,.str a0.name,i6 a0.num,sf cI a0.sc,sf KZ a0.kids]⟩)] [⟨z1v0,34,5,rws KZ Vj⟩]->aLp K0 c Q ⟨T,ss⟩) ?_ ?_ ?_
 ·intro VY L1 a0 a1 r H;intro ss;refine hdh mixed Tryz.func182 (rs:=[.cell 4 34,.tmp 5]) fun q tT hF hX=>?_;refine go ?_;refine X9 hF rfl fun b1 ss2 hF=>?_;refine go ?_;refine X9 hF rfl fun b3 ss4 hF=>?_;refine go ?_;obtain ⟨Qbn,j6,H⟩:=bnd H;refine Vy (fun s'=>∃(T:TT) (ss1:Sto),s'=⟨T,ss1⟩/\(T 1=sf K2 a1/\T 2=.ptr b1 0/\T 4=.ptr b3 0/\T 6=i6 Qbn)/\Fx ss ss1 [(b3,⟨34,5,[i6 0,.str zB,i6 0,.Yb,.Yb]⟩),(b1,⟨34,5,[i6 a0.kind,.str a0.name,i6 a0.num,sf cI a0.sc,sf KZ a0.kids]⟩)] []) (cdp j6 (fun h j6=>?_) (fun h j6=>?_)) ?_
  ·refine go ?_;obtain ⟨x21,hx21,j6⟩:=bnd j6;refine cl (CJ a1 a0 _ hx21) ?_;refine go ?_;have e:=pur j6;subst e;exact ⟨_,_,rfl,S,hF⟩
  ·refine go ?_;have e:=pur j6;subst e;exact ⟨_,_,rfl,S,hF⟩
  ·rintro s' ⟨T7,s8,rfl,tT,hF⟩;refine go ?_;refine cdp H (fun h H=>?_) (fun h H=>?_)
   ·refine go ?_;obtain ⟨E,hEq⟩:∃E,E=EE s8 [b3]:=⟨_,rfl⟩
    have n10:¬E b1:=by rw [hEq];exact K6 (hF.at 1 rfl) (nm1 (neL hF 1 0 rfl rfl (by decide)))
    refine Yg E [.v,.v,.v,.v,.v,.v,.v,.v,.v,.v,.v,.v,.x,.v] (by kernel_rfl) ?_;obtain ⟨x26,f1,H⟩:=bil (g:=K2) Hit.X6 H;have z:=X5 (hF.at 1 rfl) n10;refine gh1 ?_;refine bp H (Ja x26.one) fun x29 h H=>cv h ?_;obtain ⟨x32,f1,H⟩:=bil (g:=K2) Hit.X6 H;have z:=X5 (hF.at 1 rfl) n10;refine gh1 ?_;refine stK hF 0 (by rw [hEq];exact Zf (by simp)) rfl fun s11 hF=>?_;have z:=X5 (hF.at 1 rfl) n10;refine gh ?_;refine go ?_;have e:=pur H;subst e;exact rt [.agg [i6 x29.kind,.str x29.name,i6 x29.num,sf cI x29.sc,sf KZ x29.kids],.bool (decide (x32.depth=0))]
   ·refine go ?_;refine Yg E0 [.v,.v,.v,.v,.v,.v,.v,.v,.v,.v,.v,.x,.z] (by kernel_rfl) ?_;refine go ?_;obtain ⟨x45,hx45,H⟩:=bnd H;refine MZ (g:=cI) (xs:=[]) (ys:=a0.sc) (fun _=>rfl) (by decide) (by decide) (.inr (by first | rfl | simp only [Y2,VJ,cI,cU,cS,cL])) (.inr ⟨_,by first | rfl | simp only [Y2,VJ,cI,cU,cS,cL]⟩) hx45 ?_;refine go ?_;refine WY hF rfl fun b12 s13 hF=>?_;refine go ?_;refine st hF 0 rfl fun s14 hF=>?_;have hF:=hF.nil 34 5;refine go ?_;obtain ⟨o42,ho42,H⟩:=bnd H;refine L1 a0 a1 x45 [] 0 0 _ ho42 _ rfl _ _ b1 b3 b12 ?_ ?_ _ _ .Yb S hF
    ·intro RL he T44 s45 e43v0 tT hF;have he:=he.symm;subst he
     try dsimp only at H
     refine go ?_;refine st hF 1 rfl fun s47 hF=>?_;refine go ?_;have e:=pur H;subst e;exact rt _
    ·intro r hr s' hs;subst hr;have e:=pur H;subst e;exact hsq hs
 ·intro VY VZ L1 L0 a0 a1 x45 X8 YI YC out H c hc Q tt b1 b3 b12 hE hR T ss z0v0 tT hF;refine lpx tt hc rfl fun q hX=>go ?_;refine cdp H (fun h H=>?_) (fun h H=>?_)
  ·obtain ⟨x57,f1,H⟩:=bil (g:=KZ) Fm.X6 H;refine go1 ?_;refine bp H (Va x57) fun x59 h H=>cl h ?_;refine go ?_;refine cdb H (fun h H=>?_) (fun h H=>?_)
   ·refine go ?_;exact L1 a0 a1 x45 X8 YI (i64.wrap (YC+1)) _ H _ rfl Q tt b1 b3 b12 hE hR _ _ z0v0 S hF
   ·refine go ?_;obtain ⟨x74,g15,H⟩:=bnd H;refine Yc 7 67 74 (.bool x74) (gi q (fun q=>?_) (fun q=>?_)) (fun J=>?_)
    ·rw [if_pos (dt q)] at g15;obtain ⟨x71,f1,g15⟩:=bil (g:=KZ) Fm.X6 g15;refine go1 ?_;obtain ⟨x73,hx73,g15⟩:=bnd g15;refine cl (Va x71 _ hx73) ?_;refine go ?_;exact Yt 67 g15
    ·rw [if_neg (df q)] at g15;refine go ?_;exact Yt 67 g15
    refine go ?_;obtain ⟨Hv,j18,H⟩:=bnd H;refine Vy (fun s'=>∃(T:TT) (ss1:Sto),s'=⟨T,ss1⟩/\(T 1=sf K2 a1/\T 2=.ptr b1 0/\T 4=.ptr b3 0/\T 7=.ptr b12 0/\T 8=i6 YI/\T 9=i6 YC/\T 10=i6 Hv/\T 11=.bool x74)/\Fx tt ss1 [(b12,⟨34,5,[i6 a0.kind,.str a0.name,i6 a0.num,sf cI x45,z0v0]⟩),(b3,⟨34,5,[i6 0,.str zB,i6 0,.Yb,.Yb]⟩),(b1,⟨34,5,[i6 a0.kind,.str a0.name,i6 a0.num,sf cI a0.sc,sf KZ a0.kids]⟩)] [⟨z0v0,34,5,rws KZ X8⟩]) (cdb j18 (fun h j18=>?_) (fun h j18=>?_)) ?_
    ·obtain ⟨x79,f1,j18⟩:=bil (g:=KZ) Fm.X6 j18;refine go1 ?_;obtain ⟨x82,hx82,j18⟩:=bnd j18;refine cl (Ly x79 a1 _ hx82) ?_;refine go ?_;have e:=pur j18;subst e;exact ⟨_,_,rfl,S,hF⟩
    ·refine go ?_;have e:=pur j18;subst e;exact ⟨_,_,rfl,S,hF⟩
    ·rintro s' ⟨T19,s20,rfl,tT,hF⟩;refine go ?_;refine cdp H (fun h H=>?_) (fun h H=>?_)
     ·refine go ?_;refine st hF 1 rfl fun s22 hF=>?_;refine go ?_;exact wq (hR _ (pur H).symm _ (rt _))
     ·refine go ?_;obtain ⟨o37,ho37,H⟩:=bnd H;refine L0 a0 a1 x45 YC x74 Hv X8 0 YI _ ho37 _ rfl _ _ b1 b3 b12 ?_ ?_ _ _ z0v0 S hF
      ·intro CD Lb he T39 s40 e38v0 tT hF;have he:=he.symm;subst he
       try dsimp only at H
       refine go ?_;exact L1 a0 a1 x45 CD Lb (i64.wrap (YC+1)) _ H _ rfl Q tt b1 b3 b12 hE hR _ _ e38v0 S hF
      ·intro r hr s' hs;subst hr;exact wq (hR _ (pur H).symm _ hs)
  ·refine go ?_;exact wq (hE _ (pur H).symm _ _ z0v0 S hF)
 ·intro HR VZ C0 L0 a0 a1 x45 YC x74 Hv Vj GL V9 out H c hc Q tt b1 b3 b12 hE hR T ss z1v0 tT hF;refine lpx tt hc rfl fun q hX=>go ?_;refine cdp H (fun h H=>?_) (fun h H=>?_)
  ·refine go ?_;obtain ⟨NT,j24,H⟩:=bnd H;refine Vy (fun s'=>∃(T:TT) (ss1:Sto),s'=⟨T,ss1⟩/\(T 1=sf K2 a1/\T 2=.ptr b1 0/\T 4=.ptr b3 0/\T 7=.ptr b12 0/\T 8=i6 V9/\T 9=i6 YC/\T 10=i6 Hv/\T 11=.bool x74/\T 12=i6 GL/\T 13=sf K2 NT)/\Fx tt ss1 [(b12,⟨34,5,[i6 a0.kind,.str a0.name,i6 a0.num,sf cI x45,z1v0]⟩),(b3,⟨34,5,[i6 0,.str zB,i6 0,.Yb,.Yb]⟩),(b1,⟨34,5,[i6 a0.kind,.str a0.name,i6 a0.num,sf cI a0.sc,sf KZ a0.kids]⟩)] [⟨z1v0,34,5,rws KZ Vj⟩]) (cdb j24 (fun h j24=>?_) (fun h j24=>?_)) ?_
   ·obtain ⟨x96,f1,j24⟩:=bil (g:=KZ) Fm.X6 j24;refine go1 ?_;obtain ⟨x100,hx100,j24⟩:=bnd j24;refine cl (NN x96 a1 GL _ hx100) ?_;refine go ?_;have e:=pur j24;subst e;exact ⟨_,_,rfl,S,hF⟩
   ·refine go ?_;have e:=pur j24;subst e;exact ⟨_,_,rfl,S,hF⟩
   ·rintro s' ⟨T25,s26,rfl,tT,hF⟩;obtain ⟨x105,f1,H⟩:=bil (g:=KZ) Fm.X6 H;refine go1 ?_;refine bp H (C0 x105 NT) fun x108 h H=>cl h ?_;refine go ?_;refine X9 hF rfl fun b28 s29 hF=>?_;refine go ?_;refine st hF 0 rfl fun s30 hF=>?_;refine go ?_;refine bp H (B5 x108.1) fun x113 h H=>cl h ?_;refine go ?_;obtain ⟨x120,g31,H⟩:=bnd H;refine Yc 2 118 120 (.bool x120) (giN q (fun q=>?_) (fun q=>?_)) (fun J=>?_)
    ·refine go ?_;exact Yt 118 g31
    ·refine go ?_;exact Yt 118 g31
    refine go ?_;refine cdb H (fun h H=>?_) (fun h H=>?_)
    ·refine go ?_;refine st hF 2 rfl fun s33 hF=>?_;refine go ?_;exact wq (hR _ (pur H).symm _ (rt _))
    ·refine go ?_;refine apd (g:=KZ) hF 0 H (rdo (c:=true) (g:=KZ) Fm.X6) fun x126 H v34 s35 hF=>?_;refine go ?_;refine st hF 1 (hF.cells 0 rfl) fun s36 hF=>?_;refine go ?_;exact L0 a0 a1 x45 YC x74 Hv x126 (i64.wrap (GL+1)) (i64.wrap (V9+x113)) _ H _ rfl Q tt b1 b3 b12 hE hR _ _ v34 S (hF.drop 1 0)
  ·refine go ?_;exact wq (hE _ _ (pur H).symm _ _ z1v0 S hF)
theorem DD:∀(a0:List Bnd) (a1:List Rul) (a2:List Fm) (a3:Fm) r,G0 a0 a1 a2 a3=some r->Vb K0 167 [sf K1 a0,sf K5 a1,sf KZ a2,.agg (KZ a3)] (.tup [.agg (KZ r.1),.bool r.2]):=by
 intro a0 a1 a2 a3 r H;intro ss;unfold G0 at H;refine hdh mixed Tryz.func167 (rs:=[.cell 8 34,.tmp 9]) fun q tT hF hX=>?_;refine go ?_;refine X9 hF rfl fun b1 ss2 hF=>?_;refine go ?_;refine X9 hF rfl fun b3 ss4 hF=>?_;refine go ?_;refine bp H (BI a1) fun x17 h H=>cl h ?_;refine go ?_;refine bp H (Hk a0 x17 a2 a3) fun x23 h H=>cl h ?_;refine go ?_;refine cdb H (fun h H=>?_) (fun h H=>?_)
 ·refine go ?_;refine st hF 0 rfl fun ss5 hF=>?_;refine go ?_;have e:=pur H;subst e;exact rt _
 ·refine go ?_;refine Yg E0 [.v,.v,.v,.v,.v,.v,.v,.v,.v,.v,.v,.v,.v,.v] (by kernel_rfl) ?_;obtain ⟨x33,f1,H⟩:=bil (g:=K5) Rul.X6 H;refine go1 ?_;refine bp H (B8 a0 x33.pat a2 a3) fun x38 h H=>cv h ?_;obtain ⟨x44,f1,H⟩:=bil (g:=K5) Rul.X6 H;refine go1 ?_;refine bp H (Mv x44.tpl x38.1) fun x48 h H=>cl h ?_;refine go ?_;refine X9 hF rfl fun b6 s7 hF=>?_;refine go ?_;refine st hF 0 rfl fun s8 hF=>?_;refine go ?_;obtain ⟨x57,g9,H⟩:=bnd H;refine Yc 3 54 57 (.bool x57) (giN q (fun q=>?_) (fun q=>?_)) (fun J=>?_)
  ·rw [if_neg (dbf q)] at g9;refine go ?_;obtain ⟨x55,hx55,g9⟩:=bnd g9;refine cl (Yv x48.1 _ hx55) ?_;refine go ?_;exact Yt 54 g9
  ·rw [if_pos (dbt q)] at g9;refine go ?_;exact Yt 54 g9
  refine go ?_;refine cdb H (fun h H=>?_) (fun h H=>?_)
  ·refine go ?_;refine st hF 1 rfl fun s11 hF=>?_;refine go ?_;have e:=pur H;subst e;exact rt _
  ·refine go ?_;refine st hF 1 rfl fun s12 hF=>?_;refine go ?_;have e:=pur H;subst e;exact rt _
theorem A0:∀(a0:Xpn) (a1:Fm) (a2 a3:Int) r,HT a0 a1 a2 a3=some r->Vb K0 145 [.agg (K8 a0),.agg (KZ a1),i6 a2,i6 a3] (.tup [.agg (K8 r.1),.agg (KZ r.2.1),i6 r.2.2]):=by
 intro a0 a1 a2 a3 r H;intro ss;unfold HT at H;refine hdh mixed Tryz.func145 (rs:=[.cell 8 30,.cell 9 34,.tmp 10]) fun q tT hF hX=>?_;refine go ?_;refine X9 hF rfl fun b1 ss2 hF=>?_;refine go ?_;refine X9 hF rfl fun b3 ss4 hF=>?_;refine go ?_;refine X9 hF rfl fun b5 ss6 hF=>?_;refine go ?_;refine X9 hF rfl fun b7 s8 hF=>?_;refine go ?_;refine cdp H (fun h H=>?_) (fun h H=>?_)
 ·refine go ?_;refine st hF 1 rfl fun s9 hF=>?_;refine go ?_;refine st hF 0 rfl fun s10 hF=>?_;refine go ?_;have e:=pur H;subst e;exact rt _
 ·refine go ?_;refine bp H (Am a0) fun x27 h H=>cl h ?_;refine go ?_;refine st hF 3 rfl fun s11 hF=>?_;refine go ?_;refine cdb H (fun h H=>?_) (fun h H=>?_)
  ·refine go ?_;refine st hF 1 rfl fun s12 hF=>?_;refine go ?_;refine st hF 0 rfl fun s13 hF=>?_;refine go ?_;have e:=pur H;subst e;exact rt _
  ·refine go ?_;refine st hF 3 rfl fun s14 hF=>?_;refine go ?_;refine Yg E0 [.v,.v,.v,.v,.v,.v,.v,.x,.z] (by kernel_rfl) ?_;refine go ?_;obtain ⟨x42,hx42,H⟩:=bnd H;refine cv (Ij (KV x27.1.binds x27.1.macs x27.1.scope x27.1.id (i64.wrap (x27.1.steps+1))) a2 _ hx42) ?_;obtain ⟨x43,f1,H⟩:=bil (g:=Ze) Mac.X6 H;refine go1 ?_;refine WY hF rfl fun b15 s16 hF=>?_;refine go ?_;refine st hF 0 rfl fun s17 hF=>?_;refine go ?_;refine bp H (YS a1 x27.1.scope 1) fun x48 h H=>cl h ?_;refine go ?_;refine X9 hF rfl fun b18 s19 hF=>?_;refine go ?_;refine st hF 0 rfl fun s20 hF=>?_;refine go ?_;refine bp H (Yv x48) fun x50 h H=>cl h ?_;refine go ?_;refine cdb H (fun h H=>?_) (fun h H=>?_)
   ·refine go ?_;refine st hF 3 rfl fun s21 hF=>?_;refine go ?_;refine st hF 2 rfl fun s22 hF=>?_;refine go ?_;have e:=pur H;subst e;exact rt _
   ·refine go ?_;refine bp H (Hk x27.1.binds x43.rules x43.lits x48) fun x62 h H=>cl h ?_;refine go ?_;refine cdb H (fun h H=>?_) (fun h H=>?_)
    ·refine go ?_;refine st hF 3 rfl fun s23 hF=>?_;refine go ?_;refine st hF 2 rfl fun s24 hF=>?_;refine go ?_;have e:=pur H;subst e;exact rt _
    ·refine go ?_;refine bp H (DD x27.1.binds x43.rules x43.lits x48) fun x77 h H=>cl h ?_;refine go ?_;refine X9 hF rfl fun b25 s26 hF=>?_;refine go ?_;refine st hF 0 rfl fun s27 hF=>?_;refine go ?_;refine cdb H (fun h H=>?_) (fun h H=>?_)
     ·refine go ?_;refine st hF 4 rfl fun s28 hF=>?_;refine go ?_;refine st hF 3 rfl fun s29 hF=>?_;refine go ?_;have e:=pur H;subst e;exact rt _
     ·refine go ?_;refine bp H (YS x77.1 x27.1.scope 1) fun x87 h H=>cl h ?_;refine go ?_;refine X9 hF rfl fun b30 s31 hF=>?_;refine go ?_;refine st hF 0 rfl fun s32 hF=>?_;refine go ?_;refine bp H (Yv x87) fun x89 h H=>cl h ?_;refine go ?_;refine cdb H (fun h H=>?_) (fun h H=>?_)
      ·refine go ?_;refine st hF 5 rfl fun s33 hF=>?_;refine go ?_;refine st hF 4 rfl fun s34 hF=>?_;refine go ?_;have e:=pur H;subst e;exact rt _
      ·refine go ?_;obtain ⟨E,hEq⟩:∃E,E=EE s32 [b5,b7]:=⟨_,rfl⟩
       have n35:¬E b30:=by rw [hEq];exact K6 (hF.at 0 rfl) (nm2 ⟨neL hF 0 5 rfl rfl (by decide),neL hF 0 4 rfl rfl (by decide)⟩)
       have n36:¬E b25:=by rw [hEq];exact K6 (hF.at 1 rfl) (nm2 ⟨neL hF 1 5 rfl rfl (by decide),neL hF 1 4 rfl rfl (by decide)⟩)
       have n37:¬E b18:=by rw [hEq];exact K6 (hF.at 2 rfl) (nm2 ⟨neL hF 2 5 rfl rfl (by decide),neL hF 2 4 rfl rfl (by decide)⟩)
       have n38:¬E b15:=by rw [hEq];exact K6 (hF.at 3 rfl) (nm2 ⟨neL hF 3 5 rfl rfl (by decide),neL hF 3 4 rfl rfl (by decide)⟩)
       have n39:¬E b3:=by rw [hEq];exact K6 (hF.at 6 rfl) (nm2 ⟨neL hF 6 5 rfl rfl (by decide),neL hF 6 4 rfl rfl (by decide)⟩)
       have n40:¬E b1:=by rw [hEq];exact K6 (hF.at 7 rfl) (nm2 ⟨neL hF 7 5 rfl rfl (by decide),neL hF 7 4 rfl rfl (by decide)⟩)
       refine Yg E [.v,.v,.x,.x,.v] (by kernel_rfl) ?_;have z:=K3 (X5 (hF.at 0 rfl) n35) (K3 (X5 (hF.at 1 rfl) n36) (K3 (X5 (hF.at 2 rfl) n37) (K3 (X5 (hF.at 3 rfl) n38) (K3 (X5 (hF.at 6 rfl) n39) (X5 (hF.at 7 rfl) n40)))));refine gh ?_;refine stK hF 5 (by rw [hEq];exact Zf (by simp)) rfl fun s41 hF=>?_;have z:=K3 (X5 (hF.at 0 rfl) n35) (K3 (X5 (hF.at 1 rfl) n36) (K3 (X5 (hF.at 2 rfl) n37) (K3 (X5 (hF.at 3 rfl) n38) (K3 (X5 (hF.at 6 rfl) n39) (X5 (hF.at 7 rfl) n40)))));refine gh ?_;refine stK hF 4 (by rw [hEq];exact Zf (by simp)) rfl fun s42 hF=>?_;have z:=K3 (X5 (hF.at 0 rfl) n35) (K3 (X5 (hF.at 1 rfl) n36) (K3 (X5 (hF.at 2 rfl) n37) (K3 (X5 (hF.at 3 rfl) n38) (K3 (X5 (hF.at 6 rfl) n39) (X5 (hF.at 7 rfl) n40)))));refine gh ?_;refine go ?_;have e:=pur H;subst e;exact rt [.agg [sf K1 x27.1.binds,sf Ze x27.1.macs,i6 x27.1.scope,i6 x27.1.id,i6 (i64.wrap (x27.1.steps+1))],.agg [i6 x87.kind,.str x87.name,i6 x87.num,sf cI x87.sc,sf KZ x87.kids],i6 0]
theorem FA:∀(a1:List Fm) (a2:Fm) (a3:Int) (Yj:List Bnd) (Yk:List Mac) (Yf Yl Ym:Int) (X8:List Int) (IW:Int) out,W5 a1 a2 a3 Yj Yk Yf Yl Ym X8 IW=some out->∀c,Yh Tryz.f153 0=some c->∀(Q:QT) (tt:Sto) (b1 b3 b5 b7 b12:Nat),(∀(H4:List Bnd) (H5:List Mac) (H6 H7 H8:Int) (YO:List Int),out=Sum.inr (H4,H5,H6,H7,H8,YO)->∀(T:TT) (ss:Sto) (e0v0:AV),T 3=i6 a3/\T 4=.ptr b1 0/\T 6=.ptr b3 0/\T 8=.ptr b5 0/\T 9=.ptr b7 0/\T 12=.ptr b12 0->Fx tt ss [(b12,⟨105,11,[i6 5,i6 0,.str zB,i6 0,e0v0,i6 0,.str zB,i6 0,.Yb,.Yb,.Yb]⟩),(b7,⟨105,11,[i6 0,i6 0,.str zB,i6 0,.Yb,i6 0,.str zB,i6 0,.Yb,.Yb,.Yb]⟩),(b5,⟨30,5,[.Yb,.Yb,i6 0,i6 0,i6 0]⟩),(b3,⟨34,5,[i6 a2.kind,.str a2.name,i6 a2.num,sf cI a2.sc,sf KZ a2.kids]⟩),(b1,⟨30,5,[sf K1 H4,sf Ze H5,i6 H6,i6 H7,i6 H8]⟩)] [⟨e0v0,3,1,rws cI YO⟩]->Q (.ex 0) ⟨T,ss⟩)->(∀r,out=Sum.inl r->∀s',IP K0 [.cell 8 30,.cell 9 105,.tmp 10] (fun r' ss'=>r'=.tup [.agg (K8 r.1),.agg (ZG r.2.1),i6 r.2.2]/\ss'=tt) s'->Q .ret s')->∀(T:TT) (ss:Sto) (z0v0:AV),T 1=sf KZ a1/\T 3=i6 a3/\T 4=.ptr b1 0/\T 6=.ptr b3 0/\T 8=.ptr b5 0/\T 9=.ptr b7 0/\T 12=.ptr b12 0/\T 13=i6 IW->Fx tt ss [(b12,⟨105,11,[i6 5,i6 0,.str zB,i6 0,z0v0,i6 0,.str zB,i6 0,.Yb,.Yb,.Yb]⟩),(b7,⟨105,11,[i6 0,i6 0,.str zB,i6 0,.Yb,i6 0,.str zB,i6 0,.Yb,.Yb,.Yb]⟩),(b5,⟨30,5,[.Yb,.Yb,i6 0,i6 0,i6 0]⟩),(b3,⟨34,5,[i6 a2.kind,.str a2.name,i6 a2.num,sf cI a2.sc,sf KZ a2.kids]⟩),(b1,⟨30,5,[sf K1 Yj,sf Ze Yk,i6 Yf,i6 Yl,i6 Ym]⟩)] [⟨z0v0,3,1,rws cI X8⟩]->aLp K0 c Q ⟨T,ss⟩:=by
 intro a1 a2 a3 Yj Yk Yf Yl Ym X8 IW;revert Yj Yk Yf Yl Ym X8 IW;refine W5.partial_correctness a1 a2 a3 _ ?_;intro W5 IH Yj Yk Yf Yl Ym X8 IW out H c hc Q tt b1 b3 b5 b7 b12 hE hR T ss z0v0 tT hF;refine lpx tt hc rfl fun q hX=>go ?_;refine cdp H (fun h H=>?_) (fun h H=>?_)
 ·obtain ⟨x38,f1,H⟩:=bil (g:=KZ) Fm.X6 H;refine go1 ?_;refine go ?_;refine cdn H (fun h H=>?_) (fun h H=>?_)
  ·refine go ?_;refine st hF 2 rfl fun s15 hF=>?_;refine go ?_;refine st hF 1 rfl fun s16 hF=>?_;refine go ?_;exact wq (hR _ (pur H).symm _ (rt _))
  ·refine go ?_;refine Yg E0 [.v,.v,.v,.v,.v,.v,.v,.x,.z] (by kernel_rfl) ?_;obtain ⟨x46,f1,H⟩:=bil (g:=KZ) Fm.X6 H;refine go1 ?_;refine bp H (YS x46 Yf 0) fun x50 h H=>cv h ?_;refine go ?_;refine WY hF rfl fun b17 s18 hF=>?_;refine go ?_;refine st hF 0 rfl fun s19 hF=>?_;refine go ?_;refine bp H (Yv x50) fun x52 h H=>cl h ?_;refine go ?_;refine cdb H (fun h H=>?_) (fun h H=>?_)
   ·refine go ?_;refine st hF 3 rfl fun s20 hF=>?_;refine go ?_;refine st hF 2 rfl fun s21 hF=>?_;refine go ?_;exact wq (hR _ (pur H).symm _ (rt _))
   ·refine go ?_;refine bp H (CL (KV Yj Yk Yf Yl Ym) x50) fun x59 h H=>cl h ?_;refine go ?_;refine X9 hF rfl fun b22 s23 hF=>?_;refine go ?_;refine st hF 0 rfl fun s24 hF=>?_;refine go ?_;refine st hF 6 rfl fun s25 hF=>?_;refine go ?_;refine cdn H (fun h H=>?_) (fun h H=>?_)
    ·refine go ?_;refine st hF 4 rfl fun s26 hF=>?_;refine go ?_;refine st hF 3 rfl fun s27 hF=>?_;refine go ?_;exact wq (hR _ (pur H).symm _ (rt _))
    ·refine go ?_;refine apd (g:=cI) hF 0 H (rdo (c:=true) (g:=cI) (fun _=>rfl)) fun x73 H v28 s29 hF=>?_;refine go ?_;refine st hF 2 (hF.cells 0 rfl) fun s30 hF=>?_;refine go ?_;exact IH  x59.1.binds x59.1.macs x59.1.scope x59.1.id x59.1.steps x73 (i64.wrap (IW+1)) _ H _ rfl Q tt b1 b3 b5 b7 b12 hE hR _ _ v28 S (hF.drop 2 0)
 ·refine go ?_;exact wq (hE _ _ _ _ _ _ (pur H).symm _ _ z0v0 S hF)
theorem Di:∀(a1 a2:List Fm) (a3:Fm) (a4:Int) (Yj:List Bnd) (Yk:List Mac) (Yf Yl Ym Ip:Int) out,VH a1 a2 a3 a4 Yj Yk Yf Yl Ym Ip=some out->∀c,Yh Tryz.f142 0=some c->∀(Q:QT) (tt:Sto) (b1 b3 b5 b7:Nat),(∀(H4:List Bnd) (H5:List Mac) (H6 H7 H8:Int),out=Sum.inr (H4,H5,H6,H7,H8)->∀(T:TT) (ss:Sto),T 4=i6 a4/\T 5=.ptr b1 0/\T 8=.ptr b3 0/\T 10=.ptr b5 0/\T 11=.ptr b7 0->Fx tt ss [(b7,⟨105,11,[i6 0,i6 0,.str zB,i6 0,.Yb,i6 0,.str zB,i6 0,.Yb,.Yb,.Yb]⟩),(b5,⟨30,5,[.Yb,.Yb,i6 0,i6 0,i6 0]⟩),(b3,⟨34,5,[i6 a3.kind,.str a3.name,i6 a3.num,sf cI a3.sc,sf KZ a3.kids]⟩),(b1,⟨30,5,[sf K1 H4,sf Ze H5,i6 H6,i6 H7,i6 H8]⟩)] []->Q (.ex 0) ⟨T,ss⟩)->(∀r,out=Sum.inl r->∀s',IP K0 [.cell 10 30,.cell 11 105,.tmp 12] (fun r' ss'=>r'=.tup [.agg (K8 r.1),.agg (ZG r.2.1),i6 r.2.2]/\ss'=tt) s'->Q .ret s')->∀(T:TT) (ss:Sto),T 1=sf KZ a1/\T 2=sf KZ a2/\T 4=i6 a4/\T 5=.ptr b1 0/\T 8=.ptr b3 0/\T 10=.ptr b5 0/\T 11=.ptr b7 0/\T 14=i6 Ip->Fx tt ss [(b7,⟨105,11,[i6 0,i6 0,.str zB,i6 0,.Yb,i6 0,.str zB,i6 0,.Yb,.Yb,.Yb]⟩),(b5,⟨30,5,[.Yb,.Yb,i6 0,i6 0,i6 0]⟩),(b3,⟨34,5,[i6 a3.kind,.str a3.name,i6 a3.num,sf cI a3.sc,sf KZ a3.kids]⟩),(b1,⟨30,5,[sf K1 Yj,sf Ze Yk,i6 Yf,i6 Yl,i6 Ym]⟩)] []->aLp K0 c Q ⟨T,ss⟩:=by
 intro a1 a2 a3 a4 Yj Yk Yf Yl Ym Ip;revert Yj Yk Yf Yl Ym Ip;refine VH.partial_correctness a1 a2 a3 a4 _ ?_;intro VH IH Yj Yk Yf Yl Ym Ip out H c hc Q tt b1 b3 b5 b7 hE hR T ss tT hF;refine lpx tt hc rfl fun q hX=>go ?_;refine cdp H (fun h H=>?_) (fun h H=>?_)
 ·refine go ?_;refine Yg E0 [.v,.v,.v,.v,.v,.v,.v,.x,.z] (by kernel_rfl) ?_;obtain ⟨x40,f1,H⟩:=bil (g:=KZ) Fm.X6 H;refine go1 ?_;refine bp H (YS x40 Yf 0) fun x44 h H=>cv h ?_;refine go ?_;refine WY hF rfl fun b12 s13 hF=>?_;refine go ?_;refine st hF 0 rfl fun s14 hF=>?_;refine go ?_;refine Yg E0 [.v,.v,.v,.v,.v,.v,.v,.x,.z] (by kernel_rfl) ?_;obtain ⟨x47,f1,H⟩:=bil (g:=KZ) Fm.X6 H;refine go1 ?_;refine bp H (YS x47 Yf 0) fun x51 h H=>cv h ?_;refine go ?_;refine WY hF rfl fun b15 s16 hF=>?_;refine go ?_;refine st hF 0 rfl fun s17 hF=>?_;obtain ⟨x54,f1,H⟩:=bil (g:=KZ) Fm.X6 H;refine go1 ?_;refine go ?_;refine cdn H (fun h H=>?_) (fun h H=>?_)
  ·refine go ?_;refine st hF 3 rfl fun s18 hF=>?_;refine go ?_;refine st hF 2 rfl fun s19 hF=>?_;refine go ?_;exact wq (hR _ (pur H).symm _ (rt _))
  ·refine go ?_;refine bp H (Yv x44) fun x61 h H=>cl h ?_;refine go ?_;obtain ⟨x67,g20,H⟩:=bnd H;refine Yc 3 64 67 (.bool x67) (giN q (fun q=>?_) (fun q=>?_)) (fun J=>?_)
   ·rw [if_neg (dbf q)] at g20;refine go ?_;obtain ⟨x65,hx65,g20⟩:=bnd g20;refine cl (Yv x51 _ hx65) ?_;refine go ?_;exact Yt 64 g20
   ·rw [if_pos (dbt q)] at g20;refine go ?_;exact Yt 64 g20
   refine go ?_;refine cdb H (fun h H=>?_) (fun h H=>?_)
   ·refine go ?_;refine st hF 3 rfl fun s22 hF=>?_;refine go ?_;refine st hF 2 rfl fun s23 hF=>?_;refine go ?_;exact wq (hR _ (pur H).symm _ (rt _))
   ·refine go ?_;refine bp H (DF x51) fun x72 h H=>cl h ?_;refine go ?_;refine cdb H (fun h H=>?_) (fun h H=>?_)
    ·refine go ?_;refine st hF 3 rfl fun s24 hF=>?_;refine go ?_;refine st hF 2 rfl fun s25 hF=>?_;refine go ?_;exact wq (hR _ (pur H).symm _ (rt _))
    ·refine go ?_;refine bp H (CL (KV Yj Yk Yf Yl Ym) x44) fun x83 h H=>cl h ?_;refine go ?_;refine X9 hF rfl fun b26 s27 hF=>?_;refine go ?_;refine st hF 0 rfl fun s28 hF=>?_;refine go ?_;refine st hF 6 rfl fun s29 hF=>?_;refine go ?_;refine cdn H (fun h H=>?_) (fun h H=>?_)
     ·refine go ?_;refine st hF 4 rfl fun s30 hF=>?_;refine go ?_;refine st hF 3 rfl fun s31 hF=>?_;refine go ?_;exact wq (hR _ (pur H).symm _ (rt _))
     ·refine go ?_;refine FD E0 [.v,.v,.v,.v,.v,.v,.v,.v,.v,.x,.x,.v,.z] [0,1,2,4,5,6,7,8,9,3,10,11,12] (by kernel_rfl) ?_;refine go ?_;have hF:=hF.lit 62 3 (rws Ze []) rfl;refine Pr (g:=Ze) hF 0 H (rdo (c:=false) (g:=Ze) Mac.X6) fun x95 H v32 s33 hF=>?_;refine go ?_;refine Qna (g:=Ze) hF 0 H (rdo (c:=true) (g:=Ze) Mac.X6) fun x102 H s35 hF=>?_;refine go ?_;refine st hF 6 rfl fun s36 hF=>?_;refine go ?_;exact IH  x83.1.binds x102 x83.1.scope x83.1.id x83.1.steps (i64.wrap (Ip+1)) _ H _ rfl Q tt b1 b3 b5 b7 hE hR _ _  S (hF.drop 3 0)
 ·refine go ?_;exact wq (hE _ _ _ _ _ (pur H).symm _ _  S hF)
theorem Hq (fx0:Int):(∀(a0:Xpn) (a1:Fm) r,YE a0 a1 fx0=some r->Vb K0 99 [.agg (K8 a0),.agg (KZ a1),i6 fx0] (.tup [.agg (K8 r.1),.agg (ZG r.2.1),i6 r.2.2]))/\(∀(a0:Xpn) (a1:Fm) (a2:Int) r,WW a0 a1 a2 fx0=some r->Vb K0 123 [.agg (K8 a0),.agg (KZ a1),i6 a2,i6 fx0] (.tup [.agg (K8 r.1),.agg (ZG r.2.1),i6 r.2.2]))/\(∀(a0:Xpn) (a1:List Fm) r,Gd a0 a1 fx0=some r->Vb K0 125 [.agg (K8 a0),sf KZ a1,i6 fx0] (.tup [.agg (K8 r.1),sf ZG r.2.1,i6 r.2.2]))/\(∀(a0:Xpn) (a1:List Fm) (a2:Fm) r,GR a0 a1 a2 fx0=some r->Vb K0 153 [.agg (K8 a0),sf KZ a1,.agg (KZ a2),i6 fx0] (.tup [.agg (K8 r.1),.agg (ZG r.2.1),i6 r.2.2]))/\(∀(a0:Xpn) (a1 a2:List Fm) (a3:Fm) r,JN a0 a1 a2 a3 fx0=some r->Vb K0 142 [.agg (K8 a0),sf KZ a1,sf KZ a2,.agg (KZ a3),i6 fx0] (.tup [.agg (K8 r.1),.agg (ZG r.2.1),i6 r.2.2]))/\(∀(a0:Xpn) (a1:Fm) (a2:Int) r,AH a0 a1 a2 fx0=some r->Vb K0 124 [.agg (K8 a0),.agg (KZ a1),i6 a2,i6 fx0] (.tup [.agg (K8 r.1),.agg (ZG r.2.1),i6 r.2.2])):=by
 have h:=YE.mutual_partial_correctness fx0 (motive_1:=fun a0 a1 r=>Vb K0 99 [.agg (K8 a0),.agg (KZ a1),i6 fx0] (.tup [.agg (K8 r.1),.agg (ZG r.2.1),i6 r.2.2])) (motive_2:=fun a0 a1 r=>Vb K0 125 [.agg (K8 a0),sf KZ a1,i6 fx0] (.tup [.agg (K8 r.1),sf ZG r.2.1,i6 r.2.2])) (motive_3:=fun a1 Yj Yk Yf Yl Ym X8 YJ out=>∀c,Yh Tryz.f125 0=some c->∀(Q:QT) (tt:Sto) (b1 b3:Nat),(∀(H4:List Bnd) (H5:List Mac) (H6 H7 H8:Int) (YO:List Cor),out=Sum.inr (H4,H5,H6,H7,H8,YO)->∀(T:TT) (ss:Sto) (e0v0:AV),T 3=.ptr b1 0/\T 6=.ptr b3 0/\T 9=e0v0->Fx tt ss [(b3,⟨30,5,[.Yb,.Yb,i6 0,i6 0,i6 0]⟩),(b1,⟨30,5,[sf K1 H4,sf Ze H5,i6 H6,i6 H7,i6 H8]⟩)] [⟨e0v0,105,11,rws ZG YO⟩]->Q (.ex 0) ⟨T,ss⟩)->(∀r,out=Sum.inl r->∀s',IP K0 [.cell 6 30,.tmp 7,.tmp 8] (fun r' ss'=>r'=.tup [.agg (K8 r.1),sf ZG r.2.1,i6 r.2.2]/\ss'=tt) s'->Q .ret s')->∀(T:TT) (ss:Sto) (z0v0:AV),T 1=sf KZ a1/\T 2=i6 fx0/\T 3=.ptr b1 0/\T 6=.ptr b3 0/\T 9=z0v0/\T 10=i6 YJ->Fx tt ss [(b3,⟨30,5,[.Yb,.Yb,i6 0,i6 0,i6 0]⟩),(b1,⟨30,5,[sf K1 Yj,sf Ze Yk,i6 Yf,i6 Yl,i6 Ym]⟩)] [⟨z0v0,105,11,rws ZG X8⟩]->aLp K0 c Q ⟨T,ss⟩) (motive_4:=fun a0 a1 a2 r=>Vb K0 124 [.agg (K8 a0),.agg (KZ a1),i6 a2,i6 fx0] (.tup [.agg (K8 r.1),.agg (ZG r.2.1),i6 r.2.2])) (motive_5:=fun a0 a1 a2 r=>Vb K0 123 [.agg (K8 a0),.agg (KZ a1),i6 a2,i6 fx0] (.tup [.agg (K8 r.1),.agg (ZG r.2.1),i6 r.2.2])) (motive_6:=fun a0 a1 a2 a3 r=>Vb K0 142 [.agg (K8 a0),sf KZ a1,sf KZ a2,.agg (KZ a3),i6 fx0] (.tup [.agg (K8 r.1),.agg (ZG r.2.1),i6 r.2.2])) (motive_7:=fun a0 a1 a2 r=>Vb K0 153 [.agg (K8 a0),sf KZ a1,.agg (KZ a2),i6 fx0] (.tup [.agg (K8 r.1),.agg (ZG r.2.1),i6 r.2.2])) ?s0 ?s1 ?s2 ?s3 ?s4 ?s5 ?s6
 ·exact ⟨h.1,h.2.2.2.2.1,h.2.1,h.2.2.2.2.2.2,h.2.2.2.2.2.1,h.2.2.2.1⟩
 ·intro Gd AH WW C2 C5 C1 a0 a1 r H;intro ss;refine hdh mixed Tryz.func99 (rs:=[.cell 6 30,.cell 7 105,.tmp 8]) fun q tT hF hX=>?_;refine go ?_;refine X9 hF rfl fun b1 ss2 hF=>?_;refine go ?_;refine X9 hF rfl fun b3 ss4 hF=>?_;refine go ?_;refine X9 hF rfl fun b5 ss6 hF=>?_;refine go ?_;refine X9 hF rfl fun b7 s8 hF=>?_;refine go ?_;refine cdp H (fun h H=>?_) (fun h H=>?_)
  ·refine go ?_;obtain ⟨E,hEq⟩:∃E,E=EE s8 [b5,b7]:=⟨_,rfl⟩
   have n9:¬E b3:=by rw [hEq];exact K6 (hF.at 2 rfl) (nm2 ⟨neL hF 2 1 rfl rfl (by decide),neL hF 2 0 rfl rfl (by decide)⟩)
   have n10:¬E b1:=by rw [hEq];exact K6 (hF.at 3 rfl) (nm2 ⟨neL hF 3 1 rfl rfl (by decide),neL hF 3 0 rfl rfl (by decide)⟩)
   refine Yg E [.v,.v,.v,.v,.x,.x,.v] (by kernel_rfl) ?_;have z:=K3 (X5 (hF.at 2 rfl) n9) (X5 (hF.at 3 rfl) n10);refine gh ?_;refine stK hF 1 (by rw [hEq];exact Zf (by simp)) rfl fun s11 hF=>?_;have z:=K3 (X5 (hF.at 2 rfl) n9) (X5 (hF.at 3 rfl) n10);refine gh ?_;refine stK hF 0 (by rw [hEq];exact Zf (by simp)) rfl fun s12 hF=>?_;have z:=K3 (X5 (hF.at 2 rfl) n9) (X5 (hF.at 3 rfl) n10);refine gh ?_;refine go ?_;have e:=pur H;subst e;exact rt [.agg [sf K1 a0.binds,sf Ze a0.macs,i6 a0.scope,i6 a0.id,i6 a0.steps],.agg [i6 3,i6 0,.str zB,i6 a1.num,.Yb,i6 0,.str zB,i6 0,.Yb,.Yb,.Yb],i6 0]
  ·refine go ?_;refine cdp H (fun h H=>?_) (fun h H=>?_)
   ·refine go ?_;refine bp H (MF a0 a1) fun x25 h H=>cl h ?_;refine go ?_;refine st hF 1 rfl fun s13 hF=>?_;refine go ?_;refine st hF 0 rfl fun s14 hF=>?_;refine go ?_;have e:=pur H;subst e;exact rt _
   ·refine go ?_;refine cdp H (fun h H=>?_) (fun h H=>?_)
    ·refine go ?_;refine st hF 1 rfl fun s15 hF=>?_;refine go ?_;refine st hF 0 rfl fun s16 hF=>?_;refine go ?_;have e:=pur H;subst e;exact rt _
    ·obtain ⟨x37,f1,H⟩:=bil (g:=KZ) Fm.X6 H;refine go1 ?_;refine go ?_;refine cdp H (fun h H=>?_) (fun h H=>?_)
     ·refine go ?_;refine Yg E0 [.v,.v,.v,.v,.v,.v,.v,.v,.v,.v,.v] (by kernel_rfl) ?_;obtain ⟨x45,f1,H⟩:=bil (g:=KZ) Fm.X6 H;refine go1 ?_;refine bp H (Hr a0 x45) fun x47 h H=>cv h ?_;refine go ?_;refine cdp H (fun h H=>?_) (fun h H=>?_)
      ·refine go ?_;refine st hF 1 rfl fun s17 hF=>?_;refine go ?_;refine st hF 0 rfl fun s18 hF=>?_;refine go ?_;have e:=pur H;subst e;exact rt _
      ·refine go ?_;refine cdp H (fun h H=>?_) (fun h H=>?_)
       ·refine go ?_;refine bp H (C1 a0 a1 x47.2) fun x61 h H=>cl h ?_;refine go ?_;refine st hF 1 rfl fun s19 hF=>?_;refine go ?_;refine st hF 0 rfl fun s20 hF=>?_;refine go ?_;have e:=pur H;subst e;exact rt _
       ·refine go ?_;refine cdp H (fun h H=>?_) (fun h H=>?_)
        ·refine go ?_;refine bp H (C5 a0 a1 x47.2) fun x71 h H=>cl h ?_;refine go ?_;refine st hF 1 rfl fun s21 hF=>?_;refine go ?_;refine st hF 0 rfl fun s22 hF=>?_;refine go ?_;have e:=pur H;subst e;exact rt _
        ·refine go ?_;refine bp H (C2 a0 a1.kids) fun x80 h H=>cl h ?_;refine go ?_;refine st hF 3 rfl fun s23 hF=>?_;refine go ?_;refine st hF 1 rfl fun s24 hF=>?_;refine go ?_;refine st hF 0 rfl fun s25 hF=>?_;refine go ?_;have e:=pur H;subst e;exact rt _
     ·refine go ?_;obtain ⟨LP,hx80_1,H⟩:=bnd H;refine cl (C2 a0 a1.kids _ hx80_1) ?_;refine go ?_;refine st hF 3 rfl fun s26 hF=>?_;refine go ?_;refine st hF 1 rfl fun s27 hF=>?_;refine go ?_;refine st hF 0 rfl fun s28 hF=>?_;refine go ?_;have e:=pur H;subst e;exact rt _
 ·intro JM L0 a0 a1 r H;intro ss;refine hdh mixed Tryz.func125 (rs:=[.cell 6 30,.tmp 7,.tmp 8]) fun q tT hF hX=>?_;refine go ?_;refine X9 hF rfl fun b1 ss2 hF=>?_;refine go ?_;refine X9 hF rfl fun b3 ss4 hF=>?_;have hF:=hF.lit 105 11 (rws ZG []) rfl;refine go ?_;obtain ⟨o21,ho21,H⟩:=bnd H;refine L0 a1 a0.binds a0.macs a0.scope a0.id a0.steps [] 0 _ ho21 _ rfl _ _ b1 b3 ?_ ?_ _ _ (.sl true (rws ZG [])) S hF
  ·intro Nf Ng Nh Ni Nj Bv he T23 s24 e22v0 tT hF;have he:=he.symm;subst he
   try dsimp only at H
   refine go ?_;refine st hF 0 rfl fun s26 hF=>?_;refine go ?_;have e:=pur H;subst e;exact rt _
  ·intro r hr s' hs;subst hr;have e:=pur H;subst e;exact hsq hs
 ·intro YE JM C0 L0 a1 Yj Yk Yf Yl Ym X8 YJ out H c hc Q tt b1 b3 hE hR T ss z0v0 tT hF;refine lpx tt hc rfl fun q hX=>go ?_;refine cdp H (fun h H=>?_) (fun h H=>?_)
  ·refine go ?_;obtain ⟨E,hEq⟩:∃E,E=EE ss []:=⟨_,rfl⟩
   have n5:¬E b3:=by rw [hEq];exact K6 (hF.at 0 rfl) (by simp)
   have n6:¬E b1:=by rw [hEq];exact K6 (hF.at 1 rfl) (by simp)
   refine Yg E [.v,.v,.v,.v,.v,.v,.v,.v,.v,.v,.v,.x,.x,.x,.x,.v] (by kernel_rfl) ?_;obtain ⟨x25,f1,H⟩:=bil (g:=KZ) Fm.X6 H;have z:=K3 (X5 (hF.at 0 rfl) n5) (X5 (hF.at 1 rfl) n6);refine gh1 ?_;refine bp H (C0 (KV Yj Yk Yf Yl Ym) x25) fun x28 h H=>cv h ?_;have z:=K3 (X5 (hF.at 0 rfl) n5) (X5 (hF.at 1 rfl) n6);refine gh ?_;refine GG hF rfl fun b7 s8 nw9 mo10 hF=>?_;have z:=K3 (X5 (hF.at 1 rfl) n5) (X5 (hF.at 2 rfl) n6);refine gh ?_;refine GG hF rfl fun b11 s12 nw13 mo14 hF=>?_;have z:=K3 (X5 (hF.at 2 rfl) n5) (X5 (hF.at 3 rfl) n6);refine gh ?_;refine stK hF 1 (show E _ from ((em0 hEq) _ nw9)) rfl fun s15 hF=>?_;have z:=K3 (X5 (hF.at 2 rfl) n5) (X5 (hF.at 3 rfl) n6);refine gh ?_;refine stK hF 0 (show E _ from ((fun x h=>(em0 hEq) x (mo10 x h)) _ nw13)) rfl fun s16 hF=>?_;have z:=K3 (X5 (hF.at 2 rfl) n5) (X5 (hF.at 3 rfl) n6);refine gh ?_;refine go ?_;refine st hF 3 rfl fun s17 hF=>?_;refine go ?_;refine cdn H (fun h H=>?_) (fun h H=>?_)
   ·refine go ?_;refine st hF 2 rfl fun s18 hF=>?_;refine go ?_;exact wq (hR _ (pur H).symm _ (rt _))
   ·refine go ?_;refine apd (g:=ZG) hF 0 H (rdo (c:=true) (g:=ZG) Cor.X6) fun x41 H v19 s20 hF=>?_;refine go ?_;exact L0 a1 x28.1.binds x28.1.macs x28.1.scope x28.1.id x28.1.steps x41 (i64.wrap (YJ+1)) _ H _ rfl Q tt b1 b3 hE hR _ _ v19 S (hF.drop 2 0)
  ·refine go ?_;exact wq (hE _ _ _ _ _ _ (pur H).symm _ _ z0v0 S hF)
 ·intro YE C0 a0 a1 a2 r H;intro ss;refine hdh mixed Tryz.func124 (rs:=[.cell 8 30,.cell 9 105,.tmp 10]) fun q tT hF hX=>?_;refine go ?_;refine X9 hF rfl fun b1 ss2 hF=>?_;refine go ?_;refine X9 hF rfl fun b3 ss4 hF=>?_;refine go ?_;refine X9 hF rfl fun b5 ss6 hF=>?_;refine go ?_;refine X9 hF rfl fun b7 s8 hF=>?_;refine go ?_;refine bp H (A0 a0 a1 a2 fx0) fun x18 h H=>cl h ?_;refine go ?_;refine X9 hF rfl fun b9 s10 hF=>?_;refine go ?_;refine st hF 4 rfl fun s11 hF=>?_;refine go ?_;refine st hF 0 rfl fun s12 hF=>?_;refine go ?_;refine cdn H (fun h H=>?_) (fun h H=>?_)
  ·refine go ?_;refine st hF 2 rfl fun s13 hF=>?_;refine go ?_;refine st hF 1 rfl fun s14 hF=>?_;refine go ?_;have e:=pur H;subst e;exact rt _
  ·refine go ?_;refine bp H (C0 x18.1 x18.2.1) fun x30 h H=>cl h ?_;refine go ?_;refine st hF 2 rfl fun s15 hF=>?_;refine go ?_;refine st hF 1 rfl fun s16 hF=>?_;refine go ?_;have e:=pur H;subst e;exact rt _
 ·intro Gd JN GR C2 C4 C3 a0 a1 a2 r H;intro ss;refine hdh mixed Tryz.func123 (rs:=[.cell 8 30,.cell 9 105,.tmp 10]) fun q tT hF hX=>?_;refine go ?_;refine X9 hF rfl fun b1 ss2 hF=>?_;refine go ?_;refine X9 hF rfl fun b3 ss4 hF=>?_;refine go ?_;refine X9 hF rfl fun b5 ss6 hF=>?_;refine go ?_;refine X9 hF rfl fun b7 s8 hF=>?_;refine go ?_;obtain ⟨x29,g9,H⟩:=bnd H;refine Yc 4 25 29 (.bool x29) (gi q (fun q=>?_) (fun q=>?_)) (fun J=>?_)
  ·refine go ?_;exact Yt 25 g9
  ·refine go ?_;exact Yt 25 g9
  refine go ?_;refine cdb H (fun h H=>?_) (fun h H=>?_)
  ·refine go ?_;obtain ⟨E,hEq⟩:∃E,E=EE s8 [b5,b7]:=⟨_,rfl⟩
   have n11:¬E b3:=by rw [hEq];exact K6 (hF.at 2 rfl) (nm2 ⟨neL hF 2 1 rfl rfl (by decide),neL hF 2 0 rfl rfl (by decide)⟩)
   have n12:¬E b1:=by rw [hEq];exact K6 (hF.at 3 rfl) (nm2 ⟨neL hF 3 1 rfl rfl (by decide),neL hF 3 0 rfl rfl (by decide)⟩)
   refine Yg E [.v,.v,.v,.v,.v,.v,.v,.x,.x,.v] (by kernel_rfl) ?_;obtain ⟨x33,f1,H⟩:=bil (g:=KZ) Fm.X6 H;have z:=K3 (X5 (hF.at 2 rfl) n11) (X5 (hF.at 3 rfl) n12);refine gh1 ?_;refine bp H (Hl x33) fun x35 h H=>cv h ?_;have z:=K3 (X5 (hF.at 2 rfl) n11) (X5 (hF.at 3 rfl) n12);refine gh ?_;refine stK hF 1 (by rw [hEq];exact Zf (by simp)) rfl fun s13 hF=>?_;have z:=K3 (X5 (hF.at 2 rfl) n11) (X5 (hF.at 3 rfl) n12);refine gh ?_;refine stK hF 0 (by rw [hEq];exact Zf (by simp)) rfl fun s14 hF=>?_;have z:=K3 (X5 (hF.at 2 rfl) n11) (X5 (hF.at 3 rfl) n12);refine gh ?_;refine go ?_;have e:=pur H;subst e;exact rt [.agg [sf K1 a0.binds,sf Ze a0.macs,i6 a0.scope,i6 a0.id,i6 a0.steps],.agg [i6 4,i6 0,.str zB,i6 0,.Yb,i6 x35.kind,.str x35.name,i6 x35.num,sf cI x35.sc,sf KZ x35.kids,.Yb],i6 0]
  ·refine go ?_;obtain ⟨x45,g15,H⟩:=bnd H;refine Yc 4 41 45 (.bool x45) (gi q (fun q=>?_) (fun q=>?_)) (fun J=>?_)
   ·refine go ?_;exact Yt 41 g15
   ·refine go ?_;exact Yt 41 g15
   refine go ?_;refine cdb H (fun h H=>?_) (fun h H=>?_)
   ·refine go ?_;obtain ⟨E,hEq⟩:∃E,E=EE s8 []:=⟨_,rfl⟩
    have n17:¬E b7:=by rw [hEq];exact K6 (hF.at 0 rfl) (by simp)
    have n18:¬E b5:=by rw [hEq];exact K6 (hF.at 1 rfl) (by simp)
    have n19:¬E b3:=by rw [hEq];exact K6 (hF.at 2 rfl) (by simp)
    have n20:¬E b1:=by rw [hEq];exact K6 (hF.at 3 rfl) (by simp)
    refine Yg E [.v,.v,.v,.v,.v,.v,.v,.v,.v,.v,.x,.x,.v,.v] (by kernel_rfl) ?_;obtain ⟨x50,f1,H⟩:=bls (g:=KZ) Fm.X6 (lo:=some (i6 1)) (hi:=none) rfl rfl H;have z:=K3 (X5 (hF.at 0 rfl) n17) (K3 (X5 (hF.at 1 rfl) n18) (K3 (X5 (hF.at 2 rfl) n19) (X5 (hF.at 3 rfl) n20)));refine gh1 ?_;refine bp H (C2 a0 x50) fun x52 h H=>cv h ?_;have z:=K3 (X5 (hF.at 0 rfl) n17) (K3 (X5 (hF.at 1 rfl) n18) (K3 (X5 (hF.at 2 rfl) n19) (X5 (hF.at 3 rfl) n20)));refine gh ?_;refine GG hF rfl fun b21 s22 nw23 mo24 hF=>?_;have z:=K3 (X5 (hF.at 1 rfl) n17) (K3 (X5 (hF.at 2 rfl) n18) (K3 (X5 (hF.at 3 rfl) n19) (X5 (hF.at 4 rfl) n20)));refine gh ?_;refine stK hF 0 (show E _ from ((em0 hEq) _ nw23)) rfl fun s25 hF=>?_;have z:=K3 (X5 (hF.at 1 rfl) n17) (K3 (X5 (hF.at 2 rfl) n18) (K3 (X5 (hF.at 3 rfl) n19) (X5 (hF.at 4 rfl) n20)));refine gh ?_;refine go ?_;refine st hF 2 rfl fun s26 hF=>?_;refine go ?_;refine st hF 1 rfl fun s27 hF=>?_;refine go ?_;have e:=pur H;subst e;exact rt _
   ·refine go ?_;obtain ⟨x68,g28,H⟩:=bnd H;refine Yc 4 64 68 (.bool x68) (gi q (fun q=>?_) (fun q=>?_)) (fun J=>?_)
    ·refine go ?_;exact Yt 64 g28
    ·refine go ?_;exact Yt 64 g28
    refine go ?_;obtain ⟨x76,g30,H⟩:=bnd H;refine Yc 6 70 76 (.bool x76) (gi q (fun q=>?_) (fun q=>?_)) (fun J=>?_)
    ·rw [if_pos (dbt q)] at g30;obtain ⟨x72,f1,g30⟩:=bil (g:=KZ) Fm.X6 g30;refine go1 ?_;refine go ?_;exact Yt 70 g30
    ·rw [if_neg (dbf q)] at g30;refine go ?_;exact Yt 70 g30
    refine go ?_;refine cdb H (fun h H=>?_) (fun h H=>?_)
    ·refine go ?_;obtain ⟨E,hEq⟩:∃E,E=EE s8 [b5,b7]:=⟨_,rfl⟩
     have n32:¬E b3:=by rw [hEq];exact K6 (hF.at 2 rfl) (nm2 ⟨neL hF 2 1 rfl rfl (by decide),neL hF 2 0 rfl rfl (by decide)⟩)
     have n33:¬E b1:=by rw [hEq];exact K6 (hF.at 3 rfl) (nm2 ⟨neL hF 3 1 rfl rfl (by decide),neL hF 3 0 rfl rfl (by decide)⟩)
     refine Yg E [.v,.v,.v,.v,.v,.v,.v,.v,.v,.v,.v,.v,.v,.v,.v,.x,.x,.v] (by kernel_rfl) ?_;obtain ⟨x80,f1,H⟩:=bil (g:=KZ) Fm.X6 H;obtain ⟨x85,f2,H⟩:=bil (g:=KZ) Fm.X6 H;have z:=K3 (X5 (hF.at 2 rfl) n32) (X5 (hF.at 3 rfl) n33);refine gh2 ?_;refine bp H (C3 a0 x80.kids x85) fun x88 h H=>cv h ?_;have z:=K3 (X5 (hF.at 2 rfl) n32) (X5 (hF.at 3 rfl) n33);refine gh ?_;refine stK hF 1 (by rw [hEq];exact Zf (by simp)) rfl fun s34 hF=>?_;have z:=K3 (X5 (hF.at 2 rfl) n32) (X5 (hF.at 3 rfl) n33);refine gh ?_;refine stK hF 0 (by rw [hEq];exact Zf (by simp)) rfl fun s35 hF=>?_;have z:=K3 (X5 (hF.at 2 rfl) n32) (X5 (hF.at 3 rfl) n33);refine gh ?_;refine go ?_;have e:=pur H;subst e;exact rt [.agg [sf K1 x88.1.binds,sf Ze x88.1.macs,i6 x88.1.scope,i6 x88.1.id,i6 x88.1.steps],.agg [i6 x88.2.1.kind,i6 x88.2.1.id,.str x88.2.1.name,i6 x88.2.1.num,sf cI x88.2.1.ids,i6 x88.2.1.data.kind,.str x88.2.1.data.name,i6 x88.2.1.data.num,sf cI x88.2.1.data.sc,sf KZ x88.2.1.data.kids,sf ZG x88.2.1.kids],i6 x88.2.2]
    ·refine go ?_;obtain ⟨x97,g36,H⟩:=bnd H;refine Yc 2 95 97 (.bool x97) (gi q (fun q=>?_) (fun q=>?_)) (fun J=>?_)
     ·refine go ?_;exact Yt 95 g36
     ·refine go ?_;exact Yt 95 g36
     refine go ?_;obtain ⟨x103,g38,H⟩:=bnd H;refine Yc 4 99 103 (.bool x103) (giN q (fun q=>?_) (fun q=>?_)) (fun J=>?_)
     ·refine go ?_;exact Yt 99 g38
     ·refine go ?_;exact Yt 99 g38
     refine go ?_;refine cdb H (fun h H=>?_) (fun h H=>?_)
     ·refine go ?_;refine st hF 1 rfl fun s40 hF=>?_;refine go ?_;refine st hF 0 rfl fun s41 hF=>?_;refine go ?_;have e:=pur H;subst e;exact rt _
     ·obtain ⟨x109,f1,H⟩:=bil (g:=KZ) Fm.X6 H;refine go1 ?_;refine bp H (Hc x109) fun x111 h H=>cl h ?_;refine go ?_;refine cdb H (fun h H=>?_) (fun h H=>?_)
      ·refine go ?_;refine st hF 1 rfl fun s42 hF=>?_;refine go ?_;refine st hF 0 rfl fun s43 hF=>?_;refine go ?_;have e:=pur H;subst e;exact rt _
      ·refine go ?_;refine cdp H (fun h H=>?_) (fun h H=>?_)
       ·refine go ?_;obtain ⟨E,hEq⟩:∃E,E=EE s8 [b5,b7]:=⟨_,rfl⟩
        have n44:¬E b3:=by rw [hEq];exact K6 (hF.at 2 rfl) (nm2 ⟨neL hF 2 1 rfl rfl (by decide),neL hF 2 0 rfl rfl (by decide)⟩)
        have n45:¬E b1:=by rw [hEq];exact K6 (hF.at 3 rfl) (nm2 ⟨neL hF 3 1 rfl rfl (by decide),neL hF 3 0 rfl rfl (by decide)⟩)
        refine Yg E [.v,.v,.v,.v,.v,.v,.v,.v,.v,.v,.v,.v,.x,.x,.v] (by kernel_rfl) ?_;obtain ⟨x126,f1,H⟩:=bil (g:=KZ) Fm.X6 H;have z:=K3 (X5 (hF.at 2 rfl) n44) (X5 (hF.at 3 rfl) n45);refine gh1 ?_;refine bp H (C4 a0 x111.1 x111.2.1 x126) fun x129 h H=>cv h ?_;have z:=K3 (X5 (hF.at 2 rfl) n44) (X5 (hF.at 3 rfl) n45);refine gh ?_;refine stK hF 1 (by rw [hEq];exact Zf (by simp)) rfl fun s46 hF=>?_;have z:=K3 (X5 (hF.at 2 rfl) n44) (X5 (hF.at 3 rfl) n45);refine gh ?_;refine stK hF 0 (by rw [hEq];exact Zf (by simp)) rfl fun s47 hF=>?_;have z:=K3 (X5 (hF.at 2 rfl) n44) (X5 (hF.at 3 rfl) n45);refine gh ?_;refine go ?_;have e:=pur H;subst e;exact rt [.agg [sf K1 x129.1.binds,sf Ze x129.1.macs,i6 x129.1.scope,i6 x129.1.id,i6 x129.1.steps],.agg [i6 x129.2.1.kind,i6 x129.2.1.id,.str x129.2.1.name,i6 x129.2.1.num,sf cI x129.2.1.ids,i6 x129.2.1.data.kind,.str x129.2.1.data.name,i6 x129.2.1.data.num,sf cI x129.2.1.data.sc,sf KZ x129.2.1.data.kids,sf ZG x129.2.1.kids],i6 x129.2.2]
       ·refine go ?_;refine bp H (C2 a0 x111.2.1) fun x137 h H=>cl h ?_;refine go ?_;refine st hF 3 rfl fun s48 hF=>?_;refine go ?_;refine cdn H (fun h H=>?_) (fun h H=>?_)
        ·refine go ?_;refine st hF 1 rfl fun s49 hF=>?_;refine go ?_;refine st hF 0 rfl fun s50 hF=>?_;refine go ?_;have e:=pur H;subst e;exact rt _
        ·refine go ?_;obtain ⟨E,hEq⟩:∃E,E=EE s48 [b1]:=⟨_,rfl⟩
         have n51:¬E b7:=by rw [hEq];exact K6 (hF.at 0 rfl) (nm1 (neL hF 0 3 rfl rfl (by decide)))
         have n52:¬E b5:=by rw [hEq];exact K6 (hF.at 1 rfl) (nm1 (neL hF 1 3 rfl rfl (by decide)))
         have n53:¬E b3:=by rw [hEq];exact K6 (hF.at 2 rfl) (nm1 (neL hF 2 3 rfl rfl (by decide)))
         refine FD E [.v,.v,.v,.v,.v,.v,.x,.v,.v,.v,.v,.v,.x,.x,.x,.v] [1,2,3,4,5,6,0,7,8,9,10,11,12,13,14,15] (by kernel_rfl) ?_;obtain ⟨x151,f1,H⟩:=bil (g:=KZ) Fm.X6 H;have z:=K3 (X5 (hF.at 0 rfl) n51) (K3 (X5 (hF.at 1 rfl) n52) (X5 (hF.at 2 rfl) n53));refine gh1 ?_;refine bp H (C3 x137.1 x111.1 x151) fun x154 h H=>cv h ?_;have z:=K3 (X5 (hF.at 0 rfl) n51) (K3 (X5 (hF.at 1 rfl) n52) (X5 (hF.at 2 rfl) n53));refine gh ?_;refine GG hF rfl fun b54 s55 nw56 mo57 hF=>?_;have z:=K3 (X5 (hF.at 1 rfl) n51) (K3 (X5 (hF.at 2 rfl) n52) (X5 (hF.at 3 rfl) n53));refine gh ?_;refine stK hF 4 (by rw [hEq];exact Zf (by simp)) rfl fun s58 hF=>?_;have z:=K3 (X5 (hF.at 1 rfl) n51) (K3 (X5 (hF.at 2 rfl) n52) (X5 (hF.at 3 rfl) n53));refine gh ?_;refine stK hF 0 (show E _ from ((em0 hEq) _ nw56)) rfl fun s59 hF=>?_;have z:=K3 (X5 (hF.at 1 rfl) n51) (K3 (X5 (hF.at 2 rfl) n52) (X5 (hF.at 3 rfl) n53));refine gh ?_;refine go ?_;obtain ⟨E,hEq⟩:∃E,E=EE s59 [b5,b7]:=⟨_,rfl⟩
         have n60:¬E b54:=by rw [hEq];exact K6 (hF.at 0 rfl) (nm2 ⟨neL hF 0 2 rfl rfl (by decide),neL hF 0 1 rfl rfl (by decide)⟩)
         have n61:¬E b3:=by rw [hEq];exact K6 (hF.at 3 rfl) (nm2 ⟨neL hF 3 2 rfl rfl (by decide),neL hF 3 1 rfl rfl (by decide)⟩)
         have n62:¬E b1:=by rw [hEq];exact K6 (hF.at 4 rfl) (nm2 ⟨neL hF 4 2 rfl rfl (by decide),neL hF 4 1 rfl rfl (by decide)⟩)
         refine Yg E [.v,.v,.v,.v,.v,.v,.v,.x,.x,.v] (by kernel_rfl) ?_;have z:=K3 (X5 (hF.at 0 rfl) n60) (K3 (X5 (hF.at 3 rfl) n61) (X5 (hF.at 4 rfl) n62));refine gh ?_;obtain ⟨x162,hx162,H⟩:=bnd H;refine MZ (g:=ZG) (xs:=[x154.2.1]) (ys:=x137.2.1) Cor.X6 (by decide) (by decide) (.inr (by first | rfl | simp only [sf,i6,zB,Y2,VJ,cI,cU,cS,cL,Cor.Ya,Fm.Ya])) (.inr ⟨_,by first | rfl | simp only [sf,i6,zB,Y2,VJ,cI,cU,cS,cL,Cor.Ya,Fm.Ya]⟩) hx162 ?_;have z:=K3 (X5 (hF.at 0 rfl) n60) (K3 (X5 (hF.at 3 rfl) n61) (X5 (hF.at 4 rfl) n62));refine gh ?_;refine stK hF 2 (by rw [hEq];exact Zf (by simp)) rfl fun s63 hF=>?_;have z:=K3 (X5 (hF.at 0 rfl) n60) (K3 (X5 (hF.at 3 rfl) n61) (X5 (hF.at 4 rfl) n62));refine gh ?_;refine stK hF 1 (by rw [hEq];exact Zf (by simp)) rfl fun s64 hF=>?_;have z:=K3 (X5 (hF.at 0 rfl) n60) (K3 (X5 (hF.at 3 rfl) n61) (X5 (hF.at 4 rfl) n62));refine gh ?_;refine go ?_;have e:=pur H;subst e;exact rt [.agg [sf K1 x154.1.binds,sf Ze x154.1.macs,i6 x154.1.scope,i6 x154.1.id,i6 x154.1.steps],.agg [i6 6,i6 0,.str zB,i6 0,.Yb,i6 0,.str zB,i6 0,.Yb,.Yb,sf ZG x162],i6 x154.2.2]
 ·intro YE C0 a0 a1 a2 a3 r H;intro ss;refine hdh mixed Tryz.func142 (rs:=[.cell 10 30,.cell 11 105,.tmp 12]) fun q tT hF hX=>?_;refine go ?_;refine X9 hF rfl fun b1 ss2 hF=>?_;refine go ?_;refine X9 hF rfl fun b3 ss4 hF=>?_;refine go ?_;refine X9 hF rfl fun b5 ss6 hF=>?_;refine go ?_;refine X9 hF rfl fun b7 s8 hF=>?_;refine go ?_;refine bp H (Am a0) fun x25 h H=>cl h ?_;refine go ?_;refine st hF 3 rfl fun s9 hF=>?_;refine go ?_;refine cdb H (fun h H=>?_) (fun h H=>?_)
  ·refine go ?_;refine st hF 1 rfl fun s10 hF=>?_;refine go ?_;refine st hF 0 rfl fun s11 hF=>?_;refine go ?_;have e:=pur H;subst e;exact rt _
  ·refine go ?_;obtain ⟨o37,ho37,H⟩:=bnd H;refine Di a1 a2 a3 fx0 x25.1.binds x25.1.macs x25.1.scope x25.1.id x25.1.steps 0 _ ho37 _ rfl _ _ b1 b3 b5 b7 ?_ ?_ _ _  S hF
   ·intro Dr Ds Bh Dt Du he T39 s40 tT hF;have he:=he.symm;subst he
    try dsimp only at H
    refine go ?_;refine bp H (YS a3 Bh 0) fun x107 h H=>cl h ?_;refine go ?_;refine X9 hF rfl fun b42 s43 hF=>?_;refine go ?_;refine st hF 0 rfl fun s44 hF=>?_;refine go ?_;refine bp H (Yv x107) fun x109 h H=>cl h ?_;refine go ?_;refine cdb H (fun h H=>?_) (fun h H=>?_)
    ·refine go ?_;refine st hF 2 rfl fun s45 hF=>?_;refine go ?_;refine st hF 1 rfl fun s46 hF=>?_;refine go ?_;have e:=pur H;subst e;exact rt _
    ·refine go ?_;refine bp H (C0 (KV Dr Ds Bh Dt Du) x107) fun x116 h H=>cl h ?_;refine go ?_;refine st hF 2 rfl fun s47 hF=>?_;refine go ?_;refine st hF 1 rfl fun s48 hF=>?_;refine go ?_;have e:=pur H;subst e;exact rt _
   ·intro r hr s' hs;subst hr;have e:=pur H;subst e;exact hsq hs
 ·intro YE C0 a0 a1 a2 r H;intro ss;refine hdh mixed Tryz.func153 (rs:=[.cell 8 30,.cell 9 105,.tmp 10]) fun q tT hF hX=>?_;refine go ?_;refine X9 hF rfl fun b1 ss2 hF=>?_;refine go ?_;refine X9 hF rfl fun b3 ss4 hF=>?_;refine go ?_;refine X9 hF rfl fun b5 ss6 hF=>?_;refine go ?_;refine X9 hF rfl fun b7 s8 hF=>?_;refine go ?_;refine bp H (Am a0) fun x22 h H=>cl h ?_;refine go ?_;refine st hF 3 rfl fun s9 hF=>?_;refine go ?_;refine cdb H (fun h H=>?_) (fun h H=>?_)
  ·refine go ?_;refine st hF 1 rfl fun s10 hF=>?_;refine go ?_;refine st hF 0 rfl fun s11 hF=>?_;refine go ?_;have e:=pur H;subst e;exact rt _
  ·refine go ?_;refine X9 hF rfl fun b12 s13 hF=>?_;refine go ?_;refine st hF 0 rfl fun s14 hF=>?_;have hF:=hF.nil 3 1;refine go ?_;obtain ⟨o31,ho31,H⟩:=bnd H;refine FA a1 a2 fx0 x22.1.binds x22.1.macs x22.1.scope x22.1.id x22.1.steps [] 0 _ ho31 _ rfl _ _ b1 b3 b5 b7 b12 ?_ ?_ _ _ .Yb S hF
   ·intro Hg Hh Gl Hi Hj ER he T33 s34 e32v0 tT hF;have he:=he.symm;subst he
    try dsimp only at H
    refine go ?_;refine bp H (YS a2 Gl 0) fun x78 h H=>cl h ?_;refine go ?_;refine X9 hF rfl fun b36 s37 hF=>?_;refine go ?_;refine st hF 0 rfl fun s38 hF=>?_;refine go ?_;refine bp H (Yv x78) fun x80 h H=>cl h ?_;refine go ?_;refine cdb H (fun h H=>?_) (fun h H=>?_)
    ·refine go ?_;refine st hF 3 rfl fun s39 hF=>?_;refine go ?_;refine st hF 2 rfl fun s40 hF=>?_;refine go ?_;have e:=pur H;subst e;exact rt _
    ·refine go ?_;refine bp H (C0 (KV Hg Hh Gl Hi Hj) x78) fun x88 h H=>cl h ?_;refine go ?_;refine X9 hF rfl fun b41 s42 hF=>?_;refine go ?_;refine st hF 6 rfl fun s43 hF=>?_;refine go ?_;refine st hF 0 rfl fun s44 hF=>?_;refine go ?_;refine st hF 2 rfl fun s45 hF=>?_;refine go ?_;obtain ⟨E,hEq⟩:∃E,E=EE s45 [b5,b7]:=⟨_,rfl⟩
     have n46:¬E b41:=by rw [hEq];exact K6 (hF.at 0 rfl) (nm2 ⟨neL hF 0 4 rfl rfl (by decide),neL hF 0 3 rfl rfl (by decide)⟩)
     have n47:¬E b36:=by rw [hEq];exact K6 (hF.at 1 rfl) (nm2 ⟨neL hF 1 4 rfl rfl (by decide),neL hF 1 3 rfl rfl (by decide)⟩)
     have n48:¬E b12:=by rw [hEq];exact K6 (hF.at 2 rfl) (nm2 ⟨neL hF 2 4 rfl rfl (by decide),neL hF 2 3 rfl rfl (by decide)⟩)
     have n49:¬E b3:=by rw [hEq];exact K6 (hF.at 5 rfl) (nm2 ⟨neL hF 5 4 rfl rfl (by decide),neL hF 5 3 rfl rfl (by decide)⟩)
     have n50:¬E b1:=by rw [hEq];exact K6 (hF.at 6 rfl) (nm2 ⟨neL hF 6 4 rfl rfl (by decide),neL hF 6 3 rfl rfl (by decide)⟩)
     refine Yg E [.v,.v,.v,.x,.x,.v] (by kernel_rfl) ?_;have z:=K3 (X5 (hF.at 0 rfl) n46) (K3 (X5 (hF.at 1 rfl) n47) (K3 (X5 (hF.at 2 rfl) n48) (K3 (X5 (hF.at 5 rfl) n49) (X5 (hF.at 6 rfl) n50))));refine gh ?_;refine stK hF 4 (by rw [hEq];exact Zf (by simp)) rfl fun s51 hF=>?_;have z:=K3 (X5 (hF.at 0 rfl) n46) (K3 (X5 (hF.at 1 rfl) n47) (K3 (X5 (hF.at 2 rfl) n48) (K3 (X5 (hF.at 5 rfl) n49) (X5 (hF.at 6 rfl) n50))));refine gh ?_;refine stK hF 3 (by rw [hEq];exact Zf (by simp)) rfl fun s52 hF=>?_;have z:=K3 (X5 (hF.at 0 rfl) n46) (K3 (X5 (hF.at 1 rfl) n47) (K3 (X5 (hF.at 2 rfl) n48) (K3 (X5 (hF.at 5 rfl) n49) (X5 (hF.at 6 rfl) n50))));refine gh ?_;refine go ?_;have e:=pur H;subst e;exact rt [.agg [sf K1 x88.1.binds,sf Ze x88.1.macs,i6 x88.1.scope,i6 x88.1.id,i6 x88.1.steps],.agg [i6 5,i6 0,.str zB,i6 0,e32v0,i6 0,.str zB,i6 0,.Yb,.Yb,.sl true (rws ZG [x88.2.1])],i6 x88.2.2]
   ·intro r hr s' hs;subst hr;have e:=pur H;subst e;exact hsq hs
theorem IT:∀(a0:Xpn) (a1:Fm) (a2:Int) r,YE a0 a1 a2=some r->Vb K0 99 [.agg (K8 a0),.agg (KZ a1),i6 a2] (.tup [.agg (K8 r.1),.agg (ZG r.2.1),i6 r.2.2]):=fun a0 a1 a2=>(Hq a2).1 a0 a1
theorem CM:∀(a0:Xpn) (a1:Fm) (a2 a3:Int) r,WW a0 a1 a2 a3=some r->Vb K0 123 [.agg (K8 a0),.agg (KZ a1),i6 a2,i6 a3] (.tup [.agg (K8 r.1),.agg (ZG r.2.1),i6 r.2.2]):=fun a0 a1 a2 a3=>(Hq a3).2.1 a0 a1 a2
theorem DL:∀(a0:Xpn) (a1:List Fm) (a2:Fm) (a3:Int) r,GR a0 a1 a2 a3=some r->Vb K0 153 [.agg (K8 a0),sf KZ a1,.agg (KZ a2),i6 a3] (.tup [.agg (K8 r.1),.agg (ZG r.2.1),i6 r.2.2]):=fun a0 a1 a2 a3=>(Hq a3).2.2.2.1 a0 a1 a2
theorem BA:∀(a0:Xpn) (a1 a2:List Fm) (a3:Fm) (a4:Int) r,JN a0 a1 a2 a3 a4=some r->Vb K0 142 [.agg (K8 a0),sf KZ a1,sf KZ a2,.agg (KZ a3),i6 a4] (.tup [.agg (K8 r.1),.agg (ZG r.2.1),i6 r.2.2]):=fun a0 a1 a2 a3 a4=>(Hq a4).2.2.2.2.1 a0 a1 a2 a3
theorem CF:∀(a0:Int) r,Ir a0=some r->Vb K0 144 [i6 a0] (i6 r):=by
 intro a0 r H;intro ss;unfold Ir at H;refine hdh mixed Tryz.func144 (rs:=[.tmp 2]) fun q tT hF hX=>?_;refine go ?_;refine cdp H (fun h H=>?_) (fun h H=>?_)
 ·refine go ?_;have e:=pur H;subst e;exact rt _
 ·refine go ?_;have e:=pur H;subst e;exact rt _
theorem AB (fx0:Int):(∀(a0:Xpn) (a1:List Fm) (a3:List Stp) r,YR a0 a1 fx0 a3=some r->∀  (p3:AV) (ss:Sto),Pre ss [] [⟨p3,45,13,rws ZF a3⟩]->Ctr K0 115 [.agg (K8 a0),sf KZ a1,i6 fx0,p3] ss (fun r' ss'=>∃(tt':Sto) (w1:AV),r'=.tup [.agg (K8 r.1),w1,i6 r.2.2]/\Tau (strip ss [⟨p3,45,13,rws ZF a3⟩]) [] tt'/\Fx tt' ss' [] [⟨w1,45,13,rws ZF r.2.1⟩]))/\(∀(a0:Xpn) (a1:Fm) (a3:List Stp) r,Yu a0 a1 fx0 a3=some r->∀  (p3:AV) (ss:Sto),Pre ss [] [⟨p3,45,13,rws ZF a3⟩]->Ctr K0 88 [.agg (K8 a0),.agg (KZ a1),i6 fx0,p3] ss (fun r' ss'=>∃(tt':Sto) (w1:AV),r'=.tup [.agg (K8 r.1),w1,i6 r.2.2]/\Tau (strip ss [⟨p3,45,13,rws ZF a3⟩]) [] tt'/\Fx tt' ss' [] [⟨w1,45,13,rws ZF r.2.1⟩]))/\(∀(a0:Xpn) (a1:Fm) (a2:Int) (a4:List Stp) r,G2 a0 a1 a2 fx0 a4=some r->∀  (p4:AV) (ss:Sto),Pre ss [] [⟨p4,45,13,rws ZF a4⟩]->Ctr K0 113 [.agg (K8 a0),.agg (KZ a1),i6 a2,i6 fx0,p4] ss (fun r' ss'=>∃(tt':Sto) (w1:AV),r'=.tup [.agg (K8 r.1),w1,i6 r.2.2]/\Tau (strip ss [⟨p4,45,13,rws ZF a4⟩]) [] tt'/\Fx tt' ss' [] [⟨w1,45,13,rws ZF r.2.1⟩]))/\(∀(a0:Xpn) (a1:List Fm) (a2:Fm) (a4:List Stp) r,JT a0 a1 a2 fx0 a4=some r->∀  (p4:AV) (ss:Sto),Pre ss [] [⟨p4,45,13,rws ZF a4⟩]->Ctr K0 140 [.agg (K8 a0),sf KZ a1,.agg (KZ a2),i6 fx0,p4] ss (fun r' ss'=>∃(tt':Sto) (w1:AV),r'=.tup [.agg (K8 r.1),w1,i6 r.2.2]/\Tau (strip ss [⟨p4,45,13,rws ZF a4⟩]) [] tt'/\Fx tt' ss' [] [⟨w1,45,13,rws ZF r.2.1⟩]))/\(∀(a0:Xpn) (a1:Fm) (a2:Int) (a4:List Stp) r,G3 a0 a1 a2 fx0 a4=some r->∀  (p4:AV) (ss:Sto),Pre ss [] [⟨p4,45,13,rws ZF a4⟩]->Ctr K0 114 [.agg (K8 a0),.agg (KZ a1),i6 a2,i6 fx0,p4] ss (fun r' ss'=>∃(tt':Sto) (w1:AV),r'=.tup [.agg (K8 r.1),w1,i6 r.2.2]/\Tau (strip ss [⟨p4,45,13,rws ZF a4⟩]) [] tt'/\Fx tt' ss' [] [⟨w1,45,13,rws ZF r.2.1⟩])):=by
 have h:=YR.mutual_partial_correctness fx0 (motive_1:=fun a0 a1 a3 r=>∀  (p3:AV) (ss:Sto),Pre ss [] [⟨p3,45,13,rws ZF a3⟩]->Ctr K0 115 [.agg (K8 a0),sf KZ a1,i6 fx0,p3] ss (fun r' ss'=>∃(tt':Sto) (w1:AV),r'=.tup [.agg (K8 r.1),w1,i6 r.2.2]/\Tau (strip ss [⟨p3,45,13,rws ZF a3⟩]) [] tt'/\Fx tt' ss' [] [⟨w1,45,13,rws ZF r.2.1⟩])) (motive_2:=fun a1 Yj Yk Yf Yl Ym X8 VT out=>∀c,Yh Tryz.f115 0=some c->∀(Q:QT) (tt0:Sto) (b1 b3:Nat),(∀(H4:List Bnd) (H5:List Mac) (H6 H7 H8:Int) (YO:List Stp),out=Sum.inr (H4,H5,H6,H7,H8,YO)->∀(T:TT) (ss tt:Sto) (e0v0:AV),T 3=e0v0/\T 4=.ptr b1 0/\T 8=.ptr b3 0->Tau tt0 [] tt->Fx tt ss [(b3,⟨30,5,[.Yb,.Yb,i6 0,i6 0,i6 0]⟩),(b1,⟨30,5,[sf K1 H4,sf Ze H5,i6 H6,i6 H7,i6 H8]⟩)] [⟨e0v0,45,13,rws ZF YO⟩]->Q (.ex 0) ⟨T,ss⟩)->(∀r,out=Sum.inl r->∀s',IP K0 [.cell 8 30,.tmp 9,.tmp 10] (fun r' ss'=>∃(tt':Sto) (w1:AV),r'=.tup [.agg (K8 r.1),w1,i6 r.2.2]/\Tau tt0 [] tt'/\Fx tt' ss' [] [⟨w1,45,13,rws ZF r.2.1⟩]) s'->Q .ret s')->∀(T:TT) (ss tt:Sto) (z0v0:AV),T 1=sf KZ a1/\T 2=i6 fx0/\T 3=z0v0/\T 4=.ptr b1 0/\T 8=.ptr b3 0/\T 11=i6 VT->Tau tt0 [] tt->Fx tt ss [(b3,⟨30,5,[.Yb,.Yb,i6 0,i6 0,i6 0]⟩),(b1,⟨30,5,[sf K1 Yj,sf Ze Yk,i6 Yf,i6 Yl,i6 Ym]⟩)] [⟨z0v0,45,13,rws ZF X8⟩]->aLp K0 c Q ⟨T,ss⟩) (motive_3:=fun a0 a1 a3 r=>∀  (p3:AV) (ss:Sto),Pre ss [] [⟨p3,45,13,rws ZF a3⟩]->Ctr K0 88 [.agg (K8 a0),.agg (KZ a1),i6 fx0,p3] ss (fun r' ss'=>∃(tt':Sto) (w1:AV),r'=.tup [.agg (K8 r.1),w1,i6 r.2.2]/\Tau (strip ss [⟨p3,45,13,rws ZF a3⟩]) [] tt'/\Fx tt' ss' [] [⟨w1,45,13,rws ZF r.2.1⟩])) (motive_4:=fun a0 a1 a2 a4 r=>∀  (p4:AV) (ss:Sto),Pre ss [] [⟨p4,45,13,rws ZF a4⟩]->Ctr K0 114 [.agg (K8 a0),.agg (KZ a1),i6 a2,i6 fx0,p4] ss (fun r' ss'=>∃(tt':Sto) (w1:AV),r'=.tup [.agg (K8 r.1),w1,i6 r.2.2]/\Tau (strip ss [⟨p4,45,13,rws ZF a4⟩]) [] tt'/\Fx tt' ss' [] [⟨w1,45,13,rws ZF r.2.1⟩])) (motive_5:=fun a0 a1 a2 a4 r=>∀  (p4:AV) (ss:Sto),Pre ss [] [⟨p4,45,13,rws ZF a4⟩]->Ctr K0 113 [.agg (K8 a0),.agg (KZ a1),i6 a2,i6 fx0,p4] ss (fun r' ss'=>∃(tt':Sto) (w1:AV),r'=.tup [.agg (K8 r.1),w1,i6 r.2.2]/\Tau (strip ss [⟨p4,45,13,rws ZF a4⟩]) [] tt'/\Fx tt' ss' [] [⟨w1,45,13,rws ZF r.2.1⟩])) (motive_6:=fun a0 a1 a2 a4 r=>∀  (p4:AV) (ss:Sto),Pre ss [] [⟨p4,45,13,rws ZF a4⟩]->Ctr K0 140 [.agg (K8 a0),sf KZ a1,.agg (KZ a2),i6 fx0,p4] ss (fun r' ss'=>∃(tt':Sto) (w1:AV),r'=.tup [.agg (K8 r.1),w1,i6 r.2.2]/\Tau (strip ss [⟨p4,45,13,rws ZF a4⟩]) [] tt'/\Fx tt' ss' [] [⟨w1,45,13,rws ZF r.2.1⟩])) ?s0 ?s1 ?s2 ?s3 ?s4 ?s5
 ·exact ⟨h.1,h.2.2.1,h.2.2.2.2.1,h.2.2.2.2.2,h.2.2.2.1⟩
 ·intro VP L0 a0 a1 a3 r H;intro  p3 ss hP;refine hdg mixed Tryz.func115 (rs:=[.cell 8 30,.tmp 9,.tmp 10]) fun q tT=>?_;obtain ⟨hF,hX⟩:=hP.start;generalize strip ss [⟨p3,45,13,rws ZF a3⟩]=tt0 at hF hX ⊢;refine go ?_;refine X9 hF rfl fun b1 ss2 hF=>?_;refine go ?_;refine X9 hF rfl fun b3 ss4 hF=>?_;refine go ?_;obtain ⟨o31,ho31,H⟩:=bnd H;refine L0 a1 a0.binds a0.macs a0.scope a0.id a0.steps a3 0 _ ho31 _ rfl _ tt0 b1 b3 ?_ ?_ _ _ _ p3 S hX hF
  ·intro Hg Hh Gl Hi Hj ER he T33 s34 t35 e32v0 tT hX hF;have he:=he.symm;subst he
   try dsimp only at H
   refine go ?_;refine st hF 0 rfl fun s36 hF=>?_;refine go ?_;have e:=pur H;subst e;exact rg _ ⟨_,_,rfl,hX,hF.pick [] [0] (by decide) (by decide)⟩
  ·intro r hr s' hs;subst hr;have e:=pur H;subst e;exact hsq hs
 ·intro VP Yu L0 C1 a1 Yj Yk Yf Yl Ym X8 VT out H c hc Q tt0 b1 b3 hE hR T ss tt z0v0 tT hX hF;refine lpy hc rfl fun q=>go ?_;refine cdp H (fun h H=>?_) (fun h H=>?_)
  ·refine go ?_;obtain ⟨E,hEq⟩:∃E,E=EE ss []:=⟨_,rfl⟩
   have n5:¬E b3:=by rw [hEq];exact K6 (hF.at 0 rfl) (by simp)
   have n6:¬E b1:=by rw [hEq];exact K6 (hF.at 1 rfl) (by simp)
   refine Nd E [.v,.v,.v,.v,.v,.v,.v] [0,1,2,3,4,5,6] 7 12 [.v,.v,.v,.v] [8,9,10,11] [.x,.v,.v] [13,14,15] (by kernel_rfl) ?_;obtain ⟨x25,f1,H⟩:=bil (g:=KZ) Fm.X6 H;have z:=K3 (X5 (hF.at 0 rfl) n5) (X5 (hF.at 1 rfl) n6);refine gh1 ?_;refine ⟨?_,?_⟩
   ·have z:=K3 (X5 (hF.at 0 rfl) n5) (X5 (hF.at 1 rfl) n6);refine gh ?_;obtain ⟨x29,hx29,H⟩:=bnd H;refine cx (C1 (KV Yj Yk Yf Yl Ym) x25 X8 _ hx29  z0v0 _ (pre 0 0 1 hF hX)) ?_;rintro _ s8 ⟨tt9,v7,rfl,hT,hG⟩
    refine V0 (Zb hT hG (by intro p hp;simp only [Kk,KE,or_false] at hp<;>first | (rcases hp with rfl<;>(rw [hEq];first | (refine Zf ?_;simp;done) | exact Zs rfl))| cases hp)) fun kp11=>?_
    obtain ⟨t10,hX,hF⟩:=aft 0 0 1 hF hX hT hG;have z:=K3 (X5 (hF.at 0 rfl) n5) (X5 (hF.at 1 rfl) n6);refine gh ?_;refine GG hF rfl fun b12 s13 nw14 mo15 hF=>?_;have z:=K3 (X5 (hF.at 1 rfl) n5) (X5 (hF.at 2 rfl) n6);refine gh ?_;refine stK hF 0 (show E _ from ((PJ kp11 (em0 hEq)) _ nw14)) rfl fun s16 hF=>?_;have z:=K3 (X5 (hF.at 1 rfl) n5) (X5 (hF.at 2 rfl) n6);refine gh ?_;refine go ?_;refine st hF 2 rfl fun s17 hF=>?_;refine go ?_;refine cdn H (fun h H=>?_) (fun h H=>?_)
    ·refine go ?_;refine st hF 1 rfl fun s18 hF=>?_;refine go ?_;exact wq (hR _ (pur H).symm _ (rg _ ⟨_,_,rfl,hX,hF.pick [] [0] (by decide) (by decide)⟩))
    ·refine go ?_;exact L0 a1 x29.1.binds x29.1.macs x29.1.scope x29.1.id x29.1.steps x29.2.1 (i64.wrap (VT+1)) _ H _ rfl Q tt0 b1 b3 hE hR _ _ _ v7 S hX (hF.drop 1 0)
   ·have z:=K3 (X5 (hF.at 0 rfl) n5) (X5 (hF.at 1 rfl) n6);refine gh ?_;refine GG hF rfl fun b19 s20 nw21 mo22 hF=>?_;have z:=K3 (X5 (hF.at 1 rfl) n5) (X5 (hF.at 2 rfl) n6);refine gh ?_;obtain ⟨x29,hx29,H⟩:=bnd H;refine cx (C1 (KV Yj Yk Yf Yl Ym) x25 X8 _ hx29  z0v0 _ (pre 0 0 1 hF hX)) ?_;rintro _ s24 ⟨t25,v23,rfl,hT,hG⟩
    refine V0 (Zb hT hG (by intro p hp;simp only [Kk,KE,or_false] at hp<;>first | (rcases hp with rfl<;>(rw [hEq];first | (refine Zf ?_;simp;done) | exact Zs rfl))| cases hp)) fun kp27=>?_
    obtain ⟨t26,hX,hF⟩:=aft 0 0 1 hF hX hT hG;have z:=K3 (X5 (hF.at 1 rfl) n5) (X5 (hF.at 2 rfl) n6);refine gh ?_;refine stK hF 0 (show E _ from ((em0 hEq) _ nw21)) rfl fun s28 hF=>?_;have z:=K3 (X5 (hF.at 1 rfl) n5) (X5 (hF.at 2 rfl) n6);refine gh ?_;refine go ?_;refine st hF 2 rfl fun s29 hF=>?_;refine go ?_;refine cdn H (fun h H=>?_) (fun h H=>?_)
    ·refine go ?_;refine st hF 1 rfl fun s30 hF=>?_;refine go ?_;exact wq (hR _ (pur H).symm _ (rg _ ⟨_,_,rfl,hX,hF.pick [] [0] (by decide) (by decide)⟩))
    ·refine go ?_;exact L0 a1 x29.1.binds x29.1.macs x29.1.scope x29.1.id x29.1.steps x29.2.1 (i64.wrap (VT+1)) _ H _ rfl Q tt0 b1 b3 hE hR _ _ _ v23 S hX (hF.drop 1 0)
  ·refine go ?_;exact wq (hE _ _ _ _ _ _ (pur H).symm _ _ _ z0v0 S hX hF)
 ·intro YR G3 G2 C0 C4 C2 a0 a1 a3 r H;intro  p3 ss hP;refine hdg mixed Tryz.func88 (rs:=[.cell 8 30,.tmp 9,.tmp 10]) fun q tT=>?_;obtain ⟨hF,hX⟩:=hP.start;generalize strip ss [⟨p3,45,13,rws ZF a3⟩]=tt0 at hF hX ⊢;refine go ?_;refine X9 hF rfl fun b1 ss2 hF=>?_;refine go ?_;refine X9 hF rfl fun b3 ss4 hF=>?_;refine go ?_;refine X9 hF rfl fun b5 ss6 hF=>?_;refine go ?_;obtain ⟨x24,g7,H⟩:=bnd H;refine Yc 4 20 24 (.bool x24) (giN q (fun q=>?_) (fun q=>?_)) (fun J=>?_)
  ·refine go ?_;exact Yt 20 g7
  ·refine go ?_;exact Yt 20 g7
  refine go ?_;refine cdb H (fun h H=>?_) (fun h H=>?_)
  ·refine go ?_;refine bp H (IT a0 a1 fx0) fun x29 h H=>cl h ?_;refine go ?_;refine X9 hF rfl fun b9 s10 hF=>?_;refine go ?_;refine X9 hF rfl fun b11 s12 hF=>?_;refine go ?_;refine st hF 1 rfl fun s13 hF=>?_;refine go ?_;refine st hF 0 rfl fun s14 hF=>?_;refine go ?_;refine st hF 2 rfl fun s15 hF=>?_;refine go ?_;have e:=pur H;subst e;exact rg _ ⟨_,_,rfl,hX,hF.pick [] [0] (by decide) (by decide)⟩
  ·obtain ⟨x38,f1,H⟩:=bil (g:=KZ) Fm.X6 H;refine go1 ?_;refine go ?_;refine cdp H (fun h H=>?_) (fun h H=>?_)
   ·refine go ?_;refine Yg E0 [.v,.v,.v,.v,.v,.v,.v,.v,.v,.v,.v] (by kernel_rfl) ?_;obtain ⟨x46,f1,H⟩:=bil (g:=KZ) Fm.X6 H;refine go1 ?_;refine bp H (Hr a0 x46) fun x48 h H=>cv h ?_;refine go ?_;refine cdp H (fun h H=>?_) (fun h H=>?_)
    ·refine go ?_;refine st hF 0 rfl fun s16 hF=>?_;refine go ?_;have e:=pur H;subst e;exact rg _ ⟨_,_,rfl,hX,hF.pick [] [0] (by decide) (by decide)⟩
    ·refine go ?_;refine cdp H (fun h H=>?_) (fun h H=>?_)
     ·refine go ?_;obtain ⟨x63,hx63,H⟩:=bnd H;refine cx (C2 a0 a1 x48.2 a3 _ hx63  p3 _ (pre 0 0 1 hF hX)) ?_;rintro _ s18 ⟨t19,v17,rfl,hT,hG⟩;obtain ⟨tt20,hX,hF⟩:=aft 0 0 1 hF hX hT hG;refine go ?_;refine st hF 0 rfl fun s21 hF=>?_;refine go ?_;have e:=pur H;subst e;exact rg _ ⟨_,_,rfl,hX,hF.pick [] [0] (by decide) (by decide)⟩
     ·refine go ?_;refine cdp H (fun h H=>?_) (fun h H=>?_)
      ·refine go ?_;obtain ⟨x74,hx74,H⟩:=bnd H;refine cx (C4 a0 a1 x48.2 a3 _ hx74  p3 _ (pre 0 0 1 hF hX)) ?_;rintro _ s23 ⟨t24,v22,rfl,hT,hG⟩;obtain ⟨t25,hX,hF⟩:=aft 0 0 1 hF hX hT hG;refine go ?_;refine st hF 0 rfl fun s26 hF=>?_;refine go ?_;have e:=pur H;subst e;exact rg _ ⟨_,_,rfl,hX,hF.pick [] [0] (by decide) (by decide)⟩
      ·refine go ?_;obtain ⟨x83,hx83,H⟩:=bnd H;refine cx (C0 a0 a1.kids a3 _ hx83  p3 _ (pre 0 0 1 hF hX)) ?_;rintro _ s28 ⟨t29,v27,rfl,hT,hG⟩;obtain ⟨t30,hX,hF⟩:=aft 0 0 1 hF hX hT hG;refine go ?_;refine st hF 0 rfl fun s31 hF=>?_;refine go ?_;have e:=pur H;subst e;exact rg _ ⟨_,_,rfl,hX,hF.pick [] [0] (by decide) (by decide)⟩
   ·refine go ?_;obtain ⟨Ar,hx83_1,H⟩:=bnd H;refine cx (C0 a0 a1.kids a3 _ hx83_1  p3 _ (pre 0 0 1 hF hX)) ?_;rintro _ s33 ⟨t34,v32,rfl,hT,hG⟩;obtain ⟨t35,hX,hF⟩:=aft 0 0 1 hF hX hT hG;refine go ?_;refine st hF 0 rfl fun s36 hF=>?_;refine go ?_;have e:=pur H;subst e;exact rg _ ⟨_,_,rfl,hX,hF.pick [] [0] (by decide) (by decide)⟩
 ·intro Yu C1 a0 a1 a2 a4 r H;intro  p4 ss hP;refine hdg mixed Tryz.func114 (rs:=[.cell 10 30,.tmp 11,.tmp 12]) fun q tT=>?_;obtain ⟨hF,hX⟩:=hP.start;generalize strip ss [⟨p4,45,13,rws ZF a4⟩]=tt0 at hF hX ⊢;refine go ?_;refine X9 hF rfl fun b1 ss2 hF=>?_;refine go ?_;refine X9 hF rfl fun b3 ss4 hF=>?_;refine go ?_;refine X9 hF rfl fun b5 ss6 hF=>?_;refine go ?_;refine Yg E0 [.v,.v,.v,.v,.v,.v,.v,.x,.z] (by kernel_rfl) ?_;refine go ?_;refine bp H (Ij a0 a2) fun x25 h H=>cv h ?_;obtain ⟨x26,f1,H⟩:=bil (g:=Ze) Mac.X6 H;refine go1 ?_;refine WY hF rfl fun b7 s8 hF=>?_;refine go ?_;refine st hF 0 rfl fun s9 hF=>?_;refine go ?_;refine bp H (A0 a0 a1 a2 fx0) fun x33 h H=>cl h ?_;refine go ?_;refine X9 hF rfl fun b10 s11 hF=>?_;refine go ?_;refine st hF 4 rfl fun s12 hF=>?_;refine go ?_;refine st hF 0 rfl fun s13 hF=>?_;refine go ?_;refine cdn H (fun h H=>?_) (fun h H=>?_)
  ·refine go ?_;refine st hF 2 rfl fun s14 hF=>?_;refine go ?_;have e:=pur H;subst e;exact rg _ ⟨_,_,rfl,hX,hF.pick [] [0] (by decide) (by decide)⟩
  ·refine go ?_;refine Yg E0 [.v,.v,.v,.v,.v,.v,.v,.v,.v,.v,.v,.v,.v,.v,.v] (by kernel_rfl) ?_;refine go ?_;refine bp H (YS a1 x33.1.scope 1) fun x51 h H=>cv h ?_;refine go ?_;refine bp H (Hk a0.binds x26.rules x26.lits x51) fun x52 h H=>cv h ?_;refine go ?_;refine apd (g:=ZF) hF 0 H (rdo (c:=true) (g:=ZF) Stp.X6) fun x64 H v15 s16 hF=>?_;refine go ?_;obtain ⟨x69,hx69,H⟩:=bnd H;refine cx (C1 x33.1 x33.2.1 x64 _ hx69  v15 _ (pre 0 0 1 hF hX)) ?_;rintro _ s18 ⟨t19,v17,rfl,hT,hG⟩;obtain ⟨tt20,hX,hF⟩:=aft 0 0 1 hF hX hT hG;refine go ?_;refine st hF 2 rfl fun s21 hF=>?_;refine go ?_;have e:=pur H;subst e;exact rg _ ⟨_,_,rfl,hX,hF.pick [] [0] (by decide) (by decide)⟩
 ·intro YR Yu JT C0 C1 C3 a0 a1 a2 a4 r H;intro  p4 ss hP;refine hdg mixed Tryz.func113 (rs:=[.cell 10 30,.tmp 11,.tmp 12]) fun q tT=>?_;obtain ⟨hF,hX⟩:=hP.start;generalize strip ss [⟨p4,45,13,rws ZF a4⟩]=tt0 at hF hX ⊢;refine go ?_;refine X9 hF rfl fun b1 ss2 hF=>?_;refine go ?_;refine X9 hF rfl fun b3 ss4 hF=>?_;refine go ?_;refine X9 hF rfl fun b5 ss6 hF=>?_;refine go ?_;obtain ⟨x37,g7,H⟩:=bnd H;refine Yc 4 33 37 (.bool x37) (gi q (fun q=>?_) (fun q=>?_)) (fun J=>?_)
  ·refine go ?_;exact Yt 33 g7
  ·refine go ?_;exact Yt 33 g7
  refine go ?_;refine cdb H (fun h H=>?_) (fun h H=>?_)
  ·refine go ?_;obtain ⟨E,hEq⟩:∃E,E=EE ss6 [b5]:=⟨_,rfl⟩
   have n9:¬E b3:=by rw [hEq];exact K6 (hF.at 1 rfl) (nm1 (neL hF 1 0 rfl rfl (by decide)))
   have n10:¬E b1:=by rw [hEq];exact K6 (hF.at 2 rfl) (nm1 (neL hF 2 0 rfl rfl (by decide)))
   refine Yg E [.v,.v,.v,.v,.v,.v,.x,.v,.v,.v,.x,.v,.v] (by kernel_rfl) ?_;obtain ⟨x41,f1,H⟩:=bls (g:=KZ) Fm.X6 (lo:=some (i6 1)) (hi:=none) rfl rfl H;have z:=K3 (X5 (hF.at 1 rfl) n9) (X5 (hF.at 2 rfl) n10);refine gh1 ?_;obtain ⟨x44,hx44,H⟩:=bnd H;refine cx (C0 a0 x41 a4 _ hx44  p4 _ (pre 0 0 1 hF hX)) ?_;rintro _ s12 ⟨t13,v11,rfl,hT,hG⟩
   refine V0 (Zb hT hG (by intro p hp;simp only [Kk,KE,or_false] at hp<;>first | (rcases hp with rfl<;>(rw [hEq];first | (refine Zf ?_;simp;done) | exact Zs rfl))| cases hp)) fun kp15=>?_
   obtain ⟨t14,hX,hF⟩:=aft 0 0 1 hF hX hT hG;have z:=K3 (X5 (hF.at 1 rfl) n9) (X5 (hF.at 2 rfl) n10);refine gh ?_;refine stK hF 0 (by rw [hEq];exact Zf (by simp)) rfl fun s16 hF=>?_;have z:=K3 (X5 (hF.at 1 rfl) n9) (X5 (hF.at 2 rfl) n10);refine gh ?_;refine go ?_;have e:=pur H;subst e;exact rg [.agg [sf K1 x44.1.binds,sf Ze x44.1.macs,i6 x44.1.scope,i6 x44.1.id,i6 x44.1.steps],v11,i6 x44.2.2] ⟨_,_,rfl,hX,hF.pick [] [0] (by decide) (by decide)⟩
  ·refine go ?_;obtain ⟨x56,g17,H⟩:=bnd H;refine Yc 4 52 56 (.bool x56) (gi q (fun q=>?_) (fun q=>?_)) (fun J=>?_)
   ·refine go ?_;exact Yt 52 g17
   ·refine go ?_;exact Yt 52 g17
   refine go ?_;obtain ⟨x64,g19,H⟩:=bnd H;refine Yc 6 58 64 (.bool x64) (gi q (fun q=>?_) (fun q=>?_)) (fun J=>?_)
   ·rw [if_pos (dbt q)] at g19;obtain ⟨x60,f1,g19⟩:=bil (g:=KZ) Fm.X6 g19;refine go1 ?_;refine go ?_;exact Yt 58 g19
   ·rw [if_neg (dbf q)] at g19;refine go ?_;exact Yt 58 g19
   refine go ?_;refine cdb H (fun h H=>?_) (fun h H=>?_)
   ·refine go ?_;obtain ⟨E,hEq⟩:∃E,E=EE ss6 [b5]:=⟨_,rfl⟩
    have n21:¬E b3:=by rw [hEq];exact K6 (hF.at 1 rfl) (nm1 (neL hF 1 0 rfl rfl (by decide)))
    have n22:¬E b1:=by rw [hEq];exact K6 (hF.at 2 rfl) (nm1 (neL hF 2 0 rfl rfl (by decide)))
    refine Yg E [.v,.v,.v,.v,.v,.v,.v,.v,.v,.v,.v,.v,.x,.v,.v,.v,.x,.v,.v] (by kernel_rfl) ?_;obtain ⟨x68,f1,H⟩:=bil (g:=KZ) Fm.X6 H;obtain ⟨x73,f2,H⟩:=bil (g:=KZ) Fm.X6 H;have z:=K3 (X5 (hF.at 1 rfl) n21) (X5 (hF.at 2 rfl) n22);refine gh2 ?_;obtain ⟨x77,hx77,H⟩:=bnd H;refine cx (C3 a0 x68.kids x73 a4 _ hx77  p4 _ (pre 0 0 1 hF hX)) ?_;rintro _ s24 ⟨t25,v23,rfl,hT,hG⟩
    refine V0 (Zb hT hG (by intro p hp;simp only [Kk,KE,or_false] at hp<;>first | (rcases hp with rfl<;>(rw [hEq];first | (refine Zf ?_;simp;done) | exact Zs rfl))| cases hp)) fun kp27=>?_
    obtain ⟨t26,hX,hF⟩:=aft 0 0 1 hF hX hT hG;have z:=K3 (X5 (hF.at 1 rfl) n21) (X5 (hF.at 2 rfl) n22);refine gh ?_;refine stK hF 0 (by rw [hEq];exact Zf (by simp)) rfl fun s28 hF=>?_;have z:=K3 (X5 (hF.at 1 rfl) n21) (X5 (hF.at 2 rfl) n22);refine gh ?_;refine go ?_;have e:=pur H;subst e;exact rg [.agg [sf K1 x77.1.binds,sf Ze x77.1.macs,i6 x77.1.scope,i6 x77.1.id,i6 x77.1.steps],v23,i6 x77.2.2] ⟨_,_,rfl,hX,hF.pick [] [0] (by decide) (by decide)⟩
   ·refine go ?_;obtain ⟨x89,g29,H⟩:=bnd H;refine Yc 4 85 89 (.bool x89) (gi q (fun q=>?_) (fun q=>?_)) (fun J=>?_)
    ·refine go ?_;exact Yt 85 g29
    ·refine go ?_;exact Yt 85 g29
    refine go ?_;refine cdb H (fun h H=>?_) (fun h H=>?_)
    ·obtain ⟨x93,f1,H⟩:=bil (g:=KZ) Fm.X6 H;refine go1 ?_;refine bp H (Hc x93) fun x95 h H=>cl h ?_;refine go ?_;refine cdb H (fun h H=>?_) (fun h H=>?_)
     ·refine go ?_;refine st hF 0 rfl fun s31 hF=>?_;refine go ?_;have e:=pur H;subst e;exact rg _ ⟨_,_,rfl,hX,hF.pick [] [0] (by decide) (by decide)⟩
     ·refine go ?_;obtain ⟨x108,hx108,H⟩:=bnd H;refine cx (C0 a0 x95.2.1 a4 _ hx108  p4 _ (pre 0 0 1 hF hX)) ?_;rintro _ s33 ⟨t34,v32,rfl,hT,hG⟩;obtain ⟨t35,hX,hF⟩:=aft 0 0 1 hF hX hT hG;refine go ?_;refine X9 hF rfl fun b36 s37 hF=>?_;refine go ?_;refine st hF 0 rfl fun s38 hF=>?_;refine go ?_;refine cdn H (fun h H=>?_) (fun h H=>?_)
      ·refine go ?_;refine st hF 1 rfl fun s39 hF=>?_;refine go ?_;have e:=pur H;subst e;exact rg _ ⟨_,_,rfl,hX,hF.pick [] [0] (by decide) (by decide)⟩
      ·refine go ?_;obtain ⟨E,hEq⟩:∃E,E=EE s38 [b5]:=⟨_,rfl⟩
       have n40:¬E b36:=by rw [hEq];exact K6 (hF.at 0 rfl) (nm1 (neL hF 0 1 rfl rfl (by decide)))
       have n41:¬E b3:=by rw [hEq];exact K6 (hF.at 2 rfl) (nm1 (neL hF 2 1 rfl rfl (by decide)))
       have n42:¬E b1:=by rw [hEq];exact K6 (hF.at 3 rfl) (nm1 (neL hF 3 1 rfl rfl (by decide)))
       refine Yg E [.v,.v,.v,.v,.v,.v,.v,.v,.x,.v,.v,.v,.x,.v,.v] (by kernel_rfl) ?_;obtain ⟨x121,f1,H⟩:=bil (g:=KZ) Fm.X6 H;have z:=K3 (X5 (hF.at 0 rfl) n40) (K3 (X5 (hF.at 2 rfl) n41) (X5 (hF.at 3 rfl) n42));refine gh1 ?_;obtain ⟨x125,hx125,H⟩:=bnd H;refine cx (C3 x108.1 x95.1 x121 x108.2.1 _ hx125  v32 _ (pre 0 0 1 hF hX)) ?_;rintro _ s44 ⟨t45,v43,rfl,hT,hG⟩
       refine V0 (Zb hT hG (by intro p hp;simp only [Kk,KE,or_false] at hp<;>first | (rcases hp with rfl<;>(rw [hEq];first | (refine Zf ?_;simp;done) | exact Zs rfl))| cases hp)) fun kp47=>?_
       obtain ⟨tt46,hX,hF⟩:=aft 0 0 1 hF hX hT hG;have z:=K3 (X5 (hF.at 0 rfl) n40) (K3 (X5 (hF.at 2 rfl) n41) (X5 (hF.at 3 rfl) n42));refine gh ?_;refine stK hF 1 (by rw [hEq];exact Zf (by simp)) rfl fun s48 hF=>?_;have z:=K3 (X5 (hF.at 0 rfl) n40) (K3 (X5 (hF.at 2 rfl) n41) (X5 (hF.at 3 rfl) n42));refine gh ?_;refine go ?_;have e:=pur H;subst e;exact rg [.agg [sf K1 x125.1.binds,sf Ze x125.1.macs,i6 x125.1.scope,i6 x125.1.id,i6 x125.1.steps],v43,i6 x125.2.2] ⟨_,_,rfl,hX,hF.pick [] [0] (by decide) (by decide)⟩
    ·refine go ?_;obtain ⟨x137,g49,H⟩:=bnd H;refine Yc 4 133 137 (.bool x137) (gi q (fun q=>?_) (fun q=>?_)) (fun J=>?_)
     ·refine go ?_;exact Yt 133 g49
     ·refine go ?_;exact Yt 133 g49
     refine go ?_;refine cdb H (fun h H=>?_) (fun h H=>?_)
     ·obtain ⟨x141,f1,H⟩:=bil (g:=KZ) Fm.X6 H;refine go1 ?_;refine bp H (Hc x141) fun x143 h H=>cl h ?_;refine go ?_;refine cdb H (fun h H=>?_) (fun h H=>?_)
      ·refine go ?_;refine st hF 0 rfl fun s51 hF=>?_;refine go ?_;have e:=pur H;subst e;exact rg _ ⟨_,_,rfl,hX,hF.pick [] [0] (by decide) (by decide)⟩
      ·refine go ?_;refine bp H (BA a0 x143.1 x143.2.1 (Fm.mk 2 zB 0 [] []) fx0) fun x157 h H=>cl h ?_;refine go ?_;refine X9 hF rfl fun b52 s53 hF=>?_;refine go ?_;refine X9 hF rfl fun b54 s55 hF=>?_;refine go ?_;refine st hF 1 rfl fun s56 hF=>?_;refine go ?_;refine st hF 0 rfl fun s57 hF=>?_;refine go ?_;refine Yg E0 [.v,.v,.v,.v,.v,.v,.v,.x,.z] (by kernel_rfl) ?_;obtain ⟨x163,f1,H⟩:=bil (g:=KZ) Fm.X6 H;refine go1 ?_;refine bp H (YS x163 x157.1.scope 0) fun x167 h H=>cv h ?_;refine go ?_;refine WY hF rfl fun b58 s59 hF=>?_;refine go ?_;refine st hF 0 rfl fun s60 hF=>?_;refine go ?_;obtain ⟨x174,g61,H⟩:=bnd H;refine Yc 3 171 174 (.bool x174) (giN q (fun q=>?_) (fun q=>?_)) (fun J=>?_)
       ·rw [if_pos (dnf q)] at g61;refine go ?_;obtain ⟨x172,hx172,g61⟩:=bnd g61;refine cl (Yv x167 _ hx172) ?_;refine go ?_;exact Yt 171 g61
       ·rw [if_neg (dnt q)] at g61;refine go ?_;exact Yt 171 g61
       refine go ?_;refine cdb H (fun h H=>?_) (fun h H=>?_)
       ·refine go ?_;obtain ⟨E,hEq⟩:∃E,E=EE s60 [b5]:=⟨_,rfl⟩
        have n63:¬E b58:=by rw [hEq];exact K6 (hF.at 0 rfl) (nm1 (neL hF 0 3 rfl rfl (by decide)))
        have n64:¬E b54:=by rw [hEq];exact K6 (hF.at 1 rfl) (nm1 (neL hF 1 3 rfl rfl (by decide)))
        have n65:¬E b52:=by rw [hEq];exact K6 (hF.at 2 rfl) (nm1 (neL hF 2 3 rfl rfl (by decide)))
        have n66:¬E b3:=by rw [hEq];exact K6 (hF.at 4 rfl) (nm1 (neL hF 4 3 rfl rfl (by decide)))
        have n67:¬E b1:=by rw [hEq];exact K6 (hF.at 5 rfl) (nm1 (neL hF 5 3 rfl rfl (by decide)))
        refine Yg E [.v,.v,.v,.v,.x,.v,.v] (by kernel_rfl) ?_;have z:=K3 (X5 (hF.at 0 rfl) n63) (K3 (X5 (hF.at 1 rfl) n64) (K3 (X5 (hF.at 2 rfl) n65) (K3 (X5 (hF.at 4 rfl) n66) (X5 (hF.at 5 rfl) n67))));refine gh ?_;refine bp H (CF x157.2.2) fun x178 h H=>cv h ?_;have z:=K3 (X5 (hF.at 0 rfl) n63) (K3 (X5 (hF.at 1 rfl) n64) (K3 (X5 (hF.at 2 rfl) n65) (K3 (X5 (hF.at 4 rfl) n66) (X5 (hF.at 5 rfl) n67))));refine gh ?_;refine stK hF 3 (by rw [hEq];exact Zf (by simp)) rfl fun s68 hF=>?_;have z:=K3 (X5 (hF.at 0 rfl) n63) (K3 (X5 (hF.at 1 rfl) n64) (K3 (X5 (hF.at 2 rfl) n65) (K3 (X5 (hF.at 4 rfl) n66) (X5 (hF.at 5 rfl) n67))));refine gh ?_;refine go ?_;have e:=pur H;subst e;exact rg [.agg [sf K1 x157.1.binds,sf Ze x157.1.macs,i6 x157.1.scope,i6 x157.1.id,i6 x157.1.steps],p4,i6 x178] ⟨_,_,rfl,hX,hF.pick [] [0] (by decide) (by decide)⟩
       ·refine go ?_;obtain ⟨x183,hx183,H⟩:=bnd H;refine cx (C1 x157.1 x167 a4 _ hx183  p4 _ (pre 0 0 1 hF hX)) ?_;rintro _ s70 ⟨t71,v69,rfl,hT,hG⟩;obtain ⟨tt72,hX,hF⟩:=aft 0 0 1 hF hX hT hG;refine go ?_;refine st hF 3 rfl fun s73 hF=>?_;refine go ?_;have e:=pur H;subst e;exact rg _ ⟨_,_,rfl,hX,hF.pick [] [0] (by decide) (by decide)⟩
     ·refine go ?_;refine bp H (CM a0 a1 a2 fx0) fun x192 h H=>cl h ?_;refine go ?_;refine X9 hF rfl fun b74 s75 hF=>?_;refine go ?_;refine X9 hF rfl fun b76 s77 hF=>?_;refine go ?_;refine st hF 1 rfl fun s78 hF=>?_;refine go ?_;refine st hF 0 rfl fun s79 hF=>?_;refine go ?_;refine st hF 2 rfl fun s80 hF=>?_;refine go ?_;have e:=pur H;subst e;exact rg _ ⟨_,_,rfl,hX,hF.pick [] [0] (by decide) (by decide)⟩
 ·intro Yu C1 a0 a1 a2 a4 r H;intro  p4 ss hP;refine hdg mixed Tryz.func140 (rs:=[.cell 10 30,.tmp 11,.tmp 12]) fun q tT=>?_;obtain ⟨hF,hX⟩:=hP.start;generalize strip ss [⟨p4,45,13,rws ZF a4⟩]=tt0 at hF hX ⊢;refine go ?_;refine X9 hF rfl fun b1 ss2 hF=>?_;refine go ?_;refine X9 hF rfl fun b3 ss4 hF=>?_;refine go ?_;refine X9 hF rfl fun b5 ss6 hF=>?_;refine go ?_;refine bp H (DL a0 a1 (Fm.mk 2 zB 0 [] []) fx0) fun x22 h H=>cl h ?_;refine go ?_;refine X9 hF rfl fun b7 s8 hF=>?_;refine go ?_;refine X9 hF rfl fun b9 s10 hF=>?_;refine go ?_;refine st hF 1 rfl fun s11 hF=>?_;refine go ?_;refine st hF 0 rfl fun s12 hF=>?_;refine go ?_;refine cdn H (fun h H=>?_) (fun h H=>?_)
  ·refine go ?_;refine st hF 2 rfl fun s13 hF=>?_;refine go ?_;have e:=pur H;subst e;exact rg _ ⟨_,_,rfl,hX,hF.pick [] [0] (by decide) (by decide)⟩
  ·refine go ?_;refine bp H (YS a2 x22.1.scope 0) fun x34 h H=>cl h ?_;refine go ?_;refine X9 hF rfl fun b14 s15 hF=>?_;refine go ?_;refine st hF 0 rfl fun s16 hF=>?_;refine go ?_;refine bp H (Yv x34) fun x36 h H=>cl h ?_;refine go ?_;refine cdb H (fun h H=>?_) (fun h H=>?_)
   ·refine go ?_;refine st hF 3 rfl fun s17 hF=>?_;refine go ?_;have e:=pur H;subst e;exact rg _ ⟨_,_,rfl,hX,hF.pick [] [0] (by decide) (by decide)⟩
   ·refine go ?_;obtain ⟨x44,hx44,H⟩:=bnd H;refine cx (C1 x22.1 x34 a4 _ hx44  p4 _ (pre 0 0 1 hF hX)) ?_;rintro _ s19 ⟨tt20,v18,rfl,hT,hG⟩;obtain ⟨t21,hX,hF⟩:=aft 0 0 1 hF hX hT hG;refine go ?_;refine st hF 3 rfl fun s22 hF=>?_;refine go ?_;have e:=pur H;subst e;exact rg _ ⟨_,_,rfl,hX,hF.pick [] [0] (by decide) (by decide)⟩
theorem Ba:∀(a0:Xpn) (a1:List Fm) (a2:Int) (a3:List Stp) r,YR a0 a1 a2 a3=some r->∀  (p3:AV) (ss:Sto),Pre ss [] [⟨p3,45,13,rws ZF a3⟩]->Ctr K0 115 [.agg (K8 a0),sf KZ a1,i6 a2,p3] ss (fun r' ss'=>∃(tt':Sto) (w1:AV),r'=.tup [.agg (K8 r.1),w1,i6 r.2.2]/\Tau (strip ss [⟨p3,45,13,rws ZF a3⟩]) [] tt'/\Fx tt' ss' [] [⟨w1,45,13,rws ZF r.2.1⟩]):=fun a0 a1 a2 a3=>(AB a2).1 a0 a1 a3
theorem Aa:∀(a0:Xpn) (a1:Fm) (a2:Int) (a3:List Stp) r,Yu a0 a1 a2 a3=some r->∀  (p3:AV) (ss:Sto),Pre ss [] [⟨p3,45,13,rws ZF a3⟩]->Ctr K0 88 [.agg (K8 a0),.agg (KZ a1),i6 a2,p3] ss (fun r' ss'=>∃(tt':Sto) (w1:AV),r'=.tup [.agg (K8 r.1),w1,i6 r.2.2]/\Tau (strip ss [⟨p3,45,13,rws ZF a3⟩]) [] tt'/\Fx tt' ss' [] [⟨w1,45,13,rws ZF r.2.1⟩]):=fun a0 a1 a2 a3=>(AB a2).2.1 a0 a1 a3
theorem Ec:∀(a1:List Fm) (a2:Int) (Yj:List Bnd) (Yk:List Mac) (Yf Yl Ym:Int) (X8:List Stp) (VT:Int) out,Wn a1 a2 Yj Yk Yf Yl Ym X8 VT=some out->∀c,Yh Tryz.f115 0=some c->∀(Q:QT) (tt0:Sto) (b1 b3:Nat),(∀(H4:List Bnd) (H5:List Mac) (H6 H7 H8:Int) (YO:List Stp),out=Sum.inr (H4,H5,H6,H7,H8,YO)->∀(T:TT) (ss tt:Sto) (e0v0:AV),T 3=e0v0/\T 4=.ptr b1 0/\T 8=.ptr b3 0->Tau tt0 [] tt->Fx tt ss [(b3,⟨30,5,[.Yb,.Yb,i6 0,i6 0,i6 0]⟩),(b1,⟨30,5,[sf K1 H4,sf Ze H5,i6 H6,i6 H7,i6 H8]⟩)] [⟨e0v0,45,13,rws ZF YO⟩]->Q (.ex 0) ⟨T,ss⟩)->(∀r,out=Sum.inl r->∀s',IP K0 [.cell 8 30,.tmp 9,.tmp 10] (fun r' ss'=>∃(tt':Sto),r'=.tup [.agg (K8 r.1),sf ZF r.2.1,i6 r.2.2]/\Tau tt0 [] tt'/\Fx tt' ss' [] []) s'->Q .ret s')->∀(T:TT) (ss tt:Sto) (z0v0:AV),T 1=sf KZ a1/\T 2=i6 a2/\T 3=z0v0/\T 4=.ptr b1 0/\T 8=.ptr b3 0/\T 11=i6 VT->Tau tt0 [] tt->Fx tt ss [(b3,⟨30,5,[.Yb,.Yb,i6 0,i6 0,i6 0]⟩),(b1,⟨30,5,[sf K1 Yj,sf Ze Yk,i6 Yf,i6 Yl,i6 Ym]⟩)] [⟨z0v0,45,13,rws ZF X8⟩]->aLp K0 c Q ⟨T,ss⟩:=by
 intro a1 a2 Yj Yk Yf Yl Ym X8 VT;revert Yj Yk Yf Yl Ym X8 VT;refine Wn.partial_correctness a1 a2 _ ?_;intro Wn IH Yj Yk Yf Yl Ym X8 VT out H c hc Q tt0 b1 b3 hE hR T ss tt z0v0 tT hX hF;refine lpy hc rfl fun q=>go ?_;refine cdp H (fun h H=>?_) (fun h H=>?_)
 ·refine go ?_;obtain ⟨E,hEq⟩:∃E,E=EE ss []:=⟨_,rfl⟩
  have n5:¬E b3:=by rw [hEq];exact K6 (hF.at 0 rfl) (by simp)
  have n6:¬E b1:=by rw [hEq];exact K6 (hF.at 1 rfl) (by simp)
  refine Nd E [.v,.v,.v,.v,.v,.v,.v] [0,1,2,3,4,5,6] 7 12 [.v,.v,.v,.v] [8,9,10,11] [.x,.v,.v] [13,14,15] (by kernel_rfl) ?_;obtain ⟨x25,f1,H⟩:=bil (g:=KZ) Fm.X6 H;have z:=K3 (X5 (hF.at 0 rfl) n5) (X5 (hF.at 1 rfl) n6);refine gh1 ?_;refine ⟨?_,?_⟩
  ·have z:=K3 (X5 (hF.at 0 rfl) n5) (X5 (hF.at 1 rfl) n6);refine gh ?_;obtain ⟨x29,hx29,H⟩:=bnd H;refine cx (Aa (KV Yj Yk Yf Yl Ym) x25 a2 X8 _ hx29  z0v0 _ (pre 0 0 1 hF hX)) ?_;rintro _ s8 ⟨tt9,v7,rfl,hT,hG⟩
   refine V0 (Zb hT hG (by intro p hp;simp only [Kk,KE,or_false] at hp<;>first | (rcases hp with rfl<;>(rw [hEq];first | (refine Zf ?_;simp;done) | exact Zs rfl))| cases hp)) fun kp11=>?_
   obtain ⟨t10,hX,hF⟩:=aft 0 0 1 hF hX hT hG;have z:=K3 (X5 (hF.at 0 rfl) n5) (X5 (hF.at 1 rfl) n6);refine gh ?_;refine GG hF rfl fun b12 s13 nw14 mo15 hF=>?_;have z:=K3 (X5 (hF.at 1 rfl) n5) (X5 (hF.at 2 rfl) n6);refine gh ?_;refine stK hF 0 (show E _ from ((PJ kp11 (em0 hEq)) _ nw14)) rfl fun s16 hF=>?_;have z:=K3 (X5 (hF.at 1 rfl) n5) (X5 (hF.at 2 rfl) n6);refine gh ?_;refine go ?_;refine st hF 2 rfl fun s17 hF=>?_;refine go ?_;refine cdn H (fun h H=>?_) (fun h H=>?_)
   ·refine go ?_;refine st hF 1 rfl fun s18 hF=>?_;refine go ?_;exact wq (hR _ (pur H).symm _ (rg _ ⟨_,rfl,hX,K4 _⟩))
   ·refine go ?_;exact IH  x29.1.binds x29.1.macs x29.1.scope x29.1.id x29.1.steps x29.2.1 (i64.wrap (VT+1)) _ H _ rfl Q tt0 b1 b3 hE hR _ _ _ v7 S hX (hF.drop 1 0)
  ·have z:=K3 (X5 (hF.at 0 rfl) n5) (X5 (hF.at 1 rfl) n6);refine gh ?_;refine GG hF rfl fun b19 s20 nw21 mo22 hF=>?_;have z:=K3 (X5 (hF.at 1 rfl) n5) (X5 (hF.at 2 rfl) n6);refine gh ?_;obtain ⟨x29,hx29,H⟩:=bnd H;refine cx (Aa (KV Yj Yk Yf Yl Ym) x25 a2 X8 _ hx29  z0v0 _ (pre 0 0 1 hF hX)) ?_;rintro _ s24 ⟨t25,v23,rfl,hT,hG⟩
   refine V0 (Zb hT hG (by intro p hp;simp only [Kk,KE,or_false] at hp<;>first | (rcases hp with rfl<;>(rw [hEq];first | (refine Zf ?_;simp;done) | exact Zs rfl))| cases hp)) fun kp27=>?_
   obtain ⟨t26,hX,hF⟩:=aft 0 0 1 hF hX hT hG;have z:=K3 (X5 (hF.at 1 rfl) n5) (X5 (hF.at 2 rfl) n6);refine gh ?_;refine stK hF 0 (show E _ from ((em0 hEq) _ nw21)) rfl fun s28 hF=>?_;have z:=K3 (X5 (hF.at 1 rfl) n5) (X5 (hF.at 2 rfl) n6);refine gh ?_;refine go ?_;refine st hF 2 rfl fun s29 hF=>?_;refine go ?_;refine cdn H (fun h H=>?_) (fun h H=>?_)
   ·refine go ?_;refine st hF 1 rfl fun s30 hF=>?_;refine go ?_;exact wq (hR _ (pur H).symm _ (rg _ ⟨_,rfl,hX,K4 _⟩))
   ·refine go ?_;exact IH  x29.1.binds x29.1.macs x29.1.scope x29.1.id x29.1.steps x29.2.1 (i64.wrap (VT+1)) _ H _ rfl Q tt0 b1 b3 hE hR _ _ _ v23 S hX (hF.drop 1 0)
 ·refine go ?_;exact wq (hE _ _ _ _ _ _ (pur H).symm _ _ _ z0v0 S hX hF)
theorem CE:∀(a0:Xpn) (a1:List Fm) (a2:Int) (a3:List Stp) r,HM a0 a1 a2 a3=some r->∀  (p3:AV) (ss:Sto),Pre ss [] [⟨p3,45,13,rws ZF a3⟩]->Ctr K0 115 [.agg (K8 a0),sf KZ a1,i6 a2,p3] ss (fun r' ss'=>∃(tt':Sto),r'=.tup [.agg (K8 r.1),sf ZF r.2.1,i6 r.2.2]/\Tau (strip ss [⟨p3,45,13,rws ZF a3⟩]) [] tt'/\Fx tt' ss' [] []):=by
 intro a0 a1 a2 a3 r H;intro  p3 ss hP;unfold HM at H;refine hdg mixed Tryz.func115 (rs:=[.cell 8 30,.tmp 9,.tmp 10]) fun q tT=>?_;obtain ⟨hF,hX⟩:=hP.start;generalize strip ss [⟨p3,45,13,rws ZF a3⟩]=tt0 at hF hX ⊢;refine go ?_;refine X9 hF rfl fun b1 ss2 hF=>?_;refine go ?_;refine X9 hF rfl fun b3 ss4 hF=>?_;refine go ?_;obtain ⟨o31,ho31,H⟩:=bnd H;refine Ec a1 a2 a0.binds a0.macs a0.scope a0.id a0.steps a3 0 _ ho31 _ rfl _ tt0 b1 b3 ?_ ?_ _ _ _ p3 S hX hF
 ·intro Hg Hh Gl Hi Hj ER he T33 s34 t35 e32v0 tT hX hF;have he:=he.symm;subst he
  try dsimp only at H
  refine go ?_;refine st hF 0 rfl fun s36 hF=>?_;refine go ?_;have e:=pur H;subst e;exact rg _ ⟨_,rfl,hX,K4 _⟩
 ·intro r hr s' hs;subst hr;have e:=pur H;subst e;exact hsq hs
theorem Ed (fx0:Int):(∀(a0:Xpn) (a1:Fm) (a3:List Stp) r,Y5 a0 a1 fx0 a3=some r->∀  (p3:AV) (ss:Sto),Pre ss [] [⟨p3,45,13,rws ZF a3⟩]->Ctr K0 88 [.agg (K8 a0),.agg (KZ a1),i6 fx0,p3] ss (fun r' ss'=>∃(tt':Sto),r'=.tup [.agg (K8 r.1),sf ZF r.2.1,i6 r.2.2]/\Tau (strip ss [⟨p3,45,13,rws ZF a3⟩]) [] tt'/\Fx tt' ss' [] []))/\(∀(a0:Xpn) (a1:Fm) (a2:Int) (a4:List Stp) r,II a0 a1 a2 fx0 a4=some r->∀  (p4:AV) (ss:Sto),Pre ss [] [⟨p4,45,13,rws ZF a4⟩]->Ctr K0 113 [.agg (K8 a0),.agg (KZ a1),i6 a2,i6 fx0,p4] ss (fun r' ss'=>∃(tt':Sto),r'=.tup [.agg (K8 r.1),sf ZF r.2.1,i6 r.2.2]/\Tau (strip ss [⟨p4,45,13,rws ZF a4⟩]) [] tt'/\Fx tt' ss' [] []))/\(∀(a0:Xpn) (a1:List Fm) (a2:Fm) (a4:List Stp) r,HN a0 a1 a2 fx0 a4=some r->∀  (p4:AV) (ss:Sto),Pre ss [] [⟨p4,45,13,rws ZF a4⟩]->Ctr K0 140 [.agg (K8 a0),sf KZ a1,.agg (KZ a2),i6 fx0,p4] ss (fun r' ss'=>∃(tt':Sto),r'=.tup [.agg (K8 r.1),sf ZF r.2.1,i6 r.2.2]/\Tau (strip ss [⟨p4,45,13,rws ZF a4⟩]) [] tt'/\Fx tt' ss' [] []))/\(∀(a0:Xpn) (a1:Fm) (a2:Int) (a4:List Stp) r,IJ a0 a1 a2 fx0 a4=some r->∀  (p4:AV) (ss:Sto),Pre ss [] [⟨p4,45,13,rws ZF a4⟩]->Ctr K0 114 [.agg (K8 a0),.agg (KZ a1),i6 a2,i6 fx0,p4] ss (fun r' ss'=>∃(tt':Sto),r'=.tup [.agg (K8 r.1),sf ZF r.2.1,i6 r.2.2]/\Tau (strip ss [⟨p4,45,13,rws ZF a4⟩]) [] tt'/\Fx tt' ss' [] [])):=by
 have h:=Y5.mutual_partial_correctness fx0 (motive_1:=fun a0 a1 a3 r=>∀  (p3:AV) (ss:Sto),Pre ss [] [⟨p3,45,13,rws ZF a3⟩]->Ctr K0 88 [.agg (K8 a0),.agg (KZ a1),i6 fx0,p3] ss (fun r' ss'=>∃(tt':Sto),r'=.tup [.agg (K8 r.1),sf ZF r.2.1,i6 r.2.2]/\Tau (strip ss [⟨p3,45,13,rws ZF a3⟩]) [] tt'/\Fx tt' ss' [] [])) (motive_2:=fun a0 a1 a2 a4 r=>∀  (p4:AV) (ss:Sto),Pre ss [] [⟨p4,45,13,rws ZF a4⟩]->Ctr K0 114 [.agg (K8 a0),.agg (KZ a1),i6 a2,i6 fx0,p4] ss (fun r' ss'=>∃(tt':Sto),r'=.tup [.agg (K8 r.1),sf ZF r.2.1,i6 r.2.2]/\Tau (strip ss [⟨p4,45,13,rws ZF a4⟩]) [] tt'/\Fx tt' ss' [] [])) (motive_3:=fun a0 a1 a2 a4 r=>∀  (p4:AV) (ss:Sto),Pre ss [] [⟨p4,45,13,rws ZF a4⟩]->Ctr K0 113 [.agg (K8 a0),.agg (KZ a1),i6 a2,i6 fx0,p4] ss (fun r' ss'=>∃(tt':Sto),r'=.tup [.agg (K8 r.1),sf ZF r.2.1,i6 r.2.2]/\Tau (strip ss [⟨p4,45,13,rws ZF a4⟩]) [] tt'/\Fx tt' ss' [] [])) (motive_4:=fun a0 a1 a2 a4 r=>∀  (p4:AV) (ss:Sto),Pre ss [] [⟨p4,45,13,rws ZF a4⟩]->Ctr K0 140 [.agg (K8 a0),sf KZ a1,.agg (KZ a2),i6 fx0,p4] ss (fun r' ss'=>∃(tt':Sto),r'=.tup [.agg (K8 r.1),sf ZF r.2.1,i6 r.2.2]/\Tau (strip ss [⟨p4,45,13,rws ZF a4⟩]) [] tt'/\Fx tt' ss' [] [])) ?s0 ?s1 ?s2 ?s3
 ·exact ⟨h.1,h.2.2.1,h.2.2.2,h.2.1⟩
 ·intro IJ II C3 C1 a0 a1 a3 r H;intro  p3 ss hP;refine hdg mixed Tryz.func88 (rs:=[.cell 8 30,.tmp 9,.tmp 10]) fun q tT=>?_;obtain ⟨hF,hX⟩:=hP.start;generalize strip ss [⟨p3,45,13,rws ZF a3⟩]=tt0 at hF hX ⊢;refine go ?_;refine X9 hF rfl fun b1 ss2 hF=>?_;refine go ?_;refine X9 hF rfl fun b3 ss4 hF=>?_;refine go ?_;refine X9 hF rfl fun b5 ss6 hF=>?_;refine go ?_;obtain ⟨x24,g7,H⟩:=bnd H;refine Yc 4 20 24 (.bool x24) (giN q (fun q=>?_) (fun q=>?_)) (fun J=>?_)
  ·refine go ?_;exact Yt 20 g7
  ·refine go ?_;exact Yt 20 g7
  refine go ?_;refine cdb H (fun h H=>?_) (fun h H=>?_)
  ·refine go ?_;refine bp H (IT a0 a1 fx0) fun x29 h H=>cl h ?_;refine go ?_;refine X9 hF rfl fun b9 s10 hF=>?_;refine go ?_;refine X9 hF rfl fun b11 s12 hF=>?_;refine go ?_;refine st hF 1 rfl fun s13 hF=>?_;refine go ?_;refine st hF 0 rfl fun s14 hF=>?_;refine go ?_;refine st hF 2 rfl fun s15 hF=>?_;refine go ?_;have e:=pur H;subst e;exact rg _ ⟨_,rfl,hX,K4 _⟩
  ·obtain ⟨x38,f1,H⟩:=bil (g:=KZ) Fm.X6 H;refine go1 ?_;refine go ?_;refine cdp H (fun h H=>?_) (fun h H=>?_)
   ·refine go ?_;refine Yg E0 [.v,.v,.v,.v,.v,.v,.v,.v,.v,.v,.v] (by kernel_rfl) ?_;obtain ⟨x46,f1,H⟩:=bil (g:=KZ) Fm.X6 H;refine go1 ?_;refine bp H (Hr a0 x46) fun x48 h H=>cv h ?_;refine go ?_;refine cdp H (fun h H=>?_) (fun h H=>?_)
    ·refine go ?_;refine st hF 0 rfl fun s16 hF=>?_;refine go ?_;have e:=pur H;subst e;exact rg _ ⟨_,rfl,hX,K4 _⟩
    ·refine go ?_;refine cdp H (fun h H=>?_) (fun h H=>?_)
     ·refine go ?_;obtain ⟨x63,hx63,H⟩:=bnd H;refine cx (C1 a0 a1 x48.2 a3 _ hx63  p3 _ (pre 0 0 1 hF hX)) ?_;rintro _ s17 ⟨t18,rfl,hT,hG⟩;obtain ⟨t19,hX,hF⟩:=aft 0 0 1 hF hX hT hG;refine go ?_;refine st hF 0 rfl fun s20 hF=>?_;refine go ?_;have e:=pur H;subst e;exact rg _ ⟨_,rfl,hX,K4 _⟩
     ·refine go ?_;refine cdp H (fun h H=>?_) (fun h H=>?_)
      ·refine go ?_;obtain ⟨x74,hx74,H⟩:=bnd H;refine cx (C3 a0 a1 x48.2 a3 _ hx74  p3 _ (pre 0 0 1 hF hX)) ?_;rintro _ s21 ⟨t22,rfl,hT,hG⟩;obtain ⟨t23,hX,hF⟩:=aft 0 0 1 hF hX hT hG;refine go ?_;refine st hF 0 rfl fun s24 hF=>?_;refine go ?_;have e:=pur H;subst e;exact rg _ ⟨_,rfl,hX,K4 _⟩
      ·refine go ?_;obtain ⟨x83,hx83,H⟩:=bnd H;refine cx (CE a0 a1.kids fx0 a3 _ hx83  p3 _ (pre 0 0 1 hF hX)) ?_;rintro _ s25 ⟨t26,rfl,hT,hG⟩;obtain ⟨t27,hX,hF⟩:=aft 0 0 1 hF hX hT hG;refine go ?_;refine st hF 0 rfl fun s28 hF=>?_;refine go ?_;have e:=pur H;subst e;exact rg _ ⟨_,rfl,hX,K4 _⟩
   ·refine go ?_;obtain ⟨Ar,hx83_1,H⟩:=bnd H;refine cx (CE a0 a1.kids fx0 a3 _ hx83_1  p3 _ (pre 0 0 1 hF hX)) ?_;rintro _ s29 ⟨t30,rfl,hT,hG⟩;obtain ⟨tt31,hX,hF⟩:=aft 0 0 1 hF hX hT hG;refine go ?_;refine st hF 0 rfl fun s32 hF=>?_;refine go ?_;have e:=pur H;subst e;exact rg _ ⟨_,rfl,hX,K4 _⟩
 ·intro Y5 C0 a0 a1 a2 a4 r H;intro  p4 ss hP;refine hdg mixed Tryz.func114 (rs:=[.cell 10 30,.tmp 11,.tmp 12]) fun q tT=>?_;obtain ⟨hF,hX⟩:=hP.start;generalize strip ss [⟨p4,45,13,rws ZF a4⟩]=tt0 at hF hX ⊢;refine go ?_;refine X9 hF rfl fun b1 ss2 hF=>?_;refine go ?_;refine X9 hF rfl fun b3 ss4 hF=>?_;refine go ?_;refine X9 hF rfl fun b5 ss6 hF=>?_;refine go ?_;refine Yg E0 [.v,.v,.v,.v,.v,.v,.v,.x,.z] (by kernel_rfl) ?_;refine go ?_;refine bp H (Ij a0 a2) fun x25 h H=>cv h ?_;obtain ⟨x26,f1,H⟩:=bil (g:=Ze) Mac.X6 H;refine go1 ?_;refine WY hF rfl fun b7 s8 hF=>?_;refine go ?_;refine st hF 0 rfl fun s9 hF=>?_;refine go ?_;refine bp H (A0 a0 a1 a2 fx0) fun x33 h H=>cl h ?_;refine go ?_;refine X9 hF rfl fun b10 s11 hF=>?_;refine go ?_;refine st hF 4 rfl fun s12 hF=>?_;refine go ?_;refine st hF 0 rfl fun s13 hF=>?_;refine go ?_;refine cdn H (fun h H=>?_) (fun h H=>?_)
  ·refine go ?_;refine st hF 2 rfl fun s14 hF=>?_;refine go ?_;have e:=pur H;subst e;exact rg _ ⟨_,rfl,hX,K4 _⟩
  ·refine go ?_;refine Yg E0 [.v,.v,.v,.v,.v,.v,.v,.v,.v,.v,.v,.v,.v,.v,.v] (by kernel_rfl) ?_;refine go ?_;refine bp H (YS a1 x33.1.scope 1) fun x51 h H=>cv h ?_;refine go ?_;refine bp H (Hk a0.binds x26.rules x26.lits x51) fun x52 h H=>cv h ?_;refine go ?_;refine apd (g:=ZF) hF 0 H (rdo (c:=true) (g:=ZF) Stp.X6) fun x64 H v15 s16 hF=>?_;refine go ?_;obtain ⟨x69,hx69,H⟩:=bnd H;refine cx (C0 x33.1 x33.2.1 x64 _ hx69  v15 _ (pre 0 0 1 hF hX)) ?_;rintro _ s17 ⟨t18,rfl,hT,hG⟩;obtain ⟨t19,hX,hF⟩:=aft 0 0 1 hF hX hT hG;refine go ?_;refine st hF 2 rfl fun s20 hF=>?_;refine go ?_;have e:=pur H;subst e;exact rg _ ⟨_,rfl,hX,K4 _⟩
 ·intro Y5 HN C0 C2 a0 a1 a2 a4 r H;intro  p4 ss hP;refine hdg mixed Tryz.func113 (rs:=[.cell 10 30,.tmp 11,.tmp 12]) fun q tT=>?_;obtain ⟨hF,hX⟩:=hP.start;generalize strip ss [⟨p4,45,13,rws ZF a4⟩]=tt0 at hF hX ⊢;refine go ?_;refine X9 hF rfl fun b1 ss2 hF=>?_;refine go ?_;refine X9 hF rfl fun b3 ss4 hF=>?_;refine go ?_;refine X9 hF rfl fun b5 ss6 hF=>?_;refine go ?_;obtain ⟨x37,g7,H⟩:=bnd H;refine Yc 4 33 37 (.bool x37) (gi q (fun q=>?_) (fun q=>?_)) (fun J=>?_)
  ·refine go ?_;exact Yt 33 g7
  ·refine go ?_;exact Yt 33 g7
  refine go ?_;refine cdb H (fun h H=>?_) (fun h H=>?_)
  ·refine go ?_;obtain ⟨E,hEq⟩:∃E,E=EE ss6 [b5]:=⟨_,rfl⟩
   have n9:¬E b3:=by rw [hEq];exact K6 (hF.at 1 rfl) (nm1 (neL hF 1 0 rfl rfl (by decide)))
   have n10:¬E b1:=by rw [hEq];exact K6 (hF.at 2 rfl) (nm1 (neL hF 2 0 rfl rfl (by decide)))
   refine Yg E [.v,.v,.v,.v,.v,.v,.x,.v,.v,.v,.x,.v,.v] (by kernel_rfl) ?_;obtain ⟨x41,f1,H⟩:=bls (g:=KZ) Fm.X6 (lo:=some (i6 1)) (hi:=none) rfl rfl H;have z:=K3 (X5 (hF.at 1 rfl) n9) (X5 (hF.at 2 rfl) n10);refine gh1 ?_;obtain ⟨x44,hx44,H⟩:=bnd H;refine cx (Ba a0 x41 fx0 a4 _ hx44  p4 _ (pre 0 0 1 hF hX)) ?_;rintro _ s12 ⟨t13,v11,rfl,hT,hG⟩
   refine V0 (Zb hT hG (by intro p hp;simp only [Kk,KE,or_false] at hp<;>first | (rcases hp with rfl<;>(rw [hEq];first | (refine Zf ?_;simp;done) | exact Zs rfl))| cases hp)) fun kp15=>?_
   obtain ⟨t14,hX,hF⟩:=aft 0 0 1 hF hX hT hG;have z:=K3 (X5 (hF.at 1 rfl) n9) (X5 (hF.at 2 rfl) n10);refine gh ?_;refine stK hF 0 (by rw [hEq];exact Zf (by simp)) rfl fun s16 hF=>?_;have z:=K3 (X5 (hF.at 1 rfl) n9) (X5 (hF.at 2 rfl) n10);refine gh ?_;refine go ?_;have e:=pur H;subst e;exact rg [.agg [sf K1 x44.1.binds,sf Ze x44.1.macs,i6 x44.1.scope,i6 x44.1.id,i6 x44.1.steps],v11,i6 x44.2.2] ⟨_,rfl,hX,K4 _⟩
  ·refine go ?_;obtain ⟨x56,g17,H⟩:=bnd H;refine Yc 4 52 56 (.bool x56) (gi q (fun q=>?_) (fun q=>?_)) (fun J=>?_)
   ·refine go ?_;exact Yt 52 g17
   ·refine go ?_;exact Yt 52 g17
   refine go ?_;obtain ⟨x64,g19,H⟩:=bnd H;refine Yc 6 58 64 (.bool x64) (gi q (fun q=>?_) (fun q=>?_)) (fun J=>?_)
   ·rw [if_pos (dbt q)] at g19;obtain ⟨x60,f1,g19⟩:=bil (g:=KZ) Fm.X6 g19;refine go1 ?_;refine go ?_;exact Yt 58 g19
   ·rw [if_neg (dbf q)] at g19;refine go ?_;exact Yt 58 g19
   refine go ?_;refine cdb H (fun h H=>?_) (fun h H=>?_)
   ·refine go ?_;obtain ⟨E,hEq⟩:∃E,E=EE ss6 [b5]:=⟨_,rfl⟩
    have n21:¬E b3:=by rw [hEq];exact K6 (hF.at 1 rfl) (nm1 (neL hF 1 0 rfl rfl (by decide)))
    have n22:¬E b1:=by rw [hEq];exact K6 (hF.at 2 rfl) (nm1 (neL hF 2 0 rfl rfl (by decide)))
    refine Yg E [.v,.v,.v,.v,.v,.v,.v,.v,.v,.v,.v,.v,.x,.v,.v,.v,.x,.v,.v] (by kernel_rfl) ?_;obtain ⟨x68,f1,H⟩:=bil (g:=KZ) Fm.X6 H;obtain ⟨x73,f2,H⟩:=bil (g:=KZ) Fm.X6 H;have z:=K3 (X5 (hF.at 1 rfl) n21) (X5 (hF.at 2 rfl) n22);refine gh2 ?_;obtain ⟨x77,hx77,H⟩:=bnd H;refine cx (C2 a0 x68.kids x73 a4 _ hx77  p4 _ (pre 0 0 1 hF hX)) ?_;rintro _ s23 ⟨t24,rfl,hT,hG⟩
    refine V0 (Zb hT hG (by intro p hp;simp only [Kk,KE,or_false] at hp<;>first | (rcases hp with rfl<;>(rw [hEq];first | (refine Zf ?_;simp;done) | exact Zs rfl))| cases hp)) fun kp26=>?_
    obtain ⟨t25,hX,hF⟩:=aft 0 0 1 hF hX hT hG;have z:=K3 (X5 (hF.at 1 rfl) n21) (X5 (hF.at 2 rfl) n22);refine gh ?_;refine stK hF 0 (by rw [hEq];exact Zf (by simp)) rfl fun s27 hF=>?_;have z:=K3 (X5 (hF.at 1 rfl) n21) (X5 (hF.at 2 rfl) n22);refine gh ?_;refine go ?_;have e:=pur H;subst e;exact rg [.agg [sf K1 x77.1.binds,sf Ze x77.1.macs,i6 x77.1.scope,i6 x77.1.id,i6 x77.1.steps],sf ZF x77.2.1,i6 x77.2.2] ⟨_,rfl,hX,K4 _⟩
   ·refine go ?_;obtain ⟨x89,g28,H⟩:=bnd H;refine Yc 4 85 89 (.bool x89) (gi q (fun q=>?_) (fun q=>?_)) (fun J=>?_)
    ·refine go ?_;exact Yt 85 g28
    ·refine go ?_;exact Yt 85 g28
    refine go ?_;refine cdb H (fun h H=>?_) (fun h H=>?_)
    ·obtain ⟨x93,f1,H⟩:=bil (g:=KZ) Fm.X6 H;refine go1 ?_;refine bp H (Hc x93) fun x95 h H=>cl h ?_;refine go ?_;refine cdb H (fun h H=>?_) (fun h H=>?_)
     ·refine go ?_;refine st hF 0 rfl fun s30 hF=>?_;refine go ?_;have e:=pur H;subst e;exact rg _ ⟨_,rfl,hX,K4 _⟩
     ·refine go ?_;obtain ⟨x108,hx108,H⟩:=bnd H;refine cx (Ba a0 x95.2.1 fx0 a4 _ hx108  p4 _ (pre 0 0 1 hF hX)) ?_;rintro _ s32 ⟨t33,v31,rfl,hT,hG⟩;obtain ⟨t34,hX,hF⟩:=aft 0 0 1 hF hX hT hG;refine go ?_;refine X9 hF rfl fun b35 s36 hF=>?_;refine go ?_;refine st hF 0 rfl fun s37 hF=>?_;refine go ?_;refine cdn H (fun h H=>?_) (fun h H=>?_)
      ·refine go ?_;refine st hF 1 rfl fun s38 hF=>?_;refine go ?_;have e:=pur H;subst e;exact rg _ ⟨_,rfl,hX,K4 _⟩
      ·refine go ?_;obtain ⟨E,hEq⟩:∃E,E=EE s37 [b5]:=⟨_,rfl⟩
       have n39:¬E b35:=by rw [hEq];exact K6 (hF.at 0 rfl) (nm1 (neL hF 0 1 rfl rfl (by decide)))
       have n40:¬E b3:=by rw [hEq];exact K6 (hF.at 2 rfl) (nm1 (neL hF 2 1 rfl rfl (by decide)))
       have n41:¬E b1:=by rw [hEq];exact K6 (hF.at 3 rfl) (nm1 (neL hF 3 1 rfl rfl (by decide)))
       refine Yg E [.v,.v,.v,.v,.v,.v,.v,.v,.x,.v,.v,.v,.x,.v,.v] (by kernel_rfl) ?_;obtain ⟨x121,f1,H⟩:=bil (g:=KZ) Fm.X6 H;have z:=K3 (X5 (hF.at 0 rfl) n39) (K3 (X5 (hF.at 2 rfl) n40) (X5 (hF.at 3 rfl) n41));refine gh1 ?_;obtain ⟨x125,hx125,H⟩:=bnd H;refine cx (C2 x108.1 x95.1 x121 x108.2.1 _ hx125  v31 _ (pre 0 0 1 hF hX)) ?_;rintro _ s42 ⟨t43,rfl,hT,hG⟩
       refine V0 (Zb hT hG (by intro p hp;simp only [Kk,KE,or_false] at hp<;>first | (rcases hp with rfl<;>(rw [hEq];first | (refine Zf ?_;simp;done) | exact Zs rfl))| cases hp)) fun kp45=>?_
       obtain ⟨t44,hX,hF⟩:=aft 0 0 1 hF hX hT hG;have z:=K3 (X5 (hF.at 0 rfl) n39) (K3 (X5 (hF.at 2 rfl) n40) (X5 (hF.at 3 rfl) n41));refine gh ?_;refine stK hF 1 (by rw [hEq];exact Zf (by simp)) rfl fun s46 hF=>?_;have z:=K3 (X5 (hF.at 0 rfl) n39) (K3 (X5 (hF.at 2 rfl) n40) (X5 (hF.at 3 rfl) n41));refine gh ?_;refine go ?_;have e:=pur H;subst e;exact rg [.agg [sf K1 x125.1.binds,sf Ze x125.1.macs,i6 x125.1.scope,i6 x125.1.id,i6 x125.1.steps],sf ZF x125.2.1,i6 x125.2.2] ⟨_,rfl,hX,K4 _⟩
    ·refine go ?_;obtain ⟨x137,g47,H⟩:=bnd H;refine Yc 4 133 137 (.bool x137) (gi q (fun q=>?_) (fun q=>?_)) (fun J=>?_)
     ·refine go ?_;exact Yt 133 g47
     ·refine go ?_;exact Yt 133 g47
     refine go ?_;refine cdb H (fun h H=>?_) (fun h H=>?_)
     ·obtain ⟨x141,f1,H⟩:=bil (g:=KZ) Fm.X6 H;refine go1 ?_;refine bp H (Hc x141) fun x143 h H=>cl h ?_;refine go ?_;refine cdb H (fun h H=>?_) (fun h H=>?_)
      ·refine go ?_;refine st hF 0 rfl fun s49 hF=>?_;refine go ?_;have e:=pur H;subst e;exact rg _ ⟨_,rfl,hX,K4 _⟩
      ·refine go ?_;refine bp H (BA a0 x143.1 x143.2.1 (Fm.mk 2 zB 0 [] []) fx0) fun x157 h H=>cl h ?_;refine go ?_;refine X9 hF rfl fun b50 s51 hF=>?_;refine go ?_;refine X9 hF rfl fun b52 s53 hF=>?_;refine go ?_;refine st hF 1 rfl fun s54 hF=>?_;refine go ?_;refine st hF 0 rfl fun s55 hF=>?_;refine go ?_;refine Yg E0 [.v,.v,.v,.v,.v,.v,.v,.x,.z] (by kernel_rfl) ?_;obtain ⟨x163,f1,H⟩:=bil (g:=KZ) Fm.X6 H;refine go1 ?_;refine bp H (YS x163 x157.1.scope 0) fun x167 h H=>cv h ?_;refine go ?_;refine WY hF rfl fun b56 s57 hF=>?_;refine go ?_;refine st hF 0 rfl fun s58 hF=>?_;refine go ?_;obtain ⟨x174,g59,H⟩:=bnd H;refine Yc 3 171 174 (.bool x174) (giN q (fun q=>?_) (fun q=>?_)) (fun J=>?_)
       ·rw [if_pos (dnf q)] at g59;refine go ?_;obtain ⟨x172,hx172,g59⟩:=bnd g59;refine cl (Yv x167 _ hx172) ?_;refine go ?_;exact Yt 171 g59
       ·rw [if_neg (dnt q)] at g59;refine go ?_;exact Yt 171 g59
       refine go ?_;refine cdb H (fun h H=>?_) (fun h H=>?_)
       ·refine go ?_;obtain ⟨E,hEq⟩:∃E,E=EE s58 [b5]:=⟨_,rfl⟩
        have n61:¬E b56:=by rw [hEq];exact K6 (hF.at 0 rfl) (nm1 (neL hF 0 3 rfl rfl (by decide)))
        have n62:¬E b52:=by rw [hEq];exact K6 (hF.at 1 rfl) (nm1 (neL hF 1 3 rfl rfl (by decide)))
        have n63:¬E b50:=by rw [hEq];exact K6 (hF.at 2 rfl) (nm1 (neL hF 2 3 rfl rfl (by decide)))
        have n64:¬E b3:=by rw [hEq];exact K6 (hF.at 4 rfl) (nm1 (neL hF 4 3 rfl rfl (by decide)))
        have n65:¬E b1:=by rw [hEq];exact K6 (hF.at 5 rfl) (nm1 (neL hF 5 3 rfl rfl (by decide)))
        refine Yg E [.v,.v,.v,.v,.x,.v,.v] (by kernel_rfl) ?_;have z:=K3 (X5 (hF.at 0 rfl) n61) (K3 (X5 (hF.at 1 rfl) n62) (K3 (X5 (hF.at 2 rfl) n63) (K3 (X5 (hF.at 4 rfl) n64) (X5 (hF.at 5 rfl) n65))));refine gh ?_;refine bp H (CF x157.2.2) fun x178 h H=>cv h ?_;have z:=K3 (X5 (hF.at 0 rfl) n61) (K3 (X5 (hF.at 1 rfl) n62) (K3 (X5 (hF.at 2 rfl) n63) (K3 (X5 (hF.at 4 rfl) n64) (X5 (hF.at 5 rfl) n65))));refine gh ?_;refine stK hF 3 (by rw [hEq];exact Zf (by simp)) rfl fun s66 hF=>?_;have z:=K3 (X5 (hF.at 0 rfl) n61) (K3 (X5 (hF.at 1 rfl) n62) (K3 (X5 (hF.at 2 rfl) n63) (K3 (X5 (hF.at 4 rfl) n64) (X5 (hF.at 5 rfl) n65))));refine gh ?_;refine go ?_;have e:=pur H;subst e;exact rg [.agg [sf K1 x157.1.binds,sf Ze x157.1.macs,i6 x157.1.scope,i6 x157.1.id,i6 x157.1.steps],p4,i6 x178] ⟨_,rfl,hX,K4 _⟩
       ·refine go ?_;obtain ⟨x183,hx183,H⟩:=bnd H;refine cx (C0 x157.1 x167 a4 _ hx183  p4 _ (pre 0 0 1 hF hX)) ?_;rintro _ s67 ⟨t68,rfl,hT,hG⟩;obtain ⟨t69,hX,hF⟩:=aft 0 0 1 hF hX hT hG;refine go ?_;refine st hF 3 rfl fun s70 hF=>?_;refine go ?_;have e:=pur H;subst e;exact rg _ ⟨_,rfl,hX,K4 _⟩
     ·refine go ?_;refine bp H (CM a0 a1 a2 fx0) fun x192 h H=>cl h ?_;refine go ?_;refine X9 hF rfl fun b71 s72 hF=>?_;refine go ?_;refine X9 hF rfl fun b73 s74 hF=>?_;refine go ?_;refine st hF 1 rfl fun s75 hF=>?_;refine go ?_;refine st hF 0 rfl fun s76 hF=>?_;refine go ?_;refine st hF 2 rfl fun s77 hF=>?_;refine go ?_;have e:=pur H;subst e;exact rg _ ⟨_,rfl,hX,K4 _⟩
 ·intro Y5 C0 a0 a1 a2 a4 r H;intro  p4 ss hP;refine hdg mixed Tryz.func140 (rs:=[.cell 10 30,.tmp 11,.tmp 12]) fun q tT=>?_;obtain ⟨hF,hX⟩:=hP.start;generalize strip ss [⟨p4,45,13,rws ZF a4⟩]=tt0 at hF hX ⊢;refine go ?_;refine X9 hF rfl fun b1 ss2 hF=>?_;refine go ?_;refine X9 hF rfl fun b3 ss4 hF=>?_;refine go ?_;refine X9 hF rfl fun b5 ss6 hF=>?_;refine go ?_;refine bp H (DL a0 a1 (Fm.mk 2 zB 0 [] []) fx0) fun x22 h H=>cl h ?_;refine go ?_;refine X9 hF rfl fun b7 s8 hF=>?_;refine go ?_;refine X9 hF rfl fun b9 s10 hF=>?_;refine go ?_;refine st hF 1 rfl fun s11 hF=>?_;refine go ?_;refine st hF 0 rfl fun s12 hF=>?_;refine go ?_;refine cdn H (fun h H=>?_) (fun h H=>?_)
  ·refine go ?_;refine st hF 2 rfl fun s13 hF=>?_;refine go ?_;have e:=pur H;subst e;exact rg _ ⟨_,rfl,hX,K4 _⟩
  ·refine go ?_;refine bp H (YS a2 x22.1.scope 0) fun x34 h H=>cl h ?_;refine go ?_;refine X9 hF rfl fun b14 s15 hF=>?_;refine go ?_;refine st hF 0 rfl fun s16 hF=>?_;refine go ?_;refine bp H (Yv x34) fun x36 h H=>cl h ?_;refine go ?_;refine cdb H (fun h H=>?_) (fun h H=>?_)
   ·refine go ?_;refine st hF 3 rfl fun s17 hF=>?_;refine go ?_;have e:=pur H;subst e;exact rg _ ⟨_,rfl,hX,K4 _⟩
   ·refine go ?_;obtain ⟨x44,hx44,H⟩:=bnd H;refine cx (C0 x22.1 x34 a4 _ hx44  p4 _ (pre 0 0 1 hF hX)) ?_;rintro _ s18 ⟨t19,rfl,hT,hG⟩;obtain ⟨tt20,hX,hF⟩:=aft 0 0 1 hF hX hT hG;refine go ?_;refine st hF 3 rfl fun s21 hF=>?_;refine go ?_;have e:=pur H;subst e;exact rg _ ⟨_,rfl,hX,K4 _⟩
theorem Bx:∀(a0:Xpn) (a1:Fm) (a2:Int) (a3:List Stp) r,Y5 a0 a1 a2 a3=some r->∀  (p3:AV) (ss:Sto),Pre ss [] [⟨p3,45,13,rws ZF a3⟩]->Ctr K0 88 [.agg (K8 a0),.agg (KZ a1),i6 a2,p3] ss (fun r' ss'=>∃(tt':Sto),r'=.tup [.agg (K8 r.1),sf ZF r.2.1,i6 r.2.2]/\Tau (strip ss [⟨p3,45,13,rws ZF a3⟩]) [] tt'/\Fx tt' ss' [] []):=fun a0 a1 a2 a3=>(Ed a2).1 a0 a1 a3
theorem MD:∀(a0 a1:Int) r,Aj a0 a1=some r->Vb K0 154 [i6 a0,i6 a1] (.bool r):=by
 intro a0 a1 r H;intro ss;unfold Aj at H;refine hdh mixed Tryz.func154 (rs:=[.tmp 4]) fun q tT hF hX=>?_;refine go ?_;obtain ⟨Qil,j2,H⟩:=bnd H;refine Vy (fun s'=>∃(T:TT) (ss1:Sto),s'=⟨T,ss1⟩/\(T 0=i6 a0/\T 1=i6 a1/\T 5=i6 a0/\T 6=.bool Qil)/\Fx ss ss1 [] []) (cdp j2 (fun h j2=>?_) (fun h j2=>?_)) ?_
 ·refine go ?_;have e:=pur j2;subst e;exact ⟨_,_,rfl,S,hF⟩
 ·refine go ?_;refine cdp j2 (fun h j2=>?_) (fun h j2=>?_)
  ·refine go ?_;have e:=pur j2;subst e;exact ⟨_,_,rfl,S,hF⟩
  ·refine go ?_;refine cdp j2 (fun h j2=>?_) (fun h j2=>?_)
   ·refine go ?_;have e:=pur j2;subst e;exact ⟨_,_,rfl,S,hF⟩
   ·refine go ?_;have e:=pur j2;subst e;exact ⟨_,_,rfl,S,hF⟩
 ·rintro s' ⟨T3,ss4,rfl,tT,hF⟩;refine go ?_;refine cdb H (fun h H=>?_) (fun h H=>?_)
  ·refine go ?_;have e:=pur H;subst e;exact rt _
  ·refine go ?_;refine cdp H (fun h H=>?_) (fun h H=>?_)
   ·refine go ?_;have e:=pur H;subst e;exact rt _
   ·refine go ?_;refine cdp H (fun h H=>?_) (fun h H=>?_)
    ·refine go ?_;have e:=pur H;subst e;exact rt _
    ·refine go ?_;obtain ⟨x26,g6,H⟩:=bnd H;refine Yc 2 24 26 (.bool x26) (gi q (fun q=>?_) (fun q=>?_)) (fun J=>?_)
     ·refine go ?_;exact Yt 24 g6
     ·refine go ?_;exact Yt 24 g6
     refine go ?_;have e:=pur H;subst e;exact rt _
theorem Fz:∀(a0:Cor) r,Hp a0=some r->Vb K0 155 [.agg (ZG a0)] (.bool r):=by
 intro a0 r H;intro ss;unfold Hp at H;refine hdh mixed Tryz.func155 (rs:=[.tmp 2]) fun q tT hF hX=>?_;refine go ?_;refine X9 hF rfl fun b1 ss2 hF=>?_;refine go ?_;obtain ⟨x15,g3,H⟩:=bnd H;refine Yc 8 7 15 (.bool x15) (gi q (fun q=>?_) (fun q=>?_)) (fun J=>?_)
 ·rw [if_pos (dt q)] at g3;refine go ?_;obtain ⟨x14,g5,g3⟩:=bnd g3;refine Yc 3 11 14 (.bool x14) (giN q (fun q=>?_) (fun q=>?_)) (fun J=>?_)
  ·refine go ?_;exact Yt 11 g5
  ·refine go ?_;exact Yt 11 g5
  refine go ?_;exact Yt 7 g3
 ·rw [if_neg (df q)] at g3;refine go ?_;exact Yt 7 g3
 refine go ?_;obtain ⟨x25,g7,H⟩:=bnd H;refine Yc 8 17 25 (.bool x25) (giN q (fun q=>?_) (fun q=>?_)) (fun J=>?_)
 ·rw [if_neg (dbf q)] at g7;refine go ?_;obtain ⟨x24,g9,g7⟩:=bnd g7;refine Yc 3 21 24 (.bool x24) (gi q (fun q=>?_) (fun q=>?_)) (fun J=>?_)
  ·refine go ?_;exact Yt 21 g9
  ·refine go ?_;exact Yt 21 g9
  refine go ?_;exact Yt 17 g7
 ·rw [if_pos (dbt q)] at g7;refine go ?_;exact Yt 17 g7
 refine go ?_;refine cdb H (fun h H=>?_) (fun h H=>?_)
 ·refine go ?_;have e:=pur H;subst e;exact rt _
 ·refine go ?_;obtain ⟨x34,g11,H⟩:=bnd H;refine Yc 4 30 34 (.bool x34) (gi q (fun q=>?_) (fun q=>?_)) (fun J=>?_)
  ·rw [if_pos (dt q)] at g11;refine go ?_;obtain ⟨x32,hx32,g11⟩:=bnd g11;refine cl (Iq a0.name _ hx32) ?_;refine go ?_;exact Yt 30 g11
  ·rw [if_neg (df q)] at g11;refine go ?_;exact Yt 30 g11
  refine go ?_;obtain ⟨x44,g13,H⟩:=bnd H;refine Yc 8 36 44 (.bool x44) (giN q (fun q=>?_) (fun q=>?_)) (fun J=>?_)
  ·rw [if_neg (dbf q)] at g13;refine go ?_;obtain ⟨x43,g15,g13⟩:=bnd g13;refine Yc 3 40 43 (.bool x43) (gi q (fun q=>?_) (fun q=>?_)) (fun J=>?_)
   ·refine go ?_;exact Yt 40 g15
   ·refine go ?_;exact Yt 40 g15
   refine go ?_;exact Yt 36 g13
  ·rw [if_pos (dbt q)] at g13;refine go ?_;exact Yt 36 g13
  refine go ?_;refine cdb H (fun h H=>?_) (fun h H=>?_)
  ·refine go ?_;have e:=pur H;subst e;exact rt _
  ·refine go ?_;obtain ⟨x57,g17,H⟩:=bnd H;refine Yc 8 49 57 (.bool x57) (gi q (fun q=>?_) (fun q=>?_)) (fun J=>?_)
   ·rw [if_pos (dt q)] at g17;refine go ?_;obtain ⟨x56,g19,g17⟩:=bnd g17;refine Yc 3 53 56 (.bool x56) (giN q (fun q=>?_) (fun q=>?_)) (fun J=>?_)
    ·refine go ?_;exact Yt 53 g19
    ·refine go ?_;exact Yt 53 g19
    refine go ?_;exact Yt 49 g17
   ·rw [if_neg (df q)] at g17;refine go ?_;exact Yt 49 g17
   refine go ?_;obtain ⟨x67,g21,H⟩:=bnd H;refine Yc 8 59 67 (.bool x67) (giN q (fun q=>?_) (fun q=>?_)) (fun J=>?_)
   ·rw [if_neg (dbf q)] at g21;refine go ?_;obtain ⟨x66,g23,g21⟩:=bnd g21;refine Yc 3 63 66 (.bool x66) (gi q (fun q=>?_) (fun q=>?_)) (fun J=>?_)
    ·refine go ?_;exact Yt 63 g23
    ·refine go ?_;exact Yt 63 g23
    refine go ?_;exact Yt 59 g21
   ·rw [if_pos (dbt q)] at g21;refine go ?_;exact Yt 59 g21
   refine go ?_;refine cdb H (fun h H=>?_) (fun h H=>?_)
   ·refine go ?_;have e:=pur H;subst e;exact rt _
   ·refine go ?_;refine Yg E0 [.v,.v,.v,.v,.v,.v,.v,.v,.v,.v,.v,.v,.v,.v,.v,.v,.v,.v,.v,.v,.v,.v,.v,.v,.v,.v,.v,.v,.v,.v] (by kernel_rfl) ?_;refine go ?_;obtain ⟨x85,g25,H⟩:=bnd H;refine W6 13 72 85 (.bool x85) (ti q (fun q=>?_) (fun q=>?_)) (fun J=>?_)
    ·rw [if_pos (dt q)] at g25;refine go ?_;obtain ⟨x74,hx74,g25⟩:=bnd g25;refine cv (Yv a0.data _ hx74) ?_;refine go ?_;obtain ⟨x84,g27,g25⟩:=bnd g25;refine W6 7 77 84 (.bool x84) (tiN q (fun q=>?_) (fun q=>?_)) (fun J=>?_)
     ·rw [if_neg (dbf q)] at g27;refine go ?_;obtain ⟨x79,hx79,g27⟩:=bnd g27;refine cv (Hl a0.data _ hx79) ?_;refine go ?_;obtain ⟨x82,hx82,g27⟩:=bnd g27;refine cv (JD x79 a0.data _ hx82) ?_;refine go ?_;exact Yt 77 g27
     ·rw [if_pos (dbt q)] at g27;refine go ?_;exact Yt 77 g27
     refine go ?_;exact Yt 72 g25
    ·rw [if_neg (df q)] at g25;refine go ?_;exact Yt 72 g25
    refine go ?_;obtain ⟨x97,g29,H⟩:=bnd H;refine W6 10 87 97 (.bool x97) (tiN q (fun q=>?_) (fun q=>?_)) (fun J=>?_)
    ·rw [if_neg (dbf q)] at g29;refine go ?_;obtain ⟨x96,g31,g29⟩:=bnd g29;refine W6 5 91 96 (.bool x96) (ti q (fun q=>?_) (fun q=>?_)) (fun J=>?_)
     ·rw [if_neg (dnt q)] at g31;refine go ?_;obtain ⟨x94,hx94,g31⟩:=bnd g31;refine cv (JD a0.data (Fm.mk 0 zB 0 [] []) _ hx94) ?_;refine go ?_;exact Yt 91 g31
     ·rw [if_pos (dnf q)] at g31;refine go ?_;exact Yt 91 g31
     refine go ?_;exact Yt 87 g29
    ·rw [if_pos (dbt q)] at g29;refine go ?_;exact Yt 87 g29
    refine go ?_;refine cdb H (fun h H=>?_) (fun h H=>?_)
    ·refine go ?_;have e:=pur H;subst e;exact rt _
    ·refine go ?_;obtain ⟨x106,g33,H⟩:=bnd H;refine Yc 4 102 106 (.bool x106) (giN q (fun q=>?_) (fun q=>?_)) (fun J=>?_)
     ·refine go ?_;exact Yt 102 g33
     ·refine go ?_;exact Yt 102 g33
     refine go ?_;have e:=pur H;subst e;exact rt _
theorem LC:∀(a0:Cor) (a2:Int) (Yq:List Int) (YI:Int) out,JL a0 a2 Yq YI=some out->∀c,Yh Tryz.f126 0=some c->∀(Q:QT) (tt:Sto) (b1:Nat),(∀(U2:List Int),out=Sum.inr U2->∀(T:TT) (ss:Sto),T 2=i6 a2/\T 3=.ptr b1 0/\T 7=sf cI U2->Fx tt ss [(b1,⟨105,11,[i6 a0.kind,i6 a0.id,.str a0.name,i6 a0.num,sf cI a0.ids,i6 a0.data.kind,.str a0.data.name,i6 a0.data.num,sf cI a0.data.sc,sf KZ a0.data.kids,sf ZG a0.kids]⟩)] []->Q (.ex 0) ⟨T,ss⟩)->(∀r,out=Sum.inl r->∀s',IP K0 [.tmp 6] (fun r' ss'=>r'=.bool r/\ss'=tt) s'->Q .ret s')->∀(T:TT) (ss:Sto),T 2=i6 a2/\T 3=.ptr b1 0/\T 7=sf cI Yq/\T 8=i6 YI->Fx tt ss [(b1,⟨105,11,[i6 a0.kind,i6 a0.id,.str a0.name,i6 a0.num,sf cI a0.ids,i6 a0.data.kind,.str a0.data.name,i6 a0.data.num,sf cI a0.data.sc,sf KZ a0.data.kids,sf ZG a0.kids]⟩)] []->aLp K0 c Q ⟨T,ss⟩:=by
 intro a0 a2 Yq YI;revert Yq YI;refine JL.partial_correctness a0 a2 _ ?_;intro JL IH Yq YI out H c hc Q tt b1 hE hR T ss tT hF;refine lpx tt hc rfl fun q hX=>go ?_;refine cdp H (fun h H=>?_) (fun h H=>?_)
 ·obtain ⟨x49,f1,H⟩:=bil (g:=cI) (fun _=>rfl) H;refine go1 ?_;obtain ⟨x59,g11,H⟩:=bnd H;refine Yc 6 53 59 (.bool x59) (giN q (fun q=>?_) (fun q=>?_)) (fun J=>?_)
  ·rw [if_neg (df q)] at g11;obtain ⟨x56,f1,g11⟩:=bil (g:=cI) (fun _=>rfl) g11;refine go1 ?_;refine go ?_;exact Yt 53 g11
  ·rw [if_pos (dt q)] at g11;refine go ?_;exact Yt 53 g11
  refine go ?_;obtain ⟨x68,g13,H⟩:=bnd H;refine Yc 7 61 68 (.bool x68) (giN q (fun q=>?_) (fun q=>?_)) (fun J=>?_)
  ·rw [if_neg (dbf q)] at g13;obtain ⟨x65,f1,g13⟩:=bil (g:=cI) (fun _=>rfl) g13;refine go1 ?_;obtain ⟨x67,hx67,g13⟩:=bnd g13;refine cl (Ig Yq x65 _ hx67) ?_;refine go ?_;exact Yt 61 g13
  ·rw [if_pos (dbt q)] at g13;refine go ?_;exact Yt 61 g13
  refine go ?_;refine cdb H (fun h H=>?_) (fun h H=>?_)
  ·refine go ?_;exact wq (hR _ (pur H).symm _ (rt _))
  ·refine go ?_;refine FD E0 [.v,.v,.v,.v,.v,.v,.v,.v,.x,.x,.v] [0,1,3,4,5,6,7,8,2,9,10] (by kernel_rfl) ?_;obtain ⟨x75,f1,H⟩:=bil (g:=cI) (fun _=>rfl) H;refine go1 ?_;have hF:=hF.lit 3 1 (rws cI []) rfl;refine Pr (g:=cI) hF 0 H (rdo (c:=false) (g:=cI) (fun _=>rfl)) fun x71 H v15 s16 hF=>?_;refine go ?_;refine Qna (g:=cI) hF 0 H (rdo (c:=true) (g:=cI) (fun _=>rfl)) fun x78 H s18 hF=>?_;refine go ?_;exact IH  x78 (i64.wrap (YI+1)) _ H _ rfl Q tt b1 hE hR _ _  S hF
 ·refine go ?_;exact wq (hE _ (pur H).symm _ _  S hF)
theorem OV:∀(a0:Cor) (a1:List Int) (a2:Int) r,Ii a0 a1 a2=some r->Vb K0 126 [.agg (ZG a0),sf cI a1,i6 a2] (.bool r):=by
 refine Ii.partial_correctness _ (motive_2:=fun a0 a2 HV Gg out=>∀c,Yh Tryz.f126 1=some c->∀(Q:QT) (tt:Sto) (b1:Nat),(∀(_u:Unit),out=Sum.inr ()->∀(T:TT) (ss:Sto),0+0=0->Fx tt ss [(b1,⟨105,11,[i6 a0.kind,i6 a0.id,.str a0.name,i6 a0.num,sf cI a0.ids,i6 a0.data.kind,.str a0.data.name,i6 a0.data.num,sf cI a0.data.sc,sf KZ a0.data.kids,sf ZG a0.kids]⟩)] []->Q (.ex 2) ⟨T,ss⟩)->(∀r,out=Sum.inl r->∀s',IP K0 [.tmp 6] (fun r' ss'=>r'=.bool r/\ss'=tt) s'->Q .ret s')->∀(T:TT) (ss:Sto),T 2=i6 a2/\T 3=.ptr b1 0/\T 7=sf cI HV/\T 9=i6 Gg->Fx tt ss [(b1,⟨105,11,[i6 a0.kind,i6 a0.id,.str a0.name,i6 a0.num,sf cI a0.ids,i6 a0.data.kind,.str a0.data.name,i6 a0.data.num,sf cI a0.data.sc,sf KZ a0.data.kids,sf ZG a0.kids]⟩)] []->aLp K0 c Q ⟨T,ss⟩) ?_ ?_
 ·intro Gj L0 a0 a1 a2 r H;intro ss;refine hdh mixed Tryz.func126 (rs:=[.tmp 6]) fun q tT hF hX=>?_;refine go ?_;refine X9 hF rfl fun b1 ss2 hF=>?_;refine go ?_;obtain ⟨x20,g3,H⟩:=bnd H;refine Yc 7 13 20 (.bool x20) (giN q (fun q=>?_) (fun q=>?_)) (fun J=>?_)
  ·rw [if_neg (df q)] at g3;refine go ?_;obtain ⟨x18,hx18,g3⟩:=bnd g3;refine cl (MD a0.kind (a0.kids.length:Int) _ hx18) ?_;refine go ?_;exact Yt 13 g3
  ·rw [if_pos (dt q)] at g3;refine go ?_;exact Yt 13 g3
  refine go ?_;obtain ⟨x25,g5,H⟩:=bnd H;refine Yc 3 22 25 (.bool x25) (giN q (fun q=>?_) (fun q=>?_)) (fun J=>?_)
  ·rw [if_neg (dbf q)] at g5;refine go ?_;obtain ⟨x23,hx23,g5⟩:=bnd g5;refine cl (Fz a0 _ hx23) ?_;refine go ?_;exact Yt 22 g5
  ·rw [if_pos (dbt q)] at g5;refine go ?_;exact Yt 22 g5
  refine go ?_;obtain ⟨x37,g7,H⟩:=bnd H;refine Yc 10 27 37 (.bool x37) (giN q (fun q=>?_) (fun q=>?_)) (fun J=>?_)
  ·rw [if_neg (dbf q)] at g7;refine go ?_;obtain ⟨x36,g9,g7⟩:=bnd g7;refine Yc 5 31 36 (.bool x36) (gi q (fun q=>?_) (fun q=>?_)) (fun J=>?_)
   ·rw [if_pos (dt q)] at g9;refine go ?_;obtain ⟨x34,hx34,g9⟩:=bnd g9;refine cl (Ig a1 a0.id _ hx34) ?_;refine go ?_;exact Yt 31 g9
   ·rw [if_neg (df q)] at g9;refine go ?_;exact Yt 31 g9
   refine go ?_;exact Yt 27 g7
  ·rw [if_pos (dbt q)] at g7;refine go ?_;exact Yt 27 g7
  refine go ?_;refine cdb H (fun h H=>?_) (fun h H=>?_)
  ·refine go ?_;have e:=pur H;subst e;exact rt _
  ·refine go ?_;obtain ⟨o19,ho19,H⟩:=bnd H;refine LC a0 a2 a1 0 _ ho19 _ rfl _ _ b1 ?_ ?_ _ _  S hF
   ·intro HV he T21 s22 tT hF;have he:=he.symm;subst he
    try dsimp only at H
    refine go ?_;obtain ⟨o24,ho24,H⟩:=bnd H;refine L0 a0 a2 HV 0 _ ho24 _ rfl _ _ b1 ?_ ?_ _ _  S hF
    ·intro _ he T26 s27 tT hF;have he:=he.symm;subst he
     try dsimp only at H
     refine go ?_;have e:=pur H;subst e;exact rt _
    ·intro r hr s' hs;subst hr;have e:=pur H;subst e;exact hsq hs
   ·intro r hr s' hs;subst hr;have e:=pur H;subst e;exact hsq hs
 ·intro Ii Gj C0 L0 a0 a2 HV Gg out H c hc Q tt b1 hE hR T ss tT hF;refine lpx tt hc rfl fun q hX=>go ?_;refine cdp H (fun h H=>?_) (fun h H=>?_)
  ·obtain ⟨x89,f1,H⟩:=bil (g:=ZG) Cor.X6 H;refine go1 ?_;obtain ⟨x94,hx94,H⟩:=bnd H;refine cl (C0 x89 HV (i64.wrap (a2 - 1)) _ hx94) ?_;refine go ?_;refine cdb H (fun h H=>?_) (fun h H=>?_)
   ·refine go ?_;exact wq (hR _ (pur H).symm _ (rt _))
   ·refine go ?_;exact L0 a0 a2 HV (i64.wrap (Gg+1)) _ H _ rfl Q tt b1 hE hR _ _  S hF
  ·refine go ?_;exact wq (hE () (pur H).symm _ _  S hF)
theorem LB:∀(a0:Cor) r,Gi a0=some r->Vb K0 127 [.agg (ZG a0)] (i6 r):=by
 refine Gi.partial_correctness _ (motive_2:=fun a0 Yo Yx out=>∀c,Yh Tryz.f127 0=some c->∀(Q:QT) (tt:Sto) (b1:Nat),(∀(A6:Int),out=A6->∀(T:TT) (ss:Sto),T 3=i6 A6->Fx tt ss [(b1,⟨105,11,[i6 a0.kind,i6 a0.id,.str a0.name,i6 a0.num,sf cI a0.ids,i6 a0.data.kind,.str a0.data.name,i6 a0.data.num,sf cI a0.data.sc,sf KZ a0.data.kids,sf ZG a0.kids]⟩)] []->Q (.ex 0) ⟨T,ss⟩)->True->∀(T:TT) (ss:Sto),T 1=.ptr b1 0/\T 3=i6 Yo/\T 4=i6 Yx->Fx tt ss [(b1,⟨105,11,[i6 a0.kind,i6 a0.id,.str a0.name,i6 a0.num,sf cI a0.ids,i6 a0.data.kind,.str a0.data.name,i6 a0.data.num,sf cI a0.data.sc,sf KZ a0.data.kids,sf ZG a0.kids]⟩)] []->aLp K0 c Q ⟨T,ss⟩) ?_ ?_
 ·intro WJ L0 a0 r H;intro ss;refine hdh mixed Tryz.func127 (rs:=[.tmp 2]) fun q tT hF hX=>?_;refine go ?_;refine X9 hF rfl fun b1 ss2 hF=>?_;refine go ?_;obtain ⟨o3,ho3,H⟩:=bnd H;refine L0 a0 1 0 _ ho3 _ rfl _ _ b1 ?_ ?_ _ _  S hF
  ·intro PI he T5 ss6 tT hF;have he:=he.symm;subst he;refine go ?_;have e:=pur H;subst e;exact rt _
  ·trivial
 ·intro Gi WJ C0 L0 a0 Yo Yx out H c hc Q tt b1 hE hR T ss tT hF;refine lpx tt hc rfl fun q hX=>go ?_;refine cdp H (fun h H=>?_) (fun h H=>?_)
  ·obtain ⟨x16,f1,H⟩:=bil (g:=ZG) Cor.X6 H;refine go1 ?_;refine bp H (C0 x16) fun x18 h H=>cl h ?_;refine go ?_;exact L0 a0 (i64.wrap (Yo+x18)) (i64.wrap (Yx+1)) _ H _ rfl Q tt b1 hE hR _ _  S hF
  ·refine go ?_;exact wq (hE _ (pur H).symm _ _  S hF)
theorem D9:∀(a0:Cor) r,HA a0=some r->Vb K0 100 [.agg (ZG a0)] (.bool r):=by
 intro a0 r H;intro ss;unfold HA at H;refine hdh mixed Tryz.func100 (rs:=[.tmp 2]) fun q tT hF hX=>?_;refine go ?_;refine X9 hF rfl fun b1 ss2 hF=>?_;refine go ?_;refine bp H (OV a0 [] 120) fun x5 h H=>cl h ?_;refine go ?_;obtain ⟨x10,g3,H⟩:=bnd H;refine Yc 3 7 10 (.bool x10) (gi q (fun q=>?_) (fun q=>?_)) (fun J=>?_)
 ·rw [if_pos (dbt q)] at g3;refine go ?_;obtain ⟨x8,hx8,g3⟩:=bnd g3;refine cl (LB a0 _ hx8) ?_;refine go ?_;exact Yt 7 g3
 ·rw [if_neg (dbf q)] at g3;refine go ?_;exact Yt 7 g3
 refine go ?_;have e:=pur H;subst e;exact rt _
theorem NO:∀(a0:Fm) (a1:Int) r,Be a0 a1=some r->Vb K0 73 [.agg (KZ a0),i6 a1] (.tup [.agg (K8 r.1),.agg (ZG r.2.1),i6 r.2.2]):=by
 intro a0 a1 r H;intro ss;unfold Be at H;refine hdh mixed Tryz.func73 (rs:=[.cell 4 30,.cell 5 105,.tmp 6]) fun q tT hF hX=>?_;refine go ?_;refine X9 hF rfl fun b1 ss2 hF=>?_;refine go ?_;refine X9 hF rfl fun b3 ss4 hF=>?_;refine go ?_;refine X9 hF rfl fun b5 ss6 hF=>?_;refine go ?_;refine bp H (Yv a0) fun x11 h H=>cl h ?_;refine go ?_;obtain ⟨x16,g7,H⟩:=bnd H;refine Yc 2 14 16 (.bool x16) (giN q (fun q=>?_) (fun q=>?_)) (fun J=>?_)
 ·refine go ?_;exact Yt 14 g7
 ·refine go ?_;exact Yt 14 g7
 refine go ?_;obtain ⟨x20,g9,H⟩:=bnd H;refine Yc 2 18 20 (.bool x20) (giN q (fun q=>?_) (fun q=>?_)) (fun J=>?_)
 ·refine go ?_;exact Yt 18 g9
 ·refine go ?_;exact Yt 18 g9
 refine go ?_;refine cdb H (fun h H=>?_) (fun h H=>?_)
 ·refine go ?_;refine st hF 1 rfl fun s11 hF=>?_;refine go ?_;refine st hF 0 rfl fun s12 hF=>?_;refine go ?_;have e:=pur H;subst e;exact rt _
 ·refine go ?_;obtain ⟨E,hEq⟩:∃E,E=EE ss6 []:=⟨_,rfl⟩
  have n13:¬E b5:=by rw [hEq];exact K6 (hF.at 0 rfl) (by simp)
  have n14:¬E b3:=by rw [hEq];exact K6 (hF.at 1 rfl) (by simp)
  have n15:¬E b1:=by rw [hEq];exact K6 (hF.at 2 rfl) (by simp)
  refine Yg E [.v,.v,.v,.v,.v,.v,.v,.v,.x,.x,.x,.x,.v] (by kernel_rfl) ?_;have z:=K3 (X5 (hF.at 0 rfl) n13) (K3 (X5 (hF.at 1 rfl) n14) (X5 (hF.at 2 rfl) n15));refine gh ?_;refine bp H (Io ) fun x24 h H=>cv h ?_;have z:=K3 (X5 (hF.at 0 rfl) n13) (K3 (X5 (hF.at 1 rfl) n14) (X5 (hF.at 2 rfl) n15));refine gh ?_;refine bp H (IT x24 a0 a1) fun x27 h H=>cv h ?_;have z:=K3 (X5 (hF.at 0 rfl) n13) (K3 (X5 (hF.at 1 rfl) n14) (X5 (hF.at 2 rfl) n15));refine gh ?_;refine GG hF rfl fun b16 s17 nw18 mo19 hF=>?_;have z:=K3 (X5 (hF.at 1 rfl) n13) (K3 (X5 (hF.at 2 rfl) n14) (X5 (hF.at 3 rfl) n15));refine gh ?_;refine GG hF rfl fun b20 s21 nw22 mo23 hF=>?_;have z:=K3 (X5 (hF.at 2 rfl) n13) (K3 (X5 (hF.at 3 rfl) n14) (X5 (hF.at 4 rfl) n15));refine gh ?_;refine stK hF 1 (show E _ from ((em0 hEq) _ nw18)) rfl fun s24 hF=>?_;have z:=K3 (X5 (hF.at 2 rfl) n13) (K3 (X5 (hF.at 3 rfl) n14) (X5 (hF.at 4 rfl) n15));refine gh ?_;refine stK hF 0 (show E _ from ((fun x h=>(em0 hEq) x (mo19 x h)) _ nw22)) rfl fun s25 hF=>?_;have z:=K3 (X5 (hF.at 2 rfl) n13) (K3 (X5 (hF.at 3 rfl) n14) (X5 (hF.at 4 rfl) n15));refine gh ?_;refine go ?_;refine cdn H (fun h H=>?_) (fun h H=>?_)
  ·refine go ?_;refine st hF 3 rfl fun s26 hF=>?_;refine go ?_;refine st hF 2 rfl fun s27 hF=>?_;refine go ?_;have e:=pur H;subst e;exact rt _
  ·refine go ?_;refine bp H (D9 x27.2.1) fun x37 h H=>cl h ?_;refine go ?_;refine cdb H (fun h H=>?_) (fun h H=>?_)
   ·refine go ?_;refine st hF 3 rfl fun s28 hF=>?_;refine go ?_;refine st hF 2 rfl fun s29 hF=>?_;refine go ?_;have e:=pur H;subst e;exact rt _
   ·refine go ?_;obtain ⟨E,hEq⟩:∃E,E=EE s25 [b3,b5]:=⟨_,rfl⟩
    have n30:¬E b20:=by rw [hEq];exact K6 (hF.at 0 rfl) (nm2 ⟨neL hF 0 3 rfl rfl (by decide),neL hF 0 2 rfl rfl (by decide)⟩)
    have n31:¬E b16:=by rw [hEq];exact K6 (hF.at 1 rfl) (nm2 ⟨neL hF 1 3 rfl rfl (by decide),neL hF 1 2 rfl rfl (by decide)⟩)
    have n32:¬E b1:=by rw [hEq];exact K6 (hF.at 4 rfl) (nm2 ⟨neL hF 4 3 rfl rfl (by decide),neL hF 4 2 rfl rfl (by decide)⟩)
    refine Yg E [.v,.v,.x,.x,.v] (by kernel_rfl) ?_;have z:=K3 (X5 (hF.at 0 rfl) n30) (K3 (X5 (hF.at 1 rfl) n31) (X5 (hF.at 4 rfl) n32));refine gh ?_;refine stK hF 3 (by rw [hEq];exact Zf (by simp)) rfl fun s33 hF=>?_;have z:=K3 (X5 (hF.at 0 rfl) n30) (K3 (X5 (hF.at 1 rfl) n31) (X5 (hF.at 4 rfl) n32));refine gh ?_;refine stK hF 2 (by rw [hEq];exact Zf (by simp)) rfl fun s34 hF=>?_;have z:=K3 (X5 (hF.at 0 rfl) n30) (K3 (X5 (hF.at 1 rfl) n31) (X5 (hF.at 4 rfl) n32));refine gh ?_;refine go ?_;have e:=pur H;subst e;exact rt [.agg [sf K1 x27.1.binds,sf Ze x27.1.macs,i6 x27.1.scope,i6 x27.1.id,i6 x27.1.steps],.agg [i6 x27.2.1.kind,i6 x27.2.1.id,.str x27.2.1.name,i6 x27.2.1.num,sf cI x27.2.1.ids,i6 x27.2.1.data.kind,.str x27.2.1.data.name,i6 x27.2.1.data.num,sf cI x27.2.1.data.sc,sf KZ x27.2.1.data.kids,sf ZG x27.2.1.kids],i6 0]
theorem MA:∀(a0:Cor) r,Ha a0=some r->Vb K0 116 [.agg (ZG a0)] (.agg (ZG r)):=by
 refine Ha.partial_correctness _ (motive_2:=fun a0 x16 x19 X8 Yx out=>∀c,Yh Tryz.f116 0=some c->∀(Q:QT) (tt:Sto) (b1 b3 b5:Nat),(∀(YO:List Cor),out=YO->∀(T:TT) (ss:Sto) (e0v0:AV),T 2=.ptr b3 0/\T 3=.ptr b5 0->Fx tt ss [(b5,⟨105,11,[i6 a0.kind,i6 a0.id,.str a0.name,i6 a0.num,sf cI x16,i6 x19.kind,.str x19.name,i6 x19.num,sf cI x19.sc,sf KZ x19.kids,e0v0]⟩),(b3,⟨105,11,[i6 0,i6 0,.str zB,i6 0,.Yb,i6 0,.str zB,i6 0,.Yb,.Yb,.Yb]⟩),(b1,⟨105,11,[i6 a0.kind,i6 a0.id,.str a0.name,i6 a0.num,sf cI a0.ids,i6 a0.data.kind,.str a0.data.name,i6 a0.data.num,sf cI a0.data.sc,sf KZ a0.data.kids,sf ZG a0.kids]⟩)] [⟨e0v0,105,11,rws ZG YO⟩]->Q (.ex 0) ⟨T,ss⟩)->True->∀(T:TT) (ss:Sto) (z0v0:AV),T 1=.ptr b1 0/\T 2=.ptr b3 0/\T 3=.ptr b5 0/\T 4=i6 Yx->Fx tt ss [(b5,⟨105,11,[i6 a0.kind,i6 a0.id,.str a0.name,i6 a0.num,sf cI x16,i6 x19.kind,.str x19.name,i6 x19.num,sf cI x19.sc,sf KZ x19.kids,z0v0]⟩),(b3,⟨105,11,[i6 0,i6 0,.str zB,i6 0,.Yb,i6 0,.str zB,i6 0,.Yb,.Yb,.Yb]⟩),(b1,⟨105,11,[i6 a0.kind,i6 a0.id,.str a0.name,i6 a0.num,sf cI a0.ids,i6 a0.data.kind,.str a0.data.name,i6 a0.data.num,sf cI a0.data.sc,sf KZ a0.data.kids,sf ZG a0.kids]⟩)] [⟨z0v0,105,11,rws ZG X8⟩]->aLp K0 c Q ⟨T,ss⟩) ?_ ?_
 ·intro Jl L0 a0 r H;intro ss;refine hdh mixed Tryz.func116 (rs:=[.cell 2 105]) fun q tT hF hX=>?_;refine go ?_;refine X9 hF rfl fun b1 ss2 hF=>?_;refine go ?_;refine X9 hF rfl fun b3 ss4 hF=>?_;refine go ?_;refine Yg E0 [.v,.v,.v,.v,.v,.v,.v,.v,.v,.v,.v,.v,.v,.v,.v,.v,.x,.z] (by kernel_rfl) ?_;refine go ?_;obtain ⟨x16,hx16,H⟩:=bnd H;refine MZ (g:=cI) (xs:=[]) (ys:=a0.ids) (fun _=>rfl) (by decide) (by decide) (.inr (by first | rfl | simp only [Y2,VJ,cI,cU,cS,cL])) (.inr ⟨_,by first | rfl | simp only [Y2,VJ,cI,cU,cS,cL]⟩) hx16 ?_;refine go ?_;refine bp H (Ja a0.data) fun x19 h H=>cv h ?_;refine go ?_;refine WY hF rfl fun b5 ss6 hF=>?_;refine go ?_;refine st hF 0 rfl fun s7 hF=>?_;have hF:=hF.nil 105 11;refine go ?_;obtain ⟨o11,ho11,H⟩:=bnd H;refine L0 a0 x16 x19 [] 0 _ ho11 _ rfl _ _ b1 b3 b5 ?_ ?_ _ _ .Yb S hF
  ·intro EP he T13 s14 e12v0 tT hF;have he:=he.symm;subst he;refine go ?_;refine st hF 1 rfl fun s16 hF=>?_;refine go ?_;have e:=pur H;subst e;exact rt _
  ·trivial
 ·intro Ha Jl C0 L0 a0 x16 x19 X8 Yx out H c hc Q tt b1 b3 b5 hE hR T ss z0v0 tT hF;refine lpx tt hc rfl fun q hX=>go ?_;refine cdp H (fun h H=>?_) (fun h H=>?_)
  ·refine go ?_;refine Yg E0 [.v,.v,.v,.v,.v,.v,.v,.v,.v,.x,.v,.z] (by kernel_rfl) ?_;obtain ⟨x33,f1,H⟩:=bil (g:=ZG) Cor.X6 H;refine go1 ?_;refine bp H (C0 x33) fun x35 h H=>cv h ?_;refine go ?_;refine Pr (g:=ZG) hF 0 H (rdo (c:=true) (g:=ZG) Cor.X6) fun x37 H v8 s9 hF=>?_;refine go ?_;refine st hF 0 (hF.cells 0 rfl) fun s10 hF=>?_;refine go ?_;exact L0 a0 x16 x19 x37 (i64.wrap (Yx+1)) _ H _ rfl Q tt b1 b3 b5 hE hR _ _ v8 S hF
  ·refine go ?_;exact wq (hE _ (pur H).symm _ _ z0v0 S hF)
theorem Az:∀(a0:Fm) (a1:Int) r,G1 a0 a1=some r->Vb K0 89 [.agg (KZ a0),i6 a1] (.tup [.agg (ZG r.1),i6 r.2]):=by
 intro a0 a1 r H;intro ss;unfold G1 at H;refine hdh mixed Tryz.func89 (rs:=[.cell 4 105,.tmp 5]) fun q tT hF hX=>?_;refine go ?_;refine X9 hF rfl fun b1 ss2 hF=>?_;refine go ?_;refine X9 hF rfl fun b3 ss4 hF=>?_;refine go ?_;refine bp H (NO a0 a1) fun x12 h H=>cl h ?_;refine go ?_;refine X9 hF rfl fun b5 ss6 hF=>?_;refine go ?_;refine X9 hF rfl fun b7 s8 hF=>?_;refine go ?_;refine st hF 1 rfl fun s9 hF=>?_;refine go ?_;refine st hF 0 rfl fun s10 hF=>?_;refine go ?_;refine bp H (MA x12.2.1) fun x17 h H=>cl h ?_;refine go ?_;refine st hF 2 rfl fun s11 hF=>?_;refine go ?_;have e:=pur H;subst e;exact rt _
theorem Mi:∀(a0:Fm) (a1:Int) r,I9 a0 a1=some r->Vb K0 66 [.agg (KZ a0),i6 a1] (.tup [sf ZF r.1,i6 r.2]):=by
 intro a0 a1 r H;intro ss;unfold I9 at H;refine hdh mixed Tryz.func66 (rs:=[.tmp 4,.tmp 5]) fun q tT hF hX=>?_;refine go ?_;refine X9 hF rfl fun b1 ss2 hF=>?_;refine go ?_;refine bp H (Yv a0) fun x12 h H=>cl h ?_;refine go ?_;obtain ⟨x17,g3,H⟩:=bnd H;refine Yc 2 15 17 (.bool x17) (giN q (fun q=>?_) (fun q=>?_)) (fun J=>?_)
 ·refine go ?_;exact Yt 15 g3
 ·refine go ?_;exact Yt 15 g3
 refine go ?_;obtain ⟨x21,g5,H⟩:=bnd H;refine Yc 2 19 21 (.bool x21) (giN q (fun q=>?_) (fun q=>?_)) (fun J=>?_)
 ·refine go ?_;exact Yt 19 g5
 ·refine go ?_;exact Yt 19 g5
 refine go ?_;refine cdb H (fun h H=>?_) (fun h H=>?_)
 ·refine go ?_;have e:=pur H;subst e;exact rt _
 ·refine go ?_;obtain ⟨E,hEq⟩:∃E,E=EE ss2 []:=⟨_,rfl⟩
  have n7:¬E b1:=by rw [hEq];exact K6 (hF.at 0 rfl) (by simp)
  refine Nd E [.v,.v,.v,.v] [0,1,2,3] 4 9 [.v,.v,.v,.v] [5,6,7,8] [.x,.v,.v] [10,11,12] (by kernel_rfl) ?_;have z:=X5 (hF.at 0 rfl) n7;refine gh ?_;refine bp H (Io ) fun x24 h H=>cv h ?_;have z:=X5 (hF.at 0 rfl) n7;refine gh ?_;refine ⟨?_,?_⟩
  ·have hF:=hF.lit 45 13 (rws ZF []) rfl;have z:=X5 (hF.at 0 rfl) n7;refine gh ?_;obtain ⟨x28,hx28,H⟩:=bnd H;refine cx (Bx x24 a0 a1 [] _ hx28  (.sl true (rws ZF [])) _ (pre 0 0 1 hF hX)) ?_;rintro _ s8 ⟨tt9,rfl,hT,hG⟩
   refine V0 (Zb hT hG (by intro p hp;simp only [Kk,KE,or_false] at hp<;>first | (rcases hp with rfl<;>(rw [hEq];first | (refine Zf ?_;simp;done) | exact Zs rfl))| cases hp)) fun kp11=>?_
   have hF:=L6 0 1 hF hX hT hG;have z:=X5 (hF.at 0 rfl) n7;refine gh ?_;refine GG hF rfl fun b12 s13 nw14 mo15 hF=>?_;have z:=X5 (hF.at 1 rfl) n7;refine gh ?_;refine stK hF 0 (show E _ from ((PJ kp11 (em0 hEq)) _ nw14)) rfl fun s16 hF=>?_;have z:=X5 (hF.at 1 rfl) n7;refine gh ?_;refine go ?_;refine cdp H (fun h H=>?_) (fun h H=>?_)
   ·refine go ?_;refine bp H (Az a0 a1) fun x37 h H=>cl h ?_;refine go ?_;refine X9 hF rfl fun b17 s18 hF=>?_;refine go ?_;refine st hF 0 rfl fun s19 hF=>?_;refine go ?_;have e:=pur H;subst e;exact rt _
   ·refine go ?_;have e:=pur H;subst e;exact rt _
  ·have z:=X5 (hF.at 0 rfl) n7;refine gh ?_;refine GG hF rfl fun b20 s21 nw22 mo23 hF=>?_;have hF:=hF.lit 45 13 (rws ZF []) rfl;have z:=X5 (hF.at 1 rfl) n7;refine gh ?_;obtain ⟨x28,hx28,H⟩:=bnd H;refine cx (Bx x24 a0 a1 [] _ hx28  (.sl true (rws ZF [])) _ (pre 0 0 1 hF hX)) ?_;rintro _ s24 ⟨t25,rfl,hT,hG⟩
   refine V0 (Zb hT hG (by intro p hp;simp only [Kk,KE,or_false] at hp<;>first | (rcases hp with rfl<;>(rw [hEq];first | (refine Zf ?_;simp;done) | exact Zs rfl))| cases hp)) fun kp27=>?_
   have hF:=L6 0 1 hF hX hT hG;have z:=X5 (hF.at 1 rfl) n7;refine gh ?_;refine stK hF 0 (show E _ from ((em0 hEq) _ nw22)) rfl fun s28 hF=>?_;have z:=X5 (hF.at 1 rfl) n7;refine gh ?_;refine go ?_;refine cdp H (fun h H=>?_) (fun h H=>?_)
   ·refine go ?_;refine bp H (Az a0 a1) fun x37 h H=>cl h ?_;refine go ?_;refine X9 hF rfl fun b29 s30 hF=>?_;refine go ?_;refine st hF 0 rfl fun s31 hF=>?_;refine go ?_;have e:=pur H;subst e;exact rt _
   ·refine go ?_;have e:=pur H;subst e;exact rt _
theorem Bq:∀(a0:Fm) (x14:List Stp × Int) (X8:List Stp) (YC:Int) out,Y0 a0 x14 X8 YC=some out->∀c,Yh Tryz.f40 0=some c->∀(Q:QT) (tt0:Sto) (b1:Nat),(∀(YO:List Stp),out=YO->∀(T:TT) (ss tt:Sto) (e0v0:AV),T 7=i6 x14.2/\T 8=e0v0->Tau tt0 [] tt->Fx tt ss [(b1,⟨34,5,[i6 a0.kind,.str a0.name,i6 a0.num,sf cI a0.sc,sf KZ a0.kids]⟩)] [⟨e0v0,45,13,rws ZF YO⟩]->Q (.ex 0) ⟨T,ss⟩)->True->∀(T:TT) (ss tt:Sto) (z0v0:AV),T 6=sf ZF x14.1/\T 7=i6 x14.2/\T 8=z0v0/\T 9=i6 YC->Tau tt0 [] tt->Fx tt ss [(b1,⟨34,5,[i6 a0.kind,.str a0.name,i6 a0.num,sf cI a0.sc,sf KZ a0.kids]⟩)] [⟨z0v0,45,13,rws ZF X8⟩]->aLp K0 c Q ⟨T,ss⟩:=by
 intro a0 x14 X8 YC;revert X8 YC;refine Y0.partial_correctness a0 x14 _ ?_;intro Y0 IH X8 YC out H c hc Q tt0 b1 hE hR T ss tt z0v0 tT hX hF;refine lpy hc rfl fun q=>go ?_;refine cdp H (fun h H=>?_) (fun h H=>?_)
 ·obtain ⟨x26,f1,H⟩:=bil (g:=ZF) Stp.X6 H;refine go1 ?_;refine X9 hF rfl fun b3 ss4 hF=>?_;refine go ?_;refine st hF 0 rfl fun ss5 hF=>?_;refine go ?_;refine bp H (Ja x26.use) fun x30 h H=>cl h ?_;refine go ?_;refine st hF 0 rfl fun ss6 hF=>?_;refine go ?_;refine bp H (Ja x26.res) fun x34 h H=>cl h ?_;refine go ?_;refine st hF 0 rfl fun s7 hF=>?_;refine go ?_;refine apd (g:=ZF) hF 0 H (rdo (c:=true) (g:=ZF) Stp.X6) fun x39 H v8 s9 hF=>?_;refine go ?_;exact IH  x39 (i64.wrap (YC+1)) _ H _ rfl Q tt0 b1 hE hR _ _ _ v8 S hX (hF.drop 1 0)
 ·refine go ?_;exact wq (hE _ (pur H).symm _ _ _ z0v0 S hX hF)
theorem Cz:∀(a0:Fm) (a1:Int) r,J3 a0 a1=some r->∀   (ss:Sto),Pre ss [] []->Ctr K0 40 [.agg (KZ a0),i6 a1] ss (fun r' ss'=>∃(tt':Sto) (w0:AV),r'=.tup [w0,i6 r.2]/\Tau (strip ss []) [] tt'/\Fx tt' ss' [] [⟨w0,45,13,rws ZF r.1⟩]):=by
 intro a0 a1 r H;intro   ss hP;unfold J3 at H;refine hdg mixed Tryz.func40 (rs:=[.tmp 4,.tmp 5]) fun q tT=>?_;obtain ⟨hF,hX⟩:=hP.start;generalize strip ss []=tt0 at hF hX ⊢;refine go ?_;refine X9 hF rfl fun b1 ss2 hF=>?_;refine go ?_;refine bp H (Mi a0 a1) fun x14 h H=>cl h ?_;have hF:=hF.lit 45 13 (rws ZF []) rfl;refine go ?_;obtain ⟨o10,ho10,H⟩:=bnd H;refine Bq a0 x14 [] 0 _ ho10 _ rfl _ tt0 b1 ?_ ?_ _ _ _ (.sl true (rws ZF [])) S hX hF
 ·intro Qe2 he T12 s13 t14 e11v0 tT hX hF;have he:=he.symm;subst he;refine go ?_;have e:=pur H;subst e;exact rg _ ⟨_,_,rfl,hX,hF.pick [] [0] (by decide) (by decide)⟩
 ·trivial
theorem E9:∀(a0:List Int) r,Ie a0=some r->Vb K0 16 [sf cU a0] (sf ZF r):=by
 intro a0 r H;intro ss;unfold Ie at H;refine hdh mixed Tryz.func16 (rs:=[.tmp 2]) fun q tT hF hX=>?_;refine go ?_;refine bp H (MH a0) fun x10 h H=>cl h ?_;refine go ?_;refine X9 hF rfl fun b1 ss2 hF=>?_;refine go ?_;refine st hF 0 rfl fun ss3 hF=>?_;refine go ?_;obtain ⟨x15,hx15,H⟩:=bnd H;refine cx (Cz x10.1 20 _ hx15   _ (pre 0 0 0 hF hX)) ?_;rintro _ ss5 ⟨t6,v4,rfl,hT,hG⟩;have hF:=L6 0 0 hF hX hT hG;refine go ?_;obtain ⟨x19,hx19,H⟩:=bnd H;refine cx (B4 a0 _ hx19   _ (pre 0 0 0 hF hX)) ?_;rintro _ s9 ⟨t10,b8,rfl,hT,hG⟩;have nw12:ss5.var b8=none:=(hT.off b8 (by simp)).symm.trans (hG.var _ (List.mem_cons_self ..)).2.1;have hF:=L6 0 0 hF hX hT hG;refine go ?_;obtain ⟨IN,j14,H⟩:=bnd H;refine Vy (fun s'=>∃(T:TT) (ss1:Sto) (y13v0:AV),s'=⟨T,ss1⟩/\(T 5=y13v0/\T 7=.ptr b8 0)/\Fx ss ss1 [(b8,⟨81,2,[sf cU x19.b,i6 x19.p]⟩),(b1,⟨34,5,[i6 x10.1.kind,.str x10.1.name,i6 x10.1.num,sf cI x10.1.sc,sf KZ x10.1.kids]⟩)] [⟨y13v0,45,13,rws ZF IN⟩]) (cdp j14 (fun h j14=>?_) (fun h j14=>?_)) ?_
 ·refine go ?_;obtain ⟨x24n,hx24n,j14⟩:=bnd j14;obtain ⟨b15,k16,hv⟩:=hF.ref 0 rfl hx24n;subst hv;obtain ⟨x24,hx24,j14⟩:=bnd j14;refine Qg1 (g:=ZF) hF 0 rfl hx24 (by rfl) fun s17 hF=>?_;refine go ?_;have e:=pur j14;subst e;exact ⟨_,_,(.ref b15 x24.length k16),rfl,S,hF⟩
 ·refine go ?_;have e:=pur j14;subst e;exact ⟨_,_,v4,rfl,S,hF⟩
 ·rintro s' ⟨T18,s19,y13v0,rfl,tT,hF⟩;refine go ?_;refine gi q (fun q=>?_) (fun q=>?_)
  ·rw [if_pos (dt q)] at H;refine go ?_;obtain ⟨Qeq,hx30_1,H⟩:=bnd H;refine cx (Yr 12 x19 _ hx30_1 b8  _ (pre 1 0 0 hF hX)) ?_;rintro _ s26 ⟨t27,rfl,hT,hG⟩;have hF:=L6 1 0 hF hX hT hG;refine go ?_;refine cdp H (fun h H=>?_) (fun h H=>?_)
   ·refine go ?_;obtain ⟨x37,hx37,H⟩:=bnd H;obtain ⟨b29,k30,hv⟩:=hF.ref 0 rfl hx37;subst hv
    try simp only [go_sem,↓reduceIte,K9,Zg,Zh,Za,Zi,Zj,Km,q,tT,hF.f,hF.m,hF.x hX,Dl (l:=IN) rfl hx37,N7 hF 0 (sz:=13) (ag:=true) (k:=5) (o:=3) (g:=ZF) (x:=x37) (i:=0) (v:=(.agg [i6 x37.use.kind,.str x37.use.name,i6 x37.use.num,sf cI x37.use.sc,sf KZ x37.use.kids])) (by first | rfl | simp) Stp.X6 rfl hx37 (by decide) (by first | rfl | (simp only [sf,i6,zB,cI,cU,cS,cL,cB,Stp.Ya,Fm.Ya];rfl))]
    obtain ⟨x40,hx40,H⟩:=bnd H;refine cx (HH x37.use Qeq.2 _ hx40 b8  _ (pre 1 0 0 hF hX)) ?_;rintro _ s31 ⟨t32,rfl,hT,hG⟩;have hF:=L6 1 0 hF hX hT hG;refine go ?_;obtain ⟨x41,hx41,H⟩:=bnd H;refine cx (HH x40.1 x40.2 _ hx41 b8  _ (pre 1 0 0 hF hX)) ?_;rintro _ s34 ⟨t35,rfl,hT,hG⟩;have hF:=L6 1 0 hF hX hT hG;obtain ⟨x42,hx42,H⟩:=bnd H
    try simp only [go_sem,↓reduceIte,K9,Zg,Zh,Za,Zi,Zj,Km,q,tT,hF.f,hF.m,hF.x hX,Dl (l:=IN) ((EV hF 0 rfl).1.trans (WD _)) hx42]
    refine PL hF 0 (o:=3) (sz:=13) (k:=5) (v:=(.agg [i6 x41.1.kind,.str x41.1.name,i6 x41.1.num,sf cI x41.1.sc,sf KZ x41.1.kids])) (cs:=[i6 x41.1.kind,.str x41.1.name,i6 x41.1.num,sf cI x41.1.sc,sf KZ x41.1.kids]) (g:=ZF) (i:=0) (KY x42.id x42.rule x42.scope x41.1 x42.res) Stp.X6 (by first | rfl | simp) rfl hx42 rfl rfl (by decide) (by first | rfl | simp [IM,cI,cU,cS,cL,cB,Stp.Ya,Fm.Ya]) fun s37 hF=>?_;have hF:Fx ss s37 [(b8,⟨81,2,[sf cU x41.2.b,i6 x41.2.p]⟩),(b1,⟨34,5,[i6 x10.1.kind,.str x10.1.name,i6 x10.1.num,sf cI x10.1.sc,sf KZ x10.1.kids]⟩)] [⟨.ref b29 IN.length k30,45,13,rws ZF (IN.set (0:Int).toNat (KY x42.id x42.rule x42.scope x41.1 x42.res))⟩]:=hF;refine go ?_;obtain ⟨x47,hx47,H⟩:=bnd H;refine cx (YN [0,3,100] x41.2 _ hx47 b8  _ (pre 1 0 0 hF hX)) ?_;rintro _ s38 ⟨t39,rfl,hT,hG⟩;have hF:=L6 1 0 hF hX hT hG;obtain ⟨x48,hx48,H⟩:=bnd H
    try simp only [go_sem,↓reduceIte,K9,Zg,Zh,Za,Zi,Zj,Km,q,tT,hF.f,hF.m,hF.x hX,Dl (l:=IN.set (0:Int).toNat (KY x42.id x42.rule x42.scope x41.1 x42.res)) ((EV hF 0 rfl).1.trans (WD _)) hx48]
    refine PL hF 0 (o:=2) (sz:=13) (k:=1) (v:=(i6 x47.1)) (cs:=[i6 x47.1]) (g:=ZF) (i:=0) (KY x48.id x48.rule x47.1 x48.use x48.res) Stp.X6 (by first | rfl | simp) rfl hx48 rfl rfl (by decide) (by first | rfl | simp [IM,cI,cU,cS,cL,cB,Stp.Ya,Fm.Ya]) fun s41 hF=>?_;have hF:Fx ss s41 [(b8,⟨81,2,[sf cU x47.2.b,i6 x47.2.p]⟩),(b1,⟨34,5,[i6 x10.1.kind,.str x10.1.name,i6 x10.1.num,sf cI x10.1.sc,sf KZ x10.1.kids]⟩)] [⟨.ref b29 IN.length k30,45,13,rws ZF ((IN.set (0:Int).toNat (KY x42.id x42.rule x42.scope x41.1 x42.res)).set (0:Int).toNat (KY x48.id x48.rule x47.1 x48.use x48.res))⟩]:=hF;refine go ?_;have e:=pur H;subst e;exact rt _
   ·refine go ?_;have e:=pur H;subst e;exact rt _
  ·rw [if_neg (df q)] at H;refine go ?_;have e:=pur H;subst e;exact rt _
theorem B1:∀(a0:List Int) r,WM a0=some r->Vb K0 6 [sf cU a0] (sf ZF r):=by
 intro a0 r H;intro ss;unfold WM at H;refine hdh mixed Tryz.func6 (rs:=[.tmp 2]) fun q tT hF hX=>?_;refine go ?_;refine bp H (E9 a0) fun x4 h H=>cl h ?_;refine go ?_;have e:=pur H;subst e;exact rt _
theorem A8:∀(a0:Fm) r,Vz a0=some r->Vb K0 18 [.agg (KZ a0)] (.agg (KZ r)):=by
 refine Vz.partial_correctness _ (motive_2:=fun a0 X8 BB out=>∀c,Yh Tryz.f18 0=some c->∀(Q:QT) (tt:Sto) (b1 b3 b5:Nat),(∀(YO:List Fm),out=YO->∀(T:TT) (ss:Sto) (e0v0:AV),T 2=.ptr b3 0/\T 3=.ptr b5 0->Fx tt ss [(b5,⟨34,5,[i6 a0.kind,.str a0.name,i6 a0.num,.Yb,e0v0]⟩),(b3,⟨34,5,[i6 0,.str zB,i6 0,.Yb,.Yb]⟩),(b1,⟨34,5,[i6 a0.kind,.str a0.name,i6 a0.num,sf cI a0.sc,sf KZ a0.kids]⟩)] [⟨e0v0,34,5,rws KZ YO⟩]->Q (.ex 0) ⟨T,ss⟩)->True->∀(T:TT) (ss:Sto) (z0v0:AV),T 2=.ptr b3 0/\T 3=.ptr b5 0/\T 14=sf KZ a0.kids/\T 15=i6 (a0.kids.length:Int)/\T 16=i6 BB->Fx tt ss [(b5,⟨34,5,[i6 a0.kind,.str a0.name,i6 a0.num,.Yb,z0v0]⟩),(b3,⟨34,5,[i6 0,.str zB,i6 0,.Yb,.Yb]⟩),(b1,⟨34,5,[i6 a0.kind,.str a0.name,i6 a0.num,sf cI a0.sc,sf KZ a0.kids]⟩)] [⟨z0v0,34,5,rws KZ X8⟩]->aLp K0 c Q ⟨T,ss⟩) ?_ ?_
 ·intro VK L0 a0 r H;intro ss;refine hdh mixed Tryz.func18 (rs:=[.cell 2 34]) fun q tT hF hX=>?_;refine go ?_;refine X9 hF rfl fun b1 ss2 hF=>?_;refine go ?_;refine X9 hF rfl fun b3 ss4 hF=>?_;refine go ?_;refine X9 hF rfl fun b5 ss6 hF=>?_;refine go ?_;refine st hF 0 rfl fun s7 hF=>?_;have hF:=hF.nil 34 5;refine go ?_;obtain ⟨o14,ho14,H⟩:=bnd H;refine L0 a0 [] 0 _ ho14 _ rfl _ _ b1 b3 b5 ?_ ?_ _ _ .Yb S hF
  ·intro BM he T16 s17 e15v0 tT hF;have he:=he.symm;subst he;refine go ?_;refine st hF 1 rfl fun s19 hF=>?_;refine go ?_;have e:=pur H;subst e;exact rt _
  ·trivial
 ·intro Vz VK C0 L0 a0 X8 BB out H c hc Q tt b1 b3 b5 hE hR T ss z0v0 tT hF;refine lpx tt hc rfl fun q hX=>go ?_;refine cdp H (fun h H=>?_) (fun h H=>?_)
  ·obtain ⟨x18,f1,H⟩:=bil (g:=KZ) Fm.X6 H;refine go1 ?_;refine X9 hF rfl fun b8 s9 hF=>?_;refine go ?_;refine st hF 0 rfl fun s10 hF=>?_;refine go ?_;refine Yg E0 [.v,.v,.v,.v,.v,.x,.v,.z] (by kernel_rfl) ?_;refine go ?_;refine bp H (C0 x18) fun x23 h H=>cv h ?_;refine go ?_;refine Pr (g:=KZ) hF 0 H (rdo (c:=true) (g:=KZ) Fm.X6) fun x25 H v11 s12 hF=>?_;refine go ?_;refine st hF 1 (hF.cells 0 rfl) fun s13 hF=>?_;refine go ?_;exact L0 a0 x25 (i64.wrap (BB+1)) _ H _ rfl Q tt b1 b3 b5 hE hR _ _ v11 S (hF.drop 1 0)
  ·refine go ?_;exact wq (hE _ (pur H).symm _ _ z0v0 S hF)
set_option maxHeartbeats 1000000 in
set_option maxRecDepth 100000 in
theorem Qg4 (s:ByteArray) (c:Int) (w:World) :
  Calls K0 101 #[.string s,.int .u8 c] w fun e w'=>e=.returned (Value.int .i64 (Lib.indexByte s.data.toList c.toNat.toUInt8))/\w'=w:=by
 go_enter Tryz.func101,Tryz.ntmps101
 go_wp2
 rw [run_callFunc_extern Tryz.func128 (by kernel_rfl) (by kernel_rfl) (by kernel_rfl) (e:=Extern.BytealgIndexByte.indexByte) (by kernel_rfl),Lib.run_indexByteString];simp only [Result.andThen];rw [Oper.upon_value]
 go_wp2
 go_ret
 exact ⟨rfl,rfl⟩
set_option maxHeartbeats 1000000 in
theorem Qkg (s:ByteArray) (c:Int) (w:World) :
  Calls K0 77 #[.string s,.int .u8 c] w fun e w'=>e=.returned (Value.int .i64 (Lib.indexByte s.data.toList c.toNat.toUInt8))/\w'=w:=by
 go_enter Tryz.func77,Tryz.ntmps77
 go_wp2_with (go_at_call 101;refine (Qg4 _ _ _).mono ?_;rintro e w' ⟨rfl,rfl⟩)
 go_ret
 exact ⟨rfl,rfl⟩
theorem Qke {P : Program} {f : FuncId} {fn : Func} (hf : P.funcs[f]? = some fn) (hb : fn.body.isNone = false) (hn : (fn.name == "runtime.NumGoroutine") = false) {s : ByteArray} {c r : Int}
  (h:∀w,Calls P f #[.string s,.int .u8 c] w fun e w'=>e=.returned (Value.int .i64 r)/\w'=w):Vb P f [.str s,.int .u8 c] (i6 r):=by
 intro ss;refine ⟨⟨fn,hf,hb,hn⟩,fun w cargs hsim htb hl hr=>?_⟩;have h0:=hr 0 _ rfl;have h1:=hr 1 _ rfl
 match cargs,hl with
 | [x,y],_ =>
  simp only [List.getD_cons_zero,List.getD_cons_succ] at h0 h1;cases h0;cases h1;refine (h w).mono ?_;rintro e w' ⟨rfl,rfl⟩;exact ⟨_,_,ss,rfl,Step.refl _ _,hsim,.int,rfl,rfl⟩
theorem CC:∀(a0:ByteArray) (a1:Int) r,Hs a0 a1=some r->Vb K0 77 [.str a0,.int .u8 a1] (i6 r):=by
 intro a0 a1 r H
 injection H with H
 subst H;exact Qke Tryz.func77 (by kernel_rfl) (by kernel_rfl) (Qkg a0 a1)
theorem AQ:∀(a0 a1 a2:Int) r,GZ a0 a1 a2=some r->Vb K0 31 [i6 a0,i6 a1,i6 a2] (.bool r):=by
 intro a0 a1 a2 r H;intro ss;unfold GZ at H;refine hdh mixed Tryz.func31 (rs:=[.tmp 6]) fun q tT hF hX=>?_;refine go ?_;obtain ⟨x14,g1,H⟩:=bnd H;refine Yc 3 11 14 (.bool x14) (gi q (fun q=>?_) (fun q=>?_)) (fun J=>?_)
 ·refine go ?_;exact Yt 11 g1
 ·refine go ?_;exact Yt 11 g1
 refine go ?_;have e:=pur H;subst e;exact rt _
theorem Cu:∀(a0:ByteArray) (Yo:Int) out,Y8 a0 Yo=some out->∀c,Yh Tryz.f53 0=some c->∀(Q:QT) (tt:Sto),(∀(_u:Unit),out=Sum.inr ()->∀(T:TT) (ss:Sto),T 0=.str a0->Fx tt ss [] []->Q (.ex 0) ⟨T,ss⟩)->(∀r,out=Sum.inl r->∀s',IP K0 [.tmp 2] (fun r' ss'=>r'=.bool r/\ss'=tt) s'->Q .ret s')->∀(T:TT) (ss:Sto),T 0=.str a0/\T 3=i6 Yo->Fx tt ss [] []->aLp K0 c Q ⟨T,ss⟩:=by
 intro a0 Yo;revert Yo;refine Y8.partial_correctness a0 _ ?_;intro Y8 IH Yo out H c hc Q tt  hE hR T ss tT hF;refine lpx tt hc rfl fun q hX=>go ?_;refine cdp H (fun h H=>?_) (fun h H=>?_)
 ·obtain ⟨x19,f1,H⟩:=bsx H;refine go1 ?_;refine go ?_;obtain ⟨x26,g3,H⟩:=bnd H;refine Yc 2 24 26 (.bool x26) (gi q (fun q=>?_) (fun q=>?_)) (fun J=>?_)
  ·refine go ?_;exact Yt 24 g3
  ·refine go ?_;exact Yt 24 g3
  refine go ?_;obtain ⟨x31,g5,H⟩:=bnd H;refine Yc 3 28 31 (.bool x31) (giN q (fun q=>?_) (fun q=>?_)) (fun J=>?_)
  ·rw [if_neg (dbf q)] at g5;refine go ?_;obtain ⟨x29,hx29,g5⟩:=bnd g5;refine cl (CC (ByteArray.mk #[42,63,61,43,60]) x19 _ hx29) ?_;refine go ?_;exact Yt 28 g5
  ·rw [if_pos (dbt q)] at g5;refine go ?_;exact Yt 28 g5
  refine go ?_;refine cdb H (fun h H=>?_) (fun h H=>?_)
  ·refine go ?_;exact IH  (i64.wrap (Yo+1)) _ H _ rfl Q tt  hE hR _ _  S hF
  ·refine go ?_;obtain ⟨x46,g7,H⟩:=bnd H;refine Yc 10 36 46 (.bool x46) (gi q (fun q=>?_) (fun q=>?_)) (fun J=>?_)
   ·rw [if_pos (dt q)] at g7;refine go ?_;obtain ⟨x41,g9,g7⟩:=bnd g7;refine Yc 2 39 41 (.bool x41) (gi q (fun q=>?_) (fun q=>?_)) (fun J=>?_)
    ·refine go ?_;exact Yt 39 g9
    ·refine go ?_;exact Yt 39 g9
    refine go ?_;obtain ⟨x45,g11,g7⟩:=bnd g7;refine Yc 2 43 45 (.bool x45) (giN q (fun q=>?_) (fun q=>?_)) (fun J=>?_)
    ·refine go ?_;exact Yt 43 g11
    ·refine go ?_;exact Yt 43 g11
    refine go ?_;exact Yt 36 g7
   ·rw [if_neg (df q)] at g7;refine go ?_;exact Yt 36 g7
   refine go ?_;refine cdb H (fun h H=>?_) (fun h H=>?_)
   ·refine go ?_;exact IH  (i64.wrap (Yo+1)) _ H _ rfl Q tt  hE hR _ _  S hF
   ·refine go ?_;exact wq (hR _ (pur H).symm _ (rt _))
 ·refine go ?_;exact wq (hE () (pur H).symm _ _  S hF)
theorem D4:∀(a0:ByteArray) r,Hx a0=some r->Vb K0 53 [.str a0] (.bool r):=by
 intro a0 r H;intro ss;unfold Hx at H;refine hdh mixed Tryz.func53 (rs:=[.tmp 2]) fun q tT hF hX=>?_;refine go ?_;obtain ⟨x10,g1,H⟩:=bnd H;refine Yc 2 8 10 (.bool x10) (giN q (fun q=>?_) (fun q=>?_)) (fun J=>?_)
 ·refine go ?_;exact Yt 8 g1
 ·refine go ?_;exact Yt 8 g1
 refine go ?_;refine cdb H (fun h H=>?_) (fun h H=>?_)
 ·refine go ?_;have e:=pur H;subst e;exact rt _
 ·refine go ?_;obtain ⟨o13,ho13,H⟩:=bnd H;refine Cu a0 0 _ ho13 _ rfl _ _  ?_ ?_ _ _  S hF
  ·intro _ he T15 s16 tT hF;have he:=he.symm;subst he
   try dsimp only at H
   refine go ?_;refine bp H (AQ (a0.size:Int) 1 12) fun x49 h H=>cl h ?_;refine go ?_;have e:=pur H;subst e;exact rt _
  ·intro r hr s' hs;subst hr;have e:=pur H;subst e;exact hsq hs
theorem CW:∀(a0:List Int) (Yq:Int) out,Wb a0 Yq=some out->∀c,Yh Tryz.f54 0=some c->∀(Q:QT) (tt:Sto),(∀(_u:Unit),out=Sum.inr ()->∀(T:TT) (ss:Sto),T 0=sf cI a0->Fx tt ss [] []->Q (.ex 0) ⟨T,ss⟩)->(∀r,out=Sum.inl r->∀s',IP K0 [.tmp 2] (fun r' ss'=>r'=.bool r/\ss'=tt) s'->Q .ret s')->∀(T:TT) (ss:Sto),T 0=sf cI a0/\T 5=sf cI a0/\T 6=i6 (a0.length:Int)/\T 7=i6 Yq->Fx tt ss [] []->aLp K0 c Q ⟨T,ss⟩:=by
 intro a0 Yq;revert Yq;refine Wb.partial_correctness a0 _ ?_;intro Wb IH Yq out H c hc Q tt  hE hR T ss tT hF;refine lpx tt hc rfl fun q hX=>go ?_;refine cdp H (fun h H=>?_) (fun h H=>?_)
 ·obtain ⟨x10,f1,H⟩:=bil (g:=cI) (fun _=>rfl) H;refine go1 ?_;refine go ?_;refine bp H (AQ x10 1 99) fun x13 h H=>cl h ?_;refine go ?_;obtain ⟨x27,g1,H⟩:=bnd H;refine Yc 11 16 27 (.bool x27) (giN q (fun q=>?_) (fun q=>?_)) (fun J=>?_)
  ·rw [if_neg (dbf q)] at g1;refine go ?_;obtain ⟨x26,g3,g1⟩:=bnd g1;refine Yc 7 19 26 (.bool x26) (gi q (fun q=>?_) (fun q=>?_)) (fun J=>?_)
   ·rw [if_pos (dt q)] at g3;obtain ⟨x22,f1,g3⟩:=bil (g:=cI) (fun _=>rfl) g3;refine go1 ?_;refine go ?_;exact Yt 19 g3
   ·rw [if_neg (df q)] at g3;refine go ?_;exact Yt 19 g3
   refine go ?_;exact Yt 16 g1
  ·rw [if_pos (dbt q)] at g1;refine go ?_;exact Yt 16 g1
  refine go ?_;refine cdb H (fun h H=>?_) (fun h H=>?_)
  ·refine go ?_;exact wq (hR _ (pur H).symm _ (rt _))
  ·refine go ?_;exact IH  (i64.wrap (Yq+1)) _ H _ rfl Q tt  hE hR _ _  S hF
 ·refine go ?_;exact wq (hE () (pur H).symm _ _  S hF)
theorem E6:∀(a0:List Int) r,Ia a0=some r->Vb K0 54 [sf cI a0] (.bool r):=by
 intro a0 r H;intro ss;unfold Ia at H;refine hdh mixed Tryz.func54 (rs:=[.tmp 2]) fun q tT hF hX=>?_;refine go ?_;obtain ⟨o5,ho5,H⟩:=bnd H;refine CW a0 0 _ ho5 _ rfl _ _  ?_ ?_ _ _  S hF
 ·intro _ he T7 s8 tT hF;have he:=he.symm;subst he
  try dsimp only at H
  refine go ?_;have e:=pur H;subst e;exact rt _
 ·intro r hr s' hs;subst hr;have e:=pur H;subst e;exact hsq hs
theorem Me:∀(a0:Fm) (a1 c0:Int) r,HJ a0 a1 c0=some r->∀(e0:Nat)  (ss:Sto),Pre ss [(e0,⟨3,1,[i6 c0]⟩)] []->Ctr K0 38 [.agg (KZ a0),i6 a1,.ptr e0 0] ss (fun r' ss'=>∃(tt':Sto),r'=.bool r.1/\Tau (strip ss []) [(e0,⟨3,1,[i6 r.2]⟩)] tt'/\Fx tt' ss' [] []):=by
 refine HJ.partial_correctness _ (motive_2:=fun a0 a1 L3 Iy out=>∀c,Yh Tryz.f38 0=some c->∀(Q:QT) (tt0:Sto) (e0 b1:Nat),(∀(F8:Int),out=Sum.inr F8->∀(T:TT) (ss tt:Sto),0+0=0->Tau tt0 [(e0,⟨3,1,[i6 F8]⟩)] tt->Fx tt ss [(b1,⟨34,5,[i6 a0.kind,.str a0.name,i6 a0.num,sf cI a0.sc,sf KZ a0.kids]⟩)] []->Q (.ex 1) ⟨T,ss⟩)->(∀r,out=Sum.inl r->∀s',IP K0 [.tmp 6] (fun r' ss'=>∃(tt':Sto),r'=.bool r.1/\Tau tt0 [(e0,⟨3,1,[i6 r.2]⟩)] tt'/\Fx tt' ss' [] []) s'->Q .ret s')->∀(T:TT) (ss tt:Sto),T 1=i6 a1/\T 2=.ptr e0 0/\T 84=sf KZ a0.kids/\T 85=i6 (a0.kids.length:Int)/\T 86=i6 L3->Tau tt0 [(e0,⟨3,1,[i6 Iy]⟩)] tt->Fx tt ss [(b1,⟨34,5,[i6 a0.kind,.str a0.name,i6 a0.num,sf cI a0.sc,sf KZ a0.kids]⟩)] []->aLp K0 c Q ⟨T,ss⟩) ?_ ?_
 ·intro JR L0 a0 a1 c0 r H;intro e0  ss hP;refine hdg mixed Tryz.func38 (rs:=[.tmp 6]) fun q tT=>?_;obtain ⟨hF,hX⟩:=hP.start;generalize strip ss []=tt0 at hF hX ⊢;refine go ?_;refine X9 hF rfl fun b1 ss2 hF=>?_;refine go ?_;refine stT hF hX 0 rfl fun tt4 ss3 hF hX=>?_;refine go ?_;obtain ⟨x21,g5,H⟩:=bnd H;refine Yc 2 19 21 (.bool x21) (giN q (fun q=>?_) (fun q=>?_)) (fun J=>?_)
  ·refine go ?_;exact Yt 19 g5
  ·refine go ?_;exact Yt 19 g5
  refine go ?_;refine cdb H (fun h H=>?_) (fun h H=>?_)
  ·refine go ?_;have e:=pur H;subst e;exact rg _ ⟨_,rfl,hX,K4 _⟩
  ·refine go ?_;refine cdp H (fun h H=>?_) (fun h H=>?_)
   ·refine go ?_;refine bp H (D4 a0.name) fun x28 h H=>cl h ?_;refine go ?_;obtain ⟨x33,g7,H⟩:=bnd H;refine Yc 3 30 33 (.bool x33) (gi q (fun q=>?_) (fun q=>?_)) (fun J=>?_)
    ·refine go ?_;exact Yt 30 g7
    ·refine go ?_;exact Yt 30 g7
    refine go ?_;obtain ⟨x38,g9,H⟩:=bnd H;refine Yc 3 35 38 (.bool x38) (gi q (fun q=>?_) (fun q=>?_)) (fun J=>?_)
    ·rw [if_pos (dbt q)] at g9;refine go ?_;obtain ⟨x37,hx37,g9⟩:=bnd g9;refine cl (E6 a0.sc _ hx37) ?_;refine go ?_;exact Yt 35 g9
    ·rw [if_neg (dbf q)] at g9;refine go ?_;exact Yt 35 g9
    refine go ?_;obtain ⟨x44,g11,H⟩:=bnd H;refine Yc 4 40 44 (.bool x44) (gi q (fun q=>?_) (fun q=>?_)) (fun J=>?_)
    ·refine go ?_;exact Yt 40 g11
    ·refine go ?_;exact Yt 40 g11
    refine go ?_;have e:=pur H;subst e;exact rg _ ⟨_,rfl,hX,K4 _⟩
   ·refine go ?_;refine cdp H (fun h H=>?_) (fun h H=>?_)
    ·refine go ?_;obtain ⟨x54,g13,H⟩:=bnd H;refine Yc 3 51 54 (.bool x54) (gi q (fun q=>?_) (fun q=>?_)) (fun J=>?_)
     ·rw [if_pos (dt q)] at g13;refine go ?_;obtain ⟨x53,hx53,g13⟩:=bnd g13;refine cl (AQ a0.num 0 999 _ hx53) ?_;refine go ?_;exact Yt 51 g13
     ·rw [if_neg (df q)] at g13;refine go ?_;exact Yt 51 g13
     refine go ?_;obtain ⟨x60,g15,H⟩:=bnd H;refine Yc 4 56 60 (.bool x60) (gi q (fun q=>?_) (fun q=>?_)) (fun J=>?_)
     ·refine go ?_;exact Yt 56 g15
     ·refine go ?_;exact Yt 56 g15
     refine go ?_;obtain ⟨x66,g17,H⟩:=bnd H;refine Yc 4 62 66 (.bool x66) (gi q (fun q=>?_) (fun q=>?_)) (fun J=>?_)
     ·refine go ?_;exact Yt 62 g17
     ·refine go ?_;exact Yt 62 g17
     refine go ?_;have e:=pur H;subst e;exact rg _ ⟨_,rfl,hX,K4 _⟩
    ·refine go ?_;refine cdp H (fun h H=>?_) (fun h H=>?_)
     ·refine go ?_;obtain ⟨x76,g19,H⟩:=bnd H;refine Yc 3 73 76 (.bool x76) (giN q (fun q=>?_) (fun q=>?_)) (fun J=>?_)
      ·refine go ?_;exact Yt 73 g19
      ·refine go ?_;exact Yt 73 g19
      refine go ?_;obtain ⟨x82,g21,H⟩:=bnd H;refine Yc 4 78 82 (.bool x82) (giN q (fun q=>?_) (fun q=>?_)) (fun J=>?_)
      ·refine go ?_;exact Yt 78 g21
      ·refine go ?_;exact Yt 78 g21
      refine go ?_;refine cdb H (fun h H=>?_) (fun h H=>?_)
      ·refine go ?_;have e:=pur H;subst e;exact rg _ ⟨_,rfl,hX,K4 _⟩
      ·refine go ?_;obtain ⟨o29,ho29,H⟩:=bnd H;refine L0 a0 a1 0 (i64.wrap (c0 - 1)) _ ho29 _ rfl _ tt0 e0 b1 ?_ ?_ _ _ _  S hX hF
       ·intro RI he T31 s32 t33 tT hX hF;have he:=he.symm;subst he
        try dsimp only at H
        refine go ?_;have e:=pur H;subst e;exact rg _ ⟨_,rfl,hX,K4 _⟩
       ·intro r hr s' hs;subst hr;have e:=pur H;subst e;exact hsq hs
     ·refine go ?_;have e:=pur H;subst e;exact rg _ ⟨_,rfl,hX,K4 _⟩
 ·intro HJ JR C0 L0 a0 a1 L3 Iy out H c hc Q tt0 e0 b1 hE hR T ss tt tT hX hF;refine lpy hc rfl fun q=>go ?_;refine cdp H (fun h H=>?_) (fun h H=>?_)
  ·obtain ⟨x88,f1,H⟩:=bil (g:=KZ) Fm.X6 H;refine go1 ?_;refine X9 hF rfl fun b23 s24 hF=>?_;refine go ?_;refine st hF 0 rfl fun s25 hF=>?_;refine go ?_;obtain ⟨x94,hx94,H⟩:=bnd H;refine cx (C0 x88 (i64.wrap (a1+1)) Iy _ hx94 e0  _ (pre 0 1 0 hF hX)) ?_;rintro _ s26 ⟨t27,rfl,hT,hG⟩;obtain ⟨t28,hX,hF⟩:=aft 0 1 0 hF hX hT hG;refine go ?_;refine cdb H (fun h H=>?_) (fun h H=>?_)
   ·refine go ?_;exact wq (hR _ (pur H).symm _ (rg _ ⟨_,rfl,hX,K4 _⟩))
   ·refine go ?_;exact L0 a0 a1 (i64.wrap (L3+1)) x94.2 _ H _ rfl Q tt0 e0 b1 hE hR _ _ _  S hX (hF.drop 1 0)
  ·refine go ?_;exact wq (hE _ (pur H).symm _ _ _  S hX hF)
theorem D3:∀(a0:Fm) r,Hw a0=some r->Vb K0 15 [.agg (KZ a0)] (.bool r):=by
 intro a0 r H;intro ss;unfold Hw at H;refine hdh mixed Tryz.func15 (rs:=[.tmp 2]) fun q tT hF hX=>?_;refine go ?_;refine X9 hF rfl fun b1 ss2 hF=>?_;refine go ?_;refine X9 hF rfl fun b3 ss4 hF=>?_;refine go ?_;refine st hF 0 rfl fun ss5 hF=>?_;refine go ?_;obtain ⟨x5,hx5,H⟩:=bnd H;refine cx (Me a0 1 400 _ hx5 b3  _ (pre 1 0 0 hF hX)) ?_;rintro _ ss6 ⟨t7,rfl,hT,hG⟩;have hF:=L6 1 0 hF hX hT hG;refine go ?_;have e:=pur H;subst e;exact rt _
theorem Cb:∀(a0:Int) r,GW a0=some r->Vb K0 67 [i6 a0] (.str r):=fun a0 r H =>
 Qam Tryz.func67 (by kernel_rfl) (by kernel_rfl) (by kernel_rfl) (fun n h0 h1 w ht=>Tryz.strconv_Itoa n h0 h1 w ht) H
theorem Cc:∀(a0:List ByteArray) (a1:ByteArray) r,GV a0 a1=some r->Vb K0 68 [sf cS a0,.str a1] (.str r):=fun a0 a1 r H =>
 Qao Tryz.func68 (by kernel_rfl) (by kernel_rfl) (fun a c sep w=>Tryz.strings_Join_none a c sep w) (fun bk o c xs sep w h1 h2 h3 h4 h5=>Tryz.strings_Join bk o c xs sep w h1 h2 h3 h4 h5) H
end Go.Proofs.SA
