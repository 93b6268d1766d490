/- Printed by a program of mine: the plain functions that the code computes (D), and the walks that show it (W). -/
import Derived.Test.YtiiamkelehfnoaaGreatDoorGx
import Derived.Test.YtiiamkelehfnoaaGreatDoorSaTy
import Derived.Test.YtiiamkelehfnoaaGreatDoorLg
import Derived.Test.YtiiamkelehfnoaaGreatDoorChecked
import Derived.Lib.Strings
import Derived.Lib.Slices
import Derived.Lib.Walk
import Derived.Lib.Bytealg
import Derived.Test.YtiiamkelehfnoaaGreatDoorseD
import Derived.Test.YtiiamkelehfnoaaGreatDoorseW0
set_option maxRecDepth 100000
set_option maxHeartbeats 2000000
set_option linter.unusedSimpArgs false
set_option linter.unusedVariables false
open Go Go.Proofs Go.Proofs.Shadow
open Fm renaming cells → K0, kind → Zp, name → Zq, kids → Zr
open _root_.And renaming intro → K5
open Tryz renaming prog → K1, f74 → ZJ
open Bnd renaming cells → K2
open Mac renaming cells → Ze
open Hit renaming cells → K3
open Cor renaming cells → ZB
open _root_.Int renaming toNat_natCast → Kn, reduceEq → ZH
open Xpn renaming cells → Za, mk → KV
open Rul renaming cells → K7
open EE renaming not → K8, of → Zf, new → Zo
open _root_.Nat renaming reduceEqDiff → ZC, reduceLeDiff → ZD, reduceAdd → ZE, reduceMul → ZF, reduceLT → ZG
open Fx renaming refl → K4, kept → Zb, self → K6
open _root_.List renaming not_mem_nil → KG, mem_cons → Kl, flatten_cons → Qr, flatten_nil → K9, cons_append → Kj, mem_cons_self → KF, append_nil → KK, nil_append → QU, mem_singleton → ZI, map_set → KH
open _root_.ByteArray renaming mk → Qd
open _root_.Option renaming map_some → Qu
open Go.IntKind (i64)
namespace Go.Proofs.SA
theorem Nj (fx0:List Bnd) (fx1:List Fm):(∀(a1 a3:Fm) r,WR fx0 a1 fx1 a3=some r->VP K1 170 [sf K2 fx0,.agg (K0 a1),sf K0 fx1,.agg (K0 a3)] (.tup [sf K3 r.1,.bool r.2]))/\(∀(a1 a3:List Fm) r,DR fx0 a1 fx1 a3=some r->VP K1 188 [sf K2 fx0,sf K0 a1,sf K0 fx1,sf K0 a3] (.tup [sf K3 r.1,.bool r.2])):=by
 have h:=WR.mutual_partial_correctness fx0 fx1 (motive_1:=fun a1 a3 r=>VP K1 170 [sf K2 fx0,.agg (K0 a1),sf K0 fx1,.agg (K0 a3)] (.tup [sf K3 r.1,.bool r.2])) (motive_2:=fun a1 a3 r=>VP K1 188 [sf K2 fx0,sf K0 a1,sf K0 fx1,sf K0 a3] (.tup [sf K3 r.1,.bool r.2])) (motive_3:=fun a1 a3 Jo JU IF J8 out=>∀c,Yg Tryz.f188 1=some c->∀(Q:QT) (tt:Sto),(∀(Tf:List Hit),out=Sum.inr Tf->∀(T:TT) (σ:Sto) (e1v0:AV),T 10=e1v0->Fx tt σ [] [⟨e1v0,217,12,rws K3 Tf⟩]->Q (.ex 2) ⟨T,σ⟩)->(∀r,out=Sum.inl r->∀s',ID K1 [.tmp 8,.tmp 9] (fun r' ss'=>r'=.tup [sf K3 r.1,.bool r.2]/\ss'=tt) s'->Q .ret s')->∀(T:TT) (σ:Sto) (z1v0:AV),T 0=sf K2 fx0/\T 1=sf K0 a1/\T 2=sf K0 fx1/\T 3=sf K0 a3/\T 10=z1v0/\T 11=i6 Jo/\T 13=i6 IF/\T 14=i6 J8->Fx tt σ [] [⟨z1v0,217,12,rws K3 JU⟩]->aLp K1 c Q ⟨T,σ⟩) (motive_4:=fun a1 a3 Jo JU J8 Qh2 Pj RG out=>∀c,Yg Tryz.f188 2=some c->∀(Q:QT) (tt:Sto) (z1v0:AV),(∀(Qpo:List (List Hit)) (Qlj:Int),out=Sum.inr (Qpo,Qlj)->∀(T:TT) (σ:Sto) (e2v1:AV),T 0=sf K2 fx0/\T 1=sf K0 a1/\T 2=sf K0 fx1/\T 3=sf K0 a3/\T 10=z1v0/\T 11=i6 Jo/\T 13=i6 Qlj/\T 14=i6 J8/\T 17=e2v1->Fx tt σ [] [⟨e2v1,199,1,rws (cL K3) Qpo⟩,⟨z1v0,217,12,rws K3 JU⟩]->Q (.ex 4) ⟨T,σ⟩)->(∀r,out=Sum.inl r->∀s',ID K1 [.tmp 8,.tmp 9] (fun r' ss'=>r'=.tup [sf K3 r.1,.bool r.2]/\ss'=tt) s'->Q .ret s')->∀(T:TT) (σ:Sto) (z2v1:AV),T 0=sf K2 fx0/\T 1=sf K0 a1/\T 2=sf K0 fx1/\T 3=sf K0 a3/\T 10=z1v0/\T 11=i6 Jo/\T 13=i6 Pj/\T 14=i6 J8/\T 17=z2v1/\T 18=i6 RG->Fx tt σ [] [⟨z2v1,199,1,rws (cL K3) Qh2⟩,⟨z1v0,217,12,rws K3 JU⟩]->aLp K1 c Q ⟨T,σ⟩) ?s0 ?s1 ?s2 ?s3
 ·exact ⟨h.1,h.2.1⟩
 ·intro DR C1 a1 a3 r H;intro σ;refine hdg mixed Tryz.func170 (rs:=[.tmp 8,.tmp 9]) fun q tT=>?_;have hF:=K4 σ;have hX:=Tau.none σ;refine go ?_;refine Ya hF rfl fun b1 ss2 hF=>?_;refine go ?_;refine Ya hF rfl fun b3 ss4 hF=>?_;refine go ?_;refine cdp H (fun h H=>?_) (fun h H=>?_)
  ·refine go ?_;refine cdp H (fun h H=>?_) (fun h H=>?_)
   ·refine go ?_;have e:=pur H;subst e;exact rt _
   ·refine go ?_;refine bp H (CK fx1 a1) fun x21 h H=>cl h ?_;refine go ?_;refine cdb H (fun h H=>?_) (fun h H=>?_)
    ·refine go ?_;obtain ⟨x31,g5,H⟩:=bnd H;refine Yc 4 27 31 (.bool x31) (gi q (fun q=>?_) (fun q=>?_)) (fun J=>?_)
     ·rw [if_pos (dt q)] at g5;refine go ?_;obtain ⟨x30,hx30,g5⟩:=bnd g5;refine cl (PK fx0 a1 a3 _ hx30) ?_;refine go ?_;exact Yt 27 g5
     ·rw [if_neg (df q)] at g5;refine go ?_;exact Yt 27 g5
     refine go ?_;have e:=pur H;subst e;exact rt _
    ·refine go ?_;have hF:=hF.lit 217 12 (rws K3 []) rfl;refine apw (g:=K3) (rows:=[[i6 a1.kind,.str a1.name,i6 a1.num,sf cI a1.sc,sf K0 a1.kids,i6 0,i6 a3.kind,.str a3.name,i6 a3.num,sf cI a3.sc,sf K0 a3.kids,.Yd]]) hF 0 H Hit.X6 true rfl (by simp only [sf,i6,zB,Vn,VQ,cI,cU,cS,cL,Hit.Yb,Fm.Yb,Zp,Zq,Fm.num,Fm.sc,Zr,Hit.name,Hit.depth,Hit.one,Hit.many,Cor.kind,Cor.id,Cor.name,Cor.num,Cor.ids,Cor.data,Cor.kids,Val.kind,Val.num,Val.name,Val.items,Val.fn,Val.env,Slt.id,Slt.val,Qr,K9,KK,Kj,QU];exact (.cons (.refl _) id (.cons (.refl _) id (.cons (.refl _) id (.cons (.refl _) id (.cons (.refl _) id (.cons (.refl _) id (.cons (.refl _) id (.cons (.refl _) id (.cons (.refl _) id (.cons (.refl _) id (.cons (.refl _) id (.cons .Yd (fun _=>rfl) .nil))))))))))))) fun x37 H v7 s8 hF=>?_;refine go ?_;have e:=pur H;subst e;exact rt _
  ·refine go ?_;refine cdp H (fun h H=>?_) (fun h H=>?_)
   ·refine go ?_;refine bp H (G7 a1 a3) fun x44 h H=>cl h ?_;refine go ?_;have e:=pur H;subst e;exact rt _
   ·refine go ?_;refine cdn H (fun h H=>?_) (fun h H=>?_)
    ·refine go ?_;have e:=pur H;subst e;exact rt _
    ·refine go ?_;refine bp H (C1 a1.kids a3.kids) fun x55 h H=>cl h ?_;refine go ?_;have e:=pur H;subst e;exact rt _
 ·intro WC L1 a1 a3 r H;intro σ;refine hdg mixed Tryz.func188 (rs:=[.tmp 8,.tmp 9]) fun q tT=>?_;have hF:=K4 σ;have hX:=Tau.none σ;refine go ?_;obtain ⟨o1,ho1,H⟩:=bnd H;refine Mt fx0 a1 fx1 a3 (-1) 0 _ ho1 _ rfl _ _  ?_ ?_ _ _  S hF
  ·intro Jo he T3 ss4 tT hF;have he:=he.symm;subst he;refine go ?_;obtain ⟨x44,g6,H⟩:=bnd H;refine Yc 5 39 44 (.bool x44) (gi q (fun q=>?_) (fun q=>?_)) (fun J=>?_)
   ·refine go ?_;exact Yt 39 g6
   ·refine go ?_;exact Yt 39 g6
   refine go ?_;obtain ⟨x56,g8,H⟩:=bnd H;refine Yc 10 46 56 (.bool x56) (giN q (fun q=>?_) (fun q=>?_)) (fun J=>?_)
   ·rw [if_neg (dbf q)] at g8;refine go ?_;obtain ⟨x55,g10,g8⟩:=bnd g8;refine Yc 6 49 55 (.bool x55) (gi q (fun q=>?_) (fun q=>?_)) (fun J=>?_)
    ·refine go ?_;exact Yt 49 g10
    ·refine go ?_;exact Yt 49 g10
    refine go ?_;exact Yt 46 g8
   ·rw [if_pos (dbt q)] at g8;refine go ?_;exact Yt 46 g8
   refine go ?_;refine cdb H (fun h H=>?_) (fun h H=>?_)
   ·refine go ?_;have e:=pur H;subst e;exact rt _
   ·have hF:=hF.lit 217 12 (rws K3 []) rfl;refine go ?_;obtain ⟨o27,ho27,H⟩:=bnd H;refine L1 a1 a3 Jo [] 0 0 _ ho27 _ rfl _ _  ?_ ?_ _ _ (.sl true (rws K3 [])) S hF
    ·intro Qa1 he T29 s30 e28v0 tT hF;have he:=he.symm;subst he
     try dsimp only at H
     refine go ?_;have e:=pur H;subst e;exact rt _
    ·intro r hr s' hs;subst hr;have e:=pur H;subst e;exact hsq hs
  ·trivial
 ·intro WR WC Gp C0 L1 L0 a1 a3 Jo JU IF J8 out H c hc Q tt  hE hR T σ z1v0 tT hF;refine lpx tt hc rfl fun q hX=>go ?_;refine cdp H (fun h H=>?_) (fun h H=>?_)
  ·obtain ⟨x66,f1,H⟩:=bil (g:=K0) Fm.X6 H;refine go1 ?_;refine bp H (V4 x66) fun x68 h H=>cl h ?_;refine go ?_;refine cdb H (fun h H=>?_) (fun h H=>?_)
   ·refine go ?_;exact L1 a1 a3 Jo JU IF (i64.wrap (J8+1)) _ H _ rfl Q tt  hE hR _ _ z1v0 S hF
   ·refine go ?_;refine cdn H (fun h H=>?_) (fun h H=>?_)
    ·refine go ?_;refine Yj E0 [.v,.v,.v,.v,.v,.v,.v,.v,.v,.v,.v,.v,.v,.v,.v,.v] (by kernel_rfl) ?_;obtain ⟨x76,f1,H⟩:=bil (g:=K0) Fm.X6 H;obtain ⟨x81,f2,H⟩:=bil (g:=K0) Fm.X6 H;refine go2 ?_;refine bp H (C0 x76 x81) fun x83 h H=>cv h ?_;refine go ?_;refine cdb H (fun h H=>?_) (fun h H=>?_)
     ·refine go ?_;exact wq (hR _ (pur H).symm _ (rt _))
     ·refine go ?_;refine apd (g:=K3) hF 0 H (rdo (c:=false) (g:=K3) Hit.X6) fun x91 H v12 s13 hF=>?_;refine go ?_;exact L1 a1 a3 Jo x91 (i64.wrap (IF+1)) (i64.wrap (J8+1)) _ H _ rfl Q tt  hE hR _ _ v12 S hF
    ·have hF:=hF.lit 199 1 (rws (cL K3) []) rfl;refine go ?_;obtain ⟨o16,ho16,H⟩:=bnd H;refine L0 a1 a3 Jo JU J8 [] IF (i64.wrap ((a3.length:Int) - (i64.wrap ((a1.length:Int) - 2)))) _ ho16 _ rfl _ _ z1v0 ?_ ?_ _ _ (.sl true (rws (cL K3) [])) S hF
     ·intro Td N6 he T18 s19 e17v1 tT hF;have he:=he.symm;subst he
      try dsimp only at H
      obtain ⟨x131,f1,H⟩:=bil (g:=K0) Fm.X6 H;refine go1 ?_;obtain ⟨x135,hx135,H⟩:=bnd H;obtain ⟨s21,hF,hw22,hb23,hz24⟩:=frz hF 0;refine Qam (Sz x131 fx1 Td _ hx135 _) (by (try simp only [sf,i6,zB,Fm.Yb]);exact (.cons (Wk.sub hb23 _) id (.cons (Wk.sub hb23 _) id (.cons hw22 (fun _=>rfl) .nil)))) hb23 ?_;rintro _ _ ⟨rfl,rfl⟩;refine go ?_;refine apd (g:=K3) hF 0 H (rdo (c:=false) (g:=K3) Hit.X6) fun x136 H v25 s26 hF=>?_;refine go ?_;exact L1 a1 a3 Jo x136 N6 (i64.wrap (J8+1)) _ H _ rfl Q tt  hE hR _ _ v25 S hF
     ·intro r hr s' hs;subst hr;exact wq (hR _ (pur H).symm _ hs)
  ·refine go ?_;exact wq (hE _ (pur H).symm _ _ z1v0 S hF)
 ·intro WR Gp C0 L0 a1 a3 Jo JU J8 Qh2 Pj RG out H c hc Q tt z1v0 hE hR T σ z2v1 tT hF;refine lpx tt hc rfl fun q hX=>go ?_;refine cdp H (fun h H=>?_) (fun h H=>?_)
  ·refine go ?_;refine Yj E0 [.v,.v,.v,.v,.v,.v,.v,.v,.v,.v,.v,.v,.v,.v,.v,.v] (by kernel_rfl) ?_;obtain ⟨x109,f1,H⟩:=bil (g:=K0) Fm.X6 H;obtain ⟨x114,f2,H⟩:=bil (g:=K0) Fm.X6 H;refine go2 ?_;refine bp H (C0 x109 x114) fun x116 h H=>cv h ?_;refine go ?_;refine cdb H (fun h H=>?_) (fun h H=>?_)
   ·refine go ?_;exact wq (hR _ (pur H).symm _ (rt _))
   ·refine go ?_;refine apd (g:=(cL K3)) hF 0 H (rdo (c:=true) (g:=(cL K3)) (fun _=>rfl)) fun x125 H v14 s15 hF=>?_;refine go ?_;exact L0 a1 a3 Jo JU J8 x125 (i64.wrap (Pj+1)) (i64.wrap (RG - 1)) _ H _ rfl Q tt z1v0 hE hR _ _ v14 S hF
  ·refine go ?_;exact wq (hE _ _ (pur H).symm _ _ z2v1 S hF)
theorem EG:∀(a0:List Bnd) (a1:Fm) (a2:List Fm) (a3:Fm) r,WR a0 a1 a2 a3=some r->VP K1 170 [sf K2 a0,.agg (K0 a1),sf K0 a2,.agg (K0 a3)] (.tup [sf K3 r.1,.bool r.2]):=fun a0 a1 a2 a3=>(Nj a0 a2).1 a1 a3
theorem E6:∀(a0:List Bnd) (a1:List Rul) (a2:List Fm) (a3:Fm) (YY:Int) out,Wj a0 a1 a2 a3 YY=some out->∀c,Yg Tryz.f146 0=some c->∀(Q:QT) (tt:Sto) (b1:Nat),(∀(_u:Unit),out=Sum.inr ()->∀(T:TT) (σ:Sto),0+0=0->Fx tt σ [(b1,⟨34,5,[i6 a3.kind,.str a3.name,i6 a3.num,sf cI a3.sc,sf K0 a3.kids]⟩)] []->Q (.ex 0) ⟨T,σ⟩)->(∀r,out=Sum.inl r->∀s',ID K1 [.tmp 8,.tmp 9] (fun r' ss'=>r'=.tup [i6 r.1,.bool r.2]/\ss'=tt) s'->Q .ret s')->∀(T:TT) (σ:Sto),T 0=sf K2 a0/\T 1=sf K7 a1/\T 2=sf K0 a2/\T 7=.ptr b1 0/\T 10=i6 YY->Fx tt σ [(b1,⟨34,5,[i6 a3.kind,.str a3.name,i6 a3.num,sf cI a3.sc,sf K0 a3.kids]⟩)] []->aLp K1 c Q ⟨T,σ⟩:=by
 intro a0 a1 a2 a3 YY;revert YY;refine Wj.partial_correctness a0 a1 a2 a3 _ ?_;intro Wj IH YY out H c hc Q tt b1 hE hR T σ tT hF;refine lpx tt hc rfl fun q hX=>go ?_;refine cdp H (fun h H=>?_) (fun h H=>?_)
 ·refine go ?_;refine Yj E0 [.v,.v,.v,.v,.v,.v,.v,.v,.v,.v,.v,.v,.v,.v] (by kernel_rfl) ?_;obtain ⟨x37,f1,H⟩:=bil (g:=K7) Rul.X6 H;refine go1 ?_;refine bp H (EG a0 x37.pat a2 a3) fun x42 h H=>cv h ?_;refine go ?_;refine cdb H (fun h H=>?_) (fun h H=>?_)
  ·refine go ?_;exact wq (hR _ (pur H).symm _ (rt _))
  ·refine go ?_;exact IH  (i64.wrap (YY+1)) _ H _ rfl Q tt b1 hE hR _ _  S hF
 ·refine go ?_;exact wq (hE () (pur H).symm _ _  S hF)
theorem Dq:∀(a0:List Bnd) (a1:List Rul) (a2:List Fm) (a3:Fm) r,Ix a0 a1 a2 a3=some r->VP K1 146 [sf K2 a0,sf K7 a1,sf K0 a2,.agg (K0 a3)] (.tup [i6 r.1,.bool r.2]):=by
 intro a0 a1 a2 a3 r H;intro σ;unfold Ix at H;refine hdg mixed Tryz.func146 (rs:=[.tmp 8,.tmp 9]) fun q tT=>?_;have hF:=K4 σ;have hX:=Tau.none σ;refine go ?_;refine Ya hF rfl fun b1 ss2 hF=>?_;refine go ?_;refine bp H (A0 a0) fun x14 h H=>cl h ?_;refine go ?_;obtain ⟨x21,g3,H⟩:=bnd H;refine Yc 4 17 21 (.bool x21) (giN q (fun q=>?_) (fun q=>?_)) (fun J=>?_)
 ·rw [if_neg (dbf q)] at g3;refine go ?_;obtain ⟨x19,hx19,g3⟩:=bnd g3;refine cl (EI a1 a2 _ hx19) ?_;refine go ?_;exact Yt 17 g3
 ·rw [if_pos (dbt q)] at g3;refine go ?_;exact Yt 17 g3
 refine go ?_;obtain ⟨x26,g5,H⟩:=bnd H;refine Yc 3 23 26 (.bool x26) (giN q (fun q=>?_) (fun q=>?_)) (fun J=>?_)
 ·rw [if_neg (dbf q)] at g5;refine go ?_;obtain ⟨x24,hx24,g5⟩:=bnd g5;refine cl (Va a3 _ hx24) ?_;refine go ?_;exact Yt 23 g5
 ·rw [if_pos (dbt q)] at g5;refine go ?_;exact Yt 23 g5
 refine go ?_;refine cdb H (fun h H=>?_) (fun h H=>?_)
 ·refine go ?_;have e:=pur H;subst e;exact rt _
 ·refine go ?_;obtain ⟨o7,ho7,H⟩:=bnd H;refine E6 a0 a1 a2 a3 0 _ ho7 _ rfl _ _ b1 ?_ ?_ _ _  S hF
  ·intro _ he T9 s10 tT hF;have he:=he.symm;subst he
   try dsimp only at H
   refine go ?_;have e:=pur H;subst e;exact rt _
  ·intro r hr s' hs;subst hr;have e:=pur H;subst e;exact hsq hs
theorem FD:(∀(a0:Fm) r,Wz a0=some r->VP K1 202 [.agg (K0 a0)] (.agg (K0 r)))/\(∀(a0:List Fm) r,Ie a0=some r->VP K1 210 [sf K0 a0] (sf K0 r)):=by
 have h:=Wz.mutual_partial_correctness  (motive_1:=fun a0 r=>VP K1 202 [.agg (K0 a0)] (.agg (K0 r))) (motive_2:=fun a0 r=>VP K1 210 [sf K0 a0] (sf K0 r)) (motive_3:=fun a0 X9 Vd out=>∀c,Yg Tryz.f210 0=some c->∀(Q:QT) (tt:Sto),(∀(Vz:List Fm),out=Vz->∀(T:TT) (σ:Sto) (e0v0:AV),T 3=e0v0->Fx tt σ [] [⟨e0v0,34,5,rws K0 Vz⟩]->Q (.ex 0) ⟨T,σ⟩)->True->∀(T:TT) (σ:Sto) (z0v0:AV),T 3=z0v0/\T 7=sf K0 a0/\T 8=i6 (a0.length:Int)/\T 9=i6 Vd->Fx tt σ [] [⟨z0v0,34,5,rws K0 X9⟩]->aLp K1 c Q ⟨T,σ⟩) ?s0 ?s1 ?s2
 ·exact ⟨h.1,h.2.1⟩
 ·intro Ie C1 a0 r H;intro σ;refine hdg mixed Tryz.func202 (rs:=[.cell 2 34]) fun q tT=>?_;have hF:=K4 σ;have hX:=Tau.none σ;refine go ?_;refine Ya hF rfl fun b1 ss2 hF=>?_;refine go ?_;refine Ya hF rfl fun b3 ss4 hF=>?_;refine go ?_;refine apv (g:=cI) H (fun _=>rfl) (rdo (c:=false) (g:=cI) (fun _=>rfl)) fun x6 H=>?_;refine go ?_;refine st hF 1 rfl fun ss5 hF=>?_;refine go ?_;refine bp H (C1 a0.kids) fun x10 h H=>cl h ?_;refine go ?_;refine st hF 1 rfl fun ss6 hF=>?_;refine go ?_;refine st hF 0 rfl fun s7 hF=>?_;refine go ?_;have e:=pur H;subst e;exact rt _
 ·intro VL L0 a0 r H;intro σ;refine hdg mixed Tryz.func210 (rs:=[.tmp 2]) fun q tT=>?_;have hF:=K4 σ;have hX:=Tau.none σ;have hF:=hF.lit 34 5 (rws K0 []) rfl;refine go ?_;obtain ⟨o6,ho6,H⟩:=bnd H;refine L0 a0 [] 0 _ ho6 _ rfl _ _  ?_ ?_ _ _ (.sl true (rws K0 [])) S hF
  ·intro Qgi he T8 s9 e7v0 tT hF;have he:=he.symm;subst he;refine go ?_;have e:=pur H;subst e;exact rt _
  ·trivial
 ·intro Wz VL C0 L0 a0 X9 Vd out H c hc Q tt  hE hR T σ z0v0 tT hF;refine lpx tt hc rfl fun q hX=>go ?_;refine cdp H (fun h H=>?_) (fun h H=>?_)
  ·obtain ⟨x11,f1,H⟩:=bil (g:=K0) Fm.X6 H;refine go1 ?_;refine Ya hF rfl fun b1 ss2 hF=>?_;refine go ?_;refine st hF 0 rfl fun ss3 hF=>?_;refine go ?_;refine bp H (C0 x11) fun x15 h H=>cl h ?_;refine go ?_;refine apd (g:=K0) hF 0 H (rdo (c:=true) (g:=K0) Fm.X6) fun x17 H v4 ss5 hF=>?_;refine go ?_;exact L0 a0 x17 (i64.wrap (Vd+1)) _ H _ rfl Q tt  hE hR _ _ v4 S (hF.drop 1 0)
  ·refine go ?_;exact wq (hE _ (pur H).symm _ _ z0v0 S hF)
theorem CI:∀(a0:Fm) r,Wz a0=some r->VP K1 202 [.agg (K0 a0)] (.agg (K0 r)):=FD.1
theorem Ly:∀(a0:Rul) r,IV a0=some r->VP K1 193 [.agg (K7 a0)] (.agg (K7 r)):=by
 intro a0 r H;intro σ;unfold IV at H;refine hdg mixed Tryz.func193 (rs:=[.cell 2 87]) fun q tT=>?_;have hF:=K4 σ;have hX:=Tau.none σ;refine go ?_;refine Ya hF rfl fun b1 ss2 hF=>?_;refine go ?_;refine Ya hF rfl fun b3 ss4 hF=>?_;refine go ?_;refine bp H (CI a0.pat) fun x5 h H=>cl h ?_;refine go ?_;refine st hF 1 rfl fun ss5 hF=>?_;refine go ?_;refine bp H (CI a0.tpl) fun x9 h H=>cl h ?_;refine go ?_;refine st hF 1 rfl fun ss6 hF=>?_;refine go ?_;refine st hF 0 rfl fun s7 hF=>?_;refine go ?_;have e:=pur H;subst e;exact rt _
theorem C7:∀(a0 X9:List Rul) (Vd:Int) out,VB a0 X9 Vd=some out->∀c,Yg Tryz.f181 0=some c->∀(Q:QT) (tt:Sto),(∀(Vz:List Rul),out=Vz->∀(T:TT) (σ:Sto) (e0v0:AV),T 3=e0v0->Fx tt σ [] [⟨e0v0,87,10,rws K7 Vz⟩]->Q (.ex 0) ⟨T,σ⟩)->True->∀(T:TT) (σ:Sto) (z0v0:AV),T 3=z0v0/\T 7=sf K7 a0/\T 8=i6 (a0.length:Int)/\T 9=i6 Vd->Fx tt σ [] [⟨z0v0,87,10,rws K7 X9⟩]->aLp K1 c Q ⟨T,σ⟩:=by
 intro a0 X9 Vd;revert X9 Vd;refine VB.partial_correctness a0 _ ?_;intro VB IH X9 Vd out H c hc Q tt  hE hR T σ z0v0 tT hF;refine lpx tt hc rfl fun q hX=>go ?_;refine cdp H (fun h H=>?_) (fun h H=>?_)
 ·obtain ⟨x11,f1,H⟩:=bil (g:=K7) Rul.X6 H;refine go1 ?_;refine Ya hF rfl fun b1 ss2 hF=>?_;refine go ?_;refine st hF 0 rfl fun ss3 hF=>?_;refine go ?_;refine bp H (Ly x11) fun x15 h H=>cl h ?_;refine go ?_;refine apd (g:=K7) hF 0 H (rdo (c:=true) (g:=K7) Rul.X6) fun x17 H v4 ss5 hF=>?_;refine go ?_;exact IH  x17 (i64.wrap (Vd+1)) _ H _ rfl Q tt  hE hR _ _ v4 S (hF.drop 1 0)
 ·refine go ?_;exact wq (hE _ (pur H).symm _ _ z0v0 S hF)
theorem D3:∀(a0:List Rul) r,GP a0=some r->VP K1 181 [sf K7 a0] (sf K7 r):=by
 intro a0 r H;intro σ;unfold GP at H;refine hdg mixed Tryz.func181 (rs:=[.tmp 2]) fun q tT=>?_;have hF:=K4 σ;have hX:=Tau.none σ;have hF:=hF.lit 87 10 (rws K7 []) rfl;refine go ?_;obtain ⟨o6,ho6,H⟩:=bnd H;refine C7 a0 [] 0 _ ho6 _ rfl _ _  ?_ ?_ _ _ (.sl true (rws K7 [])) S hF
 ·intro Qgi he T8 s9 e7v0 tT hF;have he:=he.symm;subst he;refine go ?_;have e:=pur H;subst e;exact rt _
 ·trivial
theorem Fk:∀(a0 a1:Fm) r,GU a0 a1=some r->VP K1 203 [.agg (K0 a0),.agg (K0 a1)] (.bool r):=by
 intro a0 a1;revert a0;refine GU.partial_correctness a1 (motive_1:=fun a0 r=>VP K1 203 [.agg (K0 a0),.agg (K0 a1)] (.bool r)) (motive_2:=fun a0 Yh out=>∀c,Yg Tryz.f203 0=some c->∀(Q:QT) (tt:Sto) (b1 b3:Nat),(∀(_u:Unit),out=Sum.inr ()->∀(T:TT) (σ:Sto),0+0=0->Fx tt σ [(b3,⟨34,5,[i6 a1.kind,.str a1.name,i6 a1.num,sf cI a1.sc,sf K0 a1.kids]⟩),(b1,⟨34,5,[i6 a0.kind,.str a0.name,i6 a0.num,sf cI a0.sc,sf K0 a0.kids]⟩)] []->Q (.ex 0) ⟨T,σ⟩)->(∀r,out=Sum.inl r->∀s',ID K1 [.tmp 4] (fun r' ss'=>r'=.bool r/\ss'=tt) s'->Q .ret s')->∀(T:TT) (σ:Sto),T 2=.ptr b1 0/\T 3=.ptr b3 0/\T 5=i6 Yh->Fx tt σ [(b3,⟨34,5,[i6 a1.kind,.str a1.name,i6 a1.num,sf cI a1.sc,sf K0 a1.kids]⟩),(b1,⟨34,5,[i6 a0.kind,.str a0.name,i6 a0.num,sf cI a0.sc,sf K0 a0.kids]⟩)] []->aLp K1 c Q ⟨T,σ⟩) ?_ ?_
 ·intro JJ L0 a0 r H;intro σ;refine hdg mixed Tryz.func203 (rs:=[.tmp 4]) fun q tT=>?_;have hF:=K4 σ;have hX:=Tau.none σ;refine go ?_;refine Ya hF rfl fun b1 ss2 hF=>?_;refine go ?_;refine Ya hF rfl fun b3 ss4 hF=>?_;refine go ?_;obtain ⟨x13,g5,H⟩:=bnd H;refine Yc 3 10 13 (.bool x13) (gi q (fun q=>?_) (fun q=>?_)) (fun J=>?_)
  ·rw [if_pos (dt q)] at g5;refine go ?_;obtain ⟨x12,hx12,g5⟩:=bnd g5;refine cl (G7 a0 a1 _ hx12) ?_;refine go ?_;exact Yt 10 g5
  ·rw [if_neg (df q)] at g5;refine go ?_;exact Yt 10 g5
  refine go ?_;refine cdb H (fun h H=>?_) (fun h H=>?_)
  ·refine go ?_;have e:=pur H;subst e;exact rt _
  ·refine go ?_;obtain ⟨o7,ho7,H⟩:=bnd H;refine L0 a0 0 _ ho7 _ rfl _ _ b1 b3 ?_ ?_ _ _  S hF
   ·intro _ he T9 s10 tT hF;have he:=he.symm;subst he
    try dsimp only at H
    refine go ?_;have e:=pur H;subst e;exact rt _
   ·intro r hr s' hs;subst hr;have e:=pur H;subst e;exact hsq hs
 ·intro GU JJ C0 L0 a0 Yh out H c hc Q tt b1 b3 hE hR T σ tT hF;refine lpx tt hc rfl fun q hX=>go ?_;refine cdp H (fun h H=>?_) (fun h H=>?_)
  ·refine go ?_;refine Yj E0 [.v,.v,.v,.v,.v,.v,.v] (by kernel_rfl) ?_;obtain ⟨x24,f1,H⟩:=bil (g:=K0) Fm.X6 H;refine go1 ?_;refine bp H (C0 x24) fun x27 h H=>cv h ?_;refine go ?_;refine cdb H (fun h H=>?_) (fun h H=>?_)
   ·refine go ?_;exact wq (hR _ (pur H).symm _ (rt _))
   ·refine go ?_;exact L0 a0 (i64.wrap (Yh+1)) _ H _ rfl Q tt b1 b3 hE hR _ _  S hF
  ·refine go ?_;exact wq (hE () (pur H).symm _ _  S hF)
theorem LA:∀(a0:Fm) (a1:List Hit) (Yh YS:Int) out,WD a0 a1 Yh YS=some out->∀c,Yg Tryz.f196 0=some c->∀(Q:QT) (tt:Sto) (b1:Nat),(∀(Qgb:Int),out=Sum.inr Qgb->∀(T:TT) (σ:Sto),T 5=i6 Qgb->Fx tt σ [(b1,⟨34,5,[i6 a0.kind,.str a0.name,i6 a0.num,sf cI a0.sc,sf K0 a0.kids]⟩)] []->Q (.ex 0) ⟨T,σ⟩)->(∀r,out=Sum.inl r->∀s',ID K1 [.tmp 4] (fun r' ss'=>r'=i6 r/\ss'=tt) s'->Q .ret s')->∀(T:TT) (σ:Sto),T 1=sf K3 a1/\T 2=.ptr b1 0/\T 5=i6 Yh/\T 6=i6 YS->Fx tt σ [(b1,⟨34,5,[i6 a0.kind,.str a0.name,i6 a0.num,sf cI a0.sc,sf K0 a0.kids]⟩)] []->aLp K1 c Q ⟨T,σ⟩:=by
 intro a0 a1 Yh YS;revert Yh YS;refine WD.partial_correctness a0 a1 _ ?_;intro WD IH Yh YS out H c hc Q tt b1 hE hR T σ tT hF;refine lpx tt hc rfl fun q hX=>go ?_;refine cdp H (fun h H=>?_) (fun h H=>?_)
 ·refine go ?_;refine Yj E0 [.v,.v,.v,.v,.v,.v,.v,.v,.v,.v,.v,.v,.v,.v,.v,.v] (by kernel_rfl) ?_;obtain ⟨x15,f1,H⟩:=bil (g:=K3) Hit.X6 H;refine go1 ?_;obtain ⟨x28,g3,H⟩:=bnd H;refine V0 8 20 28 (.bool x28) (tiN q (fun q=>?_) (fun q=>?_)) (fun J=>?_)
  ·rw [if_neg (df q)] at g3;obtain ⟨x23,f1,g3⟩:=bil (g:=K3) Hit.X6 g3;refine go1 ?_;obtain ⟨x26,hx26,g3⟩:=bnd g3;refine cv (Fk a0 x23.name _ hx26) ?_;refine go ?_;exact Yt 20 g3
  ·rw [if_pos (dt q)] at g3;refine go ?_;exact Yt 20 g3
  refine go ?_;refine cdb H (fun h H=>?_) (fun h H=>?_)
  ·refine go ?_;exact IH  Yh (i64.wrap (YS+1)) _ H _ rfl Q tt b1 hE hR _ _  S hF
  ·refine go ?_;obtain ⟨x40,g5,H⟩:=bnd H;refine Yc 8 32 40 (.bool x40) (gi q (fun q=>?_) (fun q=>?_)) (fun J=>?_)
   ·rw [if_pos (dt q)] at g5;obtain ⟨x35,f1,g5⟩:=bil (g:=K3) Hit.X6 g5;refine go1 ?_;refine go ?_;exact Yt 32 g5
   ·rw [if_neg (df q)] at g5;refine go ?_;exact Yt 32 g5
   refine go ?_;refine cdb H (fun h H=>?_) (fun h H=>?_)
   ·refine go ?_;exact wq (hR _ (pur H).symm _ (rt _))
   ·obtain ⟨x43,f1,H⟩:=bil (g:=K3) Hit.X6 H;refine go1 ?_;refine go ?_;exact IH  (x43.many.length:Int) (i64.wrap (YS+1)) _ H _ rfl Q tt b1 hE hR _ _  S hF
 ·refine go ?_;exact wq (hE _ (pur H).symm _ _  S hF)
theorem ON:∀(a0:Fm) (a1:List Hit) r,AH a0 a1=some r->VP K1 196 [.agg (K0 a0),sf K3 a1] (i6 r):=by
 intro a0 a1 r H;intro σ;unfold AH at H;refine hdg mixed Tryz.func196 (rs:=[.tmp 4]) fun q tT=>?_;have hF:=K4 σ;have hX:=Tau.none σ;refine go ?_;refine Ya hF rfl fun b1 ss2 hF=>?_;refine go ?_;obtain ⟨o7,ho7,H⟩:=bnd H;refine LA a0 a1 (-1) 0 _ ho7 _ rfl _ _ b1 ?_ ?_ _ _  S hF
 ·intro Qmx he T9 s10 tT hF;have he:=he.symm;subst he
  try dsimp only at H
  refine go ?_;have e:=pur H;subst e;exact rt _
 ·intro r hr s' hs;subst hr;have e:=pur H;subst e;exact hsq hs
theorem No:∀(a0:Fm) (a1:List Hit) (a2:Int) (X9:List Hit) (Yi:Int) out,Ge a0 a1 a2 X9 Yi=some out->∀c,Yg Tryz.f197 0=some c->∀(Q:QT) (tt:Sto) (b1:Nat),(∀(Vz:List Hit),out=Vz->∀(T:TT) (σ:Sto) (e0v0:AV),T 7=e0v0->Fx tt σ [(b1,⟨34,5,[i6 a0.kind,.str a0.name,i6 a0.num,sf cI a0.sc,sf K0 a0.kids]⟩)] [⟨e0v0,217,12,rws K3 Vz⟩]->Q (.ex 0) ⟨T,σ⟩)->True->∀(T:TT) (σ:Sto) (z0v0:AV),T 1=sf K3 a1/\T 2=i6 a2/\T 3=.ptr b1 0/\T 7=z0v0/\T 8=i6 Yi->Fx tt σ [(b1,⟨34,5,[i6 a0.kind,.str a0.name,i6 a0.num,sf cI a0.sc,sf K0 a0.kids]⟩)] [⟨z0v0,217,12,rws K3 X9⟩]->aLp K1 c Q ⟨T,σ⟩:=by
 intro a0 a1 a2 X9 Yi;revert X9 Yi;refine Ge.partial_correctness a0 a1 a2 _ ?_;intro Ge IH X9 Yi out H c hc Q tt b1 hE hR T σ z0v0 tT hF;refine lpx tt hc rfl fun q hX=>go ?_;refine cdp H (fun h H=>?_) (fun h H=>?_)
 ·obtain ⟨x19,f1,H⟩:=bil (g:=K3) Hit.X6 H;refine go1 ?_;refine Ya hF rfl fun b3 ss4 hF=>?_;refine go ?_;refine st hF 0 rfl fun ss5 hF=>?_;refine go ?_;obtain ⟨x29,g6,H⟩:=bnd H;refine Yc 4 25 29 (.bool x29) (gi q (fun q=>?_) (fun q=>?_)) (fun J=>?_)
  ·rw [if_pos (dt q)] at g6;refine go ?_;obtain ⟨x28,hx28,g6⟩:=bnd g6;refine cl (Fk a0 x19.name _ hx28) ?_;refine go ?_;exact Yt 25 g6
  ·rw [if_neg (df q)] at g6;refine go ?_;exact Yt 25 g6
  refine go ?_;obtain ⟨⟨O1,O2,LO,LP,O3,O4,O5,O6,O7,O8,O9,Pf⟩,j9,H⟩:=bnd H;refine Wn (fun s'=>∃(T:TT) (ss1:Sto),s'=⟨T,ss1⟩/\(T 1=sf K3 a1/\T 2=i6 a2/\T 3=.ptr b1 0/\T 7=z0v0/\T 8=i6 Yi/\T 9=.ptr b3 0)/\Fx tt ss1 [(b3,⟨217,12,[i6 O1,.str O2,i6 O3,sf cI O4,sf K0 O5,i6 O6,i6 O7,.str O8,i6 O9,sf cI Pf,sf K0 LO,sf K3 LP]⟩),(b1,⟨34,5,[i6 a0.kind,.str a0.name,i6 a0.num,sf cI a0.sc,sf K0 a0.kids]⟩)] [⟨z0v0,217,12,rws K3 X9⟩]) (cdb j9 (fun h j9=>?_) (fun h j9=>?_)) ?_
  ·obtain ⟨x33,f1,j9⟩:=bil (g:=K3) Hit.X6 j9;refine go1 ?_;refine st hF 0 rfl fun s10 hF=>?_;refine go ?_;have e:=pur j9
   injection e with e0 e
   injection e with e1 e
   injection e with e2 e
   injection e with e3 e
   injection e with e4 e
   injection e with e5 e
   injection e with e6 e
   injection e with e7 e
   injection e with e8 e
   injection e with e9 e
   injection e with e10 e
   subst e0;subst e1;subst e2;subst e3;subst e4;subst e5;subst e6;subst e7;subst e8;subst e9;subst e10;subst e;exact ⟨_,_,rfl,S,hF⟩
  ·refine go ?_;have e:=pur j9
   injection e with e0 e
   injection e with e1 e
   injection e with e2 e
   injection e with e3 e
   injection e with e4 e
   injection e with e5 e
   injection e with e6 e
   injection e with e7 e
   injection e with e8 e
   injection e with e9 e
   injection e with e10 e
   subst e0;subst e1;subst e2;subst e3;subst e4;subst e5;subst e6;subst e7;subst e8;subst e9;subst e10;subst e;exact ⟨_,_,rfl,S,hF⟩
  ·rintro s' ⟨T11,s12,rfl,tT,hF⟩;refine go ?_;refine apd (g:=K3) hF 0 H (rdo (c:=true) (g:=K3) Hit.X6) fun x38 H v14 s15 hF=>?_;refine go ?_;exact IH  x38 (i64.wrap (Yi+1)) _ H _ rfl Q tt b1 hE hR _ _ v14 S (hF.drop 1 0)
 ·refine go ?_;exact wq (hE _ (pur H).symm _ _ z0v0 S hF)
theorem SB:∀(a0:Fm) (a1:List Hit) (a2:Int) r,B2 a0 a1 a2=some r->VP K1 197 [.agg (K0 a0),sf K3 a1,i6 a2] (sf K3 r):=by
 intro a0 a1 a2 r H;intro σ;unfold B2 at H;refine hdg mixed Tryz.func197 (rs:=[.tmp 6]) fun q tT=>?_;have hF:=K4 σ;have hX:=Tau.none σ;refine go ?_;refine Ya hF rfl fun b1 ss2 hF=>?_;have hF:=hF.lit 217 12 (rws K3 []) rfl;refine go ?_;obtain ⟨o16,ho16,H⟩:=bnd H;refine No a0 a1 a2 [] 0 _ ho16 _ rfl _ _ b1 ?_ ?_ _ _ (.sl true (rws K3 [])) S hF
 ·intro Qlh he T18 s19 e17v0 tT hF;have he:=he.symm;subst he;refine go ?_;have e:=pur H;subst e;exact rt _
 ·trivial
theorem PO:∀(a0:Fm) (a1:List Hit) r,Ax a0 a1=some r->VP K1 182 [.agg (K0 a0),sf K3 a1] (.tup [.agg (K0 r.1),.bool r.2]):=by
 refine Ax.partial_correctness _ (motive_2:=fun a0 a1 x45 X9 Yi Vd out=>∀c,Yg Tryz.f182 0=some c->∀(Q:QT) (tt:Sto) (b1 b3 b12:Nat),(∀(Vz:List Fm),out=Sum.inr Vz->∀(T:TT) (σ:Sto) (e0v0:AV),T 4=.ptr b3 0/\T 7=.ptr b12 0->Fx tt σ [(b12,⟨34,5,[i6 a0.kind,.str a0.name,i6 a0.num,sf cI x45,e0v0]⟩),(b3,⟨34,5,[i6 0,.str zB,i6 0,.Yd,.Yd]⟩),(b1,⟨34,5,[i6 a0.kind,.str a0.name,i6 a0.num,sf cI a0.sc,sf K0 a0.kids]⟩)] [⟨e0v0,34,5,rws K0 Vz⟩]->Q (.ex 0) ⟨T,σ⟩)->(∀r,out=Sum.inl r->∀s',ID K1 [.cell 4 34,.tmp 5] (fun r' ss'=>r'=.tup [.agg (K0 r.1),.bool r.2]/\ss'=tt) s'->Q .ret s')->∀(T:TT) (σ:Sto) (z0v0:AV),T 1=sf K3 a1/\T 2=.ptr b1 0/\T 4=.ptr b3 0/\T 7=.ptr b12 0/\T 8=i6 Yi/\T 9=i6 Vd->Fx tt σ [(b12,⟨34,5,[i6 a0.kind,.str a0.name,i6 a0.num,sf cI x45,z0v0]⟩),(b3,⟨34,5,[i6 0,.str zB,i6 0,.Yd,.Yd]⟩),(b1,⟨34,5,[i6 a0.kind,.str a0.name,i6 a0.num,sf cI a0.sc,sf K0 a0.kids]⟩)] [⟨z0v0,34,5,rws K0 X9⟩]->aLp K1 c Q ⟨T,σ⟩) (motive_3:=fun a0 a1 x45 Vd x74 Af JU Iu Je out=>∀c,Yg Tryz.f182 1=some c->∀(Q:QT) (tt:Sto) (b1 b3 b12:Nat),(∀(Tf:List Fm) (Qgg:Int),out=Sum.inr (Tf,Qgg)->∀(T:TT) (σ:Sto) (e1v0:AV),T 1=sf K3 a1/\T 2=.ptr b1 0/\T 4=.ptr b3 0/\T 7=.ptr b12 0/\T 8=i6 Qgg/\T 9=i6 Vd->Fx tt σ [(b12,⟨34,5,[i6 a0.kind,.str a0.name,i6 a0.num,sf cI x45,e1v0]⟩),(b3,⟨34,5,[i6 0,.str zB,i6 0,.Yd,.Yd]⟩),(b1,⟨34,5,[i6 a0.kind,.str a0.name,i6 a0.num,sf cI a0.sc,sf K0 a0.kids]⟩)] [⟨e1v0,34,5,rws K0 Tf⟩]->Q (.ex 2) ⟨T,σ⟩)->(∀r,out=Sum.inl r->∀s',ID K1 [.cell 4 34,.tmp 5] (fun r' ss'=>r'=.tup [.agg (K0 r.1),.bool r.2]/\ss'=tt) s'->Q .ret s')->∀(T:TT) (σ:Sto) (z1v0:AV),T 1=sf K3 a1/\T 2=.ptr b1 0/\T 4=.ptr b3 0/\T 7=.ptr b12 0/\T 8=i6 Je/\T 9=i6 Vd/\T 10=i6 Af/\T 11=.bool x74/\T 12=i6 Iu->Fx tt σ [(b12,⟨34,5,[i6 a0.kind,.str a0.name,i6 a0.num,sf cI x45,z1v0]⟩),(b3,⟨34,5,[i6 0,.str zB,i6 0,.Yd,.Yd]⟩),(b1,⟨34,5,[i6 a0.kind,.str a0.name,i6 a0.num,sf cI a0.sc,sf K0 a0.kids]⟩)] [⟨z1v0,34,5,rws K0 JU⟩]->aLp K1 c Q ⟨T,σ⟩) ?_ ?_ ?_
 ·intro W0 L1 a0 a1 r H;intro σ;refine hdg mixed Tryz.func182 (rs:=[.cell 4 34,.tmp 5]) fun q tT=>?_;have hF:=K4 σ;have hX:=Tau.none σ;refine go ?_;refine Ya hF rfl fun b1 ss2 hF=>?_;refine go ?_;refine Ya hF rfl fun b3 ss4 hF=>?_;refine go ?_;obtain ⟨Qh1,j6,H⟩:=bnd H;refine Wn (fun s'=>∃(T:TT) (ss1:Sto),s'=⟨T,ss1⟩/\(T 1=sf K3 a1/\T 2=.ptr b1 0/\T 4=.ptr b3 0/\T 6=i6 Qh1)/\Fx σ ss1 [(b3,⟨34,5,[i6 0,.str zB,i6 0,.Yd,.Yd]⟩),(b1,⟨34,5,[i6 a0.kind,.str a0.name,i6 a0.num,sf cI a0.sc,sf K0 a0.kids]⟩)] []) (cdp j6 (fun h j6=>?_) (fun h j6=>?_)) ?_
  ·refine go ?_;obtain ⟨x21,hx21,j6⟩:=bnd j6;refine cl (Fj a1 a0 _ hx21) ?_;refine go ?_;have e:=pur j6;subst e;exact ⟨_,_,rfl,S,hF⟩
  ·refine go ?_;have e:=pur j6;subst e;exact ⟨_,_,rfl,S,hF⟩
  ·rintro s' ⟨T7,s8,rfl,tT,hF⟩;refine go ?_;refine cdp H (fun h H=>?_) (fun h H=>?_)
   ·refine go ?_;obtain ⟨E,hEq⟩:∃E,E=EE s8 [b3]:=⟨_,rfl⟩
    have n10:¬E b1:=by rw [hEq];exact K8 (hF.at 1 rfl) (nm1 (neL hF 1 0 rfl rfl (by decide)))
    refine Yj E [.v,.v,.v,.v,.v,.v,.v,.v,.v,.v,.v,.v,.x,.v] (by kernel_rfl) ?_;obtain ⟨x26,f1,H⟩:=bil (g:=K3) Hit.X6 H;have z:=X7 (hF.at 1 rfl) n10;refine gh1 ?_;refine bp H (Wg x26.one) fun x29 h H=>cv h ?_;obtain ⟨x32,f1,H⟩:=bil (g:=K3) Hit.X6 H;have z:=X7 (hF.at 1 rfl) n10;refine gh1 ?_;refine stK hF 0 (by rw [hEq];exact Zf (by simp)) rfl fun s11 hF=>?_;have z:=X7 (hF.at 1 rfl) n10;refine gh ?_;refine go ?_;have e:=pur H;subst e;exact rt [.agg [i6 x29.kind,.str x29.name,i6 x29.num,sf cI x29.sc,sf K0 x29.kids],.bool (decide (x32.depth=0))]
   ·refine go ?_;refine Yj E0 [.v,.v,.v,.v,.v,.v,.v,.v,.v,.v,.v,.x,.z] (by kernel_rfl) ?_;refine go ?_;obtain ⟨x45,hx45,H⟩:=bnd H;refine MY (g:=cI) (xs:=[]) (ys:=a0.sc) (fun _=>rfl) (by decide) (by decide) (.inr (by first | rfl | simp only [Vn,VQ,cI,cU,cS,cL])) (.inr ⟨_,by first | rfl | simp only [Vn,VQ,cI,cU,cS,cL]⟩) hx45 ?_;refine go ?_;refine HH hF rfl fun b12 s13 hF=>?_;refine go ?_;refine st hF 0 rfl fun s14 hF=>?_;have hF:=hF.nil 34 5;refine go ?_;obtain ⟨o42,ho42,H⟩:=bnd H;refine L1 a0 a1 x45 [] 0 0 _ ho42 _ rfl _ _ b1 b3 b12 ?_ ?_ _ _ .Yd S hF
    ·intro Qa7 he T44 s45 e43v0 tT hF;have he:=he.symm;subst he
     try dsimp only at H
     refine go ?_;refine st hF 1 rfl fun s47 hF=>?_;refine go ?_;have e:=pur H;subst e;exact rt _
    ·intro r hr s' hs;subst hr;have e:=pur H;subst e;exact hsq hs
 ·intro W0 W1 L1 L0 a0 a1 x45 X9 Yi Vd out H c hc Q tt b1 b3 b12 hE hR T σ z0v0 tT hF;refine lpx tt hc rfl fun q hX=>go ?_;refine cdp H (fun h H=>?_) (fun h H=>?_)
  ·obtain ⟨x57,f1,H⟩:=bil (g:=K0) Fm.X6 H;refine go1 ?_;refine bp H (V4 x57) fun x59 h H=>cl h ?_;refine go ?_;refine cdb H (fun h H=>?_) (fun h H=>?_)
   ·refine go ?_;exact L1 a0 a1 x45 X9 Yi (i64.wrap (Vd+1)) _ H _ rfl Q tt b1 b3 b12 hE hR _ _ z0v0 S hF
   ·refine go ?_;obtain ⟨x74,g15,H⟩:=bnd H;refine Yc 7 67 74 (.bool x74) (gi q (fun q=>?_) (fun q=>?_)) (fun J=>?_)
    ·rw [if_pos (dt q)] at g15;obtain ⟨x71,f1,g15⟩:=bil (g:=K0) Fm.X6 g15;refine go1 ?_;obtain ⟨x73,hx73,g15⟩:=bnd g15;refine cl (V4 x71 _ hx73) ?_;refine go ?_;exact Yt 67 g15
    ·rw [if_neg (df q)] at g15;refine go ?_;exact Yt 67 g15
    refine go ?_;obtain ⟨Af,j18,H⟩:=bnd H;refine Wn (fun s'=>∃(T:TT) (ss1:Sto),s'=⟨T,ss1⟩/\(T 1=sf K3 a1/\T 2=.ptr b1 0/\T 4=.ptr b3 0/\T 7=.ptr b12 0/\T 8=i6 Yi/\T 9=i6 Vd/\T 10=i6 Af/\T 11=.bool x74)/\Fx tt ss1 [(b12,⟨34,5,[i6 a0.kind,.str a0.name,i6 a0.num,sf cI x45,z0v0]⟩),(b3,⟨34,5,[i6 0,.str zB,i6 0,.Yd,.Yd]⟩),(b1,⟨34,5,[i6 a0.kind,.str a0.name,i6 a0.num,sf cI a0.sc,sf K0 a0.kids]⟩)] [⟨z0v0,34,5,rws K0 X9⟩]) (cdb j18 (fun h j18=>?_) (fun h j18=>?_)) ?_
    ·obtain ⟨x79,f1,j18⟩:=bil (g:=K0) Fm.X6 j18;refine go1 ?_;obtain ⟨x82,hx82,j18⟩:=bnd j18;refine cl (ON x79 a1 _ hx82) ?_;refine go ?_;have e:=pur j18;subst e;exact ⟨_,_,rfl,S,hF⟩
    ·refine go ?_;have e:=pur j18;subst e;exact ⟨_,_,rfl,S,hF⟩
    ·rintro s' ⟨T19,s20,rfl,tT,hF⟩;refine go ?_;refine cdp H (fun h H=>?_) (fun h H=>?_)
     ·refine go ?_;refine st hF 1 rfl fun s22 hF=>?_;refine go ?_;exact wq (hR _ (pur H).symm _ (rt _))
     ·refine go ?_;obtain ⟨o37,ho37,H⟩:=bnd H;refine L0 a0 a1 x45 Vd x74 Af X9 0 Yi _ ho37 _ rfl _ _ b1 b3 b12 ?_ ?_ _ _ z0v0 S hF
      ·intro Fb N7 he T39 s40 e38v0 tT hF;have he:=he.symm;subst he
       try dsimp only at H
       refine go ?_;exact L1 a0 a1 x45 Fb N7 (i64.wrap (Vd+1)) _ H _ rfl Q tt b1 b3 b12 hE hR _ _ e38v0 S hF
      ·intro r hr s' hs;subst hr;exact wq (hR _ (pur H).symm _ hs)
  ·refine go ?_;exact wq (hE _ (pur H).symm _ _ z0v0 S hF)
 ·intro Ax W1 C0 L0 a0 a1 x45 Vd x74 Af JU Iu Je out H c hc Q tt b1 b3 b12 hE hR T σ z1v0 tT hF;refine lpx tt hc rfl fun q hX=>go ?_;refine cdp H (fun h H=>?_) (fun h H=>?_)
  ·refine go ?_;obtain ⟨SK,j24,H⟩:=bnd H;refine Wn (fun s'=>∃(T:TT) (ss1:Sto),s'=⟨T,ss1⟩/\(T 1=sf K3 a1/\T 2=.ptr b1 0/\T 4=.ptr b3 0/\T 7=.ptr b12 0/\T 8=i6 Je/\T 9=i6 Vd/\T 10=i6 Af/\T 11=.bool x74/\T 12=i6 Iu/\T 13=sf K3 SK)/\Fx tt ss1 [(b12,⟨34,5,[i6 a0.kind,.str a0.name,i6 a0.num,sf cI x45,z1v0]⟩),(b3,⟨34,5,[i6 0,.str zB,i6 0,.Yd,.Yd]⟩),(b1,⟨34,5,[i6 a0.kind,.str a0.name,i6 a0.num,sf cI a0.sc,sf K0 a0.kids]⟩)] [⟨z1v0,34,5,rws K0 JU⟩]) (cdb j24 (fun h j24=>?_) (fun h j24=>?_)) ?_
   ·obtain ⟨x96,f1,j24⟩:=bil (g:=K0) Fm.X6 j24;refine go1 ?_;obtain ⟨x100,hx100,j24⟩:=bnd j24;refine cl (SB x96 a1 Iu _ hx100) ?_;refine go ?_;have e:=pur j24;subst e;exact ⟨_,_,rfl,S,hF⟩
   ·refine go ?_;have e:=pur j24;subst e;exact ⟨_,_,rfl,S,hF⟩
   ·rintro s' ⟨T25,s26,rfl,tT,hF⟩;obtain ⟨x105,f1,H⟩:=bil (g:=K0) Fm.X6 H;refine go1 ?_;refine bp H (C0 x105 SK) fun x108 h H=>cl h ?_;refine go ?_;refine Ya hF rfl fun b28 s29 hF=>?_;refine go ?_;refine st hF 0 rfl fun s30 hF=>?_;refine go ?_;refine bp H (Ez x108.1) fun x113 h H=>cl h ?_;refine go ?_;obtain ⟨x120,g31,H⟩:=bnd H;refine Yc 2 118 120 (.bool x120) (giN q (fun q=>?_) (fun q=>?_)) (fun J=>?_)
    ·refine go ?_;exact Yt 118 g31
    ·refine go ?_;exact Yt 118 g31
    refine go ?_;refine cdb H (fun h H=>?_) (fun h H=>?_)
    ·refine go ?_;refine st hF 2 rfl fun s33 hF=>?_;refine go ?_;exact wq (hR _ (pur H).symm _ (rt _))
    ·refine go ?_;refine apd (g:=K0) hF 0 H (rdo (c:=true) (g:=K0) Fm.X6) fun x126 H v34 s35 hF=>?_;refine go ?_;refine st hF 1 (hF.cells 0 rfl) fun s36 hF=>?_;refine go ?_;exact L0 a0 a1 x45 Vd x74 Af x126 (i64.wrap (Iu+1)) (i64.wrap (Je+x113)) _ H _ rfl Q tt b1 b3 b12 hE hR _ _ v34 S (hF.drop 1 0)
  ·refine go ?_;exact wq (hE _ _ (pur H).symm _ _ z1v0 S hF)
theorem Lu:∀(a0:List Bnd) (a1:List Rul) (a2:List Fm) (a3:Fm) r,IT a0 a1 a2 a3=some r->VP K1 167 [sf K2 a0,sf K7 a1,sf K0 a2,.agg (K0 a3)] (.tup [.agg (K0 r.1),.bool r.2]):=by
 intro a0 a1 a2 a3 r H;intro σ;unfold IT at H;refine hdg mixed Tryz.func167 (rs:=[.cell 8 34,.tmp 9]) fun q tT=>?_;have hF:=K4 σ;have hX:=Tau.none σ;refine go ?_;refine Ya hF rfl fun b1 ss2 hF=>?_;refine go ?_;refine Ya hF rfl fun b3 ss4 hF=>?_;refine go ?_;refine bp H (D3 a1) fun x17 h H=>cl h ?_;refine go ?_;refine bp H (Dq a0 x17 a2 a3) fun x23 h H=>cl h ?_;refine go ?_;refine cdb H (fun h H=>?_) (fun h H=>?_)
 ·refine go ?_;refine st hF 0 rfl fun ss5 hF=>?_;refine go ?_;have e:=pur H;subst e;exact rt _
 ·refine go ?_;refine Yj E0 [.v,.v,.v,.v,.v,.v,.v,.v,.v,.v,.v,.v,.v,.v] (by kernel_rfl) ?_;obtain ⟨x33,f1,H⟩:=bil (g:=K7) Rul.X6 H;refine go1 ?_;refine bp H (EG a0 x33.pat a2 a3) fun x38 h H=>cv h ?_;obtain ⟨x44,f1,H⟩:=bil (g:=K7) Rul.X6 H;refine go1 ?_;refine bp H (PO x44.tpl x38.1) fun x48 h H=>cl h ?_;refine go ?_;refine Ya hF rfl fun b6 s7 hF=>?_;refine go ?_;refine st hF 0 rfl fun s8 hF=>?_;refine go ?_;obtain ⟨x57,g9,H⟩:=bnd H;refine Yc 3 54 57 (.bool x57) (giN q (fun q=>?_) (fun q=>?_)) (fun J=>?_)
  ·rw [if_neg (dbf q)] at g9;refine go ?_;obtain ⟨x55,hx55,g9⟩:=bnd g9;refine cl (Va x48.1 _ hx55) ?_;refine go ?_;exact Yt 54 g9
  ·rw [if_pos (dbt q)] at g9;refine go ?_;exact Yt 54 g9
  refine go ?_;refine cdb H (fun h H=>?_) (fun h H=>?_)
  ·refine go ?_;refine st hF 1 rfl fun s11 hF=>?_;refine go ?_;have e:=pur H;subst e;exact rt _
  ·refine go ?_;refine st hF 1 rfl fun s12 hF=>?_;refine go ?_;have e:=pur H;subst e;exact rt _
theorem P1:∀(a0:Xpn) (a1:Fm) (a2 a3:Int) r,Cu a0 a1 a2 a3=some r->VP K1 145 [.agg (Za a0),.agg (K0 a1),i6 a2,i6 a3] (.tup [.agg (Za r.1),.agg (K0 r.2.1),i6 r.2.2]):=by
 intro a0 a1 a2 a3 r H;intro σ;unfold Cu at H;refine hdg mixed Tryz.func145 (rs:=[.cell 8 30,.cell 9 34,.tmp 10]) fun q tT=>?_;have hF:=K4 σ;have hX:=Tau.none σ;refine go ?_;refine Ya hF rfl fun b1 ss2 hF=>?_;refine go ?_;refine Ya hF rfl fun b3 ss4 hF=>?_;refine go ?_;refine Ya hF rfl fun b5 ss6 hF=>?_;refine go ?_;refine Ya hF rfl fun b7 s8 hF=>?_;refine go ?_;refine cdp H (fun h H=>?_) (fun h H=>?_)
 ·refine go ?_;refine st hF 1 rfl fun s9 hF=>?_;refine go ?_;refine st hF 0 rfl fun s10 hF=>?_;refine go ?_;have e:=pur H;subst e;exact rt _
 ·refine go ?_;refine bp H (Ct a0) fun x27 h H=>cl h ?_;refine go ?_;refine st hF 3 rfl fun s11 hF=>?_;refine go ?_;refine cdb H (fun h H=>?_) (fun h H=>?_)
  ·refine go ?_;refine st hF 1 rfl fun s12 hF=>?_;refine go ?_;refine st hF 0 rfl fun s13 hF=>?_;refine go ?_;have e:=pur H;subst e;exact rt _
  ·refine go ?_;refine st hF 3 rfl fun s14 hF=>?_;refine go ?_;refine Yj E0 [.v,.v,.v,.v,.v,.v,.v,.x,.z] (by kernel_rfl) ?_;refine go ?_;obtain ⟨x42,hx42,H⟩:=bnd H;refine cv (EJ (KV x27.1.binds x27.1.macs x27.1.scope x27.1.id (i64.wrap (x27.1.steps+1))) a2 _ hx42) ?_;obtain ⟨x43,f1,H⟩:=bil (g:=Ze) Mac.X6 H;refine go1 ?_;refine HH hF rfl fun b15 s16 hF=>?_;refine go ?_;refine st hF 0 rfl fun s17 hF=>?_;refine go ?_;refine bp H (J0 a1 x27.1.scope 1) fun x48 h H=>cl h ?_;refine go ?_;refine Ya hF rfl fun b18 s19 hF=>?_;refine go ?_;refine st hF 0 rfl fun s20 hF=>?_;refine go ?_;refine bp H (Va x48) fun x50 h H=>cl h ?_;refine go ?_;refine cdb H (fun h H=>?_) (fun h H=>?_)
   ·refine go ?_;refine st hF 3 rfl fun s21 hF=>?_;refine go ?_;refine st hF 2 rfl fun s22 hF=>?_;refine go ?_;have e:=pur H;subst e;exact rt _
   ·refine go ?_;refine bp H (Dq x27.1.binds x43.rules x43.lits x48) fun x62 h H=>cl h ?_;refine go ?_;refine cdb H (fun h H=>?_) (fun h H=>?_)
    ·refine go ?_;refine st hF 3 rfl fun s23 hF=>?_;refine go ?_;refine st hF 2 rfl fun s24 hF=>?_;refine go ?_;have e:=pur H;subst e;exact rt _
    ·refine go ?_;refine bp H (Lu x27.1.binds x43.rules x43.lits x48) fun x77 h H=>cl h ?_;refine go ?_;refine Ya hF rfl fun b25 s26 hF=>?_;refine go ?_;refine st hF 0 rfl fun s27 hF=>?_;refine go ?_;refine cdb H (fun h H=>?_) (fun h H=>?_)
     ·refine go ?_;refine st hF 4 rfl fun s28 hF=>?_;refine go ?_;refine st hF 3 rfl fun s29 hF=>?_;refine go ?_;have e:=pur H;subst e;exact rt _
     ·refine go ?_;refine bp H (J0 x77.1 x27.1.scope 1) fun x87 h H=>cl h ?_;refine go ?_;refine Ya hF rfl fun b30 s31 hF=>?_;refine go ?_;refine st hF 0 rfl fun s32 hF=>?_;refine go ?_;refine bp H (Va x87) fun x89 h H=>cl h ?_;refine go ?_;refine cdb H (fun h H=>?_) (fun h H=>?_)
      ·refine go ?_;refine st hF 5 rfl fun s33 hF=>?_;refine go ?_;refine st hF 4 rfl fun s34 hF=>?_;refine go ?_;have e:=pur H;subst e;exact rt _
      ·refine go ?_;obtain ⟨E,hEq⟩:∃E,E=EE s32 [b5,b7]:=⟨_,rfl⟩
       have n35:¬E b30:=by rw [hEq];exact K8 (hF.at 0 rfl) (nm2 ⟨neL hF 0 5 rfl rfl (by decide),neL hF 0 4 rfl rfl (by decide)⟩)
       have n36:¬E b25:=by rw [hEq];exact K8 (hF.at 1 rfl) (nm2 ⟨neL hF 1 5 rfl rfl (by decide),neL hF 1 4 rfl rfl (by decide)⟩)
       have n37:¬E b18:=by rw [hEq];exact K8 (hF.at 2 rfl) (nm2 ⟨neL hF 2 5 rfl rfl (by decide),neL hF 2 4 rfl rfl (by decide)⟩)
       have n38:¬E b15:=by rw [hEq];exact K8 (hF.at 3 rfl) (nm2 ⟨neL hF 3 5 rfl rfl (by decide),neL hF 3 4 rfl rfl (by decide)⟩)
       have n39:¬E b3:=by rw [hEq];exact K8 (hF.at 6 rfl) (nm2 ⟨neL hF 6 5 rfl rfl (by decide),neL hF 6 4 rfl rfl (by decide)⟩)
       have n40:¬E b1:=by rw [hEq];exact K8 (hF.at 7 rfl) (nm2 ⟨neL hF 7 5 rfl rfl (by decide),neL hF 7 4 rfl rfl (by decide)⟩)
       refine Yj E [.v,.v,.x,.x,.v] (by kernel_rfl) ?_;have z:=K5 (X7 (hF.at 0 rfl) n35) (K5 (X7 (hF.at 1 rfl) n36) (K5 (X7 (hF.at 2 rfl) n37) (K5 (X7 (hF.at 3 rfl) n38) (K5 (X7 (hF.at 6 rfl) n39) (X7 (hF.at 7 rfl) n40)))));refine gh ?_;refine stK hF 5 (by rw [hEq];exact Zf (by simp)) rfl fun s41 hF=>?_;have z:=K5 (X7 (hF.at 0 rfl) n35) (K5 (X7 (hF.at 1 rfl) n36) (K5 (X7 (hF.at 2 rfl) n37) (K5 (X7 (hF.at 3 rfl) n38) (K5 (X7 (hF.at 6 rfl) n39) (X7 (hF.at 7 rfl) n40)))));refine gh ?_;refine stK hF 4 (by rw [hEq];exact Zf (by simp)) rfl fun s42 hF=>?_;have z:=K5 (X7 (hF.at 0 rfl) n35) (K5 (X7 (hF.at 1 rfl) n36) (K5 (X7 (hF.at 2 rfl) n37) (K5 (X7 (hF.at 3 rfl) n38) (K5 (X7 (hF.at 6 rfl) n39) (X7 (hF.at 7 rfl) n40)))));refine gh ?_;refine go ?_;have e:=pur H;subst e;exact rt [.agg [sf K2 x27.1.binds,sf Ze x27.1.macs,i6 x27.1.scope,i6 x27.1.id,i6 (i64.wrap (x27.1.steps+1))],.agg [i6 x87.kind,.str x87.name,i6 x87.num,sf cI x87.sc,sf K0 x87.kids],i6 0]
theorem Nt:∀(a1:List Fm) (a2:Fm) (a3:Int) (YK:List Bnd) (YL:List Mac) (YC YM YN:Int) (X9:List Int) (JX:Int) out,Gf a1 a2 a3 YK YL YC YM YN X9 JX=some out->∀c,Yg Tryz.f153 0=some c->∀(Q:QT) (tt:Sto) (b1 b3 b5 b7 b12:Nat),(∀(D9:List Bnd) (Ea:List Mac) (Eb Ec Ed:Int) (Vz:List Int),out=Sum.inr (D9,Ea,Eb,Ec,Ed,Vz)->∀(T:TT) (σ:Sto) (e0v0:AV),T 3=i6 a3/\T 4=.ptr b1 0/\T 6=.ptr b3 0/\T 8=.ptr b5 0/\T 9=.ptr b7 0/\T 12=.ptr b12 0->Fx tt σ [(b12,⟨105,11,[i6 5,i6 0,.str zB,i6 0,e0v0,i6 0,.str zB,i6 0,.Yd,.Yd,.Yd]⟩),(b7,⟨105,11,[i6 0,i6 0,.str zB,i6 0,.Yd,i6 0,.str zB,i6 0,.Yd,.Yd,.Yd]⟩),(b5,⟨30,5,[.Yd,.Yd,i6 0,i6 0,i6 0]⟩),(b3,⟨34,5,[i6 a2.kind,.str a2.name,i6 a2.num,sf cI a2.sc,sf K0 a2.kids]⟩),(b1,⟨30,5,[sf K2 D9,sf Ze Ea,i6 Eb,i6 Ec,i6 Ed]⟩)] [⟨e0v0,3,1,rws cI Vz⟩]->Q (.ex 0) ⟨T,σ⟩)->(∀r,out=Sum.inl r->∀s',ID K1 [.cell 8 30,.cell 9 105,.tmp 10] (fun r' ss'=>r'=.tup [.agg (Za r.1),.agg (ZB r.2.1),i6 r.2.2]/\ss'=tt) s'->Q .ret s')->∀(T:TT) (σ:Sto) (z0v0:AV),T 1=sf K0 a1/\T 3=i6 a3/\T 4=.ptr b1 0/\T 6=.ptr b3 0/\T 8=.ptr b5 0/\T 9=.ptr b7 0/\T 12=.ptr b12 0/\T 13=i6 JX->Fx tt σ [(b12,⟨105,11,[i6 5,i6 0,.str zB,i6 0,z0v0,i6 0,.str zB,i6 0,.Yd,.Yd,.Yd]⟩),(b7,⟨105,11,[i6 0,i6 0,.str zB,i6 0,.Yd,i6 0,.str zB,i6 0,.Yd,.Yd,.Yd]⟩),(b5,⟨30,5,[.Yd,.Yd,i6 0,i6 0,i6 0]⟩),(b3,⟨34,5,[i6 a2.kind,.str a2.name,i6 a2.num,sf cI a2.sc,sf K0 a2.kids]⟩),(b1,⟨30,5,[sf K2 YK,sf Ze YL,i6 YC,i6 YM,i6 YN]⟩)] [⟨z0v0,3,1,rws cI X9⟩]->aLp K1 c Q ⟨T,σ⟩:=by
 intro a1 a2 a3 YK YL YC YM YN X9 JX;revert YK YL YC YM YN X9 JX;refine Gf.partial_correctness a1 a2 a3 _ ?_;intro Gf IH YK YL YC YM YN X9 JX out H c hc Q tt b1 b3 b5 b7 b12 hE hR T σ z0v0 tT hF;refine lpx tt hc rfl fun q hX=>go ?_;refine cdp H (fun h H=>?_) (fun h H=>?_)
 ·obtain ⟨x38,f1,H⟩:=bil (g:=K0) Fm.X6 H;refine go1 ?_;refine go ?_;refine cdn H (fun h H=>?_) (fun h H=>?_)
  ·refine go ?_;refine st hF 2 rfl fun s15 hF=>?_;refine go ?_;refine st hF 1 rfl fun s16 hF=>?_;refine go ?_;exact wq (hR _ (pur H).symm _ (rt _))
  ·refine go ?_;refine Yj E0 [.v,.v,.v,.v,.v,.v,.v,.x,.z] (by kernel_rfl) ?_;obtain ⟨x46,f1,H⟩:=bil (g:=K0) Fm.X6 H;refine go1 ?_;refine bp H (J0 x46 YC 0) fun x50 h H=>cv h ?_;refine go ?_;refine HH hF rfl fun b17 s18 hF=>?_;refine go ?_;refine st hF 0 rfl fun s19 hF=>?_;refine go ?_;refine bp H (Va x50) fun x52 h H=>cl h ?_;refine go ?_;refine cdb H (fun h H=>?_) (fun h H=>?_)
   ·refine go ?_;refine st hF 3 rfl fun s20 hF=>?_;refine go ?_;refine st hF 2 rfl fun s21 hF=>?_;refine go ?_;exact wq (hR _ (pur H).symm _ (rt _))
   ·refine go ?_;refine bp H (Fl (KV YK YL YC YM YN) x50) fun x59 h H=>cl h ?_;refine go ?_;refine Ya hF rfl fun b22 s23 hF=>?_;refine go ?_;refine st hF 0 rfl fun s24 hF=>?_;refine go ?_;refine st hF 6 rfl fun s25 hF=>?_;refine go ?_;refine cdn H (fun h H=>?_) (fun h H=>?_)
    ·refine go ?_;refine st hF 4 rfl fun s26 hF=>?_;refine go ?_;refine st hF 3 rfl fun s27 hF=>?_;refine go ?_;exact wq (hR _ (pur H).symm _ (rt _))
    ·refine go ?_;refine apd (g:=cI) hF 0 H (rdo (c:=true) (g:=cI) (fun _=>rfl)) fun x73 H v28 s29 hF=>?_;refine go ?_;refine st hF 2 (hF.cells 0 rfl) fun s30 hF=>?_;refine go ?_;exact IH  x59.1.binds x59.1.macs x59.1.scope x59.1.id x59.1.steps x73 (i64.wrap (JX+1)) _ H _ rfl Q tt b1 b3 b5 b7 b12 hE hR _ _ v28 S (hF.drop 2 0)
 ·refine go ?_;exact wq (hE _ _ _ _ _ _ (pur H).symm _ _ z0v0 S hF)
theorem FL:∀(a1 a2:List Fm) (a3:Fm) (a4:Int) (YK:List Bnd) (YL:List Mac) (YC YM YN Bc:Int) out,WI a1 a2 a3 a4 YK YL YC YM YN Bc=some out->∀c,Yg Tryz.f142 0=some c->∀(Q:QT) (tt:Sto) (b1 b3 b5 b7:Nat),(∀(D9:List Bnd) (Ea:List Mac) (Eb Ec Ed:Int),out=Sum.inr (D9,Ea,Eb,Ec,Ed)->∀(T:TT) (σ:Sto),T 4=i6 a4/\T 5=.ptr b1 0/\T 8=.ptr b3 0/\T 10=.ptr b5 0/\T 11=.ptr b7 0->Fx tt σ [(b7,⟨105,11,[i6 0,i6 0,.str zB,i6 0,.Yd,i6 0,.str zB,i6 0,.Yd,.Yd,.Yd]⟩),(b5,⟨30,5,[.Yd,.Yd,i6 0,i6 0,i6 0]⟩),(b3,⟨34,5,[i6 a3.kind,.str a3.name,i6 a3.num,sf cI a3.sc,sf K0 a3.kids]⟩),(b1,⟨30,5,[sf K2 D9,sf Ze Ea,i6 Eb,i6 Ec,i6 Ed]⟩)] []->Q (.ex 0) ⟨T,σ⟩)->(∀r,out=Sum.inl r->∀s',ID K1 [.cell 10 30,.cell 11 105,.tmp 12] (fun r' ss'=>r'=.tup [.agg (Za r.1),.agg (ZB r.2.1),i6 r.2.2]/\ss'=tt) s'->Q .ret s')->∀(T:TT) (σ:Sto),T 1=sf K0 a1/\T 2=sf K0 a2/\T 4=i6 a4/\T 5=.ptr b1 0/\T 8=.ptr b3 0/\T 10=.ptr b5 0/\T 11=.ptr b7 0/\T 14=i6 Bc->Fx tt σ [(b7,⟨105,11,[i6 0,i6 0,.str zB,i6 0,.Yd,i6 0,.str zB,i6 0,.Yd,.Yd,.Yd]⟩),(b5,⟨30,5,[.Yd,.Yd,i6 0,i6 0,i6 0]⟩),(b3,⟨34,5,[i6 a3.kind,.str a3.name,i6 a3.num,sf cI a3.sc,sf K0 a3.kids]⟩),(b1,⟨30,5,[sf K2 YK,sf Ze YL,i6 YC,i6 YM,i6 YN]⟩)] []->aLp K1 c Q ⟨T,σ⟩:=by
 intro a1 a2 a3 a4 YK YL YC YM YN Bc;revert YK YL YC YM YN Bc;refine WI.partial_correctness a1 a2 a3 a4 _ ?_;intro WI IH YK YL YC YM YN Bc out H c hc Q tt b1 b3 b5 b7 hE hR T σ tT hF;refine lpx tt hc rfl fun q hX=>go ?_;refine cdp H (fun h H=>?_) (fun h H=>?_)
 ·refine go ?_;refine Yj E0 [.v,.v,.v,.v,.v,.v,.v,.x,.z] (by kernel_rfl) ?_;obtain ⟨x40,f1,H⟩:=bil (g:=K0) Fm.X6 H;refine go1 ?_;refine bp H (J0 x40 YC 0) fun x44 h H=>cv h ?_;refine go ?_;refine HH hF rfl fun b12 s13 hF=>?_;refine go ?_;refine st hF 0 rfl fun s14 hF=>?_;refine go ?_;refine Yj E0 [.v,.v,.v,.v,.v,.v,.v,.x,.z] (by kernel_rfl) ?_;obtain ⟨x47,f1,H⟩:=bil (g:=K0) Fm.X6 H;refine go1 ?_;refine bp H (J0 x47 YC 0) fun x51 h H=>cv h ?_;refine go ?_;refine HH hF rfl fun b15 s16 hF=>?_;refine go ?_;refine st hF 0 rfl fun s17 hF=>?_;obtain ⟨x54,f1,H⟩:=bil (g:=K0) Fm.X6 H;refine go1 ?_;refine go ?_;refine cdn H (fun h H=>?_) (fun h H=>?_)
  ·refine go ?_;refine st hF 3 rfl fun s18 hF=>?_;refine go ?_;refine st hF 2 rfl fun s19 hF=>?_;refine go ?_;exact wq (hR _ (pur H).symm _ (rt _))
  ·refine go ?_;refine bp H (Va x44) fun x61 h H=>cl h ?_;refine go ?_;obtain ⟨x67,g20,H⟩:=bnd H;refine Yc 3 64 67 (.bool x67) (giN q (fun q=>?_) (fun q=>?_)) (fun J=>?_)
   ·rw [if_neg (dbf q)] at g20;refine go ?_;obtain ⟨x65,hx65,g20⟩:=bnd g20;refine cl (Va x51 _ hx65) ?_;refine go ?_;exact Yt 64 g20
   ·rw [if_pos (dbt q)] at g20;refine go ?_;exact Yt 64 g20
   refine go ?_;refine cdb H (fun h H=>?_) (fun h H=>?_)
   ·refine go ?_;refine st hF 3 rfl fun s22 hF=>?_;refine go ?_;refine st hF 2 rfl fun s23 hF=>?_;refine go ?_;exact wq (hR _ (pur H).symm _ (rt _))
   ·refine go ?_;refine bp H (Lx x51) fun x72 h H=>cl h ?_;refine go ?_;refine cdb H (fun h H=>?_) (fun h H=>?_)
    ·refine go ?_;refine st hF 3 rfl fun s24 hF=>?_;refine go ?_;refine st hF 2 rfl fun s25 hF=>?_;refine go ?_;exact wq (hR _ (pur H).symm _ (rt _))
    ·refine go ?_;refine bp H (Fl (KV YK YL YC YM YN) x44) fun x83 h H=>cl h ?_;refine go ?_;refine Ya hF rfl fun b26 s27 hF=>?_;refine go ?_;refine st hF 0 rfl fun s28 hF=>?_;refine go ?_;refine st hF 6 rfl fun s29 hF=>?_;refine go ?_;refine cdn H (fun h H=>?_) (fun h H=>?_)
     ·refine go ?_;refine st hF 4 rfl fun s30 hF=>?_;refine go ?_;refine st hF 3 rfl fun s31 hF=>?_;refine go ?_;exact wq (hR _ (pur H).symm _ (rt _))
     ·refine go ?_;refine Ny E0 [.v,.v,.v,.v,.v,.v,.v,.v,.v,.x,.x,.v,.z] [0,1,2,4,5,6,7,8,9,3,10,11,12] (by kernel_rfl) ?_;refine go ?_;have hF:=hF.lit 62 3 (rws Ze []) rfl;refine SL (g:=Ze) hF 0 H (rdo (c:=false) (g:=Ze) Mac.X6) fun x95 H v32 s33 hF=>?_;refine go ?_;refine Qtb (g:=Ze) hF 0 H (rdo (c:=true) (g:=Ze) Mac.X6) fun x102 H s35 hF=>?_;refine go ?_;refine st hF 6 rfl fun s36 hF=>?_;refine go ?_;exact IH  x83.1.binds x102 x83.1.scope x83.1.id x83.1.steps (i64.wrap (Bc+1)) _ H _ rfl Q tt b1 b3 b5 b7 hE hR _ _  S (hF.drop 3 0)
 ·refine go ?_;exact wq (hE _ _ _ _ _ (pur H).symm _ _  S hF)
theorem MB (fx0:Int):(∀(a0:Xpn) (a1:Fm) r,VC a0 a1 fx0=some r->VP K1 99 [.agg (Za a0),.agg (K0 a1),i6 fx0] (.tup [.agg (Za r.1),.agg (ZB r.2.1),i6 r.2.2]))/\(∀(a0:Xpn) (a1:Fm) (a2:Int) r,Cr a0 a1 a2 fx0=some r->VP K1 123 [.agg (Za a0),.agg (K0 a1),i6 a2,i6 fx0] (.tup [.agg (Za r.1),.agg (ZB r.2.1),i6 r.2.2]))/\(∀(a0:Xpn) (a1:List Fm) r,HZ a0 a1 fx0=some r->VP K1 125 [.agg (Za a0),sf K0 a1,i6 fx0] (.tup [.agg (Za r.1),sf ZB r.2.1,i6 r.2.2]))/\(∀(a0:Xpn) (a1:List Fm) (a2:Fm) r,Bp a0 a1 a2 fx0=some r->VP K1 153 [.agg (Za a0),sf K0 a1,.agg (K0 a2),i6 fx0] (.tup [.agg (Za r.1),.agg (ZB r.2.1),i6 r.2.2]))/\(∀(a0:Xpn) (a1 a2:List Fm) (a3:Fm) r,A4 a0 a1 a2 a3 fx0=some r->VP K1 142 [.agg (Za a0),sf K0 a1,sf K0 a2,.agg (K0 a3),i6 fx0] (.tup [.agg (Za r.1),.agg (ZB r.2.1),i6 r.2.2]))/\(∀(a0:Xpn) (a1:Fm) (a2:Int) r,CM a0 a1 a2 fx0=some r->VP K1 124 [.agg (Za a0),.agg (K0 a1),i6 a2,i6 fx0] (.tup [.agg (Za r.1),.agg (ZB r.2.1),i6 r.2.2])):=by
 have h:=VC.mutual_partial_correctness fx0 (motive_1:=fun a0 a1 r=>VP K1 99 [.agg (Za a0),.agg (K0 a1),i6 fx0] (.tup [.agg (Za r.1),.agg (ZB r.2.1),i6 r.2.2])) (motive_2:=fun a0 a1 r=>VP K1 125 [.agg (Za a0),sf K0 a1,i6 fx0] (.tup [.agg (Za r.1),sf ZB r.2.1,i6 r.2.2])) (motive_3:=fun a1 YK YL YC YM YN X9 YY out=>∀c,Yg Tryz.f125 0=some c->∀(Q:QT) (tt:Sto) (b1 b3:Nat),(∀(D9:List Bnd) (Ea:List Mac) (Eb Ec Ed:Int) (Vz:List Cor),out=Sum.inr (D9,Ea,Eb,Ec,Ed,Vz)->∀(T:TT) (σ:Sto) (e0v0:AV),T 3=.ptr b1 0/\T 6=.ptr b3 0/\T 9=e0v0->Fx tt σ [(b3,⟨30,5,[.Yd,.Yd,i6 0,i6 0,i6 0]⟩),(b1,⟨30,5,[sf K2 D9,sf Ze Ea,i6 Eb,i6 Ec,i6 Ed]⟩)] [⟨e0v0,105,11,rws ZB Vz⟩]->Q (.ex 0) ⟨T,σ⟩)->(∀r,out=Sum.inl r->∀s',ID K1 [.cell 6 30,.tmp 7,.tmp 8] (fun r' ss'=>r'=.tup [.agg (Za r.1),sf ZB r.2.1,i6 r.2.2]/\ss'=tt) s'->Q .ret s')->∀(T:TT) (σ:Sto) (z0v0:AV),T 1=sf K0 a1/\T 2=i6 fx0/\T 3=.ptr b1 0/\T 6=.ptr b3 0/\T 9=z0v0/\T 10=i6 YY->Fx tt σ [(b3,⟨30,5,[.Yd,.Yd,i6 0,i6 0,i6 0]⟩),(b1,⟨30,5,[sf K2 YK,sf Ze YL,i6 YC,i6 YM,i6 YN]⟩)] [⟨z0v0,105,11,rws ZB X9⟩]->aLp K1 c Q ⟨T,σ⟩) (motive_4:=fun a0 a1 a2 r=>VP K1 124 [.agg (Za a0),.agg (K0 a1),i6 a2,i6 fx0] (.tup [.agg (Za r.1),.agg (ZB r.2.1),i6 r.2.2])) (motive_5:=fun a0 a1 a2 r=>VP K1 123 [.agg (Za a0),.agg (K0 a1),i6 a2,i6 fx0] (.tup [.agg (Za r.1),.agg (ZB r.2.1),i6 r.2.2])) (motive_6:=fun a0 a1 a2 a3 r=>VP K1 142 [.agg (Za a0),sf K0 a1,sf K0 a2,.agg (K0 a3),i6 fx0] (.tup [.agg (Za r.1),.agg (ZB r.2.1),i6 r.2.2])) (motive_7:=fun a0 a1 a2 r=>VP K1 153 [.agg (Za a0),sf K0 a1,.agg (K0 a2),i6 fx0] (.tup [.agg (Za r.1),.agg (ZB r.2.1),i6 r.2.2])) ?s0 ?s1 ?s2 ?s3 ?s4 ?s5 ?s6
 ·exact ⟨h.1,h.2.2.2.2.1,h.2.1,h.2.2.2.2.2.2,h.2.2.2.2.2.1,h.2.2.2.1⟩
 ·intro HZ CM Cr C2 C5 C1 a0 a1 r H;intro σ;refine hdg mixed Tryz.func99 (rs:=[.cell 6 30,.cell 7 105,.tmp 8]) fun q tT=>?_;have hF:=K4 σ;have hX:=Tau.none σ;refine go ?_;refine Ya hF rfl fun b1 ss2 hF=>?_;refine go ?_;refine Ya hF rfl fun b3 ss4 hF=>?_;refine go ?_;refine Ya hF rfl fun b5 ss6 hF=>?_;refine go ?_;refine Ya hF rfl fun b7 s8 hF=>?_;refine go ?_;refine cdp H (fun h H=>?_) (fun h H=>?_)
  ·refine go ?_;obtain ⟨E,hEq⟩:∃E,E=EE s8 [b5,b7]:=⟨_,rfl⟩
   have n9:¬E b3:=by rw [hEq];exact K8 (hF.at 2 rfl) (nm2 ⟨neL hF 2 1 rfl rfl (by decide),neL hF 2 0 rfl rfl (by decide)⟩)
   have n10:¬E b1:=by rw [hEq];exact K8 (hF.at 3 rfl) (nm2 ⟨neL hF 3 1 rfl rfl (by decide),neL hF 3 0 rfl rfl (by decide)⟩)
   refine Yj E [.v,.v,.v,.v,.x,.x,.v] (by kernel_rfl) ?_;have z:=K5 (X7 (hF.at 2 rfl) n9) (X7 (hF.at 3 rfl) n10);refine gh ?_;refine stK hF 1 (by rw [hEq];exact Zf (by simp)) rfl fun s11 hF=>?_;have z:=K5 (X7 (hF.at 2 rfl) n9) (X7 (hF.at 3 rfl) n10);refine gh ?_;refine stK hF 0 (by rw [hEq];exact Zf (by simp)) rfl fun s12 hF=>?_;have z:=K5 (X7 (hF.at 2 rfl) n9) (X7 (hF.at 3 rfl) n10);refine gh ?_;refine go ?_;have e:=pur H;subst e;exact rt [.agg [sf K2 a0.binds,sf Ze a0.macs,i6 a0.scope,i6 a0.id,i6 a0.steps],.agg [i6 3,i6 0,.str zB,i6 a1.num,.Yd,i6 0,.str zB,i6 0,.Yd,.Yd,.Yd],i6 0]
  ·refine go ?_;refine cdp H (fun h H=>?_) (fun h H=>?_)
   ·refine go ?_;refine bp H (PZ a0 a1) fun x25 h H=>cl h ?_;refine go ?_;refine st hF 1 rfl fun s13 hF=>?_;refine go ?_;refine st hF 0 rfl fun s14 hF=>?_;refine go ?_;have e:=pur H;subst e;exact rt _
   ·refine go ?_;refine cdp H (fun h H=>?_) (fun h H=>?_)
    ·refine go ?_;refine st hF 1 rfl fun s15 hF=>?_;refine go ?_;refine st hF 0 rfl fun s16 hF=>?_;refine go ?_;have e:=pur H;subst e;exact rt _
    ·obtain ⟨x37,f1,H⟩:=bil (g:=K0) Fm.X6 H;refine go1 ?_;refine go ?_;refine cdp H (fun h H=>?_) (fun h H=>?_)
     ·refine go ?_;refine Yj E0 [.v,.v,.v,.v,.v,.v,.v,.v,.v,.v,.v] (by kernel_rfl) ?_;obtain ⟨x45,f1,H⟩:=bil (g:=K0) Fm.X6 H;refine go1 ?_;refine bp H (Dv a0 x45) fun x47 h H=>cv h ?_;refine go ?_;refine cdp H (fun h H=>?_) (fun h H=>?_)
      ·refine go ?_;refine st hF 1 rfl fun s17 hF=>?_;refine go ?_;refine st hF 0 rfl fun s18 hF=>?_;refine go ?_;have e:=pur H;subst e;exact rt _
      ·refine go ?_;refine cdp H (fun h H=>?_) (fun h H=>?_)
       ·refine go ?_;refine bp H (C1 a0 a1 x47.2) fun x61 h H=>cl h ?_;refine go ?_;refine st hF 1 rfl fun s19 hF=>?_;refine go ?_;refine st hF 0 rfl fun s20 hF=>?_;refine go ?_;have e:=pur H;subst e;exact rt _
       ·refine go ?_;refine cdp H (fun h H=>?_) (fun h H=>?_)
        ·refine go ?_;refine bp H (C5 a0 a1 x47.2) fun x71 h H=>cl h ?_;refine go ?_;refine st hF 1 rfl fun s21 hF=>?_;refine go ?_;refine st hF 0 rfl fun s22 hF=>?_;refine go ?_;have e:=pur H;subst e;exact rt _
        ·refine go ?_;refine bp H (C2 a0 a1.kids) fun x80 h H=>cl h ?_;refine go ?_;refine st hF 3 rfl fun s23 hF=>?_;refine go ?_;refine st hF 1 rfl fun s24 hF=>?_;refine go ?_;refine st hF 0 rfl fun s25 hF=>?_;refine go ?_;have e:=pur H;subst e;exact rt _
     ·refine go ?_;obtain ⟨O0,hx80_1,H⟩:=bnd H;refine cl (C2 a0 a1.kids _ hx80_1) ?_;refine go ?_;refine st hF 3 rfl fun s26 hF=>?_;refine go ?_;refine st hF 1 rfl fun s27 hF=>?_;refine go ?_;refine st hF 0 rfl fun s28 hF=>?_;refine go ?_;have e:=pur H;subst e;exact rt _
 ·intro Hp L0 a0 a1 r H;intro σ;refine hdg mixed Tryz.func125 (rs:=[.cell 6 30,.tmp 7,.tmp 8]) fun q tT=>?_;have hF:=K4 σ;have hX:=Tau.none σ;refine go ?_;refine Ya hF rfl fun b1 ss2 hF=>?_;refine go ?_;refine Ya hF rfl fun b3 ss4 hF=>?_;have hF:=hF.lit 105 11 (rws ZB []) rfl;refine go ?_;obtain ⟨o21,ho21,H⟩:=bnd H;refine L0 a1 a0.binds a0.macs a0.scope a0.id a0.steps [] 0 _ ho21 _ rfl _ _ b1 b3 ?_ ?_ _ _ (.sl true (rws ZB [])) S hF
  ·intro R0 R3 R4 R5 R6 DU he T23 s24 e22v0 tT hF;have he:=he.symm;subst he
   try dsimp only at H
   refine go ?_;refine st hF 0 rfl fun s26 hF=>?_;refine go ?_;have e:=pur H;subst e;exact rt _
  ·intro r hr s' hs;subst hr;have e:=pur H;subst e;exact hsq hs
 ·intro VC Hp C0 L0 a1 YK YL YC YM YN X9 YY out H c hc Q tt b1 b3 hE hR T σ z0v0 tT hF;refine lpx tt hc rfl fun q hX=>go ?_;refine cdp H (fun h H=>?_) (fun h H=>?_)
  ·refine go ?_;obtain ⟨E,hEq⟩:∃E,E=EE σ []:=⟨_,rfl⟩
   have n5:¬E b3:=by rw [hEq];exact K8 (hF.at 0 rfl) (by simp)
   have n6:¬E b1:=by rw [hEq];exact K8 (hF.at 1 rfl) (by simp)
   refine Yj E [.v,.v,.v,.v,.v,.v,.v,.v,.v,.v,.v,.x,.x,.x,.x,.v] (by kernel_rfl) ?_;obtain ⟨x25,f1,H⟩:=bil (g:=K0) Fm.X6 H;have z:=K5 (X7 (hF.at 0 rfl) n5) (X7 (hF.at 1 rfl) n6);refine gh1 ?_;refine bp H (C0 (KV YK YL YC YM YN) x25) fun x28 h H=>cv h ?_;have z:=K5 (X7 (hF.at 0 rfl) n5) (X7 (hF.at 1 rfl) n6);refine gh ?_;refine AO hF rfl fun b7 s8 nw9 mo10 hF=>?_;have z:=K5 (X7 (hF.at 1 rfl) n5) (X7 (hF.at 2 rfl) n6);refine gh ?_;refine AO hF rfl fun b11 s12 nw13 mo14 hF=>?_;have z:=K5 (X7 (hF.at 2 rfl) n5) (X7 (hF.at 3 rfl) n6);refine gh ?_;refine stK hF 1 (show E _ from ((em0 hEq) _ nw9)) rfl fun s15 hF=>?_;have z:=K5 (X7 (hF.at 2 rfl) n5) (X7 (hF.at 3 rfl) n6);refine gh ?_;refine stK hF 0 (show E _ from ((fun x h=>(em0 hEq) x (mo10 x h)) _ nw13)) rfl fun s16 hF=>?_;have z:=K5 (X7 (hF.at 2 rfl) n5) (X7 (hF.at 3 rfl) n6);refine gh ?_;refine go ?_;refine st hF 3 rfl fun s17 hF=>?_;refine go ?_;refine cdn H (fun h H=>?_) (fun h H=>?_)
   ·refine go ?_;refine st hF 2 rfl fun s18 hF=>?_;refine go ?_;exact wq (hR _ (pur H).symm _ (rt _))
   ·refine go ?_;refine apd (g:=ZB) hF 0 H (rdo (c:=true) (g:=ZB) Cor.X6) fun x41 H v19 s20 hF=>?_;refine go ?_;exact L0 a1 x28.1.binds x28.1.macs x28.1.scope x28.1.id x28.1.steps x41 (i64.wrap (YY+1)) _ H _ rfl Q tt b1 b3 hE hR _ _ v19 S (hF.drop 2 0)
  ·refine go ?_;exact wq (hE _ _ _ _ _ _ (pur H).symm _ _ z0v0 S hF)
 ·intro VC C0 a0 a1 a2 r H;intro σ;refine hdg mixed Tryz.func124 (rs:=[.cell 8 30,.cell 9 105,.tmp 10]) fun q tT=>?_;have hF:=K4 σ;have hX:=Tau.none σ;refine go ?_;refine Ya hF rfl fun b1 ss2 hF=>?_;refine go ?_;refine Ya hF rfl fun b3 ss4 hF=>?_;refine go ?_;refine Ya hF rfl fun b5 ss6 hF=>?_;refine go ?_;refine Ya hF rfl fun b7 s8 hF=>?_;refine go ?_;refine bp H (P1 a0 a1 a2 fx0) fun x18 h H=>cl h ?_;refine go ?_;refine Ya hF rfl fun b9 s10 hF=>?_;refine go ?_;refine st hF 4 rfl fun s11 hF=>?_;refine go ?_;refine st hF 0 rfl fun s12 hF=>?_;refine go ?_;refine cdn H (fun h H=>?_) (fun h H=>?_)
  ·refine go ?_;refine st hF 2 rfl fun s13 hF=>?_;refine go ?_;refine st hF 1 rfl fun s14 hF=>?_;refine go ?_;have e:=pur H;subst e;exact rt _
  ·refine go ?_;refine bp H (C0 x18.1 x18.2.1) fun x30 h H=>cl h ?_;refine go ?_;refine st hF 2 rfl fun s15 hF=>?_;refine go ?_;refine st hF 1 rfl fun s16 hF=>?_;refine go ?_;have e:=pur H;subst e;exact rt _
 ·intro HZ A4 Bp C2 C4 C3 a0 a1 a2 r H;intro σ;refine hdg mixed Tryz.func123 (rs:=[.cell 8 30,.cell 9 105,.tmp 10]) fun q tT=>?_;have hF:=K4 σ;have hX:=Tau.none σ;refine go ?_;refine Ya hF rfl fun b1 ss2 hF=>?_;refine go ?_;refine Ya hF rfl fun b3 ss4 hF=>?_;refine go ?_;refine Ya hF rfl fun b5 ss6 hF=>?_;refine go ?_;refine Ya hF rfl fun b7 s8 hF=>?_;refine go ?_;obtain ⟨x29,g9,H⟩:=bnd H;refine Yc 4 25 29 (.bool x29) (gi q (fun q=>?_) (fun q=>?_)) (fun J=>?_)
  ·refine go ?_;exact Yt 25 g9
  ·refine go ?_;exact Yt 25 g9
  refine go ?_;refine cdb H (fun h H=>?_) (fun h H=>?_)
  ·refine go ?_;obtain ⟨E,hEq⟩:∃E,E=EE s8 [b5,b7]:=⟨_,rfl⟩
   have n11:¬E b3:=by rw [hEq];exact K8 (hF.at 2 rfl) (nm2 ⟨neL hF 2 1 rfl rfl (by decide),neL hF 2 0 rfl rfl (by decide)⟩)
   have n12:¬E b1:=by rw [hEq];exact K8 (hF.at 3 rfl) (nm2 ⟨neL hF 3 1 rfl rfl (by decide),neL hF 3 0 rfl rfl (by decide)⟩)
   refine Yj E [.v,.v,.v,.v,.v,.v,.v,.x,.x,.v] (by kernel_rfl) ?_;obtain ⟨x33,f1,H⟩:=bil (g:=K0) Fm.X6 H;have z:=K5 (X7 (hF.at 2 rfl) n11) (X7 (hF.at 3 rfl) n12);refine gh1 ?_;refine bp H (Dr x33) fun x35 h H=>cv h ?_;have z:=K5 (X7 (hF.at 2 rfl) n11) (X7 (hF.at 3 rfl) n12);refine gh ?_;refine stK hF 1 (by rw [hEq];exact Zf (by simp)) rfl fun s13 hF=>?_;have z:=K5 (X7 (hF.at 2 rfl) n11) (X7 (hF.at 3 rfl) n12);refine gh ?_;refine stK hF 0 (by rw [hEq];exact Zf (by simp)) rfl fun s14 hF=>?_;have z:=K5 (X7 (hF.at 2 rfl) n11) (X7 (hF.at 3 rfl) n12);refine gh ?_;refine go ?_;have e:=pur H;subst e;exact rt [.agg [sf K2 a0.binds,sf Ze a0.macs,i6 a0.scope,i6 a0.id,i6 a0.steps],.agg [i6 4,i6 0,.str zB,i6 0,.Yd,i6 x35.kind,.str x35.name,i6 x35.num,sf cI x35.sc,sf K0 x35.kids,.Yd],i6 0]
  ·refine go ?_;obtain ⟨x45,g15,H⟩:=bnd H;refine Yc 4 41 45 (.bool x45) (gi q (fun q=>?_) (fun q=>?_)) (fun J=>?_)
   ·refine go ?_;exact Yt 41 g15
   ·refine go ?_;exact Yt 41 g15
   refine go ?_;refine cdb H (fun h H=>?_) (fun h H=>?_)
   ·refine go ?_;obtain ⟨E,hEq⟩:∃E,E=EE s8 []:=⟨_,rfl⟩
    have n17:¬E b7:=by rw [hEq];exact K8 (hF.at 0 rfl) (by simp)
    have n18:¬E b5:=by rw [hEq];exact K8 (hF.at 1 rfl) (by simp)
    have n19:¬E b3:=by rw [hEq];exact K8 (hF.at 2 rfl) (by simp)
    have n20:¬E b1:=by rw [hEq];exact K8 (hF.at 3 rfl) (by simp)
    refine Yj E [.v,.v,.v,.v,.v,.v,.v,.v,.v,.v,.x,.x,.v,.v] (by kernel_rfl) ?_;obtain ⟨x50,f1,H⟩:=bls (g:=K0) Fm.X6 (lo:=some (i6 1)) (hi:=none) rfl rfl H;have z:=K5 (X7 (hF.at 0 rfl) n17) (K5 (X7 (hF.at 1 rfl) n18) (K5 (X7 (hF.at 2 rfl) n19) (X7 (hF.at 3 rfl) n20)));refine gh1 ?_;refine bp H (C2 a0 x50) fun x52 h H=>cv h ?_;have z:=K5 (X7 (hF.at 0 rfl) n17) (K5 (X7 (hF.at 1 rfl) n18) (K5 (X7 (hF.at 2 rfl) n19) (X7 (hF.at 3 rfl) n20)));refine gh ?_;refine AO hF rfl fun b21 s22 nw23 mo24 hF=>?_;have z:=K5 (X7 (hF.at 1 rfl) n17) (K5 (X7 (hF.at 2 rfl) n18) (K5 (X7 (hF.at 3 rfl) n19) (X7 (hF.at 4 rfl) n20)));refine gh ?_;refine stK hF 0 (show E _ from ((em0 hEq) _ nw23)) rfl fun s25 hF=>?_;have z:=K5 (X7 (hF.at 1 rfl) n17) (K5 (X7 (hF.at 2 rfl) n18) (K5 (X7 (hF.at 3 rfl) n19) (X7 (hF.at 4 rfl) n20)));refine gh ?_;refine go ?_;refine st hF 2 rfl fun s26 hF=>?_;refine go ?_;refine st hF 1 rfl fun s27 hF=>?_;refine go ?_;have e:=pur H;subst e;exact rt _
   ·refine go ?_;obtain ⟨x68,g28,H⟩:=bnd H;refine Yc 4 64 68 (.bool x68) (gi q (fun q=>?_) (fun q=>?_)) (fun J=>?_)
    ·refine go ?_;exact Yt 64 g28
    ·refine go ?_;exact Yt 64 g28
    refine go ?_;obtain ⟨x76,g30,H⟩:=bnd H;refine Yc 6 70 76 (.bool x76) (gi q (fun q=>?_) (fun q=>?_)) (fun J=>?_)
    ·rw [if_pos (dbt q)] at g30;obtain ⟨x72,f1,g30⟩:=bil (g:=K0) Fm.X6 g30;refine go1 ?_;refine go ?_;exact Yt 70 g30
    ·rw [if_neg (dbf q)] at g30;refine go ?_;exact Yt 70 g30
    refine go ?_;refine cdb H (fun h H=>?_) (fun h H=>?_)
    ·refine go ?_;obtain ⟨E,hEq⟩:∃E,E=EE s8 [b5,b7]:=⟨_,rfl⟩
     have n32:¬E b3:=by rw [hEq];exact K8 (hF.at 2 rfl) (nm2 ⟨neL hF 2 1 rfl rfl (by decide),neL hF 2 0 rfl rfl (by decide)⟩)
     have n33:¬E b1:=by rw [hEq];exact K8 (hF.at 3 rfl) (nm2 ⟨neL hF 3 1 rfl rfl (by decide),neL hF 3 0 rfl rfl (by decide)⟩)
     refine Yj E [.v,.v,.v,.v,.v,.v,.v,.v,.v,.v,.v,.v,.v,.v,.v,.x,.x,.v] (by kernel_rfl) ?_;obtain ⟨x80,f1,H⟩:=bil (g:=K0) Fm.X6 H;obtain ⟨x85,f2,H⟩:=bil (g:=K0) Fm.X6 H;have z:=K5 (X7 (hF.at 2 rfl) n32) (X7 (hF.at 3 rfl) n33);refine gh2 ?_;refine bp H (C3 a0 x80.kids x85) fun x88 h H=>cv h ?_;have z:=K5 (X7 (hF.at 2 rfl) n32) (X7 (hF.at 3 rfl) n33);refine gh ?_;refine stK hF 1 (by rw [hEq];exact Zf (by simp)) rfl fun s34 hF=>?_;have z:=K5 (X7 (hF.at 2 rfl) n32) (X7 (hF.at 3 rfl) n33);refine gh ?_;refine stK hF 0 (by rw [hEq];exact Zf (by simp)) rfl fun s35 hF=>?_;have z:=K5 (X7 (hF.at 2 rfl) n32) (X7 (hF.at 3 rfl) n33);refine gh ?_;refine go ?_;have e:=pur H;subst e;exact rt [.agg [sf K2 x88.1.binds,sf Ze x88.1.macs,i6 x88.1.scope,i6 x88.1.id,i6 x88.1.steps],.agg [i6 x88.2.1.kind,i6 x88.2.1.id,.str x88.2.1.name,i6 x88.2.1.num,sf cI x88.2.1.ids,i6 x88.2.1.data.kind,.str x88.2.1.data.name,i6 x88.2.1.data.num,sf cI x88.2.1.data.sc,sf K0 x88.2.1.data.kids,sf ZB x88.2.1.kids],i6 x88.2.2]
    ·refine go ?_;obtain ⟨x97,g36,H⟩:=bnd H;refine Yc 2 95 97 (.bool x97) (gi q (fun q=>?_) (fun q=>?_)) (fun J=>?_)
     ·refine go ?_;exact Yt 95 g36
     ·refine go ?_;exact Yt 95 g36
     refine go ?_;obtain ⟨x103,g38,H⟩:=bnd H;refine Yc 4 99 103 (.bool x103) (giN q (fun q=>?_) (fun q=>?_)) (fun J=>?_)
     ·refine go ?_;exact Yt 99 g38
     ·refine go ?_;exact Yt 99 g38
     refine go ?_;refine cdb H (fun h H=>?_) (fun h H=>?_)
     ·refine go ?_;refine st hF 1 rfl fun s40 hF=>?_;refine go ?_;refine st hF 0 rfl fun s41 hF=>?_;refine go ?_;have e:=pur H;subst e;exact rt _
     ·obtain ⟨x109,f1,H⟩:=bil (g:=K0) Fm.X6 H;refine go1 ?_;refine bp H (OU x109) fun x111 h H=>cl h ?_;refine go ?_;refine cdb H (fun h H=>?_) (fun h H=>?_)
      ·refine go ?_;refine st hF 1 rfl fun s42 hF=>?_;refine go ?_;refine st hF 0 rfl fun s43 hF=>?_;refine go ?_;have e:=pur H;subst e;exact rt _
      ·refine go ?_;refine cdp H (fun h H=>?_) (fun h H=>?_)
       ·refine go ?_;obtain ⟨E,hEq⟩:∃E,E=EE s8 [b5,b7]:=⟨_,rfl⟩
        have n44:¬E b3:=by rw [hEq];exact K8 (hF.at 2 rfl) (nm2 ⟨neL hF 2 1 rfl rfl (by decide),neL hF 2 0 rfl rfl (by decide)⟩)
        have n45:¬E b1:=by rw [hEq];exact K8 (hF.at 3 rfl) (nm2 ⟨neL hF 3 1 rfl rfl (by decide),neL hF 3 0 rfl rfl (by decide)⟩)
        refine Yj E [.v,.v,.v,.v,.v,.v,.v,.v,.v,.v,.v,.v,.x,.x,.v] (by kernel_rfl) ?_;obtain ⟨x126,f1,H⟩:=bil (g:=K0) Fm.X6 H;have z:=K5 (X7 (hF.at 2 rfl) n44) (X7 (hF.at 3 rfl) n45);refine gh1 ?_;refine bp H (C4 a0 x111.1 x111.2.1 x126) fun x129 h H=>cv h ?_;have z:=K5 (X7 (hF.at 2 rfl) n44) (X7 (hF.at 3 rfl) n45);refine gh ?_;refine stK hF 1 (by rw [hEq];exact Zf (by simp)) rfl fun s46 hF=>?_;have z:=K5 (X7 (hF.at 2 rfl) n44) (X7 (hF.at 3 rfl) n45);refine gh ?_;refine stK hF 0 (by rw [hEq];exact Zf (by simp)) rfl fun s47 hF=>?_;have z:=K5 (X7 (hF.at 2 rfl) n44) (X7 (hF.at 3 rfl) n45);refine gh ?_;refine go ?_;have e:=pur H;subst e;exact rt [.agg [sf K2 x129.1.binds,sf Ze x129.1.macs,i6 x129.1.scope,i6 x129.1.id,i6 x129.1.steps],.agg [i6 x129.2.1.kind,i6 x129.2.1.id,.str x129.2.1.name,i6 x129.2.1.num,sf cI x129.2.1.ids,i6 x129.2.1.data.kind,.str x129.2.1.data.name,i6 x129.2.1.data.num,sf cI x129.2.1.data.sc,sf K0 x129.2.1.data.kids,sf ZB x129.2.1.kids],i6 x129.2.2]
       ·refine go ?_;refine bp H (C2 a0 x111.2.1) fun x137 h H=>cl h ?_;refine go ?_;refine st hF 3 rfl fun s48 hF=>?_;refine go ?_;refine cdn H (fun h H=>?_) (fun h H=>?_)
        ·refine go ?_;refine st hF 1 rfl fun s49 hF=>?_;refine go ?_;refine st hF 0 rfl fun s50 hF=>?_;refine go ?_;have e:=pur H;subst e;exact rt _
        ·refine go ?_;obtain ⟨E,hEq⟩:∃E,E=EE s48 [b1]:=⟨_,rfl⟩
         have n51:¬E b7:=by rw [hEq];exact K8 (hF.at 0 rfl) (nm1 (neL hF 0 3 rfl rfl (by decide)))
         have n52:¬E b5:=by rw [hEq];exact K8 (hF.at 1 rfl) (nm1 (neL hF 1 3 rfl rfl (by decide)))
         have n53:¬E b3:=by rw [hEq];exact K8 (hF.at 2 rfl) (nm1 (neL hF 2 3 rfl rfl (by decide)))
         refine Ny E [.v,.v,.v,.v,.v,.v,.x,.v,.v,.v,.v,.v,.x,.x,.x,.v] [1,2,3,4,5,6,0,7,8,9,10,11,12,13,14,15] (by kernel_rfl) ?_;obtain ⟨x151,f1,H⟩:=bil (g:=K0) Fm.X6 H;have z:=K5 (X7 (hF.at 0 rfl) n51) (K5 (X7 (hF.at 1 rfl) n52) (X7 (hF.at 2 rfl) n53));refine gh1 ?_;refine bp H (C3 x137.1 x111.1 x151) fun x154 h H=>cv h ?_;have z:=K5 (X7 (hF.at 0 rfl) n51) (K5 (X7 (hF.at 1 rfl) n52) (X7 (hF.at 2 rfl) n53));refine gh ?_;refine AO hF rfl fun b54 s55 nw56 mo57 hF=>?_;have z:=K5 (X7 (hF.at 1 rfl) n51) (K5 (X7 (hF.at 2 rfl) n52) (X7 (hF.at 3 rfl) n53));refine gh ?_;refine stK hF 4 (by rw [hEq];exact Zf (by simp)) rfl fun s58 hF=>?_;have z:=K5 (X7 (hF.at 1 rfl) n51) (K5 (X7 (hF.at 2 rfl) n52) (X7 (hF.at 3 rfl) n53));refine gh ?_;refine stK hF 0 (show E _ from ((em0 hEq) _ nw56)) rfl fun s59 hF=>?_;have z:=K5 (X7 (hF.at 1 rfl) n51) (K5 (X7 (hF.at 2 rfl) n52) (X7 (hF.at 3 rfl) n53));refine gh ?_;refine go ?_;obtain ⟨E,hEq⟩:∃E,E=EE s59 [b5,b7]:=⟨_,rfl⟩
         have n60:¬E b54:=by rw [hEq];exact K8 (hF.at 0 rfl) (nm2 ⟨neL hF 0 2 rfl rfl (by decide),neL hF 0 1 rfl rfl (by decide)⟩)
         have n61:¬E b3:=by rw [hEq];exact K8 (hF.at 3 rfl) (nm2 ⟨neL hF 3 2 rfl rfl (by decide),neL hF 3 1 rfl rfl (by decide)⟩)
         have n62:¬E b1:=by rw [hEq];exact K8 (hF.at 4 rfl) (nm2 ⟨neL hF 4 2 rfl rfl (by decide),neL hF 4 1 rfl rfl (by decide)⟩)
         refine Yj E [.v,.v,.v,.v,.v,.v,.v,.x,.x,.v] (by kernel_rfl) ?_;have z:=K5 (X7 (hF.at 0 rfl) n60) (K5 (X7 (hF.at 3 rfl) n61) (X7 (hF.at 4 rfl) n62));refine gh ?_;obtain ⟨x162,hx162,H⟩:=bnd H;refine MY (g:=ZB) (xs:=[x154.2.1]) (ys:=x137.2.1) Cor.X6 (by decide) (by decide) (.inr (by first | rfl | simp only [sf,i6,zB,Vn,VQ,cI,cU,cS,cL,Cor.Yb,Fm.Yb])) (.inr ⟨_,by first | rfl | simp only [sf,i6,zB,Vn,VQ,cI,cU,cS,cL,Cor.Yb,Fm.Yb]⟩) hx162 ?_;have z:=K5 (X7 (hF.at 0 rfl) n60) (K5 (X7 (hF.at 3 rfl) n61) (X7 (hF.at 4 rfl) n62));refine gh ?_;refine stK hF 2 (by rw [hEq];exact Zf (by simp)) rfl fun s63 hF=>?_;have z:=K5 (X7 (hF.at 0 rfl) n60) (K5 (X7 (hF.at 3 rfl) n61) (X7 (hF.at 4 rfl) n62));refine gh ?_;refine stK hF 1 (by rw [hEq];exact Zf (by simp)) rfl fun s64 hF=>?_;have z:=K5 (X7 (hF.at 0 rfl) n60) (K5 (X7 (hF.at 3 rfl) n61) (X7 (hF.at 4 rfl) n62));refine gh ?_;refine go ?_;have e:=pur H;subst e;exact rt [.agg [sf K2 x154.1.binds,sf Ze x154.1.macs,i6 x154.1.scope,i6 x154.1.id,i6 x154.1.steps],.agg [i6 6,i6 0,.str zB,i6 0,.Yd,i6 0,.str zB,i6 0,.Yd,.Yd,sf ZB x162],i6 x154.2.2]
 ·intro VC C0 a0 a1 a2 a3 r H;intro σ;refine hdg mixed Tryz.func142 (rs:=[.cell 10 30,.cell 11 105,.tmp 12]) fun q tT=>?_;have hF:=K4 σ;have hX:=Tau.none σ;refine go ?_;refine Ya hF rfl fun b1 ss2 hF=>?_;refine go ?_;refine Ya hF rfl fun b3 ss4 hF=>?_;refine go ?_;refine Ya hF rfl fun b5 ss6 hF=>?_;refine go ?_;refine Ya hF rfl fun b7 s8 hF=>?_;refine go ?_;refine bp H (Ct a0) fun x25 h H=>cl h ?_;refine go ?_;refine st hF 3 rfl fun s9 hF=>?_;refine go ?_;refine cdb H (fun h H=>?_) (fun h H=>?_)
  ·refine go ?_;refine st hF 1 rfl fun s10 hF=>?_;refine go ?_;refine st hF 0 rfl fun s11 hF=>?_;refine go ?_;have e:=pur H;subst e;exact rt _
  ·refine go ?_;obtain ⟨o37,ho37,H⟩:=bnd H;refine FL a1 a2 a3 fx0 x25.1.binds x25.1.macs x25.1.scope x25.1.id x25.1.steps 0 _ ho37 _ rfl _ _ b1 b3 b5 b7 ?_ ?_ _ _  S hF
   ·intro F3 F4 DF F5 F6 he T39 s40 tT hF;have he:=he.symm;subst he
    try dsimp only at H
    refine go ?_;refine bp H (J0 a3 DF 0) fun x107 h H=>cl h ?_;refine go ?_;refine Ya hF rfl fun b42 s43 hF=>?_;refine go ?_;refine st hF 0 rfl fun s44 hF=>?_;refine go ?_;refine bp H (Va x107) fun x109 h H=>cl h ?_;refine go ?_;refine cdb H (fun h H=>?_) (fun h H=>?_)
    ·refine go ?_;refine st hF 2 rfl fun s45 hF=>?_;refine go ?_;refine st hF 1 rfl fun s46 hF=>?_;refine go ?_;have e:=pur H;subst e;exact rt _
    ·refine go ?_;refine bp H (C0 (KV F3 F4 DF F5 F6) x107) fun x116 h H=>cl h ?_;refine go ?_;refine st hF 2 rfl fun s47 hF=>?_;refine go ?_;refine st hF 1 rfl fun s48 hF=>?_;refine go ?_;have e:=pur H;subst e;exact rt _
   ·intro r hr s' hs;subst hr;have e:=pur H;subst e;exact hsq hs
 ·intro VC C0 a0 a1 a2 r H;intro σ;refine hdg mixed Tryz.func153 (rs:=[.cell 8 30,.cell 9 105,.tmp 10]) fun q tT=>?_;have hF:=K4 σ;have hX:=Tau.none σ;refine go ?_;refine Ya hF rfl fun b1 ss2 hF=>?_;refine go ?_;refine Ya hF rfl fun b3 ss4 hF=>?_;refine go ?_;refine Ya hF rfl fun b5 ss6 hF=>?_;refine go ?_;refine Ya hF rfl fun b7 s8 hF=>?_;refine go ?_;refine bp H (Ct a0) fun x22 h H=>cl h ?_;refine go ?_;refine st hF 3 rfl fun s9 hF=>?_;refine go ?_;refine cdb H (fun h H=>?_) (fun h H=>?_)
  ·refine go ?_;refine st hF 1 rfl fun s10 hF=>?_;refine go ?_;refine st hF 0 rfl fun s11 hF=>?_;refine go ?_;have e:=pur H;subst e;exact rt _
  ·refine go ?_;refine Ya hF rfl fun b12 s13 hF=>?_;refine go ?_;refine st hF 0 rfl fun s14 hF=>?_;have hF:=hF.nil 3 1;refine go ?_;obtain ⟨o31,ho31,H⟩:=bnd H;refine Nt a1 a2 fx0 x22.1.binds x22.1.macs x22.1.scope x22.1.id x22.1.steps [] 0 _ ho31 _ rfl _ _ b1 b3 b5 b7 b12 ?_ ?_ _ _ .Yd S hF
   ·intro FZ F0 DE F1 F2 Tj he T33 s34 e32v0 tT hF;have he:=he.symm;subst he
    try dsimp only at H
    refine go ?_;refine bp H (J0 a2 DE 0) fun x78 h H=>cl h ?_;refine go ?_;refine Ya hF rfl fun b36 s37 hF=>?_;refine go ?_;refine st hF 0 rfl fun s38 hF=>?_;refine go ?_;refine bp H (Va x78) fun x80 h H=>cl h ?_;refine go ?_;refine cdb H (fun h H=>?_) (fun h H=>?_)
    ·refine go ?_;refine st hF 3 rfl fun s39 hF=>?_;refine go ?_;refine st hF 2 rfl fun s40 hF=>?_;refine go ?_;have e:=pur H;subst e;exact rt _
    ·refine go ?_;refine bp H (C0 (KV FZ F0 DE F1 F2) x78) fun x88 h H=>cl h ?_;refine go ?_;refine Ya hF rfl fun b41 s42 hF=>?_;refine go ?_;refine st hF 6 rfl fun s43 hF=>?_;refine go ?_;refine st hF 0 rfl fun s44 hF=>?_;refine go ?_;refine st hF 2 rfl fun s45 hF=>?_;refine go ?_;obtain ⟨E,hEq⟩:∃E,E=EE s45 [b5,b7]:=⟨_,rfl⟩
     have n46:¬E b41:=by rw [hEq];exact K8 (hF.at 0 rfl) (nm2 ⟨neL hF 0 4 rfl rfl (by decide),neL hF 0 3 rfl rfl (by decide)⟩)
     have n47:¬E b36:=by rw [hEq];exact K8 (hF.at 1 rfl) (nm2 ⟨neL hF 1 4 rfl rfl (by decide),neL hF 1 3 rfl rfl (by decide)⟩)
     have n48:¬E b12:=by rw [hEq];exact K8 (hF.at 2 rfl) (nm2 ⟨neL hF 2 4 rfl rfl (by decide),neL hF 2 3 rfl rfl (by decide)⟩)
     have n49:¬E b3:=by rw [hEq];exact K8 (hF.at 5 rfl) (nm2 ⟨neL hF 5 4 rfl rfl (by decide),neL hF 5 3 rfl rfl (by decide)⟩)
     have n50:¬E b1:=by rw [hEq];exact K8 (hF.at 6 rfl) (nm2 ⟨neL hF 6 4 rfl rfl (by decide),neL hF 6 3 rfl rfl (by decide)⟩)
     refine Yj E [.v,.v,.v,.x,.x,.v] (by kernel_rfl) ?_;have z:=K5 (X7 (hF.at 0 rfl) n46) (K5 (X7 (hF.at 1 rfl) n47) (K5 (X7 (hF.at 2 rfl) n48) (K5 (X7 (hF.at 5 rfl) n49) (X7 (hF.at 6 rfl) n50))));refine gh ?_;refine stK hF 4 (by rw [hEq];exact Zf (by simp)) rfl fun s51 hF=>?_;have z:=K5 (X7 (hF.at 0 rfl) n46) (K5 (X7 (hF.at 1 rfl) n47) (K5 (X7 (hF.at 2 rfl) n48) (K5 (X7 (hF.at 5 rfl) n49) (X7 (hF.at 6 rfl) n50))));refine gh ?_;refine stK hF 3 (by rw [hEq];exact Zf (by simp)) rfl fun s52 hF=>?_;have z:=K5 (X7 (hF.at 0 rfl) n46) (K5 (X7 (hF.at 1 rfl) n47) (K5 (X7 (hF.at 2 rfl) n48) (K5 (X7 (hF.at 5 rfl) n49) (X7 (hF.at 6 rfl) n50))));refine gh ?_;refine go ?_;have e:=pur H;subst e;exact rt [.agg [sf K2 x88.1.binds,sf Ze x88.1.macs,i6 x88.1.scope,i6 x88.1.id,i6 x88.1.steps],.agg [i6 5,i6 0,.str zB,i6 0,e32v0,i6 0,.str zB,i6 0,.Yd,.Yd,.sl true (rws ZB [x88.2.1])],i6 x88.2.2]
   ·intro r hr s' hs;subst hr;have e:=pur H;subst e;exact hsq hs
theorem Ns:∀(a0:Xpn) (a1:Fm) (a2:Int) r,VC a0 a1 a2=some r->VP K1 99 [.agg (Za a0),.agg (K0 a1),i6 a2] (.tup [.agg (Za r.1),.agg (ZB r.2.1),i6 r.2.2]):=fun a0 a1 a2=>(MB a2).1 a0 a1
theorem PW:∀(a0 a1:Int) r,Co a0 a1=some r->VP K1 154 [i6 a0,i6 a1] (.bool r):=by
 intro a0 a1 r H;intro σ;unfold Co at H;refine hdg mixed Tryz.func154 (rs:=[.tmp 4]) fun q tT=>?_;have hF:=K4 σ;have hX:=Tau.none σ;refine go ?_;obtain ⟨Qow,j2,H⟩:=bnd H;refine Wn (fun s'=>∃(T:TT) (ss1:Sto),s'=⟨T,ss1⟩/\(T 0=i6 a0/\T 1=i6 a1/\T 5=i6 a0/\T 6=.bool Qow)/\Fx σ ss1 [] []) (cdp j2 (fun h j2=>?_) (fun h j2=>?_)) ?_
 ·refine go ?_;have e:=pur j2;subst e;exact ⟨_,_,rfl,S,hF⟩
 ·refine go ?_;refine cdp j2 (fun h j2=>?_) (fun h j2=>?_)
  ·refine go ?_;have e:=pur j2;subst e;exact ⟨_,_,rfl,S,hF⟩
  ·refine go ?_;refine cdp j2 (fun h j2=>?_) (fun h j2=>?_)
   ·refine go ?_;have e:=pur j2;subst e;exact ⟨_,_,rfl,S,hF⟩
   ·refine go ?_;have e:=pur j2;subst e;exact ⟨_,_,rfl,S,hF⟩
 ·rintro s' ⟨T3,ss4,rfl,tT,hF⟩;refine go ?_;refine cdb H (fun h H=>?_) (fun h H=>?_)
  ·refine go ?_;have e:=pur H;subst e;exact rt _
  ·refine go ?_;refine cdp H (fun h H=>?_) (fun h H=>?_)
   ·refine go ?_;have e:=pur H;subst e;exact rt _
   ·refine go ?_;refine cdp H (fun h H=>?_) (fun h H=>?_)
    ·refine go ?_;have e:=pur H;subst e;exact rt _
    ·refine go ?_;obtain ⟨x26,g6,H⟩:=bnd H;refine Yc 2 24 26 (.bool x26) (gi q (fun q=>?_) (fun q=>?_)) (fun J=>?_)
     ·refine go ?_;exact Yt 24 g6
     ·refine go ?_;exact Yt 24 g6
     refine go ?_;have e:=pur H;subst e;exact rt _
theorem Nr:∀(a0:Cor) r,I7 a0=some r->VP K1 155 [.agg (ZB a0)] (.bool r):=by
 intro a0 r H;intro σ;unfold I7 at H;refine hdg mixed Tryz.func155 (rs:=[.tmp 2]) fun q tT=>?_;have hF:=K4 σ;have hX:=Tau.none σ;refine go ?_;refine Ya hF rfl fun b1 ss2 hF=>?_;refine go ?_;obtain ⟨x15,g3,H⟩:=bnd H;refine Yc 8 7 15 (.bool x15) (gi q (fun q=>?_) (fun q=>?_)) (fun J=>?_)
 ·rw [if_pos (dt q)] at g3;refine go ?_;obtain ⟨x14,g5,g3⟩:=bnd g3;refine Yc 3 11 14 (.bool x14) (giN q (fun q=>?_) (fun q=>?_)) (fun J=>?_)
  ·refine go ?_;exact Yt 11 g5
  ·refine go ?_;exact Yt 11 g5
  refine go ?_;exact Yt 7 g3
 ·rw [if_neg (df q)] at g3;refine go ?_;exact Yt 7 g3
 refine go ?_;obtain ⟨x25,g7,H⟩:=bnd H;refine Yc 8 17 25 (.bool x25) (giN q (fun q=>?_) (fun q=>?_)) (fun J=>?_)
 ·rw [if_neg (dbf q)] at g7;refine go ?_;obtain ⟨x24,g9,g7⟩:=bnd g7;refine Yc 3 21 24 (.bool x24) (gi q (fun q=>?_) (fun q=>?_)) (fun J=>?_)
  ·refine go ?_;exact Yt 21 g9
  ·refine go ?_;exact Yt 21 g9
  refine go ?_;exact Yt 17 g7
 ·rw [if_pos (dbt q)] at g7;refine go ?_;exact Yt 17 g7
 refine go ?_;refine cdb H (fun h H=>?_) (fun h H=>?_)
 ·refine go ?_;have e:=pur H;subst e;exact rt _
 ·refine go ?_;obtain ⟨x34,g11,H⟩:=bnd H;refine Yc 4 30 34 (.bool x34) (gi q (fun q=>?_) (fun q=>?_)) (fun J=>?_)
  ·rw [if_pos (dt q)] at g11;refine go ?_;obtain ⟨x32,hx32,g11⟩:=bnd g11;refine cl (Bj a0.name _ hx32) ?_;refine go ?_;exact Yt 30 g11
  ·rw [if_neg (df q)] at g11;refine go ?_;exact Yt 30 g11
  refine go ?_;obtain ⟨x44,g13,H⟩:=bnd H;refine Yc 8 36 44 (.bool x44) (giN q (fun q=>?_) (fun q=>?_)) (fun J=>?_)
  ·rw [if_neg (dbf q)] at g13;refine go ?_;obtain ⟨x43,g15,g13⟩:=bnd g13;refine Yc 3 40 43 (.bool x43) (gi q (fun q=>?_) (fun q=>?_)) (fun J=>?_)
   ·refine go ?_;exact Yt 40 g15
   ·refine go ?_;exact Yt 40 g15
   refine go ?_;exact Yt 36 g13
  ·rw [if_pos (dbt q)] at g13;refine go ?_;exact Yt 36 g13
  refine go ?_;refine cdb H (fun h H=>?_) (fun h H=>?_)
  ·refine go ?_;have e:=pur H;subst e;exact rt _
  ·refine go ?_;obtain ⟨x57,g17,H⟩:=bnd H;refine Yc 8 49 57 (.bool x57) (gi q (fun q=>?_) (fun q=>?_)) (fun J=>?_)
   ·rw [if_pos (dt q)] at g17;refine go ?_;obtain ⟨x56,g19,g17⟩:=bnd g17;refine Yc 3 53 56 (.bool x56) (giN q (fun q=>?_) (fun q=>?_)) (fun J=>?_)
    ·refine go ?_;exact Yt 53 g19
    ·refine go ?_;exact Yt 53 g19
    refine go ?_;exact Yt 49 g17
   ·rw [if_neg (df q)] at g17;refine go ?_;exact Yt 49 g17
   refine go ?_;obtain ⟨x67,g21,H⟩:=bnd H;refine Yc 8 59 67 (.bool x67) (giN q (fun q=>?_) (fun q=>?_)) (fun J=>?_)
   ·rw [if_neg (dbf q)] at g21;refine go ?_;obtain ⟨x66,g23,g21⟩:=bnd g21;refine Yc 3 63 66 (.bool x66) (gi q (fun q=>?_) (fun q=>?_)) (fun J=>?_)
    ·refine go ?_;exact Yt 63 g23
    ·refine go ?_;exact Yt 63 g23
    refine go ?_;exact Yt 59 g21
   ·rw [if_pos (dbt q)] at g21;refine go ?_;exact Yt 59 g21
   refine go ?_;refine cdb H (fun h H=>?_) (fun h H=>?_)
   ·refine go ?_;have e:=pur H;subst e;exact rt _
   ·refine go ?_;refine Yj E0 [.v,.v,.v,.v,.v,.v,.v,.v,.v,.v,.v,.v,.v,.v,.v,.v,.v,.v,.v,.v,.v,.v,.v,.v,.v,.v,.v,.v,.v,.v] (by kernel_rfl) ?_;refine go ?_;obtain ⟨x85,g25,H⟩:=bnd H;refine V0 13 72 85 (.bool x85) (ti q (fun q=>?_) (fun q=>?_)) (fun J=>?_)
    ·rw [if_pos (dt q)] at g25;refine go ?_;obtain ⟨x74,hx74,g25⟩:=bnd g25;refine cv (Va a0.data _ hx74) ?_;refine go ?_;obtain ⟨x84,g27,g25⟩:=bnd g25;refine V0 7 77 84 (.bool x84) (tiN q (fun q=>?_) (fun q=>?_)) (fun J=>?_)
     ·rw [if_neg (dbf q)] at g27;refine go ?_;obtain ⟨x79,hx79,g27⟩:=bnd g27;refine cv (Dr a0.data _ hx79) ?_;refine go ?_;obtain ⟨x82,hx82,g27⟩:=bnd g27;refine cv (G7 x79 a0.data _ hx82) ?_;refine go ?_;exact Yt 77 g27
     ·rw [if_pos (dbt q)] at g27;refine go ?_;exact Yt 77 g27
     refine go ?_;exact Yt 72 g25
    ·rw [if_neg (df q)] at g25;refine go ?_;exact Yt 72 g25
    refine go ?_;obtain ⟨x97,g29,H⟩:=bnd H;refine V0 10 87 97 (.bool x97) (tiN q (fun q=>?_) (fun q=>?_)) (fun J=>?_)
    ·rw [if_neg (dbf q)] at g29;refine go ?_;obtain ⟨x96,g31,g29⟩:=bnd g29;refine V0 5 91 96 (.bool x96) (ti q (fun q=>?_) (fun q=>?_)) (fun J=>?_)
     ·rw [if_neg (dnt q)] at g31;refine go ?_;obtain ⟨x94,hx94,g31⟩:=bnd g31;refine cv (G7 a0.data (Fm.mk 0 zB 0 [] []) _ hx94) ?_;refine go ?_;exact Yt 91 g31
     ·rw [if_pos (dnf q)] at g31;refine go ?_;exact Yt 91 g31
     refine go ?_;exact Yt 87 g29
    ·rw [if_pos (dbt q)] at g29;refine go ?_;exact Yt 87 g29
    refine go ?_;refine cdb H (fun h H=>?_) (fun h H=>?_)
    ·refine go ?_;have e:=pur H;subst e;exact rt _
    ·refine go ?_;obtain ⟨x106,g33,H⟩:=bnd H;refine Yc 4 102 106 (.bool x106) (giN q (fun q=>?_) (fun q=>?_)) (fun J=>?_)
     ·refine go ?_;exact Yt 102 g33
     ·refine go ?_;exact Yt 102 g33
     refine go ?_;have e:=pur H;subst e;exact rt _
theorem OR:∀(a0:Cor) (a2:Int) (Ym:List Int) (Yi:Int) out,Ho a0 a2 Ym Yi=some out->∀c,Yg Tryz.f126 0=some c->∀(Q:QT) (tt:Sto) (b1:Nat),(∀(Qgc:List Int),out=Sum.inr Qgc->∀(T:TT) (σ:Sto),T 2=i6 a2/\T 3=.ptr b1 0/\T 7=sf cI Qgc->Fx tt σ [(b1,⟨105,11,[i6 a0.kind,i6 a0.id,.str a0.name,i6 a0.num,sf cI a0.ids,i6 a0.data.kind,.str a0.data.name,i6 a0.data.num,sf cI a0.data.sc,sf K0 a0.data.kids,sf ZB a0.kids]⟩)] []->Q (.ex 0) ⟨T,σ⟩)->(∀r,out=Sum.inl r->∀s',ID K1 [.tmp 6] (fun r' ss'=>r'=.bool r/\ss'=tt) s'->Q .ret s')->∀(T:TT) (σ:Sto),T 2=i6 a2/\T 3=.ptr b1 0/\T 7=sf cI Ym/\T 8=i6 Yi->Fx tt σ [(b1,⟨105,11,[i6 a0.kind,i6 a0.id,.str a0.name,i6 a0.num,sf cI a0.ids,i6 a0.data.kind,.str a0.data.name,i6 a0.data.num,sf cI a0.data.sc,sf K0 a0.data.kids,sf ZB a0.kids]⟩)] []->aLp K1 c Q ⟨T,σ⟩:=by
 intro a0 a2 Ym Yi;revert Ym Yi;refine Ho.partial_correctness a0 a2 _ ?_;intro Ho IH Ym Yi out H c hc Q tt b1 hE hR T σ tT hF;refine lpx tt hc rfl fun q hX=>go ?_;refine cdp H (fun h H=>?_) (fun h H=>?_)
 ·obtain ⟨x49,f1,H⟩:=bil (g:=cI) (fun _=>rfl) H;refine go1 ?_;obtain ⟨x59,g11,H⟩:=bnd H;refine Yc 6 53 59 (.bool x59) (giN q (fun q=>?_) (fun q=>?_)) (fun J=>?_)
  ·rw [if_neg (df q)] at g11;obtain ⟨x56,f1,g11⟩:=bil (g:=cI) (fun _=>rfl) g11;refine go1 ?_;refine go ?_;exact Yt 53 g11
  ·rw [if_pos (dt q)] at g11;refine go ?_;exact Yt 53 g11
  refine go ?_;obtain ⟨x68,g13,H⟩:=bnd H;refine Yc 7 61 68 (.bool x68) (giN q (fun q=>?_) (fun q=>?_)) (fun J=>?_)
  ·rw [if_neg (dbf q)] at g13;obtain ⟨x65,f1,g13⟩:=bil (g:=cI) (fun _=>rfl) g13;refine go1 ?_;obtain ⟨x67,hx67,g13⟩:=bnd g13;refine cl (A1 Ym x65 _ hx67) ?_;refine go ?_;exact Yt 61 g13
  ·rw [if_pos (dbt q)] at g13;refine go ?_;exact Yt 61 g13
  refine go ?_;refine cdb H (fun h H=>?_) (fun h H=>?_)
  ·refine go ?_;exact wq (hR _ (pur H).symm _ (rt _))
  ·refine go ?_;refine Ny E0 [.v,.v,.v,.v,.v,.v,.v,.v,.x,.x,.v] [0,1,3,4,5,6,7,8,2,9,10] (by kernel_rfl) ?_;obtain ⟨x75,f1,H⟩:=bil (g:=cI) (fun _=>rfl) H;refine go1 ?_;have hF:=hF.lit 3 1 (rws cI []) rfl;refine SL (g:=cI) hF 0 H (rdo (c:=false) (g:=cI) (fun _=>rfl)) fun x71 H v15 s16 hF=>?_;refine go ?_;refine Qtb (g:=cI) hF 0 H (rdo (c:=true) (g:=cI) (fun _=>rfl)) fun x78 H s18 hF=>?_;refine go ?_;exact IH  x78 (i64.wrap (Yi+1)) _ H _ rfl Q tt b1 hE hR _ _  S hF
 ·refine go ?_;exact wq (hE _ (pur H).symm _ _  S hF)
theorem TV:∀(a0:Cor) (a1:List Int) (a2:Int) r,A3 a0 a1 a2=some r->VP K1 126 [.agg (ZB a0),sf cI a1,i6 a2] (.bool r):=by
 refine A3.partial_correctness _ (motive_2:=fun a0 a2 Ay H4 out=>∀c,Yg Tryz.f126 1=some c->∀(Q:QT) (tt:Sto) (b1:Nat),(∀(_u:Unit),out=Sum.inr ()->∀(T:TT) (σ:Sto),0+0=0->Fx tt σ [(b1,⟨105,11,[i6 a0.kind,i6 a0.id,.str a0.name,i6 a0.num,sf cI a0.ids,i6 a0.data.kind,.str a0.data.name,i6 a0.data.num,sf cI a0.data.sc,sf K0 a0.data.kids,sf ZB a0.kids]⟩)] []->Q (.ex 2) ⟨T,σ⟩)->(∀r,out=Sum.inl r->∀s',ID K1 [.tmp 6] (fun r' ss'=>r'=.bool r/\ss'=tt) s'->Q .ret s')->∀(T:TT) (σ:Sto),T 2=i6 a2/\T 3=.ptr b1 0/\T 7=sf cI Ay/\T 9=i6 H4->Fx tt σ [(b1,⟨105,11,[i6 a0.kind,i6 a0.id,.str a0.name,i6 a0.num,sf cI a0.ids,i6 a0.data.kind,.str a0.data.name,i6 a0.data.num,sf cI a0.data.sc,sf K0 a0.data.kids,sf ZB a0.kids]⟩)] []->aLp K1 c Q ⟨T,σ⟩) ?_ ?_
 ·intro H7 L0 a0 a1 a2 r H;intro σ;refine hdg mixed Tryz.func126 (rs:=[.tmp 6]) fun q tT=>?_;have hF:=K4 σ;have hX:=Tau.none σ;refine go ?_;refine Ya hF rfl fun b1 ss2 hF=>?_;refine go ?_;obtain ⟨x20,g3,H⟩:=bnd H;refine Yc 7 13 20 (.bool x20) (giN q (fun q=>?_) (fun q=>?_)) (fun J=>?_)
  ·rw [if_neg (df q)] at g3;refine go ?_;obtain ⟨x18,hx18,g3⟩:=bnd g3;refine cl (PW a0.kind (a0.kids.length:Int) _ hx18) ?_;refine go ?_;exact Yt 13 g3
  ·rw [if_pos (dt q)] at g3;refine go ?_;exact Yt 13 g3
  refine go ?_;obtain ⟨x25,g5,H⟩:=bnd H;refine Yc 3 22 25 (.bool x25) (giN q (fun q=>?_) (fun q=>?_)) (fun J=>?_)
  ·rw [if_neg (dbf q)] at g5;refine go ?_;obtain ⟨x23,hx23,g5⟩:=bnd g5;refine cl (Nr a0 _ hx23) ?_;refine go ?_;exact Yt 22 g5
  ·rw [if_pos (dbt q)] at g5;refine go ?_;exact Yt 22 g5
  refine go ?_;obtain ⟨x37,g7,H⟩:=bnd H;refine Yc 10 27 37 (.bool x37) (giN q (fun q=>?_) (fun q=>?_)) (fun J=>?_)
  ·rw [if_neg (dbf q)] at g7;refine go ?_;obtain ⟨x36,g9,g7⟩:=bnd g7;refine Yc 5 31 36 (.bool x36) (gi q (fun q=>?_) (fun q=>?_)) (fun J=>?_)
   ·rw [if_pos (dt q)] at g9;refine go ?_;obtain ⟨x34,hx34,g9⟩:=bnd g9;refine cl (A1 a1 a0.id _ hx34) ?_;refine go ?_;exact Yt 31 g9
   ·rw [if_neg (df q)] at g9;refine go ?_;exact Yt 31 g9
   refine go ?_;exact Yt 27 g7
  ·rw [if_pos (dbt q)] at g7;refine go ?_;exact Yt 27 g7
  refine go ?_;refine cdb H (fun h H=>?_) (fun h H=>?_)
  ·refine go ?_;have e:=pur H;subst e;exact rt _
  ·refine go ?_;obtain ⟨o19,ho19,H⟩:=bnd H;refine OR a0 a2 a1 0 _ ho19 _ rfl _ _ b1 ?_ ?_ _ _  S hF
   ·intro Ay he T21 s22 tT hF;have he:=he.symm;subst he
    try dsimp only at H
    refine go ?_;obtain ⟨o24,ho24,H⟩:=bnd H;refine L0 a0 a2 Ay 0 _ ho24 _ rfl _ _ b1 ?_ ?_ _ _  S hF
    ·intro _ he T26 s27 tT hF;have he:=he.symm;subst he
     try dsimp only at H
     refine go ?_;have e:=pur H;subst e;exact rt _
    ·intro r hr s' hs;subst hr;have e:=pur H;subst e;exact hsq hs
   ·intro r hr s' hs;subst hr;have e:=pur H;subst e;exact hsq hs
 ·intro A3 H7 C0 L0 a0 a2 Ay H4 out H c hc Q tt b1 hE hR T σ tT hF;refine lpx tt hc rfl fun q hX=>go ?_;refine cdp H (fun h H=>?_) (fun h H=>?_)
  ·obtain ⟨x89,f1,H⟩:=bil (g:=ZB) Cor.X6 H;refine go1 ?_;obtain ⟨x94,hx94,H⟩:=bnd H;refine cl (C0 x89 Ay (i64.wrap (a2 - 1)) _ hx94) ?_;refine go ?_;refine cdb H (fun h H=>?_) (fun h H=>?_)
   ·refine go ?_;exact wq (hR _ (pur H).symm _ (rt _))
   ·refine go ?_;exact L0 a0 a2 Ay (i64.wrap (H4+1)) _ H _ rfl Q tt b1 hE hR _ _  S hF
  ·refine go ?_;exact wq (hE () (pur H).symm _ _  S hF)
theorem OQ:∀(a0:Cor) r,H6 a0=some r->VP K1 127 [.agg (ZB a0)] (i6 r):=by
 refine H6.partial_correctness _ (motive_2:=fun a0 YF YA out=>∀c,Yg Tryz.f127 0=some c->∀(Q:QT) (tt:Sto) (b1:Nat),(∀(Tc:Int),out=Tc->∀(T:TT) (σ:Sto),T 3=i6 Tc->Fx tt σ [(b1,⟨105,11,[i6 a0.kind,i6 a0.id,.str a0.name,i6 a0.num,sf cI a0.ids,i6 a0.data.kind,.str a0.data.name,i6 a0.data.num,sf cI a0.data.sc,sf K0 a0.data.kids,sf ZB a0.kids]⟩)] []->Q (.ex 0) ⟨T,σ⟩)->True->∀(T:TT) (σ:Sto),T 1=.ptr b1 0/\T 3=i6 YF/\T 4=i6 YA->Fx tt σ [(b1,⟨105,11,[i6 a0.kind,i6 a0.id,.str a0.name,i6 a0.num,sf cI a0.ids,i6 a0.data.kind,.str a0.data.name,i6 a0.data.num,sf cI a0.data.sc,sf K0 a0.data.kids,sf ZB a0.kids]⟩)] []->aLp K1 c Q ⟨T,σ⟩) ?_ ?_
 ·intro JR L0 a0 r H;intro σ;refine hdg mixed Tryz.func127 (rs:=[.tmp 2]) fun q tT=>?_;have hF:=K4 σ;have hX:=Tau.none σ;refine go ?_;refine Ya hF rfl fun b1 ss2 hF=>?_;refine go ?_;obtain ⟨o3,ho3,H⟩:=bnd H;refine L0 a0 1 0 _ ho3 _ rfl _ _ b1 ?_ ?_ _ _  S hF
  ·intro UH he T5 ss6 tT hF;have he:=he.symm;subst he;refine go ?_;have e:=pur H;subst e;exact rt _
  ·trivial
 ·intro H6 JR C0 L0 a0 YF YA out H c hc Q tt b1 hE hR T σ tT hF;refine lpx tt hc rfl fun q hX=>go ?_;refine cdp H (fun h H=>?_) (fun h H=>?_)
  ·obtain ⟨x16,f1,H⟩:=bil (g:=ZB) Cor.X6 H;refine go1 ?_;refine bp H (C0 x16) fun x18 h H=>cl h ?_;refine go ?_;exact L0 a0 (i64.wrap (YF+x18)) (i64.wrap (YA+1)) _ H _ rfl Q tt b1 hE hR _ _  S hF
  ·refine go ?_;exact wq (hE _ (pur H).symm _ _  S hF)
theorem Mf:∀(a0:Cor) r,Ak a0=some r->VP K1 100 [.agg (ZB a0)] (.bool r):=by
 intro a0 r H;intro σ;unfold Ak at H;refine hdg mixed Tryz.func100 (rs:=[.tmp 2]) fun q tT=>?_;have hF:=K4 σ;have hX:=Tau.none σ;refine go ?_;refine Ya hF rfl fun b1 ss2 hF=>?_;refine go ?_;refine bp H (TV a0 [] 120) fun x5 h H=>cl h ?_;refine go ?_;obtain ⟨x10,g3,H⟩:=bnd H;refine Yc 3 7 10 (.bool x10) (gi q (fun q=>?_) (fun q=>?_)) (fun J=>?_)
 ·rw [if_pos (dbt q)] at g3;refine go ?_;obtain ⟨x8,hx8,g3⟩:=bnd g3;refine cl (OQ a0 _ hx8) ?_;refine go ?_;exact Yt 7 g3
 ·rw [if_neg (dbf q)] at g3;refine go ?_;exact Yt 7 g3
 refine go ?_;have e:=pur H;subst e;exact rt _
theorem SC:∀(a0:Fm) (a1:Int) r,Dw a0 a1=some r->VP K1 73 [.agg (K0 a0),i6 a1] (.tup [.agg (Za r.1),.agg (ZB r.2.1),i6 r.2.2]):=by
 intro a0 a1 r H;intro σ;unfold Dw at H;refine hdg mixed Tryz.func73 (rs:=[.cell 4 30,.cell 5 105,.tmp 6]) fun q tT=>?_;have hF:=K4 σ;have hX:=Tau.none σ;refine go ?_;refine Ya hF rfl fun b1 ss2 hF=>?_;refine go ?_;refine Ya hF rfl fun b3 ss4 hF=>?_;refine go ?_;refine Ya hF rfl fun b5 ss6 hF=>?_;refine go ?_;refine bp H (Va a0) fun x11 h H=>cl h ?_;refine go ?_;obtain ⟨x16,g7,H⟩:=bnd H;refine Yc 2 14 16 (.bool x16) (giN q (fun q=>?_) (fun q=>?_)) (fun J=>?_)
 ·refine go ?_;exact Yt 14 g7
 ·refine go ?_;exact Yt 14 g7
 refine go ?_;obtain ⟨x20,g9,H⟩:=bnd H;refine Yc 2 18 20 (.bool x20) (giN q (fun q=>?_) (fun q=>?_)) (fun J=>?_)
 ·refine go ?_;exact Yt 18 g9
 ·refine go ?_;exact Yt 18 g9
 refine go ?_;refine cdb H (fun h H=>?_) (fun h H=>?_)
 ·refine go ?_;refine st hF 1 rfl fun s11 hF=>?_;refine go ?_;refine st hF 0 rfl fun s12 hF=>?_;refine go ?_;have e:=pur H;subst e;exact rt _
 ·refine go ?_;obtain ⟨E,hEq⟩:∃E,E=EE ss6 []:=⟨_,rfl⟩
  have n13:¬E b5:=by rw [hEq];exact K8 (hF.at 0 rfl) (by simp)
  have n14:¬E b3:=by rw [hEq];exact K8 (hF.at 1 rfl) (by simp)
  have n15:¬E b1:=by rw [hEq];exact K8 (hF.at 2 rfl) (by simp)
  refine Yj E [.v,.v,.v,.v,.v,.v,.v,.v,.x,.x,.x,.x,.v] (by kernel_rfl) ?_;have z:=K5 (X7 (hF.at 0 rfl) n13) (K5 (X7 (hF.at 1 rfl) n14) (X7 (hF.at 2 rfl) n15));refine gh ?_;refine bp H (Bb ) fun x24 h H=>cv h ?_;have z:=K5 (X7 (hF.at 0 rfl) n13) (K5 (X7 (hF.at 1 rfl) n14) (X7 (hF.at 2 rfl) n15));refine gh ?_;refine bp H (Ns x24 a0 a1) fun x27 h H=>cv h ?_;have z:=K5 (X7 (hF.at 0 rfl) n13) (K5 (X7 (hF.at 1 rfl) n14) (X7 (hF.at 2 rfl) n15));refine gh ?_;refine AO hF rfl fun b16 s17 nw18 mo19 hF=>?_;have z:=K5 (X7 (hF.at 1 rfl) n13) (K5 (X7 (hF.at 2 rfl) n14) (X7 (hF.at 3 rfl) n15));refine gh ?_;refine AO hF rfl fun b20 s21 nw22 mo23 hF=>?_;have z:=K5 (X7 (hF.at 2 rfl) n13) (K5 (X7 (hF.at 3 rfl) n14) (X7 (hF.at 4 rfl) n15));refine gh ?_;refine stK hF 1 (show E _ from ((em0 hEq) _ nw18)) rfl fun s24 hF=>?_;have z:=K5 (X7 (hF.at 2 rfl) n13) (K5 (X7 (hF.at 3 rfl) n14) (X7 (hF.at 4 rfl) n15));refine gh ?_;refine stK hF 0 (show E _ from ((fun x h=>(em0 hEq) x (mo19 x h)) _ nw22)) rfl fun s25 hF=>?_;have z:=K5 (X7 (hF.at 2 rfl) n13) (K5 (X7 (hF.at 3 rfl) n14) (X7 (hF.at 4 rfl) n15));refine gh ?_;refine go ?_;refine cdn H (fun h H=>?_) (fun h H=>?_)
  ·refine go ?_;refine st hF 3 rfl fun s26 hF=>?_;refine go ?_;refine st hF 2 rfl fun s27 hF=>?_;refine go ?_;have e:=pur H;subst e;exact rt _
  ·refine go ?_;refine bp H (Mf x27.2.1) fun x37 h H=>cl h ?_;refine go ?_;refine cdb H (fun h H=>?_) (fun h H=>?_)
   ·refine go ?_;refine st hF 3 rfl fun s28 hF=>?_;refine go ?_;refine st hF 2 rfl fun s29 hF=>?_;refine go ?_;have e:=pur H;subst e;exact rt _
   ·refine go ?_;obtain ⟨E,hEq⟩:∃E,E=EE s25 [b3,b5]:=⟨_,rfl⟩
    have n30:¬E b20:=by rw [hEq];exact K8 (hF.at 0 rfl) (nm2 ⟨neL hF 0 3 rfl rfl (by decide),neL hF 0 2 rfl rfl (by decide)⟩)
    have n31:¬E b16:=by rw [hEq];exact K8 (hF.at 1 rfl) (nm2 ⟨neL hF 1 3 rfl rfl (by decide),neL hF 1 2 rfl rfl (by decide)⟩)
    have n32:¬E b1:=by rw [hEq];exact K8 (hF.at 4 rfl) (nm2 ⟨neL hF 4 3 rfl rfl (by decide),neL hF 4 2 rfl rfl (by decide)⟩)
    refine Yj E [.v,.v,.x,.x,.v] (by kernel_rfl) ?_;have z:=K5 (X7 (hF.at 0 rfl) n30) (K5 (X7 (hF.at 1 rfl) n31) (X7 (hF.at 4 rfl) n32));refine gh ?_;refine stK hF 3 (by rw [hEq];exact Zf (by simp)) rfl fun s33 hF=>?_;have z:=K5 (X7 (hF.at 0 rfl) n30) (K5 (X7 (hF.at 1 rfl) n31) (X7 (hF.at 4 rfl) n32));refine gh ?_;refine stK hF 2 (by rw [hEq];exact Zf (by simp)) rfl fun s34 hF=>?_;have z:=K5 (X7 (hF.at 0 rfl) n30) (K5 (X7 (hF.at 1 rfl) n31) (X7 (hF.at 4 rfl) n32));refine gh ?_;refine go ?_;have e:=pur H;subst e;exact rt [.agg [sf K2 x27.1.binds,sf Ze x27.1.macs,i6 x27.1.scope,i6 x27.1.id,i6 x27.1.steps],.agg [i6 x27.2.1.kind,i6 x27.2.1.id,.str x27.2.1.name,i6 x27.2.1.num,sf cI x27.2.1.ids,i6 x27.2.1.data.kind,.str x27.2.1.data.name,i6 x27.2.1.data.num,sf cI x27.2.1.data.sc,sf K0 x27.2.1.data.kids,sf ZB x27.2.1.kids],i6 0]
theorem Dc:∀(a0:Xpn) (x11:List Bnd) (Vq:List Mac) (YA:Int) (x29:Mac) (LQ:List Fm) (EN:Int) out,Vg a0 x11 Vq YA x29 LQ EN=some out->∀c,Yg ZJ 1=some c->∀(Q:QT) (tt0:Sto) (b1 b3:Nat) (v7:AV) (b12 b17:Nat) (z0v1:AV),(∀(Qgf:List Fm),out=Qgf->∀(T:TT) (σ tt:Sto) (e1v2:AV),T 1=.ptr b1 0/\T 2=.ptr b3 0/\T 3=.ptr b12 0/\T 4=i6 YA/\T 5=.ptr b17 0->Tau tt0 [] tt->Fx tt σ [(b17,⟨62,3,[i6 x29.id,e1v2,.Yd]⟩),(b12,⟨30,5,[v7,z0v1,i6 a0.scope,i6 a0.id,i6 a0.steps]⟩),(b3,⟨30,5,[.Yd,.Yd,i6 0,i6 0,i6 0]⟩),(b1,⟨30,5,[sf K2 a0.binds,sf Ze a0.macs,i6 a0.scope,i6 a0.id,i6 a0.steps]⟩)] [⟨e1v2,34,5,rws K0 Qgf⟩,⟨z0v1,62,3,rws Ze Vq⟩,⟨v7,53,3,rws K2 x11⟩]->Q (.ex 2) ⟨T,σ⟩)->True->∀(T:TT) (σ tt:Sto) (z1v2:AV),T 1=.ptr b1 0/\T 2=.ptr b3 0/\T 3=.ptr b12 0/\T 4=i6 YA/\T 5=.ptr b17 0/\T 6=i6 EN->Tau tt0 [] tt->Fx tt σ [(b17,⟨62,3,[i6 x29.id,z1v2,.Yd]⟩),(b12,⟨30,5,[v7,z0v1,i6 a0.scope,i6 a0.id,i6 a0.steps]⟩),(b3,⟨30,5,[.Yd,.Yd,i6 0,i6 0,i6 0]⟩),(b1,⟨30,5,[sf K2 a0.binds,sf Ze a0.macs,i6 a0.scope,i6 a0.id,i6 a0.steps]⟩)] [⟨z1v2,34,5,rws K0 LQ⟩,⟨z0v1,62,3,rws Ze Vq⟩,⟨v7,53,3,rws K2 x11⟩]->aLp K1 c Q ⟨T,σ⟩:=by
 intro a0 x11 Vq YA x29 LQ EN;revert LQ EN;refine Vg.partial_correctness a0 x11 Vq YA x29 _ ?_;intro Vg IH LQ EN out H c hc Q tt0 b1 b3 v7 b12 b17 z0v1 hE hR T σ tt z1v2 tT hX hF;obtain rfl:=lpe (rfl:Yg ZJ 1=some _) hc;refine Ye ?_;have q:=dum;obtain ⟨x37,f1,H⟩:=bil (g:=Ze) Mac.X6 H;refine go1 ?_;refine go ?_;refine cdp H (fun h H=>?_) (fun h H=>?_)
 ·refine go ?_;refine Yj E0 [.v,.v,.v,.v,.v,.v,.v,.v,.v,.v,.v,.v,.v,.x,.v,.z] (by kernel_rfl) ?_;obtain ⟨x49,f1,H⟩:=bil (g:=Ze) Mac.X6 H;obtain ⟨x53,f2,H⟩:=bil (g:=K0) Fm.X6 H;refine go2 ?_;refine bp H (Wg x53) fun x55 h H=>cv h ?_;refine go ?_;refine SL (g:=K0) hF 0 H (rdo (c:=true) (g:=K0) Fm.X6) fun x57 H v20 s21 hF=>?_;refine go ?_;refine st hF 0 (hF.cells 0 rfl) fun s22 hF=>?_;refine go ?_;exact IH  x57 (i64.wrap (EN+1)) _ H _ rfl Q tt0 b1 b3 v7 b12 b17 z0v1 hE hR _ _ _ v20 S hX hF
 ·refine go ?_;exact wq (hE _ (pur H).symm _ _ _ z1v2 S hX hF)
theorem Dd:∀(a0:Xpn) (x11:List Bnd) (Vq:List Mac) (YA:Int) (x29:Mac) (Dh:List Fm) (LR:List Rul) (EO:Int) out,Vh a0 x11 Vq YA x29 Dh LR EO=some out->∀c,Yg ZJ 2=some c->∀(Q:QT) (tt0:Sto) (b1 b3:Nat) (v7:AV) (b12 b17:Nat) (e24v2 z0v1:AV),(∀(Qgh:List Rul),out=Qgh->∀(T:TT) (σ tt:Sto) (e2v3:AV),T 1=.ptr b1 0/\T 2=.ptr b3 0/\T 3=.ptr b12 0/\T 4=i6 YA/\T 5=.ptr b17 0->Tau tt0 [] tt->Fx tt σ [(b17,⟨62,3,[i6 x29.id,e24v2,e2v3]⟩),(b12,⟨30,5,[v7,z0v1,i6 a0.scope,i6 a0.id,i6 a0.steps]⟩),(b3,⟨30,5,[.Yd,.Yd,i6 0,i6 0,i6 0]⟩),(b1,⟨30,5,[sf K2 a0.binds,sf Ze a0.macs,i6 a0.scope,i6 a0.id,i6 a0.steps]⟩)] [⟨e2v3,87,10,rws K7 Qgh⟩,⟨e24v2,34,5,rws K0 Dh⟩,⟨z0v1,62,3,rws Ze Vq⟩,⟨v7,53,3,rws K2 x11⟩]->Q (.ex 4) ⟨T,σ⟩)->True->∀(T:TT) (σ tt:Sto) (z2v3:AV),T 1=.ptr b1 0/\T 2=.ptr b3 0/\T 3=.ptr b12 0/\T 4=i6 YA/\T 5=.ptr b17 0/\T 7=i6 EO->Tau tt0 [] tt->Fx tt σ [(b17,⟨62,3,[i6 x29.id,e24v2,z2v3]⟩),(b12,⟨30,5,[v7,z0v1,i6 a0.scope,i6 a0.id,i6 a0.steps]⟩),(b3,⟨30,5,[.Yd,.Yd,i6 0,i6 0,i6 0]⟩),(b1,⟨30,5,[sf K2 a0.binds,sf Ze a0.macs,i6 a0.scope,i6 a0.id,i6 a0.steps]⟩)] [⟨z2v3,87,10,rws K7 LR⟩,⟨e24v2,34,5,rws K0 Dh⟩,⟨z0v1,62,3,rws Ze Vq⟩,⟨v7,53,3,rws K2 x11⟩]->aLp K1 c Q ⟨T,σ⟩:=by
 intro a0 x11 Vq YA x29 Dh LR EO;revert LR EO;refine Vh.partial_correctness a0 x11 Vq YA x29 Dh _ ?_;intro Vh IH LR EO out H c hc Q tt0 b1 b3 v7 b12 b17 e24v2 z0v1 hE hR T σ tt z2v3 tT hX hF;obtain rfl:=lpe (rfl:Yg ZJ 2=some _) hc;refine Ye ?_;have q:=dum;obtain ⟨x63,f1,H⟩:=bil (g:=Ze) Mac.X6 H;refine go1 ?_;refine go ?_;refine cdp H (fun h H=>?_) (fun h H=>?_)
 ·obtain ⟨x73,f1,H⟩:=bil (g:=Ze) Mac.X6 H;obtain ⟨x77,f2,H⟩:=bil (g:=K7) Rul.X6 H;refine go2 ?_;refine Ya hF rfl fun b28 s29 hF=>?_;refine go ?_;refine st hF 0 rfl fun s30 hF=>?_;refine go ?_;refine Yj E0 [.v,.v,.v,.v,.v,.v,.v,.v,.v,.v,.x,.v,.z] (by kernel_rfl) ?_;refine go ?_;refine bp H (Wg x77.pat) fun x83 h H=>cv h ?_;refine go ?_;refine bp H (Wg x77.tpl) fun x86 h H=>cv h ?_;refine go ?_;refine SL (g:=K7) hF 0 H (rdo (c:=true) (g:=K7) Rul.X6) fun x89 H v31 s32 hF=>?_;refine go ?_;refine st hF 1 (hF.cells 0 rfl) fun s33 hF=>?_;refine go ?_;exact IH  x89 (i64.wrap (EO+1)) _ H _ rfl Q tt0 b1 b3 v7 b12 b17 e24v2 z0v1 hE hR _ _ _ v31 S hX (hF.drop 1 0)
 ·refine go ?_;exact wq (hE _ (pur H).symm _ _ _ z2v3 S hX hF)
theorem Db:∀(a0:Xpn) (x11:List Bnd) (Vq:List Mac) (YA:Int) out,Vf a0 x11 Vq YA=some out->∀c,Yg ZJ 0=some c->∀(Q:QT) (tt0:Sto) (b1 b3:Nat) (v7:AV) (b12:Nat),(∀(FY:List Mac),out=FY->∀(T:TT) (σ tt:Sto) (e0v1:AV),T 2=.ptr b3 0/\T 3=.ptr b12 0->Tau tt0 [] tt->Fx tt σ [(b12,⟨30,5,[v7,e0v1,i6 a0.scope,i6 a0.id,i6 a0.steps]⟩),(b3,⟨30,5,[.Yd,.Yd,i6 0,i6 0,i6 0]⟩),(b1,⟨30,5,[sf K2 a0.binds,sf Ze a0.macs,i6 a0.scope,i6 a0.id,i6 a0.steps]⟩)] [⟨e0v1,62,3,rws Ze FY⟩,⟨v7,53,3,rws K2 x11⟩]->Q (.ex 0) ⟨T,σ⟩)->True->∀(T:TT) (σ tt:Sto) (z0v1:AV),T 1=.ptr b1 0/\T 2=.ptr b3 0/\T 3=.ptr b12 0/\T 4=i6 YA->Tau tt0 [] tt->Fx tt σ [(b12,⟨30,5,[v7,z0v1,i6 a0.scope,i6 a0.id,i6 a0.steps]⟩),(b3,⟨30,5,[.Yd,.Yd,i6 0,i6 0,i6 0]⟩),(b1,⟨30,5,[sf K2 a0.binds,sf Ze a0.macs,i6 a0.scope,i6 a0.id,i6 a0.steps]⟩)] [⟨z0v1,62,3,rws Ze Vq⟩,⟨v7,53,3,rws K2 x11⟩]->aLp K1 c Q ⟨T,σ⟩:=by
 intro a0 x11 Vq YA;revert Vq YA;refine Vf.partial_correctness a0 x11 _ ?_;intro Vf IH Vq YA out H c hc Q tt0 b1 b3 v7 b12 hE hR T σ tt z0v1 tT hX hF;refine lpy hc rfl fun q=>go ?_;refine cdp H (fun h H=>?_) (fun h H=>?_)
 ·obtain ⟨x29,f1,H⟩:=bil (g:=Ze) Mac.X6 H;refine go1 ?_;refine Ya hF rfl fun b17 s18 hF=>?_;refine go ?_;refine st hF 0 rfl fun s19 hF=>?_;have hF:=hF.nil 34 5;refine go ?_;obtain ⟨o23,ho23,H⟩:=bnd H;refine Dc a0 x11 Vq YA x29 [] 0 _ ho23 _ rfl _ tt0 b1 b3 v7 b12 b17 z0v1 ?_ ?_ _ _ _ .Yd S hX hF
  ·intro Dh he T25 s26 t27 e24v2 tT hX hF;have he:=he.symm;subst he;have hF:=hF.nil 87 10;refine go ?_;obtain ⟨o34,ho34,H⟩:=bnd H;refine Dd a0 x11 Vq YA x29 Dh [] 0 _ ho34 _ rfl _ tt0 b1 b3 v7 b12 b17 e24v2 z0v1 ?_ ?_ _ _ _ .Yd S hX hF
   ·intro Qlk he T36 s37 t38 e35v3 tT hX hF;have he:=he.symm;subst he;refine go ?_;refine Qtc (g:=Ze) (rows:=[[i6 x29.id,e24v2,e35v3]]) (mid:=[[i6 x29.id,sf K0 Dh,e35v3]]) hF 2 1 1 0 0 H Mac.X6 true rfl (by simp only [Qr,K9,KK,Kj,QU];exact (.wk (.refl _) id (.own (.wk (.refl _) id .nil)))) (by simp only [sf,i6,zB,Vn,VQ,cI,cU,cS,cL,Mac.Yb,Zp,Zq,Fm.num,Fm.sc,Zr,Mac.id,Mac.lits,Mac.rules,Qr,K9,KK,Kj,QU];exact (.wk (.refl _) id (.wk (.refl _) id (.own .nil)))) fun x95 H v39 s40 hF=>?_;refine go ?_;refine st hF 1 (hF.cells 0 rfl) fun s41 hF=>?_;refine go ?_;exact IH  x95 (i64.wrap (YA+1)) _ H _ rfl Q tt0 b1 b3 v7 b12 hE hR _ _ _ v39 S hX (hF.drop 1 0)
   ·trivial
  ·trivial
 ·refine go ?_;exact wq (hE _ (pur H).symm _ _ _ z0v1 S hX hF)
theorem CB:∀(a0:Xpn) (x11:List Bnd) (Vq:List Mac) (YA:Int) (x29:Mac) (LQ:List Fm) (EN:Int) out,Vg a0 x11 Vq YA x29 LQ EN=some out->∀c,Yg ZJ 1=some c->∀(Q:QT) (tt0:Sto) (b1 b3 b48:Nat) (v50:AV) (b56:Nat) (z0v1:AV),(∀(Qgf:List Fm),out=Qgf->∀(T:TT) (σ tt:Sto) (e1v2:AV),T 1=.ptr b1 0/\T 2=.ptr b3 0/\T 3=.ptr b48 0/\T 4=i6 YA/\T 5=.ptr b56 0->Tau tt0 [] tt->Fx tt σ [(b56,⟨62,3,[i6 x29.id,e1v2,.Yd]⟩),(b48,⟨30,5,[v50,z0v1,i6 a0.scope,i6 a0.id,i6 a0.steps]⟩),(b3,⟨30,5,[.Yd,.Yd,i6 0,i6 0,i6 0]⟩),(b1,⟨30,5,[sf K2 a0.binds,sf Ze a0.macs,i6 a0.scope,i6 a0.id,i6 a0.steps]⟩)] [⟨e1v2,34,5,rws K0 Qgf⟩,⟨z0v1,62,3,rws Ze Vq⟩,⟨v50,53,3,rws K2 x11⟩]->Q (.ex 2) ⟨T,σ⟩)->True->∀(T:TT) (σ tt:Sto) (z1v2:AV),T 1=.ptr b1 0/\T 2=.ptr b3 0/\T 3=.ptr b48 0/\T 4=i6 YA/\T 5=.ptr b56 0/\T 6=i6 EN->Tau tt0 [] tt->Fx tt σ [(b56,⟨62,3,[i6 x29.id,z1v2,.Yd]⟩),(b48,⟨30,5,[v50,z0v1,i6 a0.scope,i6 a0.id,i6 a0.steps]⟩),(b3,⟨30,5,[.Yd,.Yd,i6 0,i6 0,i6 0]⟩),(b1,⟨30,5,[sf K2 a0.binds,sf Ze a0.macs,i6 a0.scope,i6 a0.id,i6 a0.steps]⟩)] [⟨z1v2,34,5,rws K0 LQ⟩,⟨z0v1,62,3,rws Ze Vq⟩,⟨v50,53,3,rws K2 x11⟩]->aLp K1 c Q ⟨T,σ⟩:=by
 intro a0 x11 Vq YA x29 LQ EN;revert LQ EN;refine Vg.partial_correctness a0 x11 Vq YA x29 _ ?_;intro Vg IH LQ EN out H c hc Q tt0 b1 b3 b48 v50 b56 z0v1 hE hR T σ tt z1v2 tT hX hF;obtain rfl:=lpe (rfl:Yg ZJ 1=some _) hc;refine Ye ?_;have q:=dum;obtain ⟨x37,f1,H⟩:=bil (g:=Ze) Mac.X6 H;refine go1 ?_;refine go ?_;refine cdp H (fun h H=>?_) (fun h H=>?_)
 ·refine go ?_;refine Yj E0 [.v,.v,.v,.v,.v,.v,.v,.v,.v,.v,.v,.v,.v,.x,.v,.z] (by kernel_rfl) ?_;obtain ⟨x49,f1,H⟩:=bil (g:=Ze) Mac.X6 H;obtain ⟨x53,f2,H⟩:=bil (g:=K0) Fm.X6 H;refine go2 ?_;refine bp H (Wg x53) fun x55 h H=>cv h ?_;refine go ?_;refine SL (g:=K0) hF 0 H (rdo (c:=true) (g:=K0) Fm.X6) fun x57 H v59 s60 hF=>?_;refine go ?_;refine st hF 0 (hF.cells 0 rfl) fun s61 hF=>?_;refine go ?_;exact IH  x57 (i64.wrap (EN+1)) _ H _ rfl Q tt0 b1 b3 b48 v50 b56 z0v1 hE hR _ _ _ v59 S hX hF
 ·refine go ?_;exact wq (hE _ (pur H).symm _ _ _ z1v2 S hX hF)
theorem CC:∀(a0:Xpn) (x11:List Bnd) (Vq:List Mac) (YA:Int) (x29:Mac) (MP:List Fm) (LR:List Rul) (EO:Int) out,Vh a0 x11 Vq YA x29 MP LR EO=some out->∀c,Yg ZJ 2=some c->∀(Q:QT) (tt0:Sto) (b1 b3 b48:Nat) (v50:AV) (b56:Nat) (e63v2 z0v1:AV),(∀(Qgh:List Rul),out=Qgh->∀(T:TT) (σ tt:Sto) (e2v3:AV),T 1=.ptr b1 0/\T 2=.ptr b3 0/\T 3=.ptr b48 0/\T 4=i6 YA/\T 5=.ptr b56 0->Tau tt0 [] tt->Fx tt σ [(b56,⟨62,3,[i6 x29.id,e63v2,e2v3]⟩),(b48,⟨30,5,[v50,z0v1,i6 a0.scope,i6 a0.id,i6 a0.steps]⟩),(b3,⟨30,5,[.Yd,.Yd,i6 0,i6 0,i6 0]⟩),(b1,⟨30,5,[sf K2 a0.binds,sf Ze a0.macs,i6 a0.scope,i6 a0.id,i6 a0.steps]⟩)] [⟨e2v3,87,10,rws K7 Qgh⟩,⟨e63v2,34,5,rws K0 MP⟩,⟨z0v1,62,3,rws Ze Vq⟩,⟨v50,53,3,rws K2 x11⟩]->Q (.ex 4) ⟨T,σ⟩)->True->∀(T:TT) (σ tt:Sto) (z2v3:AV),T 1=.ptr b1 0/\T 2=.ptr b3 0/\T 3=.ptr b48 0/\T 4=i6 YA/\T 5=.ptr b56 0/\T 7=i6 EO->Tau tt0 [] tt->Fx tt σ [(b56,⟨62,3,[i6 x29.id,e63v2,z2v3]⟩),(b48,⟨30,5,[v50,z0v1,i6 a0.scope,i6 a0.id,i6 a0.steps]⟩),(b3,⟨30,5,[.Yd,.Yd,i6 0,i6 0,i6 0]⟩),(b1,⟨30,5,[sf K2 a0.binds,sf Ze a0.macs,i6 a0.scope,i6 a0.id,i6 a0.steps]⟩)] [⟨z2v3,87,10,rws K7 LR⟩,⟨e63v2,34,5,rws K0 MP⟩,⟨z0v1,62,3,rws Ze Vq⟩,⟨v50,53,3,rws K2 x11⟩]->aLp K1 c Q ⟨T,σ⟩:=by
 intro a0 x11 Vq YA x29 MP LR EO;revert LR EO;refine Vh.partial_correctness a0 x11 Vq YA x29 MP _ ?_;intro Vh IH LR EO out H c hc Q tt0 b1 b3 b48 v50 b56 e63v2 z0v1 hE hR T σ tt z2v3 tT hX hF;obtain rfl:=lpe (rfl:Yg ZJ 2=some _) hc;refine Ye ?_;have q:=dum;obtain ⟨x63,f1,H⟩:=bil (g:=Ze) Mac.X6 H;refine go1 ?_;refine go ?_;refine cdp H (fun h H=>?_) (fun h H=>?_)
 ·obtain ⟨x73,f1,H⟩:=bil (g:=Ze) Mac.X6 H;obtain ⟨x77,f2,H⟩:=bil (g:=K7) Rul.X6 H;refine go2 ?_;refine Ya hF rfl fun b67 s68 hF=>?_;refine go ?_;refine st hF 0 rfl fun s69 hF=>?_;refine go ?_;refine Yj E0 [.v,.v,.v,.v,.v,.v,.v,.v,.v,.v,.x,.v,.z] (by kernel_rfl) ?_;refine go ?_;refine bp H (Wg x77.pat) fun x83 h H=>cv h ?_;refine go ?_;refine bp H (Wg x77.tpl) fun x86 h H=>cv h ?_;refine go ?_;refine SL (g:=K7) hF 0 H (rdo (c:=true) (g:=K7) Rul.X6) fun x89 H v70 s71 hF=>?_;refine go ?_;refine st hF 1 (hF.cells 0 rfl) fun s72 hF=>?_;refine go ?_;exact IH  x89 (i64.wrap (EO+1)) _ H _ rfl Q tt0 b1 b3 b48 v50 b56 e63v2 z0v1 hE hR _ _ _ v70 S hX (hF.drop 1 0)
 ·refine go ?_;exact wq (hE _ (pur H).symm _ _ _ z2v3 S hX hF)
theorem CA:∀(a0:Xpn) (x11:List Bnd) (Vq:List Mac) (YA:Int) out,Vf a0 x11 Vq YA=some out->∀c,Yg ZJ 0=some c->∀(Q:QT) (tt0:Sto) (b1 b3 b48:Nat) (v50:AV),(∀(FY:List Mac),out=FY->∀(T:TT) (σ tt:Sto) (e0v1:AV),T 2=.ptr b3 0/\T 3=.ptr b48 0->Tau tt0 [] tt->Fx tt σ [(b48,⟨30,5,[v50,e0v1,i6 a0.scope,i6 a0.id,i6 a0.steps]⟩),(b3,⟨30,5,[.Yd,.Yd,i6 0,i6 0,i6 0]⟩),(b1,⟨30,5,[sf K2 a0.binds,sf Ze a0.macs,i6 a0.scope,i6 a0.id,i6 a0.steps]⟩)] [⟨e0v1,62,3,rws Ze FY⟩,⟨v50,53,3,rws K2 x11⟩]->Q (.ex 0) ⟨T,σ⟩)->True->∀(T:TT) (σ tt:Sto) (z0v1:AV),T 1=.ptr b1 0/\T 2=.ptr b3 0/\T 3=.ptr b48 0/\T 4=i6 YA->Tau tt0 [] tt->Fx tt σ [(b48,⟨30,5,[v50,z0v1,i6 a0.scope,i6 a0.id,i6 a0.steps]⟩),(b3,⟨30,5,[.Yd,.Yd,i6 0,i6 0,i6 0]⟩),(b1,⟨30,5,[sf K2 a0.binds,sf Ze a0.macs,i6 a0.scope,i6 a0.id,i6 a0.steps]⟩)] [⟨z0v1,62,3,rws Ze Vq⟩,⟨v50,53,3,rws K2 x11⟩]->aLp K1 c Q ⟨T,σ⟩:=by
 intro a0 x11 Vq YA;revert Vq YA;refine Vf.partial_correctness a0 x11 _ ?_;intro Vf IH Vq YA out H c hc Q tt0 b1 b3 b48 v50 hE hR T σ tt z0v1 tT hX hF;refine lpy hc rfl fun q=>go ?_;refine cdp H (fun h H=>?_) (fun h H=>?_)
 ·obtain ⟨x29,f1,H⟩:=bil (g:=Ze) Mac.X6 H;refine go1 ?_;refine Ya hF rfl fun b56 s57 hF=>?_;refine go ?_;refine st hF 0 rfl fun s58 hF=>?_;have hF:=hF.nil 34 5;refine go ?_;obtain ⟨o62,ho62,H⟩:=bnd H;refine CB a0 x11 Vq YA x29 [] 0 _ ho62 _ rfl _ tt0 b1 b3 b48 v50 b56 z0v1 ?_ ?_ _ _ _ .Yd S hX hF
  ·intro MP he T64 s65 t66 e63v2 tT hX hF;have he:=he.symm;subst he;have hF:=hF.nil 87 10;refine go ?_;obtain ⟨o73,ho73,H⟩:=bnd H;refine CC a0 x11 Vq YA x29 MP [] 0 _ ho73 _ rfl _ tt0 b1 b3 b48 v50 b56 e63v2 z0v1 ?_ ?_ _ _ _ .Yd S hX hF
   ·intro Qtd he T75 s76 t77 e74v3 tT hX hF;have he:=he.symm;subst he;refine go ?_;refine Qtc (g:=Ze) (rows:=[[i6 x29.id,e63v2,e74v3]]) (mid:=[[i6 x29.id,sf K0 MP,e74v3]]) hF 2 1 1 0 0 H Mac.X6 true rfl (by simp only [Qr,K9,KK,Kj,QU];exact (.wk (.refl _) id (.own (.wk (.refl _) id .nil)))) (by simp only [sf,i6,zB,Vn,VQ,cI,cU,cS,cL,Mac.Yb,Zp,Zq,Fm.num,Fm.sc,Zr,Mac.id,Mac.lits,Mac.rules,Qr,K9,KK,Kj,QU];exact (.wk (.refl _) id (.wk (.refl _) id (.own .nil)))) fun x95 H v78 s79 hF=>?_;refine go ?_;refine st hF 1 (hF.cells 0 rfl) fun s80 hF=>?_;refine go ?_;exact IH  x95 (i64.wrap (YA+1)) _ H _ rfl Q tt0 b1 b3 b48 v50 hE hR _ _ _ v78 S hX (hF.drop 1 0)
   ·trivial
  ·trivial
 ·refine go ?_;exact wq (hE _ (pur H).symm _ _ _ z0v1 S hX hF)
theorem D6:∀(a0:Xpn) r,GV a0=some r->∀   (σ:Sto),Pre σ [] []->Ctr K1 74 [.agg (Za a0)] σ (fun r' ss'=>∃(tt':Sto) (Ql0 Ql1:AV),r'=.agg [Ql0,Ql1,i6 r.scope,i6 r.id,i6 r.steps]/\Tau (strip σ []) [] tt'/\Fx tt' ss' [] [⟨Ql0,53,3,rws K2 r.binds⟩,⟨Ql1,62,3,rws Ze r.macs⟩]):=by
 intro a0 r H;intro   σ hP;unfold GV at H;refine hdg mixed Tryz.func74 (rs:=[.cell 2 30]) fun q tT=>?_;obtain ⟨hF,hX⟩:=hP.start;generalize strip σ []=tt0 at hF hX ⊢;refine go ?_;refine Ya hF rfl fun b1 ss2 hF=>?_;refine go ?_;refine Ya hF rfl fun b3 ss4 hF=>?_;refine go ?_;obtain ⟨E,hEq⟩:∃E,E=EE ss4 []:=⟨_,rfl⟩
 have n5:¬E b3:=by rw [hEq];exact K8 (hF.at 0 rfl) (by simp)
 have n6:¬E b1:=by rw [hEq];exact K8 (hF.at 1 rfl) (by simp)
 refine RZ E [.v,.v,.v,.v,.v,.v,.v,.v] [0,1,3,4,5,6,7,8] 2 10 [.v] [9] [.z] [11] (by kernel_rfl) ?_;have z:=K5 (X7 (hF.at 0 rfl) n5) (X7 (hF.at 1 rfl) n6);refine gh ?_;refine ⟨?_,?_⟩
 ·have z:=K5 (X7 (hF.at 0 rfl) n5) (X7 (hF.at 1 rfl) n6);refine gh ?_;obtain ⟨x11,hx11,H⟩:=bnd H;refine cx (Bn a0.binds _ hx11   _ (pre 0 0 0 hF hX)) ?_;rintro v7 s8 ⟨t9,_,rfl,hT,hG⟩
  refine W3 (Zb hT hG (by intro p hp;simp only [Kl,KG,or_false] at hp<;>first | (rcases hp with rfl<;>(rw [hEq];first | (refine Zf ?_;simp;done) | exact Zo rfl))| cases hp)) fun kp11=>?_
  obtain ⟨t10,hX,hF⟩:=aft 0 0 0 hF hX hT hG;have z:=K5 (X7 (hF.at 0 rfl) n5) (X7 (hF.at 1 rfl) n6);refine gh ?_;refine AO hF rfl fun b12 s13 nw14 mo15 hF=>?_;have z:=K5 (X7 (hF.at 1 rfl) n5) (X7 (hF.at 2 rfl) n6);refine gh ?_;refine st hF 0 rfl fun s16 hF=>?_;have z:=K5 (X7 (hF.at 1 rfl) n5) (X7 (hF.at 2 rfl) n6);refine gh ?_;have hF:=hF.nil 62 3;refine go ?_;obtain ⟨o42,ho42,H⟩:=bnd H;refine Db a0 x11 [] 0 _ ho42 _ rfl _ tt0 b1 b3 v7 b12 ?_ ?_ _ _ _ .Yd S hX hF
  ·intro Qll he T44 s45 t46 e43v1 tT hX hF;have he:=he.symm;subst he;refine go ?_;refine st hF 1 rfl fun s47 hF=>?_;refine go ?_;have e:=pur H;subst e;exact rg _ ⟨_,_,_,rfl,hX,hF.pick [] [1,0] (by decide) (by decide)⟩
  ·trivial
 ·have z:=K5 (X7 (hF.at 0 rfl) n5) (X7 (hF.at 1 rfl) n6);refine gh ?_;refine HH hF rfl fun b48 s49 hF=>?_;have z:=K5 (X7 (hF.at 1 rfl) n5) (X7 (hF.at 2 rfl) n6);refine gh ?_;obtain ⟨x11,hx11,H⟩:=bnd H;refine cx (Bn a0.binds _ hx11   _ (pre 0 0 0 hF hX)) ?_;rintro v50 s51 ⟨t52,_,rfl,hT,hG⟩
  refine W3 (Zb hT hG (by intro p hp;simp only [Kl,KG,or_false] at hp<;>first | (rcases hp with rfl<;>(rw [hEq];first | (refine Zf ?_;simp;done) | exact Zo rfl))| cases hp)) fun kp54=>?_
  obtain ⟨t53,hX,hF⟩:=aft 0 0 0 hF hX hT hG;have z:=K5 (X7 (hF.at 1 rfl) n5) (X7 (hF.at 2 rfl) n6);refine gh ?_;refine st hF 0 rfl fun s55 hF=>?_;have z:=K5 (X7 (hF.at 1 rfl) n5) (X7 (hF.at 2 rfl) n6);refine gh ?_;have hF:=hF.nil 62 3;refine go ?_;obtain ⟨o81,ho81,H⟩:=bnd H;refine CA a0 x11 [] 0 _ ho81 _ rfl _ tt0 b1 b3 b48 v50 ?_ ?_ _ _ _ .Yd S hX hF
  ·intro Qte he T83 s84 t85 e82v1 tT hX hF;have he:=he.symm;subst he;refine go ?_;refine st hF 1 rfl fun s86 hF=>?_;refine go ?_;have e:=pur H;subst e;exact rg _ ⟨_,_,_,rfl,hX,hF.pick [] [1,0] (by decide) (by decide)⟩
  ·trivial
theorem Cd:∀(a0:Fm) (a1:Int) r,WK a0 a1=some r->∀   (σ:Sto),Pre σ [] []->Ctr K1 47 [.agg (K0 a0),i6 a1] σ (fun r' ss'=>∃(tt':Sto) (Ql0 Ql1:AV),r'=.tup [.agg [Ql0,Ql1,i6 r.1.scope,i6 r.1.id,i6 r.1.steps],i6 r.2]/\Tau (strip σ []) [] tt'/\Fx tt' ss' [] [⟨Ql0,53,3,rws K2 r.1.binds⟩,⟨Ql1,62,3,rws Ze r.1.macs⟩]):=by
 intro a0 a1 r H;intro   σ hP;unfold WK at H;refine hdg mixed Tryz.func47 (rs:=[.cell 4 30,.tmp 5]) fun q tT=>?_;obtain ⟨hF,hX⟩:=hP.start;generalize strip σ []=tt0 at hF hX ⊢;refine go ?_;refine Ya hF rfl fun b1 ss2 hF=>?_;refine go ?_;refine Ya hF rfl fun b3 ss4 hF=>?_;refine go ?_;refine bp H (SC a0 a1) fun x12 h H=>cl h ?_;refine go ?_;refine Ya hF rfl fun b5 ss6 hF=>?_;refine go ?_;refine Ya hF rfl fun b7 s8 hF=>?_;refine go ?_;refine st hF 1 rfl fun s9 hF=>?_;refine go ?_;refine st hF 0 rfl fun s10 hF=>?_;refine go ?_;refine cdn H (fun h H=>?_) (fun h H=>?_)
 ·refine go ?_;refine st hF 2 rfl fun s11 hF=>?_;have hF:=hF.nil 53 3;have hF:=hF.nil 62 3;refine go ?_;have e:=pur H;subst e;exact rg _ ⟨_,_,_,rfl,hX,hF.pick [] [1,0] (by decide) (by decide)⟩
 ·refine go ?_;obtain ⟨x21,hx21,H⟩:=bnd H;refine cx (D6 x12.1 _ hx21   _ (pre 0 0 0 hF hX)) ?_;rintro _ s14 ⟨t15,v12,v13,rfl,hT,hG⟩;obtain ⟨t16,hX,hF⟩:=aft 0 0 0 hF hX hT hG;refine go ?_;refine st hF 2 rfl fun s17 hF=>?_;refine go ?_;have e:=pur H;subst e;exact rg _ ⟨_,_,_,rfl,hX,hF.pick [] [0,1] (by decide) (by decide)⟩
theorem BE:∀(x5:List ByteArray) (X9:List Bnd) (YF:Int) out,Y9 x5 X9 YF=some out->∀c,Yg Tryz.f12 0=some c->∀(Q:QT) (tt0:Sto) (b1 b3:Nat),(∀(Vz:List Bnd),out=Vz->∀(T:TT) (σ tt:Sto) (e0v0:AV),T 0=.ptr b1 0/\T 1=.ptr b3 0->Tau tt0 [] tt->Fx tt σ [(b3,⟨30,5,[e0v0,.Yd,i6 0,i6 10,i6 0]⟩),(b1,⟨30,5,[.Yd,.Yd,i6 0,i6 0,i6 0]⟩)] [⟨e0v0,53,3,rws K2 Vz⟩]->Q (.ex 0) ⟨T,σ⟩)->True->∀(T:TT) (σ tt:Sto) (z0v0:AV),T 0=.ptr b1 0/\T 1=.ptr b3 0/\T 2=sf cS x5/\T 3=i6 YF->Tau tt0 [] tt->Fx tt σ [(b3,⟨30,5,[z0v0,.Yd,i6 0,i6 10,i6 0]⟩),(b1,⟨30,5,[.Yd,.Yd,i6 0,i6 0,i6 0]⟩)] [⟨z0v0,53,3,rws K2 X9⟩]->aLp K1 c Q ⟨T,σ⟩:=by
 intro x5 X9 YF;revert X9 YF;refine Y9.partial_correctness x5 _ ?_;intro Y9 IH X9 YF out H c hc Q tt0 b1 b3 hE hR T σ tt z0v0 tT hX hF;refine lpy hc rfl fun q=>go ?_;refine cdp H (fun h H=>?_) (fun h H=>?_)
 ·refine go ?_;refine Yj E0 [.v,.v,.v,.v,.v,.v,.v,.v,.v,.x,.v,.z] (by kernel_rfl) ?_;obtain ⟨x16,f1,H⟩:=bil (g:=cS) (fun _=>rfl) H;refine go1 ?_;refine Qrt (g:=K2) (rows:=[[.str x16,.Yd,i6 YF]]) hF 0 H Bnd.X6 true rfl (by simp only [sf,i6,zB,Vn,VQ,cI,cU,cS,cL,Bnd.Yb,Zp,Zq,Fm.num,Fm.sc,Zr,Hit.name,Hit.depth,Hit.one,Hit.many,Cor.kind,Cor.id,Cor.name,Cor.num,Cor.ids,Cor.data,Cor.kids,Val.kind,Val.num,Val.name,Val.items,Val.fn,Val.env,Slt.id,Slt.val,Qr,K9,KK,Kj,QU];exact (.cons (.refl _) id (.cons .Yd (fun _=>rfl) (.cons (.refl _) id .nil)))) fun x21 H v6 s7 hF=>?_;refine go ?_;refine st hF 0 (hF.cells 0 rfl) fun s8 hF=>?_;refine go ?_;exact IH  x21 (i64.wrap (YF+1)) _ H _ rfl Q tt0 b1 b3 hE hR _ _ _ v6 S hX hF
 ·refine go ?_;exact wq (hE _ (pur H).symm _ _ _ z0v0 S hX hF)
theorem Ce:∀  r,WN  = some r->∀   (σ:Sto),Pre σ [] []->Ctr K1 12 [] σ (fun r' ss'=>∃(tt':Sto) (Ql0 Ql1:AV),r'=.agg [Ql0,Ql1,i6 r.scope,i6 r.id,i6 r.steps]/\Tau (strip σ []) [] tt'/\Fx tt' ss' [] [⟨Ql0,53,3,rws K2 r.binds⟩,⟨Ql1,62,3,rws Ze r.macs⟩]):=by
 intro  r H;intro   σ hP;unfold WN at H;refine hdg mixed Tryz.func12 (rs:=[.cell 0 30]) fun q tT=>?_;obtain ⟨hF,hX⟩:=hP.start;generalize strip σ []=tt0 at hF hX ⊢;refine go ?_;refine Ya hF rfl fun b1 ss2 hF=>?_;refine go ?_;refine Ya hF rfl fun b3 ss4 hF=>?_;refine go ?_;refine st hF 0 rfl fun ss5 hF=>?_;refine go ?_;refine bp H (EK ) fun x5 h H=>cl h ?_;have hF:=hF.nil 53 3;refine go ?_;obtain ⟨o9,ho9,H⟩:=bnd H;refine BE x5 [] 1 _ ho9 _ rfl _ tt0 b1 b3 ?_ ?_ _ _ _ .Yd S hX hF
 ·intro Ee he T11 s12 t13 e10v0 tT hX hF;have he:=he.symm;subst he;refine go ?_;refine st hF 1 rfl fun s14 hF=>?_;have hF:=hF.nil 62 3;refine go ?_;have e:=pur H;subst e;exact rg _ ⟨_,_,_,rfl,hX,hF.pick [] [1,0] (by decide) (by decide)⟩
 ·trivial
abbrev bTy:Tg->TypeId | .int=>3 | .bnd=>53 | _=>0
abbrev UO (c:AV):Prop:=c.Y8=true
theorem Qat {n:ByteArray} {sc:List Int} {id:Int} {v:AV} (hv:Fr v):LvR bTy UO Tg.bnd.shp (K2 ⟨n,sc,id⟩) [.str n,v,i6 id] [⟨v,3,1,rws cI sc⟩]:=.flat rfl (.sl (L0:=[]) (L:=[]) hv (D8.ints (fun _=>rfl) sc) (.flat rfl .nil))
theorem LZ {b:Bnd} {l:List AV} {L:List H2} (h:LvR bTy UO Tg.bnd.shp b.cells l L):∃v,Fr v/\l=[.str b.name,v,i6 b.id]/\L=[⟨v,3,1,rws cI b.sc⟩]:=by
 have h:LvR bTy UO [none,some .int,none] [.str b.name,sf cI b.sc,i6 b.id] l L:=h
 cases h with
 | flat _ u =>
  cases u with
  | sl hv hi u =>
   obtain ⟨rfl,rfl⟩:=hi.Qjr
   cases u with
   | flat _ u=>cases u;exact ⟨_,hv,rfl,rfl⟩
theorem Px:∀(a0 X9:List Bnd) (YA:Int) out,VE a0 X9 YA=some out->∀c,Yg Tryz.f75 0=some c->∀(Q:QT) (tt:Sto),(∀(T:TT) (σ:Sto) (v:AV) (ls:List (List AV)) (L:List H2),T 3=v->D8 bTy UO .bnd (rws K2 out) ls L->Fx tt σ [] (⟨v,53,3,ls⟩ :: L)->Q (.ex 0) ⟨T,σ⟩)->∀(T:TT) (σ:Sto) (v:AV) (ls:List (List AV)) (L:List H2),T 0=sf K2 a0/\T 3=v/\T 4=i6 YA->D8 bTy UO .bnd (rws K2 X9) ls L->Fx tt σ [] (⟨v,53,3,ls⟩ :: L)->aLp K1 c Q ⟨T,σ⟩:=by
 intro a0 X9 YA;revert X9 YA;refine VE.partial_correctness a0 _ ?_;intro VE IH X9 YA out H c hc Q tt hE T σ v ls L tT hL hF;refine lpx tt hc rfl fun q hX=>go ?_;refine cdp H (fun h H=>?_) (fun h H=>?_)
 ·obtain ⟨x15,f1,H⟩:=bil (g:=K2) Bnd.X6 H;refine go1 ?_;refine Ya hF rfl fun b1 ss2 hF=>?_;refine go ?_;refine st hF 0 rfl fun ss3 hF=>?_;have hF:=hF.lit 3 1 (rws cI []) rfl;refine go ?_;obtain ⟨x20,hx20,H⟩:=bnd H;refine Qlo hF 0 (g:=cI) (xs:=[]) (ys:=x15.sc) rfl (by decide) (by decide) (RdL.of (c:=false) (fun _=>rfl) (by first | rfl | simp only [Vn,VQ,cI,cU,cS,cL])) hx20 fun v1 ss4 hF=>?_;have hfr:Fr v1:=Fr.of hF (KF ..) (by show (1:Nat)≠17;decide);refine go ?_;refine st hF 0 (hF.cells 0 rfl) fun ss5 hF=>?_;have hF:=hF.perm (List.Perm.swap _ _ _);refine go ?_;obtain ⟨x25,hx25,H⟩:=bnd H;obtain ⟨rfl,hb⟩:=Bg hx25;have hlen:=hL.len.1;rw [Jl] at hlen;refine Qgp (by_:=48) hF 0 (ys:=[[.str x15.name,v1,i6 x15.id]]) rfl (by decide) (by decide) (RdL.sl _ _ _ _ (fun r hr=>by rw [ZI.1 hr];rfl)) (by simpa [hlen] using hb) fun v5 ss6 hF=>?_;refine go ?_;have hrow:=Qat (n:=x15.name) (sc:=x20) (id:=x15.id) hfr;have hL2:=hL.snoc hrow;have hF0:Fx tt ss6 [] (⟨v5,53,3,ls++[[.str x15.name,v1,i6 x15.id]]⟩ :: (L++[⟨v1,3,1,rws cI x20⟩])):=(hF.drop 1 0).perm (List.Perm.cons _ (List.perm_append_comm (l₁:=[_])));exact IH (X9++[⟨x15.name,x20,x15.id⟩]) (i64.wrap (YA+1)) _ H _ rfl Q tt hE _ _ v5 _ _ S (by rw [Bi];exact hL2) hF0
 ·refine go ?_;obtain rfl:=pur H;exact wq (hE _ _ v _ _ S hL hF)
theorem UP:∀(a0:List Bnd) r,JB a0=some r->∀(σ:Sto),Pre σ [] []->Ctr K1 75 [sf K2 a0] σ (fun r' ss'=>∃(tt':Sto) (v:AV) (ls:List (List AV)) (L:List H2),r'=v/\D8 bTy UO .bnd (rws K2 r) ls L/\Tau (strip σ []) [] tt'/\Fx tt' ss' [] (⟨v,53,3,ls⟩ :: L)):=by
 intro a0 r H;intro σ hP;unfold JB at H;refine hdg mixed Tryz.func75 (rs:=[.tmp 2]) fun q tT=>?_;obtain ⟨hF,hX⟩:=hP.start;generalize strip σ []=tt0 at hF hX ⊢;have hF:=hF.lit 53 3 [] rfl;refine go ?_;obtain ⟨o7,ho7,H⟩:=bnd H;refine Px a0 [] 0 _ ho7 _ rfl _ tt0 ?_ _ _ (.sl true []) [] [] S .nil hF;intro T9 s10 v ls L tT hL hF;refine go ?_;have e:=pur H;subst e;exact rg _ ⟨_,_,_,_,rfl,hL,hX,hF⟩
theorem EC:∀(a1:List Bnd) (c0:Rdr) r,AF a1 c0=some r->∀(e0:Nat) (σ:Sto),Pre σ [(e0,⟨81,2,[sf cU c0.b,i6 c0.p]⟩)] []->Ctr K1 48 [.ptr e0 0,sf K2 a1] σ (fun r' ss'=>∃(tt':Sto),r'=sf K2 r.1/\Tau (strip σ []) [(e0,⟨81,2,[sf cU r.2.b,i6 r.2.p]⟩)] tt'/\Fx tt' ss' [] []):=by
 intro a1 c0 r H;intro e0 σ hP;unfold AF at H;refine hdg mixed Tryz.func48 (rs:=[.tmp 4]) fun q tT=>?_;obtain ⟨hF,hX⟩:=hP.start;generalize strip σ []=tt0 at hF hX ⊢;refine go ?_;obtain ⟨out,hout,H⟩:=bnd H;refine cx (UP a1 _ hout _ (pre 0 0 0 hF hX)) ?_;rintro v ss1 ⟨tt1,_,ls,L,rfl,hL,hT,hG⟩;obtain ⟨tt2,hX,hF⟩:=aft 0 0 0 hF hX hT hG
 have hF:Fx tt2 ss1 [] (⟨v,53,3,ls⟩ :: L):=by simpa using hF
 have hlen:=hL.len.1;rw [Jl] at hlen;have hwk:∀{tt σ:Sto} {v:AV} {ls:List (List AV)} {L:List H2} {zs:List Bnd},D8 bTy UO .bnd (rws K2 zs) ls L->Fx tt σ [] (⟨v,53,3,ls⟩ :: L)->Wk σ (packed [v]) tt (sf K2 zs):=fun {tt σ v ls L zs} h hF=>h.wk (e:=53) hF.sub (fun _ h=>h) (Ql3.of hF fun m hm=>hm);refine go ?_;rw [← hlen] at H;refine cdp H (fun h H=>?_) (fun h H=>?_)
 ·refine go ?_;have e:=pur H;subst e;exact rg _ ⟨_,rfl,hX,K6 _⟩ (hw:=hwk hL hF)
 refine go ?_;obtain ⟨x16,hx16,H⟩:=bnd H;refine cx (Yw (ls.length:Int) c0 _ hx16 e0 _ (pre 0 1 0 hF hX)) ?_;rintro _ ss2 ⟨tt3,rfl,hT,hG⟩;obtain ⟨tt4,hX,hF⟩:=aft 0 1 0 hF hX hT hG;refine go ?_;obtain ⟨x18,hx18,H⟩:=bnd H;refine cx (Yw 20 x16.2 _ hx18 e0 _ (pre 0 1 0 hF hX)) ?_;rintro _ ss3 ⟨tt5,rfl,hT,hG⟩;obtain ⟨t6,hX,hF⟩:=aft 0 1 0 hF hX hT hG
 have hF:Fx t6 ss3 [] (⟨v,53,3,ls⟩ :: L):=by simpa using hF
 refine go ?_;refine cdp H (fun h H=>?_) (fun h H=>?_)
 ·refine go ?_;obtain ⟨x25,hx25,H⟩:=bnd H;refine cx (Y4 [0,1000,5] x18.2 _ hx25 e0 _ (pre 0 1 0 hF hX)) ?_;rintro _ ss4 ⟨t7,rfl,hT,hG⟩;obtain ⟨t8,hX,hF⟩:=aft 0 1 0 hF hX hT hG
  have hF:Fx t8 ss4 [] (⟨v,53,3,ls⟩ :: L):=by simpa using hF
  obtain ⟨b,hb,H⟩:=bnd H;obtain ⟨i0,i1,i2⟩:=Fc hb;obtain ⟨i,hi⟩:∃i:Nat,x16.1=(i:Int):=⟨x16.1.toNat,by omega⟩
  have hp:(rws K2 out)[i]?=some b.cells:=by
   rw [hi,Kn] at i2;simp [rws,i2]
  obtain ⟨lrow,A,B,C,q1,q2,q3,q4⟩:=hL.at i _ hp;obtain ⟨vs,hfr,rfl,rfl⟩:=LZ q3;obtain ⟨b1,cap,hv⟩:=hF.Qss 0 rfl (show i < ls.length by omega);subst hv;have hai:=fun σ=>RM (σ:=σ) (e:=53) (sz:=3) (by_:=48) (b:=b1) (n:=ls.length) (c:=cap) (k:=.i64) (i:=i) (by omega);rw [hi,Kn] at H
  try simp only [hi]
  try simp only [go_sem,↓reduceIte,ZC,ZE,ZF,ZD,ZG,ZH,Kn,q,tT,hF.f,hF.m,hF.x hX,hai]
  refine Qji hF 0 (o:=2) (i:=i) [.str b.name,vs,i6 x25.1] rfl rfl q1 rfl rfl (by decide) (by simp [Hq]) rfl fun ss5 hF=>?_;refine go ?_;have e:=pur H;subst e;have hL2:=q4 _ _ _ (Qat (n:=b.name) (sc:=b.sc) (id:=x25.1) hfr)
  have hset:rws K2 (out.set i ⟨b.name,b.sc,x25.1⟩)=(rws K2 out).set i (K2 ⟨b.name,b.sc,x25.1⟩):=by simp [rws,KH]
  rw [← hset] at hL2;rw [q2] at hF;exact rg _ ⟨_,rfl,hX,K6 _⟩ (hw:=hwk hL2 hF)
 refine go ?_;refine cdp H (fun h H=>?_) (fun h H=>?_)
 ·refine go ?_;obtain ⟨x39,hx39,H⟩:=bnd H;obtain ⟨b,hb,H⟩:=bnd H;obtain ⟨i0,i1,i2⟩:=Fc hb;obtain ⟨i,hi⟩:∃i:Nat,x16.1=(i:Int):=⟨x16.1.toNat,by omega⟩
  have hp:(rws K2 out)[i]?=some b.cells:=by
   rw [hi,Kn] at i2;simp [rws,i2]
  obtain ⟨lrow,A,B,C,q1,q2,q3,q4⟩:=hL.at i _ hp;obtain ⟨vs,hfr,rfl,rfl⟩:=LZ q3;obtain ⟨b1,cap,hv⟩:=hF.Qss 0 rfl (show i < ls.length by omega);subst hv;have hai:=fun σ=>RM (σ:=σ) (e:=53) (sz:=3) (by_:=48) (b:=b1) (n:=ls.length) (c:=cap) (k:=.i64) (i:=i) (by omega);rw [hi,Kn] at H;obtain ⟨sc,hsc,H⟩:=bnd H;rw [q2] at hF;obtain ⟨E,hEq⟩:∃E,E=EE ss3 [e0]:=⟨_,rfl⟩;refine Qjd E [.v,.v,.v,.v,.v,.v,.v,.v] [0,1,2,3,4,5,7,8] .x 9 .x 6 [.v] [10] [.x,.v,.v,.x] [11,12,13,14] (by kernel_rfl) ?_
  try simp only [hi]
  try simp only [go_sem,↓reduceIte,ZC,ZE,ZF,ZD,ZG,ZH,Kn,q,tT,hF.f,hF.m,hF.x hX,hai]
  refine ⟨?_,?_⟩
  ·try simp only [go_sem,↓reduceIte,ZC,ZE,ZF,ZD,ZG,ZH,Kn,q,tT,hF.f,hF.m,hF.x hX,hai]
   refine cx (Y4 [0,1,98] x18.2 _ hx39 e0 _ (pre 0 1 0 hF hX)) ?_;rintro _ ss4 ⟨t7,rfl,hT,hG⟩;refine W3 (Zb hT hG (by intro p hp;simp only [Kl,KG,or_false] at hp;rcases hp with rfl;rw [hEq];exact Zf (by simp))) fun _=>?_;obtain ⟨t8,hX,hF⟩:=aft 0 1 0 hF hX hT hG
   have hF:Fx t8 ss4 [] (⟨.ref b1 ls.length cap,53,3,ls⟩ :: (A++([⟨vs,3,1,rws cI b.sc⟩]++C))):=by simpa using hF
   have hld:=NW (ag:=false) (k:=1) (o:=1) (v:=vs) hF 0 (show i * 3+1=i * 3+1 from rfl) rfl q1 (by decide) (by have:=hfr.cell;cases hfr<;>rfl)
   try simp only [go_sem,↓reduceIte,ZC,ZE,ZF,ZD,ZG,ZH,Kn,q,tT,hF.f,hF.m,hF.x hX,hai,hld,Qu]
   have pm:∀(o m:H2),(o :: (A++([m]++C))).Perm (m :: o :: (A++C)):=fun o m=>(List.Perm.cons o (List.perm_middle (l₁:=A) (l₂:=C) (a:=m))).trans (List.Perm.swap _ _ _);have hF:=hF.perm (pm _ _);obtain ⟨rfl,hb2⟩:=Bg hsc;refine Qa8 (by_:=8) hF 0 (ys:=[[i6 x39.1]]) rfl (by decide) (by decide) (RdL.sl _ _ _ _ (fun r hr=>by rw [ZI.1 hr];rfl)) (by simpa [rws] using hb2) fun v9 s10 hF=>?_;have hfr9:Fr v9:=Fr.of hF (KF ..) (by show (1:Nat)≠17;decide)
   have hap:rws cI b.sc++[[i6 x39.1]]=rws cI (b.sc++[x39.1]):=by rw [Bi];rfl
   have hF:Fx t8 s10 [] (⟨v9,3,1,rws cI (b.sc++[x39.1])⟩ :: ⟨.ref b1 ls.length cap,53,3,ls⟩ :: (A++C)):=by rw [← hap];exact hF
   try simp only [go_sem,↓reduceIte,ZC,ZE,ZF,ZD,ZG,ZH,Kn,q,tT,hF.f,hF.m,hF.x hX,hai]
   refine To hF 1 (o:=1) (i:=i) [.str b.name,v9,i6 b.id] rfl rfl q1 (CE hfr9.cell) rfl (by decide) (by simp [Hq]) rfl fun ss5 hF=>?_;have hF:Fx t8 ss5 [] (⟨v9,3,1,rws cI (b.sc++[x39.1])⟩ :: ⟨.ref b1 ls.length cap,53,3,ls.set i [.str b.name,v9,i6 b.id]⟩ :: (A++C)):=hF;have hF:=hF.perm (pm _ _).symm;refine go ?_;have e:=pur H;subst e;have hL2:=q4 _ _ _ (Qat (n:=b.name) (sc:=b.sc++[x39.1]) (id:=b.id) hfr9)
   have hset:rws K2 (out.set i ⟨b.name,b.sc++[x39.1],b.id⟩)=(rws K2 out).set i (K2 ⟨b.name,b.sc++[x39.1],b.id⟩):=by simp [rws,KH]
   rw [← hset] at hL2;exact rg _ ⟨_,rfl,hX,K6 _⟩ (hw:=hwk hL2 hF)
  ·have hld:=NW (ag:=false) (k:=1) (o:=1) (v:=vs) hF 0 (show i * 3+1=i * 3+1 from rfl) rfl q1 (by decide) (by have:=hfr.cell;cases hfr<;>rfl)
   try simp only [go_sem,↓reduceIte,ZC,ZE,ZF,ZD,ZG,ZH,Kn,q,tT,hF.f,hF.m,hF.x hX,hai,hld,Qu]
   refine cx (Y4 [0,1,98] x18.2 _ hx39 e0 _ (pre 0 1 0 hF hX)) ?_;rintro _ ss4 ⟨t7,rfl,hT,hG⟩;refine W3 (Zb hT hG (by intro p hp;simp only [Kl,KG,or_false] at hp;rcases hp with rfl;rw [hEq];exact Zf (by simp))) fun _=>?_;obtain ⟨t8,hX,hF⟩:=aft 0 1 0 hF hX hT hG
   have hF:Fx t8 ss4 [] (⟨.ref b1 ls.length cap,53,3,ls⟩ :: (A++([⟨vs,3,1,rws cI b.sc⟩]++C))):=by simpa using hF
   try simp only [go_sem,↓reduceIte,ZC,ZE,ZF,ZD,ZG,ZH,Kn,q,tT,hF.f,hF.m,hF.x hX,hai]
   have pm:∀(o m:H2),(o :: (A++([m]++C))).Perm (m :: o :: (A++C)):=fun o m=>(List.Perm.cons o (List.perm_middle (l₁:=A) (l₂:=C) (a:=m))).trans (List.Perm.swap _ _ _);have hF:=hF.perm (pm _ _);obtain ⟨rfl,hb2⟩:=Bg hsc;refine Qa8 (by_:=8) hF 0 (ys:=[[i6 x39.1]]) rfl (by decide) (by decide) (RdL.sl _ _ _ _ (fun r hr=>by rw [ZI.1 hr];rfl)) (by simpa [rws] using hb2) fun v9 s10 hF=>?_;have hfr9:Fr v9:=Fr.of hF (KF ..) (by show (1:Nat)≠17;decide)
   have hap:rws cI b.sc++[[i6 x39.1]]=rws cI (b.sc++[x39.1]):=by rw [Bi];rfl
   have hF:Fx t8 s10 [] (⟨v9,3,1,rws cI (b.sc++[x39.1])⟩ :: ⟨.ref b1 ls.length cap,53,3,ls⟩ :: (A++C)):=by rw [← hap];exact hF
   try simp only [go_sem,↓reduceIte,ZC,ZE,ZF,ZD,ZG,ZH,Kn,q,tT,hF.f,hF.m,hF.x hX,hai]
   refine To hF 1 (o:=1) (i:=i) [.str b.name,v9,i6 b.id] rfl rfl q1 (CE hfr9.cell) rfl (by decide) (by simp [Hq]) rfl fun ss5 hF=>?_;have hF:Fx t8 ss5 [] (⟨v9,3,1,rws cI (b.sc++[x39.1])⟩ :: ⟨.ref b1 ls.length cap,53,3,ls.set i [.str b.name,v9,i6 b.id]⟩ :: (A++C)):=hF;have hF:=hF.perm (pm _ _).symm;refine go ?_;have e:=pur H;subst e;have hL2:=q4 _ _ _ (Qat (n:=b.name) (sc:=b.sc++[x39.1]) (id:=b.id) hfr9)
   have hset:rws K2 (out.set i ⟨b.name,b.sc++[x39.1],b.id⟩)=(rws K2 out).set i (K2 ⟨b.name,b.sc++[x39.1],b.id⟩):=by simp [rws,KH]
   rw [← hset] at hL2;exact rg _ ⟨_,rfl,hX,K6 _⟩ (hw:=hwk hL2 hF)
 refine go ?_;refine cdp H (fun h H=>?_) (fun h H=>?_)
 ·refine go ?_;obtain ⟨b,hb,H⟩:=bnd H;obtain ⟨i0,i1,i2⟩:=Fc hb;obtain ⟨i,hi⟩:∃i:Nat,x16.1=(i:Int):=⟨x16.1.toNat,by omega⟩
  have hp:(rws K2 out)[i]?=some b.cells:=by
   rw [hi,Kn] at i2;simp [rws,i2]
  obtain ⟨lrow,A,B,C,q1,q2,q3,q4⟩:=hL.at i _ hp;obtain ⟨vs,hfr,rfl,rfl⟩:=LZ q3;obtain ⟨b1,cap,hv⟩:=hF.Qss 0 rfl (show i < ls.length by omega);subst hv;have hai:=fun σ=>RM (σ:=σ) (e:=53) (sz:=3) (by_:=48) (b:=b1) (n:=ls.length) (c:=cap) (k:=.i64) (i:=i) (by omega);obtain ⟨z,hz,H⟩:=bnd H;obtain ⟨rfl,hb2⟩:=Bg hz;have hld:=NW (ag:=true) (k:=3) (o:=0) (v:=.agg [.str b.name,vs,i6 b.id]) hF 0 (show i * 3=i * 3+0 from rfl) rfl q1 (by decide) rfl
  try simp only [hi]
  try simp only [go_sem,↓reduceIte,ZC,ZE,ZF,ZD,ZG,ZH,Kn,q,tT,hF.f,hF.m,hF.x hX,hai,hld,Qu]
  refine Qgp (by_:=48) hF 0 (ys:=[[.str b.name,vs,i6 b.id]]) rfl (by decide) (by decide) (RdL.sl _ _ _ _ (fun r hr=>by rw [ZI.1 hr];rfl)) (by simpa [hlen] using hb2) fun v9 s10 hF=>?_;refine go ?_;have e:=pur H;subst e;have hL2:=hL.snoc q3;rw [show rws K2 out++[b.cells]=rws K2 (out++[b]) by rw [Bi];rfl] at hL2
  exact rg _ ⟨_,rfl,hX,K6 _⟩ (hw:=hL2.wk (e:=53) hF.sub (fun _ h=>h) (Ql3.of hF fun m hm=>by
   rcases Kl.1 hm with rfl | hm
   ·exact KF ..
   ·refine List.mem_cons_of_mem _ ?_
    rcases List.mem_append.1 hm with hm | hm
    ·exact hm
    ·rw [q2];simp [ZI.1 hm]))
 ·refine go ?_;have e:=pur H;subst e;exact rg _ ⟨_,rfl,hX,K6 _⟩ (hw:=hwk hL hF)
theorem Nu:∀(a0:List Int) r,A5 a0=some r->VP K1 21 [sf cU a0] (.agg (Za r)):=by
 intro a0 r H;intro σ;unfold A5 at H;refine hdg mixed Tryz.func21 (rs:=[.cell 2 30]) fun q tT=>?_;have hF:=K4 σ;have hX:=Tau.none σ;refine go ?_;refine Ya hF rfl fun b1 ss2 hF=>?_;refine go ?_;refine bp H (PX a0) fun x10 h H=>cl h ?_;refine go ?_;refine Ya hF rfl fun b3 ss4 hF=>?_;refine go ?_;refine st hF 0 rfl fun ss5 hF=>?_;refine go ?_;obtain ⟨x15,hx15,H⟩:=bnd H;refine cx (Cd x10.1 20 _ hx15   _ (pre 0 0 0 hF hX)) ?_;rintro _ s8 ⟨t9,v6,v7,rfl,hT,hG⟩;have hF:=DA 0 0 hF hX hT hG;refine go ?_;refine Ya hF rfl fun b11 s12 hF=>?_;refine go ?_;refine st hF 0 rfl fun s13 hF=>?_;refine go ?_;obtain ⟨⟨I9,A7,Aa,CP,LM⟩,j15,H⟩:=bnd H;refine Wn (fun s'=>∃(T:TT) (ss1:Sto) (y14v0 y14v1:AV),s'=⟨T,ss1⟩/\(T 0=sf cU a0/\T 2=.ptr b1 0/\T 5=.ptr b11 0)/\Fx σ ss1 [(b11,⟨30,5,[y14v1,y14v0,i6 I9,i6 A7,i6 Aa]⟩),(b3,⟨34,5,[i6 x10.1.kind,.str x10.1.name,i6 x10.1.num,sf cI x10.1.sc,sf K0 x10.1.kids]⟩),(b1,⟨30,5,[.Yd,.Yd,i6 0,i6 0,i6 0]⟩)] [⟨y14v1,53,3,rws K2 LM⟩,⟨y14v0,62,3,rws Ze CP⟩]) (cdn j15 (fun h j15=>?_) (fun h j15=>?_)) ?_
 ·refine go ?_;obtain ⟨x20,hx20,j15⟩:=bnd j15;refine cx (Ce  _ hx20   _ (pre 0 0 0 hF hX)) ?_;rintro _ s18 ⟨t19,v16,v17,rfl,hT,hG⟩;have hF:=DA 0 0 hF hX hT hG;refine go ?_;refine st hF 0 rfl fun s21 hF=>?_;have hF:=pck hF [0,1,2] [2,1,0,3];have hF:=pck hF [0,1,2] [0,3,2,1];refine go ?_;have e:=pur j15
  injection e with e0 e
  injection e with e1 e
  injection e with e2 e
  injection e with e3 e
  subst e0;subst e1;subst e2;subst e3;subst e;exact ⟨_,_,v17,v16,rfl,S,(hF.drop 0 2)⟩
 ·refine go ?_;have e:=pur j15
  injection e with e0 e
  injection e with e1 e
  injection e with e2 e
  injection e with e3 e
  subst e0;subst e1;subst e2;subst e3;subst e;exact ⟨_,_,v7,v6,rfl,S,hF⟩
 ·rintro s' ⟨T22,s23,y14v0,y14v1,rfl,tT,hF⟩;refine go ?_;obtain ⟨x22,hx22,H⟩:=bnd H;refine cx (Cg a0 _ hx22   _ (pre 0 0 0 hF hX)) ?_;rintro _ s26 ⟨t27,b25,rfl,hT,hG⟩;have nw29:s23.var b25=none:=(hT.off b25 (by simp)).symm.trans (hG.var _ (KF ..)).2.1;have hF:=DA 0 0 hF hX hT hG;refine go ?_;obtain ⟨x24,hx24,H⟩:=bnd H;refine cx (Yw 20 x22 _ hx24 b25  _ (pre 1 0 0 hF hX)) ?_;rintro _ s30 ⟨t31,rfl,hT,hG⟩;have hF:=DA 1 0 hF hX hT hG;refine go ?_;refine cdp H (fun h H=>?_) (fun h H=>?_)
  ·refine go ?_;obtain ⟨x29,hx29,H⟩:=bnd H;refine cx (Y4 [9,11,1000] x24.2 _ hx29 b25  _ (pre 1 0 0 hF hX)) ?_;rintro _ s33 ⟨t34,rfl,hT,hG⟩;have hF:=DA 1 0 hF hX hT hG;refine go ?_;refine st hF 1 rfl fun s36 hF=>?_;refine go ?_;refine st hF 3 rfl fun s37 hF=>?_;refine go ?_;have e:=pur H;subst e;exact rt _
  ·refine go ?_;refine cdp H (fun h H=>?_) (fun h H=>?_)
   ·refine go ?_;obtain ⟨x37,hx37,H⟩:=bnd H;obtain ⟨s38,hF,hw39,hb40,hz41⟩:=frz hF 0;refine Qam (EC LM x24.2 _ hx37 b25  _ (pre 1 0 0 hF hX)) (.cons (Wk.sub hb40 _) id (.cons hw39 (fun _=>rfl) .nil)) hb40 ?_;rintro _ s42 ⟨t43,rfl,hT,hG⟩;have hF:=DA 1 0 hF hX hT hG;refine go ?_;obtain ⟨x38,hx38,H⟩:=bnd H;refine cx (EC x37.1 x37.2 _ hx38 b25  _ (pre 1 0 0 hF hX)) ?_;rintro _ s45 ⟨t46,rfl,hT,hG⟩;have hF:=DA 1 0 hF hX hT hG;refine go ?_;refine st hF 1 rfl fun s48 hF=>?_;refine go ?_;refine st hF 3 rfl fun s49 hF=>?_;refine go ?_;have e:=pur H;subst e;exact rt _
   ·refine go ?_;refine cdp H (fun h H=>?_) (fun h H=>?_)
    ·refine go ?_;refine cdp H (fun h H=>?_) (fun h H=>?_)
     ·refine go ?_;obtain ⟨E,hEq⟩:∃E,E=EE s30 [b25]:=⟨_,rfl⟩
      have n50:¬E b11:=by rw [hEq];exact K8 (hF.at 1 rfl) (nm1 (neL hF 1 0 rfl rfl (by decide)))
      have n51:¬E b3:=by rw [hEq];exact K8 (hF.at 2 rfl) (nm1 (neL hF 2 0 rfl rfl (by decide)))
      have n52:¬E b1:=by rw [hEq];exact K8 (hF.at 3 rfl) (nm1 (neL hF 3 0 rfl rfl (by decide)))
      refine Yj E [.v,.v,.v,.v,.x,.v,.v,.z] (by kernel_rfl) ?_;have z:=K5 (X7 (hF.at 1 rfl) n50) (K5 (X7 (hF.at 2 rfl) n51) (X7 (hF.at 3 rfl) n52));refine gh ?_;obtain ⟨x50,hx50,H⟩:=bnd H;refine cx (Y4 [10,11,900] x24.2 _ hx50 b25  _ (pre 1 0 0 hF hX)) ?_;rintro _ s53 ⟨t54,rfl,hT,hG⟩
      refine W3 (Zb hT hG (by intro p hp;simp only [Kl,KG,or_false] at hp<;>first | (rcases hp with rfl<;>(rw [hEq];first | (refine Zf ?_;simp;done) | exact Zo nw29))| cases hp)) fun kp56=>?_
      have hF:=DA 1 0 hF hX hT hG;have z:=K5 (X7 (hF.at 1 rfl) n50) (K5 (X7 (hF.at 2 rfl) n51) (X7 (hF.at 3 rfl) n52));refine gh ?_;obtain ⟨x51,hx51,H⟩:=bnd H;obtain ⟨b57,k58,hv⟩:=hF.ref 1 rfl hx51;subst hv
      try simp only [go_sem,↓reduceIte,ZC,ZE,ZF,ZD,ZG,ZH,Kn,q,tT,hF.f,hF.m,hF.x hX,X7 (hF.at 1 rfl) n50,X7 (hF.at 2 rfl) n51,X7 (hF.at 3 rfl) n52,EP (l:=CP) rfl hx51]
      refine UK hF 1 (o:=0) (sz:=3) (k:=1) (v:=(i6 x50.1)) (cs:=[i6 x50.1]) (g:=Ze) (i:=0) (Mac.mk x50.1 x51.lits x51.rules) Mac.X6 (by first | rfl | simp) rfl hx51 rfl rfl (by decide) (by first | rfl | simp [Hq,cI,cU,cS,cL,cB,Mac.Yb]) fun s59 hF=>?_;have hF:Fx σ s59 [(b25,⟨81,2,[sf cU x50.2.b,i6 x50.2.p]⟩),(b11,⟨30,5,[y14v1,.ref b57 CP.length k58,i6 I9,i6 A7,i6 Aa]⟩),(b3,⟨34,5,[i6 x10.1.kind,.str x10.1.name,i6 x10.1.num,sf cI x10.1.sc,sf K0 x10.1.kids]⟩),(b1,⟨30,5,[.Yd,.Yd,i6 0,i6 0,i6 0]⟩)] [⟨y14v1,53,3,rws K2 LM⟩,⟨.ref b57 CP.length k58,62,3,rws Ze (CP.set (0:Int).toNat (Mac.mk x50.1 x51.lits x51.rules))⟩]:=hF;have z:=K5 (X7 (hF.at 1 rfl) n50) (K5 (X7 (hF.at 2 rfl) n51) (X7 (hF.at 3 rfl) n52));refine gh ?_;refine go ?_;refine st hF 3 rfl fun s60 hF=>?_;refine go ?_;have e:=pur H;subst e;exact rt _
     ·refine go ?_;refine st hF 3 rfl fun s61 hF=>?_;refine go ?_;have e:=pur H;subst e;exact rt _
    ·refine go ?_;refine st hF 3 rfl fun s62 hF=>?_;refine go ?_;have e:=pur H;subst e;exact rt _
theorem D5:∀(a0:Fm) (x14:List Int) (X9:List Fm) (YA:Int) out,VU a0 x14 X9 YA=some out->∀c,Yg Tryz.f49 0=some c->∀(Q:QT) (tt0:Sto) (b1 b3 b5:Nat),(∀(Vz:List Fm),out=Vz->∀(T:TT) (σ tt:Sto) (e0v0:AV),T 2=.ptr b3 0/\T 3=.ptr b5 0->Tau tt0 [] tt->Fx tt σ [(b5,⟨34,5,[i6 a0.kind,.str a0.name,i6 a0.num,sf cI x14,e0v0]⟩),(b3,⟨34,5,[i6 0,.str zB,i6 0,.Yd,.Yd]⟩),(b1,⟨34,5,[i6 a0.kind,.str a0.name,i6 a0.num,sf cI a0.sc,sf K0 a0.kids]⟩)] [⟨e0v0,34,5,rws K0 Vz⟩]->Q (.ex 0) ⟨T,σ⟩)->True->∀(T:TT) (σ tt:Sto) (z0v0:AV),T 1=.ptr b1 0/\T 2=.ptr b3 0/\T 3=.ptr b5 0/\T 4=i6 YA->Tau tt0 [] tt->Fx tt σ [(b5,⟨34,5,[i6 a0.kind,.str a0.name,i6 a0.num,sf cI x14,z0v0]⟩),(b3,⟨34,5,[i6 0,.str zB,i6 0,.Yd,.Yd]⟩),(b1,⟨34,5,[i6 a0.kind,.str a0.name,i6 a0.num,sf cI a0.sc,sf K0 a0.kids]⟩)] [⟨z0v0,34,5,rws K0 X9⟩]->aLp K1 c Q ⟨T,σ⟩:=by
 intro a0 x14 X9 YA;revert X9 YA;refine VU.partial_correctness a0 x14 _ ?_;intro VU IH X9 YA out H c hc Q tt0 b1 b3 b5 hE hR T σ tt z0v0 tT hX hF;refine lpy hc rfl fun q=>go ?_;refine cdp H (fun h H=>?_) (fun h H=>?_)
 ·refine go ?_;refine Yj E0 [.v,.v,.v,.v,.v,.v,.v,.v,.v,.x,.v,.z] (by kernel_rfl) ?_;obtain ⟨x28,f1,H⟩:=bil (g:=K0) Fm.X6 H;refine go1 ?_;refine bp H (Wg x28) fun x30 h H=>cv h ?_;refine go ?_;refine SL (g:=K0) hF 0 H (rdo (c:=true) (g:=K0) Fm.X6) fun x32 H v8 s9 hF=>?_;refine go ?_;refine st hF 0 (hF.cells 0 rfl) fun s10 hF=>?_;refine go ?_;exact IH  x32 (i64.wrap (YA+1)) _ H _ rfl Q tt0 b1 b3 b5 hE hR _ _ _ v8 S hX hF
 ·refine go ?_;exact wq (hE _ (pur H).symm _ _ _ z0v0 S hX hF)
theorem FE:∀(a0:Fm) r,Ir a0=some r->∀   (σ:Sto),Pre σ [] []->Ctr K1 49 [.agg (K0 a0)] σ (fun r' ss'=>∃(tt':Sto) (Qrh:AV),r'=.agg [i6 r.kind,.str r.name,i6 r.num,sf cI r.sc,Qrh]/\Tau (strip σ []) [] tt'/\Fx tt' ss' [] [⟨Qrh,34,5,rws K0 r.kids⟩]):=by
 intro a0 r H;intro   σ hP;unfold Ir at H;refine hdg mixed Tryz.func49 (rs:=[.cell 2 34]) fun q tT=>?_;obtain ⟨hF,hX⟩:=hP.start;generalize strip σ []=tt0 at hF hX ⊢;refine go ?_;refine Ya hF rfl fun b1 ss2 hF=>?_;refine go ?_;refine Ya hF rfl fun b3 ss4 hF=>?_;refine go ?_;refine Yj E0 [.v,.v,.v,.v,.v,.v,.v,.v,.v,.v,.v,.x,.z] (by kernel_rfl) ?_;refine go ?_;obtain ⟨x14,hx14,H⟩:=bnd H;refine MY (g:=cI) (xs:=[]) (ys:=a0.sc) (fun _=>rfl) (by decide) (by decide) (.inr (by first | rfl | simp only [Vn,VQ,cI,cU,cS,cL])) (.inr ⟨_,by first | rfl | simp only [Vn,VQ,cI,cU,cS,cL]⟩) hx14 ?_;refine go ?_;refine HH hF rfl fun b5 ss6 hF=>?_;refine go ?_;refine st hF 0 rfl fun s7 hF=>?_;have hF:=hF.nil 34 5;refine go ?_;obtain ⟨o11,ho11,H⟩:=bnd H;refine D5 a0 x14 [] 0 _ ho11 _ rfl _ tt0 b1 b3 b5 ?_ ?_ _ _ _ .Yd S hX hF
 ·intro MN he T13 s14 t15 e12v0 tT hX hF;have he:=he.symm;subst he;refine go ?_;refine st hF 1 rfl fun s16 hF=>?_;refine go ?_;have e:=pur H;subst e;exact rg _ ⟨_,_,rfl,hX,hF.pick [] [0] (by decide) (by decide)⟩
 ·trivial
theorem EA:∀(a1:Fm) (c0:Rdr) r,Hh a1 c0=some r->∀(e0:Nat)  (σ:Sto),Pre σ [(e0,⟨81,2,[sf cU c0.b,i6 c0.p]⟩)] []->Ctr K1 24 [.ptr e0 0,.agg (K0 a1)] σ (fun r' ss'=>∃(tt':Sto),r'=.agg (K0 r.1)/\Tau (strip σ []) [(e0,⟨81,2,[sf cU r.2.b,i6 r.2.p]⟩)] tt'/\Fx tt' ss' [] []):=by
 refine Hh.partial_correctness _ (motive_2:=fun a1 x9 IE X9 Ym VW Br out=>∀c,Yg Tryz.f24 0=some c->∀(Q:QT) (tt0:Sto) (e0 b1 b3 b9:Nat),(∀(Vz:List Fm) (B6:List Int) (N5:Int),out=(Vz,B6,N5)->∀(T:TT) (σ tt:Sto) (e0v0:AV),T 4=.ptr b3 0/\T 5=.ptr b9 0->Tau tt0 [(e0,⟨81,2,[sf cU B6,i6 N5]⟩)] tt->Fx tt σ [(b9,⟨34,5,[i6 x9.kind,.str x9.name,i6 x9.num,sf cI IE,e0v0]⟩),(b3,⟨34,5,[i6 0,.str zB,i6 0,.Yd,.Yd]⟩),(b1,⟨34,5,[i6 a1.kind,.str a1.name,i6 a1.num,sf cI a1.sc,sf K0 a1.kids]⟩)] [⟨e0v0,34,5,rws K0 Vz⟩]->Q (.ex 0) ⟨T,σ⟩)->True->∀(T:TT) (σ tt:Sto) (z0v0:AV),T 0=.ptr e0 0/\T 4=.ptr b3 0/\T 5=.ptr b9 0/\T 7=i6 Ym->Tau tt0 [(e0,⟨81,2,[sf cU VW,i6 Br]⟩)] tt->Fx tt σ [(b9,⟨34,5,[i6 x9.kind,.str x9.name,i6 x9.num,sf cI IE,z0v0]⟩),(b3,⟨34,5,[i6 0,.str zB,i6 0,.Yd,.Yd]⟩),(b1,⟨34,5,[i6 a1.kind,.str a1.name,i6 a1.num,sf cI a1.sc,sf K0 a1.kids]⟩)] [⟨z0v0,34,5,rws K0 X9⟩]->aLp K1 c Q ⟨T,σ⟩) ?_ ?_
 ·intro JN L0 a1 c0 r H;intro e0  σ hP;refine hdg mixed Tryz.func24 (rs:=[.cell 4 34]) fun q tT=>?_;obtain ⟨hF,hX⟩:=hP.start;generalize strip σ []=tt0 at hF hX ⊢;refine go ?_;refine Ya hF rfl fun b1 ss2 hF=>?_;refine go ?_;refine Ya hF rfl fun b3 ss4 hF=>?_;refine go ?_;obtain ⟨x9,hx9,H⟩:=bnd H;refine cx (FE a1 _ hx9   _ (pre 0 0 0 hF hX)) ?_;rintro _ ss6 ⟨t7,v5,rfl,hT,hG⟩;obtain ⟨t8,hX,hF⟩:=aft 0 0 0 hF hX hT hG;refine go ?_;refine Ya hF rfl fun b9 s10 hF=>?_;refine go ?_;refine st hF 0 rfl fun s11 hF=>?_;refine go ?_;obtain ⟨⟨IE,NJ,NK⟩,j13,H⟩:=bnd H;refine Wn (fun s'=>∃(T:TT) (ss1 tt1:Sto),s'=⟨T,ss1⟩/\(T 0=.ptr e0 0/\T 4=.ptr b3 0/\T 5=.ptr b9 0)/\Tau tt0 [(e0,⟨81,2,[sf cU NJ,i6 NK]⟩)] tt1/\Fx tt1 ss1 [(b9,⟨34,5,[i6 x9.kind,.str x9.name,i6 x9.num,sf cI IE,v5]⟩),(b3,⟨34,5,[i6 0,.str zB,i6 0,.Yd,.Yd]⟩),(b1,⟨34,5,[i6 a1.kind,.str a1.name,i6 a1.num,sf cI a1.sc,sf K0 a1.kids]⟩)] [⟨v5,34,5,rws K0 x9.kids⟩]) (cdp j13 (fun h j13=>?_) (fun h j13=>?_)) ?_
  ·refine go ?_;obtain ⟨x26,hx26,j13⟩:=bnd j13;refine cx (Yw 7 c0 _ hx26 e0  _ (pre 0 1 0 hF hX)) ?_;rintro _ s14 ⟨t15,rfl,hT,hG⟩;obtain ⟨t16,hX,hF⟩:=aft 0 1 0 hF hX hT hG;obtain ⟨x27,f1,j13⟩:=bll (g:=cI) [[.sl true []],[.sl true [[i6 1]]],[.sl true [[i6 2]]],[.sl true [[i6 1],[i6 2]]],[.sl true [[i6 1],[i6 3]]],[.sl true [[i6 1],[i6 2],[i6 3]]],[.sl true [[i6 99]]]] rfl j13;refine go1 ?_;refine apv (g:=cI) j13 (fun _=>rfl) (rdo (c:=true) (g:=cI) (fun _=>rfl)) fun x29 j13=>?_;refine go ?_;refine st hF 0 rfl fun s17 hF=>?_;refine go ?_;have e:=pur j13
   injection e with e0 e
   injection e with e1 e
   subst e0;subst e1;subst e;exact ⟨_,_,_,rfl,S,hX,hF⟩
  ·refine go ?_;have e:=pur j13
   injection e with e0 e
   injection e with e1 e
   subst e0;subst e1;subst e;exact ⟨_,_,_,rfl,S,hX,hF⟩
  ·rintro s' ⟨T18,s19,t20,rfl,tT,hX,hF⟩;refine go ?_;obtain ⟨o31,ho31,H⟩:=bnd H;refine L0 a1 x9 IE x9.kids 0 NJ NK _ ho31 _ rfl _ tt0 e0 b1 b3 b9 ?_ ?_ _ _ _ v5 S hX hF
   ·intro Tj Qa3 Qa4 he T33 s34 t35 e32v0 tT hX hF;have he:=he.symm;subst he
    try dsimp only at H
    refine go ?_;refine st hF 1 rfl fun s36 hF=>?_;refine go ?_;have e:=pur H;subst e;exact rg _ ⟨_,rfl,hX,K6 _⟩
   ·trivial
 ·intro Hh JN C0 L0 a1 x9 IE X9 Ym VW Br out H c hc Q tt0 e0 b1 b3 b9 hE hR T σ tt z0v0 tT hX hF;refine lpy hc rfl fun q=>go ?_;refine cdp H (fun h H=>?_) (fun h H=>?_)
  ·refine go ?_;obtain ⟨E,hEq⟩:∃E,E=EE σ [e0]:=⟨_,rfl⟩
   have n21:¬E b9:=by rw [hEq];exact K8 (hF.at 0 rfl) (nm1 (neX hF 0 rfl hX 0 rfl))
   have n22:¬E b3:=by rw [hEq];exact K8 (hF.at 1 rfl) (nm1 (neX hF 1 rfl hX 0 rfl))
   have n23:¬E b1:=by rw [hEq];exact K8 (hF.at 2 rfl) (nm1 (neX hF 2 rfl hX 0 rfl))
   refine Yj E [.v,.v,.v,.v,.v,.v,.v,.v,.x,.x,.v,.z] (by kernel_rfl) ?_;have z:=K5 (X7 (hF.at 0 rfl) n21) (K5 (X7 (hF.at 1 rfl) n22) (X7 (hF.at 2 rfl) n23));refine gh ?_;obtain ⟨x45,hx45,H⟩:=bnd H;obtain ⟨b24,k25,hv⟩:=hF.ref 0 rfl hx45;subst hv
   try simp only [go_sem,↓reduceIte,ZC,ZE,ZF,ZD,ZG,ZH,Kn,q,tT,hF.f,hF.m,hF.x hX,X7 (hF.at 0 rfl) n21,X7 (hF.at 1 rfl) n22,X7 (hF.at 2 rfl) n23,EP (l:=X9) rfl hx45,SY hF 0 (p:=Ym.toNat * 5) (sz:=5) (ag:=true) (k:=5) (o:=0) (g:=K0) (x:=x45) (i:=Ym) (v:=(.agg [i6 x45.kind,.str x45.name,i6 x45.num,sf cI x45.sc,sf K0 x45.kids])) (by first | rfl | simp) Fm.X6 rfl hx45 (by decide) (by first | rfl | (simp only [sf,i6,zB,cI,cU,cS,cL,cB,Fm.Yb];rfl))]
   obtain ⟨x47,hx47,H⟩:=bnd H;refine cx (C0 x45 (Rdr.mk VW Br) _ hx47 e0  _ (pre 0 1 0 hF hX)) ?_;rintro _ s26 ⟨t27,rfl,hT,hG⟩
   refine W3 (Zb hT hG (by intro p hp;simp only [Kl,KG,or_false] at hp<;>first | (rcases hp with rfl<;>(rw [hEq];first | (refine Zf ?_;simp;done) | exact Zo rfl))| cases hp)) fun kp29=>?_
   obtain ⟨t28,hX,hF⟩:=aft 0 1 0 hF hX hT hG;obtain ⟨x48,hx48,H⟩:=bnd H
   try simp only [go_sem,↓reduceIte,ZC,ZE,ZF,ZD,ZG,ZH,Kn,q,tT,hF.f,hF.m,hF.x hX,X7 (hF.at 0 rfl) n21,X7 (hF.at 1 rfl) n22,X7 (hF.at 2 rfl) n23,EP (l:=X9) ((MT hF 0 rfl).1.trans (Jl _)) hx48]
   refine UK hF 0 (o:=0) (sz:=5) (k:=5) (v:=(.agg [i6 x47.1.kind,.str x47.1.name,i6 x47.1.num,sf cI x47.1.sc,sf K0 x47.1.kids])) (cs:=[i6 x47.1.kind,.str x47.1.name,i6 x47.1.num,sf cI x47.1.sc,sf K0 x47.1.kids]) (g:=K0) (i:=Ym) x47.1 Fm.X6 (by first | rfl | simp) rfl hx48 rfl rfl (by decide) (by first | rfl | simp [Hq,cI,cU,cS,cL,cB,Fm.Yb]) fun s30 hF=>?_;have hF:Fx t28 s30 [(b9,⟨34,5,[i6 x9.kind,.str x9.name,i6 x9.num,sf cI IE,.ref b24 X9.length k25]⟩),(b3,⟨34,5,[i6 0,.str zB,i6 0,.Yd,.Yd]⟩),(b1,⟨34,5,[i6 a1.kind,.str a1.name,i6 a1.num,sf cI a1.sc,sf K0 a1.kids]⟩)] [⟨.ref b24 X9.length k25,34,5,rws K0 (X9.set Ym.toNat x47.1)⟩]:=hF;have z:=K5 (X7 (hF.at 0 rfl) n21) (K5 (X7 (hF.at 1 rfl) n22) (X7 (hF.at 2 rfl) n23));refine gh ?_;refine go ?_;exact L0 a1 x9 IE (X9.set Ym.toNat x47.1) (i64.wrap (Ym+1)) x47.2.b x47.2.p _ H _ rfl Q tt0 e0 b1 b3 b9 hE hR _ _ _ (.ref b24 X9.length k25) S hX hF
  ·refine go ?_;exact wq (hE _ _ _ (pur H).symm _ _ _ z0v0 S hX hF)
theorem Ev:∀(a0:List Int) r,Hg a0=some r->VP K1 9 [sf cU a0] (.tup [.agg (Za r.1),.agg (K0 r.2)]):=by
 intro a0 r H;intro σ;unfold Hg at H;refine hdg mixed Tryz.func9 (rs:=[.cell 2 30,.cell 3 34]) fun q tT=>?_;have hF:=K4 σ;have hX:=Tau.none σ;refine go ?_;refine Ya hF rfl fun b1 ss2 hF=>?_;refine go ?_;refine Ya hF rfl fun b3 ss4 hF=>?_;refine go ?_;refine bp H (Nu a0) fun x8 h H=>cl h ?_;refine go ?_;refine Ya hF rfl fun b5 ss6 hF=>?_;refine go ?_;refine st hF 0 rfl fun s7 hF=>?_;refine go ?_;obtain ⟨x10,hx10,H⟩:=bnd H;refine cx (Cg a0 _ hx10   _ (pre 0 0 0 hF hX)) ?_;rintro _ s9 ⟨t10,b8,rfl,hT,hG⟩;have nw12:s7.var b8=none:=(hT.off b8 (by simp)).symm.trans (hG.var _ (KF ..)).2.1;have hF:=DA 0 0 hF hX hT hG;refine go ?_;refine gi q (fun q=>?_) (fun q=>?_)
 ·rw [if_pos (dt q)] at H;refine go ?_;obtain ⟨Qae,hx17_1,H⟩:=bnd H;refine cx (Yw 3 x10 _ hx17_1 b8  _ (pre 1 0 0 hF hX)) ?_;rintro _ s18 ⟨t19,rfl,hT,hG⟩;have hF:=DA 1 0 hF hX hT hG;refine go ?_;refine cdp H (fun h H=>?_) (fun h H=>?_)
  ·refine go ?_;obtain ⟨E,hEq⟩:∃E,E=EE s18 [b8]:=⟨_,rfl⟩
   have n21:¬E b5:=by rw [hEq];exact K8 (hF.at 1 rfl) (nm1 (neL hF 1 0 rfl rfl (by decide)))
   have n22:¬E b3:=by rw [hEq];exact K8 (hF.at 2 rfl) (nm1 (neL hF 2 0 rfl rfl (by decide)))
   have n23:¬E b1:=by rw [hEq];exact K8 (hF.at 3 rfl) (nm1 (neL hF 3 0 rfl rfl (by decide)))
   refine RZ E [.v,.v,.v,.v,.v,.v] [0,1,2,3,4,5] 6 9 [.v,.v] [7,8] [.z] [10] (by kernel_rfl) ?_;have z:=K5 (X7 (hF.at 1 rfl) n21) (K5 (X7 (hF.at 2 rfl) n22) (X7 (hF.at 3 rfl) n23));refine gh ?_;refine ⟨?_,?_⟩
   ·have z:=K5 (X7 (hF.at 1 rfl) n21) (K5 (X7 (hF.at 2 rfl) n22) (X7 (hF.at 3 rfl) n23));refine gh ?_;obtain ⟨x26,hx26,H⟩:=bnd H;refine cx (Yw (x8.binds.length:Int) Qae.2 _ hx26 b8  _ (pre 1 0 0 hF hX)) ?_;rintro _ s24 ⟨t25,rfl,hT,hG⟩
    refine W3 (Zb hT hG (by intro p hp;simp only [Kl,KG,or_false] at hp<;>first | (rcases hp with rfl<;>(rw [hEq];first | (refine Zf ?_;simp;done) | exact Zo nw12))| cases hp)) fun kp27=>?_
    have hF:=DA 1 0 hF hX hT hG;obtain ⟨x27,f1,H⟩:=bil (g:=K2) Bnd.X6 H;have z:=K5 (X7 (hF.at 1 rfl) n21) (K5 (X7 (hF.at 2 rfl) n22) (X7 (hF.at 3 rfl) n23));refine gh1 ?_;refine AO hF rfl fun b28 s29 nw30 mo31 hF=>?_;have z:=K5 (X7 (hF.at 2 rfl) n21) (K5 (X7 (hF.at 3 rfl) n22) (X7 (hF.at 4 rfl) n23));refine gh ?_;refine st hF 0 rfl fun s32 hF=>?_;have z:=K5 (X7 (hF.at 2 rfl) n21) (K5 (X7 (hF.at 3 rfl) n22) (X7 (hF.at 4 rfl) n23));refine gh ?_;refine go ?_;obtain ⟨E,hEq⟩:∃E,E=EE s32 [b1]:=⟨_,rfl⟩
    have n33:¬E b28:=by rw [hEq];exact K8 (hF.at 0 rfl) (nm1 (neL hF 0 4 rfl rfl (by decide)))
    have n34:¬E b8:=by rw [hEq];exact K8 (hF.at 1 rfl) (nm1 (neL hF 1 4 rfl rfl (by decide)))
    have n35:¬E b5:=by rw [hEq];exact K8 (hF.at 2 rfl) (nm1 (neL hF 2 4 rfl rfl (by decide)))
    have n36:¬E b3:=by rw [hEq];exact K8 (hF.at 3 rfl) (nm1 (neL hF 3 4 rfl rfl (by decide)))
    refine Yj E [.v,.v,.v,.v,.v,.v,.v,.v,.x,.z] (by kernel_rfl) ?_;have z:=K5 (X7 (hF.at 0 rfl) n33) (K5 (X7 (hF.at 1 rfl) n34) (K5 (X7 (hF.at 2 rfl) n35) (X7 (hF.at 3 rfl) n36)));refine gh ?_;obtain ⟨x35,hx35,H⟩:=bnd H;refine MY (g:=cI) (xs:=[]) (ys:=x27.sc) (fun _=>rfl) (by decide) (by decide) (.inr (by first | rfl | simp only [Vn,VQ,cI,cU,cS,cL])) (.inr ⟨_,by first | rfl | simp only [Vn,VQ,cI,cU,cS,cL]⟩) hx35 ?_;have z:=K5 (X7 (hF.at 0 rfl) n33) (K5 (X7 (hF.at 1 rfl) n34) (K5 (X7 (hF.at 2 rfl) n35) (X7 (hF.at 3 rfl) n36)));refine gh ?_;refine stK hF 4 (by rw [hEq];exact Zf (by simp)) rfl fun s37 hF=>?_;have z:=K5 (X7 (hF.at 0 rfl) n33) (K5 (X7 (hF.at 1 rfl) n34) (K5 (X7 (hF.at 2 rfl) n35) (X7 (hF.at 3 rfl) n36)));refine gh ?_;refine st hF 3 rfl fun s38 hF=>?_;have z:=K5 (X7 (hF.at 0 rfl) n33) (K5 (X7 (hF.at 1 rfl) n34) (K5 (X7 (hF.at 2 rfl) n35) (X7 (hF.at 3 rfl) n36)));refine gh ?_;refine go ?_;have e:=pur H;subst e;exact rt [.agg [sf K2 x8.binds,sf Ze x8.macs,i6 x8.scope,i6 x8.id,i6 x8.steps],.agg [i6 1,.str x27.name,i6 0,sf cI x35,.Yd]]
   ·have z:=K5 (X7 (hF.at 1 rfl) n21) (K5 (X7 (hF.at 2 rfl) n22) (X7 (hF.at 3 rfl) n23));refine gh ?_;refine AO hF rfl fun b39 s40 nw41 mo42 hF=>?_;have z:=K5 (X7 (hF.at 2 rfl) n21) (K5 (X7 (hF.at 3 rfl) n22) (X7 (hF.at 4 rfl) n23));refine gh ?_;have hF:=pck hF [1,0,2,3,4] [];obtain ⟨x26,hx26,H⟩:=bnd H;refine cx (Yw (x8.binds.length:Int) Qae.2 _ hx26 b8  _ (pre 1 0 0 hF hX)) ?_;rintro _ s43 ⟨t44,rfl,hT,hG⟩
    refine W3 (Zb hT hG (by intro p hp;simp only [Kl,KG,or_false] at hp<;>first | (rcases hp with rfl<;>(rw [hEq];first | (refine Zf ?_;simp;done) | exact Zo nw12))| cases hp)) fun kp46=>?_
    have hF:=DA 1 0 hF hX hT hG;have hF:=pck hF [1,0,2,3,4] [];obtain ⟨x27,f1,H⟩:=bil (g:=K2) Bnd.X6 H;have z:=K5 (X7 (hF.at 2 rfl) n21) (K5 (X7 (hF.at 3 rfl) n22) (X7 (hF.at 4 rfl) n23));refine gh1 ?_;refine st hF 0 rfl fun s47 hF=>?_;have z:=K5 (X7 (hF.at 2 rfl) n21) (K5 (X7 (hF.at 3 rfl) n22) (X7 (hF.at 4 rfl) n23));refine gh ?_;refine go ?_;obtain ⟨E,hEq⟩:∃E,E=EE s47 [b1]:=⟨_,rfl⟩
    have n48:¬E b39:=by rw [hEq];exact K8 (hF.at 0 rfl) (nm1 (neL hF 0 4 rfl rfl (by decide)))
    have n49:¬E b8:=by rw [hEq];exact K8 (hF.at 1 rfl) (nm1 (neL hF 1 4 rfl rfl (by decide)))
    have n50:¬E b5:=by rw [hEq];exact K8 (hF.at 2 rfl) (nm1 (neL hF 2 4 rfl rfl (by decide)))
    have n51:¬E b3:=by rw [hEq];exact K8 (hF.at 3 rfl) (nm1 (neL hF 3 4 rfl rfl (by decide)))
    refine Yj E [.v,.v,.v,.v,.v,.v,.v,.v,.x,.z] (by kernel_rfl) ?_;have z:=K5 (X7 (hF.at 0 rfl) n48) (K5 (X7 (hF.at 1 rfl) n49) (K5 (X7 (hF.at 2 rfl) n50) (X7 (hF.at 3 rfl) n51)));refine gh ?_;obtain ⟨x35,hx35,H⟩:=bnd H;refine MY (g:=cI) (xs:=[]) (ys:=x27.sc) (fun _=>rfl) (by decide) (by decide) (.inr (by first | rfl | simp only [Vn,VQ,cI,cU,cS,cL])) (.inr ⟨_,by first | rfl | simp only [Vn,VQ,cI,cU,cS,cL]⟩) hx35 ?_;have z:=K5 (X7 (hF.at 0 rfl) n48) (K5 (X7 (hF.at 1 rfl) n49) (K5 (X7 (hF.at 2 rfl) n50) (X7 (hF.at 3 rfl) n51)));refine gh ?_;refine stK hF 4 (by rw [hEq];exact Zf (by simp)) rfl fun s52 hF=>?_;have z:=K5 (X7 (hF.at 0 rfl) n48) (K5 (X7 (hF.at 1 rfl) n49) (K5 (X7 (hF.at 2 rfl) n50) (X7 (hF.at 3 rfl) n51)));refine gh ?_;refine st hF 3 rfl fun s53 hF=>?_;have z:=K5 (X7 (hF.at 0 rfl) n48) (K5 (X7 (hF.at 1 rfl) n49) (K5 (X7 (hF.at 2 rfl) n50) (X7 (hF.at 3 rfl) n51)));refine gh ?_;refine go ?_;have e:=pur H;subst e;exact rt [.agg [sf K2 x8.binds,sf Ze x8.macs,i6 x8.scope,i6 x8.id,i6 x8.steps],.agg [i6 1,.str x27.name,i6 0,sf cI x35,.Yd]]
  ·refine go ?_;obtain ⟨E,hEq⟩:∃E,E=EE s18 [b8,b1]:=⟨_,rfl⟩
   have n54:¬E b5:=by rw [hEq];exact K8 (hF.at 1 rfl) (nm2 ⟨neL hF 1 0 rfl rfl (by decide),neL hF 1 3 rfl rfl (by decide)⟩)
   have n55:¬E b3:=by rw [hEq];exact K8 (hF.at 2 rfl) (nm2 ⟨neL hF 2 0 rfl rfl (by decide),neL hF 2 3 rfl rfl (by decide)⟩)
   refine Yj E [.v,.v,.v,.v,.x,.v,.x,.x,.z] (by kernel_rfl) ?_;have z:=K5 (X7 (hF.at 1 rfl) n54) (X7 (hF.at 2 rfl) n55);refine gh ?_;obtain ⟨x41,hx41,H⟩:=bnd H;refine cx (JZ [(Qd #[120]),(Qd #[105,102]),(Qd #[111,114]),(Qd #[108,105,115,116]),(Qd #[115,119,97,112])] Qae.2 _ hx41 b8  _ (pre 1 0 0 hF hX)) ?_;rintro _ s56 ⟨t57,rfl,hT,hG⟩
   refine W3 (Zb hT hG (by intro p hp;simp only [Kl,KG,or_false] at hp<;>first | (rcases hp with rfl<;>(rw [hEq];first | (refine Zf ?_;simp;done) | exact Zo nw12))| cases hp)) fun kp59=>?_
   have hF:=DA 1 0 hF hX hT hG;have z:=K5 (X7 (hF.at 1 rfl) n54) (X7 (hF.at 2 rfl) n55);refine gh ?_;refine bp H (VS x41.1) fun x42 h H=>cv h ?_;have z:=K5 (X7 (hF.at 1 rfl) n54) (X7 (hF.at 2 rfl) n55);refine gh ?_;obtain ⟨x43,hx43,H⟩:=bnd H;refine cx (EA x42 x41.2 _ hx43 b8  _ (pre 1 0 0 hF hX)) ?_;rintro _ s60 ⟨t61,rfl,hT,hG⟩
   refine W3 (Zb hT hG (by intro p hp;simp only [Kl,KG,or_false] at hp<;>first | (rcases hp with rfl<;>(rw [hEq];first | (refine Zf ?_;simp;done) | exact Zo nw12))| cases hp)) fun kp63=>?_
   have hF:=DA 1 0 hF hX hT hG;have z:=K5 (X7 (hF.at 1 rfl) n54) (X7 (hF.at 2 rfl) n55);refine gh ?_;refine stK hF 3 (by rw [hEq];exact Zf (by simp)) rfl fun s64 hF=>?_;have z:=K5 (X7 (hF.at 1 rfl) n54) (X7 (hF.at 2 rfl) n55);refine gh ?_;refine st hF 2 rfl fun s65 hF=>?_;have z:=K5 (X7 (hF.at 1 rfl) n54) (X7 (hF.at 2 rfl) n55);refine gh ?_;refine go ?_;have e:=pur H;subst e;exact rt [.agg [sf K2 x8.binds,sf Ze x8.macs,i6 x8.scope,i6 x8.id,i6 x8.steps],.agg [i6 x43.1.kind,.str x43.1.name,i6 x43.1.num,sf cI x43.1.sc,sf K0 x43.1.kids]]
 ·rw [if_neg (df q)] at H;refine go ?_;obtain ⟨E,hEq⟩:∃E,E=EE s9 [b8,b1]:=⟨_,rfl⟩
  have n66:¬E b5:=by rw [hEq];exact K8 (hF.at 1 rfl) (nm2 ⟨neL hF 1 0 rfl rfl (by decide),neL hF 1 3 rfl rfl (by decide)⟩)
  have n67:¬E b3:=by rw [hEq];exact K8 (hF.at 2 rfl) (nm2 ⟨neL hF 2 0 rfl rfl (by decide),neL hF 2 3 rfl rfl (by decide)⟩)
  refine Yj E [.v,.v,.v,.v,.x,.v,.x,.x,.z] (by kernel_rfl) ?_;have z:=K5 (X7 (hF.at 1 rfl) n66) (X7 (hF.at 2 rfl) n67);refine gh ?_;obtain ⟨P3,hx41_1,H⟩:=bnd H;refine cx (JZ [(Qd #[120]),(Qd #[105,102]),(Qd #[111,114]),(Qd #[108,105,115,116]),(Qd #[115,119,97,112])] x10 _ hx41_1 b8  _ (pre 1 0 0 hF hX)) ?_;rintro _ s68 ⟨t69,rfl,hT,hG⟩
  refine W3 (Zb hT hG (by intro p hp;simp only [Kl,KG,or_false] at hp<;>first | (rcases hp with rfl<;>(rw [hEq];first | (refine Zf ?_;simp;done) | exact Zo nw12))| cases hp)) fun kp71=>?_
  have hF:=DA 1 0 hF hX hT hG;have z:=K5 (X7 (hF.at 1 rfl) n66) (X7 (hF.at 2 rfl) n67);refine gh ?_;obtain ⟨Qou,hx42_1,H⟩:=bnd H;refine cv (VS P3.1 _ hx42_1) ?_;have z:=K5 (X7 (hF.at 1 rfl) n66) (X7 (hF.at 2 rfl) n67);refine gh ?_;obtain ⟨Qah,hx43_1,H⟩:=bnd H;refine cx (EA Qou P3.2 _ hx43_1 b8  _ (pre 1 0 0 hF hX)) ?_;rintro _ s72 ⟨t73,rfl,hT,hG⟩
  refine W3 (Zb hT hG (by intro p hp;simp only [Kl,KG,or_false] at hp<;>first | (rcases hp with rfl<;>(rw [hEq];first | (refine Zf ?_;simp;done) | exact Zo nw12))| cases hp)) fun kp75=>?_
  have hF:=DA 1 0 hF hX hT hG;have z:=K5 (X7 (hF.at 1 rfl) n66) (X7 (hF.at 2 rfl) n67);refine gh ?_;refine stK hF 3 (by rw [hEq];exact Zf (by simp)) rfl fun s76 hF=>?_;have z:=K5 (X7 (hF.at 1 rfl) n66) (X7 (hF.at 2 rfl) n67);refine gh ?_;refine st hF 2 rfl fun s77 hF=>?_;have z:=K5 (X7 (hF.at 1 rfl) n66) (X7 (hF.at 2 rfl) n67);refine gh ?_;refine go ?_;have e:=pur H;subst e;exact rt [.agg [sf K2 x8.binds,sf Ze x8.macs,i6 x8.scope,i6 x8.id,i6 x8.steps],.agg [i6 Qah.1.kind,.str Qah.1.name,i6 Qah.1.num,sf cI Qah.1.sc,sf K0 Qah.1.kids]]
theorem CW:∀(X9:List Bnd) (YS:Int) out,Ve X9 YS=some out->∀c,Yg Tryz.f10 0=some c->∀(Q:QT) (tt:Sto) (b1 b3:Nat),(∀(Vz:List Bnd),out=Vz->∀(T:TT) (σ:Sto) (e0v0:AV),T 0=.ptr b1 0/\T 1=.ptr b3 0->Fx tt σ [(b3,⟨30,5,[e0v0,.Yd,i6 0,i6 10,i6 0]⟩),(b1,⟨30,5,[.Yd,.Yd,i6 0,i6 0,i6 0]⟩)] [⟨e0v0,53,3,rws K2 Vz⟩]->Q (.ex 0) ⟨T,σ⟩)->True->∀(T:TT) (σ:Sto) (z0v0:AV),T 0=.ptr b1 0/\T 1=.ptr b3 0/\T 5=.agg [.str (Qd #[108,97,109,98,100,97]),.str (Qd #[105,102]),.str (Qd #[113,117,111,116,101]),.str (Qd #[108,101,116]),.str (Qd #[108,101,116,45,115,121,110,116,97,120])]/\T 6=i6 YS->Fx tt σ [(b3,⟨30,5,[z0v0,.Yd,i6 0,i6 10,i6 0]⟩),(b1,⟨30,5,[.Yd,.Yd,i6 0,i6 0,i6 0]⟩)] [⟨z0v0,53,3,rws K2 X9⟩]->aLp K1 c Q ⟨T,σ⟩:=by
 refine Ve.partial_correctness  _ ?_;intro Ve IH X9 YS out H c hc Q tt b1 b3 hE hR T σ z0v0 tT hF;refine lpx tt hc rfl fun q hX=>go ?_;refine cdp H (fun h H=>?_) (fun h H=>?_)
 ·obtain ⟨x9,f1,H⟩:=bct H
  try simp only [go_sem,↓reduceIte,ZC,ZE,ZF,ZD,ZG,ZH,Kn,q,tT,hF.f,hF.m,hF.x hX,f1,Qjx]
  refine go ?_;refine apw (g:=K2) (rows:=[[.str x9,.Yd,i6 (i64.wrap (YS+1))]]) hF 0 H Bnd.X6 true rfl (by simp only [sf,i6,zB,Vn,VQ,cI,cU,cS,cL,Bnd.Yb,Zp,Zq,Fm.num,Fm.sc,Zr,Hit.name,Hit.depth,Hit.one,Hit.many,Cor.kind,Cor.id,Cor.name,Cor.num,Cor.ids,Cor.data,Cor.kids,Val.kind,Val.num,Val.name,Val.items,Val.fn,Val.env,Slt.id,Slt.val,Qr,K9,KK,Kj,QU];exact (.cons (.refl _) id (.cons .Yd (fun _=>rfl) (.cons (.refl _) id .nil)))) fun x17 H v6 s7 hF=>?_;refine go ?_;refine st hF 0 (hF.cells 0 rfl) fun s8 hF=>?_;refine go ?_;exact IH  x17 (i64.wrap (YS+1)) _ H _ rfl Q tt b1 b3 hE hR _ _ v6 S hF
 ·refine go ?_;exact wq (hE _ (pur H).symm _ _ z0v0 S hF)
theorem D1:∀  r,GJ  = some r->VP K1 10 [] (.agg (Za r)):=by
 intro  r H;intro σ;unfold GJ at H;refine hdg mixed Tryz.func10 (rs:=[.cell 0 30]) fun q tT=>?_;have hF:=K4 σ;have hX:=Tau.none σ;refine go ?_;refine Ya hF rfl fun b1 ss2 hF=>?_;refine go ?_;refine Ya hF rfl fun b3 ss4 hF=>?_;refine go ?_;refine st hF 0 rfl fun ss5 hF=>?_
 try simp only [go_sem,↓reduceIte,ZC,ZE,ZF,ZD,ZG,ZH,Kn,q,tT,hF.f,hF.m,hF.x hX,U8]
 have hF:=hF.nil 53 3;refine go ?_;obtain ⟨o9,ho9,H⟩:=bnd H;refine CW  [] 0 _ ho9 _ rfl _ _ b1 b3 ?_ ?_ _ _ .Yd S hF
 ·intro Ee he T11 s12 e10v0 tT hF;have he:=he.symm;subst he;refine go ?_;refine st hF 1 rfl fun s14 hF=>?_;refine go ?_;have e:=pur H;subst e;exact rt _
 ·trivial
theorem Ma:∀(a0 a1:List Int) (Yh:Int) out,Iw a0 a1 Yh=some out->∀c,Yg Tryz.f50 0=some c->∀(Q:QT) (tt:Sto),(∀(_u:Unit),out=Sum.inr ()->∀(T:TT) (σ:Sto),0+0=0->Fx tt σ [] []->Q (.ex 0) ⟨T,σ⟩)->(∀r,out=Sum.inl r->∀s',ID K1 [.tmp 4] (fun r' ss'=>r'=.bool r/\ss'=tt) s'->Q .ret s')->∀(T:TT) (σ:Sto),T 0=sf cI a0/\T 1=sf cI a1/\T 5=i6 Yh->Fx tt σ [] []->aLp K1 c Q ⟨T,σ⟩:=by
 intro a0 a1 Yh;revert Yh;refine Iw.partial_correctness a0 a1 _ ?_;intro Iw IH Yh out H c hc Q tt  hE hR T σ tT hF;refine lpx tt hc rfl fun q hX=>go ?_;refine cdp H (fun h H=>?_) (fun h H=>?_)
 ·refine go ?_;refine Yj E0 [.v,.v,.v,.v,.v,.v,.v,.v,.v] (by kernel_rfl) ?_;obtain ⟨x19,f1,H⟩:=bil (g:=cI) (fun _=>rfl) H;obtain ⟨x23,f2,H⟩:=bil (g:=cI) (fun _=>rfl) H;refine go2 ?_;refine go ?_;refine cdn H (fun h H=>?_) (fun h H=>?_)
  ·refine go ?_;exact wq (hR _ (pur H).symm _ (rt _))
  ·refine go ?_;exact IH  (i64.wrap (Yh+1)) _ H _ rfl Q tt  hE hR _ _  S hF
 ·refine go ?_;exact wq (hE () (pur H).symm _ _  S hF)
theorem Py:∀(a0 a1:List Int) r,B8 a0 a1=some r->VP K1 50 [sf cI a0,sf cI a1] (.bool r):=by
 intro a0 a1 r H;intro σ;unfold B8 at H;refine hdg mixed Tryz.func50 (rs:=[.tmp 4]) fun q tT=>?_;have hF:=K4 σ;have hX:=Tau.none σ;refine go ?_;refine cdn H (fun h H=>?_) (fun h H=>?_)
 ·refine go ?_;have e:=pur H;subst e;exact rt _
 ·refine go ?_;obtain ⟨o1,ho1,H⟩:=bnd H;refine Ma a0 a1 0 _ ho1 _ rfl _ _  ?_ ?_ _ _  S hF
  ·intro _ he T3 ss4 tT hF;have he:=he.symm;subst he
   try dsimp only at H
   refine go ?_;have e:=pur H;subst e;exact rt _
  ·intro r hr s' hs;subst hr;have e:=pur H;subst e;exact hsq hs
theorem Lj:∀(a0 a1:List Bnd) (Yh:Int) out,W4 a0 a1 Yh=some out->∀c,Yg Tryz.f27 0=some c->∀(Q:QT) (tt:Sto),(∀(_u:Unit),out=Sum.inr ()->∀(T:TT) (σ:Sto),0+0=0->Fx tt σ [] []->Q (.ex 0) ⟨T,σ⟩)->(∀r,out=Sum.inl r->∀s',ID K1 [.tmp 4] (fun r' ss'=>r'=.bool r/\ss'=tt) s'->Q .ret s')->∀(T:TT) (σ:Sto),T 0=sf K2 a0/\T 1=sf K2 a1/\T 5=i6 Yh->Fx tt σ [] []->aLp K1 c Q ⟨T,σ⟩:=by
 intro a0 a1 Yh;revert Yh;refine W4.partial_correctness a0 a1 _ ?_;intro W4 IH Yh out H c hc Q tt  hE hR T σ tT hF;refine lpx tt hc rfl fun q hX=>go ?_;refine cdp H (fun h H=>?_) (fun h H=>?_)
 ·refine go ?_;refine Yj E0 [.v,.v,.v,.v,.v,.v,.v,.v,.v,.v,.v,.v,.v,.v,.v,.v,.v,.v,.v,.v,.v,.v,.v,.v,.v,.v,.v,.v,.v,.v,.v,.v,.v,.v,.v,.v,.v,.v] (by kernel_rfl) ?_;obtain ⟨x19,f1,H⟩:=bil (g:=K2) Bnd.X6 H;obtain ⟨x24,f2,H⟩:=bil (g:=K2) Bnd.X6 H;refine go2 ?_;obtain ⟨x40,g1,H⟩:=bnd H;refine V0 11 29 40 (.bool x40) (tiN q (fun q=>?_) (fun q=>?_)) (fun J=>?_)
  ·rw [if_pos (dnf q)] at g1;obtain ⟨x31,f1,g1⟩:=bil (g:=K2) Bnd.X6 g1;obtain ⟨x36,f2,g1⟩:=bil (g:=K2) Bnd.X6 g1;refine go2 ?_;refine go ?_;exact Yt 29 g1
  ·rw [if_neg (dnt q)] at g1;refine go ?_;exact Yt 29 g1
  refine go ?_;obtain ⟨x54,g3,H⟩:=bnd H;refine V0 12 42 54 (.bool x54) (tiN q (fun q=>?_) (fun q=>?_)) (fun J=>?_)
  ·rw [if_neg (dbf q)] at g3;obtain ⟨x44,f1,g3⟩:=bil (g:=K2) Bnd.X6 g3;obtain ⟨x49,f2,g3⟩:=bil (g:=K2) Bnd.X6 g3;refine go2 ?_;obtain ⟨x52,hx52,g3⟩:=bnd g3;refine cv (Py x44.sc x49.sc _ hx52) ?_;refine go ?_;exact Yt 42 g3
  ·rw [if_pos (dbt q)] at g3;refine go ?_;exact Yt 42 g3
  refine go ?_;refine cdb H (fun h H=>?_) (fun h H=>?_)
  ·refine go ?_;exact wq (hR _ (pur H).symm _ (rt _))
  ·refine go ?_;exact IH  (i64.wrap (Yh+1)) _ H _ rfl Q tt  hE hR _ _  S hF
 ·refine go ?_;exact wq (hE () (pur H).symm _ _  S hF)
theorem Om:∀(a0 a1:List Bnd) r,AB a0 a1=some r->VP K1 27 [sf K2 a0,sf K2 a1] (.bool r):=by
 intro a0 a1 r H;intro σ;unfold AB at H;refine hdg mixed Tryz.func27 (rs:=[.tmp 4]) fun q tT=>?_;have hF:=K4 σ;have hX:=Tau.none σ;refine go ?_;refine cdn H (fun h H=>?_) (fun h H=>?_)
 ·refine go ?_;have e:=pur H;subst e;exact rt _
 ·refine go ?_;obtain ⟨o5,ho5,H⟩:=bnd H;refine Lj a0 a1 0 _ ho5 _ rfl _ _  ?_ ?_ _ _  S hF
  ·intro _ he T7 s8 tT hF;have he:=he.symm;subst he
   try dsimp only at H
   refine go ?_;have e:=pur H;subst e;exact rt _
  ·intro r hr s' hs;subst hr;have e:=pur H;subst e;exact hsq hs
theorem Cy:∀(a0 a1:List Int) (JX:Int) out,Vt a0 a1 JX=some out->∀c,Yg Tryz.f56 0=some c->∀(Q:QT) (tt:Sto),(∀(_u:Unit),out=Sum.inr ()->∀(T:TT) (σ:Sto),0+0=0->Fx tt σ [] []->Q (.ex 0) ⟨T,σ⟩)->(∀r,out=Sum.inl r->∀s',ID K1 [.tmp 4] (fun r' ss'=>r'=.bool r/\ss'=tt) s'->Q .ret s')->∀(T:TT) (σ:Sto),T 0=sf cI a0/\T 1=sf cI a1/\T 12=i6 (a0.length:Int)/\T 13=i6 JX->Fx tt σ [] []->aLp K1 c Q ⟨T,σ⟩:=by
 intro a0 a1 JX;revert JX;refine Vt.partial_correctness a0 a1 _ ?_;intro Vt IH JX out H c hc Q tt  hE hR T σ tT hF;refine lpx tt hc rfl fun q hX=>go ?_;refine cdp H (fun h H=>?_) (fun h H=>?_)
 ·refine go ?_;refine Yj E0 [.v,.v,.v,.v,.v,.v,.v,.v,.v] (by kernel_rfl) ?_;obtain ⟨x18,f1,H⟩:=bil (g:=cI) (fun _=>rfl) H;obtain ⟨x22,f2,H⟩:=bil (g:=cI) (fun _=>rfl) H;refine go2 ?_;refine go ?_;refine cdn H (fun h H=>?_) (fun h H=>?_)
  ·refine go ?_;exact wq (hR _ (pur H).symm _ (rt _))
  ·refine go ?_;exact IH  (i64.wrap (JX+1)) _ H _ rfl Q tt  hE hR _ _  S hF
 ·refine go ?_;exact wq (hE () (pur H).symm _ _  S hF)
theorem AZ:∀(a0 a1:List Int) r,Jf a0 a1=some r->VP K1 56 [sf cI a0,sf cI a1] (.bool r):=by
 intro a0 a1 r H;intro σ;unfold Jf at H;refine hdg mixed Tryz.func56 (rs:=[.tmp 4]) fun q tT=>?_;have hF:=K4 σ;have hX:=Tau.none σ;refine go ?_;refine cdn H (fun h H=>?_) (fun h H=>?_)
 ·refine go ?_;have e:=pur H;subst e;exact rt _
 ·refine go ?_;obtain ⟨o1,ho1,H⟩:=bnd H;refine Cy a0 a1 0 _ ho1 _ rfl _ _  ?_ ?_ _ _  S hF
  ·intro _ he T3 ss4 tT hF;have he:=he.symm;subst he
   try dsimp only at H
   refine go ?_;have e:=pur H;subst e;exact rt _
  ·intro r hr s' hs;subst hr;have e:=pur H;subst e;exact hsq hs
theorem L3:(∀(a0 a1:Fm) r,Wi a0 a1=some r->VP K1 52 [.agg (K0 a0),.agg (K0 a1)] (.bool r))/\(∀(a0 a1:List Fm) r,YU a0 a1=some r->VP K1 76 [sf K0 a0,sf K0 a1,.fn 52 []] (.bool r)):=by
 have h:=Wi.mutual_partial_correctness  (motive_1:=fun a0 a1 r=>VP K1 52 [.agg (K0 a0),.agg (K0 a1)] (.bool r)) (motive_2:=fun a0 a1 r=>VP K1 76 [sf K0 a0,sf K0 a1,.fn 52 []] (.bool r)) (motive_3:=fun a0 a1 GY out=>∀c,Yg Tryz.f76 0=some c->∀(Q:QT) (tt:Sto),(∀(_u:Unit),out=Sum.inr ()->∀(T:TT) (σ:Sto),0+0=0->Fx tt σ [] []->Q (.ex 0) ⟨T,σ⟩)->(∀r,out=Sum.inl r->∀s',ID K1 [.tmp 6] (fun r' ss'=>r'=.bool r/\ss'=tt) s'->Q .ret s')->∀(T:TT) (σ:Sto),T 1=sf K0 a1/\T 2=.fn 52 []/\T 15=sf K0 a0/\T 16=i6 (a0.length:Int)/\T 17=i6 GY->Fx tt σ [] []->aLp K1 c Q ⟨T,σ⟩) ?s0 ?s1 ?s2
 ·exact ⟨h.1,h.2.1⟩
 ·intro YU C1 a0 a1 r H;intro σ;refine hdg mixed Tryz.func52 (rs:=[.tmp 4]) fun q tT=>?_;have hF:=K4 σ;have hX:=Tau.none σ;refine go ?_;refine Ya hF rfl fun b1 ss2 hF=>?_;refine go ?_;refine Ya hF rfl fun b3 ss4 hF=>?_;refine go ?_;obtain ⟨x16,g5,H⟩:=bnd H;refine Yc 5 11 16 (.bool x16) (gi q (fun q=>?_) (fun q=>?_)) (fun J=>?_)
  ·refine go ?_;exact Yt 11 g5
  ·refine go ?_;exact Yt 11 g5
  refine go ?_;obtain ⟨x23,g7,H⟩:=bnd H;refine Yc 5 18 23 (.bool x23) (gi q (fun q=>?_) (fun q=>?_)) (fun J=>?_)
  ·refine go ?_;exact Yt 18 g7
  ·refine go ?_;exact Yt 18 g7
  refine go ?_;obtain ⟨x30,g9,H⟩:=bnd H;refine Yc 5 25 30 (.bool x30) (gi q (fun q=>?_) (fun q=>?_)) (fun J=>?_)
  ·rw [if_pos (dbt q)] at g9;refine go ?_;obtain ⟨x29,hx29,g9⟩:=bnd g9;refine cl (AZ a0.sc a1.sc _ hx29) ?_;refine go ?_;exact Yt 25 g9
  ·rw [if_neg (dbf q)] at g9;refine go ?_;exact Yt 25 g9
  refine go ?_;obtain ⟨x37,g11,H⟩:=bnd H;refine Yc 5 32 37 (.bool x37) (gi q (fun q=>?_) (fun q=>?_)) (fun J=>?_)
  ·rw [if_pos (dbt q)] at g11;refine go ?_;obtain ⟨x36,hx36,g11⟩:=bnd g11;refine cl (C1 a0.kids a1.kids _ hx36) ?_;refine go ?_;exact Yt 32 g11
  ·rw [if_neg (dbf q)] at g11;refine go ?_;exact Yt 32 g11
  refine go ?_;have e:=pur H;subst e;exact rt _
 ·intro Yp L0 a0 a1 r H;intro σ;refine hdg mixed Tryz.func76 (rs:=[.tmp 6]) fun q tT=>?_;have hF:=K4 σ;have hX:=Tau.none σ;refine go ?_;refine cdn H (fun h H=>?_) (fun h H=>?_)
  ·refine go ?_;have e:=pur H;subst e;exact rt _
  ·refine go ?_;obtain ⟨o7,ho7,H⟩:=bnd H;refine L0 a0 a1 0 _ ho7 _ rfl _ _  ?_ ?_ _ _  S hF
   ·intro _ he T9 s10 tT hF;have he:=he.symm;subst he
    try dsimp only at H
    refine go ?_;have e:=pur H;subst e;exact rt _
   ·intro r hr s' hs;subst hr;have e:=pur H;subst e;exact hsq hs
 ·intro Wi Yp C0 L0 a0 a1 GY out H c hc Q tt  hE hR T σ tT hF;refine lpx tt hc rfl fun q hX=>go ?_;refine cdp H (fun h H=>?_) (fun h H=>?_)
  ·obtain ⟨x20,f1,H⟩:=bil (g:=K0) Fm.X6 H;refine go1 ?_;refine Ya hF rfl fun b1 ss2 hF=>?_;refine go ?_;refine st hF 0 rfl fun ss3 hF=>?_;obtain ⟨x24,f1,H⟩:=bil (g:=K0) Fm.X6 H;refine go1 ?_;refine Ya hF rfl fun b4 ss5 hF=>?_;refine go ?_;refine st hF 0 rfl fun ss6 hF=>?_;refine go ?_;obtain ⟨x29,hx29,H⟩:=bnd H;refine cl (C0 x20 x24 _ hx29) ?_;refine go ?_;refine cdb H (fun h H=>?_) (fun h H=>?_)
   ·refine go ?_;exact wq (hR _ (pur H).symm _ (rt _))
   ·refine go ?_;exact L0 a0 a1 (i64.wrap (GY+1)) _ H _ rfl Q tt  hE hR _ _  S (hF.drop 2 0)
  ·refine go ?_;exact wq (hE () (pur H).symm _ _  S hF)
theorem Io:∀(a0 a1:Fm) r,Wi a0 a1=some r->VP K1 52 [.agg (K0 a0),.agg (K0 a1)] (.bool r):=L3.1
theorem Lk:∀(a0 a1:List Fm) (Yh:Int) out,IP a0 a1 Yh=some out->∀c,Yg Tryz.f51 0=some c->∀(Q:QT) (tt:Sto),(∀(_u:Unit),out=Sum.inr ()->∀(T:TT) (σ:Sto),0+0=0->Fx tt σ [] []->Q (.ex 0) ⟨T,σ⟩)->(∀r,out=Sum.inl r->∀s',ID K1 [.tmp 4] (fun r' ss'=>r'=.bool r/\ss'=tt) s'->Q .ret s')->∀(T:TT) (σ:Sto),T 0=sf K0 a0/\T 1=sf K0 a1/\T 5=i6 Yh->Fx tt σ [] []->aLp K1 c Q ⟨T,σ⟩:=by
 intro a0 a1 Yh;revert Yh;refine IP.partial_correctness a0 a1 _ ?_;intro IP IH Yh out H c hc Q tt  hE hR T σ tT hF;refine lpx tt hc rfl fun q hX=>go ?_;refine cdp H (fun h H=>?_) (fun h H=>?_)
 ·refine go ?_;refine Yj E0 [.v,.v,.v,.v,.v,.v,.v,.v,.v,.v] (by kernel_rfl) ?_;obtain ⟨x19,f1,H⟩:=bil (g:=K0) Fm.X6 H;obtain ⟨x23,f2,H⟩:=bil (g:=K0) Fm.X6 H;refine go2 ?_;refine bp H (Io x19 x23) fun x25 h H=>cv h ?_;refine go ?_;refine cdb H (fun h H=>?_) (fun h H=>?_)
  ·refine go ?_;exact wq (hR _ (pur H).symm _ (rt _))
  ·refine go ?_;exact IH  (i64.wrap (Yh+1)) _ H _ rfl Q tt  hE hR _ _  S hF
 ·refine go ?_;exact wq (hE () (pur H).symm _ _  S hF)
theorem On:∀(a0 a1:List Fm) r,Eo a0 a1=some r->VP K1 51 [sf K0 a0,sf K0 a1] (.bool r):=by
 intro a0 a1 r H;intro σ;unfold Eo at H;refine hdg mixed Tryz.func51 (rs:=[.tmp 4]) fun q tT=>?_;have hF:=K4 σ;have hX:=Tau.none σ;refine go ?_;refine cdn H (fun h H=>?_) (fun h H=>?_)
 ·refine go ?_;have e:=pur H;subst e;exact rt _
 ·refine go ?_;obtain ⟨o1,ho1,H⟩:=bnd H;refine Lk a0 a1 0 _ ho1 _ rfl _ _  ?_ ?_ _ _  S hF
  ·intro _ he T3 ss4 tT hF;have he:=he.symm;subst he
   try dsimp only at H
   refine go ?_;have e:=pur H;subst e;exact rt _
  ·intro r hr s' hs;subst hr;have e:=pur H;subst e;exact hsq hs
theorem Ll:∀(a0 a1:Mac) (Yh:Int) out,IQ a0 a1 Yh=some out->∀c,Yg Tryz.f28 0=some c->∀(Q:QT) (tt:Sto) (b1 b3:Nat),(∀(_u:Unit),out=Sum.inr ()->∀(T:TT) (σ:Sto),0+0=0->Fx tt σ [(b3,⟨62,3,[i6 a1.id,sf K0 a1.lits,sf K7 a1.rules]⟩),(b1,⟨62,3,[i6 a0.id,sf K0 a0.lits,sf K7 a0.rules]⟩)] []->Q (.ex 0) ⟨T,σ⟩)->(∀r,out=Sum.inl r->∀s',ID K1 [.tmp 4] (fun r' ss'=>r'=.bool r/\ss'=tt) s'->Q .ret s')->∀(T:TT) (σ:Sto),T 2=.ptr b1 0/\T 3=.ptr b3 0/\T 5=i6 Yh->Fx tt σ [(b3,⟨62,3,[i6 a1.id,sf K0 a1.lits,sf K7 a1.rules]⟩),(b1,⟨62,3,[i6 a0.id,sf K0 a0.lits,sf K7 a0.rules]⟩)] []->aLp K1 c Q ⟨T,σ⟩:=by
 intro a0 a1 Yh;revert Yh;refine IQ.partial_correctness a0 a1 _ ?_;intro IQ IH Yh out H c hc Q tt b1 b3 hE hR T σ tT hF;refine lpx tt hc rfl fun q hX=>go ?_;refine cdp H (fun h H=>?_) (fun h H=>?_)
 ·refine go ?_;refine Yj E0 [.v,.v,.v,.v,.v,.v,.v,.v,.v,.v,.v,.v,.v,.v,.v,.v,.v,.v,.v,.v,.v,.v,.v,.v,.v,.v,.v,.v,.v,.v] (by kernel_rfl) ?_;obtain ⟨x38,f1,H⟩:=bil (g:=K7) Rul.X6 H;obtain ⟨x44,f2,H⟩:=bil (g:=K7) Rul.X6 H;refine go2 ?_;refine bp H (Io x38.pat x44.pat) fun x47 h H=>cv h ?_;refine go ?_;obtain ⟨x64,g9,H⟩:=bnd H;refine V0 14 50 64 (.bool x64) (tiN q (fun q=>?_) (fun q=>?_)) (fun J=>?_)
  ·rw [if_neg (dbf q)] at g9;obtain ⟨x53,f1,g9⟩:=bil (g:=K7) Rul.X6 g9;obtain ⟨x59,f2,g9⟩:=bil (g:=K7) Rul.X6 g9;refine go2 ?_;obtain ⟨x62,hx62,g9⟩:=bnd g9;refine cv (Io x53.tpl x59.tpl _ hx62) ?_;refine go ?_;exact Yt 50 g9
  ·rw [if_pos (dbt q)] at g9;refine go ?_;exact Yt 50 g9
  refine go ?_;refine cdb H (fun h H=>?_) (fun h H=>?_)
  ·refine go ?_;exact wq (hR _ (pur H).symm _ (rt _))
  ·refine go ?_;exact IH  (i64.wrap (Yh+1)) _ H _ rfl Q tt b1 b3 hE hR _ _  S hF
 ·refine go ?_;exact wq (hE () (pur H).symm _ _  S hF)
theorem Oo:∀(a0 a1:Mac) r,Ep a0 a1=some r->VP K1 28 [.agg (Ze a0),.agg (Ze a1)] (.bool r):=by
 intro a0 a1 r H;intro σ;unfold Ep at H;refine hdg mixed Tryz.func28 (rs:=[.tmp 4]) fun q tT=>?_;have hF:=K4 σ;have hX:=Tau.none σ;refine go ?_;refine Ya hF rfl fun b1 ss2 hF=>?_;refine go ?_;refine Ya hF rfl fun b3 ss4 hF=>?_;refine go ?_;obtain ⟨x18,g5,H⟩:=bnd H;refine Yc 6 12 18 (.bool x18) (giN q (fun q=>?_) (fun q=>?_)) (fun J=>?_)
 ·rw [if_pos (dnf q)] at g5;refine go ?_;obtain ⟨x16,hx16,g5⟩:=bnd g5;refine cl (On a0.lits a1.lits _ hx16) ?_;refine go ?_;exact Yt 12 g5
 ·rw [if_neg (dnt q)] at g5;refine go ?_;exact Yt 12 g5
 refine go ?_;obtain ⟨x27,g7,H⟩:=bnd H;refine Yc 7 20 27 (.bool x27) (giN q (fun q=>?_) (fun q=>?_)) (fun J=>?_)
 ·refine go ?_;exact Yt 20 g7
 ·refine go ?_;exact Yt 20 g7
 refine go ?_;refine cdb H (fun h H=>?_) (fun h H=>?_)
 ·refine go ?_;have e:=pur H;subst e;exact rt _
 ·refine go ?_;obtain ⟨o11,ho11,H⟩:=bnd H;refine Ll a0 a1 0 _ ho11 _ rfl _ _ b1 b3 ?_ ?_ _ _  S hF
  ·intro _ he T13 s14 tT hF;have he:=he.symm;subst he
   try dsimp only at H
   refine go ?_;have e:=pur H;subst e;exact rt _
  ·intro r hr s' hs;subst hr;have e:=pur H;subst e;exact hsq hs
theorem Lm:∀(a0 a1:Xpn) (Yh:Int) out,GK a0 a1 Yh=some out->∀c,Yg Tryz.f11 0=some c->∀(Q:QT) (tt:Sto) (b1 b3:Nat),(∀(_u:Unit),out=Sum.inr ()->∀(T:TT) (σ:Sto),0+0=0->Fx tt σ [(b3,⟨30,5,[sf K2 a1.binds,sf Ze a1.macs,i6 a1.scope,i6 a1.id,i6 a1.steps]⟩),(b1,⟨30,5,[sf K2 a0.binds,sf Ze a0.macs,i6 a0.scope,i6 a0.id,i6 a0.steps]⟩)] []->Q (.ex 0) ⟨T,σ⟩)->(∀r,out=Sum.inl r->∀s',ID K1 [.tmp 4] (fun r' ss'=>r'=.bool r/\ss'=tt) s'->Q .ret s')->∀(T:TT) (σ:Sto),T 2=.ptr b1 0/\T 3=.ptr b3 0/\T 5=i6 Yh->Fx tt σ [(b3,⟨30,5,[sf K2 a1.binds,sf Ze a1.macs,i6 a1.scope,i6 a1.id,i6 a1.steps]⟩),(b1,⟨30,5,[sf K2 a0.binds,sf Ze a0.macs,i6 a0.scope,i6 a0.id,i6 a0.steps]⟩)] []->aLp K1 c Q ⟨T,σ⟩:=by
 intro a0 a1 Yh;revert Yh;refine GK.partial_correctness a0 a1 _ ?_;intro GK IH Yh out H c hc Q tt b1 b3 hE hR T σ tT hF;refine lpx tt hc rfl fun q hX=>go ?_;refine cdp H (fun h H=>?_) (fun h H=>?_)
 ·refine go ?_;refine Yj E0 [.v,.v,.v,.v,.v,.v,.v,.v,.v,.v,.v,.v] (by kernel_rfl) ?_;obtain ⟨x52,f1,H⟩:=bil (g:=Ze) Mac.X6 H;obtain ⟨x57,f2,H⟩:=bil (g:=Ze) Mac.X6 H;refine go2 ?_;refine bp H (Oo x52 x57) fun x59 h H=>cv h ?_;refine go ?_;refine cdb H (fun h H=>?_) (fun h H=>?_)
  ·refine go ?_;exact wq (hR _ (pur H).symm _ (rt _))
  ·refine go ?_;exact IH  (i64.wrap (Yh+1)) _ H _ rfl Q tt b1 b3 hE hR _ _  S hF
 ·refine go ?_;exact wq (hE () (pur H).symm _ _  S hF)
theorem Oq:∀(a0 a1:Xpn) r,BB a0 a1=some r->VP K1 11 [.agg (Za a0),.agg (Za a1)] (.bool r):=by
 intro a0 a1 r H;intro σ;unfold BB at H;refine hdg mixed Tryz.func11 (rs:=[.tmp 4]) fun q tT=>?_;have hF:=K4 σ;have hX:=Tau.none σ;refine go ?_;refine Ya hF rfl fun b1 ss2 hF=>?_;refine go ?_;refine Ya hF rfl fun b3 ss4 hF=>?_;refine go ?_;refine bp H (Om a0.binds a1.binds) fun x10 h H=>cl h ?_;refine go ?_;obtain ⟨x20,g5,H⟩:=bnd H;refine Yc 7 13 20 (.bool x20) (giN q (fun q=>?_) (fun q=>?_)) (fun J=>?_)
 ·refine go ?_;exact Yt 13 g5
 ·refine go ?_;exact Yt 13 g5
 refine go ?_;obtain ⟨x27,g7,H⟩:=bnd H;refine Yc 5 22 27 (.bool x27) (giN q (fun q=>?_) (fun q=>?_)) (fun J=>?_)
 ·refine go ?_;exact Yt 22 g7
 ·refine go ?_;exact Yt 22 g7
 refine go ?_;obtain ⟨x34,g9,H⟩:=bnd H;refine Yc 5 29 34 (.bool x34) (giN q (fun q=>?_) (fun q=>?_)) (fun J=>?_)
 ·refine go ?_;exact Yt 29 g9
 ·refine go ?_;exact Yt 29 g9
 refine go ?_;obtain ⟨x41,g11,H⟩:=bnd H;refine Yc 5 36 41 (.bool x41) (giN q (fun q=>?_) (fun q=>?_)) (fun J=>?_)
 ·refine go ?_;exact Yt 36 g11
 ·refine go ?_;exact Yt 36 g11
 refine go ?_;refine cdb H (fun h H=>?_) (fun h H=>?_)
 ·refine go ?_;have e:=pur H;subst e;exact rt _
 ·refine go ?_;obtain ⟨o13,ho13,H⟩:=bnd H;refine Lm a0 a1 0 _ ho13 _ rfl _ _ b1 b3 ?_ ?_ _ _  S hF
  ·intro _ he T15 s16 tT hF;have he:=he.symm;subst he
   try dsimp only at H
   refine go ?_;have e:=pur H;subst e;exact rt _
  ·intro r hr s' hs;subst hr;have e:=pur H;subst e;exact hsq hs
set_option maxHeartbeats 1000000 in
set_option maxRecDepth 100000 in
theorem Qnf (s:ByteArray) (c:Int) (w:World) :
  Calls K1 101 #[.string s,.int .u8 c] w fun e w'=>e=.returned (Value.int .i64 (Lib.indexByte s.data.toList c.toNat.toUInt8))/\w'=w:=by
 go_enter Tryz.func101,Tryz.ntmps101
 go_wp2
 rw [run_callFunc_extern Tryz.func128 (by kernel_rfl) (by kernel_rfl) (by kernel_rfl) (e:=Extern.BytealgIndexByte.indexByte) (by kernel_rfl),Lib.run_indexByteString];simp only [Result.andThen];rw [Oper.upon_value]
 go_wp2
 go_ret
 exact ⟨rfl,rfl⟩
set_option maxHeartbeats 1000000 in
theorem Qqj (s:ByteArray) (c:Int) (w:World) :
  Calls K1 77 #[.string s,.int .u8 c] w fun e w'=>e=.returned (Value.int .i64 (Lib.indexByte s.data.toList c.toNat.toUInt8))/\w'=w:=by
 go_enter Tryz.func77,Tryz.ntmps77
 go_wp2_with (go_at_call 101;refine (Qnf _ _ _).mono ?_;rintro e w' ⟨rfl,rfl⟩)
 go_ret
 exact ⟨rfl,rfl⟩
theorem Qqh {P : Program} {f : FuncId} {fn : Func} (hf : P.funcs[f]? = some fn) (hb : fn.body.isNone = false) (hn : (fn.name == "runtime.NumGoroutine") = false) {s : ByteArray} {c r : Int}
  (h:∀w,Calls P f #[.string s,.int .u8 c] w fun e w'=>e=.returned (Value.int .i64 r)/\w'=w):VP P f [.str s,.int .u8 c] (i6 r):=by
 intro σ;refine ⟨⟨fn,hf,hb,hn⟩,fun w cargs hsim htb hl hr=>?_⟩;have h0:=hr 0 _ rfl;have h1:=hr 1 _ rfl
 match cargs,hl with
 | [x,y],_ =>
  simp only [List.getD_cons_zero,List.getD_cons_succ] at h0 h1;cases h0;cases h1;refine (h w).mono ?_;rintro e w' ⟨rfl,rfl⟩;exact ⟨_,_,σ,rfl,Step.refl _ _,hsim,.int,rfl,rfl⟩
theorem Fa:∀(a0:ByteArray) (a1:Int) r,I8 a0 a1=some r->VP K1 77 [.str a0,.int .u8 a1] (i6 r):=by
 intro a0 a1 r H
 injection H with H
 subst H;exact Qqh Tryz.func77 (by kernel_rfl) (by kernel_rfl) (Qqj a0 a1)
theorem WV:∀(a0 a1 a2:Int) r,V7 a0 a1 a2=some r->VP K1 31 [i6 a0,i6 a1,i6 a2] (.bool r):=by
 intro a0 a1 a2 r H;intro σ;unfold V7 at H;refine hdg mixed Tryz.func31 (rs:=[.tmp 6]) fun q tT=>?_;have hF:=K4 σ;have hX:=Tau.none σ;refine go ?_;obtain ⟨x14,g1,H⟩:=bnd H;refine Yc 3 11 14 (.bool x14) (gi q (fun q=>?_) (fun q=>?_)) (fun J=>?_)
 ·refine go ?_;exact Yt 11 g1
 ·refine go ?_;exact Yt 11 g1
 refine go ?_;have e:=pur H;subst e;exact rt _
theorem E3:∀(a0:ByteArray) (YF:Int) out,V2 a0 YF=some out->∀c,Yg Tryz.f53 0=some c->∀(Q:QT) (tt:Sto),(∀(_u:Unit),out=Sum.inr ()->∀(T:TT) (σ:Sto),T 0=.str a0->Fx tt σ [] []->Q (.ex 0) ⟨T,σ⟩)->(∀r,out=Sum.inl r->∀s',ID K1 [.tmp 2] (fun r' ss'=>r'=.bool r/\ss'=tt) s'->Q .ret s')->∀(T:TT) (σ:Sto),T 0=.str a0/\T 3=i6 YF->Fx tt σ [] []->aLp K1 c Q ⟨T,σ⟩:=by
 intro a0 YF;revert YF;refine V2.partial_correctness a0 _ ?_;intro V2 IH YF out H c hc Q tt  hE hR T σ tT hF;refine lpx tt hc rfl fun q hX=>go ?_;refine cdp H (fun h H=>?_) (fun h H=>?_)
 ·obtain ⟨x19,f1,H⟩:=bsx H;refine go1 ?_;refine go ?_;obtain ⟨x26,g3,H⟩:=bnd H;refine Yc 2 24 26 (.bool x26) (gi q (fun q=>?_) (fun q=>?_)) (fun J=>?_)
  ·refine go ?_;exact Yt 24 g3
  ·refine go ?_;exact Yt 24 g3
  refine go ?_;obtain ⟨x31,g5,H⟩:=bnd H;refine Yc 3 28 31 (.bool x31) (giN q (fun q=>?_) (fun q=>?_)) (fun J=>?_)
  ·rw [if_neg (dbf q)] at g5;refine go ?_;obtain ⟨x29,hx29,g5⟩:=bnd g5;refine cl (Fa (Qd #[42,63,61,43,60]) x19 _ hx29) ?_;refine go ?_;exact Yt 28 g5
  ·rw [if_pos (dbt q)] at g5;refine go ?_;exact Yt 28 g5
  refine go ?_;refine cdb H (fun h H=>?_) (fun h H=>?_)
  ·refine go ?_;exact IH  (i64.wrap (YF+1)) _ H _ rfl Q tt  hE hR _ _  S hF
  ·refine go ?_;obtain ⟨x46,g7,H⟩:=bnd H;refine Yc 10 36 46 (.bool x46) (gi q (fun q=>?_) (fun q=>?_)) (fun J=>?_)
   ·rw [if_pos (dt q)] at g7;refine go ?_;obtain ⟨x41,g9,g7⟩:=bnd g7;refine Yc 2 39 41 (.bool x41) (gi q (fun q=>?_) (fun q=>?_)) (fun J=>?_)
    ·refine go ?_;exact Yt 39 g9
    ·refine go ?_;exact Yt 39 g9
    refine go ?_;obtain ⟨x45,g11,g7⟩:=bnd g7;refine Yc 2 43 45 (.bool x45) (giN q (fun q=>?_) (fun q=>?_)) (fun J=>?_)
    ·refine go ?_;exact Yt 43 g11
    ·refine go ?_;exact Yt 43 g11
    refine go ?_;exact Yt 36 g7
   ·rw [if_neg (df q)] at g7;refine go ?_;exact Yt 36 g7
   refine go ?_;refine cdb H (fun h H=>?_) (fun h H=>?_)
   ·refine go ?_;exact IH  (i64.wrap (YF+1)) _ H _ rfl Q tt  hE hR _ _  S hF
   ·refine go ?_;exact wq (hR _ (pur H).symm _ (rt _))
 ·refine go ?_;exact wq (hE () (pur H).symm _ _  S hF)
theorem Dk:∀(a0:ByteArray) r,Hr a0=some r->VP K1 53 [.str a0] (.bool r):=by
 intro a0 r H;intro σ;unfold Hr at H;refine hdg mixed Tryz.func53 (rs:=[.tmp 2]) fun q tT=>?_;have hF:=K4 σ;have hX:=Tau.none σ;refine go ?_;obtain ⟨x10,g1,H⟩:=bnd H;refine Yc 2 8 10 (.bool x10) (giN q (fun q=>?_) (fun q=>?_)) (fun J=>?_)
 ·refine go ?_;exact Yt 8 g1
 ·refine go ?_;exact Yt 8 g1
 refine go ?_;refine cdb H (fun h H=>?_) (fun h H=>?_)
 ·refine go ?_;have e:=pur H;subst e;exact rt _
 ·refine go ?_;obtain ⟨o13,ho13,H⟩:=bnd H;refine E3 a0 0 _ ho13 _ rfl _ _  ?_ ?_ _ _  S hF
  ·intro _ he T15 s16 tT hF;have he:=he.symm;subst he
   try dsimp only at H
   refine go ?_;refine bp H (WV (a0.size:Int) 1 12) fun x49 h H=>cl h ?_;refine go ?_;have e:=pur H;subst e;exact rt _
  ·intro r hr s' hs;subst hr;have e:=pur H;subst e;exact hsq hs
theorem Fw:∀(a0:List Int) (Ym:Int) out,Ji a0 Ym=some out->∀c,Yg Tryz.f54 0=some c->∀(Q:QT) (tt:Sto),(∀(_u:Unit),out=Sum.inr ()->∀(T:TT) (σ:Sto),T 0=sf cI a0->Fx tt σ [] []->Q (.ex 0) ⟨T,σ⟩)->(∀r,out=Sum.inl r->∀s',ID K1 [.tmp 2] (fun r' ss'=>r'=.bool r/\ss'=tt) s'->Q .ret s')->∀(T:TT) (σ:Sto),T 0=sf cI a0/\T 5=sf cI a0/\T 6=i6 (a0.length:Int)/\T 7=i6 Ym->Fx tt σ [] []->aLp K1 c Q ⟨T,σ⟩:=by
 intro a0 Ym;revert Ym;refine Ji.partial_correctness a0 _ ?_;intro Ji IH Ym out H c hc Q tt  hE hR T σ tT hF;refine lpx tt hc rfl fun q hX=>go ?_;refine cdp H (fun h H=>?_) (fun h H=>?_)
 ·obtain ⟨x10,f1,H⟩:=bil (g:=cI) (fun _=>rfl) H;refine go1 ?_;refine go ?_;refine bp H (WV x10 1 99) fun x13 h H=>cl h ?_;refine go ?_;obtain ⟨x27,g1,H⟩:=bnd H;refine Yc 11 16 27 (.bool x27) (giN q (fun q=>?_) (fun q=>?_)) (fun J=>?_)
  ·rw [if_neg (dbf q)] at g1;refine go ?_;obtain ⟨x26,g3,g1⟩:=bnd g1;refine Yc 7 19 26 (.bool x26) (gi q (fun q=>?_) (fun q=>?_)) (fun J=>?_)
   ·rw [if_pos (dt q)] at g3;obtain ⟨x22,f1,g3⟩:=bil (g:=cI) (fun _=>rfl) g3;refine go1 ?_;refine go ?_;exact Yt 19 g3
   ·rw [if_neg (df q)] at g3;refine go ?_;exact Yt 19 g3
   refine go ?_;exact Yt 16 g1
  ·rw [if_pos (dbt q)] at g1;refine go ?_;exact Yt 16 g1
  refine go ?_;refine cdb H (fun h H=>?_) (fun h H=>?_)
  ·refine go ?_;exact wq (hR _ (pur H).symm _ (rt _))
  ·refine go ?_;exact IH  (i64.wrap (Ym+1)) _ H _ rfl Q tt  hE hR _ _  S hF
 ·refine go ?_;exact wq (hE () (pur H).symm _ _  S hF)
theorem DV:∀(a0:List Int) r,Ia a0=some r->VP K1 54 [sf cI a0] (.bool r):=by
 intro a0 r H;intro σ;unfold Ia at H;refine hdg mixed Tryz.func54 (rs:=[.tmp 2]) fun q tT=>?_;have hF:=K4 σ;have hX:=Tau.none σ;refine go ?_;obtain ⟨o5,ho5,H⟩:=bnd H;refine Fw a0 0 _ ho5 _ rfl _ _  ?_ ?_ _ _  S hF
 ·intro _ he T7 s8 tT hF;have he:=he.symm;subst he
  try dsimp only at H
  refine go ?_;have e:=pur H;subst e;exact rt _
 ·intro r hr s' hs;subst hr;have e:=pur H;subst e;exact hsq hs
theorem Eg:∀(a0 c0:Bnd) r,G9 a0 c0=some r->∀(e0:Nat)  (σ:Sto),Pre σ [(e0,⟨53,3,[.str c0.name,sf cI c0.sc,i6 c0.id]⟩)] []->Ctr K1 55 [.agg (K2 a0),.ptr e0 0] σ (fun r' ss'=>∃(tt':Sto),r'=.bool r/\Tau (strip σ []) [(e0,⟨53,3,[.str c0.name,sf cI c0.sc,i6 c0.id]⟩)] tt'/\Fx tt' ss' [] []):=by
 intro a0 c0 r H;intro e0  σ hP;unfold G9 at H;refine hdg mixed Tryz.func55 (rs:=[.tmp 3]) fun q tT=>?_;obtain ⟨hF,hX⟩:=hP.start;generalize strip σ []=tt0 at hF hX ⊢;refine go ?_;refine Ya hF rfl fun b1 ss2 hF=>?_;refine go ?_;obtain ⟨x15,g3,H⟩:=bnd H;refine Yc 5 10 15 (.bool x15) (gi q (fun q=>?_) (fun q=>?_)) (fun J=>?_)
 ·rw [if_pos (dt q)] at g3;refine go ?_;obtain ⟨x14,hx14,g3⟩:=bnd g3;refine cl (AZ a0.sc c0.sc _ hx14) ?_;refine go ?_;exact Yt 10 g3
 ·rw [if_neg (df q)] at g3;refine go ?_;exact Yt 10 g3
 refine go ?_;have e:=pur H;subst e;exact rg _ ⟨_,rfl,hX,K6 _⟩
end Go.Proofs.SA
