/- Printed by a program of mine: the plain functions that the code computes (D), and the walks that show it (W). -/
import Derived.Test.YtiiamkelehfnoaaGreatGx
import Derived.Test.YtiiamkelehfnoaaGreatSaTy
import Derived.Test.YtiiamkelehfnoaaGreatLg
import Derived.Test.YtiiamkelehfnoaaGreatChecked
import Derived.Lib.Strings
import Derived.Lib.Slices
import Derived.Lib.Walk
import Derived.Lib.Bytealg
import Derived.Test.YtiiamkelehfnoaaGreatmeD
import Derived.Test.YtiiamkelehfnoaaGreatmeW0
set_option maxRecDepth 100000
set_option maxHeartbeats 2000000
set_option linter.unusedSimpArgs false
set_option linter.unusedVariables false
open Go Go.Proofs Go.Proofs.Shadow
open Fm renaming cells → KY
open _root_.And renaming intro → K3
open Tryz renaming prog → KZ, f111 → ZH
open Bnd renaming cells → K0
open Mac renaming cells → Zc
open Hit renaming cells → K1
open Cor renaming cells → Zz
open _root_.Int renaming toNat_natCast → Kl, reduceEq → ZF
open Xpn renaming cells → K8, mk → KT
open EE renaming not → K6, of → Zd, new → Zm
open Rul renaming cells → K5
open Fx renaming refl → K2, self → K4, kept → K9
open _root_.List renaming not_mem_nil → KE, mem_cons → Kj, mem_cons_self → KD, flatten_cons → Qr, flatten_nil → K7, cons_append → Kh, mem_singleton → ZG, append_nil → KI, nil_append → QS, map_set → KF
open _root_.Nat renaming reduceEqDiff → ZA, reduceLeDiff → ZB, reduceAdd → ZC, reduceMul → ZD, reduceLT → ZE
open _root_.ByteArray renaming mk → Qk
open _root_.Option renaming map_some → Qu
open Go.IntKind (i64)
namespace Go.Proofs.SA
theorem NC (fx0:List Bnd) (fx1:List Fm):(∀(a1 a3:Fm) r,WW fx0 a1 fx1 a3=some r->VK KZ 203 [sf K0 fx0,.agg (KY a1),sf KY fx1,.agg (KY a3)] (.tup [sf K1 r.1,.bool r.2]))/\(∀(a1 a3:List Fm) r,D1 fx0 a1 fx1 a3=some r->VK KZ 213 [sf K0 fx0,sf KY a1,sf KY fx1,sf KY a3] (.tup [sf K1 r.1,.bool r.2])):=by
 have h:=WW.mutual_partial_correctness fx0 fx1 (motive_1:=fun a1 a3 r=>VK KZ 203 [sf K0 fx0,.agg (KY a1),sf KY fx1,.agg (KY a3)] (.tup [sf K1 r.1,.bool r.2])) (motive_2:=fun a1 a3 r=>VK KZ 213 [sf K0 fx0,sf KY a1,sf KY fx1,sf KY a3] (.tup [sf K1 r.1,.bool r.2])) (motive_3:=fun a1 a3 Jr JY IQ Gg out=>∀c,Yg Tryz.f213 1=some c->∀(Q:QT) (tt:Sto),(∀(Tp:List Hit),out=Sum.inr Tp->∀(T:TT) (σ:Sto) (e1v0:AV),T 10=e1v0->Fx tt σ [] [⟨e1v0,195,12,rws K1 Tp⟩]->Q (.ex 2) ⟨T,σ⟩)->(∀r,out=Sum.inl r->∀s',I7 KZ [.tmp 8,.tmp 9] (fun r' ss'=>r'=.tup [sf K1 r.1,.bool r.2]/\ss'=tt) s'->Q .ret s')->∀(T:TT) (σ:Sto) (z1v0:AV),T 0=sf K0 fx0/\T 1=sf KY a1/\T 2=sf KY fx1/\T 3=sf KY a3/\T 10=z1v0/\T 11=i6 Jr/\T 13=i6 IQ/\T 14=i6 Gg->Fx tt σ [] [⟨z1v0,195,12,rws K1 JY⟩]->aLp KZ c Q ⟨T,σ⟩) (motive_4:=fun a1 a3 Jr JY Gg Qh6 Pv RT out=>∀c,Yg Tryz.f213 2=some c->∀(Q:QT) (tt:Sto) (z1v0:AV),(∀(Qpl:List (List Hit)) (Qlk:Int),out=Sum.inr (Qpl,Qlk)->∀(T:TT) (σ:Sto) (e2v1:AV),T 0=sf K0 fx0/\T 1=sf KY a1/\T 2=sf KY fx1/\T 3=sf KY a3/\T 10=z1v0/\T 11=i6 Jr/\T 13=i6 Qlk/\T 14=i6 Gg/\T 17=e2v1->Fx tt σ [] [⟨e2v1,169,1,rws (cL K1) Qpl⟩,⟨z1v0,195,12,rws K1 JY⟩]->Q (.ex 4) ⟨T,σ⟩)->(∀r,out=Sum.inl r->∀s',I7 KZ [.tmp 8,.tmp 9] (fun r' ss'=>r'=.tup [sf K1 r.1,.bool r.2]/\ss'=tt) s'->Q .ret s')->∀(T:TT) (σ:Sto) (z2v1:AV),T 0=sf K0 fx0/\T 1=sf KY a1/\T 2=sf KY fx1/\T 3=sf KY a3/\T 10=z1v0/\T 11=i6 Jr/\T 13=i6 Pv/\T 14=i6 Gg/\T 17=z2v1/\T 18=i6 RT->Fx tt σ [] [⟨z2v1,169,1,rws (cL K1) Qh6⟩,⟨z1v0,195,12,rws K1 JY⟩]->aLp KZ c Q ⟨T,σ⟩) ?s0 ?s1 ?s2 ?s3
 ·exact ⟨h.1,h.2.1⟩
 ·intro D1 C1 a1 a3 r H;intro σ;refine hdg mixed Tryz.func203 (rs:=[.tmp 8,.tmp 9]) fun q tT=>?_;have hF:=K2 σ;have hX:=Tau.none σ;refine go ?_;refine Ya hF rfl fun b1 ss2 hF=>?_;refine go ?_;refine Ya hF rfl fun b3 ss4 hF=>?_;refine go ?_;refine cdp H (fun h H=>?_) (fun h H=>?_)
  ·refine go ?_;refine cdp H (fun h H=>?_) (fun h H=>?_)
   ·refine go ?_;have e:=pur H;subst e;exact rt _
   ·refine go ?_;refine bp H (CT fx1 a1) fun x21 h H=>cl h ?_;refine go ?_;refine cdb H (fun h H=>?_) (fun h H=>?_)
    ·refine go ?_;obtain ⟨x31,g5,H⟩:=bnd H;refine Yc 4 27 31 (.bool x31) (gi q (fun q=>?_) (fun q=>?_)) (fun J=>?_)
     ·rw [if_pos (dt q)] at g5;refine go ?_;obtain ⟨x30,hx30,g5⟩:=bnd g5;refine cl (PY fx0 a1 a3 _ hx30) ?_;refine go ?_;exact Yr 27 g5
     ·rw [if_neg (df q)] at g5;refine go ?_;exact Yr 27 g5
     refine go ?_;have e:=pur H;subst e;exact rt _
    ·refine go ?_;have hF:=hF.lit 195 12 (rws K1 []) rfl;refine apw (g:=K1) (rows:=[[i6 a1.kind,.str a1.name,i6 a1.num,sf cI a1.sc,sf KY a1.kids,i6 0,i6 a3.kind,.str a3.name,i6 a3.num,sf cI a3.sc,sf KY a3.kids,.Yd]]) hF 0 H Hit.X7 true rfl (by simp only [sf,i6,zB,Vm,VR,cI,cU,cS,cL,Hit.Yb,Fm.Yb,Fm.kind,Fm.name,Fm.num,Fm.sc,Fm.kids,Hit.name,Hit.depth,Hit.one,Hit.many,Cor.kind,Cor.id,Cor.name,Cor.num,Cor.ids,Cor.data,Cor.kids,Val.kind,Val.num,Val.name,Val.items,Val.fn,Val.env,Slt.id,Slt.val,Qr,K7,KI,Kh,QS];exact (.cons (.refl _) id (.cons (.refl _) id (.cons (.refl _) id (.cons (.refl _) id (.cons (.refl _) id (.cons (.refl _) id (.cons (.refl _) id (.cons (.refl _) id (.cons (.refl _) id (.cons (.refl _) id (.cons (.refl _) id (.cons .Yd (fun _=>rfl) .nil))))))))))))) fun x37 H v7 s8 hF=>?_;refine go ?_;have e:=pur H;subst e;exact rt _
  ·refine go ?_;refine cdp H (fun h H=>?_) (fun h H=>?_)
   ·refine go ?_;refine bp H (He a1 a3) fun x44 h H=>cl h ?_;refine go ?_;have e:=pur H;subst e;exact rt _
   ·refine go ?_;refine cdn H (fun h H=>?_) (fun h H=>?_)
    ·refine go ?_;have e:=pur H;subst e;exact rt _
    ·refine go ?_;refine bp H (C1 a1.kids a3.kids) fun x55 h H=>cl h ?_;refine go ?_;have e:=pur H;subst e;exact rt _
 ·intro WG L1 a1 a3 r H;intro σ;refine hdg mixed Tryz.func213 (rs:=[.tmp 8,.tmp 9]) fun q tT=>?_;have hF:=K2 σ;have hX:=Tau.none σ;refine go ?_;obtain ⟨o1,ho1,H⟩:=bnd H;refine MJ fx0 a1 fx1 a3 (-1) 0 _ ho1 _ rfl _ _  ?_ ?_ _ _  S hF
  ·intro Jr he T3 ss4 tT hF;have he:=he.symm;subst he;refine go ?_;obtain ⟨x44,g6,H⟩:=bnd H;refine Yc 5 39 44 (.bool x44) (gi q (fun q=>?_) (fun q=>?_)) (fun J=>?_)
   ·refine go ?_;exact Yr 39 g6
   ·refine go ?_;exact Yr 39 g6
   refine go ?_;obtain ⟨x56,g8,H⟩:=bnd H;refine Yc 10 46 56 (.bool x56) (giN q (fun q=>?_) (fun q=>?_)) (fun J=>?_)
   ·rw [if_neg (dbf q)] at g8;refine go ?_;obtain ⟨x55,g10,g8⟩:=bnd g8;refine Yc 6 49 55 (.bool x55) (gi q (fun q=>?_) (fun q=>?_)) (fun J=>?_)
    ·refine go ?_;exact Yr 49 g10
    ·refine go ?_;exact Yr 49 g10
    refine go ?_;exact Yr 46 g8
   ·rw [if_pos (dbt q)] at g8;refine go ?_;exact Yr 46 g8
   refine go ?_;refine cdb H (fun h H=>?_) (fun h H=>?_)
   ·refine go ?_;have e:=pur H;subst e;exact rt _
   ·have hF:=hF.lit 195 12 (rws K1 []) rfl;refine go ?_;obtain ⟨o27,ho27,H⟩:=bnd H;refine L1 a1 a3 Jr [] 0 0 _ ho27 _ rfl _ _  ?_ ?_ _ _ (.sl true (rws K1 [])) S hF
    ·intro Qbc he T29 s30 e28v0 tT hF;have he:=he.symm;subst he
     try dsimp only at H
     refine go ?_;have e:=pur H;subst e;exact rt _
    ·intro r hr s' hs;subst hr;have e:=pur H;subst e;exact hsq hs
  ·trivial
 ·intro WW WG GF C0 L1 L0 a1 a3 Jr JY IQ Gg out H c hc Q tt  hE hR T σ z1v0 tT hF;refine lpx tt hc rfl fun q hX=>go ?_;refine cdp H (fun h H=>?_) (fun h H=>?_)
  ·obtain ⟨x66,f1,H⟩:=bil (g:=KY) Fm.X7 H;refine go1 ?_;refine bp H (V2 x66) fun x68 h H=>cl h ?_;refine go ?_;refine cdb H (fun h H=>?_) (fun h H=>?_)
   ·refine go ?_;exact L1 a1 a3 Jr JY IQ (i64.wrap (Gg+1)) _ H _ rfl Q tt  hE hR _ _ z1v0 S hF
   ·refine go ?_;refine cdn H (fun h H=>?_) (fun h H=>?_)
    ·refine go ?_;refine Yj E0 [.v,.v,.v,.v,.v,.v,.v,.v,.v,.v,.v,.v,.v,.v,.v,.v] (by kernel_rfl) ?_;obtain ⟨x76,f1,H⟩:=bil (g:=KY) Fm.X7 H;obtain ⟨x81,f2,H⟩:=bil (g:=KY) Fm.X7 H;refine go2 ?_;refine bp H (C0 x76 x81) fun x83 h H=>cv h ?_;refine go ?_;refine cdb H (fun h H=>?_) (fun h H=>?_)
     ·refine go ?_;exact wq (hR _ (pur H).symm _ (rt _))
     ·refine go ?_;refine apd (g:=K1) hF 0 H (rdo (c:=false) (g:=K1) Hit.X7) fun x91 H v12 s13 hF=>?_;refine go ?_;exact L1 a1 a3 Jr x91 (i64.wrap (IQ+1)) (i64.wrap (Gg+1)) _ H _ rfl Q tt  hE hR _ _ v12 S hF
    ·have hF:=hF.lit 169 1 (rws (cL K1) []) rfl;refine go ?_;obtain ⟨o16,ho16,H⟩:=bnd H;refine L0 a1 a3 Jr JY Gg [] IQ (i64.wrap ((a3.length:Int) - (i64.wrap ((a1.length:Int) - 2)))) _ ho16 _ rfl _ _ z1v0 ?_ ?_ _ _ (.sl true (rws (cL K1) [])) S hF
     ·intro Tn Oo he T18 s19 e17v1 tT hF;have he:=he.symm;subst he
      try dsimp only at H
      obtain ⟨x131,f1,H⟩:=bil (g:=KY) Fm.X7 H;refine go1 ?_;obtain ⟨x135,hx135,H⟩:=bnd H;obtain ⟨s21,hF,hw22,hb23,hz24⟩:=frz hF 0;refine Qav (SN x131 fx1 Tn _ hx135 _) (by (try simp only [sf,i6,zB,Fm.Yb]);exact (.cons (Wk.sub hb23 _) id (.cons (Wk.sub hb23 _) id (.cons hw22 (fun _=>rfl) .nil)))) hb23 ?_;rintro _ _ ⟨rfl,rfl⟩;refine go ?_;refine apd (g:=K1) hF 0 H (rdo (c:=false) (g:=K1) Hit.X7) fun x136 H v25 s26 hF=>?_;refine go ?_;exact L1 a1 a3 Jr x136 Oo (i64.wrap (Gg+1)) _ H _ rfl Q tt  hE hR _ _ v25 S hF
     ·intro r hr s' hs;subst hr;exact wq (hR _ (pur H).symm _ hs)
  ·refine go ?_;exact wq (hE _ (pur H).symm _ _ z1v0 S hF)
 ·intro WW GF C0 L0 a1 a3 Jr JY Gg Qh6 Pv RT out H c hc Q tt z1v0 hE hR T σ z2v1 tT hF;refine lpx tt hc rfl fun q hX=>go ?_;refine cdp H (fun h H=>?_) (fun h H=>?_)
  ·refine go ?_;refine Yj E0 [.v,.v,.v,.v,.v,.v,.v,.v,.v,.v,.v,.v,.v,.v,.v,.v] (by kernel_rfl) ?_;obtain ⟨x109,f1,H⟩:=bil (g:=KY) Fm.X7 H;obtain ⟨x114,f2,H⟩:=bil (g:=KY) Fm.X7 H;refine go2 ?_;refine bp H (C0 x109 x114) fun x116 h H=>cv h ?_;refine go ?_;refine cdb H (fun h H=>?_) (fun h H=>?_)
   ·refine go ?_;exact wq (hR _ (pur H).symm _ (rt _))
   ·refine go ?_;refine apd (g:=(cL K1)) hF 0 H (rdo (c:=true) (g:=(cL K1)) (fun _=>rfl)) fun x125 H v14 s15 hF=>?_;refine go ?_;exact L0 a1 a3 Jr JY Gg x125 (i64.wrap (Pv+1)) (i64.wrap (RT - 1)) _ H _ rfl Q tt z1v0 hE hR _ _ v14 S hF
  ·refine go ?_;exact wq (hE _ _ (pur H).symm _ _ z2v1 S hF)
theorem ET:∀(a0:List Bnd) (a1:Fm) (a2:List Fm) (a3:Fm) r,WW a0 a1 a2 a3=some r->VK KZ 203 [sf K0 a0,.agg (KY a1),sf KY a2,.agg (KY a3)] (.tup [sf K1 r.1,.bool r.2]):=fun a0 a1 a2 a3=>(NC a0 a2).1 a1 a3
theorem Fj:∀(a0:List Bnd) (a1:List Rul) (a2:List Fm) (a3:Fm) (YV:Int) out,Wm a0 a1 a2 a3 YV=some out->∀c,Yg Tryz.f185 0=some c->∀(Q:QT) (tt:Sto) (b1:Nat),(∀(_u:Unit),out=Sum.inr ()->∀(T:TT) (σ:Sto),0+0=0->Fx tt σ [(b1,⟨26,5,[i6 a3.kind,.str a3.name,i6 a3.num,sf cI a3.sc,sf KY a3.kids]⟩)] []->Q (.ex 0) ⟨T,σ⟩)->(∀r,out=Sum.inl r->∀s',I7 KZ [.tmp 8,.tmp 9] (fun r' ss'=>r'=.tup [i6 r.1,.bool r.2]/\ss'=tt) s'->Q .ret s')->∀(T:TT) (σ:Sto),T 0=sf K0 a0/\T 1=sf K5 a1/\T 2=sf KY a2/\T 7=.ptr b1 0/\T 10=i6 YV->Fx tt σ [(b1,⟨26,5,[i6 a3.kind,.str a3.name,i6 a3.num,sf cI a3.sc,sf KY a3.kids]⟩)] []->aLp KZ c Q ⟨T,σ⟩:=by
 intro a0 a1 a2 a3 YV;revert YV;refine Wm.partial_correctness a0 a1 a2 a3 _ ?_;intro Wm IH YV out H c hc Q tt b1 hE hR T σ tT hF;refine lpx tt hc rfl fun q hX=>go ?_;refine cdp H (fun h H=>?_) (fun h H=>?_)
 ·refine go ?_;refine Yj E0 [.v,.v,.v,.v,.v,.v,.v,.v,.v,.v,.v,.v,.v,.v] (by kernel_rfl) ?_;obtain ⟨x37,f1,H⟩:=bil (g:=K5) Rul.X7 H;refine go1 ?_;refine bp H (ET a0 x37.pat a2 a3) fun x42 h H=>cv h ?_;refine go ?_;refine cdb H (fun h H=>?_) (fun h H=>?_)
  ·refine go ?_;exact wq (hR _ (pur H).symm _ (rt _))
  ·refine go ?_;exact IH  (i64.wrap (YV+1)) _ H _ rfl Q tt b1 hE hR _ _  S hF
 ·refine go ?_;exact wq (hE () (pur H).symm _ _  S hF)
theorem DC:∀(a0:List Bnd) (a1:List Rul) (a2:List Fm) (a3:Fm) r,II a0 a1 a2 a3=some r->VK KZ 185 [sf K0 a0,sf K5 a1,sf KY a2,.agg (KY a3)] (.tup [i6 r.1,.bool r.2]):=by
 intro a0 a1 a2 a3 r H;intro σ;unfold II at H;refine hdg mixed Tryz.func185 (rs:=[.tmp 8,.tmp 9]) fun q tT=>?_;have hF:=K2 σ;have hX:=Tau.none σ;refine go ?_;refine Ya hF rfl fun b1 ss2 hF=>?_;refine go ?_;refine bp H (IN a0) fun x14 h H=>cl h ?_;refine go ?_;obtain ⟨x21,g3,H⟩:=bnd H;refine Yc 4 17 21 (.bool x21) (giN q (fun q=>?_) (fun q=>?_)) (fun J=>?_)
 ·rw [if_neg (dbf q)] at g3;refine go ?_;obtain ⟨x19,hx19,g3⟩:=bnd g3;refine cl (Cu a1 a2 _ hx19) ?_;refine go ?_;exact Yr 17 g3
 ·rw [if_pos (dbt q)] at g3;refine go ?_;exact Yr 17 g3
 refine go ?_;obtain ⟨x26,g5,H⟩:=bnd H;refine Yc 3 23 26 (.bool x26) (giN q (fun q=>?_) (fun q=>?_)) (fun J=>?_)
 ·rw [if_neg (dbf q)] at g5;refine go ?_;obtain ⟨x24,hx24,g5⟩:=bnd g5;refine cl (Y8 a3 _ hx24) ?_;refine go ?_;exact Yr 23 g5
 ·rw [if_pos (dbt q)] at g5;refine go ?_;exact Yr 23 g5
 refine go ?_;refine cdb H (fun h H=>?_) (fun h H=>?_)
 ·refine go ?_;have e:=pur H;subst e;exact rt _
 ·refine go ?_;obtain ⟨o7,ho7,H⟩:=bnd H;refine Fj a0 a1 a2 a3 0 _ ho7 _ rfl _ _ b1 ?_ ?_ _ _  S hF
  ·intro _ he T9 s10 tT hF;have he:=he.symm;subst he
   try dsimp only at H
   refine go ?_;have e:=pur H;subst e;exact rt _
  ·intro r hr s' hs;subst hr;have e:=pur H;subst e;exact hsq hs
theorem FZ:(∀(a0:Fm) r,WC a0=some r->VK KZ 219 [.agg (KY a0)] (.agg (KY r)))/\(∀(a0:List Fm) r,Is a0=some r->VK KZ 221 [sf KY a0] (sf KY r)):=by
 have h:=WC.mutual_partial_correctness  (motive_1:=fun a0 r=>VK KZ 219 [.agg (KY a0)] (.agg (KY r))) (motive_2:=fun a0 r=>VK KZ 221 [sf KY a0] (sf KY r)) (motive_3:=fun a0 X9 Vl out=>∀c,Yg Tryz.f221 0=some c->∀(Q:QT) (tt:Sto),(∀(Vu:List Fm),out=Vu->∀(T:TT) (σ:Sto) (e0v0:AV),T 3=e0v0->Fx tt σ [] [⟨e0v0,26,5,rws KY Vu⟩]->Q (.ex 0) ⟨T,σ⟩)->True->∀(T:TT) (σ:Sto) (z0v0:AV),T 3=z0v0/\T 7=sf KY a0/\T 8=i6 (a0.length:Int)/\T 9=i6 Vl->Fx tt σ [] [⟨z0v0,26,5,rws KY X9⟩]->aLp KZ c Q ⟨T,σ⟩) ?s0 ?s1 ?s2
 ·exact ⟨h.1,h.2.1⟩
 ·intro Is C1 a0 r H;intro σ;refine hdg mixed Tryz.func219 (rs:=[.cell 2 26]) fun q tT=>?_;have hF:=K2 σ;have hX:=Tau.none σ;refine go ?_;refine Ya hF rfl fun b1 ss2 hF=>?_;refine go ?_;refine Ya hF rfl fun b3 ss4 hF=>?_;refine go ?_;refine apv (g:=cI) H (fun _=>rfl) (rdo (c:=false) (g:=cI) (fun _=>rfl)) fun x6 H=>?_;refine go ?_;refine st hF 1 rfl fun ss5 hF=>?_;refine go ?_;refine bp H (C1 a0.kids) fun x10 h H=>cl h ?_;refine go ?_;refine st hF 1 rfl fun ss6 hF=>?_;refine go ?_;refine st hF 0 rfl fun s7 hF=>?_;refine go ?_;have e:=pur H;subst e;exact rt _
 ·intro VL L0 a0 r H;intro σ;refine hdg mixed Tryz.func221 (rs:=[.tmp 2]) fun q tT=>?_;have hF:=K2 σ;have hX:=Tau.none σ;have hF:=hF.lit 26 5 (rws KY []) rfl;refine go ?_;obtain ⟨o6,ho6,H⟩:=bnd H;refine L0 a0 [] 0 _ ho6 _ rfl _ _  ?_ ?_ _ _ (.sl true (rws KY [])) S hF
  ·intro Qgs he T8 s9 e7v0 tT hF;have he:=he.symm;subst he;refine go ?_;have e:=pur H;subst e;exact rt _
  ·trivial
 ·intro WC VL C0 L0 a0 X9 Vl out H c hc Q tt  hE hR T σ z0v0 tT hF;refine lpx tt hc rfl fun q hX=>go ?_;refine cdp H (fun h H=>?_) (fun h H=>?_)
  ·obtain ⟨x11,f1,H⟩:=bil (g:=KY) Fm.X7 H;refine go1 ?_;refine Ya hF rfl fun b1 ss2 hF=>?_;refine go ?_;refine st hF 0 rfl fun ss3 hF=>?_;refine go ?_;refine bp H (C0 x11) fun x15 h H=>cl h ?_;refine go ?_;refine apd (g:=KY) hF 0 H (rdo (c:=true) (g:=KY) Fm.X7) fun x17 H v4 ss5 hF=>?_;refine go ?_;exact L0 a0 x17 (i64.wrap (Vl+1)) _ H _ rfl Q tt  hE hR _ _ v4 S (hF.drop 1 0)
  ·refine go ?_;exact wq (hE _ (pur H).symm _ _ z0v0 S hF)
theorem CR:∀(a0:Fm) r,WC a0=some r->VK KZ 219 [.agg (KY a0)] (.agg (KY r)):=FZ.1
theorem LM:∀(a0:Rul) r,I1 a0=some r->VK KZ 215 [.agg (K5 a0)] (.agg (K5 r)):=by
 intro a0 r H;intro σ;unfold I1 at H;refine hdg mixed Tryz.func215 (rs:=[.cell 2 116]) fun q tT=>?_;have hF:=K2 σ;have hX:=Tau.none σ;refine go ?_;refine Ya hF rfl fun b1 ss2 hF=>?_;refine go ?_;refine Ya hF rfl fun b3 ss4 hF=>?_;refine go ?_;refine bp H (CR a0.pat) fun x5 h H=>cl h ?_;refine go ?_;refine st hF 1 rfl fun ss5 hF=>?_;refine go ?_;refine bp H (CR a0.tpl) fun x9 h H=>cl h ?_;refine go ?_;refine st hF 1 rfl fun ss6 hF=>?_;refine go ?_;refine st hF 0 rfl fun s7 hF=>?_;refine go ?_;have e:=pur H;subst e;exact rt _
theorem Dh:∀(a0 X9:List Rul) (Vl:Int) out,VB a0 X9 Vl=some out->∀c,Yg Tryz.f210 0=some c->∀(Q:QT) (tt:Sto),(∀(Vu:List Rul),out=Vu->∀(T:TT) (σ:Sto) (e0v0:AV),T 3=e0v0->Fx tt σ [] [⟨e0v0,116,10,rws K5 Vu⟩]->Q (.ex 0) ⟨T,σ⟩)->True->∀(T:TT) (σ:Sto) (z0v0:AV),T 3=z0v0/\T 7=sf K5 a0/\T 8=i6 (a0.length:Int)/\T 9=i6 Vl->Fx tt σ [] [⟨z0v0,116,10,rws K5 X9⟩]->aLp KZ c Q ⟨T,σ⟩:=by
 intro a0 X9 Vl;revert X9 Vl;refine VB.partial_correctness a0 _ ?_;intro VB IH X9 Vl out H c hc Q tt  hE hR T σ z0v0 tT hF;refine lpx tt hc rfl fun q hX=>go ?_;refine cdp H (fun h H=>?_) (fun h H=>?_)
 ·obtain ⟨x11,f1,H⟩:=bil (g:=K5) Rul.X7 H;refine go1 ?_;refine Ya hF rfl fun b1 ss2 hF=>?_;refine go ?_;refine st hF 0 rfl fun ss3 hF=>?_;refine go ?_;refine bp H (LM x11) fun x15 h H=>cl h ?_;refine go ?_;refine apd (g:=K5) hF 0 H (rdo (c:=true) (g:=K5) Rul.X7) fun x17 H v4 ss5 hF=>?_;refine go ?_;exact IH  x17 (i64.wrap (Vl+1)) _ H _ rfl Q tt  hE hR _ _ v4 S (hF.drop 1 0)
 ·refine go ?_;exact wq (hE _ (pur H).symm _ _ z0v0 S hF)
theorem Eg:∀(a0:List Rul) r,GX a0=some r->VK KZ 210 [sf K5 a0] (sf K5 r):=by
 intro a0 r H;intro σ;unfold GX at H;refine hdg mixed Tryz.func210 (rs:=[.tmp 2]) fun q tT=>?_;have hF:=K2 σ;have hX:=Tau.none σ;have hF:=hF.lit 116 10 (rws K5 []) rfl;refine go ?_;obtain ⟨o6,ho6,H⟩:=bnd H;refine Dh a0 [] 0 _ ho6 _ rfl _ _  ?_ ?_ _ _ (.sl true (rws K5 [])) S hF
 ·intro Qgs he T8 s9 e7v0 tT hF;have he:=he.symm;subst he;refine go ?_;have e:=pur H;subst e;exact rt _
 ·trivial
theorem FA:∀(a0 a1:Fm) r,G1 a0 a1=some r->VK KZ 220 [.agg (KY a0),.agg (KY a1)] (.bool r):=by
 intro a0 a1;revert a0;refine G1.partial_correctness a1 (motive_1:=fun a0 r=>VK KZ 220 [.agg (KY a0),.agg (KY a1)] (.bool r)) (motive_2:=fun a0 Yl out=>∀c,Yg Tryz.f220 0=some c->∀(Q:QT) (tt:Sto) (b1 b3:Nat),(∀(_u:Unit),out=Sum.inr ()->∀(T:TT) (σ:Sto),0+0=0->Fx tt σ [(b3,⟨26,5,[i6 a1.kind,.str a1.name,i6 a1.num,sf cI a1.sc,sf KY a1.kids]⟩),(b1,⟨26,5,[i6 a0.kind,.str a0.name,i6 a0.num,sf cI a0.sc,sf KY a0.kids]⟩)] []->Q (.ex 0) ⟨T,σ⟩)->(∀r,out=Sum.inl r->∀s',I7 KZ [.tmp 4] (fun r' ss'=>r'=.bool r/\ss'=tt) s'->Q .ret s')->∀(T:TT) (σ:Sto),T 2=.ptr b1 0/\T 3=.ptr b3 0/\T 5=i6 Yl->Fx tt σ [(b3,⟨26,5,[i6 a1.kind,.str a1.name,i6 a1.num,sf cI a1.sc,sf KY a1.kids]⟩),(b1,⟨26,5,[i6 a0.kind,.str a0.name,i6 a0.num,sf cI a0.sc,sf KY a0.kids]⟩)] []->aLp KZ c Q ⟨T,σ⟩) ?_ ?_
 ·intro JM L0 a0 r H;intro σ;refine hdg mixed Tryz.func220 (rs:=[.tmp 4]) fun q tT=>?_;have hF:=K2 σ;have hX:=Tau.none σ;refine go ?_;refine Ya hF rfl fun b1 ss2 hF=>?_;refine go ?_;refine Ya hF rfl fun b3 ss4 hF=>?_;refine go ?_;obtain ⟨x13,g5,H⟩:=bnd H;refine Yc 3 10 13 (.bool x13) (gi q (fun q=>?_) (fun q=>?_)) (fun J=>?_)
  ·rw [if_pos (dt q)] at g5;refine go ?_;obtain ⟨x12,hx12,g5⟩:=bnd g5;refine cl (He a0 a1 _ hx12) ?_;refine go ?_;exact Yr 10 g5
  ·rw [if_neg (df q)] at g5;refine go ?_;exact Yr 10 g5
  refine go ?_;refine cdb H (fun h H=>?_) (fun h H=>?_)
  ·refine go ?_;have e:=pur H;subst e;exact rt _
  ·refine go ?_;obtain ⟨o7,ho7,H⟩:=bnd H;refine L0 a0 0 _ ho7 _ rfl _ _ b1 b3 ?_ ?_ _ _  S hF
   ·intro _ he T9 s10 tT hF;have he:=he.symm;subst he
    try dsimp only at H
    refine go ?_;have e:=pur H;subst e;exact rt _
   ·intro r hr s' hs;subst hr;have e:=pur H;subst e;exact hsq hs
 ·intro G1 JM C0 L0 a0 Yl out H c hc Q tt b1 b3 hE hR T σ tT hF;refine lpx tt hc rfl fun q hX=>go ?_;refine cdp H (fun h H=>?_) (fun h H=>?_)
  ·refine go ?_;refine Yj E0 [.v,.v,.v,.v,.v,.v,.v] (by kernel_rfl) ?_;obtain ⟨x24,f1,H⟩:=bil (g:=KY) Fm.X7 H;refine go1 ?_;refine bp H (C0 x24) fun x27 h H=>cv h ?_;refine go ?_;refine cdb H (fun h H=>?_) (fun h H=>?_)
   ·refine go ?_;exact wq (hR _ (pur H).symm _ (rt _))
   ·refine go ?_;exact L0 a0 (i64.wrap (Yl+1)) _ H _ rfl Q tt b1 b3 hE hR _ _  S hF
  ·refine go ?_;exact wq (hE () (pur H).symm _ _  S hF)
theorem LP:∀(a0:Fm) (a1:List Hit) (Yl YX:Int) out,WH a0 a1 Yl YX=some out->∀c,Yg Tryz.f216 0=some c->∀(Q:QT) (tt:Sto) (b1:Nat),(∀(Qgm:Int),out=Sum.inr Qgm->∀(T:TT) (σ:Sto),T 5=i6 Qgm->Fx tt σ [(b1,⟨26,5,[i6 a0.kind,.str a0.name,i6 a0.num,sf cI a0.sc,sf KY a0.kids]⟩)] []->Q (.ex 0) ⟨T,σ⟩)->(∀r,out=Sum.inl r->∀s',I7 KZ [.tmp 4] (fun r' ss'=>r'=i6 r/\ss'=tt) s'->Q .ret s')->∀(T:TT) (σ:Sto),T 1=sf K1 a1/\T 2=.ptr b1 0/\T 5=i6 Yl/\T 6=i6 YX->Fx tt σ [(b1,⟨26,5,[i6 a0.kind,.str a0.name,i6 a0.num,sf cI a0.sc,sf KY a0.kids]⟩)] []->aLp KZ c Q ⟨T,σ⟩:=by
 intro a0 a1 Yl YX;revert Yl YX;refine WH.partial_correctness a0 a1 _ ?_;intro WH IH Yl YX out H c hc Q tt b1 hE hR T σ tT hF;refine lpx tt hc rfl fun q hX=>go ?_;refine cdp H (fun h H=>?_) (fun h H=>?_)
 ·refine go ?_;refine Yj E0 [.v,.v,.v,.v,.v,.v,.v,.v,.v,.v,.v,.v,.v,.v,.v,.v] (by kernel_rfl) ?_;obtain ⟨x15,f1,H⟩:=bil (g:=K1) Hit.X7 H;refine go1 ?_;obtain ⟨x28,g3,H⟩:=bnd H;refine VU 8 20 28 (.bool x28) (tiN q (fun q=>?_) (fun q=>?_)) (fun J=>?_)
  ·rw [if_neg (df q)] at g3;obtain ⟨x23,f1,g3⟩:=bil (g:=K1) Hit.X7 g3;refine go1 ?_;obtain ⟨x26,hx26,g3⟩:=bnd g3;refine cv (FA a0 x23.name _ hx26) ?_;refine go ?_;exact Yr 20 g3
  ·rw [if_pos (dt q)] at g3;refine go ?_;exact Yr 20 g3
  refine go ?_;refine cdb H (fun h H=>?_) (fun h H=>?_)
  ·refine go ?_;exact IH  Yl (i64.wrap (YX+1)) _ H _ rfl Q tt b1 hE hR _ _  S hF
  ·refine go ?_;obtain ⟨x40,g5,H⟩:=bnd H;refine Yc 8 32 40 (.bool x40) (gi q (fun q=>?_) (fun q=>?_)) (fun J=>?_)
   ·rw [if_pos (dt q)] at g5;obtain ⟨x35,f1,g5⟩:=bil (g:=K1) Hit.X7 g5;refine go1 ?_;refine go ?_;exact Yr 32 g5
   ·rw [if_neg (df q)] at g5;refine go ?_;exact Yr 32 g5
   refine go ?_;refine cdb H (fun h H=>?_) (fun h H=>?_)
   ·refine go ?_;exact wq (hR _ (pur H).symm _ (rt _))
   ·obtain ⟨x43,f1,H⟩:=bil (g:=K1) Hit.X7 H;refine go1 ?_;refine go ?_;exact IH  (x43.many.length:Int) (i64.wrap (YX+1)) _ H _ rfl Q tt b1 hE hR _ _  S hF
 ·refine go ?_;exact wq (hE _ (pur H).symm _ _  S hF)
theorem O0:∀(a0:Fm) (a1:List Hit) r,AP a0 a1=some r->VK KZ 216 [.agg (KY a0),sf K1 a1] (i6 r):=by
 intro a0 a1 r H;intro σ;unfold AP at H;refine hdg mixed Tryz.func216 (rs:=[.tmp 4]) fun q tT=>?_;have hF:=K2 σ;have hX:=Tau.none σ;refine go ?_;refine Ya hF rfl fun b1 ss2 hF=>?_;refine go ?_;obtain ⟨o7,ho7,H⟩:=bnd H;refine LP a0 a1 (-1) 0 _ ho7 _ rfl _ _ b1 ?_ ?_ _ _  S hF
 ·intro Qmw he T9 s10 tT hF;have he:=he.symm;subst he
  try dsimp only at H
  refine go ?_;have e:=pur H;subst e;exact rt _
 ·intro r hr s' hs;subst hr;have e:=pur H;subst e;exact hsq hs
theorem NI:∀(a0:Fm) (a1:List Hit) (a2:Int) (X9:List Hit) (Yh:Int) out,Gn a0 a1 a2 X9 Yh=some out->∀c,Yg Tryz.f217 0=some c->∀(Q:QT) (tt:Sto) (b1:Nat),(∀(Vu:List Hit),out=Vu->∀(T:TT) (σ:Sto) (e0v0:AV),T 7=e0v0->Fx tt σ [(b1,⟨26,5,[i6 a0.kind,.str a0.name,i6 a0.num,sf cI a0.sc,sf KY a0.kids]⟩)] [⟨e0v0,195,12,rws K1 Vu⟩]->Q (.ex 0) ⟨T,σ⟩)->True->∀(T:TT) (σ:Sto) (z0v0:AV),T 1=sf K1 a1/\T 2=i6 a2/\T 3=.ptr b1 0/\T 7=z0v0/\T 8=i6 Yh->Fx tt σ [(b1,⟨26,5,[i6 a0.kind,.str a0.name,i6 a0.num,sf cI a0.sc,sf KY a0.kids]⟩)] [⟨z0v0,195,12,rws K1 X9⟩]->aLp KZ c Q ⟨T,σ⟩:=by
 intro a0 a1 a2 X9 Yh;revert X9 Yh;refine Gn.partial_correctness a0 a1 a2 _ ?_;intro Gn IH X9 Yh out H c hc Q tt b1 hE hR T σ z0v0 tT hF;refine lpx tt hc rfl fun q hX=>go ?_;refine cdp H (fun h H=>?_) (fun h H=>?_)
 ·obtain ⟨x19,f1,H⟩:=bil (g:=K1) Hit.X7 H;refine go1 ?_;refine Ya hF rfl fun b3 ss4 hF=>?_;refine go ?_;refine st hF 0 rfl fun ss5 hF=>?_;refine go ?_;obtain ⟨x29,g6,H⟩:=bnd H;refine Yc 4 25 29 (.bool x29) (gi q (fun q=>?_) (fun q=>?_)) (fun J=>?_)
  ·rw [if_pos (dt q)] at g6;refine go ?_;obtain ⟨x28,hx28,g6⟩:=bnd g6;refine cl (FA a0 x19.name _ hx28) ?_;refine go ?_;exact Yr 25 g6
  ·rw [if_neg (df q)] at g6;refine go ?_;exact Yr 25 g6
  refine go ?_;obtain ⟨⟨Pk,Pl,L5,L6,Pm,Pn,Po,Pp,Pq,Pr,Ps,Pt⟩,j9,H⟩:=bnd H;refine Wq (fun s'=>∃(T:TT) (ss1:Sto),s'=⟨T,ss1⟩/\(T 1=sf K1 a1/\T 2=i6 a2/\T 3=.ptr b1 0/\T 7=z0v0/\T 8=i6 Yh/\T 9=.ptr b3 0)/\Fx tt ss1 [(b3,⟨195,12,[i6 Pk,.str Pl,i6 Pm,sf cI Pn,sf KY Po,i6 Pp,i6 Pq,.str Pr,i6 Ps,sf cI Pt,sf KY L5,sf K1 L6]⟩),(b1,⟨26,5,[i6 a0.kind,.str a0.name,i6 a0.num,sf cI a0.sc,sf KY a0.kids]⟩)] [⟨z0v0,195,12,rws K1 X9⟩]) (cdb j9 (fun h j9=>?_) (fun h j9=>?_)) ?_
  ·obtain ⟨x33,f1,j9⟩:=bil (g:=K1) Hit.X7 j9;refine go1 ?_;refine st hF 0 rfl fun s10 hF=>?_;refine go ?_;have e:=pur j9
   injection e with e0 e
   injection e with e1 e
   injection e with e2 e
   injection e with e3 e
   injection e with e4 e
   injection e with e5 e
   injection e with e6 e
   injection e with e7 e
   injection e with e8 e
   injection e with e9 e
   injection e with e10 e
   subst e0;subst e1;subst e2;subst e3;subst e4;subst e5;subst e6;subst e7;subst e8;subst e9;subst e10;subst e;exact ⟨_,_,rfl,S,hF⟩
  ·refine go ?_;have e:=pur j9
   injection e with e0 e
   injection e with e1 e
   injection e with e2 e
   injection e with e3 e
   injection e with e4 e
   injection e with e5 e
   injection e with e6 e
   injection e with e7 e
   injection e with e8 e
   injection e with e9 e
   injection e with e10 e
   subst e0;subst e1;subst e2;subst e3;subst e4;subst e5;subst e6;subst e7;subst e8;subst e9;subst e10;subst e;exact ⟨_,_,rfl,S,hF⟩
  ·rintro s' ⟨T11,s12,rfl,tT,hF⟩;refine go ?_;refine apd (g:=K1) hF 0 H (rdo (c:=true) (g:=K1) Hit.X7) fun x38 H v14 s15 hF=>?_;refine go ?_;exact IH  x38 (i64.wrap (Yh+1)) _ H _ rfl Q tt b1 hE hR _ _ v14 S (hF.drop 1 0)
 ·refine go ?_;exact wq (hE _ (pur H).symm _ _ z0v0 S hF)
theorem SO:∀(a0:Fm) (a1:List Hit) (a2:Int) r,B7 a0 a1 a2=some r->VK KZ 217 [.agg (KY a0),sf K1 a1,i6 a2] (sf K1 r):=by
 intro a0 a1 a2 r H;intro σ;unfold B7 at H;refine hdg mixed Tryz.func217 (rs:=[.tmp 6]) fun q tT=>?_;have hF:=K2 σ;have hX:=Tau.none σ;refine go ?_;refine Ya hF rfl fun b1 ss2 hF=>?_;have hF:=hF.lit 195 12 (rws K1 []) rfl;refine go ?_;obtain ⟨o16,ho16,H⟩:=bnd H;refine NI a0 a1 a2 [] 0 _ ho16 _ rfl _ _ b1 ?_ ?_ _ _ (.sl true (rws K1 [])) S hF
 ·intro Qlh he T18 s19 e17v0 tT hF;have he:=he.symm;subst he;refine go ?_;have e:=pur H;subst e;exact rt _
 ·trivial
theorem P2:∀(a0:Fm) (a1:List Hit) r,AH a0 a1=some r->VK KZ 211 [.agg (KY a0),sf K1 a1] (.tup [.agg (KY r.1),.bool r.2]):=by
 refine AH.partial_correctness _ (motive_2:=fun a0 a1 x45 X9 Yh Vl out=>∀c,Yg Tryz.f211 0=some c->∀(Q:QT) (tt:Sto) (b1 b3 b12:Nat),(∀(Vu:List Fm),out=Sum.inr Vu->∀(T:TT) (σ:Sto) (e0v0:AV),T 4=.ptr b3 0/\T 7=.ptr b12 0->Fx tt σ [(b12,⟨26,5,[i6 a0.kind,.str a0.name,i6 a0.num,sf cI x45,e0v0]⟩),(b3,⟨26,5,[i6 0,.str zB,i6 0,.Yd,.Yd]⟩),(b1,⟨26,5,[i6 a0.kind,.str a0.name,i6 a0.num,sf cI a0.sc,sf KY a0.kids]⟩)] [⟨e0v0,26,5,rws KY Vu⟩]->Q (.ex 0) ⟨T,σ⟩)->(∀r,out=Sum.inl r->∀s',I7 KZ [.cell 4 26,.tmp 5] (fun r' ss'=>r'=.tup [.agg (KY r.1),.bool r.2]/\ss'=tt) s'->Q .ret s')->∀(T:TT) (σ:Sto) (z0v0:AV),T 1=sf K1 a1/\T 2=.ptr b1 0/\T 4=.ptr b3 0/\T 7=.ptr b12 0/\T 8=i6 Yh/\T 9=i6 Vl->Fx tt σ [(b12,⟨26,5,[i6 a0.kind,.str a0.name,i6 a0.num,sf cI x45,z0v0]⟩),(b3,⟨26,5,[i6 0,.str zB,i6 0,.Yd,.Yd]⟩),(b1,⟨26,5,[i6 a0.kind,.str a0.name,i6 a0.num,sf cI a0.sc,sf KY a0.kids]⟩)] [⟨z0v0,26,5,rws KY X9⟩]->aLp KZ c Q ⟨T,σ⟩) (motive_3:=fun a0 a1 x45 Vl x74 Aj JY IF Jg out=>∀c,Yg Tryz.f211 1=some c->∀(Q:QT) (tt:Sto) (b1 b3 b12:Nat),(∀(Tp:List Fm) (Qgq:Int),out=Sum.inr (Tp,Qgq)->∀(T:TT) (σ:Sto) (e1v0:AV),T 1=sf K1 a1/\T 2=.ptr b1 0/\T 4=.ptr b3 0/\T 7=.ptr b12 0/\T 8=i6 Qgq/\T 9=i6 Vl->Fx tt σ [(b12,⟨26,5,[i6 a0.kind,.str a0.name,i6 a0.num,sf cI x45,e1v0]⟩),(b3,⟨26,5,[i6 0,.str zB,i6 0,.Yd,.Yd]⟩),(b1,⟨26,5,[i6 a0.kind,.str a0.name,i6 a0.num,sf cI a0.sc,sf KY a0.kids]⟩)] [⟨e1v0,26,5,rws KY Tp⟩]->Q (.ex 2) ⟨T,σ⟩)->(∀r,out=Sum.inl r->∀s',I7 KZ [.cell 4 26,.tmp 5] (fun r' ss'=>r'=.tup [.agg (KY r.1),.bool r.2]/\ss'=tt) s'->Q .ret s')->∀(T:TT) (σ:Sto) (z1v0:AV),T 1=sf K1 a1/\T 2=.ptr b1 0/\T 4=.ptr b3 0/\T 7=.ptr b12 0/\T 8=i6 Jg/\T 9=i6 Vl/\T 10=i6 Aj/\T 11=.bool x74/\T 12=i6 IF->Fx tt σ [(b12,⟨26,5,[i6 a0.kind,.str a0.name,i6 a0.num,sf cI x45,z1v0]⟩),(b3,⟨26,5,[i6 0,.str zB,i6 0,.Yd,.Yd]⟩),(b1,⟨26,5,[i6 a0.kind,.str a0.name,i6 a0.num,sf cI a0.sc,sf KY a0.kids]⟩)] [⟨z1v0,26,5,rws KY JY⟩]->aLp KZ c Q ⟨T,σ⟩) ?_ ?_ ?_
 ·intro W4 L1 a0 a1 r H;intro σ;refine hdg mixed Tryz.func211 (rs:=[.cell 4 26,.tmp 5]) fun q tT=>?_;have hF:=K2 σ;have hX:=Tau.none σ;refine go ?_;refine Ya hF rfl fun b1 ss2 hF=>?_;refine go ?_;refine Ya hF rfl fun b3 ss4 hF=>?_;refine go ?_;obtain ⟨Qh5,j6,H⟩:=bnd H;refine Wq (fun s'=>∃(T:TT) (ss1:Sto),s'=⟨T,ss1⟩/\(T 1=sf K1 a1/\T 2=.ptr b1 0/\T 4=.ptr b3 0/\T 6=i6 Qh5)/\Fx σ ss1 [(b3,⟨26,5,[i6 0,.str zB,i6 0,.Yd,.Yd]⟩),(b1,⟨26,5,[i6 a0.kind,.str a0.name,i6 a0.num,sf cI a0.sc,sf KY a0.kids]⟩)] []) (cdp j6 (fun h j6=>?_) (fun h j6=>?_)) ?_
  ·refine go ?_;obtain ⟨x21,hx21,j6⟩:=bnd j6;refine cl (Fz a1 a0 _ hx21) ?_;refine go ?_;have e:=pur j6;subst e;exact ⟨_,_,rfl,S,hF⟩
  ·refine go ?_;have e:=pur j6;subst e;exact ⟨_,_,rfl,S,hF⟩
  ·rintro s' ⟨T7,s8,rfl,tT,hF⟩;refine go ?_;refine cdp H (fun h H=>?_) (fun h H=>?_)
   ·refine go ?_;obtain ⟨E,hEq⟩:∃E,E=EE s8 [b3]:=⟨_,rfl⟩
    have n10:¬E b1:=by rw [hEq];exact K6 (hF.at 1 rfl) (nm1 (neL hF 1 0 rfl rfl (by decide)))
    refine Yj E [.v,.v,.v,.v,.v,.v,.v,.v,.v,.v,.v,.v,.x,.v] (by kernel_rfl) ?_;obtain ⟨x26,f1,H⟩:=bil (g:=K1) Hit.X7 H;have z:=X8 (hF.at 1 rfl) n10;refine gh1 ?_;refine bp H (We x26.one) fun x29 h H=>cv h ?_;obtain ⟨x32,f1,H⟩:=bil (g:=K1) Hit.X7 H;have z:=X8 (hF.at 1 rfl) n10;refine gh1 ?_;refine stK hF 0 (by rw [hEq];exact Zd (by simp)) rfl fun s11 hF=>?_;have z:=X8 (hF.at 1 rfl) n10;refine gh ?_;refine go ?_;have e:=pur H;subst e;exact rt [.agg [i6 x29.kind,.str x29.name,i6 x29.num,sf cI x29.sc,sf KY x29.kids],.bool (decide (x32.depth=0))]
   ·refine go ?_;refine Yj E0 [.v,.v,.v,.v,.v,.v,.v,.v,.v,.v,.v,.x,.z] (by kernel_rfl) ?_;refine go ?_;obtain ⟨x45,hx45,H⟩:=bnd H;refine Nh (g:=cI) (xs:=[]) (ys:=a0.sc) (fun _=>rfl) (by decide) (by decide) (.inr (by first | rfl | simp only [Vm,VR,cI,cU,cS,cL])) (.inr ⟨_,by first | rfl | simp only [Vm,VR,cI,cU,cS,cL]⟩) hx45 ?_;refine go ?_;refine Hg hF rfl fun b12 s13 hF=>?_;refine go ?_;refine st hF 0 rfl fun s14 hF=>?_;have hF:=hF.nil 26 5;refine go ?_;obtain ⟨o42,ho42,H⟩:=bnd H;refine L1 a0 a1 x45 [] 0 0 _ ho42 _ rfl _ _ b1 b3 b12 ?_ ?_ _ _ .Yd S hF
    ·intro Qbi he T44 s45 e43v0 tT hF;have he:=he.symm;subst he
     try dsimp only at H
     refine go ?_;refine st hF 1 rfl fun s47 hF=>?_;refine go ?_;have e:=pur H;subst e;exact rt _
    ·intro r hr s' hs;subst hr;have e:=pur H;subst e;exact hsq hs
 ·intro W4 W5 L1 L0 a0 a1 x45 X9 Yh Vl out H c hc Q tt b1 b3 b12 hE hR T σ z0v0 tT hF;refine lpx tt hc rfl fun q hX=>go ?_;refine cdp H (fun h H=>?_) (fun h H=>?_)
  ·obtain ⟨x57,f1,H⟩:=bil (g:=KY) Fm.X7 H;refine go1 ?_;refine bp H (V2 x57) fun x59 h H=>cl h ?_;refine go ?_;refine cdb H (fun h H=>?_) (fun h H=>?_)
   ·refine go ?_;exact L1 a0 a1 x45 X9 Yh (i64.wrap (Vl+1)) _ H _ rfl Q tt b1 b3 b12 hE hR _ _ z0v0 S hF
   ·refine go ?_;obtain ⟨x74,g15,H⟩:=bnd H;refine Yc 7 67 74 (.bool x74) (gi q (fun q=>?_) (fun q=>?_)) (fun J=>?_)
    ·rw [if_pos (dt q)] at g15;obtain ⟨x71,f1,g15⟩:=bil (g:=KY) Fm.X7 g15;refine go1 ?_;obtain ⟨x73,hx73,g15⟩:=bnd g15;refine cl (V2 x71 _ hx73) ?_;refine go ?_;exact Yr 67 g15
    ·rw [if_neg (df q)] at g15;refine go ?_;exact Yr 67 g15
    refine go ?_;obtain ⟨Aj,j18,H⟩:=bnd H;refine Wq (fun s'=>∃(T:TT) (ss1:Sto),s'=⟨T,ss1⟩/\(T 1=sf K1 a1/\T 2=.ptr b1 0/\T 4=.ptr b3 0/\T 7=.ptr b12 0/\T 8=i6 Yh/\T 9=i6 Vl/\T 10=i6 Aj/\T 11=.bool x74)/\Fx tt ss1 [(b12,⟨26,5,[i6 a0.kind,.str a0.name,i6 a0.num,sf cI x45,z0v0]⟩),(b3,⟨26,5,[i6 0,.str zB,i6 0,.Yd,.Yd]⟩),(b1,⟨26,5,[i6 a0.kind,.str a0.name,i6 a0.num,sf cI a0.sc,sf KY a0.kids]⟩)] [⟨z0v0,26,5,rws KY X9⟩]) (cdb j18 (fun h j18=>?_) (fun h j18=>?_)) ?_
    ·obtain ⟨x79,f1,j18⟩:=bil (g:=KY) Fm.X7 j18;refine go1 ?_;obtain ⟨x82,hx82,j18⟩:=bnd j18;refine cl (O0 x79 a1 _ hx82) ?_;refine go ?_;have e:=pur j18;subst e;exact ⟨_,_,rfl,S,hF⟩
    ·refine go ?_;have e:=pur j18;subst e;exact ⟨_,_,rfl,S,hF⟩
    ·rintro s' ⟨T19,s20,rfl,tT,hF⟩;refine go ?_;refine cdp H (fun h H=>?_) (fun h H=>?_)
     ·refine go ?_;refine st hF 1 rfl fun s22 hF=>?_;refine go ?_;exact wq (hR _ (pur H).symm _ (rt _))
     ·refine go ?_;obtain ⟨o37,ho37,H⟩:=bnd H;refine L0 a0 a1 x45 Vl x74 Aj X9 0 Yh _ ho37 _ rfl _ _ b1 b3 b12 ?_ ?_ _ _ z0v0 S hF
      ·intro Fq Oq he T39 s40 e38v0 tT hF;have he:=he.symm;subst he
       try dsimp only at H
       refine go ?_;exact L1 a0 a1 x45 Fq Oq (i64.wrap (Vl+1)) _ H _ rfl Q tt b1 b3 b12 hE hR _ _ e38v0 S hF
      ·intro r hr s' hs;subst hr;exact wq (hR _ (pur H).symm _ hs)
  ·refine go ?_;exact wq (hE _ (pur H).symm _ _ z0v0 S hF)
 ·intro AH W5 C0 L0 a0 a1 x45 Vl x74 Aj JY IF Jg out H c hc Q tt b1 b3 b12 hE hR T σ z1v0 tT hF;refine lpx tt hc rfl fun q hX=>go ?_;refine cdp H (fun h H=>?_) (fun h H=>?_)
  ·refine go ?_;obtain ⟨SY,j24,H⟩:=bnd H;refine Wq (fun s'=>∃(T:TT) (ss1:Sto),s'=⟨T,ss1⟩/\(T 1=sf K1 a1/\T 2=.ptr b1 0/\T 4=.ptr b3 0/\T 7=.ptr b12 0/\T 8=i6 Jg/\T 9=i6 Vl/\T 10=i6 Aj/\T 11=.bool x74/\T 12=i6 IF/\T 13=sf K1 SY)/\Fx tt ss1 [(b12,⟨26,5,[i6 a0.kind,.str a0.name,i6 a0.num,sf cI x45,z1v0]⟩),(b3,⟨26,5,[i6 0,.str zB,i6 0,.Yd,.Yd]⟩),(b1,⟨26,5,[i6 a0.kind,.str a0.name,i6 a0.num,sf cI a0.sc,sf KY a0.kids]⟩)] [⟨z1v0,26,5,rws KY JY⟩]) (cdb j24 (fun h j24=>?_) (fun h j24=>?_)) ?_
   ·obtain ⟨x96,f1,j24⟩:=bil (g:=KY) Fm.X7 j24;refine go1 ?_;obtain ⟨x100,hx100,j24⟩:=bnd j24;refine cl (SO x96 a1 IF _ hx100) ?_;refine go ?_;have e:=pur j24;subst e;exact ⟨_,_,rfl,S,hF⟩
   ·refine go ?_;have e:=pur j24;subst e;exact ⟨_,_,rfl,S,hF⟩
   ·rintro s' ⟨T25,s26,rfl,tT,hF⟩;obtain ⟨x105,f1,H⟩:=bil (g:=KY) Fm.X7 H;refine go1 ?_;refine bp H (C0 x105 SY) fun x108 h H=>cl h ?_;refine go ?_;refine Ya hF rfl fun b28 s29 hF=>?_;refine go ?_;refine st hF 0 rfl fun s30 hF=>?_;refine go ?_;refine bp H (EL x108.1) fun x113 h H=>cl h ?_;refine go ?_;obtain ⟨x120,g31,H⟩:=bnd H;refine Yc 2 118 120 (.bool x120) (giN q (fun q=>?_) (fun q=>?_)) (fun J=>?_)
    ·refine go ?_;exact Yr 118 g31
    ·refine go ?_;exact Yr 118 g31
    refine go ?_;refine cdb H (fun h H=>?_) (fun h H=>?_)
    ·refine go ?_;refine st hF 2 rfl fun s33 hF=>?_;refine go ?_;exact wq (hR _ (pur H).symm _ (rt _))
    ·refine go ?_;refine apd (g:=KY) hF 0 H (rdo (c:=true) (g:=KY) Fm.X7) fun x126 H v34 s35 hF=>?_;refine go ?_;refine st hF 1 (hF.cells 0 rfl) fun s36 hF=>?_;refine go ?_;exact L0 a0 a1 x45 Vl x74 Aj x126 (i64.wrap (IF+1)) (i64.wrap (Jg+x113)) _ H _ rfl Q tt b1 b3 b12 hE hR _ _ v34 S (hF.drop 1 0)
  ·refine go ?_;exact wq (hE _ _ (pur H).symm _ _ z1v0 S hF)
theorem LJ:∀(a0:List Bnd) (a1:List Rul) (a2:List Fm) (a3:Fm) r,IZ a0 a1 a2 a3=some r->VK KZ 202 [sf K0 a0,sf K5 a1,sf KY a2,.agg (KY a3)] (.tup [.agg (KY r.1),.bool r.2]):=by
 intro a0 a1 a2 a3 r H;intro σ;unfold IZ at H;refine hdg mixed Tryz.func202 (rs:=[.cell 8 26,.tmp 9]) fun q tT=>?_;have hF:=K2 σ;have hX:=Tau.none σ;refine go ?_;refine Ya hF rfl fun b1 ss2 hF=>?_;refine go ?_;refine Ya hF rfl fun b3 ss4 hF=>?_;refine go ?_;refine bp H (Eg a1) fun x17 h H=>cl h ?_;refine go ?_;refine bp H (DC a0 x17 a2 a3) fun x23 h H=>cl h ?_;refine go ?_;refine cdb H (fun h H=>?_) (fun h H=>?_)
 ·refine go ?_;refine st hF 0 rfl fun ss5 hF=>?_;refine go ?_;have e:=pur H;subst e;exact rt _
 ·refine go ?_;refine Yj E0 [.v,.v,.v,.v,.v,.v,.v,.v,.v,.v,.v,.v,.v,.v] (by kernel_rfl) ?_;obtain ⟨x33,f1,H⟩:=bil (g:=K5) Rul.X7 H;refine go1 ?_;refine bp H (ET a0 x33.pat a2 a3) fun x38 h H=>cv h ?_;obtain ⟨x44,f1,H⟩:=bil (g:=K5) Rul.X7 H;refine go1 ?_;refine bp H (P2 x44.tpl x38.1) fun x48 h H=>cl h ?_;refine go ?_;refine Ya hF rfl fun b6 s7 hF=>?_;refine go ?_;refine st hF 0 rfl fun s8 hF=>?_;refine go ?_;obtain ⟨x57,g9,H⟩:=bnd H;refine Yc 3 54 57 (.bool x57) (giN q (fun q=>?_) (fun q=>?_)) (fun J=>?_)
  ·rw [if_neg (dbf q)] at g9;refine go ?_;obtain ⟨x55,hx55,g9⟩:=bnd g9;refine cl (Y8 x48.1 _ hx55) ?_;refine go ?_;exact Yr 54 g9
  ·rw [if_pos (dbt q)] at g9;refine go ?_;exact Yr 54 g9
  refine go ?_;refine cdb H (fun h H=>?_) (fun h H=>?_)
  ·refine go ?_;refine st hF 1 rfl fun s11 hF=>?_;refine go ?_;have e:=pur H;subst e;exact rt _
  ·refine go ?_;refine st hF 1 rfl fun s12 hF=>?_;refine go ?_;have e:=pur H;subst e;exact rt _
theorem Rw:∀(a0:Xpn) (a1:Fm) (a2 a3:Int) r,CC a0 a1 a2 a3=some r->VK KZ 184 [.agg (K8 a0),.agg (KY a1),i6 a2,i6 a3] (.tup [.agg (K8 r.1),.agg (KY r.2.1),i6 r.2.2]):=by
 intro a0 a1 a2 a3 r H;intro σ;unfold CC at H;refine hdg mixed Tryz.func184 (rs:=[.cell 8 42,.cell 9 26,.tmp 10]) fun q tT=>?_;have hF:=K2 σ;have hX:=Tau.none σ;refine go ?_;refine Ya hF rfl fun b1 ss2 hF=>?_;refine go ?_;refine Ya hF rfl fun b3 ss4 hF=>?_;refine go ?_;refine Ya hF rfl fun b5 ss6 hF=>?_;refine go ?_;refine Ya hF rfl fun b7 s8 hF=>?_;refine go ?_;refine cdp H (fun h H=>?_) (fun h H=>?_)
 ·refine go ?_;refine st hF 1 rfl fun s9 hF=>?_;refine go ?_;refine st hF 0 rfl fun s10 hF=>?_;refine go ?_;have e:=pur H;subst e;exact rt _
 ·refine go ?_;refine bp H (CB a0) fun x27 h H=>cl h ?_;refine go ?_;refine st hF 3 rfl fun s11 hF=>?_;refine go ?_;refine cdb H (fun h H=>?_) (fun h H=>?_)
  ·refine go ?_;refine st hF 1 rfl fun s12 hF=>?_;refine go ?_;refine st hF 0 rfl fun s13 hF=>?_;refine go ?_;have e:=pur H;subst e;exact rt _
  ·refine go ?_;refine st hF 3 rfl fun s14 hF=>?_;refine go ?_;refine Yj E0 [.v,.v,.v,.v,.v,.v,.v,.x,.z] (by kernel_rfl) ?_;refine go ?_;obtain ⟨x42,hx42,H⟩:=bnd H;refine cv (Cz (KT x27.1.binds x27.1.macs x27.1.scope x27.1.id (i64.wrap (x27.1.steps+1))) a2 _ hx42) ?_;obtain ⟨x43,f1,H⟩:=bil (g:=Zc) Mac.X7 H;refine go1 ?_;refine Hg hF rfl fun b15 s16 hF=>?_;refine go ?_;refine st hF 0 rfl fun s17 hF=>?_;refine go ?_;refine bp H (J8 a1 x27.1.scope 1) fun x48 h H=>cl h ?_;refine go ?_;refine Ya hF rfl fun b18 s19 hF=>?_;refine go ?_;refine st hF 0 rfl fun s20 hF=>?_;refine go ?_;refine bp H (Y8 x48) fun x50 h H=>cl h ?_;refine go ?_;refine cdb H (fun h H=>?_) (fun h H=>?_)
   ·refine go ?_;refine st hF 3 rfl fun s21 hF=>?_;refine go ?_;refine st hF 2 rfl fun s22 hF=>?_;refine go ?_;have e:=pur H;subst e;exact rt _
   ·refine go ?_;refine bp H (DC x27.1.binds x43.rules x43.lits x48) fun x62 h H=>cl h ?_;refine go ?_;refine cdb H (fun h H=>?_) (fun h H=>?_)
    ·refine go ?_;refine st hF 3 rfl fun s23 hF=>?_;refine go ?_;refine st hF 2 rfl fun s24 hF=>?_;refine go ?_;have e:=pur H;subst e;exact rt _
    ·refine go ?_;refine bp H (LJ x27.1.binds x43.rules x43.lits x48) fun x77 h H=>cl h ?_;refine go ?_;refine Ya hF rfl fun b25 s26 hF=>?_;refine go ?_;refine st hF 0 rfl fun s27 hF=>?_;refine go ?_;refine cdb H (fun h H=>?_) (fun h H=>?_)
     ·refine go ?_;refine st hF 4 rfl fun s28 hF=>?_;refine go ?_;refine st hF 3 rfl fun s29 hF=>?_;refine go ?_;have e:=pur H;subst e;exact rt _
     ·refine go ?_;refine bp H (J8 x77.1 x27.1.scope 1) fun x87 h H=>cl h ?_;refine go ?_;refine Ya hF rfl fun b30 s31 hF=>?_;refine go ?_;refine st hF 0 rfl fun s32 hF=>?_;refine go ?_;refine bp H (Y8 x87) fun x89 h H=>cl h ?_;refine go ?_;refine cdb H (fun h H=>?_) (fun h H=>?_)
      ·refine go ?_;refine st hF 5 rfl fun s33 hF=>?_;refine go ?_;refine st hF 4 rfl fun s34 hF=>?_;refine go ?_;have e:=pur H;subst e;exact rt _
      ·refine go ?_;obtain ⟨E,hEq⟩:∃E,E=EE s32 [b5,b7]:=⟨_,rfl⟩
       have n35:¬E b30:=by rw [hEq];exact K6 (hF.at 0 rfl) (nm2 ⟨neL hF 0 5 rfl rfl (by decide),neL hF 0 4 rfl rfl (by decide)⟩)
       have n36:¬E b25:=by rw [hEq];exact K6 (hF.at 1 rfl) (nm2 ⟨neL hF 1 5 rfl rfl (by decide),neL hF 1 4 rfl rfl (by decide)⟩)
       have n37:¬E b18:=by rw [hEq];exact K6 (hF.at 2 rfl) (nm2 ⟨neL hF 2 5 rfl rfl (by decide),neL hF 2 4 rfl rfl (by decide)⟩)
       have n38:¬E b15:=by rw [hEq];exact K6 (hF.at 3 rfl) (nm2 ⟨neL hF 3 5 rfl rfl (by decide),neL hF 3 4 rfl rfl (by decide)⟩)
       have n39:¬E b3:=by rw [hEq];exact K6 (hF.at 6 rfl) (nm2 ⟨neL hF 6 5 rfl rfl (by decide),neL hF 6 4 rfl rfl (by decide)⟩)
       have n40:¬E b1:=by rw [hEq];exact K6 (hF.at 7 rfl) (nm2 ⟨neL hF 7 5 rfl rfl (by decide),neL hF 7 4 rfl rfl (by decide)⟩)
       refine Yj E [.v,.v,.x,.x,.v] (by kernel_rfl) ?_;have z:=K3 (X8 (hF.at 0 rfl) n35) (K3 (X8 (hF.at 1 rfl) n36) (K3 (X8 (hF.at 2 rfl) n37) (K3 (X8 (hF.at 3 rfl) n38) (K3 (X8 (hF.at 6 rfl) n39) (X8 (hF.at 7 rfl) n40)))));refine gh ?_;refine stK hF 5 (by rw [hEq];exact Zd (by simp)) rfl fun s41 hF=>?_;have z:=K3 (X8 (hF.at 0 rfl) n35) (K3 (X8 (hF.at 1 rfl) n36) (K3 (X8 (hF.at 2 rfl) n37) (K3 (X8 (hF.at 3 rfl) n38) (K3 (X8 (hF.at 6 rfl) n39) (X8 (hF.at 7 rfl) n40)))));refine gh ?_;refine stK hF 4 (by rw [hEq];exact Zd (by simp)) rfl fun s42 hF=>?_;have z:=K3 (X8 (hF.at 0 rfl) n35) (K3 (X8 (hF.at 1 rfl) n36) (K3 (X8 (hF.at 2 rfl) n37) (K3 (X8 (hF.at 3 rfl) n38) (K3 (X8 (hF.at 6 rfl) n39) (X8 (hF.at 7 rfl) n40)))));refine gh ?_;refine go ?_;have e:=pur H;subst e;exact rt [.agg [sf K0 x27.1.binds,sf Zc x27.1.macs,i6 x27.1.scope,i6 x27.1.id,i6 (i64.wrap (x27.1.steps+1))],.agg [i6 x87.kind,.str x87.name,i6 x87.num,sf cI x87.sc,sf KY x87.kids],i6 0]
theorem NN:∀(a1:List Fm) (a2:Fm) (a3:Int) (YJ:List Bnd) (YK:List Mac) (YD YL YM:Int) (X9:List Int) (J4:Int) out,Gp a1 a2 a3 YJ YK YD YL YM X9 J4=some out->∀c,Yg Tryz.f187 0=some c->∀(Q:QT) (tt:Sto) (b1 b3 b5 b7 b12:Nat),(∀(En:List Bnd) (Eo:List Mac) (Ep Er Es:Int) (Vu:List Int),out=Sum.inr (En,Eo,Ep,Er,Es,Vu)->∀(T:TT) (σ:Sto) (e0v0:AV),T 3=i6 a3/\T 4=.ptr b1 0/\T 6=.ptr b3 0/\T 8=.ptr b5 0/\T 9=.ptr b7 0/\T 12=.ptr b12 0->Fx tt σ [(b12,⟨136,11,[i6 5,i6 0,.str zB,i6 0,e0v0,i6 0,.str zB,i6 0,.Yd,.Yd,.Yd]⟩),(b7,⟨136,11,[i6 0,i6 0,.str zB,i6 0,.Yd,i6 0,.str zB,i6 0,.Yd,.Yd,.Yd]⟩),(b5,⟨42,5,[.Yd,.Yd,i6 0,i6 0,i6 0]⟩),(b3,⟨26,5,[i6 a2.kind,.str a2.name,i6 a2.num,sf cI a2.sc,sf KY a2.kids]⟩),(b1,⟨42,5,[sf K0 En,sf Zc Eo,i6 Ep,i6 Er,i6 Es]⟩)] [⟨e0v0,3,1,rws cI Vu⟩]->Q (.ex 0) ⟨T,σ⟩)->(∀r,out=Sum.inl r->∀s',I7 KZ [.cell 8 42,.cell 9 136,.tmp 10] (fun r' ss'=>r'=.tup [.agg (K8 r.1),.agg (Zz r.2.1),i6 r.2.2]/\ss'=tt) s'->Q .ret s')->∀(T:TT) (σ:Sto) (z0v0:AV),T 1=sf KY a1/\T 3=i6 a3/\T 4=.ptr b1 0/\T 6=.ptr b3 0/\T 8=.ptr b5 0/\T 9=.ptr b7 0/\T 12=.ptr b12 0/\T 13=i6 J4->Fx tt σ [(b12,⟨136,11,[i6 5,i6 0,.str zB,i6 0,z0v0,i6 0,.str zB,i6 0,.Yd,.Yd,.Yd]⟩),(b7,⟨136,11,[i6 0,i6 0,.str zB,i6 0,.Yd,i6 0,.str zB,i6 0,.Yd,.Yd,.Yd]⟩),(b5,⟨42,5,[.Yd,.Yd,i6 0,i6 0,i6 0]⟩),(b3,⟨26,5,[i6 a2.kind,.str a2.name,i6 a2.num,sf cI a2.sc,sf KY a2.kids]⟩),(b1,⟨42,5,[sf K0 YJ,sf Zc YK,i6 YD,i6 YL,i6 YM]⟩)] [⟨z0v0,3,1,rws cI X9⟩]->aLp KZ c Q ⟨T,σ⟩:=by
 intro a1 a2 a3 YJ YK YD YL YM X9 J4;revert YJ YK YD YL YM X9 J4;refine Gp.partial_correctness a1 a2 a3 _ ?_;intro Gp IH YJ YK YD YL YM X9 J4 out H c hc Q tt b1 b3 b5 b7 b12 hE hR T σ z0v0 tT hF;refine lpx tt hc rfl fun q hX=>go ?_;refine cdp H (fun h H=>?_) (fun h H=>?_)
 ·obtain ⟨x38,f1,H⟩:=bil (g:=KY) Fm.X7 H;refine go1 ?_;refine go ?_;refine cdn H (fun h H=>?_) (fun h H=>?_)
  ·refine go ?_;refine st hF 2 rfl fun s15 hF=>?_;refine go ?_;refine st hF 1 rfl fun s16 hF=>?_;refine go ?_;exact wq (hR _ (pur H).symm _ (rt _))
  ·refine go ?_;refine Yj E0 [.v,.v,.v,.v,.v,.v,.v,.x,.z] (by kernel_rfl) ?_;obtain ⟨x46,f1,H⟩:=bil (g:=KY) Fm.X7 H;refine go1 ?_;refine bp H (J8 x46 YD 0) fun x50 h H=>cv h ?_;refine go ?_;refine Hg hF rfl fun b17 s18 hF=>?_;refine go ?_;refine st hF 0 rfl fun s19 hF=>?_;refine go ?_;refine bp H (Y8 x50) fun x52 h H=>cl h ?_;refine go ?_;refine cdb H (fun h H=>?_) (fun h H=>?_)
   ·refine go ?_;refine st hF 3 rfl fun s20 hF=>?_;refine go ?_;refine st hF 2 rfl fun s21 hF=>?_;refine go ?_;exact wq (hR _ (pur H).symm _ (rt _))
   ·refine go ?_;refine bp H (FB (KT YJ YK YD YL YM) x50) fun x59 h H=>cl h ?_;refine go ?_;refine Ya hF rfl fun b22 s23 hF=>?_;refine go ?_;refine st hF 0 rfl fun s24 hF=>?_;refine go ?_;refine st hF 6 rfl fun s25 hF=>?_;refine go ?_;refine cdn H (fun h H=>?_) (fun h H=>?_)
    ·refine go ?_;refine st hF 4 rfl fun s26 hF=>?_;refine go ?_;refine st hF 3 rfl fun s27 hF=>?_;refine go ?_;exact wq (hR _ (pur H).symm _ (rt _))
    ·refine go ?_;refine apd (g:=cI) hF 0 H (rdo (c:=true) (g:=cI) (fun _=>rfl)) fun x73 H v28 s29 hF=>?_;refine go ?_;refine st hF 2 (hF.cells 0 rfl) fun s30 hF=>?_;refine go ?_;exact IH  x59.1.binds x59.1.macs x59.1.scope x59.1.id x59.1.steps x73 (i64.wrap (J4+1)) _ H _ rfl Q tt b1 b3 b5 b7 b12 hE hR _ _ v28 S (hF.drop 2 0)
 ·refine go ?_;exact wq (hE _ _ _ _ _ _ (pur H).symm _ _ z0v0 S hF)
theorem F6:∀(a1 a2:List Fm) (a3:Fm) (a4:Int) (YJ:List Bnd) (YK:List Mac) (YD YL YM J5:Int) out,WL a1 a2 a3 a4 YJ YK YD YL YM J5=some out->∀c,Yg Tryz.f181 0=some c->∀(Q:QT) (tt:Sto) (b1 b3 b5 b7:Nat),(∀(En:List Bnd) (Eo:List Mac) (Ep Er Es:Int),out=Sum.inr (En,Eo,Ep,Er,Es)->∀(T:TT) (σ:Sto),T 4=i6 a4/\T 5=.ptr b1 0/\T 8=.ptr b3 0/\T 10=.ptr b5 0/\T 11=.ptr b7 0->Fx tt σ [(b7,⟨136,11,[i6 0,i6 0,.str zB,i6 0,.Yd,i6 0,.str zB,i6 0,.Yd,.Yd,.Yd]⟩),(b5,⟨42,5,[.Yd,.Yd,i6 0,i6 0,i6 0]⟩),(b3,⟨26,5,[i6 a3.kind,.str a3.name,i6 a3.num,sf cI a3.sc,sf KY a3.kids]⟩),(b1,⟨42,5,[sf K0 En,sf Zc Eo,i6 Ep,i6 Er,i6 Es]⟩)] []->Q (.ex 0) ⟨T,σ⟩)->(∀r,out=Sum.inl r->∀s',I7 KZ [.cell 10 42,.cell 11 136,.tmp 12] (fun r' ss'=>r'=.tup [.agg (K8 r.1),.agg (Zz r.2.1),i6 r.2.2]/\ss'=tt) s'->Q .ret s')->∀(T:TT) (σ:Sto),T 1=sf KY a1/\T 2=sf KY a2/\T 4=i6 a4/\T 5=.ptr b1 0/\T 8=.ptr b3 0/\T 10=.ptr b5 0/\T 11=.ptr b7 0/\T 14=i6 J5->Fx tt σ [(b7,⟨136,11,[i6 0,i6 0,.str zB,i6 0,.Yd,i6 0,.str zB,i6 0,.Yd,.Yd,.Yd]⟩),(b5,⟨42,5,[.Yd,.Yd,i6 0,i6 0,i6 0]⟩),(b3,⟨26,5,[i6 a3.kind,.str a3.name,i6 a3.num,sf cI a3.sc,sf KY a3.kids]⟩),(b1,⟨42,5,[sf K0 YJ,sf Zc YK,i6 YD,i6 YL,i6 YM]⟩)] []->aLp KZ c Q ⟨T,σ⟩:=by
 intro a1 a2 a3 a4 YJ YK YD YL YM J5;revert YJ YK YD YL YM J5;refine WL.partial_correctness a1 a2 a3 a4 _ ?_;intro WL IH YJ YK YD YL YM J5 out H c hc Q tt b1 b3 b5 b7 hE hR T σ tT hF;refine lpx tt hc rfl fun q hX=>go ?_;refine cdp H (fun h H=>?_) (fun h H=>?_)
 ·refine go ?_;refine Yj E0 [.v,.v,.v,.v,.v,.v,.v,.x,.z] (by kernel_rfl) ?_;obtain ⟨x40,f1,H⟩:=bil (g:=KY) Fm.X7 H;refine go1 ?_;refine bp H (J8 x40 YD 0) fun x44 h H=>cv h ?_;refine go ?_;refine Hg hF rfl fun b12 s13 hF=>?_;refine go ?_;refine st hF 0 rfl fun s14 hF=>?_;refine go ?_;refine Yj E0 [.v,.v,.v,.v,.v,.v,.v,.x,.z] (by kernel_rfl) ?_;obtain ⟨x47,f1,H⟩:=bil (g:=KY) Fm.X7 H;refine go1 ?_;refine bp H (J8 x47 YD 0) fun x51 h H=>cv h ?_;refine go ?_;refine Hg hF rfl fun b15 s16 hF=>?_;refine go ?_;refine st hF 0 rfl fun s17 hF=>?_;obtain ⟨x54,f1,H⟩:=bil (g:=KY) Fm.X7 H;refine go1 ?_;refine go ?_;refine cdn H (fun h H=>?_) (fun h H=>?_)
  ·refine go ?_;refine st hF 3 rfl fun s18 hF=>?_;refine go ?_;refine st hF 2 rfl fun s19 hF=>?_;refine go ?_;exact wq (hR _ (pur H).symm _ (rt _))
  ·refine go ?_;refine bp H (Y8 x44) fun x61 h H=>cl h ?_;refine go ?_;obtain ⟨x67,g20,H⟩:=bnd H;refine Yc 3 64 67 (.bool x67) (giN q (fun q=>?_) (fun q=>?_)) (fun J=>?_)
   ·rw [if_neg (dbf q)] at g20;refine go ?_;obtain ⟨x65,hx65,g20⟩:=bnd g20;refine cl (Y8 x51 _ hx65) ?_;refine go ?_;exact Yr 64 g20
   ·rw [if_pos (dbt q)] at g20;refine go ?_;exact Yr 64 g20
   refine go ?_;refine cdb H (fun h H=>?_) (fun h H=>?_)
   ·refine go ?_;refine st hF 3 rfl fun s22 hF=>?_;refine go ?_;refine st hF 2 rfl fun s23 hF=>?_;refine go ?_;exact wq (hR _ (pur H).symm _ (rt _))
   ·refine go ?_;refine bp H (LL x51) fun x72 h H=>cl h ?_;refine go ?_;refine cdb H (fun h H=>?_) (fun h H=>?_)
    ·refine go ?_;refine st hF 3 rfl fun s24 hF=>?_;refine go ?_;refine st hF 2 rfl fun s25 hF=>?_;refine go ?_;exact wq (hR _ (pur H).symm _ (rt _))
    ·refine go ?_;refine bp H (FB (KT YJ YK YD YL YM) x44) fun x83 h H=>cl h ?_;refine go ?_;refine Ya hF rfl fun b26 s27 hF=>?_;refine go ?_;refine st hF 0 rfl fun s28 hF=>?_;refine go ?_;refine st hF 6 rfl fun s29 hF=>?_;refine go ?_;refine cdn H (fun h H=>?_) (fun h H=>?_)
     ·refine go ?_;refine st hF 4 rfl fun s30 hF=>?_;refine go ?_;refine st hF 3 rfl fun s31 hF=>?_;refine go ?_;exact wq (hR _ (pur H).symm _ (rt _))
     ·refine go ?_;refine NT E0 [.v,.v,.v,.v,.v,.v,.v,.v,.v,.x,.x,.v,.z] [0,1,2,4,5,6,7,8,9,3,10,11,12] (by kernel_rfl) ?_;refine go ?_;have hF:=hF.lit 49 3 (rws Zc []) rfl;refine PD (g:=Zc) hF 0 H (rdo (c:=false) (g:=Zc) Mac.X7) fun x95 H v32 s33 hF=>?_;refine go ?_;refine Qs4 (g:=Zc) hF 0 H (rdo (c:=true) (g:=Zc) Mac.X7) fun x102 H s35 hF=>?_;refine go ?_;refine st hF 6 rfl fun s36 hF=>?_;refine go ?_;exact IH  x83.1.binds x102 x83.1.scope x83.1.id x83.1.steps (i64.wrap (J5+1)) _ H _ rfl Q tt b1 b3 b5 b7 hE hR _ _  S (hF.drop 3 0)
 ·refine go ?_;exact wq (hE _ _ _ _ _ (pur H).symm _ _  S hF)
theorem MT (fx0:Int):(∀(a0:Xpn) (a1:Fm) r,VC a0 a1 fx0=some r->VK KZ 143 [.agg (K8 a0),.agg (KY a1),i6 fx0] (.tup [.agg (K8 r.1),.agg (Zz r.2.1),i6 r.2.2]))/\(∀(a0:Xpn) (a1:Fm) (a2:Int) r,Cy a0 a1 a2 fx0=some r->VK KZ 161 [.agg (K8 a0),.agg (KY a1),i6 a2,i6 fx0] (.tup [.agg (K8 r.1),.agg (Zz r.2.1),i6 r.2.2]))/\(∀(a0:Xpn) (a1:List Fm) r,H9 a0 a1 fx0=some r->VK KZ 163 [.agg (K8 a0),sf KY a1,i6 fx0] (.tup [.agg (K8 r.1),sf Zz r.2.1,i6 r.2.2]))/\(∀(a0:Xpn) (a1:List Fm) (a2:Fm) r,Bu a0 a1 a2 fx0=some r->VK KZ 187 [.agg (K8 a0),sf KY a1,.agg (KY a2),i6 fx0] (.tup [.agg (K8 r.1),.agg (Zz r.2.1),i6 r.2.2]))/\(∀(a0:Xpn) (a1 a2:List Fm) (a3:Fm) r,Bd a0 a1 a2 a3 fx0=some r->VK KZ 181 [.agg (K8 a0),sf KY a1,sf KY a2,.agg (KY a3),i6 fx0] (.tup [.agg (K8 r.1),.agg (Zz r.2.1),i6 r.2.2]))/\(∀(a0:Xpn) (a1:Fm) (a2:Int) r,CW a0 a1 a2 fx0=some r->VK KZ 162 [.agg (K8 a0),.agg (KY a1),i6 a2,i6 fx0] (.tup [.agg (K8 r.1),.agg (Zz r.2.1),i6 r.2.2])):=by
 have h:=VC.mutual_partial_correctness fx0 (motive_1:=fun a0 a1 r=>VK KZ 143 [.agg (K8 a0),.agg (KY a1),i6 fx0] (.tup [.agg (K8 r.1),.agg (Zz r.2.1),i6 r.2.2])) (motive_2:=fun a0 a1 r=>VK KZ 163 [.agg (K8 a0),sf KY a1,i6 fx0] (.tup [.agg (K8 r.1),sf Zz r.2.1,i6 r.2.2])) (motive_3:=fun a1 YJ YK YD YL YM X9 YV out=>∀c,Yg Tryz.f163 0=some c->∀(Q:QT) (tt:Sto) (b1 b3:Nat),(∀(En:List Bnd) (Eo:List Mac) (Ep Er Es:Int) (Vu:List Cor),out=Sum.inr (En,Eo,Ep,Er,Es,Vu)->∀(T:TT) (σ:Sto) (e0v0:AV),T 3=.ptr b1 0/\T 6=.ptr b3 0/\T 9=e0v0->Fx tt σ [(b3,⟨42,5,[.Yd,.Yd,i6 0,i6 0,i6 0]⟩),(b1,⟨42,5,[sf K0 En,sf Zc Eo,i6 Ep,i6 Er,i6 Es]⟩)] [⟨e0v0,136,11,rws Zz Vu⟩]->Q (.ex 0) ⟨T,σ⟩)->(∀r,out=Sum.inl r->∀s',I7 KZ [.cell 6 42,.tmp 7,.tmp 8] (fun r' ss'=>r'=.tup [.agg (K8 r.1),sf Zz r.2.1,i6 r.2.2]/\ss'=tt) s'->Q .ret s')->∀(T:TT) (σ:Sto) (z0v0:AV),T 1=sf KY a1/\T 2=i6 fx0/\T 3=.ptr b1 0/\T 6=.ptr b3 0/\T 9=z0v0/\T 10=i6 YV->Fx tt σ [(b3,⟨42,5,[.Yd,.Yd,i6 0,i6 0,i6 0]⟩),(b1,⟨42,5,[sf K0 YJ,sf Zc YK,i6 YD,i6 YL,i6 YM]⟩)] [⟨z0v0,136,11,rws Zz X9⟩]->aLp KZ c Q ⟨T,σ⟩) (motive_4:=fun a0 a1 a2 r=>VK KZ 162 [.agg (K8 a0),.agg (KY a1),i6 a2,i6 fx0] (.tup [.agg (K8 r.1),.agg (Zz r.2.1),i6 r.2.2])) (motive_5:=fun a0 a1 a2 r=>VK KZ 161 [.agg (K8 a0),.agg (KY a1),i6 a2,i6 fx0] (.tup [.agg (K8 r.1),.agg (Zz r.2.1),i6 r.2.2])) (motive_6:=fun a0 a1 a2 a3 r=>VK KZ 181 [.agg (K8 a0),sf KY a1,sf KY a2,.agg (KY a3),i6 fx0] (.tup [.agg (K8 r.1),.agg (Zz r.2.1),i6 r.2.2])) (motive_7:=fun a0 a1 a2 r=>VK KZ 187 [.agg (K8 a0),sf KY a1,.agg (KY a2),i6 fx0] (.tup [.agg (K8 r.1),.agg (Zz r.2.1),i6 r.2.2])) ?s0 ?s1 ?s2 ?s3 ?s4 ?s5 ?s6
 ·exact ⟨h.1,h.2.2.2.2.1,h.2.1,h.2.2.2.2.2.2,h.2.2.2.2.2.1,h.2.2.2.1⟩
 ·intro H9 CW Cy C2 C5 C1 a0 a1 r H;intro σ;refine hdg mixed Tryz.func143 (rs:=[.cell 6 42,.cell 7 136,.tmp 8]) fun q tT=>?_;have hF:=K2 σ;have hX:=Tau.none σ;refine go ?_;refine Ya hF rfl fun b1 ss2 hF=>?_;refine go ?_;refine Ya hF rfl fun b3 ss4 hF=>?_;refine go ?_;refine Ya hF rfl fun b5 ss6 hF=>?_;refine go ?_;refine Ya hF rfl fun b7 s8 hF=>?_;refine go ?_;refine cdp H (fun h H=>?_) (fun h H=>?_)
  ·refine go ?_;obtain ⟨E,hEq⟩:∃E,E=EE s8 [b5,b7]:=⟨_,rfl⟩
   have n9:¬E b3:=by rw [hEq];exact K6 (hF.at 2 rfl) (nm2 ⟨neL hF 2 1 rfl rfl (by decide),neL hF 2 0 rfl rfl (by decide)⟩)
   have n10:¬E b1:=by rw [hEq];exact K6 (hF.at 3 rfl) (nm2 ⟨neL hF 3 1 rfl rfl (by decide),neL hF 3 0 rfl rfl (by decide)⟩)
   refine Yj E [.v,.v,.v,.v,.x,.x,.v] (by kernel_rfl) ?_;have z:=K3 (X8 (hF.at 2 rfl) n9) (X8 (hF.at 3 rfl) n10);refine gh ?_;refine stK hF 1 (by rw [hEq];exact Zd (by simp)) rfl fun s11 hF=>?_;have z:=K3 (X8 (hF.at 2 rfl) n9) (X8 (hF.at 3 rfl) n10);refine gh ?_;refine stK hF 0 (by rw [hEq];exact Zd (by simp)) rfl fun s12 hF=>?_;have z:=K3 (X8 (hF.at 2 rfl) n9) (X8 (hF.at 3 rfl) n10);refine gh ?_;refine go ?_;have e:=pur H;subst e;exact rt [.agg [sf K0 a0.binds,sf Zc a0.macs,i6 a0.scope,i6 a0.id,i6 a0.steps],.agg [i6 3,i6 0,.str zB,i6 a1.num,.Yd,i6 0,.str zB,i6 0,.Yd,.Yd,.Yd],i6 0]
  ·refine go ?_;refine cdp H (fun h H=>?_) (fun h H=>?_)
   ·refine go ?_;refine bp H (Rt a0 a1) fun x25 h H=>cl h ?_;refine go ?_;refine st hF 1 rfl fun s13 hF=>?_;refine go ?_;refine st hF 0 rfl fun s14 hF=>?_;refine go ?_;have e:=pur H;subst e;exact rt _
   ·refine go ?_;refine cdp H (fun h H=>?_) (fun h H=>?_)
    ·refine go ?_;refine st hF 1 rfl fun s15 hF=>?_;refine go ?_;refine st hF 0 rfl fun s16 hF=>?_;refine go ?_;have e:=pur H;subst e;exact rt _
    ·obtain ⟨x37,f1,H⟩:=bil (g:=KY) Fm.X7 H;refine go1 ?_;refine go ?_;refine cdp H (fun h H=>?_) (fun h H=>?_)
     ·refine go ?_;refine Yj E0 [.v,.v,.v,.v,.v,.v,.v,.v,.v,.v,.v] (by kernel_rfl) ?_;obtain ⟨x45,f1,H⟩:=bil (g:=KY) Fm.X7 H;refine go1 ?_;refine bp H (Bv a0 x45) fun x47 h H=>cv h ?_;refine go ?_;refine cdp H (fun h H=>?_) (fun h H=>?_)
      ·refine go ?_;refine st hF 1 rfl fun s17 hF=>?_;refine go ?_;refine st hF 0 rfl fun s18 hF=>?_;refine go ?_;have e:=pur H;subst e;exact rt _
      ·refine go ?_;refine cdp H (fun h H=>?_) (fun h H=>?_)
       ·refine go ?_;refine bp H (C1 a0 a1 x47.2) fun x61 h H=>cl h ?_;refine go ?_;refine st hF 1 rfl fun s19 hF=>?_;refine go ?_;refine st hF 0 rfl fun s20 hF=>?_;refine go ?_;have e:=pur H;subst e;exact rt _
       ·refine go ?_;refine cdp H (fun h H=>?_) (fun h H=>?_)
        ·refine go ?_;refine bp H (C5 a0 a1 x47.2) fun x71 h H=>cl h ?_;refine go ?_;refine st hF 1 rfl fun s21 hF=>?_;refine go ?_;refine st hF 0 rfl fun s22 hF=>?_;refine go ?_;have e:=pur H;subst e;exact rt _
        ·refine go ?_;refine bp H (C2 a0 a1.kids) fun x80 h H=>cl h ?_;refine go ?_;refine st hF 3 rfl fun s23 hF=>?_;refine go ?_;refine st hF 1 rfl fun s24 hF=>?_;refine go ?_;refine st hF 0 rfl fun s25 hF=>?_;refine go ?_;have e:=pur H;subst e;exact rt _
     ·refine go ?_;obtain ⟨Pj,hx80_1,H⟩:=bnd H;refine cl (C2 a0 a1.kids _ hx80_1) ?_;refine go ?_;refine st hF 3 rfl fun s26 hF=>?_;refine go ?_;refine st hF 1 rfl fun s27 hF=>?_;refine go ?_;refine st hF 0 rfl fun s28 hF=>?_;refine go ?_;have e:=pur H;subst e;exact rt _
 ·intro Hw L0 a0 a1 r H;intro σ;refine hdg mixed Tryz.func163 (rs:=[.cell 6 42,.tmp 7,.tmp 8]) fun q tT=>?_;have hF:=K2 σ;have hX:=Tau.none σ;refine go ?_;refine Ya hF rfl fun b1 ss2 hF=>?_;refine go ?_;refine Ya hF rfl fun b3 ss4 hF=>?_;have hF:=hF.lit 136 11 (rws Zz []) rfl;refine go ?_;obtain ⟨o21,ho21,H⟩:=bnd H;refine L0 a1 a0.binds a0.macs a0.scope a0.id a0.steps [] 0 _ ho21 _ rfl _ _ b1 b3 ?_ ?_ _ _ (.sl true (rws Zz [])) S hF
  ·intro Sc Sd Se Sf Sg D4 he T23 s24 e22v0 tT hF;have he:=he.symm;subst he
   try dsimp only at H
   refine go ?_;refine st hF 0 rfl fun s26 hF=>?_;refine go ?_;have e:=pur H;subst e;exact rt _
  ·intro r hr s' hs;subst hr;have e:=pur H;subst e;exact hsq hs
 ·intro VC Hw C0 L0 a1 YJ YK YD YL YM X9 YV out H c hc Q tt b1 b3 hE hR T σ z0v0 tT hF;refine lpx tt hc rfl fun q hX=>go ?_;refine cdp H (fun h H=>?_) (fun h H=>?_)
  ·refine go ?_;obtain ⟨E,hEq⟩:∃E,E=EE σ []:=⟨_,rfl⟩
   have n5:¬E b3:=by rw [hEq];exact K6 (hF.at 0 rfl) (by simp)
   have n6:¬E b1:=by rw [hEq];exact K6 (hF.at 1 rfl) (by simp)
   refine Yj E [.v,.v,.v,.v,.v,.v,.v,.v,.v,.v,.v,.x,.x,.x,.x,.v] (by kernel_rfl) ?_;obtain ⟨x25,f1,H⟩:=bil (g:=KY) Fm.X7 H;have z:=K3 (X8 (hF.at 0 rfl) n5) (X8 (hF.at 1 rfl) n6);refine gh1 ?_;refine bp H (C0 (KT YJ YK YD YL YM) x25) fun x28 h H=>cv h ?_;have z:=K3 (X8 (hF.at 0 rfl) n5) (X8 (hF.at 1 rfl) n6);refine gh ?_;refine A0 hF rfl fun b7 s8 nw9 mo10 hF=>?_;have z:=K3 (X8 (hF.at 1 rfl) n5) (X8 (hF.at 2 rfl) n6);refine gh ?_;refine A0 hF rfl fun b11 s12 nw13 mo14 hF=>?_;have z:=K3 (X8 (hF.at 2 rfl) n5) (X8 (hF.at 3 rfl) n6);refine gh ?_;refine stK hF 1 (show E _ from ((em0 hEq) _ nw9)) rfl fun s15 hF=>?_;have z:=K3 (X8 (hF.at 2 rfl) n5) (X8 (hF.at 3 rfl) n6);refine gh ?_;refine stK hF 0 (show E _ from ((fun x h=>(em0 hEq) x (mo10 x h)) _ nw13)) rfl fun s16 hF=>?_;have z:=K3 (X8 (hF.at 2 rfl) n5) (X8 (hF.at 3 rfl) n6);refine gh ?_;refine go ?_;refine st hF 3 rfl fun s17 hF=>?_;refine go ?_;refine cdn H (fun h H=>?_) (fun h H=>?_)
   ·refine go ?_;refine st hF 2 rfl fun s18 hF=>?_;refine go ?_;exact wq (hR _ (pur H).symm _ (rt _))
   ·refine go ?_;refine apd (g:=Zz) hF 0 H (rdo (c:=true) (g:=Zz) Cor.X7) fun x41 H v19 s20 hF=>?_;refine go ?_;exact L0 a1 x28.1.binds x28.1.macs x28.1.scope x28.1.id x28.1.steps x41 (i64.wrap (YV+1)) _ H _ rfl Q tt b1 b3 hE hR _ _ v19 S (hF.drop 2 0)
  ·refine go ?_;exact wq (hE _ _ _ _ _ _ (pur H).symm _ _ z0v0 S hF)
 ·intro VC C0 a0 a1 a2 r H;intro σ;refine hdg mixed Tryz.func162 (rs:=[.cell 8 42,.cell 9 136,.tmp 10]) fun q tT=>?_;have hF:=K2 σ;have hX:=Tau.none σ;refine go ?_;refine Ya hF rfl fun b1 ss2 hF=>?_;refine go ?_;refine Ya hF rfl fun b3 ss4 hF=>?_;refine go ?_;refine Ya hF rfl fun b5 ss6 hF=>?_;refine go ?_;refine Ya hF rfl fun b7 s8 hF=>?_;refine go ?_;refine bp H (Rw a0 a1 a2 fx0) fun x18 h H=>cl h ?_;refine go ?_;refine Ya hF rfl fun b9 s10 hF=>?_;refine go ?_;refine st hF 4 rfl fun s11 hF=>?_;refine go ?_;refine st hF 0 rfl fun s12 hF=>?_;refine go ?_;refine cdn H (fun h H=>?_) (fun h H=>?_)
  ·refine go ?_;refine st hF 2 rfl fun s13 hF=>?_;refine go ?_;refine st hF 1 rfl fun s14 hF=>?_;refine go ?_;have e:=pur H;subst e;exact rt _
  ·refine go ?_;refine bp H (C0 x18.1 x18.2.1) fun x30 h H=>cl h ?_;refine go ?_;refine st hF 2 rfl fun s15 hF=>?_;refine go ?_;refine st hF 1 rfl fun s16 hF=>?_;refine go ?_;have e:=pur H;subst e;exact rt _
 ·intro H9 Bd Bu C2 C4 C3 a0 a1 a2 r H;intro σ;refine hdg mixed Tryz.func161 (rs:=[.cell 8 42,.cell 9 136,.tmp 10]) fun q tT=>?_;have hF:=K2 σ;have hX:=Tau.none σ;refine go ?_;refine Ya hF rfl fun b1 ss2 hF=>?_;refine go ?_;refine Ya hF rfl fun b3 ss4 hF=>?_;refine go ?_;refine Ya hF rfl fun b5 ss6 hF=>?_;refine go ?_;refine Ya hF rfl fun b7 s8 hF=>?_;refine go ?_;obtain ⟨x29,g9,H⟩:=bnd H;refine Yc 4 25 29 (.bool x29) (gi q (fun q=>?_) (fun q=>?_)) (fun J=>?_)
  ·refine go ?_;exact Yr 25 g9
  ·refine go ?_;exact Yr 25 g9
  refine go ?_;refine cdb H (fun h H=>?_) (fun h H=>?_)
  ·refine go ?_;obtain ⟨E,hEq⟩:∃E,E=EE s8 [b5,b7]:=⟨_,rfl⟩
   have n11:¬E b3:=by rw [hEq];exact K6 (hF.at 2 rfl) (nm2 ⟨neL hF 2 1 rfl rfl (by decide),neL hF 2 0 rfl rfl (by decide)⟩)
   have n12:¬E b1:=by rw [hEq];exact K6 (hF.at 3 rfl) (nm2 ⟨neL hF 3 1 rfl rfl (by decide),neL hF 3 0 rfl rfl (by decide)⟩)
   refine Yj E [.v,.v,.v,.v,.v,.v,.v,.x,.x,.v] (by kernel_rfl) ?_;obtain ⟨x33,f1,H⟩:=bil (g:=KY) Fm.X7 H;have z:=K3 (X8 (hF.at 2 rfl) n11) (X8 (hF.at 3 rfl) n12);refine gh1 ?_;refine bp H (DD x33) fun x35 h H=>cv h ?_;have z:=K3 (X8 (hF.at 2 rfl) n11) (X8 (hF.at 3 rfl) n12);refine gh ?_;refine stK hF 1 (by rw [hEq];exact Zd (by simp)) rfl fun s13 hF=>?_;have z:=K3 (X8 (hF.at 2 rfl) n11) (X8 (hF.at 3 rfl) n12);refine gh ?_;refine stK hF 0 (by rw [hEq];exact Zd (by simp)) rfl fun s14 hF=>?_;have z:=K3 (X8 (hF.at 2 rfl) n11) (X8 (hF.at 3 rfl) n12);refine gh ?_;refine go ?_;have e:=pur H;subst e;exact rt [.agg [sf K0 a0.binds,sf Zc a0.macs,i6 a0.scope,i6 a0.id,i6 a0.steps],.agg [i6 4,i6 0,.str zB,i6 0,.Yd,i6 x35.kind,.str x35.name,i6 x35.num,sf cI x35.sc,sf KY x35.kids,.Yd],i6 0]
  ·refine go ?_;obtain ⟨x45,g15,H⟩:=bnd H;refine Yc 4 41 45 (.bool x45) (gi q (fun q=>?_) (fun q=>?_)) (fun J=>?_)
   ·refine go ?_;exact Yr 41 g15
   ·refine go ?_;exact Yr 41 g15
   refine go ?_;refine cdb H (fun h H=>?_) (fun h H=>?_)
   ·refine go ?_;obtain ⟨E,hEq⟩:∃E,E=EE s8 []:=⟨_,rfl⟩
    have n17:¬E b7:=by rw [hEq];exact K6 (hF.at 0 rfl) (by simp)
    have n18:¬E b5:=by rw [hEq];exact K6 (hF.at 1 rfl) (by simp)
    have n19:¬E b3:=by rw [hEq];exact K6 (hF.at 2 rfl) (by simp)
    have n20:¬E b1:=by rw [hEq];exact K6 (hF.at 3 rfl) (by simp)
    refine Yj E [.v,.v,.v,.v,.v,.v,.v,.v,.v,.v,.x,.x,.v,.v] (by kernel_rfl) ?_;obtain ⟨x50,f1,H⟩:=bls (g:=KY) Fm.X7 (lo:=some (i6 1)) (hi:=none) rfl rfl H;have z:=K3 (X8 (hF.at 0 rfl) n17) (K3 (X8 (hF.at 1 rfl) n18) (K3 (X8 (hF.at 2 rfl) n19) (X8 (hF.at 3 rfl) n20)));refine gh1 ?_;refine bp H (C2 a0 x50) fun x52 h H=>cv h ?_;have z:=K3 (X8 (hF.at 0 rfl) n17) (K3 (X8 (hF.at 1 rfl) n18) (K3 (X8 (hF.at 2 rfl) n19) (X8 (hF.at 3 rfl) n20)));refine gh ?_;refine A0 hF rfl fun b21 s22 nw23 mo24 hF=>?_;have z:=K3 (X8 (hF.at 1 rfl) n17) (K3 (X8 (hF.at 2 rfl) n18) (K3 (X8 (hF.at 3 rfl) n19) (X8 (hF.at 4 rfl) n20)));refine gh ?_;refine stK hF 0 (show E _ from ((em0 hEq) _ nw23)) rfl fun s25 hF=>?_;have z:=K3 (X8 (hF.at 1 rfl) n17) (K3 (X8 (hF.at 2 rfl) n18) (K3 (X8 (hF.at 3 rfl) n19) (X8 (hF.at 4 rfl) n20)));refine gh ?_;refine go ?_;refine st hF 2 rfl fun s26 hF=>?_;refine go ?_;refine st hF 1 rfl fun s27 hF=>?_;refine go ?_;have e:=pur H;subst e;exact rt _
   ·refine go ?_;obtain ⟨x68,g28,H⟩:=bnd H;refine Yc 4 64 68 (.bool x68) (gi q (fun q=>?_) (fun q=>?_)) (fun J=>?_)
    ·refine go ?_;exact Yr 64 g28
    ·refine go ?_;exact Yr 64 g28
    refine go ?_;obtain ⟨x76,g30,H⟩:=bnd H;refine Yc 6 70 76 (.bool x76) (gi q (fun q=>?_) (fun q=>?_)) (fun J=>?_)
    ·rw [if_pos (dbt q)] at g30;obtain ⟨x72,f1,g30⟩:=bil (g:=KY) Fm.X7 g30;refine go1 ?_;refine go ?_;exact Yr 70 g30
    ·rw [if_neg (dbf q)] at g30;refine go ?_;exact Yr 70 g30
    refine go ?_;refine cdb H (fun h H=>?_) (fun h H=>?_)
    ·refine go ?_;obtain ⟨E,hEq⟩:∃E,E=EE s8 [b5,b7]:=⟨_,rfl⟩
     have n32:¬E b3:=by rw [hEq];exact K6 (hF.at 2 rfl) (nm2 ⟨neL hF 2 1 rfl rfl (by decide),neL hF 2 0 rfl rfl (by decide)⟩)
     have n33:¬E b1:=by rw [hEq];exact K6 (hF.at 3 rfl) (nm2 ⟨neL hF 3 1 rfl rfl (by decide),neL hF 3 0 rfl rfl (by decide)⟩)
     refine Yj E [.v,.v,.v,.v,.v,.v,.v,.v,.v,.v,.v,.v,.v,.v,.v,.x,.x,.v] (by kernel_rfl) ?_;obtain ⟨x80,f1,H⟩:=bil (g:=KY) Fm.X7 H;obtain ⟨x85,f2,H⟩:=bil (g:=KY) Fm.X7 H;have z:=K3 (X8 (hF.at 2 rfl) n32) (X8 (hF.at 3 rfl) n33);refine gh2 ?_;refine bp H (C3 a0 x80.kids x85) fun x88 h H=>cv h ?_;have z:=K3 (X8 (hF.at 2 rfl) n32) (X8 (hF.at 3 rfl) n33);refine gh ?_;refine stK hF 1 (by rw [hEq];exact Zd (by simp)) rfl fun s34 hF=>?_;have z:=K3 (X8 (hF.at 2 rfl) n32) (X8 (hF.at 3 rfl) n33);refine gh ?_;refine stK hF 0 (by rw [hEq];exact Zd (by simp)) rfl fun s35 hF=>?_;have z:=K3 (X8 (hF.at 2 rfl) n32) (X8 (hF.at 3 rfl) n33);refine gh ?_;refine go ?_;have e:=pur H;subst e;exact rt [.agg [sf K0 x88.1.binds,sf Zc x88.1.macs,i6 x88.1.scope,i6 x88.1.id,i6 x88.1.steps],.agg [i6 x88.2.1.kind,i6 x88.2.1.id,.str x88.2.1.name,i6 x88.2.1.num,sf cI x88.2.1.ids,i6 x88.2.1.data.kind,.str x88.2.1.data.name,i6 x88.2.1.data.num,sf cI x88.2.1.data.sc,sf KY x88.2.1.data.kids,sf Zz x88.2.1.kids],i6 x88.2.2]
    ·refine go ?_;obtain ⟨x97,g36,H⟩:=bnd H;refine Yc 2 95 97 (.bool x97) (gi q (fun q=>?_) (fun q=>?_)) (fun J=>?_)
     ·refine go ?_;exact Yr 95 g36
     ·refine go ?_;exact Yr 95 g36
     refine go ?_;obtain ⟨x103,g38,H⟩:=bnd H;refine Yc 4 99 103 (.bool x103) (giN q (fun q=>?_) (fun q=>?_)) (fun J=>?_)
     ·refine go ?_;exact Yr 99 g38
     ·refine go ?_;exact Yr 99 g38
     refine go ?_;refine cdb H (fun h H=>?_) (fun h H=>?_)
     ·refine go ?_;refine st hF 1 rfl fun s40 hF=>?_;refine go ?_;refine st hF 0 rfl fun s41 hF=>?_;refine go ?_;have e:=pur H;subst e;exact rt _
     ·obtain ⟨x109,f1,H⟩:=bil (g:=KY) Fm.X7 H;refine go1 ?_;refine bp H (O7 x109) fun x111 h H=>cl h ?_;refine go ?_;refine cdb H (fun h H=>?_) (fun h H=>?_)
      ·refine go ?_;refine st hF 1 rfl fun s42 hF=>?_;refine go ?_;refine st hF 0 rfl fun s43 hF=>?_;refine go ?_;have e:=pur H;subst e;exact rt _
      ·refine go ?_;refine cdp H (fun h H=>?_) (fun h H=>?_)
       ·refine go ?_;obtain ⟨E,hEq⟩:∃E,E=EE s8 [b5,b7]:=⟨_,rfl⟩
        have n44:¬E b3:=by rw [hEq];exact K6 (hF.at 2 rfl) (nm2 ⟨neL hF 2 1 rfl rfl (by decide),neL hF 2 0 rfl rfl (by decide)⟩)
        have n45:¬E b1:=by rw [hEq];exact K6 (hF.at 3 rfl) (nm2 ⟨neL hF 3 1 rfl rfl (by decide),neL hF 3 0 rfl rfl (by decide)⟩)
        refine Yj E [.v,.v,.v,.v,.v,.v,.v,.v,.v,.v,.v,.v,.x,.x,.v] (by kernel_rfl) ?_;obtain ⟨x126,f1,H⟩:=bil (g:=KY) Fm.X7 H;have z:=K3 (X8 (hF.at 2 rfl) n44) (X8 (hF.at 3 rfl) n45);refine gh1 ?_;refine bp H (C4 a0 x111.1 x111.2.1 x126) fun x129 h H=>cv h ?_;have z:=K3 (X8 (hF.at 2 rfl) n44) (X8 (hF.at 3 rfl) n45);refine gh ?_;refine stK hF 1 (by rw [hEq];exact Zd (by simp)) rfl fun s46 hF=>?_;have z:=K3 (X8 (hF.at 2 rfl) n44) (X8 (hF.at 3 rfl) n45);refine gh ?_;refine stK hF 0 (by rw [hEq];exact Zd (by simp)) rfl fun s47 hF=>?_;have z:=K3 (X8 (hF.at 2 rfl) n44) (X8 (hF.at 3 rfl) n45);refine gh ?_;refine go ?_;have e:=pur H;subst e;exact rt [.agg [sf K0 x129.1.binds,sf Zc x129.1.macs,i6 x129.1.scope,i6 x129.1.id,i6 x129.1.steps],.agg [i6 x129.2.1.kind,i6 x129.2.1.id,.str x129.2.1.name,i6 x129.2.1.num,sf cI x129.2.1.ids,i6 x129.2.1.data.kind,.str x129.2.1.data.name,i6 x129.2.1.data.num,sf cI x129.2.1.data.sc,sf KY x129.2.1.data.kids,sf Zz x129.2.1.kids],i6 x129.2.2]
       ·refine go ?_;refine bp H (C2 a0 x111.2.1) fun x137 h H=>cl h ?_;refine go ?_;refine st hF 3 rfl fun s48 hF=>?_;refine go ?_;refine cdn H (fun h H=>?_) (fun h H=>?_)
        ·refine go ?_;refine st hF 1 rfl fun s49 hF=>?_;refine go ?_;refine st hF 0 rfl fun s50 hF=>?_;refine go ?_;have e:=pur H;subst e;exact rt _
        ·refine go ?_;obtain ⟨E,hEq⟩:∃E,E=EE s48 [b1]:=⟨_,rfl⟩
         have n51:¬E b7:=by rw [hEq];exact K6 (hF.at 0 rfl) (nm1 (neL hF 0 3 rfl rfl (by decide)))
         have n52:¬E b5:=by rw [hEq];exact K6 (hF.at 1 rfl) (nm1 (neL hF 1 3 rfl rfl (by decide)))
         have n53:¬E b3:=by rw [hEq];exact K6 (hF.at 2 rfl) (nm1 (neL hF 2 3 rfl rfl (by decide)))
         refine NT E [.v,.v,.v,.v,.v,.v,.x,.v,.v,.v,.v,.v,.x,.x,.x,.v] [1,2,3,4,5,6,0,7,8,9,10,11,12,13,14,15] (by kernel_rfl) ?_;obtain ⟨x151,f1,H⟩:=bil (g:=KY) Fm.X7 H;have z:=K3 (X8 (hF.at 0 rfl) n51) (K3 (X8 (hF.at 1 rfl) n52) (X8 (hF.at 2 rfl) n53));refine gh1 ?_;refine bp H (C3 x137.1 x111.1 x151) fun x154 h H=>cv h ?_;have z:=K3 (X8 (hF.at 0 rfl) n51) (K3 (X8 (hF.at 1 rfl) n52) (X8 (hF.at 2 rfl) n53));refine gh ?_;refine A0 hF rfl fun b54 s55 nw56 mo57 hF=>?_;have z:=K3 (X8 (hF.at 1 rfl) n51) (K3 (X8 (hF.at 2 rfl) n52) (X8 (hF.at 3 rfl) n53));refine gh ?_;refine stK hF 4 (by rw [hEq];exact Zd (by simp)) rfl fun s58 hF=>?_;have z:=K3 (X8 (hF.at 1 rfl) n51) (K3 (X8 (hF.at 2 rfl) n52) (X8 (hF.at 3 rfl) n53));refine gh ?_;refine stK hF 0 (show E _ from ((em0 hEq) _ nw56)) rfl fun s59 hF=>?_;have z:=K3 (X8 (hF.at 1 rfl) n51) (K3 (X8 (hF.at 2 rfl) n52) (X8 (hF.at 3 rfl) n53));refine gh ?_;refine go ?_;obtain ⟨E,hEq⟩:∃E,E=EE s59 [b5,b7]:=⟨_,rfl⟩
         have n60:¬E b54:=by rw [hEq];exact K6 (hF.at 0 rfl) (nm2 ⟨neL hF 0 2 rfl rfl (by decide),neL hF 0 1 rfl rfl (by decide)⟩)
         have n61:¬E b3:=by rw [hEq];exact K6 (hF.at 3 rfl) (nm2 ⟨neL hF 3 2 rfl rfl (by decide),neL hF 3 1 rfl rfl (by decide)⟩)
         have n62:¬E b1:=by rw [hEq];exact K6 (hF.at 4 rfl) (nm2 ⟨neL hF 4 2 rfl rfl (by decide),neL hF 4 1 rfl rfl (by decide)⟩)
         refine Yj E [.v,.v,.v,.v,.v,.v,.v,.x,.x,.v] (by kernel_rfl) ?_;have z:=K3 (X8 (hF.at 0 rfl) n60) (K3 (X8 (hF.at 3 rfl) n61) (X8 (hF.at 4 rfl) n62));refine gh ?_;obtain ⟨x162,hx162,H⟩:=bnd H;refine Nh (g:=Zz) (xs:=[x154.2.1]) (ys:=x137.2.1) Cor.X7 (by decide) (by decide) (.inr (by first | rfl | simp only [sf,i6,zB,Vm,VR,cI,cU,cS,cL,Cor.Yb,Fm.Yb])) (.inr ⟨_,by first | rfl | simp only [sf,i6,zB,Vm,VR,cI,cU,cS,cL,Cor.Yb,Fm.Yb]⟩) hx162 ?_;have z:=K3 (X8 (hF.at 0 rfl) n60) (K3 (X8 (hF.at 3 rfl) n61) (X8 (hF.at 4 rfl) n62));refine gh ?_;refine stK hF 2 (by rw [hEq];exact Zd (by simp)) rfl fun s63 hF=>?_;have z:=K3 (X8 (hF.at 0 rfl) n60) (K3 (X8 (hF.at 3 rfl) n61) (X8 (hF.at 4 rfl) n62));refine gh ?_;refine stK hF 1 (by rw [hEq];exact Zd (by simp)) rfl fun s64 hF=>?_;have z:=K3 (X8 (hF.at 0 rfl) n60) (K3 (X8 (hF.at 3 rfl) n61) (X8 (hF.at 4 rfl) n62));refine gh ?_;refine go ?_;have e:=pur H;subst e;exact rt [.agg [sf K0 x154.1.binds,sf Zc x154.1.macs,i6 x154.1.scope,i6 x154.1.id,i6 x154.1.steps],.agg [i6 6,i6 0,.str zB,i6 0,.Yd,i6 0,.str zB,i6 0,.Yd,.Yd,sf Zz x162],i6 x154.2.2]
 ·intro VC C0 a0 a1 a2 a3 r H;intro σ;refine hdg mixed Tryz.func181 (rs:=[.cell 10 42,.cell 11 136,.tmp 12]) fun q tT=>?_;have hF:=K2 σ;have hX:=Tau.none σ;refine go ?_;refine Ya hF rfl fun b1 ss2 hF=>?_;refine go ?_;refine Ya hF rfl fun b3 ss4 hF=>?_;refine go ?_;refine Ya hF rfl fun b5 ss6 hF=>?_;refine go ?_;refine Ya hF rfl fun b7 s8 hF=>?_;refine go ?_;refine bp H (CB a0) fun x25 h H=>cl h ?_;refine go ?_;refine st hF 3 rfl fun s9 hF=>?_;refine go ?_;refine cdb H (fun h H=>?_) (fun h H=>?_)
  ·refine go ?_;refine st hF 1 rfl fun s10 hF=>?_;refine go ?_;refine st hF 0 rfl fun s11 hF=>?_;refine go ?_;have e:=pur H;subst e;exact rt _
  ·refine go ?_;obtain ⟨o37,ho37,H⟩:=bnd H;refine F6 a1 a2 a3 fx0 x25.1.binds x25.1.macs x25.1.scope x25.1.id x25.1.steps 0 _ ho37 _ rfl _ _ b1 b3 b5 b7 ?_ ?_ _ _  S hF
   ·intro Ll Lm DR Ln Lo he T39 s40 tT hF;have he:=he.symm;subst he
    try dsimp only at H
    refine go ?_;refine bp H (J8 a3 DR 0) fun x107 h H=>cl h ?_;refine go ?_;refine Ya hF rfl fun b42 s43 hF=>?_;refine go ?_;refine st hF 0 rfl fun s44 hF=>?_;refine go ?_;refine bp H (Y8 x107) fun x109 h H=>cl h ?_;refine go ?_;refine cdb H (fun h H=>?_) (fun h H=>?_)
    ·refine go ?_;refine st hF 2 rfl fun s45 hF=>?_;refine go ?_;refine st hF 1 rfl fun s46 hF=>?_;refine go ?_;have e:=pur H;subst e;exact rt _
    ·refine go ?_;refine bp H (C0 (KT Ll Lm DR Ln Lo) x107) fun x116 h H=>cl h ?_;refine go ?_;refine st hF 2 rfl fun s47 hF=>?_;refine go ?_;refine st hF 1 rfl fun s48 hF=>?_;refine go ?_;have e:=pur H;subst e;exact rt _
   ·intro r hr s' hs;subst hr;have e:=pur H;subst e;exact hsq hs
 ·intro VC C0 a0 a1 a2 r H;intro σ;refine hdg mixed Tryz.func187 (rs:=[.cell 8 42,.cell 9 136,.tmp 10]) fun q tT=>?_;have hF:=K2 σ;have hX:=Tau.none σ;refine go ?_;refine Ya hF rfl fun b1 ss2 hF=>?_;refine go ?_;refine Ya hF rfl fun b3 ss4 hF=>?_;refine go ?_;refine Ya hF rfl fun b5 ss6 hF=>?_;refine go ?_;refine Ya hF rfl fun b7 s8 hF=>?_;refine go ?_;refine bp H (CB a0) fun x22 h H=>cl h ?_;refine go ?_;refine st hF 3 rfl fun s9 hF=>?_;refine go ?_;refine cdb H (fun h H=>?_) (fun h H=>?_)
  ·refine go ?_;refine st hF 1 rfl fun s10 hF=>?_;refine go ?_;refine st hF 0 rfl fun s11 hF=>?_;refine go ?_;have e:=pur H;subst e;exact rt _
  ·refine go ?_;refine Ya hF rfl fun b12 s13 hF=>?_;refine go ?_;refine st hF 0 rfl fun s14 hF=>?_;have hF:=hF.nil 3 1;refine go ?_;obtain ⟨o31,ho31,H⟩:=bnd H;refine NN a1 a2 fx0 x22.1.binds x22.1.macs x22.1.scope x22.1.id x22.1.steps [] 0 _ ho31 _ rfl _ _ b1 b3 b5 b7 b12 ?_ ?_ _ _ .Yd S hF
   ·intro Lh Li DQ Lj Lk Tt he T33 s34 e32v0 tT hF;have he:=he.symm;subst he
    try dsimp only at H
    refine go ?_;refine bp H (J8 a2 DQ 0) fun x78 h H=>cl h ?_;refine go ?_;refine Ya hF rfl fun b36 s37 hF=>?_;refine go ?_;refine st hF 0 rfl fun s38 hF=>?_;refine go ?_;refine bp H (Y8 x78) fun x80 h H=>cl h ?_;refine go ?_;refine cdb H (fun h H=>?_) (fun h H=>?_)
    ·refine go ?_;refine st hF 3 rfl fun s39 hF=>?_;refine go ?_;refine st hF 2 rfl fun s40 hF=>?_;refine go ?_;have e:=pur H;subst e;exact rt _
    ·refine go ?_;refine bp H (C0 (KT Lh Li DQ Lj Lk) x78) fun x88 h H=>cl h ?_;refine go ?_;refine Ya hF rfl fun b41 s42 hF=>?_;refine go ?_;refine st hF 6 rfl fun s43 hF=>?_;refine go ?_;refine st hF 0 rfl fun s44 hF=>?_;refine go ?_;refine st hF 2 rfl fun s45 hF=>?_;refine go ?_;obtain ⟨E,hEq⟩:∃E,E=EE s45 [b5,b7]:=⟨_,rfl⟩
     have n46:¬E b41:=by rw [hEq];exact K6 (hF.at 0 rfl) (nm2 ⟨neL hF 0 4 rfl rfl (by decide),neL hF 0 3 rfl rfl (by decide)⟩)
     have n47:¬E b36:=by rw [hEq];exact K6 (hF.at 1 rfl) (nm2 ⟨neL hF 1 4 rfl rfl (by decide),neL hF 1 3 rfl rfl (by decide)⟩)
     have n48:¬E b12:=by rw [hEq];exact K6 (hF.at 2 rfl) (nm2 ⟨neL hF 2 4 rfl rfl (by decide),neL hF 2 3 rfl rfl (by decide)⟩)
     have n49:¬E b3:=by rw [hEq];exact K6 (hF.at 5 rfl) (nm2 ⟨neL hF 5 4 rfl rfl (by decide),neL hF 5 3 rfl rfl (by decide)⟩)
     have n50:¬E b1:=by rw [hEq];exact K6 (hF.at 6 rfl) (nm2 ⟨neL hF 6 4 rfl rfl (by decide),neL hF 6 3 rfl rfl (by decide)⟩)
     refine Yj E [.v,.v,.v,.x,.x,.v] (by kernel_rfl) ?_;have z:=K3 (X8 (hF.at 0 rfl) n46) (K3 (X8 (hF.at 1 rfl) n47) (K3 (X8 (hF.at 2 rfl) n48) (K3 (X8 (hF.at 5 rfl) n49) (X8 (hF.at 6 rfl) n50))));refine gh ?_;refine stK hF 4 (by rw [hEq];exact Zd (by simp)) rfl fun s51 hF=>?_;have z:=K3 (X8 (hF.at 0 rfl) n46) (K3 (X8 (hF.at 1 rfl) n47) (K3 (X8 (hF.at 2 rfl) n48) (K3 (X8 (hF.at 5 rfl) n49) (X8 (hF.at 6 rfl) n50))));refine gh ?_;refine stK hF 3 (by rw [hEq];exact Zd (by simp)) rfl fun s52 hF=>?_;have z:=K3 (X8 (hF.at 0 rfl) n46) (K3 (X8 (hF.at 1 rfl) n47) (K3 (X8 (hF.at 2 rfl) n48) (K3 (X8 (hF.at 5 rfl) n49) (X8 (hF.at 6 rfl) n50))));refine gh ?_;refine go ?_;have e:=pur H;subst e;exact rt [.agg [sf K0 x88.1.binds,sf Zc x88.1.macs,i6 x88.1.scope,i6 x88.1.id,i6 x88.1.steps],.agg [i6 5,i6 0,.str zB,i6 0,e32v0,i6 0,.str zB,i6 0,.Yd,.Yd,.sl true (rws Zz [x88.2.1])],i6 x88.2.2]
   ·intro r hr s' hs;subst hr;have e:=pur H;subst e;exact hsq hs
theorem NM:∀(a0:Xpn) (a1:Fm) (a2:Int) r,VC a0 a1 a2=some r->VK KZ 143 [.agg (K8 a0),.agg (KY a1),i6 a2] (.tup [.agg (K8 r.1),.agg (Zz r.2.1),i6 r.2.2]):=fun a0 a1 a2=>(MT a2).1 a0 a1
theorem Rq:∀(a0 a1:Int) r,Cv a0 a1=some r->VK KZ 188 [i6 a0,i6 a1] (.bool r):=by
 intro a0 a1 r H;intro σ;unfold Cv at H;refine hdg mixed Tryz.func188 (rs:=[.tmp 4]) fun q tT=>?_;have hF:=K2 σ;have hX:=Tau.none σ;refine go ?_;obtain ⟨Qow,j2,H⟩:=bnd H;refine Wq (fun s'=>∃(T:TT) (ss1:Sto),s'=⟨T,ss1⟩/\(T 0=i6 a0/\T 1=i6 a1/\T 5=i6 a0/\T 6=.bool Qow)/\Fx σ ss1 [] []) (cdp j2 (fun h j2=>?_) (fun h j2=>?_)) ?_
 ·refine go ?_;have e:=pur j2;subst e;exact ⟨_,_,rfl,S,hF⟩
 ·refine go ?_;refine cdp j2 (fun h j2=>?_) (fun h j2=>?_)
  ·refine go ?_;have e:=pur j2;subst e;exact ⟨_,_,rfl,S,hF⟩
  ·refine go ?_;refine cdp j2 (fun h j2=>?_) (fun h j2=>?_)
   ·refine go ?_;have e:=pur j2;subst e;exact ⟨_,_,rfl,S,hF⟩
   ·refine go ?_;have e:=pur j2;subst e;exact ⟨_,_,rfl,S,hF⟩
 ·rintro s' ⟨T3,ss4,rfl,tT,hF⟩;refine go ?_;refine cdb H (fun h H=>?_) (fun h H=>?_)
  ·refine go ?_;have e:=pur H;subst e;exact rt _
  ·refine go ?_;refine cdp H (fun h H=>?_) (fun h H=>?_)
   ·refine go ?_;have e:=pur H;subst e;exact rt _
   ·refine go ?_;refine cdp H (fun h H=>?_) (fun h H=>?_)
    ·refine go ?_;have e:=pur H;subst e;exact rt _
    ·refine go ?_;obtain ⟨x26,g6,H⟩:=bnd H;refine Yc 2 24 26 (.bool x26) (gi q (fun q=>?_) (fun q=>?_)) (fun J=>?_)
     ·refine go ?_;exact Yr 24 g6
     ·refine go ?_;exact Yr 24 g6
     refine go ?_;have e:=pur H;subst e;exact rt _
theorem NL:∀(a0:Cor) r,Ab a0=some r->VK KZ 189 [.agg (Zz a0)] (.bool r):=by
 intro a0 r H;intro σ;unfold Ab at H;refine hdg mixed Tryz.func189 (rs:=[.tmp 2]) fun q tT=>?_;have hF:=K2 σ;have hX:=Tau.none σ;refine go ?_;refine Ya hF rfl fun b1 ss2 hF=>?_;refine go ?_;obtain ⟨x15,g3,H⟩:=bnd H;refine Yc 8 7 15 (.bool x15) (gi q (fun q=>?_) (fun q=>?_)) (fun J=>?_)
 ·rw [if_pos (dt q)] at g3;refine go ?_;obtain ⟨x14,g5,g3⟩:=bnd g3;refine Yc 3 11 14 (.bool x14) (giN q (fun q=>?_) (fun q=>?_)) (fun J=>?_)
  ·refine go ?_;exact Yr 11 g5
  ·refine go ?_;exact Yr 11 g5
  refine go ?_;exact Yr 7 g3
 ·rw [if_neg (df q)] at g3;refine go ?_;exact Yr 7 g3
 refine go ?_;obtain ⟨x25,g7,H⟩:=bnd H;refine Yc 8 17 25 (.bool x25) (giN q (fun q=>?_) (fun q=>?_)) (fun J=>?_)
 ·rw [if_neg (dbf q)] at g7;refine go ?_;obtain ⟨x24,g9,g7⟩:=bnd g7;refine Yc 3 21 24 (.bool x24) (gi q (fun q=>?_) (fun q=>?_)) (fun J=>?_)
  ·refine go ?_;exact Yr 21 g9
  ·refine go ?_;exact Yr 21 g9
  refine go ?_;exact Yr 17 g7
 ·rw [if_pos (dbt q)] at g7;refine go ?_;exact Yr 17 g7
 refine go ?_;refine cdb H (fun h H=>?_) (fun h H=>?_)
 ·refine go ?_;have e:=pur H;subst e;exact rt _
 ·refine go ?_;obtain ⟨x34,g11,H⟩:=bnd H;refine Yc 4 30 34 (.bool x34) (gi q (fun q=>?_) (fun q=>?_)) (fun J=>?_)
  ·rw [if_pos (dt q)] at g11;refine go ?_;obtain ⟨x32,hx32,g11⟩:=bnd g11;refine cl (Bo a0.name _ hx32) ?_;refine go ?_;exact Yr 30 g11
  ·rw [if_neg (df q)] at g11;refine go ?_;exact Yr 30 g11
  refine go ?_;obtain ⟨x44,g13,H⟩:=bnd H;refine Yc 8 36 44 (.bool x44) (giN q (fun q=>?_) (fun q=>?_)) (fun J=>?_)
  ·rw [if_neg (dbf q)] at g13;refine go ?_;obtain ⟨x43,g15,g13⟩:=bnd g13;refine Yc 3 40 43 (.bool x43) (gi q (fun q=>?_) (fun q=>?_)) (fun J=>?_)
   ·refine go ?_;exact Yr 40 g15
   ·refine go ?_;exact Yr 40 g15
   refine go ?_;exact Yr 36 g13
  ·rw [if_pos (dbt q)] at g13;refine go ?_;exact Yr 36 g13
  refine go ?_;refine cdb H (fun h H=>?_) (fun h H=>?_)
  ·refine go ?_;have e:=pur H;subst e;exact rt _
  ·refine go ?_;obtain ⟨x57,g17,H⟩:=bnd H;refine Yc 8 49 57 (.bool x57) (gi q (fun q=>?_) (fun q=>?_)) (fun J=>?_)
   ·rw [if_pos (dt q)] at g17;refine go ?_;obtain ⟨x56,g19,g17⟩:=bnd g17;refine Yc 3 53 56 (.bool x56) (giN q (fun q=>?_) (fun q=>?_)) (fun J=>?_)
    ·refine go ?_;exact Yr 53 g19
    ·refine go ?_;exact Yr 53 g19
    refine go ?_;exact Yr 49 g17
   ·rw [if_neg (df q)] at g17;refine go ?_;exact Yr 49 g17
   refine go ?_;obtain ⟨x67,g21,H⟩:=bnd H;refine Yc 8 59 67 (.bool x67) (giN q (fun q=>?_) (fun q=>?_)) (fun J=>?_)
   ·rw [if_neg (dbf q)] at g21;refine go ?_;obtain ⟨x66,g23,g21⟩:=bnd g21;refine Yc 3 63 66 (.bool x66) (gi q (fun q=>?_) (fun q=>?_)) (fun J=>?_)
    ·refine go ?_;exact Yr 63 g23
    ·refine go ?_;exact Yr 63 g23
    refine go ?_;exact Yr 59 g21
   ·rw [if_pos (dbt q)] at g21;refine go ?_;exact Yr 59 g21
   refine go ?_;refine cdb H (fun h H=>?_) (fun h H=>?_)
   ·refine go ?_;have e:=pur H;subst e;exact rt _
   ·refine go ?_;refine Yj E0 [.v,.v,.v,.v,.v,.v,.v,.v,.v,.v,.v,.v,.v,.v,.v,.v,.v,.v,.v,.v,.v,.v,.v,.v,.v,.v,.v,.v,.v,.v] (by kernel_rfl) ?_;refine go ?_;obtain ⟨x85,g25,H⟩:=bnd H;refine VU 13 72 85 (.bool x85) (ti q (fun q=>?_) (fun q=>?_)) (fun J=>?_)
    ·rw [if_pos (dt q)] at g25;refine go ?_;obtain ⟨x74,hx74,g25⟩:=bnd g25;refine cv (Y8 a0.data _ hx74) ?_;refine go ?_;obtain ⟨x84,g27,g25⟩:=bnd g25;refine VU 7 77 84 (.bool x84) (tiN q (fun q=>?_) (fun q=>?_)) (fun J=>?_)
     ·rw [if_neg (dbf q)] at g27;refine go ?_;obtain ⟨x79,hx79,g27⟩:=bnd g27;refine cv (DD a0.data _ hx79) ?_;refine go ?_;obtain ⟨x82,hx82,g27⟩:=bnd g27;refine cv (He x79 a0.data _ hx82) ?_;refine go ?_;exact Yr 77 g27
     ·rw [if_pos (dbt q)] at g27;refine go ?_;exact Yr 77 g27
     refine go ?_;exact Yr 72 g25
    ·rw [if_neg (df q)] at g25;refine go ?_;exact Yr 72 g25
    refine go ?_;obtain ⟨x97,g29,H⟩:=bnd H;refine VU 10 87 97 (.bool x97) (tiN q (fun q=>?_) (fun q=>?_)) (fun J=>?_)
    ·rw [if_neg (dbf q)] at g29;refine go ?_;obtain ⟨x96,g31,g29⟩:=bnd g29;refine VU 5 91 96 (.bool x96) (ti q (fun q=>?_) (fun q=>?_)) (fun J=>?_)
     ·rw [if_neg (dnt q)] at g31;refine go ?_;obtain ⟨x94,hx94,g31⟩:=bnd g31;refine cv (He a0.data (Fm.mk 0 zB 0 [] []) _ hx94) ?_;refine go ?_;exact Yr 91 g31
     ·rw [if_pos (dnf q)] at g31;refine go ?_;exact Yr 91 g31
     refine go ?_;exact Yr 87 g29
    ·rw [if_pos (dbt q)] at g29;refine go ?_;exact Yr 87 g29
    refine go ?_;refine cdb H (fun h H=>?_) (fun h H=>?_)
    ·refine go ?_;have e:=pur H;subst e;exact rt _
    ·refine go ?_;obtain ⟨x106,g33,H⟩:=bnd H;refine Yc 4 102 106 (.bool x106) (giN q (fun q=>?_) (fun q=>?_)) (fun J=>?_)
     ·refine go ?_;exact Yr 102 g33
     ·refine go ?_;exact Yr 102 g33
     refine go ?_;have e:=pur H;subst e;exact rt _
theorem O4:∀(a0:Cor) (a2:Int) (Ym:List Int) (Yh:Int) out,Hv a0 a2 Ym Yh=some out->∀c,Yg Tryz.f164 0=some c->∀(Q:QT) (tt:Sto) (b1:Nat),(∀(Qgn:List Int),out=Sum.inr Qgn->∀(T:TT) (σ:Sto),T 2=i6 a2/\T 3=.ptr b1 0/\T 7=sf cI Qgn->Fx tt σ [(b1,⟨136,11,[i6 a0.kind,i6 a0.id,.str a0.name,i6 a0.num,sf cI a0.ids,i6 a0.data.kind,.str a0.data.name,i6 a0.data.num,sf cI a0.data.sc,sf KY a0.data.kids,sf Zz a0.kids]⟩)] []->Q (.ex 0) ⟨T,σ⟩)->(∀r,out=Sum.inl r->∀s',I7 KZ [.tmp 6] (fun r' ss'=>r'=.bool r/\ss'=tt) s'->Q .ret s')->∀(T:TT) (σ:Sto),T 2=i6 a2/\T 3=.ptr b1 0/\T 7=sf cI Ym/\T 8=i6 Yh->Fx tt σ [(b1,⟨136,11,[i6 a0.kind,i6 a0.id,.str a0.name,i6 a0.num,sf cI a0.ids,i6 a0.data.kind,.str a0.data.name,i6 a0.data.num,sf cI a0.data.sc,sf KY a0.data.kids,sf Zz a0.kids]⟩)] []->aLp KZ c Q ⟨T,σ⟩:=by
 intro a0 a2 Ym Yh;revert Ym Yh;refine Hv.partial_correctness a0 a2 _ ?_;intro Hv IH Ym Yh out H c hc Q tt b1 hE hR T σ tT hF;refine lpx tt hc rfl fun q hX=>go ?_;refine cdp H (fun h H=>?_) (fun h H=>?_)
 ·obtain ⟨x49,f1,H⟩:=bil (g:=cI) (fun _=>rfl) H;refine go1 ?_;obtain ⟨x59,g11,H⟩:=bnd H;refine Yc 6 53 59 (.bool x59) (giN q (fun q=>?_) (fun q=>?_)) (fun J=>?_)
  ·rw [if_neg (df q)] at g11;obtain ⟨x56,f1,g11⟩:=bil (g:=cI) (fun _=>rfl) g11;refine go1 ?_;refine go ?_;exact Yr 53 g11
  ·rw [if_pos (dt q)] at g11;refine go ?_;exact Yr 53 g11
  refine go ?_;obtain ⟨x68,g13,H⟩:=bnd H;refine Yc 7 61 68 (.bool x68) (giN q (fun q=>?_) (fun q=>?_)) (fun J=>?_)
  ·rw [if_neg (dbf q)] at g13;obtain ⟨x65,f1,g13⟩:=bil (g:=cI) (fun _=>rfl) g13;refine go1 ?_;obtain ⟨x67,hx67,g13⟩:=bnd g13;refine cl (Ba Ym x65 _ hx67) ?_;refine go ?_;exact Yr 61 g13
  ·rw [if_pos (dbt q)] at g13;refine go ?_;exact Yr 61 g13
  refine go ?_;refine cdb H (fun h H=>?_) (fun h H=>?_)
  ·refine go ?_;exact wq (hR _ (pur H).symm _ (rt _))
  ·refine go ?_;refine NT E0 [.v,.v,.v,.v,.v,.v,.v,.v,.x,.x,.v] [0,1,3,4,5,6,7,8,2,9,10] (by kernel_rfl) ?_;obtain ⟨x75,f1,H⟩:=bil (g:=cI) (fun _=>rfl) H;refine go1 ?_;have hF:=hF.lit 3 1 (rws cI []) rfl;refine PD (g:=cI) hF 0 H (rdo (c:=false) (g:=cI) (fun _=>rfl)) fun x71 H v15 s16 hF=>?_;refine go ?_;refine Qs4 (g:=cI) hF 0 H (rdo (c:=true) (g:=cI) (fun _=>rfl)) fun x78 H s18 hF=>?_;refine go ?_;exact IH  x78 (i64.wrap (Yh+1)) _ H _ rfl Q tt b1 hE hR _ _  S hF
 ·refine go ?_;exact wq (hE _ (pur H).symm _ _  S hF)
theorem T4:∀(a0:Cor) (a1:List Int) (a2:Int) r,Bc a0 a1 a2=some r->VK KZ 164 [.agg (Zz a0),sf cI a1,i6 a2] (.bool r):=by
 refine Bc.partial_correctness _ (motive_2:=fun a0 a2 AI Ie out=>∀c,Yg Tryz.f164 1=some c->∀(Q:QT) (tt:Sto) (b1:Nat),(∀(_u:Unit),out=Sum.inr ()->∀(T:TT) (σ:Sto),0+0=0->Fx tt σ [(b1,⟨136,11,[i6 a0.kind,i6 a0.id,.str a0.name,i6 a0.num,sf cI a0.ids,i6 a0.data.kind,.str a0.data.name,i6 a0.data.num,sf cI a0.data.sc,sf KY a0.data.kids,sf Zz a0.kids]⟩)] []->Q (.ex 2) ⟨T,σ⟩)->(∀r,out=Sum.inl r->∀s',I7 KZ [.tmp 6] (fun r' ss'=>r'=.bool r/\ss'=tt) s'->Q .ret s')->∀(T:TT) (σ:Sto),T 2=i6 a2/\T 3=.ptr b1 0/\T 7=sf cI AI/\T 9=i6 Ie->Fx tt σ [(b1,⟨136,11,[i6 a0.kind,i6 a0.id,.str a0.name,i6 a0.num,sf cI a0.ids,i6 a0.data.kind,.str a0.data.name,i6 a0.data.num,sf cI a0.data.sc,sf KY a0.data.kids,sf Zz a0.kids]⟩)] []->aLp KZ c Q ⟨T,σ⟩) ?_ ?_
 ·intro Ik L0 a0 a1 a2 r H;intro σ;refine hdg mixed Tryz.func164 (rs:=[.tmp 6]) fun q tT=>?_;have hF:=K2 σ;have hX:=Tau.none σ;refine go ?_;refine Ya hF rfl fun b1 ss2 hF=>?_;refine go ?_;obtain ⟨x20,g3,H⟩:=bnd H;refine Yc 7 13 20 (.bool x20) (giN q (fun q=>?_) (fun q=>?_)) (fun J=>?_)
  ·rw [if_neg (df q)] at g3;refine go ?_;obtain ⟨x18,hx18,g3⟩:=bnd g3;refine cl (Rq a0.kind (a0.kids.length:Int) _ hx18) ?_;refine go ?_;exact Yr 13 g3
  ·rw [if_pos (dt q)] at g3;refine go ?_;exact Yr 13 g3
  refine go ?_;obtain ⟨x25,g5,H⟩:=bnd H;refine Yc 3 22 25 (.bool x25) (giN q (fun q=>?_) (fun q=>?_)) (fun J=>?_)
  ·rw [if_neg (dbf q)] at g5;refine go ?_;obtain ⟨x23,hx23,g5⟩:=bnd g5;refine cl (NL a0 _ hx23) ?_;refine go ?_;exact Yr 22 g5
  ·rw [if_pos (dbt q)] at g5;refine go ?_;exact Yr 22 g5
  refine go ?_;obtain ⟨x37,g7,H⟩:=bnd H;refine Yc 10 27 37 (.bool x37) (giN q (fun q=>?_) (fun q=>?_)) (fun J=>?_)
  ·rw [if_neg (dbf q)] at g7;refine go ?_;obtain ⟨x36,g9,g7⟩:=bnd g7;refine Yc 5 31 36 (.bool x36) (gi q (fun q=>?_) (fun q=>?_)) (fun J=>?_)
   ·rw [if_pos (dt q)] at g9;refine go ?_;obtain ⟨x34,hx34,g9⟩:=bnd g9;refine cl (Ba a1 a0.id _ hx34) ?_;refine go ?_;exact Yr 31 g9
   ·rw [if_neg (df q)] at g9;refine go ?_;exact Yr 31 g9
   refine go ?_;exact Yr 27 g7
  ·rw [if_pos (dbt q)] at g7;refine go ?_;exact Yr 27 g7
  refine go ?_;refine cdb H (fun h H=>?_) (fun h H=>?_)
  ·refine go ?_;have e:=pur H;subst e;exact rt _
  ·refine go ?_;obtain ⟨o19,ho19,H⟩:=bnd H;refine O4 a0 a2 a1 0 _ ho19 _ rfl _ _ b1 ?_ ?_ _ _  S hF
   ·intro AI he T21 s22 tT hF;have he:=he.symm;subst he
    try dsimp only at H
    refine go ?_;obtain ⟨o24,ho24,H⟩:=bnd H;refine L0 a0 a2 AI 0 _ ho24 _ rfl _ _ b1 ?_ ?_ _ _  S hF
    ·intro _ he T26 s27 tT hF;have he:=he.symm;subst he
     try dsimp only at H
     refine go ?_;have e:=pur H;subst e;exact rt _
    ·intro r hr s' hs;subst hr;have e:=pur H;subst e;exact hsq hs
   ·intro r hr s' hs;subst hr;have e:=pur H;subst e;exact hsq hs
 ·intro Bc Ik C0 L0 a0 a2 AI Ie out H c hc Q tt b1 hE hR T σ tT hF;refine lpx tt hc rfl fun q hX=>go ?_;refine cdp H (fun h H=>?_) (fun h H=>?_)
  ·obtain ⟨x89,f1,H⟩:=bil (g:=Zz) Cor.X7 H;refine go1 ?_;obtain ⟨x94,hx94,H⟩:=bnd H;refine cl (C0 x89 AI (i64.wrap (a2 - 1)) _ hx94) ?_;refine go ?_;refine cdb H (fun h H=>?_) (fun h H=>?_)
   ·refine go ?_;exact wq (hR _ (pur H).symm _ (rt _))
   ·refine go ?_;exact L0 a0 a2 AI (i64.wrap (Ie+1)) _ H _ rfl Q tt b1 hE hR _ _  S hF
  ·refine go ?_;exact wq (hE () (pur H).symm _ _  S hF)
theorem O3:∀(a0:Cor) r,Ij a0=some r->VK KZ 165 [.agg (Zz a0)] (i6 r):=by
 refine Ij.partial_correctness _ (motive_2:=fun a0 YB YA out=>∀c,Yg Tryz.f165 0=some c->∀(Q:QT) (tt:Sto) (b1:Nat),(∀(Tm:Int),out=Tm->∀(T:TT) (σ:Sto),T 3=i6 Tm->Fx tt σ [(b1,⟨136,11,[i6 a0.kind,i6 a0.id,.str a0.name,i6 a0.num,sf cI a0.ids,i6 a0.data.kind,.str a0.data.name,i6 a0.data.num,sf cI a0.data.sc,sf KY a0.data.kids,sf Zz a0.kids]⟩)] []->Q (.ex 0) ⟨T,σ⟩)->True->∀(T:TT) (σ:Sto),T 1=.ptr b1 0/\T 3=i6 YB/\T 4=i6 YA->Fx tt σ [(b1,⟨136,11,[i6 a0.kind,i6 a0.id,.str a0.name,i6 a0.num,sf cI a0.ids,i6 a0.data.kind,.str a0.data.name,i6 a0.data.num,sf cI a0.data.sc,sf KY a0.data.kids,sf Zz a0.kids]⟩)] []->aLp KZ c Q ⟨T,σ⟩) ?_ ?_
 ·intro JV L0 a0 r H;intro σ;refine hdg mixed Tryz.func165 (rs:=[.tmp 2]) fun q tT=>?_;have hF:=K2 σ;have hX:=Tau.none σ;refine go ?_;refine Ya hF rfl fun b1 ss2 hF=>?_;refine go ?_;obtain ⟨o3,ho3,H⟩:=bnd H;refine L0 a0 1 0 _ ho3 _ rfl _ _ b1 ?_ ?_ _ _  S hF
  ·intro UM he T5 ss6 tT hF;have he:=he.symm;subst he;refine go ?_;have e:=pur H;subst e;exact rt _
  ·trivial
 ·intro Ij JV C0 L0 a0 YB YA out H c hc Q tt b1 hE hR T σ tT hF;refine lpx tt hc rfl fun q hX=>go ?_;refine cdp H (fun h H=>?_) (fun h H=>?_)
  ·obtain ⟨x16,f1,H⟩:=bil (g:=Zz) Cor.X7 H;refine go1 ?_;refine bp H (C0 x16) fun x18 h H=>cl h ?_;refine go ?_;exact L0 a0 (i64.wrap (YB+x18)) (i64.wrap (YA+1)) _ H _ rfl Q tt b1 hE hR _ _  S hF
  ·refine go ?_;exact wq (hE _ (pur H).symm _ _  S hF)
theorem Mu:∀(a0:Cor) r,Aq a0=some r->VK KZ 144 [.agg (Zz a0)] (.bool r):=by
 intro a0 r H;intro σ;unfold Aq at H;refine hdg mixed Tryz.func144 (rs:=[.tmp 2]) fun q tT=>?_;have hF:=K2 σ;have hX:=Tau.none σ;refine go ?_;refine Ya hF rfl fun b1 ss2 hF=>?_;refine go ?_;refine bp H (T4 a0 [] 120) fun x5 h H=>cl h ?_;refine go ?_;obtain ⟨x10,g3,H⟩:=bnd H;refine Yc 3 7 10 (.bool x10) (gi q (fun q=>?_) (fun q=>?_)) (fun J=>?_)
 ·rw [if_pos (dbt q)] at g3;refine go ?_;obtain ⟨x8,hx8,g3⟩:=bnd g3;refine cl (O3 a0 _ hx8) ?_;refine go ?_;exact Yr 7 g3
 ·rw [if_neg (dbf q)] at g3;refine go ?_;exact Yr 7 g3
 refine go ?_;have e:=pur H;subst e;exact rt _
theorem SQ:∀(a0:Fm) (a1:Int) r,DH a0 a1=some r->VK KZ 110 [.agg (KY a0),i6 a1] (.tup [.agg (K8 r.1),.agg (Zz r.2.1),i6 r.2.2]):=by
 intro a0 a1 r H;intro σ;unfold DH at H;refine hdg mixed Tryz.func110 (rs:=[.cell 4 42,.cell 5 136,.tmp 6]) fun q tT=>?_;have hF:=K2 σ;have hX:=Tau.none σ;refine go ?_;refine Ya hF rfl fun b1 ss2 hF=>?_;refine go ?_;refine Ya hF rfl fun b3 ss4 hF=>?_;refine go ?_;refine Ya hF rfl fun b5 ss6 hF=>?_;refine go ?_;refine bp H (Y8 a0) fun x11 h H=>cl h ?_;refine go ?_;obtain ⟨x16,g7,H⟩:=bnd H;refine Yc 2 14 16 (.bool x16) (giN q (fun q=>?_) (fun q=>?_)) (fun J=>?_)
 ·refine go ?_;exact Yr 14 g7
 ·refine go ?_;exact Yr 14 g7
 refine go ?_;obtain ⟨x20,g9,H⟩:=bnd H;refine Yc 2 18 20 (.bool x20) (giN q (fun q=>?_) (fun q=>?_)) (fun J=>?_)
 ·refine go ?_;exact Yr 18 g9
 ·refine go ?_;exact Yr 18 g9
 refine go ?_;refine cdb H (fun h H=>?_) (fun h H=>?_)
 ·refine go ?_;refine st hF 1 rfl fun s11 hF=>?_;refine go ?_;refine st hF 0 rfl fun s12 hF=>?_;refine go ?_;have e:=pur H;subst e;exact rt _
 ·refine go ?_;obtain ⟨E,hEq⟩:∃E,E=EE ss6 []:=⟨_,rfl⟩
  have n13:¬E b5:=by rw [hEq];exact K6 (hF.at 0 rfl) (by simp)
  have n14:¬E b3:=by rw [hEq];exact K6 (hF.at 1 rfl) (by simp)
  have n15:¬E b1:=by rw [hEq];exact K6 (hF.at 2 rfl) (by simp)
  refine Yj E [.v,.v,.v,.v,.v,.v,.v,.v,.x,.x,.x,.x,.v] (by kernel_rfl) ?_;have z:=K3 (X8 (hF.at 0 rfl) n13) (K3 (X8 (hF.at 1 rfl) n14) (X8 (hF.at 2 rfl) n15));refine gh ?_;refine bp H (Ef ) fun x24 h H=>cv h ?_;have z:=K3 (X8 (hF.at 0 rfl) n13) (K3 (X8 (hF.at 1 rfl) n14) (X8 (hF.at 2 rfl) n15));refine gh ?_;refine bp H (NM x24 a0 a1) fun x27 h H=>cv h ?_;have z:=K3 (X8 (hF.at 0 rfl) n13) (K3 (X8 (hF.at 1 rfl) n14) (X8 (hF.at 2 rfl) n15));refine gh ?_;refine A0 hF rfl fun b16 s17 nw18 mo19 hF=>?_;have z:=K3 (X8 (hF.at 1 rfl) n13) (K3 (X8 (hF.at 2 rfl) n14) (X8 (hF.at 3 rfl) n15));refine gh ?_;refine A0 hF rfl fun b20 s21 nw22 mo23 hF=>?_;have z:=K3 (X8 (hF.at 2 rfl) n13) (K3 (X8 (hF.at 3 rfl) n14) (X8 (hF.at 4 rfl) n15));refine gh ?_;refine stK hF 1 (show E _ from ((em0 hEq) _ nw18)) rfl fun s24 hF=>?_;have z:=K3 (X8 (hF.at 2 rfl) n13) (K3 (X8 (hF.at 3 rfl) n14) (X8 (hF.at 4 rfl) n15));refine gh ?_;refine stK hF 0 (show E _ from ((fun x h=>(em0 hEq) x (mo19 x h)) _ nw22)) rfl fun s25 hF=>?_;have z:=K3 (X8 (hF.at 2 rfl) n13) (K3 (X8 (hF.at 3 rfl) n14) (X8 (hF.at 4 rfl) n15));refine gh ?_;refine go ?_;refine cdn H (fun h H=>?_) (fun h H=>?_)
  ·refine go ?_;refine st hF 3 rfl fun s26 hF=>?_;refine go ?_;refine st hF 2 rfl fun s27 hF=>?_;refine go ?_;have e:=pur H;subst e;exact rt _
  ·refine go ?_;refine bp H (Mu x27.2.1) fun x37 h H=>cl h ?_;refine go ?_;refine cdb H (fun h H=>?_) (fun h H=>?_)
   ·refine go ?_;refine st hF 3 rfl fun s28 hF=>?_;refine go ?_;refine st hF 2 rfl fun s29 hF=>?_;refine go ?_;have e:=pur H;subst e;exact rt _
   ·refine go ?_;obtain ⟨E,hEq⟩:∃E,E=EE s25 [b3,b5]:=⟨_,rfl⟩
    have n30:¬E b20:=by rw [hEq];exact K6 (hF.at 0 rfl) (nm2 ⟨neL hF 0 3 rfl rfl (by decide),neL hF 0 2 rfl rfl (by decide)⟩)
    have n31:¬E b16:=by rw [hEq];exact K6 (hF.at 1 rfl) (nm2 ⟨neL hF 1 3 rfl rfl (by decide),neL hF 1 2 rfl rfl (by decide)⟩)
    have n32:¬E b1:=by rw [hEq];exact K6 (hF.at 4 rfl) (nm2 ⟨neL hF 4 3 rfl rfl (by decide),neL hF 4 2 rfl rfl (by decide)⟩)
    refine Yj E [.v,.v,.x,.x,.v] (by kernel_rfl) ?_;have z:=K3 (X8 (hF.at 0 rfl) n30) (K3 (X8 (hF.at 1 rfl) n31) (X8 (hF.at 4 rfl) n32));refine gh ?_;refine stK hF 3 (by rw [hEq];exact Zd (by simp)) rfl fun s33 hF=>?_;have z:=K3 (X8 (hF.at 0 rfl) n30) (K3 (X8 (hF.at 1 rfl) n31) (X8 (hF.at 4 rfl) n32));refine gh ?_;refine stK hF 2 (by rw [hEq];exact Zd (by simp)) rfl fun s34 hF=>?_;have z:=K3 (X8 (hF.at 0 rfl) n30) (K3 (X8 (hF.at 1 rfl) n31) (X8 (hF.at 4 rfl) n32));refine gh ?_;refine go ?_;have e:=pur H;subst e;exact rt [.agg [sf K0 x27.1.binds,sf Zc x27.1.macs,i6 x27.1.scope,i6 x27.1.id,i6 x27.1.steps],.agg [i6 x27.2.1.kind,i6 x27.2.1.id,.str x27.2.1.name,i6 x27.2.1.num,sf cI x27.2.1.ids,i6 x27.2.1.data.kind,.str x27.2.1.data.name,i6 x27.2.1.data.num,sf cI x27.2.1.data.sc,sf KY x27.2.1.data.kids,sf Zz x27.2.1.kids],i6 0]
theorem Dm:∀(a0:Xpn) (x11:List Bnd) (Vn:List Mac) (YA:Int) (x29:Mac) (L7:List Fm) (EZ:Int) out,Vc a0 x11 Vn YA x29 L7 EZ=some out->∀c,Yg ZH 1=some c->∀(Q:QT) (tt0:Sto) (b1 b3:Nat) (v7:AV) (b12 b17:Nat) (z0v1:AV),(∀(Qgp:List Fm),out=Qgp->∀(T:TT) (σ tt:Sto) (e1v2:AV),T 1=.ptr b1 0/\T 2=.ptr b3 0/\T 3=.ptr b12 0/\T 4=i6 YA/\T 5=.ptr b17 0->Tau tt0 [] tt->Fx tt σ [(b17,⟨49,3,[i6 x29.id,e1v2,.Yd]⟩),(b12,⟨42,5,[v7,z0v1,i6 a0.scope,i6 a0.id,i6 a0.steps]⟩),(b3,⟨42,5,[.Yd,.Yd,i6 0,i6 0,i6 0]⟩),(b1,⟨42,5,[sf K0 a0.binds,sf Zc a0.macs,i6 a0.scope,i6 a0.id,i6 a0.steps]⟩)] [⟨e1v2,26,5,rws KY Qgp⟩,⟨z0v1,49,3,rws Zc Vn⟩,⟨v7,75,3,rws K0 x11⟩]->Q (.ex 2) ⟨T,σ⟩)->True->∀(T:TT) (σ tt:Sto) (z1v2:AV),T 1=.ptr b1 0/\T 2=.ptr b3 0/\T 3=.ptr b12 0/\T 4=i6 YA/\T 5=.ptr b17 0/\T 6=i6 EZ->Tau tt0 [] tt->Fx tt σ [(b17,⟨49,3,[i6 x29.id,z1v2,.Yd]⟩),(b12,⟨42,5,[v7,z0v1,i6 a0.scope,i6 a0.id,i6 a0.steps]⟩),(b3,⟨42,5,[.Yd,.Yd,i6 0,i6 0,i6 0]⟩),(b1,⟨42,5,[sf K0 a0.binds,sf Zc a0.macs,i6 a0.scope,i6 a0.id,i6 a0.steps]⟩)] [⟨z1v2,26,5,rws KY L7⟩,⟨z0v1,49,3,rws Zc Vn⟩,⟨v7,75,3,rws K0 x11⟩]->aLp KZ c Q ⟨T,σ⟩:=by
 intro a0 x11 Vn YA x29 L7 EZ;revert L7 EZ;refine Vc.partial_correctness a0 x11 Vn YA x29 _ ?_;intro Vc IH L7 EZ out H c hc Q tt0 b1 b3 v7 b12 b17 z0v1 hE hR T σ tt z1v2 tT hX hF;obtain rfl:=lpe (rfl:Yg ZH 1=some _) hc;refine Ye ?_;have q:=dum;obtain ⟨x37,f1,H⟩:=bil (g:=Zc) Mac.X7 H;refine go1 ?_;refine go ?_;refine cdp H (fun h H=>?_) (fun h H=>?_)
 ·refine go ?_;refine Yj E0 [.v,.v,.v,.v,.v,.v,.v,.v,.v,.v,.v,.v,.v,.x,.v,.z] (by kernel_rfl) ?_;obtain ⟨x49,f1,H⟩:=bil (g:=Zc) Mac.X7 H;obtain ⟨x53,f2,H⟩:=bil (g:=KY) Fm.X7 H;refine go2 ?_;refine bp H (We x53) fun x55 h H=>cv h ?_;refine go ?_;refine PD (g:=KY) hF 0 H (rdo (c:=true) (g:=KY) Fm.X7) fun x57 H v20 s21 hF=>?_;refine go ?_;refine st hF 0 (hF.cells 0 rfl) fun s22 hF=>?_;refine go ?_;exact IH  x57 (i64.wrap (EZ+1)) _ H _ rfl Q tt0 b1 b3 v7 b12 b17 z0v1 hE hR _ _ _ v20 S hX hF
 ·refine go ?_;exact wq (hE _ (pur H).symm _ _ _ z1v2 S hX hF)
theorem Dn:∀(a0:Xpn) (x11:List Bnd) (Vn:List Mac) (YA:Int) (x29:Mac) (Dt:List Fm) (L8:List Rul) (E1:Int) out,Vd a0 x11 Vn YA x29 Dt L8 E1=some out->∀c,Yg ZH 2=some c->∀(Q:QT) (tt0:Sto) (b1 b3:Nat) (v7:AV) (b12 b17:Nat) (e24v2 z0v1:AV),(∀(Qgr:List Rul),out=Qgr->∀(T:TT) (σ tt:Sto) (e2v3:AV),T 1=.ptr b1 0/\T 2=.ptr b3 0/\T 3=.ptr b12 0/\T 4=i6 YA/\T 5=.ptr b17 0->Tau tt0 [] tt->Fx tt σ [(b17,⟨49,3,[i6 x29.id,e24v2,e2v3]⟩),(b12,⟨42,5,[v7,z0v1,i6 a0.scope,i6 a0.id,i6 a0.steps]⟩),(b3,⟨42,5,[.Yd,.Yd,i6 0,i6 0,i6 0]⟩),(b1,⟨42,5,[sf K0 a0.binds,sf Zc a0.macs,i6 a0.scope,i6 a0.id,i6 a0.steps]⟩)] [⟨e2v3,116,10,rws K5 Qgr⟩,⟨e24v2,26,5,rws KY Dt⟩,⟨z0v1,49,3,rws Zc Vn⟩,⟨v7,75,3,rws K0 x11⟩]->Q (.ex 4) ⟨T,σ⟩)->True->∀(T:TT) (σ tt:Sto) (z2v3:AV),T 1=.ptr b1 0/\T 2=.ptr b3 0/\T 3=.ptr b12 0/\T 4=i6 YA/\T 5=.ptr b17 0/\T 7=i6 E1->Tau tt0 [] tt->Fx tt σ [(b17,⟨49,3,[i6 x29.id,e24v2,z2v3]⟩),(b12,⟨42,5,[v7,z0v1,i6 a0.scope,i6 a0.id,i6 a0.steps]⟩),(b3,⟨42,5,[.Yd,.Yd,i6 0,i6 0,i6 0]⟩),(b1,⟨42,5,[sf K0 a0.binds,sf Zc a0.macs,i6 a0.scope,i6 a0.id,i6 a0.steps]⟩)] [⟨z2v3,116,10,rws K5 L8⟩,⟨e24v2,26,5,rws KY Dt⟩,⟨z0v1,49,3,rws Zc Vn⟩,⟨v7,75,3,rws K0 x11⟩]->aLp KZ c Q ⟨T,σ⟩:=by
 intro a0 x11 Vn YA x29 Dt L8 E1;revert L8 E1;refine Vd.partial_correctness a0 x11 Vn YA x29 Dt _ ?_;intro Vd IH L8 E1 out H c hc Q tt0 b1 b3 v7 b12 b17 e24v2 z0v1 hE hR T σ tt z2v3 tT hX hF;obtain rfl:=lpe (rfl:Yg ZH 2=some _) hc;refine Ye ?_;have q:=dum;obtain ⟨x63,f1,H⟩:=bil (g:=Zc) Mac.X7 H;refine go1 ?_;refine go ?_;refine cdp H (fun h H=>?_) (fun h H=>?_)
 ·obtain ⟨x73,f1,H⟩:=bil (g:=Zc) Mac.X7 H;obtain ⟨x77,f2,H⟩:=bil (g:=K5) Rul.X7 H;refine go2 ?_;refine Ya hF rfl fun b28 s29 hF=>?_;refine go ?_;refine st hF 0 rfl fun s30 hF=>?_;refine go ?_;refine Yj E0 [.v,.v,.v,.v,.v,.v,.v,.v,.v,.v,.x,.v,.z] (by kernel_rfl) ?_;refine go ?_;refine bp H (We x77.pat) fun x83 h H=>cv h ?_;refine go ?_;refine bp H (We x77.tpl) fun x86 h H=>cv h ?_;refine go ?_;refine PD (g:=K5) hF 0 H (rdo (c:=true) (g:=K5) Rul.X7) fun x89 H v31 s32 hF=>?_;refine go ?_;refine st hF 1 (hF.cells 0 rfl) fun s33 hF=>?_;refine go ?_;exact IH  x89 (i64.wrap (E1+1)) _ H _ rfl Q tt0 b1 b3 v7 b12 b17 e24v2 z0v1 hE hR _ _ _ v31 S hX (hF.drop 1 0)
 ·refine go ?_;exact wq (hE _ (pur H).symm _ _ _ z2v3 S hX hF)
theorem Dl:∀(a0:Xpn) (x11:List Bnd) (Vn:List Mac) (YA:Int) out,Vb a0 x11 Vn YA=some out->∀c,Yg ZH 0=some c->∀(Q:QT) (tt0:Sto) (b1 b3:Nat) (v7:AV) (b12:Nat),(∀(Lf:List Mac),out=Lf->∀(T:TT) (σ tt:Sto) (e0v1:AV),T 2=.ptr b3 0/\T 3=.ptr b12 0->Tau tt0 [] tt->Fx tt σ [(b12,⟨42,5,[v7,e0v1,i6 a0.scope,i6 a0.id,i6 a0.steps]⟩),(b3,⟨42,5,[.Yd,.Yd,i6 0,i6 0,i6 0]⟩),(b1,⟨42,5,[sf K0 a0.binds,sf Zc a0.macs,i6 a0.scope,i6 a0.id,i6 a0.steps]⟩)] [⟨e0v1,49,3,rws Zc Lf⟩,⟨v7,75,3,rws K0 x11⟩]->Q (.ex 0) ⟨T,σ⟩)->True->∀(T:TT) (σ tt:Sto) (z0v1:AV),T 1=.ptr b1 0/\T 2=.ptr b3 0/\T 3=.ptr b12 0/\T 4=i6 YA->Tau tt0 [] tt->Fx tt σ [(b12,⟨42,5,[v7,z0v1,i6 a0.scope,i6 a0.id,i6 a0.steps]⟩),(b3,⟨42,5,[.Yd,.Yd,i6 0,i6 0,i6 0]⟩),(b1,⟨42,5,[sf K0 a0.binds,sf Zc a0.macs,i6 a0.scope,i6 a0.id,i6 a0.steps]⟩)] [⟨z0v1,49,3,rws Zc Vn⟩,⟨v7,75,3,rws K0 x11⟩]->aLp KZ c Q ⟨T,σ⟩:=by
 intro a0 x11 Vn YA;revert Vn YA;refine Vb.partial_correctness a0 x11 _ ?_;intro Vb IH Vn YA out H c hc Q tt0 b1 b3 v7 b12 hE hR T σ tt z0v1 tT hX hF;refine lpy hc rfl fun q=>go ?_;refine cdp H (fun h H=>?_) (fun h H=>?_)
 ·obtain ⟨x29,f1,H⟩:=bil (g:=Zc) Mac.X7 H;refine go1 ?_;refine Ya hF rfl fun b17 s18 hF=>?_;refine go ?_;refine st hF 0 rfl fun s19 hF=>?_;have hF:=hF.nil 26 5;refine go ?_;obtain ⟨o23,ho23,H⟩:=bnd H;refine Dm a0 x11 Vn YA x29 [] 0 _ ho23 _ rfl _ tt0 b1 b3 v7 b12 b17 z0v1 ?_ ?_ _ _ _ .Yd S hX hF
  ·intro Dt he T25 s26 t27 e24v2 tT hX hF;have he:=he.symm;subst he;have hF:=hF.nil 116 10;refine go ?_;obtain ⟨o34,ho34,H⟩:=bnd H;refine Dn a0 x11 Vn YA x29 Dt [] 0 _ ho34 _ rfl _ tt0 b1 b3 v7 b12 b17 e24v2 z0v1 ?_ ?_ _ _ _ .Yd S hX hF
   ·intro Qll he T36 s37 t38 e35v3 tT hX hF;have he:=he.symm;subst he;refine go ?_;refine Qs5 (g:=Zc) (rows:=[[i6 x29.id,e24v2,e35v3]]) (mid:=[[i6 x29.id,sf KY Dt,e35v3]]) hF 2 1 1 0 0 H Mac.X7 true rfl (by simp only [Qr,K7,KI,Kh,QS];exact (.wk (.refl _) id (.own (.wk (.refl _) id .nil)))) (by simp only [sf,i6,zB,Vm,VR,cI,cU,cS,cL,Mac.Yb,Fm.kind,Fm.name,Fm.num,Fm.sc,Fm.kids,Mac.id,Mac.lits,Mac.rules,Qr,K7,KI,Kh,QS];exact (.wk (.refl _) id (.wk (.refl _) id (.own .nil)))) fun x95 H v39 s40 hF=>?_;refine go ?_;refine st hF 1 (hF.cells 0 rfl) fun s41 hF=>?_;refine go ?_;exact IH  x95 (i64.wrap (YA+1)) _ H _ rfl Q tt0 b1 b3 v7 b12 hE hR _ _ _ v39 S hX (hF.drop 1 0)
   ·trivial
  ·trivial
 ·refine go ?_;exact wq (hE _ (pur H).symm _ _ _ z0v1 S hX hF)
theorem CL:∀(a0:Xpn) (x11:List Bnd) (Vn:List Mac) (YA:Int) (x29:Mac) (L7:List Fm) (EZ:Int) out,Vc a0 x11 Vn YA x29 L7 EZ=some out->∀c,Yg ZH 1=some c->∀(Q:QT) (tt0:Sto) (b1 b3 b48:Nat) (v50:AV) (b56:Nat) (z0v1:AV),(∀(Qgp:List Fm),out=Qgp->∀(T:TT) (σ tt:Sto) (e1v2:AV),T 1=.ptr b1 0/\T 2=.ptr b3 0/\T 3=.ptr b48 0/\T 4=i6 YA/\T 5=.ptr b56 0->Tau tt0 [] tt->Fx tt σ [(b56,⟨49,3,[i6 x29.id,e1v2,.Yd]⟩),(b48,⟨42,5,[v50,z0v1,i6 a0.scope,i6 a0.id,i6 a0.steps]⟩),(b3,⟨42,5,[.Yd,.Yd,i6 0,i6 0,i6 0]⟩),(b1,⟨42,5,[sf K0 a0.binds,sf Zc a0.macs,i6 a0.scope,i6 a0.id,i6 a0.steps]⟩)] [⟨e1v2,26,5,rws KY Qgp⟩,⟨z0v1,49,3,rws Zc Vn⟩,⟨v50,75,3,rws K0 x11⟩]->Q (.ex 2) ⟨T,σ⟩)->True->∀(T:TT) (σ tt:Sto) (z1v2:AV),T 1=.ptr b1 0/\T 2=.ptr b3 0/\T 3=.ptr b48 0/\T 4=i6 YA/\T 5=.ptr b56 0/\T 6=i6 EZ->Tau tt0 [] tt->Fx tt σ [(b56,⟨49,3,[i6 x29.id,z1v2,.Yd]⟩),(b48,⟨42,5,[v50,z0v1,i6 a0.scope,i6 a0.id,i6 a0.steps]⟩),(b3,⟨42,5,[.Yd,.Yd,i6 0,i6 0,i6 0]⟩),(b1,⟨42,5,[sf K0 a0.binds,sf Zc a0.macs,i6 a0.scope,i6 a0.id,i6 a0.steps]⟩)] [⟨z1v2,26,5,rws KY L7⟩,⟨z0v1,49,3,rws Zc Vn⟩,⟨v50,75,3,rws K0 x11⟩]->aLp KZ c Q ⟨T,σ⟩:=by
 intro a0 x11 Vn YA x29 L7 EZ;revert L7 EZ;refine Vc.partial_correctness a0 x11 Vn YA x29 _ ?_;intro Vc IH L7 EZ out H c hc Q tt0 b1 b3 b48 v50 b56 z0v1 hE hR T σ tt z1v2 tT hX hF;obtain rfl:=lpe (rfl:Yg ZH 1=some _) hc;refine Ye ?_;have q:=dum;obtain ⟨x37,f1,H⟩:=bil (g:=Zc) Mac.X7 H;refine go1 ?_;refine go ?_;refine cdp H (fun h H=>?_) (fun h H=>?_)
 ·refine go ?_;refine Yj E0 [.v,.v,.v,.v,.v,.v,.v,.v,.v,.v,.v,.v,.v,.x,.v,.z] (by kernel_rfl) ?_;obtain ⟨x49,f1,H⟩:=bil (g:=Zc) Mac.X7 H;obtain ⟨x53,f2,H⟩:=bil (g:=KY) Fm.X7 H;refine go2 ?_;refine bp H (We x53) fun x55 h H=>cv h ?_;refine go ?_;refine PD (g:=KY) hF 0 H (rdo (c:=true) (g:=KY) Fm.X7) fun x57 H v59 s60 hF=>?_;refine go ?_;refine st hF 0 (hF.cells 0 rfl) fun s61 hF=>?_;refine go ?_;exact IH  x57 (i64.wrap (EZ+1)) _ H _ rfl Q tt0 b1 b3 b48 v50 b56 z0v1 hE hR _ _ _ v59 S hX hF
 ·refine go ?_;exact wq (hE _ (pur H).symm _ _ _ z1v2 S hX hF)
theorem CM:∀(a0:Xpn) (x11:List Bnd) (Vn:List Mac) (YA:Int) (x29:Mac) (M8:List Fm) (L8:List Rul) (E1:Int) out,Vd a0 x11 Vn YA x29 M8 L8 E1=some out->∀c,Yg ZH 2=some c->∀(Q:QT) (tt0:Sto) (b1 b3 b48:Nat) (v50:AV) (b56:Nat) (e63v2 z0v1:AV),(∀(Qgr:List Rul),out=Qgr->∀(T:TT) (σ tt:Sto) (e2v3:AV),T 1=.ptr b1 0/\T 2=.ptr b3 0/\T 3=.ptr b48 0/\T 4=i6 YA/\T 5=.ptr b56 0->Tau tt0 [] tt->Fx tt σ [(b56,⟨49,3,[i6 x29.id,e63v2,e2v3]⟩),(b48,⟨42,5,[v50,z0v1,i6 a0.scope,i6 a0.id,i6 a0.steps]⟩),(b3,⟨42,5,[.Yd,.Yd,i6 0,i6 0,i6 0]⟩),(b1,⟨42,5,[sf K0 a0.binds,sf Zc a0.macs,i6 a0.scope,i6 a0.id,i6 a0.steps]⟩)] [⟨e2v3,116,10,rws K5 Qgr⟩,⟨e63v2,26,5,rws KY M8⟩,⟨z0v1,49,3,rws Zc Vn⟩,⟨v50,75,3,rws K0 x11⟩]->Q (.ex 4) ⟨T,σ⟩)->True->∀(T:TT) (σ tt:Sto) (z2v3:AV),T 1=.ptr b1 0/\T 2=.ptr b3 0/\T 3=.ptr b48 0/\T 4=i6 YA/\T 5=.ptr b56 0/\T 7=i6 E1->Tau tt0 [] tt->Fx tt σ [(b56,⟨49,3,[i6 x29.id,e63v2,z2v3]⟩),(b48,⟨42,5,[v50,z0v1,i6 a0.scope,i6 a0.id,i6 a0.steps]⟩),(b3,⟨42,5,[.Yd,.Yd,i6 0,i6 0,i6 0]⟩),(b1,⟨42,5,[sf K0 a0.binds,sf Zc a0.macs,i6 a0.scope,i6 a0.id,i6 a0.steps]⟩)] [⟨z2v3,116,10,rws K5 L8⟩,⟨e63v2,26,5,rws KY M8⟩,⟨z0v1,49,3,rws Zc Vn⟩,⟨v50,75,3,rws K0 x11⟩]->aLp KZ c Q ⟨T,σ⟩:=by
 intro a0 x11 Vn YA x29 M8 L8 E1;revert L8 E1;refine Vd.partial_correctness a0 x11 Vn YA x29 M8 _ ?_;intro Vd IH L8 E1 out H c hc Q tt0 b1 b3 b48 v50 b56 e63v2 z0v1 hE hR T σ tt z2v3 tT hX hF;obtain rfl:=lpe (rfl:Yg ZH 2=some _) hc;refine Ye ?_;have q:=dum;obtain ⟨x63,f1,H⟩:=bil (g:=Zc) Mac.X7 H;refine go1 ?_;refine go ?_;refine cdp H (fun h H=>?_) (fun h H=>?_)
 ·obtain ⟨x73,f1,H⟩:=bil (g:=Zc) Mac.X7 H;obtain ⟨x77,f2,H⟩:=bil (g:=K5) Rul.X7 H;refine go2 ?_;refine Ya hF rfl fun b67 s68 hF=>?_;refine go ?_;refine st hF 0 rfl fun s69 hF=>?_;refine go ?_;refine Yj E0 [.v,.v,.v,.v,.v,.v,.v,.v,.v,.v,.x,.v,.z] (by kernel_rfl) ?_;refine go ?_;refine bp H (We x77.pat) fun x83 h H=>cv h ?_;refine go ?_;refine bp H (We x77.tpl) fun x86 h H=>cv h ?_;refine go ?_;refine PD (g:=K5) hF 0 H (rdo (c:=true) (g:=K5) Rul.X7) fun x89 H v70 s71 hF=>?_;refine go ?_;refine st hF 1 (hF.cells 0 rfl) fun s72 hF=>?_;refine go ?_;exact IH  x89 (i64.wrap (E1+1)) _ H _ rfl Q tt0 b1 b3 b48 v50 b56 e63v2 z0v1 hE hR _ _ _ v70 S hX (hF.drop 1 0)
 ·refine go ?_;exact wq (hE _ (pur H).symm _ _ _ z2v3 S hX hF)
theorem CK:∀(a0:Xpn) (x11:List Bnd) (Vn:List Mac) (YA:Int) out,Vb a0 x11 Vn YA=some out->∀c,Yg ZH 0=some c->∀(Q:QT) (tt0:Sto) (b1 b3 b48:Nat) (v50:AV),(∀(Lf:List Mac),out=Lf->∀(T:TT) (σ tt:Sto) (e0v1:AV),T 2=.ptr b3 0/\T 3=.ptr b48 0->Tau tt0 [] tt->Fx tt σ [(b48,⟨42,5,[v50,e0v1,i6 a0.scope,i6 a0.id,i6 a0.steps]⟩),(b3,⟨42,5,[.Yd,.Yd,i6 0,i6 0,i6 0]⟩),(b1,⟨42,5,[sf K0 a0.binds,sf Zc a0.macs,i6 a0.scope,i6 a0.id,i6 a0.steps]⟩)] [⟨e0v1,49,3,rws Zc Lf⟩,⟨v50,75,3,rws K0 x11⟩]->Q (.ex 0) ⟨T,σ⟩)->True->∀(T:TT) (σ tt:Sto) (z0v1:AV),T 1=.ptr b1 0/\T 2=.ptr b3 0/\T 3=.ptr b48 0/\T 4=i6 YA->Tau tt0 [] tt->Fx tt σ [(b48,⟨42,5,[v50,z0v1,i6 a0.scope,i6 a0.id,i6 a0.steps]⟩),(b3,⟨42,5,[.Yd,.Yd,i6 0,i6 0,i6 0]⟩),(b1,⟨42,5,[sf K0 a0.binds,sf Zc a0.macs,i6 a0.scope,i6 a0.id,i6 a0.steps]⟩)] [⟨z0v1,49,3,rws Zc Vn⟩,⟨v50,75,3,rws K0 x11⟩]->aLp KZ c Q ⟨T,σ⟩:=by
 intro a0 x11 Vn YA;revert Vn YA;refine Vb.partial_correctness a0 x11 _ ?_;intro Vb IH Vn YA out H c hc Q tt0 b1 b3 b48 v50 hE hR T σ tt z0v1 tT hX hF;refine lpy hc rfl fun q=>go ?_;refine cdp H (fun h H=>?_) (fun h H=>?_)
 ·obtain ⟨x29,f1,H⟩:=bil (g:=Zc) Mac.X7 H;refine go1 ?_;refine Ya hF rfl fun b56 s57 hF=>?_;refine go ?_;refine st hF 0 rfl fun s58 hF=>?_;have hF:=hF.nil 26 5;refine go ?_;obtain ⟨o62,ho62,H⟩:=bnd H;refine CL a0 x11 Vn YA x29 [] 0 _ ho62 _ rfl _ tt0 b1 b3 b48 v50 b56 z0v1 ?_ ?_ _ _ _ .Yd S hX hF
  ·intro M8 he T64 s65 t66 e63v2 tT hX hF;have he:=he.symm;subst he;have hF:=hF.nil 116 10;refine go ?_;obtain ⟨o73,ho73,H⟩:=bnd H;refine CM a0 x11 Vn YA x29 M8 [] 0 _ ho73 _ rfl _ tt0 b1 b3 b48 v50 b56 e63v2 z0v1 ?_ ?_ _ _ _ .Yd S hX hF
   ·intro Qs6 he T75 s76 t77 e74v3 tT hX hF;have he:=he.symm;subst he;refine go ?_;refine Qs5 (g:=Zc) (rows:=[[i6 x29.id,e63v2,e74v3]]) (mid:=[[i6 x29.id,sf KY M8,e74v3]]) hF 2 1 1 0 0 H Mac.X7 true rfl (by simp only [Qr,K7,KI,Kh,QS];exact (.wk (.refl _) id (.own (.wk (.refl _) id .nil)))) (by simp only [sf,i6,zB,Vm,VR,cI,cU,cS,cL,Mac.Yb,Fm.kind,Fm.name,Fm.num,Fm.sc,Fm.kids,Mac.id,Mac.lits,Mac.rules,Qr,K7,KI,Kh,QS];exact (.wk (.refl _) id (.wk (.refl _) id (.own .nil)))) fun x95 H v78 s79 hF=>?_;refine go ?_;refine st hF 1 (hF.cells 0 rfl) fun s80 hF=>?_;refine go ?_;exact IH  x95 (i64.wrap (YA+1)) _ H _ rfl Q tt0 b1 b3 b48 v50 hE hR _ _ _ v78 S hX (hF.drop 1 0)
   ·trivial
  ·trivial
 ·refine go ?_;exact wq (hE _ (pur H).symm _ _ _ z0v1 S hX hF)
theorem Ej:∀(a0:Xpn) r,G2 a0=some r->∀   (σ:Sto),Pre σ [] []->Ctr KZ 111 [.agg (K8 a0)] σ (fun r' ss'=>∃(tt':Sto) (Qlz Ql0:AV),r'=.agg [Qlz,Ql0,i6 r.scope,i6 r.id,i6 r.steps]/\Tau (strip σ []) [] tt'/\Fx tt' ss' [] [⟨Qlz,75,3,rws K0 r.binds⟩,⟨Ql0,49,3,rws Zc r.macs⟩]):=by
 intro a0 r H;intro   σ hP;unfold G2 at H;refine hdg mixed Tryz.func111 (rs:=[.cell 2 42]) fun q tT=>?_;obtain ⟨hF,hX⟩:=hP.start;generalize strip σ []=tt0 at hF hX ⊢;refine go ?_;refine Ya hF rfl fun b1 ss2 hF=>?_;refine go ?_;refine Ya hF rfl fun b3 ss4 hF=>?_;refine go ?_;obtain ⟨E,hEq⟩:∃E,E=EE ss4 []:=⟨_,rfl⟩
 have n5:¬E b3:=by rw [hEq];exact K6 (hF.at 0 rfl) (by simp)
 have n6:¬E b1:=by rw [hEq];exact K6 (hF.at 1 rfl) (by simp)
 refine Sb E [.v,.v,.v,.v,.v,.v,.v,.v] [0,1,3,4,5,6,7,8] 2 10 [.v] [9] [.z] [11] (by kernel_rfl) ?_;have z:=K3 (X8 (hF.at 0 rfl) n5) (X8 (hF.at 1 rfl) n6);refine gh ?_;refine ⟨?_,?_⟩
 ·have z:=K3 (X8 (hF.at 0 rfl) n5) (X8 (hF.at 1 rfl) n6);refine gh ?_;obtain ⟨x11,hx11,H⟩:=bnd H;refine cx (Bs a0.binds _ hx11   _ (pre 0 0 0 hF hX)) ?_;rintro v7 s8 ⟨t9,_,rfl,hT,hG⟩
  refine W7 (K9 hT hG (by intro p hp;simp only [Kj,KE,or_false] at hp<;>first | (rcases hp with rfl<;>(rw [hEq];first | (refine Zd ?_;simp;done) | exact Zm rfl))| cases hp)) fun kp11=>?_
  obtain ⟨t10,hX,hF⟩:=aft 0 0 0 hF hX hT hG;have z:=K3 (X8 (hF.at 0 rfl) n5) (X8 (hF.at 1 rfl) n6);refine gh ?_;refine A0 hF rfl fun b12 s13 nw14 mo15 hF=>?_;have z:=K3 (X8 (hF.at 1 rfl) n5) (X8 (hF.at 2 rfl) n6);refine gh ?_;refine st hF 0 rfl fun s16 hF=>?_;have z:=K3 (X8 (hF.at 1 rfl) n5) (X8 (hF.at 2 rfl) n6);refine gh ?_;have hF:=hF.nil 49 3;refine go ?_;obtain ⟨o42,ho42,H⟩:=bnd H;refine Dl a0 x11 [] 0 _ ho42 _ rfl _ tt0 b1 b3 v7 b12 ?_ ?_ _ _ _ .Yd S hX hF
  ·intro Qlm he T44 s45 t46 e43v1 tT hX hF;have he:=he.symm;subst he;refine go ?_;refine st hF 1 rfl fun s47 hF=>?_;refine go ?_;have e:=pur H;subst e;exact rg _ ⟨_,_,_,rfl,hX,hF.pick [] [1,0] (by decide) (by decide)⟩
  ·trivial
 ·have z:=K3 (X8 (hF.at 0 rfl) n5) (X8 (hF.at 1 rfl) n6);refine gh ?_;refine Hg hF rfl fun b48 s49 hF=>?_;have z:=K3 (X8 (hF.at 1 rfl) n5) (X8 (hF.at 2 rfl) n6);refine gh ?_;obtain ⟨x11,hx11,H⟩:=bnd H;refine cx (Bs a0.binds _ hx11   _ (pre 0 0 0 hF hX)) ?_;rintro v50 s51 ⟨t52,_,rfl,hT,hG⟩
  refine W7 (K9 hT hG (by intro p hp;simp only [Kj,KE,or_false] at hp<;>first | (rcases hp with rfl<;>(rw [hEq];first | (refine Zd ?_;simp;done) | exact Zm rfl))| cases hp)) fun kp54=>?_
  obtain ⟨t53,hX,hF⟩:=aft 0 0 0 hF hX hT hG;have z:=K3 (X8 (hF.at 1 rfl) n5) (X8 (hF.at 2 rfl) n6);refine gh ?_;refine st hF 0 rfl fun s55 hF=>?_;have z:=K3 (X8 (hF.at 1 rfl) n5) (X8 (hF.at 2 rfl) n6);refine gh ?_;have hF:=hF.nil 49 3;refine go ?_;obtain ⟨o81,ho81,H⟩:=bnd H;refine CK a0 x11 [] 0 _ ho81 _ rfl _ tt0 b1 b3 b48 v50 ?_ ?_ _ _ _ .Yd S hX hF
  ·intro Qs7 he T83 s84 t85 e82v1 tT hX hF;have he:=he.symm;subst he;refine go ?_;refine st hF 1 rfl fun s86 hF=>?_;refine go ?_;have e:=pur H;subst e;exact rg _ ⟨_,_,_,rfl,hX,hF.pick [] [1,0] (by decide) (by decide)⟩
  ·trivial
theorem Ci:∀(a0:Fm) (a1:Int) r,WQ a0 a1=some r->∀   (σ:Sto),Pre σ [] []->Ctr KZ 76 [.agg (KY a0),i6 a1] σ (fun r' ss'=>∃(tt':Sto) (Qlz Ql0:AV),r'=.tup [.agg [Qlz,Ql0,i6 r.1.scope,i6 r.1.id,i6 r.1.steps],i6 r.2]/\Tau (strip σ []) [] tt'/\Fx tt' ss' [] [⟨Qlz,75,3,rws K0 r.1.binds⟩,⟨Ql0,49,3,rws Zc r.1.macs⟩]):=by
 intro a0 a1 r H;intro   σ hP;unfold WQ at H;refine hdg mixed Tryz.func76 (rs:=[.cell 4 42,.tmp 5]) fun q tT=>?_;obtain ⟨hF,hX⟩:=hP.start;generalize strip σ []=tt0 at hF hX ⊢;refine go ?_;refine Ya hF rfl fun b1 ss2 hF=>?_;refine go ?_;refine Ya hF rfl fun b3 ss4 hF=>?_;refine go ?_;refine bp H (SQ a0 a1) fun x12 h H=>cl h ?_;refine go ?_;refine Ya hF rfl fun b5 ss6 hF=>?_;refine go ?_;refine Ya hF rfl fun b7 s8 hF=>?_;refine go ?_;refine st hF 1 rfl fun s9 hF=>?_;refine go ?_;refine st hF 0 rfl fun s10 hF=>?_;refine go ?_;refine cdn H (fun h H=>?_) (fun h H=>?_)
 ·refine go ?_;refine st hF 2 rfl fun s11 hF=>?_;have hF:=hF.nil 75 3;have hF:=hF.nil 49 3;refine go ?_;have e:=pur H;subst e;exact rg _ ⟨_,_,_,rfl,hX,hF.pick [] [1,0] (by decide) (by decide)⟩
 ·refine go ?_;obtain ⟨x21,hx21,H⟩:=bnd H;refine cx (Ej x12.1 _ hx21   _ (pre 0 0 0 hF hX)) ?_;rintro _ s14 ⟨t15,v12,v13,rfl,hT,hG⟩;obtain ⟨t16,hX,hF⟩:=aft 0 0 0 hF hX hT hG;refine go ?_;refine st hF 2 rfl fun s17 hF=>?_;refine go ?_;have e:=pur H;subst e;exact rg _ ⟨_,_,_,rfl,hX,hF.pick [] [0,1] (by decide) (by decide)⟩
theorem BJ:∀(x5:List ByteArray) (X9:List Bnd) (YB:Int) out,Y7 x5 X9 YB=some out->∀c,Yg Tryz.f77 0=some c->∀(Q:QT) (tt0:Sto) (b1 b3:Nat),(∀(Vu:List Bnd),out=Vu->∀(T:TT) (σ tt:Sto) (e0v0:AV),T 0=.ptr b1 0/\T 1=.ptr b3 0->Tau tt0 [] tt->Fx tt σ [(b3,⟨42,5,[e0v0,.Yd,i6 0,i6 10,i6 0]⟩),(b1,⟨42,5,[.Yd,.Yd,i6 0,i6 0,i6 0]⟩)] [⟨e0v0,75,3,rws K0 Vu⟩]->Q (.ex 0) ⟨T,σ⟩)->True->∀(T:TT) (σ tt:Sto) (z0v0:AV),T 0=.ptr b1 0/\T 1=.ptr b3 0/\T 2=sf cS x5/\T 3=i6 YB->Tau tt0 [] tt->Fx tt σ [(b3,⟨42,5,[z0v0,.Yd,i6 0,i6 10,i6 0]⟩),(b1,⟨42,5,[.Yd,.Yd,i6 0,i6 0,i6 0]⟩)] [⟨z0v0,75,3,rws K0 X9⟩]->aLp KZ c Q ⟨T,σ⟩:=by
 intro x5 X9 YB;revert X9 YB;refine Y7.partial_correctness x5 _ ?_;intro Y7 IH X9 YB out H c hc Q tt0 b1 b3 hE hR T σ tt z0v0 tT hX hF;refine lpy hc rfl fun q=>go ?_;refine cdp H (fun h H=>?_) (fun h H=>?_)
 ·refine go ?_;refine Yj E0 [.v,.v,.v,.v,.v,.v,.v,.v,.v,.x,.v,.z] (by kernel_rfl) ?_;obtain ⟨x16,f1,H⟩:=bil (g:=cS) (fun _=>rfl) H;refine go1 ?_;refine Qrn (g:=K0) (rows:=[[.str x16,.Yd,i6 YB]]) hF 0 H Bnd.X7 true rfl (by simp only [sf,i6,zB,Vm,VR,cI,cU,cS,cL,Bnd.Yb,Fm.kind,Fm.name,Fm.num,Fm.sc,Fm.kids,Hit.name,Hit.depth,Hit.one,Hit.many,Cor.kind,Cor.id,Cor.name,Cor.num,Cor.ids,Cor.data,Cor.kids,Val.kind,Val.num,Val.name,Val.items,Val.fn,Val.env,Slt.id,Slt.val,Qr,K7,KI,Kh,QS];exact (.cons (.refl _) id (.cons .Yd (fun _=>rfl) (.cons (.refl _) id .nil)))) fun x21 H v6 s7 hF=>?_;refine go ?_;refine st hF 0 (hF.cells 0 rfl) fun s8 hF=>?_;refine go ?_;exact IH  x21 (i64.wrap (YB+1)) _ H _ rfl Q tt0 b1 b3 hE hR _ _ _ v6 S hX hF
 ·refine go ?_;exact wq (hE _ (pur H).symm _ _ _ z0v0 S hX hF)
theorem Cj:∀  r,WT  = some r->∀   (σ:Sto),Pre σ [] []->Ctr KZ 77 [] σ (fun r' ss'=>∃(tt':Sto) (Qlz Ql0:AV),r'=.agg [Qlz,Ql0,i6 r.scope,i6 r.id,i6 r.steps]/\Tau (strip σ []) [] tt'/\Fx tt' ss' [] [⟨Qlz,75,3,rws K0 r.binds⟩,⟨Ql0,49,3,rws Zc r.macs⟩]):=by
 intro  r H;intro   σ hP;unfold WT at H;refine hdg mixed Tryz.func77 (rs:=[.cell 0 42]) fun q tT=>?_;obtain ⟨hF,hX⟩:=hP.start;generalize strip σ []=tt0 at hF hX ⊢;refine go ?_;refine Ya hF rfl fun b1 ss2 hF=>?_;refine go ?_;refine Ya hF rfl fun b3 ss4 hF=>?_;refine go ?_;refine st hF 0 rfl fun ss5 hF=>?_;refine go ?_;refine bp H (EW ) fun x5 h H=>cl h ?_;have hF:=hF.nil 75 3;refine go ?_;obtain ⟨o9,ho9,H⟩:=bnd H;refine BJ x5 [] 1 _ ho9 _ rfl _ tt0 b1 b3 ?_ ?_ _ _ _ .Yd S hX hF
 ·intro M6 he T11 s12 t13 e10v0 tT hX hF;have he:=he.symm;subst he;refine go ?_;refine st hF 1 rfl fun s14 hF=>?_;have hF:=hF.nil 49 3;refine go ?_;have e:=pur H;subst e;exact rg _ ⟨_,_,_,rfl,hX,hF.pick [] [1,0] (by decide) (by decide)⟩
 ·trivial
abbrev bTy:Tg->TypeId | .int=>3 | .bnd=>75 | _=>0
abbrev UW (c:AV):Prop:=c.Y6=true
theorem Qa4 {n:ByteArray} {sc:List Int} {id:Int} {v:AV} (hv:Fr v):LvR bTy UW Tg.bnd.shp (K0 ⟨n,sc,id⟩) [.str n,v,i6 id] [⟨v,3,1,rws cI sc⟩]:=.flat rfl (.sl (L0:=[]) (L:=[]) hv (Em.ints (fun _=>rfl) sc) (.flat rfl .nil))
theorem Md {b:Bnd} {l:List AV} {L:List Ib} (h:LvR bTy UW Tg.bnd.shp b.cells l L):∃v,Fr v/\l=[.str b.name,v,i6 b.id]/\L=[⟨v,3,1,rws cI b.sc⟩]:=by
 have h:LvR bTy UW [none,some .int,none] [.str b.name,sf cI b.sc,i6 b.id] l L:=h
 cases h with
 | flat _ u =>
  cases u with
  | sl hv hi u =>
   obtain ⟨rfl,rfl⟩:=hi.Qjw
   cases u with
   | flat _ u=>cases u;exact ⟨_,hv,rfl,rfl⟩
theorem PM:∀(a0 X9:List Bnd) (YA:Int) out,VE a0 X9 YA=some out->∀c,Yg Tryz.f113 0=some c->∀(Q:QT) (tt:Sto),(∀(T:TT) (σ:Sto) (v:AV) (ls:List (List AV)) (L:List Ib),T 3=v->Em bTy UW .bnd (rws K0 out) ls L->Fx tt σ [] (⟨v,75,3,ls⟩ :: L)->Q (.ex 0) ⟨T,σ⟩)->∀(T:TT) (σ:Sto) (v:AV) (ls:List (List AV)) (L:List Ib),T 0=sf K0 a0/\T 3=v/\T 4=i6 YA->Em bTy UW .bnd (rws K0 X9) ls L->Fx tt σ [] (⟨v,75,3,ls⟩ :: L)->aLp KZ c Q ⟨T,σ⟩:=by
 intro a0 X9 YA;revert X9 YA;refine VE.partial_correctness a0 _ ?_;intro VE IH X9 YA out H c hc Q tt hE T σ v ls L tT hL hF;refine lpx tt hc rfl fun q hX=>go ?_;refine cdp H (fun h H=>?_) (fun h H=>?_)
 ·obtain ⟨x15,f1,H⟩:=bil (g:=K0) Bnd.X7 H;refine go1 ?_;refine Ya hF rfl fun b1 ss2 hF=>?_;refine go ?_;refine st hF 0 rfl fun ss3 hF=>?_;have hF:=hF.lit 3 1 (rws cI []) rfl;refine go ?_;obtain ⟨x20,hx20,H⟩:=bnd H;refine Qbj hF 0 (g:=cI) (xs:=[]) (ys:=x15.sc) rfl (by decide) (by decide) (RdL.of (c:=false) (fun _=>rfl) (by first | rfl | simp only [Vm,VR,cI,cU,cS,cL])) hx20 fun v1 ss4 hF=>?_;have hfr:Fr v1:=Fr.of hF (KD ..) (by show (1:Nat)≠17;decide);refine go ?_;refine st hF 0 (hF.cells 0 rfl) fun ss5 hF=>?_;have hF:=hF.perm (List.Perm.swap _ _ _);refine go ?_;obtain ⟨x25,hx25,H⟩:=bnd H;obtain ⟨rfl,hb⟩:=A4 hx25;have hlen:=hL.len.1;rw [Jo] at hlen;refine Qgx (by_:=48) hF 0 (ys:=[[.str x15.name,v1,i6 x15.id]]) rfl (by decide) (by decide) (RdL.sl _ _ _ _ (fun r hr=>by rw [ZG.1 hr];rfl)) (by simpa [hlen] using hb) fun v5 ss6 hF=>?_;refine go ?_;have hrow:=Qa4 (n:=x15.name) (sc:=x20) (id:=x15.id) hfr;have hL2:=hL.snoc hrow;have hF0:Fx tt ss6 [] (⟨v5,75,3,ls++[[.str x15.name,v1,i6 x15.id]]⟩ :: (L++[⟨v1,3,1,rws cI x20⟩])):=(hF.drop 1 0).perm (List.Perm.cons _ (List.perm_append_comm (l₁:=[_])));exact IH (X9++[⟨x15.name,x20,x15.id⟩]) (i64.wrap (YA+1)) _ H _ rfl Q tt hE _ _ v5 _ _ S (by rw [Bn];exact hL2) hF0
 ·refine go ?_;obtain rfl:=pur H;exact wq (hE _ _ v _ _ S hL hF)
theorem UX:∀(a0:List Bnd) r,JE a0=some r->∀(σ:Sto),Pre σ [] []->Ctr KZ 113 [sf K0 a0] σ (fun r' ss'=>∃(tt':Sto) (v:AV) (ls:List (List AV)) (L:List Ib),r'=v/\Em bTy UW .bnd (rws K0 r) ls L/\Tau (strip σ []) [] tt'/\Fx tt' ss' [] (⟨v,75,3,ls⟩ :: L)):=by
 intro a0 r H;intro σ hP;unfold JE at H;refine hdg mixed Tryz.func113 (rs:=[.tmp 2]) fun q tT=>?_;obtain ⟨hF,hX⟩:=hP.start;generalize strip σ []=tt0 at hF hX ⊢;have hF:=hF.lit 75 3 [] rfl;refine go ?_;obtain ⟨o7,ho7,H⟩:=bnd H;refine PM a0 [] 0 _ ho7 _ rfl _ tt0 ?_ _ _ (.sl true []) [] [] S .nil hF;intro T9 s10 v ls L tT hL hF;refine go ?_;have e:=pur H;subst e;exact rg _ ⟨_,_,_,_,rfl,hL,hX,hF⟩
theorem EP:∀(a1:List Bnd) (c0:Rdr) r,AN a1 c0=some r->∀(e0:Nat) (σ:Sto),Pre σ [(e0,⟨89,2,[sf cU c0.b,i6 c0.p]⟩)] []->Ctr KZ 78 [.ptr e0 0,sf K0 a1] σ (fun r' ss'=>∃(tt':Sto),r'=sf K0 r.1/\Tau (strip σ []) [(e0,⟨89,2,[sf cU r.2.b,i6 r.2.p]⟩)] tt'/\Fx tt' ss' [] []):=by
 intro a1 c0 r H;intro e0 σ hP;unfold AN at H;refine hdg mixed Tryz.func78 (rs:=[.tmp 4]) fun q tT=>?_;obtain ⟨hF,hX⟩:=hP.start;generalize strip σ []=tt0 at hF hX ⊢;refine go ?_;obtain ⟨out,hout,H⟩:=bnd H;refine cx (UX a1 _ hout _ (pre 0 0 0 hF hX)) ?_;rintro v ss1 ⟨tt1,_,ls,L,rfl,hL,hT,hG⟩;obtain ⟨tt2,hX,hF⟩:=aft 0 0 0 hF hX hT hG
 have hF:Fx tt2 ss1 [] (⟨v,75,3,ls⟩ :: L):=by simpa using hF
 have hlen:=hL.len.1;rw [Jo] at hlen;have hwk:∀{tt σ:Sto} {v:AV} {ls:List (List AV)} {L:List Ib} {zs:List Bnd},Em bTy UW .bnd (rws K0 zs) ls L->Fx tt σ [] (⟨v,75,3,ls⟩ :: L)->Wk σ (packed [v]) tt (sf K0 zs):=fun {tt σ v ls L zs} h hF=>h.wk (e:=75) hF.sub (fun _ h=>h) (Ql2.of hF fun m hm=>hm);refine go ?_;rw [← hlen] at H;refine cdp H (fun h H=>?_) (fun h H=>?_)
 ·refine go ?_;have e:=pur H;subst e;exact rg _ ⟨_,rfl,hX,K4 _⟩ (hw:=hwk hL hF)
 refine go ?_;obtain ⟨x16,hx16,H⟩:=bnd H;refine cx (Yw (ls.length:Int) c0 _ hx16 e0 _ (pre 0 1 0 hF hX)) ?_;rintro _ ss2 ⟨tt3,rfl,hT,hG⟩;obtain ⟨tt4,hX,hF⟩:=aft 0 1 0 hF hX hT hG;refine go ?_;obtain ⟨x18,hx18,H⟩:=bnd H;refine cx (Yw 20 x16.2 _ hx18 e0 _ (pre 0 1 0 hF hX)) ?_;rintro _ ss3 ⟨tt5,rfl,hT,hG⟩;obtain ⟨t6,hX,hF⟩:=aft 0 1 0 hF hX hT hG
 have hF:Fx t6 ss3 [] (⟨v,75,3,ls⟩ :: L):=by simpa using hF
 refine go ?_;refine cdp H (fun h H=>?_) (fun h H=>?_)
 ·refine go ?_;obtain ⟨x25,hx25,H⟩:=bnd H;refine cx (Y3 [0,1000,5] x18.2 _ hx25 e0 _ (pre 0 1 0 hF hX)) ?_;rintro _ ss4 ⟨t7,rfl,hT,hG⟩;obtain ⟨t8,hX,hF⟩:=aft 0 1 0 hF hX hT hG
  have hF:Fx t8 ss4 [] (⟨v,75,3,ls⟩ :: L):=by simpa using hF
  obtain ⟨b,hb,H⟩:=bnd H;obtain ⟨i0,i1,i2⟩:=Lr hb;obtain ⟨i,hi⟩:∃i:Nat,x16.1=(i:Int):=⟨x16.1.toNat,by omega⟩
  have hp:(rws K0 out)[i]?=some b.cells:=by
   rw [hi,Kl] at i2;simp [rws,i2]
  obtain ⟨lrow,A,B,C,q1,q2,q3,q4⟩:=hL.at i _ hp;obtain ⟨vs,hfr,rfl,rfl⟩:=Md q3;obtain ⟨b1,cap,hv⟩:=hF.Qsj 0 rfl (show i < ls.length by omega);subst hv;have hai:=fun σ=>RX (σ:=σ) (e:=75) (sz:=3) (by_:=48) (b:=b1) (n:=ls.length) (c:=cap) (k:=.i64) (i:=i) (by omega);rw [hi,Kl] at H
  try simp only [hi]
  try simp only [go_sem,↓reduceIte,ZA,ZC,ZD,ZB,ZE,ZF,Kl,q,tT,hF.f,hF.m,hF.x hX,hai]
  refine Qjn hF 0 (o:=2) (i:=i) [.str b.name,vs,i6 x25.1] rfl rfl q1 rfl rfl (by decide) (by simp [Hx]) rfl fun ss5 hF=>?_;refine go ?_;have e:=pur H;subst e;have hL2:=q4 _ _ _ (Qa4 (n:=b.name) (sc:=b.sc) (id:=x25.1) hfr)
  have hset:rws K0 (out.set i ⟨b.name,b.sc,x25.1⟩)=(rws K0 out).set i (K0 ⟨b.name,b.sc,x25.1⟩):=by simp [rws,KF]
  rw [← hset] at hL2;rw [q2] at hF;exact rg _ ⟨_,rfl,hX,K4 _⟩ (hw:=hwk hL2 hF)
 refine go ?_;refine cdp H (fun h H=>?_) (fun h H=>?_)
 ·refine go ?_;obtain ⟨x39,hx39,H⟩:=bnd H;obtain ⟨b,hb,H⟩:=bnd H;obtain ⟨i0,i1,i2⟩:=Lr hb;obtain ⟨i,hi⟩:∃i:Nat,x16.1=(i:Int):=⟨x16.1.toNat,by omega⟩
  have hp:(rws K0 out)[i]?=some b.cells:=by
   rw [hi,Kl] at i2;simp [rws,i2]
  obtain ⟨lrow,A,B,C,q1,q2,q3,q4⟩:=hL.at i _ hp;obtain ⟨vs,hfr,rfl,rfl⟩:=Md q3;obtain ⟨b1,cap,hv⟩:=hF.Qsj 0 rfl (show i < ls.length by omega);subst hv;have hai:=fun σ=>RX (σ:=σ) (e:=75) (sz:=3) (by_:=48) (b:=b1) (n:=ls.length) (c:=cap) (k:=.i64) (i:=i) (by omega);rw [hi,Kl] at H;obtain ⟨sc,hsc,H⟩:=bnd H;rw [q2] at hF;obtain ⟨E,hEq⟩:∃E,E=EE ss3 [e0]:=⟨_,rfl⟩;refine Qji E [.v,.v,.v,.v,.v,.v,.v,.v] [0,1,2,3,4,5,7,8] .x 9 .x 6 [.v] [10] [.x,.v,.v,.x] [11,12,13,14] (by kernel_rfl) ?_
  try simp only [hi]
  try simp only [go_sem,↓reduceIte,ZA,ZC,ZD,ZB,ZE,ZF,Kl,q,tT,hF.f,hF.m,hF.x hX,hai]
  refine ⟨?_,?_⟩
  ·try simp only [go_sem,↓reduceIte,ZA,ZC,ZD,ZB,ZE,ZF,Kl,q,tT,hF.f,hF.m,hF.x hX,hai]
   refine cx (Y3 [0,1,98] x18.2 _ hx39 e0 _ (pre 0 1 0 hF hX)) ?_;rintro _ ss4 ⟨t7,rfl,hT,hG⟩;refine W7 (K9 hT hG (by intro p hp;simp only [Kj,KE,or_false] at hp;rcases hp with rfl;rw [hEq];exact Zd (by simp))) fun _=>?_;obtain ⟨t8,hX,hF⟩:=aft 0 1 0 hF hX hT hG
   have hF:Fx t8 ss4 [] (⟨.ref b1 ls.length cap,75,3,ls⟩ :: (A++([⟨vs,3,1,rws cI b.sc⟩]++C))):=by simpa using hF
   have hld:=Oe (ag:=false) (k:=1) (o:=1) (v:=vs) hF 0 (show i * 3+1=i * 3+1 from rfl) rfl q1 (by decide) (by have:=hfr.cell;cases hfr<;>rfl)
   try simp only [go_sem,↓reduceIte,ZA,ZC,ZD,ZB,ZE,ZF,Kl,q,tT,hF.f,hF.m,hF.x hX,hai,hld,Qu]
   have pm:∀(o m:Ib),(o :: (A++([m]++C))).Perm (m :: o :: (A++C)):=fun o m=>(List.Perm.cons o (List.perm_middle (l₁:=A) (l₂:=C) (a:=m))).trans (List.Perm.swap _ _ _);have hF:=hF.perm (pm _ _);obtain ⟨rfl,hb2⟩:=A4 hsc;refine Qbk (by_:=8) hF 0 (ys:=[[i6 x39.1]]) rfl (by decide) (by decide) (RdL.sl _ _ _ _ (fun r hr=>by rw [ZG.1 hr];rfl)) (by simpa [rws] using hb2) fun v9 s10 hF=>?_;have hfr9:Fr v9:=Fr.of hF (KD ..) (by show (1:Nat)≠17;decide)
   have hap:rws cI b.sc++[[i6 x39.1]]=rws cI (b.sc++[x39.1]):=by rw [Bn];rfl
   have hF:Fx t8 s10 [] (⟨v9,3,1,rws cI (b.sc++[x39.1])⟩ :: ⟨.ref b1 ls.length cap,75,3,ls⟩ :: (A++C)):=by rw [← hap];exact hF
   try simp only [go_sem,↓reduceIte,ZA,ZC,ZD,ZB,ZE,ZF,Kl,q,tT,hF.f,hF.m,hF.x hX,hai]
   refine Ty hF 1 (o:=1) (i:=i) [.str b.name,v9,i6 b.id] rfl rfl q1 (CO hfr9.cell) rfl (by decide) (by simp [Hx]) rfl fun ss5 hF=>?_;have hF:Fx t8 ss5 [] (⟨v9,3,1,rws cI (b.sc++[x39.1])⟩ :: ⟨.ref b1 ls.length cap,75,3,ls.set i [.str b.name,v9,i6 b.id]⟩ :: (A++C)):=hF;have hF:=hF.perm (pm _ _).symm;refine go ?_;have e:=pur H;subst e;have hL2:=q4 _ _ _ (Qa4 (n:=b.name) (sc:=b.sc++[x39.1]) (id:=b.id) hfr9)
   have hset:rws K0 (out.set i ⟨b.name,b.sc++[x39.1],b.id⟩)=(rws K0 out).set i (K0 ⟨b.name,b.sc++[x39.1],b.id⟩):=by simp [rws,KF]
   rw [← hset] at hL2;exact rg _ ⟨_,rfl,hX,K4 _⟩ (hw:=hwk hL2 hF)
  ·have hld:=Oe (ag:=false) (k:=1) (o:=1) (v:=vs) hF 0 (show i * 3+1=i * 3+1 from rfl) rfl q1 (by decide) (by have:=hfr.cell;cases hfr<;>rfl)
   try simp only [go_sem,↓reduceIte,ZA,ZC,ZD,ZB,ZE,ZF,Kl,q,tT,hF.f,hF.m,hF.x hX,hai,hld,Qu]
   refine cx (Y3 [0,1,98] x18.2 _ hx39 e0 _ (pre 0 1 0 hF hX)) ?_;rintro _ ss4 ⟨t7,rfl,hT,hG⟩;refine W7 (K9 hT hG (by intro p hp;simp only [Kj,KE,or_false] at hp;rcases hp with rfl;rw [hEq];exact Zd (by simp))) fun _=>?_;obtain ⟨t8,hX,hF⟩:=aft 0 1 0 hF hX hT hG
   have hF:Fx t8 ss4 [] (⟨.ref b1 ls.length cap,75,3,ls⟩ :: (A++([⟨vs,3,1,rws cI b.sc⟩]++C))):=by simpa using hF
   try simp only [go_sem,↓reduceIte,ZA,ZC,ZD,ZB,ZE,ZF,Kl,q,tT,hF.f,hF.m,hF.x hX,hai]
   have pm:∀(o m:Ib),(o :: (A++([m]++C))).Perm (m :: o :: (A++C)):=fun o m=>(List.Perm.cons o (List.perm_middle (l₁:=A) (l₂:=C) (a:=m))).trans (List.Perm.swap _ _ _);have hF:=hF.perm (pm _ _);obtain ⟨rfl,hb2⟩:=A4 hsc;refine Qbk (by_:=8) hF 0 (ys:=[[i6 x39.1]]) rfl (by decide) (by decide) (RdL.sl _ _ _ _ (fun r hr=>by rw [ZG.1 hr];rfl)) (by simpa [rws] using hb2) fun v9 s10 hF=>?_;have hfr9:Fr v9:=Fr.of hF (KD ..) (by show (1:Nat)≠17;decide)
   have hap:rws cI b.sc++[[i6 x39.1]]=rws cI (b.sc++[x39.1]):=by rw [Bn];rfl
   have hF:Fx t8 s10 [] (⟨v9,3,1,rws cI (b.sc++[x39.1])⟩ :: ⟨.ref b1 ls.length cap,75,3,ls⟩ :: (A++C)):=by rw [← hap];exact hF
   try simp only [go_sem,↓reduceIte,ZA,ZC,ZD,ZB,ZE,ZF,Kl,q,tT,hF.f,hF.m,hF.x hX,hai]
   refine Ty hF 1 (o:=1) (i:=i) [.str b.name,v9,i6 b.id] rfl rfl q1 (CO hfr9.cell) rfl (by decide) (by simp [Hx]) rfl fun ss5 hF=>?_;have hF:Fx t8 ss5 [] (⟨v9,3,1,rws cI (b.sc++[x39.1])⟩ :: ⟨.ref b1 ls.length cap,75,3,ls.set i [.str b.name,v9,i6 b.id]⟩ :: (A++C)):=hF;have hF:=hF.perm (pm _ _).symm;refine go ?_;have e:=pur H;subst e;have hL2:=q4 _ _ _ (Qa4 (n:=b.name) (sc:=b.sc++[x39.1]) (id:=b.id) hfr9)
   have hset:rws K0 (out.set i ⟨b.name,b.sc++[x39.1],b.id⟩)=(rws K0 out).set i (K0 ⟨b.name,b.sc++[x39.1],b.id⟩):=by simp [rws,KF]
   rw [← hset] at hL2;exact rg _ ⟨_,rfl,hX,K4 _⟩ (hw:=hwk hL2 hF)
 refine go ?_;refine cdp H (fun h H=>?_) (fun h H=>?_)
 ·refine go ?_;obtain ⟨b,hb,H⟩:=bnd H;obtain ⟨i0,i1,i2⟩:=Lr hb;obtain ⟨i,hi⟩:∃i:Nat,x16.1=(i:Int):=⟨x16.1.toNat,by omega⟩
  have hp:(rws K0 out)[i]?=some b.cells:=by
   rw [hi,Kl] at i2;simp [rws,i2]
  obtain ⟨lrow,A,B,C,q1,q2,q3,q4⟩:=hL.at i _ hp;obtain ⟨vs,hfr,rfl,rfl⟩:=Md q3;obtain ⟨b1,cap,hv⟩:=hF.Qsj 0 rfl (show i < ls.length by omega);subst hv;have hai:=fun σ=>RX (σ:=σ) (e:=75) (sz:=3) (by_:=48) (b:=b1) (n:=ls.length) (c:=cap) (k:=.i64) (i:=i) (by omega);obtain ⟨z,hz,H⟩:=bnd H;obtain ⟨rfl,hb2⟩:=A4 hz;have hld:=Oe (ag:=true) (k:=3) (o:=0) (v:=.agg [.str b.name,vs,i6 b.id]) hF 0 (show i * 3=i * 3+0 from rfl) rfl q1 (by decide) rfl
  try simp only [hi]
  try simp only [go_sem,↓reduceIte,ZA,ZC,ZD,ZB,ZE,ZF,Kl,q,tT,hF.f,hF.m,hF.x hX,hai,hld,Qu]
  refine Qgx (by_:=48) hF 0 (ys:=[[.str b.name,vs,i6 b.id]]) rfl (by decide) (by decide) (RdL.sl _ _ _ _ (fun r hr=>by rw [ZG.1 hr];rfl)) (by simpa [hlen] using hb2) fun v9 s10 hF=>?_;refine go ?_;have e:=pur H;subst e;have hL2:=hL.snoc q3;rw [show rws K0 out++[b.cells]=rws K0 (out++[b]) by rw [Bn];rfl] at hL2
  exact rg _ ⟨_,rfl,hX,K4 _⟩ (hw:=hL2.wk (e:=75) hF.sub (fun _ h=>h) (Ql2.of hF fun m hm=>by
   rcases Kj.1 hm with rfl | hm
   ·exact KD ..
   ·refine List.mem_cons_of_mem _ ?_
    rcases List.mem_append.1 hm with hm | hm
    ·exact hm
    ·rw [q2];simp [ZG.1 hm]))
 ·refine go ?_;have e:=pur H;subst e;exact rg _ ⟨_,rfl,hX,K4 _⟩ (hw:=hwk hL hF)
theorem NO:∀(a0:List Int) r,Be a0=some r->VK KZ 43 [sf cU a0] (.agg (K8 r)):=by
 intro a0 r H;intro σ;unfold Be at H;refine hdg mixed Tryz.func43 (rs:=[.cell 2 42]) fun q tT=>?_;have hF:=K2 σ;have hX:=Tau.none σ;refine go ?_;refine Ya hF rfl fun b1 ss2 hF=>?_;refine go ?_;refine bp H (Rr a0) fun x10 h H=>cl h ?_;refine go ?_;refine Ya hF rfl fun b3 ss4 hF=>?_;refine go ?_;refine st hF 0 rfl fun ss5 hF=>?_;refine go ?_;obtain ⟨x15,hx15,H⟩:=bnd H;refine cx (Ci x10.1 20 _ hx15   _ (pre 0 0 0 hF hX)) ?_;rintro _ s8 ⟨t9,v6,v7,rfl,hT,hG⟩;have hF:=DL 0 0 hF hX hT hG;refine go ?_;refine Ya hF rfl fun b11 s12 hF=>?_;refine go ?_;refine st hF 0 rfl fun s13 hF=>?_;refine go ?_;obtain ⟨⟨Ad,Bg,Ae,CZ,L4⟩,j15,H⟩:=bnd H;refine Wq (fun s'=>∃(T:TT) (ss1:Sto) (y14v0 y14v1:AV),s'=⟨T,ss1⟩/\(T 0=sf cU a0/\T 2=.ptr b1 0/\T 5=.ptr b11 0)/\Fx σ ss1 [(b11,⟨42,5,[y14v1,y14v0,i6 Ad,i6 Bg,i6 Ae]⟩),(b3,⟨26,5,[i6 x10.1.kind,.str x10.1.name,i6 x10.1.num,sf cI x10.1.sc,sf KY x10.1.kids]⟩),(b1,⟨42,5,[.Yd,.Yd,i6 0,i6 0,i6 0]⟩)] [⟨y14v1,75,3,rws K0 L4⟩,⟨y14v0,49,3,rws Zc CZ⟩]) (cdn j15 (fun h j15=>?_) (fun h j15=>?_)) ?_
 ·refine go ?_;obtain ⟨x20,hx20,j15⟩:=bnd j15;refine cx (Cj  _ hx20   _ (pre 0 0 0 hF hX)) ?_;rintro _ s18 ⟨t19,v16,v17,rfl,hT,hG⟩;have hF:=DL 0 0 hF hX hT hG;refine go ?_;refine st hF 0 rfl fun s21 hF=>?_;have hF:=pck hF [0,1,2] [2,1,0,3];have hF:=pck hF [0,1,2] [0,3,2,1];refine go ?_;have e:=pur j15
  injection e with e0 e
  injection e with e1 e
  injection e with e2 e
  injection e with e3 e
  subst e0;subst e1;subst e2;subst e3;subst e;exact ⟨_,_,v17,v16,rfl,S,(hF.drop 0 2)⟩
 ·refine go ?_;have e:=pur j15
  injection e with e0 e
  injection e with e1 e
  injection e with e2 e
  injection e with e3 e
  subst e0;subst e1;subst e2;subst e3;subst e;exact ⟨_,_,v7,v6,rfl,S,hF⟩
 ·rintro s' ⟨T22,s23,y14v0,y14v1,rfl,tT,hF⟩;refine go ?_;obtain ⟨x22,hx22,H⟩:=bnd H;refine cx (Cm a0 _ hx22   _ (pre 0 0 0 hF hX)) ?_;rintro _ s26 ⟨t27,b25,rfl,hT,hG⟩;have nw29:s23.var b25=none:=(hT.off b25 (by simp)).symm.trans (hG.var _ (KD ..)).2.1;have hF:=DL 0 0 hF hX hT hG;refine go ?_;obtain ⟨x24,hx24,H⟩:=bnd H;refine cx (Yw 20 x22 _ hx24 b25  _ (pre 1 0 0 hF hX)) ?_;rintro _ s30 ⟨t31,rfl,hT,hG⟩;have hF:=DL 1 0 hF hX hT hG;refine go ?_;refine cdp H (fun h H=>?_) (fun h H=>?_)
  ·refine go ?_;obtain ⟨x29,hx29,H⟩:=bnd H;refine cx (Y3 [9,11,1000] x24.2 _ hx29 b25  _ (pre 1 0 0 hF hX)) ?_;rintro _ s33 ⟨t34,rfl,hT,hG⟩;have hF:=DL 1 0 hF hX hT hG;refine go ?_;refine st hF 1 rfl fun s36 hF=>?_;refine go ?_;refine st hF 3 rfl fun s37 hF=>?_;refine go ?_;have e:=pur H;subst e;exact rt _
  ·refine go ?_;refine cdp H (fun h H=>?_) (fun h H=>?_)
   ·refine go ?_;obtain ⟨x37,hx37,H⟩:=bnd H;obtain ⟨s38,hF,hw39,hb40,hz41⟩:=frz hF 0;refine Qav (EP L4 x24.2 _ hx37 b25  _ (pre 1 0 0 hF hX)) (.cons (Wk.sub hb40 _) id (.cons hw39 (fun _=>rfl) .nil)) hb40 ?_;rintro _ s42 ⟨t43,rfl,hT,hG⟩;have hF:=DL 1 0 hF hX hT hG;refine go ?_;obtain ⟨x38,hx38,H⟩:=bnd H;refine cx (EP x37.1 x37.2 _ hx38 b25  _ (pre 1 0 0 hF hX)) ?_;rintro _ s45 ⟨t46,rfl,hT,hG⟩;have hF:=DL 1 0 hF hX hT hG;refine go ?_;refine st hF 1 rfl fun s48 hF=>?_;refine go ?_;refine st hF 3 rfl fun s49 hF=>?_;refine go ?_;have e:=pur H;subst e;exact rt _
   ·refine go ?_;refine cdp H (fun h H=>?_) (fun h H=>?_)
    ·refine go ?_;refine cdp H (fun h H=>?_) (fun h H=>?_)
     ·refine go ?_;obtain ⟨E,hEq⟩:∃E,E=EE s30 [b25]:=⟨_,rfl⟩
      have n50:¬E b11:=by rw [hEq];exact K6 (hF.at 1 rfl) (nm1 (neL hF 1 0 rfl rfl (by decide)))
      have n51:¬E b3:=by rw [hEq];exact K6 (hF.at 2 rfl) (nm1 (neL hF 2 0 rfl rfl (by decide)))
      have n52:¬E b1:=by rw [hEq];exact K6 (hF.at 3 rfl) (nm1 (neL hF 3 0 rfl rfl (by decide)))
      refine Yj E [.v,.v,.v,.v,.x,.v,.v,.z] (by kernel_rfl) ?_;have z:=K3 (X8 (hF.at 1 rfl) n50) (K3 (X8 (hF.at 2 rfl) n51) (X8 (hF.at 3 rfl) n52));refine gh ?_;obtain ⟨x50,hx50,H⟩:=bnd H;refine cx (Y3 [10,11,900] x24.2 _ hx50 b25  _ (pre 1 0 0 hF hX)) ?_;rintro _ s53 ⟨t54,rfl,hT,hG⟩
      refine W7 (K9 hT hG (by intro p hp;simp only [Kj,KE,or_false] at hp<;>first | (rcases hp with rfl<;>(rw [hEq];first | (refine Zd ?_;simp;done) | exact Zm nw29))| cases hp)) fun kp56=>?_
      have hF:=DL 1 0 hF hX hT hG;have z:=K3 (X8 (hF.at 1 rfl) n50) (K3 (X8 (hF.at 2 rfl) n51) (X8 (hF.at 3 rfl) n52));refine gh ?_;obtain ⟨x51,hx51,H⟩:=bnd H;obtain ⟨b57,k58,hv⟩:=hF.ref 1 rfl hx51;subst hv
      try simp only [go_sem,↓reduceIte,ZA,ZC,ZD,ZB,ZE,ZF,Kl,q,tT,hF.f,hF.m,hF.x hX,X8 (hF.at 1 rfl) n50,X8 (hF.at 2 rfl) n51,X8 (hF.at 3 rfl) n52,E2 (l:=CZ) rfl hx51]
      refine UR hF 1 (o:=0) (sz:=3) (k:=1) (v:=(i6 x50.1)) (cs:=[i6 x50.1]) (g:=Zc) (i:=0) (Mac.mk x50.1 x51.lits x51.rules) Mac.X7 (by first | rfl | simp) rfl hx51 rfl rfl (by decide) (by first | rfl | simp [Hx,cI,cU,cS,cL,cB,Mac.Yb]) fun s59 hF=>?_;have hF:Fx σ s59 [(b25,⟨89,2,[sf cU x50.2.b,i6 x50.2.p]⟩),(b11,⟨42,5,[y14v1,.ref b57 CZ.length k58,i6 Ad,i6 Bg,i6 Ae]⟩),(b3,⟨26,5,[i6 x10.1.kind,.str x10.1.name,i6 x10.1.num,sf cI x10.1.sc,sf KY x10.1.kids]⟩),(b1,⟨42,5,[.Yd,.Yd,i6 0,i6 0,i6 0]⟩)] [⟨y14v1,75,3,rws K0 L4⟩,⟨.ref b57 CZ.length k58,49,3,rws Zc (CZ.set (0:Int).toNat (Mac.mk x50.1 x51.lits x51.rules))⟩]:=hF;have z:=K3 (X8 (hF.at 1 rfl) n50) (K3 (X8 (hF.at 2 rfl) n51) (X8 (hF.at 3 rfl) n52));refine gh ?_;refine go ?_;refine st hF 3 rfl fun s60 hF=>?_;refine go ?_;have e:=pur H;subst e;exact rt _
     ·refine go ?_;refine st hF 3 rfl fun s61 hF=>?_;refine go ?_;have e:=pur H;subst e;exact rt _
    ·refine go ?_;refine st hF 3 rfl fun s62 hF=>?_;refine go ?_;have e:=pur H;subst e;exact rt _
theorem Ei:∀(a0:Fm) (x14:List Int) (X9:List Fm) (YA:Int) out,VT a0 x14 X9 YA=some out->∀c,Yg Tryz.f58 0=some c->∀(Q:QT) (tt0:Sto) (b1 b3 b5:Nat),(∀(Vu:List Fm),out=Vu->∀(T:TT) (σ tt:Sto) (e0v0:AV),T 2=.ptr b3 0/\T 3=.ptr b5 0->Tau tt0 [] tt->Fx tt σ [(b5,⟨26,5,[i6 a0.kind,.str a0.name,i6 a0.num,sf cI x14,e0v0]⟩),(b3,⟨26,5,[i6 0,.str zB,i6 0,.Yd,.Yd]⟩),(b1,⟨26,5,[i6 a0.kind,.str a0.name,i6 a0.num,sf cI a0.sc,sf KY a0.kids]⟩)] [⟨e0v0,26,5,rws KY Vu⟩]->Q (.ex 0) ⟨T,σ⟩)->True->∀(T:TT) (σ tt:Sto) (z0v0:AV),T 1=.ptr b1 0/\T 2=.ptr b3 0/\T 3=.ptr b5 0/\T 4=i6 YA->Tau tt0 [] tt->Fx tt σ [(b5,⟨26,5,[i6 a0.kind,.str a0.name,i6 a0.num,sf cI x14,z0v0]⟩),(b3,⟨26,5,[i6 0,.str zB,i6 0,.Yd,.Yd]⟩),(b1,⟨26,5,[i6 a0.kind,.str a0.name,i6 a0.num,sf cI a0.sc,sf KY a0.kids]⟩)] [⟨z0v0,26,5,rws KY X9⟩]->aLp KZ c Q ⟨T,σ⟩:=by
 intro a0 x14 X9 YA;revert X9 YA;refine VT.partial_correctness a0 x14 _ ?_;intro VT IH X9 YA out H c hc Q tt0 b1 b3 b5 hE hR T σ tt z0v0 tT hX hF;refine lpy hc rfl fun q=>go ?_;refine cdp H (fun h H=>?_) (fun h H=>?_)
 ·refine go ?_;refine Yj E0 [.v,.v,.v,.v,.v,.v,.v,.v,.v,.x,.v,.z] (by kernel_rfl) ?_;obtain ⟨x28,f1,H⟩:=bil (g:=KY) Fm.X7 H;refine go1 ?_;refine bp H (We x28) fun x30 h H=>cv h ?_;refine go ?_;refine PD (g:=KY) hF 0 H (rdo (c:=true) (g:=KY) Fm.X7) fun x32 H v8 s9 hF=>?_;refine go ?_;refine st hF 0 (hF.cells 0 rfl) fun s10 hF=>?_;refine go ?_;exact IH  x32 (i64.wrap (YA+1)) _ H _ rfl Q tt0 b1 b3 b5 hE hR _ _ _ v8 S hX hF
 ·refine go ?_;exact wq (hE _ (pur H).symm _ _ _ z0v0 S hX hF)
theorem F0:∀(a0:Fm) r,IC a0=some r->∀   (σ:Sto),Pre σ [] []->Ctr KZ 58 [.agg (KY a0)] σ (fun r' ss'=>∃(tt':Sto) (Qq9:AV),r'=.agg [i6 r.kind,.str r.name,i6 r.num,sf cI r.sc,Qq9]/\Tau (strip σ []) [] tt'/\Fx tt' ss' [] [⟨Qq9,26,5,rws KY r.kids⟩]):=by
 intro a0 r H;intro   σ hP;unfold IC at H;refine hdg mixed Tryz.func58 (rs:=[.cell 2 26]) fun q tT=>?_;obtain ⟨hF,hX⟩:=hP.start;generalize strip σ []=tt0 at hF hX ⊢;refine go ?_;refine Ya hF rfl fun b1 ss2 hF=>?_;refine go ?_;refine Ya hF rfl fun b3 ss4 hF=>?_;refine go ?_;refine Yj E0 [.v,.v,.v,.v,.v,.v,.v,.v,.v,.v,.v,.x,.z] (by kernel_rfl) ?_;refine go ?_;obtain ⟨x14,hx14,H⟩:=bnd H;refine Nh (g:=cI) (xs:=[]) (ys:=a0.sc) (fun _=>rfl) (by decide) (by decide) (.inr (by first | rfl | simp only [Vm,VR,cI,cU,cS,cL])) (.inr ⟨_,by first | rfl | simp only [Vm,VR,cI,cU,cS,cL]⟩) hx14 ?_;refine go ?_;refine Hg hF rfl fun b5 ss6 hF=>?_;refine go ?_;refine st hF 0 rfl fun s7 hF=>?_;have hF:=hF.nil 26 5;refine go ?_;obtain ⟨o11,ho11,H⟩:=bnd H;refine Ei a0 x14 [] 0 _ ho11 _ rfl _ tt0 b1 b3 b5 ?_ ?_ _ _ _ .Yd S hX hF
 ·intro M7 he T13 s14 t15 e12v0 tT hX hF;have he:=he.symm;subst he;refine go ?_;refine st hF 1 rfl fun s16 hF=>?_;refine go ?_;have e:=pur H;subst e;exact rg _ ⟨_,_,rfl,hX,hF.pick [] [0] (by decide) (by decide)⟩
 ·trivial
theorem EM:∀(a1:Fm) (c0:Rdr) r,Ho a1 c0=some r->∀(e0:Nat)  (σ:Sto),Pre σ [(e0,⟨89,2,[sf cU c0.b,i6 c0.p]⟩)] []->Ctr KZ 21 [.ptr e0 0,.agg (KY a1)] σ (fun r' ss'=>∃(tt':Sto),r'=.agg (KY r.1)/\Tau (strip σ []) [(e0,⟨89,2,[sf cU r.2.b,i6 r.2.p]⟩)] tt'/\Fx tt' ss' [] []):=by
 refine Ho.partial_correctness _ (motive_2:=fun a1 x9 IP X9 Ym VV Bx out=>∀c,Yg Tryz.f21 0=some c->∀(Q:QT) (tt0:Sto) (e0 b1 b3 b9:Nat),(∀(Vu:List Fm) (Ca:List Int) (On:Int),out=(Vu,Ca,On)->∀(T:TT) (σ tt:Sto) (e0v0:AV),T 4=.ptr b3 0/\T 5=.ptr b9 0->Tau tt0 [(e0,⟨89,2,[sf cU Ca,i6 On]⟩)] tt->Fx tt σ [(b9,⟨26,5,[i6 x9.kind,.str x9.name,i6 x9.num,sf cI IP,e0v0]⟩),(b3,⟨26,5,[i6 0,.str zB,i6 0,.Yd,.Yd]⟩),(b1,⟨26,5,[i6 a1.kind,.str a1.name,i6 a1.num,sf cI a1.sc,sf KY a1.kids]⟩)] [⟨e0v0,26,5,rws KY Vu⟩]->Q (.ex 0) ⟨T,σ⟩)->True->∀(T:TT) (σ tt:Sto) (z0v0:AV),T 0=.ptr e0 0/\T 4=.ptr b3 0/\T 5=.ptr b9 0/\T 7=i6 Ym->Tau tt0 [(e0,⟨89,2,[sf cU VV,i6 Bx]⟩)] tt->Fx tt σ [(b9,⟨26,5,[i6 x9.kind,.str x9.name,i6 x9.num,sf cI IP,z0v0]⟩),(b3,⟨26,5,[i6 0,.str zB,i6 0,.Yd,.Yd]⟩),(b1,⟨26,5,[i6 a1.kind,.str a1.name,i6 a1.num,sf cI a1.sc,sf KY a1.kids]⟩)] [⟨z0v0,26,5,rws KY X9⟩]->aLp KZ c Q ⟨T,σ⟩) ?_ ?_
 ·intro JR L0 a1 c0 r H;intro e0  σ hP;refine hdg mixed Tryz.func21 (rs:=[.cell 4 26]) fun q tT=>?_;obtain ⟨hF,hX⟩:=hP.start;generalize strip σ []=tt0 at hF hX ⊢;refine go ?_;refine Ya hF rfl fun b1 ss2 hF=>?_;refine go ?_;refine Ya hF rfl fun b3 ss4 hF=>?_;refine go ?_;obtain ⟨x9,hx9,H⟩:=bnd H;refine cx (F0 a1 _ hx9   _ (pre 0 0 0 hF hX)) ?_;rintro _ ss6 ⟨t7,v5,rfl,hT,hG⟩;obtain ⟨t8,hX,hF⟩:=aft 0 0 0 hF hX hT hG;refine go ?_;refine Ya hF rfl fun b9 s10 hF=>?_;refine go ?_;refine st hF 0 rfl fun s11 hF=>?_;refine go ?_;obtain ⟨⟨IP,N3,N4⟩,j13,H⟩:=bnd H;refine Wq (fun s'=>∃(T:TT) (ss1 tt1:Sto),s'=⟨T,ss1⟩/\(T 0=.ptr e0 0/\T 4=.ptr b3 0/\T 5=.ptr b9 0)/\Tau tt0 [(e0,⟨89,2,[sf cU N3,i6 N4]⟩)] tt1/\Fx tt1 ss1 [(b9,⟨26,5,[i6 x9.kind,.str x9.name,i6 x9.num,sf cI IP,v5]⟩),(b3,⟨26,5,[i6 0,.str zB,i6 0,.Yd,.Yd]⟩),(b1,⟨26,5,[i6 a1.kind,.str a1.name,i6 a1.num,sf cI a1.sc,sf KY a1.kids]⟩)] [⟨v5,26,5,rws KY x9.kids⟩]) (cdp j13 (fun h j13=>?_) (fun h j13=>?_)) ?_
  ·refine go ?_;obtain ⟨x26,hx26,j13⟩:=bnd j13;refine cx (Yw 7 c0 _ hx26 e0  _ (pre 0 1 0 hF hX)) ?_;rintro _ s14 ⟨t15,rfl,hT,hG⟩;obtain ⟨t16,hX,hF⟩:=aft 0 1 0 hF hX hT hG;obtain ⟨x27,f1,j13⟩:=bll (g:=cI) [[.sl true []],[.sl true [[i6 1]]],[.sl true [[i6 2]]],[.sl true [[i6 1],[i6 2]]],[.sl true [[i6 1],[i6 3]]],[.sl true [[i6 1],[i6 2],[i6 3]]],[.sl true [[i6 99]]]] rfl j13;refine go1 ?_;refine apv (g:=cI) j13 (fun _=>rfl) (rdo (c:=true) (g:=cI) (fun _=>rfl)) fun x29 j13=>?_;refine go ?_;refine st hF 0 rfl fun s17 hF=>?_;refine go ?_;have e:=pur j13
   injection e with e0 e
   injection e with e1 e
   subst e0;subst e1;subst e;exact ⟨_,_,_,rfl,S,hX,hF⟩
  ·refine go ?_;have e:=pur j13
   injection e with e0 e
   injection e with e1 e
   subst e0;subst e1;subst e;exact ⟨_,_,_,rfl,S,hX,hF⟩
  ·rintro s' ⟨T18,s19,t20,rfl,tT,hX,hF⟩;refine go ?_;obtain ⟨o31,ho31,H⟩:=bnd H;refine L0 a1 x9 IP x9.kids 0 N3 N4 _ ho31 _ rfl _ tt0 e0 b1 b3 b9 ?_ ?_ _ _ _ v5 S hX hF
   ·intro Tt Qbe Qbf he T33 s34 t35 e32v0 tT hX hF;have he:=he.symm;subst he
    try dsimp only at H
    refine go ?_;refine st hF 1 rfl fun s36 hF=>?_;refine go ?_;have e:=pur H;subst e;exact rg _ ⟨_,rfl,hX,K4 _⟩
   ·trivial
 ·intro Ho JR C0 L0 a1 x9 IP X9 Ym VV Bx out H c hc Q tt0 e0 b1 b3 b9 hE hR T σ tt z0v0 tT hX hF;refine lpy hc rfl fun q=>go ?_;refine cdp H (fun h H=>?_) (fun h H=>?_)
  ·refine go ?_;obtain ⟨E,hEq⟩:∃E,E=EE σ [e0]:=⟨_,rfl⟩
   have n21:¬E b9:=by rw [hEq];exact K6 (hF.at 0 rfl) (nm1 (neX hF 0 rfl hX 0 rfl))
   have n22:¬E b3:=by rw [hEq];exact K6 (hF.at 1 rfl) (nm1 (neX hF 1 rfl hX 0 rfl))
   have n23:¬E b1:=by rw [hEq];exact K6 (hF.at 2 rfl) (nm1 (neX hF 2 rfl hX 0 rfl))
   refine Yj E [.v,.v,.v,.v,.v,.v,.v,.v,.x,.x,.v,.z] (by kernel_rfl) ?_;have z:=K3 (X8 (hF.at 0 rfl) n21) (K3 (X8 (hF.at 1 rfl) n22) (X8 (hF.at 2 rfl) n23));refine gh ?_;obtain ⟨x45,hx45,H⟩:=bnd H;obtain ⟨b24,k25,hv⟩:=hF.ref 0 rfl hx45;subst hv
   try simp only [go_sem,↓reduceIte,ZA,ZC,ZD,ZB,ZE,ZF,Kl,q,tT,hF.f,hF.m,hF.x hX,X8 (hF.at 0 rfl) n21,X8 (hF.at 1 rfl) n22,X8 (hF.at 2 rfl) n23,E2 (l:=X9) rfl hx45,S6 hF 0 (p:=Ym.toNat * 5) (sz:=5) (ag:=true) (k:=5) (o:=0) (g:=KY) (x:=x45) (i:=Ym) (v:=(.agg [i6 x45.kind,.str x45.name,i6 x45.num,sf cI x45.sc,sf KY x45.kids])) (by first | rfl | simp) Fm.X7 rfl hx45 (by decide) (by first | rfl | (simp only [sf,i6,zB,cI,cU,cS,cL,cB,Fm.Yb];rfl))]
   obtain ⟨x47,hx47,H⟩:=bnd H;refine cx (C0 x45 (Rdr.mk VV Bx) _ hx47 e0  _ (pre 0 1 0 hF hX)) ?_;rintro _ s26 ⟨t27,rfl,hT,hG⟩
   refine W7 (K9 hT hG (by intro p hp;simp only [Kj,KE,or_false] at hp<;>first | (rcases hp with rfl<;>(rw [hEq];first | (refine Zd ?_;simp;done) | exact Zm rfl))| cases hp)) fun kp29=>?_
   obtain ⟨t28,hX,hF⟩:=aft 0 1 0 hF hX hT hG;obtain ⟨x48,hx48,H⟩:=bnd H
   try simp only [go_sem,↓reduceIte,ZA,ZC,ZD,ZB,ZE,ZF,Kl,q,tT,hF.f,hF.m,hF.x hX,X8 (hF.at 0 rfl) n21,X8 (hF.at 1 rfl) n22,X8 (hF.at 2 rfl) n23,E2 (l:=X9) ((Nb hF 0 rfl).1.trans (Jo _)) hx48]
   refine UR hF 0 (o:=0) (sz:=5) (k:=5) (v:=(.agg [i6 x47.1.kind,.str x47.1.name,i6 x47.1.num,sf cI x47.1.sc,sf KY x47.1.kids])) (cs:=[i6 x47.1.kind,.str x47.1.name,i6 x47.1.num,sf cI x47.1.sc,sf KY x47.1.kids]) (g:=KY) (i:=Ym) x47.1 Fm.X7 (by first | rfl | simp) rfl hx48 rfl rfl (by decide) (by first | rfl | simp [Hx,cI,cU,cS,cL,cB,Fm.Yb]) fun s30 hF=>?_;have hF:Fx t28 s30 [(b9,⟨26,5,[i6 x9.kind,.str x9.name,i6 x9.num,sf cI IP,.ref b24 X9.length k25]⟩),(b3,⟨26,5,[i6 0,.str zB,i6 0,.Yd,.Yd]⟩),(b1,⟨26,5,[i6 a1.kind,.str a1.name,i6 a1.num,sf cI a1.sc,sf KY a1.kids]⟩)] [⟨.ref b24 X9.length k25,26,5,rws KY (X9.set Ym.toNat x47.1)⟩]:=hF;have z:=K3 (X8 (hF.at 0 rfl) n21) (K3 (X8 (hF.at 1 rfl) n22) (X8 (hF.at 2 rfl) n23));refine gh ?_;refine go ?_;exact L0 a1 x9 IP (X9.set Ym.toNat x47.1) (i64.wrap (Ym+1)) x47.2.b x47.2.p _ H _ rfl Q tt0 e0 b1 b3 b9 hE hR _ _ _ (.ref b24 X9.length k25) S hX hF
  ·refine go ?_;exact wq (hE _ _ _ (pur H).symm _ _ _ z0v0 S hX hF)
theorem EH:∀(a0:List Int) r,Hn a0=some r->VK KZ 16 [sf cU a0] (.tup [.agg (K8 r.1),.agg (KY r.2)]):=by
 intro a0 r H;intro σ;unfold Hn at H;refine hdg mixed Tryz.func16 (rs:=[.cell 2 42,.cell 3 26]) fun q tT=>?_;have hF:=K2 σ;have hX:=Tau.none σ;refine go ?_;refine Ya hF rfl fun b1 ss2 hF=>?_;refine go ?_;refine Ya hF rfl fun b3 ss4 hF=>?_;refine go ?_;refine bp H (NO a0) fun x8 h H=>cl h ?_;refine go ?_;refine Ya hF rfl fun b5 ss6 hF=>?_;refine go ?_;refine st hF 0 rfl fun s7 hF=>?_;refine go ?_;obtain ⟨x10,hx10,H⟩:=bnd H;refine cx (Cm a0 _ hx10   _ (pre 0 0 0 hF hX)) ?_;rintro _ s9 ⟨t10,b8,rfl,hT,hG⟩;have nw12:s7.var b8=none:=(hT.off b8 (by simp)).symm.trans (hG.var _ (KD ..)).2.1;have hF:=DL 0 0 hF hX hT hG;refine go ?_;refine gi q (fun q=>?_) (fun q=>?_)
 ·rw [if_pos (dt q)] at H;refine go ?_;obtain ⟨Qan,hx17_1,H⟩:=bnd H;refine cx (Yw 3 x10 _ hx17_1 b8  _ (pre 1 0 0 hF hX)) ?_;rintro _ s18 ⟨t19,rfl,hT,hG⟩;have hF:=DL 1 0 hF hX hT hG;refine go ?_;refine cdp H (fun h H=>?_) (fun h H=>?_)
  ·refine go ?_;obtain ⟨E,hEq⟩:∃E,E=EE s18 [b8]:=⟨_,rfl⟩
   have n21:¬E b5:=by rw [hEq];exact K6 (hF.at 1 rfl) (nm1 (neL hF 1 0 rfl rfl (by decide)))
   have n22:¬E b3:=by rw [hEq];exact K6 (hF.at 2 rfl) (nm1 (neL hF 2 0 rfl rfl (by decide)))
   have n23:¬E b1:=by rw [hEq];exact K6 (hF.at 3 rfl) (nm1 (neL hF 3 0 rfl rfl (by decide)))
   refine Sb E [.v,.v,.v,.v,.v,.v] [0,1,2,3,4,5] 6 9 [.v,.v] [7,8] [.z] [10] (by kernel_rfl) ?_;have z:=K3 (X8 (hF.at 1 rfl) n21) (K3 (X8 (hF.at 2 rfl) n22) (X8 (hF.at 3 rfl) n23));refine gh ?_;refine ⟨?_,?_⟩
   ·have z:=K3 (X8 (hF.at 1 rfl) n21) (K3 (X8 (hF.at 2 rfl) n22) (X8 (hF.at 3 rfl) n23));refine gh ?_;obtain ⟨x26,hx26,H⟩:=bnd H;refine cx (Yw (x8.binds.length:Int) Qan.2 _ hx26 b8  _ (pre 1 0 0 hF hX)) ?_;rintro _ s24 ⟨t25,rfl,hT,hG⟩
    refine W7 (K9 hT hG (by intro p hp;simp only [Kj,KE,or_false] at hp<;>first | (rcases hp with rfl<;>(rw [hEq];first | (refine Zd ?_;simp;done) | exact Zm nw12))| cases hp)) fun kp27=>?_
    have hF:=DL 1 0 hF hX hT hG;obtain ⟨x27,f1,H⟩:=bil (g:=K0) Bnd.X7 H;have z:=K3 (X8 (hF.at 1 rfl) n21) (K3 (X8 (hF.at 2 rfl) n22) (X8 (hF.at 3 rfl) n23));refine gh1 ?_;refine A0 hF rfl fun b28 s29 nw30 mo31 hF=>?_;have z:=K3 (X8 (hF.at 2 rfl) n21) (K3 (X8 (hF.at 3 rfl) n22) (X8 (hF.at 4 rfl) n23));refine gh ?_;refine st hF 0 rfl fun s32 hF=>?_;have z:=K3 (X8 (hF.at 2 rfl) n21) (K3 (X8 (hF.at 3 rfl) n22) (X8 (hF.at 4 rfl) n23));refine gh ?_;refine go ?_;obtain ⟨E,hEq⟩:∃E,E=EE s32 [b1]:=⟨_,rfl⟩
    have n33:¬E b28:=by rw [hEq];exact K6 (hF.at 0 rfl) (nm1 (neL hF 0 4 rfl rfl (by decide)))
    have n34:¬E b8:=by rw [hEq];exact K6 (hF.at 1 rfl) (nm1 (neL hF 1 4 rfl rfl (by decide)))
    have n35:¬E b5:=by rw [hEq];exact K6 (hF.at 2 rfl) (nm1 (neL hF 2 4 rfl rfl (by decide)))
    have n36:¬E b3:=by rw [hEq];exact K6 (hF.at 3 rfl) (nm1 (neL hF 3 4 rfl rfl (by decide)))
    refine Yj E [.v,.v,.v,.v,.v,.v,.v,.v,.x,.z] (by kernel_rfl) ?_;have z:=K3 (X8 (hF.at 0 rfl) n33) (K3 (X8 (hF.at 1 rfl) n34) (K3 (X8 (hF.at 2 rfl) n35) (X8 (hF.at 3 rfl) n36)));refine gh ?_;obtain ⟨x35,hx35,H⟩:=bnd H;refine Nh (g:=cI) (xs:=[]) (ys:=x27.sc) (fun _=>rfl) (by decide) (by decide) (.inr (by first | rfl | simp only [Vm,VR,cI,cU,cS,cL])) (.inr ⟨_,by first | rfl | simp only [Vm,VR,cI,cU,cS,cL]⟩) hx35 ?_;have z:=K3 (X8 (hF.at 0 rfl) n33) (K3 (X8 (hF.at 1 rfl) n34) (K3 (X8 (hF.at 2 rfl) n35) (X8 (hF.at 3 rfl) n36)));refine gh ?_;refine stK hF 4 (by rw [hEq];exact Zd (by simp)) rfl fun s37 hF=>?_;have z:=K3 (X8 (hF.at 0 rfl) n33) (K3 (X8 (hF.at 1 rfl) n34) (K3 (X8 (hF.at 2 rfl) n35) (X8 (hF.at 3 rfl) n36)));refine gh ?_;refine st hF 3 rfl fun s38 hF=>?_;have z:=K3 (X8 (hF.at 0 rfl) n33) (K3 (X8 (hF.at 1 rfl) n34) (K3 (X8 (hF.at 2 rfl) n35) (X8 (hF.at 3 rfl) n36)));refine gh ?_;refine go ?_;have e:=pur H;subst e;exact rt [.agg [sf K0 x8.binds,sf Zc x8.macs,i6 x8.scope,i6 x8.id,i6 x8.steps],.agg [i6 1,.str x27.name,i6 0,sf cI x35,.Yd]]
   ·have z:=K3 (X8 (hF.at 1 rfl) n21) (K3 (X8 (hF.at 2 rfl) n22) (X8 (hF.at 3 rfl) n23));refine gh ?_;refine A0 hF rfl fun b39 s40 nw41 mo42 hF=>?_;have z:=K3 (X8 (hF.at 2 rfl) n21) (K3 (X8 (hF.at 3 rfl) n22) (X8 (hF.at 4 rfl) n23));refine gh ?_;have hF:=pck hF [1,0,2,3,4] [];obtain ⟨x26,hx26,H⟩:=bnd H;refine cx (Yw (x8.binds.length:Int) Qan.2 _ hx26 b8  _ (pre 1 0 0 hF hX)) ?_;rintro _ s43 ⟨t44,rfl,hT,hG⟩
    refine W7 (K9 hT hG (by intro p hp;simp only [Kj,KE,or_false] at hp<;>first | (rcases hp with rfl<;>(rw [hEq];first | (refine Zd ?_;simp;done) | exact Zm nw12))| cases hp)) fun kp46=>?_
    have hF:=DL 1 0 hF hX hT hG;have hF:=pck hF [1,0,2,3,4] [];obtain ⟨x27,f1,H⟩:=bil (g:=K0) Bnd.X7 H;have z:=K3 (X8 (hF.at 2 rfl) n21) (K3 (X8 (hF.at 3 rfl) n22) (X8 (hF.at 4 rfl) n23));refine gh1 ?_;refine st hF 0 rfl fun s47 hF=>?_;have z:=K3 (X8 (hF.at 2 rfl) n21) (K3 (X8 (hF.at 3 rfl) n22) (X8 (hF.at 4 rfl) n23));refine gh ?_;refine go ?_;obtain ⟨E,hEq⟩:∃E,E=EE s47 [b1]:=⟨_,rfl⟩
    have n48:¬E b39:=by rw [hEq];exact K6 (hF.at 0 rfl) (nm1 (neL hF 0 4 rfl rfl (by decide)))
    have n49:¬E b8:=by rw [hEq];exact K6 (hF.at 1 rfl) (nm1 (neL hF 1 4 rfl rfl (by decide)))
    have n50:¬E b5:=by rw [hEq];exact K6 (hF.at 2 rfl) (nm1 (neL hF 2 4 rfl rfl (by decide)))
    have n51:¬E b3:=by rw [hEq];exact K6 (hF.at 3 rfl) (nm1 (neL hF 3 4 rfl rfl (by decide)))
    refine Yj E [.v,.v,.v,.v,.v,.v,.v,.v,.x,.z] (by kernel_rfl) ?_;have z:=K3 (X8 (hF.at 0 rfl) n48) (K3 (X8 (hF.at 1 rfl) n49) (K3 (X8 (hF.at 2 rfl) n50) (X8 (hF.at 3 rfl) n51)));refine gh ?_;obtain ⟨x35,hx35,H⟩:=bnd H;refine Nh (g:=cI) (xs:=[]) (ys:=x27.sc) (fun _=>rfl) (by decide) (by decide) (.inr (by first | rfl | simp only [Vm,VR,cI,cU,cS,cL])) (.inr ⟨_,by first | rfl | simp only [Vm,VR,cI,cU,cS,cL]⟩) hx35 ?_;have z:=K3 (X8 (hF.at 0 rfl) n48) (K3 (X8 (hF.at 1 rfl) n49) (K3 (X8 (hF.at 2 rfl) n50) (X8 (hF.at 3 rfl) n51)));refine gh ?_;refine stK hF 4 (by rw [hEq];exact Zd (by simp)) rfl fun s52 hF=>?_;have z:=K3 (X8 (hF.at 0 rfl) n48) (K3 (X8 (hF.at 1 rfl) n49) (K3 (X8 (hF.at 2 rfl) n50) (X8 (hF.at 3 rfl) n51)));refine gh ?_;refine st hF 3 rfl fun s53 hF=>?_;have z:=K3 (X8 (hF.at 0 rfl) n48) (K3 (X8 (hF.at 1 rfl) n49) (K3 (X8 (hF.at 2 rfl) n50) (X8 (hF.at 3 rfl) n51)));refine gh ?_;refine go ?_;have e:=pur H;subst e;exact rt [.agg [sf K0 x8.binds,sf Zc x8.macs,i6 x8.scope,i6 x8.id,i6 x8.steps],.agg [i6 1,.str x27.name,i6 0,sf cI x35,.Yd]]
  ·refine go ?_;obtain ⟨E,hEq⟩:∃E,E=EE s18 [b8,b1]:=⟨_,rfl⟩
   have n54:¬E b5:=by rw [hEq];exact K6 (hF.at 1 rfl) (nm2 ⟨neL hF 1 0 rfl rfl (by decide),neL hF 1 3 rfl rfl (by decide)⟩)
   have n55:¬E b3:=by rw [hEq];exact K6 (hF.at 2 rfl) (nm2 ⟨neL hF 2 0 rfl rfl (by decide),neL hF 2 3 rfl rfl (by decide)⟩)
   refine Yj E [.v,.v,.v,.v,.x,.v,.x,.x,.z] (by kernel_rfl) ?_;have z:=K3 (X8 (hF.at 1 rfl) n54) (X8 (hF.at 2 rfl) n55);refine gh ?_;obtain ⟨x41,hx41,H⟩:=bnd H;refine cx (J7 [(Qk #[120]),(Qk #[105,102]),(Qk #[111,114]),(Qk #[108,105,115,116]),(Qk #[115,119,97,112])] Qan.2 _ hx41 b8  _ (pre 1 0 0 hF hX)) ?_;rintro _ s56 ⟨t57,rfl,hT,hG⟩
   refine W7 (K9 hT hG (by intro p hp;simp only [Kj,KE,or_false] at hp<;>first | (rcases hp with rfl<;>(rw [hEq];first | (refine Zd ?_;simp;done) | exact Zm nw12))| cases hp)) fun kp59=>?_
   have hF:=DL 1 0 hF hX hT hG;have z:=K3 (X8 (hF.at 1 rfl) n54) (X8 (hF.at 2 rfl) n55);refine gh ?_;refine bp H (VQ x41.1) fun x42 h H=>cv h ?_;have z:=K3 (X8 (hF.at 1 rfl) n54) (X8 (hF.at 2 rfl) n55);refine gh ?_;obtain ⟨x43,hx43,H⟩:=bnd H;refine cx (EM x42 x41.2 _ hx43 b8  _ (pre 1 0 0 hF hX)) ?_;rintro _ s60 ⟨t61,rfl,hT,hG⟩
   refine W7 (K9 hT hG (by intro p hp;simp only [Kj,KE,or_false] at hp<;>first | (rcases hp with rfl<;>(rw [hEq];first | (refine Zd ?_;simp;done) | exact Zm nw12))| cases hp)) fun kp63=>?_
   have hF:=DL 1 0 hF hX hT hG;have z:=K3 (X8 (hF.at 1 rfl) n54) (X8 (hF.at 2 rfl) n55);refine gh ?_;refine stK hF 3 (by rw [hEq];exact Zd (by simp)) rfl fun s64 hF=>?_;have z:=K3 (X8 (hF.at 1 rfl) n54) (X8 (hF.at 2 rfl) n55);refine gh ?_;refine st hF 2 rfl fun s65 hF=>?_;have z:=K3 (X8 (hF.at 1 rfl) n54) (X8 (hF.at 2 rfl) n55);refine gh ?_;refine go ?_;have e:=pur H;subst e;exact rt [.agg [sf K0 x8.binds,sf Zc x8.macs,i6 x8.scope,i6 x8.id,i6 x8.steps],.agg [i6 x43.1.kind,.str x43.1.name,i6 x43.1.num,sf cI x43.1.sc,sf KY x43.1.kids]]
 ·rw [if_neg (df q)] at H;refine go ?_;obtain ⟨E,hEq⟩:∃E,E=EE s9 [b8,b1]:=⟨_,rfl⟩
  have n66:¬E b5:=by rw [hEq];exact K6 (hF.at 1 rfl) (nm2 ⟨neL hF 1 0 rfl rfl (by decide),neL hF 1 3 rfl rfl (by decide)⟩)
  have n67:¬E b3:=by rw [hEq];exact K6 (hF.at 2 rfl) (nm2 ⟨neL hF 2 0 rfl rfl (by decide),neL hF 2 3 rfl rfl (by decide)⟩)
  refine Yj E [.v,.v,.v,.v,.x,.v,.x,.x,.z] (by kernel_rfl) ?_;have z:=K3 (X8 (hF.at 1 rfl) n66) (X8 (hF.at 2 rfl) n67);refine gh ?_;obtain ⟨Rz,hx41_1,H⟩:=bnd H;refine cx (J7 [(Qk #[120]),(Qk #[105,102]),(Qk #[111,114]),(Qk #[108,105,115,116]),(Qk #[115,119,97,112])] x10 _ hx41_1 b8  _ (pre 1 0 0 hF hX)) ?_;rintro _ s68 ⟨t69,rfl,hT,hG⟩
  refine W7 (K9 hT hG (by intro p hp;simp only [Kj,KE,or_false] at hp<;>first | (rcases hp with rfl<;>(rw [hEq];first | (refine Zd ?_;simp;done) | exact Zm nw12))| cases hp)) fun kp71=>?_
  have hF:=DL 1 0 hF hX hT hG;have z:=K3 (X8 (hF.at 1 rfl) n66) (X8 (hF.at 2 rfl) n67);refine gh ?_;obtain ⟨Qou,hx42_1,H⟩:=bnd H;refine cv (VQ Rz.1 _ hx42_1) ?_;have z:=K3 (X8 (hF.at 1 rfl) n66) (X8 (hF.at 2 rfl) n67);refine gh ?_;obtain ⟨Qaq,hx43_1,H⟩:=bnd H;refine cx (EM Qou Rz.2 _ hx43_1 b8  _ (pre 1 0 0 hF hX)) ?_;rintro _ s72 ⟨t73,rfl,hT,hG⟩
  refine W7 (K9 hT hG (by intro p hp;simp only [Kj,KE,or_false] at hp<;>first | (rcases hp with rfl<;>(rw [hEq];first | (refine Zd ?_;simp;done) | exact Zm nw12))| cases hp)) fun kp75=>?_
  have hF:=DL 1 0 hF hX hT hG;have z:=K3 (X8 (hF.at 1 rfl) n66) (X8 (hF.at 2 rfl) n67);refine gh ?_;refine stK hF 3 (by rw [hEq];exact Zd (by simp)) rfl fun s76 hF=>?_;have z:=K3 (X8 (hF.at 1 rfl) n66) (X8 (hF.at 2 rfl) n67);refine gh ?_;refine st hF 2 rfl fun s77 hF=>?_;have z:=K3 (X8 (hF.at 1 rfl) n66) (X8 (hF.at 2 rfl) n67);refine gh ?_;refine go ?_;have e:=pur H;subst e;exact rt [.agg [sf K0 x8.binds,sf Zc x8.macs,i6 x8.scope,i6 x8.id,i6 x8.steps],.agg [i6 Qaq.1.kind,.str Qaq.1.name,i6 Qaq.1.num,sf cI Qaq.1.sc,sf KY Qaq.1.kids]]
set_option maxHeartbeats 1000000 in
set_option maxRecDepth 100000 in
theorem Qng (s:ByteArray) (c:Int) (w:World) :
  Calls KZ 133 #[.string s,.int .u8 c] w fun e w'=>e=.returned (Value.int .i64 (Lib.indexByte s.data.toList c.toNat.toUInt8))/\w'=w:=by
 go_enter Tryz.func133,Tryz.ntmps133
 go_wp2
 rw [run_callFunc_extern Tryz.func158 (by kernel_rfl) (by kernel_rfl) (by kernel_rfl) (e:=Extern.BytealgIndexByte.indexByte) (by kernel_rfl),Lib.run_indexByteString];simp only [Result.andThen];rw [Oper.upon_value]
 go_wp2
 go_ret
 exact ⟨rfl,rfl⟩
set_option maxHeartbeats 1000000 in
theorem Qqe (s:ByteArray) (c:Int) (w:World) :
  Calls KZ 96 #[.string s,.int .u8 c] w fun e w'=>e=.returned (Value.int .i64 (Lib.indexByte s.data.toList c.toNat.toUInt8))/\w'=w:=by
 go_enter Tryz.func96,Tryz.ntmps96
 go_wp2_with (go_at_call 133;refine (Qng _ _ _).mono ?_;rintro e w' ⟨rfl,rfl⟩)
 go_ret
 exact ⟨rfl,rfl⟩
theorem Qqc {P : Program} {f : FuncId} {fn : Func} (hf : P.funcs[f]? = some fn) (hb : fn.body.isNone = false) (hn : (fn.name == "runtime.NumGoroutine") = false) {s : ByteArray} {c r : Int}
  (h:∀w,Calls P f #[.string s,.int .u8 c] w fun e w'=>e=.returned (Value.int .i64 r)/\w'=w):VK P f [.str s,.int .u8 c] (i6 r):=by
 intro σ;refine ⟨⟨fn,hf,hb,hn⟩,fun w cargs hsim htb hl hr=>?_⟩;have h0:=hr 0 _ rfl;have h1:=hr 1 _ rfl
 match cargs,hl with
 | [x,y],_ =>
  simp only [List.getD_cons_zero,List.getD_cons_succ] at h0 h1;cases h0;cases h1;refine (h w).mono ?_;rintro e w' ⟨rfl,rfl⟩;exact ⟨_,_,σ,rfl,Step.refl _ _,hsim,.int,rfl,rfl⟩
theorem Fp:∀(a0:ByteArray) (a1:Int) r,Ac a0 a1=some r->VK KZ 96 [.str a0,.int .u8 a1] (i6 r):=by
 intro a0 a1 r H
 injection H with H
 subst H;exact Qqc Tryz.func96 (by kernel_rfl) (by kernel_rfl) (Qqe a0 a1)
theorem WZ:∀(a0 a1 a2:Int) r,V5 a0 a1 a2=some r->VK KZ 25 [i6 a0,i6 a1,i6 a2] (.bool r):=by
 intro a0 a1 a2 r H;intro σ;unfold V5 at H;refine hdg mixed Tryz.func25 (rs:=[.tmp 6]) fun q tT=>?_;have hF:=K2 σ;have hX:=Tau.none σ;refine go ?_;obtain ⟨x14,g1,H⟩:=bnd H;refine Yc 3 11 14 (.bool x14) (gi q (fun q=>?_) (fun q=>?_)) (fun J=>?_)
 ·refine go ?_;exact Yr 11 g1
 ·refine go ?_;exact Yr 11 g1
 refine go ?_;have e:=pur H;subst e;exact rt _
theorem Fe:∀(a0:ByteArray) (YB:Int) out,V0 a0 YB=some out->∀c,Yg Tryz.f67 0=some c->∀(Q:QT) (tt:Sto),(∀(_u:Unit),out=Sum.inr ()->∀(T:TT) (σ:Sto),T 0=.str a0->Fx tt σ [] []->Q (.ex 0) ⟨T,σ⟩)->(∀r,out=Sum.inl r->∀s',I7 KZ [.tmp 2] (fun r' ss'=>r'=.bool r/\ss'=tt) s'->Q .ret s')->∀(T:TT) (σ:Sto),T 0=.str a0/\T 3=i6 YB->Fx tt σ [] []->aLp KZ c Q ⟨T,σ⟩:=by
 intro a0 YB;revert YB;refine V0.partial_correctness a0 _ ?_;intro V0 IH YB out H c hc Q tt  hE hR T σ tT hF;refine lpx tt hc rfl fun q hX=>go ?_;refine cdp H (fun h H=>?_) (fun h H=>?_)
 ·obtain ⟨x19,f1,H⟩:=bsx H;refine go1 ?_;refine go ?_;obtain ⟨x26,g3,H⟩:=bnd H;refine Yc 2 24 26 (.bool x26) (gi q (fun q=>?_) (fun q=>?_)) (fun J=>?_)
  ·refine go ?_;exact Yr 24 g3
  ·refine go ?_;exact Yr 24 g3
  refine go ?_;obtain ⟨x31,g5,H⟩:=bnd H;refine Yc 3 28 31 (.bool x31) (giN q (fun q=>?_) (fun q=>?_)) (fun J=>?_)
  ·rw [if_neg (dbf q)] at g5;refine go ?_;obtain ⟨x29,hx29,g5⟩:=bnd g5;refine cl (Fp (Qk #[42,63,61,43,60]) x19 _ hx29) ?_;refine go ?_;exact Yr 28 g5
  ·rw [if_pos (dbt q)] at g5;refine go ?_;exact Yr 28 g5
  refine go ?_;refine cdb H (fun h H=>?_) (fun h H=>?_)
  ·refine go ?_;exact IH  (i64.wrap (YB+1)) _ H _ rfl Q tt  hE hR _ _  S hF
  ·refine go ?_;obtain ⟨x46,g7,H⟩:=bnd H;refine Yc 10 36 46 (.bool x46) (gi q (fun q=>?_) (fun q=>?_)) (fun J=>?_)
   ·rw [if_pos (dt q)] at g7;refine go ?_;obtain ⟨x41,g9,g7⟩:=bnd g7;refine Yc 2 39 41 (.bool x41) (gi q (fun q=>?_) (fun q=>?_)) (fun J=>?_)
    ·refine go ?_;exact Yr 39 g9
    ·refine go ?_;exact Yr 39 g9
    refine go ?_;obtain ⟨x45,g11,g7⟩:=bnd g7;refine Yc 2 43 45 (.bool x45) (giN q (fun q=>?_) (fun q=>?_)) (fun J=>?_)
    ·refine go ?_;exact Yr 43 g11
    ·refine go ?_;exact Yr 43 g11
    refine go ?_;exact Yr 36 g7
   ·rw [if_neg (df q)] at g7;refine go ?_;exact Yr 36 g7
   refine go ?_;refine cdb H (fun h H=>?_) (fun h H=>?_)
   ·refine go ?_;exact IH  (i64.wrap (YB+1)) _ H _ rfl Q tt  hE hR _ _  S hF
   ·refine go ?_;exact wq (hR _ (pur H).symm _ (rt _))
 ·refine go ?_;exact wq (hE () (pur H).symm _ _  S hF)
theorem Dw:∀(a0:ByteArray) r,Hz a0=some r->VK KZ 67 [.str a0] (.bool r):=by
 intro a0 r H;intro σ;unfold Hz at H;refine hdg mixed Tryz.func67 (rs:=[.tmp 2]) fun q tT=>?_;have hF:=K2 σ;have hX:=Tau.none σ;refine go ?_;obtain ⟨x10,g1,H⟩:=bnd H;refine Yc 2 8 10 (.bool x10) (giN q (fun q=>?_) (fun q=>?_)) (fun J=>?_)
 ·refine go ?_;exact Yr 8 g1
 ·refine go ?_;exact Yr 8 g1
 refine go ?_;refine cdb H (fun h H=>?_) (fun h H=>?_)
 ·refine go ?_;have e:=pur H;subst e;exact rt _
 ·refine go ?_;obtain ⟨o13,ho13,H⟩:=bnd H;refine Fe a0 0 _ ho13 _ rfl _ _  ?_ ?_ _ _  S hF
  ·intro _ he T15 s16 tT hF;have he:=he.symm;subst he
   try dsimp only at H
   refine go ?_;refine bp H (WZ (a0.size:Int) 1 12) fun x49 h H=>cl h ?_;refine go ?_;have e:=pur H;subst e;exact rt _
  ·intro r hr s' hs;subst hr;have e:=pur H;subst e;exact hsq hs
theorem FM:∀(a0:List Int) (Ym:Int) out,Jl a0 Ym=some out->∀c,Yg Tryz.f68 0=some c->∀(Q:QT) (tt:Sto),(∀(_u:Unit),out=Sum.inr ()->∀(T:TT) (σ:Sto),T 0=sf cI a0->Fx tt σ [] []->Q (.ex 0) ⟨T,σ⟩)->(∀r,out=Sum.inl r->∀s',I7 KZ [.tmp 2] (fun r' ss'=>r'=.bool r/\ss'=tt) s'->Q .ret s')->∀(T:TT) (σ:Sto),T 0=sf cI a0/\T 5=sf cI a0/\T 6=i6 (a0.length:Int)/\T 7=i6 Ym->Fx tt σ [] []->aLp KZ c Q ⟨T,σ⟩:=by
 intro a0 Ym;revert Ym;refine Jl.partial_correctness a0 _ ?_;intro Jl IH Ym out H c hc Q tt  hE hR T σ tT hF;refine lpx tt hc rfl fun q hX=>go ?_;refine cdp H (fun h H=>?_) (fun h H=>?_)
 ·obtain ⟨x10,f1,H⟩:=bil (g:=cI) (fun _=>rfl) H;refine go1 ?_;refine go ?_;refine bp H (WZ x10 1 99) fun x13 h H=>cl h ?_;refine go ?_;obtain ⟨x27,g1,H⟩:=bnd H;refine Yc 11 16 27 (.bool x27) (giN q (fun q=>?_) (fun q=>?_)) (fun J=>?_)
  ·rw [if_neg (dbf q)] at g1;refine go ?_;obtain ⟨x26,g3,g1⟩:=bnd g1;refine Yc 7 19 26 (.bool x26) (gi q (fun q=>?_) (fun q=>?_)) (fun J=>?_)
   ·rw [if_pos (dt q)] at g3;obtain ⟨x22,f1,g3⟩:=bil (g:=cI) (fun _=>rfl) g3;refine go1 ?_;refine go ?_;exact Yr 19 g3
   ·rw [if_neg (df q)] at g3;refine go ?_;exact Yr 19 g3
   refine go ?_;exact Yr 16 g1
  ·rw [if_pos (dbt q)] at g1;refine go ?_;exact Yr 16 g1
  refine go ?_;refine cdb H (fun h H=>?_) (fun h H=>?_)
  ·refine go ?_;exact wq (hR _ (pur H).symm _ (rt _))
  ·refine go ?_;exact IH  (i64.wrap (Ym+1)) _ H _ rfl Q tt  hE hR _ _  S hF
 ·refine go ?_;exact wq (hE () (pur H).symm _ _  S hF)
theorem D6:∀(a0:List Int) r,Ip a0=some r->VK KZ 68 [sf cI a0] (.bool r):=by
 intro a0 r H;intro σ;unfold Ip at H;refine hdg mixed Tryz.func68 (rs:=[.tmp 2]) fun q tT=>?_;have hF:=K2 σ;have hX:=Tau.none σ;refine go ?_;obtain ⟨o5,ho5,H⟩:=bnd H;refine FM a0 0 _ ho5 _ rfl _ _  ?_ ?_ _ _  S hF
 ·intro _ he T7 s8 tT hF;have he:=he.symm;subst he
  try dsimp only at H
  refine go ?_;have e:=pur H;subst e;exact rt _
 ·intro r hr s' hs;subst hr;have e:=pur H;subst e;exact hsq hs
theorem CI:∀(a0 a1:List Int) (J4:Int) out,Vq a0 a1 J4=some out->∀c,Yg Tryz.f34 0=some c->∀(Q:QT) (tt:Sto),(∀(_u:Unit),out=Sum.inr ()->∀(T:TT) (σ:Sto),0+0=0->Fx tt σ [] []->Q (.ex 0) ⟨T,σ⟩)->(∀r,out=Sum.inl r->∀s',I7 KZ [.tmp 4] (fun r' ss'=>r'=.bool r/\ss'=tt) s'->Q .ret s')->∀(T:TT) (σ:Sto),T 0=sf cI a0/\T 1=sf cI a1/\T 12=i6 (a0.length:Int)/\T 13=i6 J4->Fx tt σ [] []->aLp KZ c Q ⟨T,σ⟩:=by
 intro a0 a1 J4;revert J4;refine Vq.partial_correctness a0 a1 _ ?_;intro Vq IH J4 out H c hc Q tt  hE hR T σ tT hF;refine lpx tt hc rfl fun q hX=>go ?_;refine cdp H (fun h H=>?_) (fun h H=>?_)
 ·refine go ?_;refine Yj E0 [.v,.v,.v,.v,.v,.v,.v,.v,.v] (by kernel_rfl) ?_;obtain ⟨x18,f1,H⟩:=bil (g:=cI) (fun _=>rfl) H;obtain ⟨x22,f2,H⟩:=bil (g:=cI) (fun _=>rfl) H;refine go2 ?_;refine go ?_;refine cdn H (fun h H=>?_) (fun h H=>?_)
  ·refine go ?_;exact wq (hR _ (pur H).symm _ (rt _))
  ·refine go ?_;exact IH  (i64.wrap (J4+1)) _ H _ rfl Q tt  hE hR _ _  S hF
 ·refine go ?_;exact wq (hE () (pur H).symm _ _  S hF)
theorem A9:∀(a0 a1:List Int) r,Jh a0 a1=some r->VK KZ 34 [sf cI a0,sf cI a1] (.bool r):=by
 intro a0 a1 r H;intro σ;unfold Jh at H;refine hdg mixed Tryz.func34 (rs:=[.tmp 4]) fun q tT=>?_;have hF:=K2 σ;have hX:=Tau.none σ;refine go ?_;refine cdn H (fun h H=>?_) (fun h H=>?_)
 ·refine go ?_;have e:=pur H;subst e;exact rt _
 ·refine go ?_;obtain ⟨o1,ho1,H⟩:=bnd H;refine CI a0 a1 0 _ ho1 _ rfl _ _  ?_ ?_ _ _  S hF
  ·intro _ he T3 ss4 tT hF;have he:=he.symm;subst he
   try dsimp only at H
   refine go ?_;have e:=pur H;subst e;exact rt _
  ·intro r hr s' hs;subst hr;have e:=pur H;subst e;exact hsq hs
theorem Eu:∀(a0 c0:Bnd) r,Hh a0 c0=some r->∀(e0:Nat)  (σ:Sto),Pre σ [(e0,⟨75,3,[.str c0.name,sf cI c0.sc,i6 c0.id]⟩)] []->Ctr KZ 114 [.agg (K0 a0),.ptr e0 0] σ (fun r' ss'=>∃(tt':Sto),r'=.bool r/\Tau (strip σ []) [(e0,⟨75,3,[.str c0.name,sf cI c0.sc,i6 c0.id]⟩)] tt'/\Fx tt' ss' [] []):=by
 intro a0 c0 r H;intro e0  σ hP;unfold Hh at H;refine hdg mixed Tryz.func114 (rs:=[.tmp 3]) fun q tT=>?_;obtain ⟨hF,hX⟩:=hP.start;generalize strip σ []=tt0 at hF hX ⊢;refine go ?_;refine Ya hF rfl fun b1 ss2 hF=>?_;refine go ?_;obtain ⟨x15,g3,H⟩:=bnd H;refine Yc 5 10 15 (.bool x15) (gi q (fun q=>?_) (fun q=>?_)) (fun J=>?_)
 ·rw [if_pos (dt q)] at g3;refine go ?_;obtain ⟨x14,hx14,g3⟩:=bnd g3;refine cl (A9 a0.sc c0.sc _ hx14) ?_;refine go ?_;exact Yr 10 g3
 ·rw [if_neg (df q)] at g3;refine go ?_;exact Yr 10 g3
 refine go ?_;have e:=pur H;subst e;exact rg _ ⟨_,rfl,hX,K4 _⟩
theorem GM:∀(a0:List Bnd) (c0:Bnd) (Yh:Int) out,Yn a0 c0 Yh=some out->∀c,Yg Tryz.f115 0=some c->∀(Q:QT) (tt0:Sto) (e0:Nat),(∀(_u:Unit),out=Sum.inr ()->∀(T:TT) (σ tt:Sto),0+0=0->Tau tt0 [(e0,⟨75,3,[.str c0.name,sf cI c0.sc,i6 c0.id]⟩)] tt->Fx tt σ [] []->Q (.ex 0) ⟨T,σ⟩)->(∀r,out=Sum.inl r->∀s',I7 KZ [.tmp 4] (fun r' ss'=>∃(tt':Sto),r'=i6 r/\Tau tt0 [(e0,⟨75,3,[.str c0.name,sf cI c0.sc,i6 c0.id]⟩)] tt'/\Fx tt' ss' [] []) s'->Q .ret s')->∀(T:TT) (σ tt:Sto),T 0=sf K0 a0/\T 1=.fn 114 [.ptr e0 0]/\T 7=i6 (a0.length:Int)/\T 8=i6 Yh->Tau tt0 [(e0,⟨75,3,[.str c0.name,sf cI c0.sc,i6 c0.id]⟩)] tt->Fx tt σ [] []->aLp KZ c Q ⟨T,σ⟩:=by
 intro a0 c0 Yh;revert Yh;refine Yn.partial_correctness a0 c0 _ ?_;intro Yn IH Yh out H c hc Q tt0 e0 hE hR T σ tt tT hX hF;refine lpy hc rfl fun q=>go ?_;refine cdp H (fun h H=>?_) (fun h H=>?_)
 ·obtain ⟨x14,f1,H⟩:=bil (g:=K0) Bnd.X7 H;refine go1 ?_;obtain ⟨x16,hx16,H⟩:=bnd H;refine cx (Eu x14 c0 _ hx16 e0  _ (pre 0 1 0 hF hX)) ?_;rintro _ ss1 ⟨tt2,rfl,hT,hG⟩;obtain ⟨tt3,hX,hF⟩:=aft 0 1 0 hF hX hT hG;refine go ?_;refine cdb H (fun h H=>?_) (fun h H=>?_)
  ·refine go ?_;exact wq (hR _ (pur H).symm _ (rg _ ⟨_,rfl,hX,K4 _⟩))
  ·refine go ?_;exact IH  (i64.wrap (Yh+1)) _ H _ rfl Q tt0 e0 hE hR _ _ _  S hX hF
 ·refine go ?_;exact wq (hE () (pur H).symm _ _ _  S hX hF)
theorem Ha:∀(a0:List Bnd) (c0:Bnd) r,Vh a0 c0=some r->∀(e0:Nat)  (σ:Sto),Pre σ [(e0,⟨75,3,[.str c0.name,sf cI c0.sc,i6 c0.id]⟩)] []->Ctr KZ 115 [sf K0 a0,.fn 114 [.ptr e0 0]] σ (fun r' ss'=>∃(tt':Sto),r'=i6 r/\Tau (strip σ []) [(e0,⟨75,3,[.str c0.name,sf cI c0.sc,i6 c0.id]⟩)] tt'/\Fx tt' ss' [] []):=by
 intro a0 c0 r H;intro e0  σ hP;unfold Vh at H;refine hdg mixed Tryz.func115 (rs:=[.tmp 4]) fun q tT=>?_;obtain ⟨hF,hX⟩:=hP.start;generalize strip σ []=tt0 at hF hX ⊢;refine go ?_;obtain ⟨o4,ho4,H⟩:=bnd H;refine GM a0 c0 0 _ ho4 _ rfl _ tt0 e0 ?_ ?_ _ _ _  S hX hF
 ·intro _ he T6 s7 t8 tT hX hF;have he:=he.symm;subst he
  try dsimp only at H
  refine go ?_;have e:=pur H;subst e;exact rg _ ⟨_,rfl,hX,K4 _⟩
 ·intro r hr s' hs;subst hr;have e:=pur H;subst e;exact hsq hs
theorem GK:∀(a0:List Bnd) (c0:Bnd) r,YH a0 c0=some r->∀(e0:Nat)  (σ:Sto),Pre σ [(e0,⟨75,3,[.str c0.name,sf cI c0.sc,i6 c0.id]⟩)] []->Ctr KZ 80 [sf K0 a0,.fn 114 [.ptr e0 0]] σ (fun r' ss'=>∃(tt':Sto),r'=.bool r/\Tau (strip σ []) [(e0,⟨75,3,[.str c0.name,sf cI c0.sc,i6 c0.id]⟩)] tt'/\Fx tt' ss' [] []):=by
 intro a0 c0 r H;intro e0  σ hP;unfold YH at H;refine hdg mixed Tryz.func80 (rs:=[.tmp 4]) fun q tT=>?_;obtain ⟨hF,hX⟩:=hP.start;generalize strip σ []=tt0 at hF hX ⊢;refine go ?_;obtain ⟨x7,hx7,H⟩:=bnd H;refine cx (Ha a0 c0 _ hx7 e0  _ (pre 0 1 0 hF hX)) ?_;rintro _ ss1 ⟨tt2,rfl,hT,hG⟩;obtain ⟨tt3,hX,hF⟩:=aft 0 1 0 hF hX hT hG;refine go ?_;have e:=pur H;subst e;exact rg _ ⟨_,rfl,hX,K4 _⟩
theorem Ev:∀(a0:List Bnd) (Ym:Int) out,V6 a0 Ym=some out->∀c,Yg Tryz.f79 0=some c->∀(Q:QT) (tt:Sto),(∀(_u:Unit),out=Sum.inr ()->∀(T:TT) (σ:Sto),T 0=sf K0 a0->Fx tt σ [] []->Q (.ex 0) ⟨T,σ⟩)->(∀r,out=Sum.inl r->∀s',I7 KZ [.tmp 2] (fun r' ss'=>r'=.bool r/\ss'=tt) s'->Q .ret s')->∀(T:TT) (σ:Sto),T 0=sf K0 a0/\T 5=sf K0 a0/\T 6=i6 (a0.length:Int)/\T 7=i6 Ym->Fx tt σ [] []->aLp KZ c Q ⟨T,σ⟩:=by
 intro a0 Ym;revert Ym;refine V6.partial_correctness a0 _ ?_;intro V6 IH Ym out H c hc Q tt  hE hR T σ tT hF;refine lpx tt hc rfl fun q hX=>go ?_;refine cdp H (fun h H=>?_) (fun h H=>?_)
 ·obtain ⟨x10,f1,H⟩:=bil (g:=K0) Bnd.X7 H;refine go1 ?_;refine Ya hF rfl fun b1 ss2 hF=>?_;refine go ?_;refine st hF 0 rfl fun ss3 hF=>?_;refine go ?_;refine bp H (Dw x10.name) fun x14 h H=>cl h ?_;refine go ?_;obtain ⟨x21,g4,H⟩:=bnd H;refine Yc 4 17 21 (.bool x21) (giN q (fun q=>?_) (fun q=>?_)) (fun J=>?_)
  ·rw [if_neg (dbf q)] at g4;refine go ?_;obtain ⟨x19,hx19,g4⟩:=bnd g4;refine cl (D6 x10.sc _ hx19) ?_;refine go ?_;exact Yr 17 g4
  ·rw [if_pos (dbt q)] at g4;refine go ?_;exact Yr 17 g4
  refine go ?_;obtain ⟨x27,g6,H⟩:=bnd H;refine Yc 4 23 27 (.bool x27) (giN q (fun q=>?_) (fun q=>?_)) (fun J=>?_)
  ·rw [if_neg (dbf q)] at g6;refine go ?_;obtain ⟨x25,hx25,g6⟩:=bnd g6;refine cl (WZ x10.id 1 999 _ hx25) ?_;refine go ?_;exact Yr 23 g6
  ·rw [if_pos (dbt q)] at g6;refine go ?_;exact Yr 23 g6
  refine go ?_;refine cdb H (fun h H=>?_) (fun h H=>?_)
  ·refine go ?_;exact wq (hR _ (pur H).symm _ (rt _))
  ·obtain ⟨x30,f1,H⟩:=bls (g:=K0) Bnd.X7 (lo:=none) (hi:=some (i6 Ym)) rfl rfl H;refine go1 ?_;obtain ⟨x32,hx32,H⟩:=bnd H;refine cx (GK x30 x10 _ hx32 b1  _ (pre 1 0 0 hF hX)) ?_;rintro _ s8 ⟨t9,rfl,hT,hG⟩;have hF:=DL 1 0 hF hX hT hG;refine go ?_;refine cdb H (fun h H=>?_) (fun h H=>?_)
   ·refine go ?_;exact wq (hR _ (pur H).symm _ (rt _))
   ·refine go ?_;exact IH  (i64.wrap (Ym+1)) _ H _ rfl Q tt  hE hR _ _  S (hF.drop 1 0)
 ·refine go ?_;exact wq (hE () (pur H).symm _ _  S hF)
theorem Lw:∀(a0:List Bnd) r,IT a0=some r->VK KZ 79 [sf K0 a0] (.bool r):=by
 intro a0 r H;intro σ;unfold IT at H;refine hdg mixed Tryz.func79 (rs:=[.tmp 2]) fun q tT=>?_;have hF:=K2 σ;have hX:=Tau.none σ;refine go ?_;obtain ⟨o11,ho11,H⟩:=bnd H;refine Ev a0 0 _ ho11 _ rfl _ _  ?_ ?_ _ _  S hF
 ·intro _ he T13 s14 tT hF;have he:=he.symm;subst he
  try dsimp only at H
  refine go ?_;have e:=pur H;subst e;exact rt _
 ·intro r hr s' hs;subst hr;have e:=pur H;subst e;exact hsq hs
theorem C9:∀(a0:Bnd) (c0:Xpn) r,Js a0 c0=some r->∀(e0:Nat)  (σ:Sto),Pre σ [(e0,⟨42,5,[sf K0 c0.binds,sf Zc c0.macs,i6 c0.scope,i6 c0.id,i6 c0.steps]⟩)] []->Ctr KZ 81 [.agg (K0 a0),.ptr e0 0] σ (fun r' ss'=>∃(tt':Sto),r'=.bool r/\Tau (strip σ []) [(e0,⟨42,5,[sf K0 c0.binds,sf Zc c0.macs,i6 c0.scope,i6 c0.id,i6 c0.steps]⟩)] tt'/\Fx tt' ss' [] []):=by
 intro a0 c0 r H;intro e0  σ hP;unfold Js at H;refine hdg mixed Tryz.func81 (rs:=[.tmp 3]) fun q tT=>?_;obtain ⟨hF,hX⟩:=hP.start;generalize strip σ []=tt0 at hF hX ⊢;refine go ?_;refine Ya hF rfl fun b1 ss2 hF=>?_;refine go ?_;obtain ⟨x13,g3,H⟩:=bnd H;refine Yc 3 10 13 (.bool x13) (giN q (fun q=>?_) (fun q=>?_)) (fun J=>?_)
 ·rw [if_neg (df q)] at g3;refine go ?_;obtain ⟨x12,hx12,g3⟩:=bnd g3;refine cl (WZ a0.id 6 10 _ hx12) ?_;refine go ?_;exact Yr 10 g3
 ·rw [if_pos (dt q)] at g3;refine go ?_;exact Yr 10 g3
 refine go ?_;have e:=pur H;subst e;exact rg _ ⟨_,rfl,hX,K4 _⟩
theorem JX:∀(a0:List Bnd) (c0:Xpn) (Yh:Int) out,Yk a0 c0 Yh=some out->∀c,Yg Tryz.f115 0=some c->∀(Q:QT) (tt0:Sto) (e0:Nat),(∀(_u:Unit),out=Sum.inr ()->∀(T:TT) (σ tt:Sto),0+0=0->Tau tt0 [(e0,⟨42,5,[sf K0 c0.binds,sf Zc c0.macs,i6 c0.scope,i6 c0.id,i6 c0.steps]⟩)] tt->Fx tt σ [] []->Q (.ex 0) ⟨T,σ⟩)->(∀r,out=Sum.inl r->∀s',I7 KZ [.tmp 4] (fun r' ss'=>∃(tt':Sto),r'=i6 r/\Tau tt0 [(e0,⟨42,5,[sf K0 c0.binds,sf Zc c0.macs,i6 c0.scope,i6 c0.id,i6 c0.steps]⟩)] tt'/\Fx tt' ss' [] []) s'->Q .ret s')->∀(T:TT) (σ tt:Sto),T 0=sf K0 a0/\T 1=.fn 81 [.ptr e0 0]/\T 7=i6 (a0.length:Int)/\T 8=i6 Yh->Tau tt0 [(e0,⟨42,5,[sf K0 c0.binds,sf Zc c0.macs,i6 c0.scope,i6 c0.id,i6 c0.steps]⟩)] tt->Fx tt σ [] []->aLp KZ c Q ⟨T,σ⟩:=by
 intro a0 c0 Yh;revert Yh;refine Yk.partial_correctness a0 c0 _ ?_;intro Yk IH Yh out H c hc Q tt0 e0 hE hR T σ tt tT hX hF;refine lpy hc rfl fun q=>go ?_;refine cdp H (fun h H=>?_) (fun h H=>?_)
 ·obtain ⟨x14,f1,H⟩:=bil (g:=K0) Bnd.X7 H;refine go1 ?_;obtain ⟨x16,hx16,H⟩:=bnd H;refine cx (C9 x14 c0 _ hx16 e0  _ (pre 0 1 0 hF hX)) ?_;rintro _ ss1 ⟨tt2,rfl,hT,hG⟩;obtain ⟨tt3,hX,hF⟩:=aft 0 1 0 hF hX hT hG;refine go ?_;refine cdb H (fun h H=>?_) (fun h H=>?_)
  ·refine go ?_;exact wq (hR _ (pur H).symm _ (rg _ ⟨_,rfl,hX,K4 _⟩))
  ·refine go ?_;exact IH  (i64.wrap (Yh+1)) _ H _ rfl Q tt0 e0 hE hR _ _ _  S hX hF
 ·refine go ?_;exact wq (hE () (pur H).symm _ _ _  S hX hF)
theorem Gj:∀(a0:List Bnd) (c0:Xpn) r,Y9 a0 c0=some r->∀(e0:Nat)  (σ:Sto),Pre σ [(e0,⟨42,5,[sf K0 c0.binds,sf Zc c0.macs,i6 c0.scope,i6 c0.id,i6 c0.steps]⟩)] []->Ctr KZ 115 [sf K0 a0,.fn 81 [.ptr e0 0]] σ (fun r' ss'=>∃(tt':Sto),r'=i6 r/\Tau (strip σ []) [(e0,⟨42,5,[sf K0 c0.binds,sf Zc c0.macs,i6 c0.scope,i6 c0.id,i6 c0.steps]⟩)] tt'/\Fx tt' ss' [] []):=by
 intro a0 c0 r H;intro e0  σ hP;unfold Y9 at H;refine hdg mixed Tryz.func115 (rs:=[.tmp 4]) fun q tT=>?_;obtain ⟨hF,hX⟩:=hP.start;generalize strip σ []=tt0 at hF hX ⊢;refine go ?_;obtain ⟨o4,ho4,H⟩:=bnd H;refine JX a0 c0 0 _ ho4 _ rfl _ tt0 e0 ?_ ?_ _ _ _  S hX hF
 ·intro _ he T6 s7 t8 tT hX hF;have he:=he.symm;subst he
  try dsimp only at H
  refine go ?_;have e:=pur H;subst e;exact rg _ ⟨_,rfl,hX,K4 _⟩
 ·intro r hr s' hs;subst hr;have e:=pur H;subst e;exact hsq hs
theorem JW:∀(a0:List Bnd) (c0:Xpn) r,Y4 a0 c0=some r->∀(e0:Nat)  (σ:Sto),Pre σ [(e0,⟨42,5,[sf K0 c0.binds,sf Zc c0.macs,i6 c0.scope,i6 c0.id,i6 c0.steps]⟩)] []->Ctr KZ 80 [sf K0 a0,.fn 81 [.ptr e0 0]] σ (fun r' ss'=>∃(tt':Sto),r'=.bool r/\Tau (strip σ []) [(e0,⟨42,5,[sf K0 c0.binds,sf Zc c0.macs,i6 c0.scope,i6 c0.id,i6 c0.steps]⟩)] tt'/\Fx tt' ss' [] []):=by
 intro a0 c0 r H;intro e0  σ hP;unfold Y4 at H;refine hdg mixed Tryz.func80 (rs:=[.tmp 4]) fun q tT=>?_;obtain ⟨hF,hX⟩:=hP.start;generalize strip σ []=tt0 at hF hX ⊢;refine go ?_;obtain ⟨x7,hx7,H⟩:=bnd H;refine cx (Gj a0 c0 _ hx7 e0  _ (pre 0 1 0 hF hX)) ?_;rintro _ ss1 ⟨tt2,rfl,hT,hG⟩;obtain ⟨tt3,hX,hF⟩:=aft 0 1 0 hF hX hT hG;refine go ?_;have e:=pur H;subst e;exact rg _ ⟨_,rfl,hX,K4 _⟩
theorem PK:∀(a0:Fm) (a1 c0:Int) r,AA a0 a1 c0=some r->∀(e0:Nat)  (σ:Sto),Pre σ [(e0,⟨3,1,[i6 c0]⟩)] []->Ctr KZ 36 [.agg (KY a0),i6 a1,.ptr e0 0] σ (fun r' ss'=>∃(tt':Sto),r'=.bool r.1/\Tau (strip σ []) [(e0,⟨3,1,[i6 r.2]⟩)] tt'/\Fx tt' ss' [] []):=by
 refine AA.partial_correctness _ (motive_2:=fun a0 a1 Pu VV out=>∀c,Yg Tryz.f36 0=some c->∀(Q:QT) (tt0:Sto) (e0 b1:Nat),(∀(Ca:Int),out=Sum.inr Ca->∀(T:TT) (σ tt:Sto),0+0=0->Tau tt0 [(e0,⟨3,1,[i6 Ca]⟩)] tt->Fx tt σ [(b1,⟨26,5,[i6 a0.kind,.str a0.name,i6 a0.num,sf cI a0.sc,sf KY a0.kids]⟩)] []->Q (.ex 1) ⟨T,σ⟩)->(∀r,out=Sum.inl r->∀s',I7 KZ [.tmp 6] (fun r' ss'=>∃(tt':Sto),r'=.bool r.1/\Tau tt0 [(e0,⟨3,1,[i6 r.2]⟩)] tt'/\Fx tt' ss' [] []) s'->Q .ret s')->∀(T:TT) (σ tt:Sto),T 1=i6 a1/\T 2=.ptr e0 0/\T 84=sf KY a0.kids/\T 85=i6 (a0.kids.length:Int)/\T 86=i6 Pu->Tau tt0 [(e0,⟨3,1,[i6 VV]⟩)] tt->Fx tt σ [(b1,⟨26,5,[i6 a0.kind,.str a0.name,i6 a0.num,sf cI a0.sc,sf KY a0.kids]⟩)] []->aLp KZ c Q ⟨T,σ⟩) ?_ ?_
 ·intro HA L0 a0 a1 c0 r H;intro e0  σ hP;refine hdg mixed Tryz.func36 (rs:=[.tmp 6]) fun q tT=>?_;obtain ⟨hF,hX⟩:=hP.start;generalize strip σ []=tt0 at hF hX ⊢;refine go ?_;refine Ya hF rfl fun b1 ss2 hF=>?_;refine go ?_;refine stT hF hX 0 rfl fun tt4 ss3 hF hX=>?_;refine go ?_;obtain ⟨x21,g5,H⟩:=bnd H;refine Yc 2 19 21 (.bool x21) (giN q (fun q=>?_) (fun q=>?_)) (fun J=>?_)
  ·refine go ?_;exact Yr 19 g5
  ·refine go ?_;exact Yr 19 g5
  refine go ?_;refine cdb H (fun h H=>?_) (fun h H=>?_)
  ·refine go ?_;have e:=pur H;subst e;exact rg _ ⟨_,rfl,hX,K4 _⟩
  ·refine go ?_;refine cdp H (fun h H=>?_) (fun h H=>?_)
   ·refine go ?_;refine bp H (Dw a0.name) fun x28 h H=>cl h ?_;refine go ?_;obtain ⟨x33,g7,H⟩:=bnd H;refine Yc 3 30 33 (.bool x33) (gi q (fun q=>?_) (fun q=>?_)) (fun J=>?_)
    ·refine go ?_;exact Yr 30 g7
    ·refine go ?_;exact Yr 30 g7
    refine go ?_;obtain ⟨x38,g9,H⟩:=bnd H;refine Yc 3 35 38 (.bool x38) (gi q (fun q=>?_) (fun q=>?_)) (fun J=>?_)
    ·rw [if_pos (dbt q)] at g9;refine go ?_;obtain ⟨x37,hx37,g9⟩:=bnd g9;refine cl (D6 a0.sc _ hx37) ?_;refine go ?_;exact Yr 35 g9
    ·rw [if_neg (dbf q)] at g9;refine go ?_;exact Yr 35 g9
    refine go ?_;obtain ⟨x44,g11,H⟩:=bnd H;refine Yc 4 40 44 (.bool x44) (gi q (fun q=>?_) (fun q=>?_)) (fun J=>?_)
    ·refine go ?_;exact Yr 40 g11
    ·refine go ?_;exact Yr 40 g11
    refine go ?_;have e:=pur H;subst e;exact rg _ ⟨_,rfl,hX,K4 _⟩
   ·refine go ?_;refine cdp H (fun h H=>?_) (fun h H=>?_)
    ·refine go ?_;obtain ⟨x54,g13,H⟩:=bnd H;refine Yc 3 51 54 (.bool x54) (gi q (fun q=>?_) (fun q=>?_)) (fun J=>?_)
     ·rw [if_pos (dt q)] at g13;refine go ?_;obtain ⟨x53,hx53,g13⟩:=bnd g13;refine cl (WZ a0.num 0 999 _ hx53) ?_;refine go ?_;exact Yr 51 g13
     ·rw [if_neg (df q)] at g13;refine go ?_;exact Yr 51 g13
     refine go ?_;obtain ⟨x60,g15,H⟩:=bnd H;refine Yc 4 56 60 (.bool x60) (gi q (fun q=>?_) (fun q=>?_)) (fun J=>?_)
     ·refine go ?_;exact Yr 56 g15
     ·refine go ?_;exact Yr 56 g15
     refine go ?_;obtain ⟨x66,g17,H⟩:=bnd H;refine Yc 4 62 66 (.bool x66) (gi q (fun q=>?_) (fun q=>?_)) (fun J=>?_)
     ·refine go ?_;exact Yr 62 g17
     ·refine go ?_;exact Yr 62 g17
     refine go ?_;have e:=pur H;subst e;exact rg _ ⟨_,rfl,hX,K4 _⟩
    ·refine go ?_;refine cdp H (fun h H=>?_) (fun h H=>?_)
     ·refine go ?_;obtain ⟨x76,g19,H⟩:=bnd H;refine Yc 3 73 76 (.bool x76) (giN q (fun q=>?_) (fun q=>?_)) (fun J=>?_)
      ·refine go ?_;exact Yr 73 g19
      ·refine go ?_;exact Yr 73 g19
      refine go ?_;obtain ⟨x82,g21,H⟩:=bnd H;refine Yc 4 78 82 (.bool x82) (giN q (fun q=>?_) (fun q=>?_)) (fun J=>?_)
      ·refine go ?_;exact Yr 78 g21
      ·refine go ?_;exact Yr 78 g21
      refine go ?_;refine cdb H (fun h H=>?_) (fun h H=>?_)
      ·refine go ?_;have e:=pur H;subst e;exact rg _ ⟨_,rfl,hX,K4 _⟩
      ·refine go ?_;obtain ⟨o29,ho29,H⟩:=bnd H;refine L0 a0 a1 0 (i64.wrap (c0 - 1)) _ ho29 _ rfl _ tt0 e0 b1 ?_ ?_ _ _ _  S hX hF
       ·intro Qbd he T31 s32 t33 tT hX hF;have he:=he.symm;subst he
        try dsimp only at H
        refine go ?_;have e:=pur H;subst e;exact rg _ ⟨_,rfl,hX,K4 _⟩
       ·intro r hr s' hs;subst hr;have e:=pur H;subst e;exact hsq hs
     ·refine go ?_;have e:=pur H;subst e;exact rg _ ⟨_,rfl,hX,K4 _⟩
 ·intro AA HA C0 L0 a0 a1 Pu VV out H c hc Q tt0 e0 b1 hE hR T σ tt tT hX hF;refine lpy hc rfl fun q=>go ?_;refine cdp H (fun h H=>?_) (fun h H=>?_)
  ·obtain ⟨x88,f1,H⟩:=bil (g:=KY) Fm.X7 H;refine go1 ?_;refine Ya hF rfl fun b23 s24 hF=>?_;refine go ?_;refine st hF 0 rfl fun s25 hF=>?_;refine go ?_;obtain ⟨x94,hx94,H⟩:=bnd H;refine cx (C0 x88 (i64.wrap (a1+1)) VV _ hx94 e0  _ (pre 0 1 0 hF hX)) ?_;rintro _ s26 ⟨t27,rfl,hT,hG⟩;obtain ⟨t28,hX,hF⟩:=aft 0 1 0 hF hX hT hG;refine go ?_;refine cdb H (fun h H=>?_) (fun h H=>?_)
   ·refine go ?_;exact wq (hR _ (pur H).symm _ (rg _ ⟨_,rfl,hX,K4 _⟩))
   ·refine go ?_;exact L0 a0 a1 (i64.wrap (Pu+1)) x94.2 _ H _ rfl Q tt0 e0 b1 hE hR _ _ _  S hX (hF.drop 1 0)
  ·refine go ?_;exact wq (hE _ (pur H).symm _ _ _  S hX hF)
theorem Bk:∀(a0:Fm) r,Hy a0=some r->VK KZ 13 [.agg (KY a0)] (.bool r):=by
 intro a0 r H;intro σ;unfold Hy at H;refine hdg mixed Tryz.func13 (rs:=[.tmp 2]) fun q tT=>?_;have hF:=K2 σ;have hX:=Tau.none σ;refine go ?_;refine Ya hF rfl fun b1 ss2 hF=>?_;refine go ?_;refine Ya hF rfl fun b3 ss4 hF=>?_;refine go ?_;refine st hF 0 rfl fun ss5 hF=>?_;refine go ?_;obtain ⟨x5,hx5,H⟩:=bnd H;refine cx (PK a0 1 400 _ hx5 b3  _ (pre 1 0 0 hF hX)) ?_;rintro _ ss6 ⟨t7,rfl,hT,hG⟩;have hF:=DL 1 0 hF hX hT hG;refine go ?_;have e:=pur H;subst e;exact rt _
theorem Ft:∀(a0:Fm) r,AB a0=some r->VK KZ 47 [.agg (KY a0)] (.bool r):=by
 intro a0 r H;intro σ;unfold AB at H;refine hdg mixed Tryz.func47 (rs:=[.tmp 2]) fun q tT=>?_;have hF:=K2 σ;have hX:=Tau.none σ;refine go ?_;refine Ya hF rfl fun b1 ss2 hF=>?_;refine go ?_;obtain ⟨x9,g3,H⟩:=bnd H;refine Yc 2 7 9 (.bool x9) (gi q (fun q=>?_) (fun q=>?_)) (fun J=>?_)
 ·rw [if_pos (dt q)] at g3;refine go ?_;obtain ⟨x8,hx8,g3⟩:=bnd g3;refine cl (Bk a0 _ hx8) ?_;refine go ?_;exact Yr 7 g3
 ·rw [if_neg (df q)] at g3;refine go ?_;exact Yr 7 g3
 refine go ?_;have e:=pur H;subst e;exact rt _
end Go.Proofs.SA
