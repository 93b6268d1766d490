/- Printed by a program of mine: the plain functions that the code computes (D), and the walks that show it (W). -/
import Derived.Test.YthdghhllcllneaaGreatDoorGx
import Derived.Test.YthdghhllcllneaaGreatDoorSaTy
import Derived.Test.YthdghhllcllneaaGreatDoorChecked
import Derived.Lib.Strings
import Derived.Lib.Slices
import Derived.Lib.Walk
import Derived.Lib.Bytealg
import Derived.Test.YthdghhllcllneaaGreatDoorGv
import Derived.Test.YthdghhllcllneaaGreatDoorSf
import Derived.Test.YthdghhllcllneaaGreatDooreiD
import Derived.Test.YthdghhllcllneaaGreatDooreiW1
set_option maxRecDepth 100000
set_option maxHeartbeats 2000000
set_option linter.unusedSimpArgs false
set_option linter.unusedVariables false
open Go Go.Proofs Go.Proofs.Shadow
open Val renaming cells → Zn
open Cor renaming cells → K1
open Slt renaming cells → Zp
open Tryz renaming prog → KY
open Fm renaming cells → KX
open _root_.Int renaming toNat_natCast → Kl, reduceEq → Zv
open _root_.Nat renaming reduceEqDiff → Zq, reduceLeDiff → Zr, reduceAdd → Zs, reduceMul → Zt, reduceLT → Zu
open Fx renaming self → K0
open _root_.And renaming intro → K2
open _root_.ByteArray renaming mk → Qk
open EE renaming not → K4
open Mch renaming mk → KU
open Wk renaming sub → Zo
open Go.IntKind (i64)
namespace Go.Proofs.SA
theorem F0:∀(a0:Bool) r,BB a0=some r->Y7 KY 89 [.bool a0] (.agg (Zn r)):=by
 intro a0 r H;intro ss;unfold BB at H;refine hdh mixed Tryz.func89 (rs:=[.cell 2 34]) fun q tT hF hX=>?_;refine go ?_;refine X8 hF rfl fun b1 ss2 hF=>go ?_;refine cdb H (fun h H=>go ?_) (fun h H=>go ?_)
 ·refine bp H (Ae 1) fun x4 h H=>cl h (go ?_);refine st hF 0 rfl fun ss3 hF=>?_;refine go ?_;cases pur H;exact rt _
 ·refine bp H (Ae 0) fun x5 h H=>cl h (go ?_);refine st hF 0 rfl fun ss4 hF=>?_;refine go ?_;cases pur H;exact rt _
theorem Cb:∀(a0:List Val) r,WU a0=some r->Y7 KY 90 [sf Zn a0] (sf Zn r):=by
 intro a0 r H;intro ss;unfold WU at H;refine hdh mixed Tryz.func90 (rs:=[.tmp 2]) fun q tT hF hX=>?_;obtain ⟨x8,f1,H⟩:=Qu7 (g:=Zn) Val.X5 (lo:=none) rfl rfl rfl H;refine go1 ?_;refine go ?_;cases pur H;exact rt _
theorem Bt:∀(a2:List Val) (c0:Mch) (B9 YU:Int) out,Y0 a2 c0 B9 YU=some out->∀c,Ye Tryz.f55 0=some c->∀(Q:QT) (tt0:Sto) (e0 b1:Nat),(∀(Qqo:Int),out=Qqo->∀(T:TT) (ss tt:Sto),T 6=.ptr b1 0/\T 9=i6 Qqo->Tau tt0 [(e0,⟨55,2,[i6 c0.fuel,i6 c0.code]⟩)] tt->Fx tt ss [(b1,⟨34,16,[i6 0,i6 0,.str zB,.X4,i6 0,i6 0,.str zB,i6 0,.X4,i6 0,.str zB,i6 0,.X4,.X4,.X4,.X4]⟩)] []->Q (.ex 1) ⟨T,ss⟩)->True->∀(T:TT) (ss tt:Sto),T 6=.ptr b1 0/\T 9=i6 YU/\T 44=sf Zn a2/\T 45=i6 (a2.length:Int)/\T 46=i6 B9->Tau tt0 [(e0,⟨55,2,[i6 c0.fuel,i6 c0.code]⟩)] tt->Fx tt ss [(b1,⟨34,16,[i6 0,i6 0,.str zB,.X4,i6 0,i6 0,.str zB,i6 0,.X4,i6 0,.str zB,i6 0,.X4,.X4,.X4,.X4]⟩)] []->aLp KY c Q ⟨T,ss⟩:=by
 intro a2 c0 B9 YU;revert B9 YU;refine Y0.partial_correctness a2 c0 _ ?_;intro Y0 IH B9 YU out H c hc Q tt0 e0 b1 hE hR T ss tt tT hX hF;refine lpy hc rfl fun q=>go ?_;refine cdp H (fun h H=>?_) (fun h H=>go ?_)
 ·obtain ⟨x48,f1,H⟩:=bil (g:=Zn) Val.X5 H;refine go1 ?_;refine X8 hF rfl fun b10 s11 hF=>go ?_;refine st hF 0 rfl fun s12 hF=>?_;refine go ?_;exact IH  (i64.wrap (B9+1)) ((i64.wrap (YU+x48.num)).tmod 1000) _ H _ rfl Q tt0 e0 b1 hE hR _ _ _  S hX (hF.drop 1 0)
 ·exact wq (hE _ (pur H).symm _ _ _  S hX hF)
theorem Cw:∀(a1:ByteArray) (a2:List Val) (c0:Mch) r,Jn a1 a2 c0=some r->∀(e0:Nat)  (ss:Sto),Pre ss [(e0,⟨55,2,[i6 c0.fuel,i6 c0.code]⟩)] []->Ctr KY 55 [.ptr e0 0,.str a1,sf Zn a2] ss (fun r' ss'=>∃(tt':Sto),r'=.agg (Zn r.1)/\Tau (strip ss []) [(e0,⟨55,2,[i6 r.2.fuel,i6 r.2.code]⟩)] tt'/\Fx tt' ss' [] []):=by
 intro a1 a2 c0 r H;intro e0  ss hP;unfold Jn at H;refine hdg mixed Tryz.func55 (rs:=[.cell 6 34]) fun q tT=>?_;obtain ⟨hF,hX⟩:=hP.start;generalize strip ss []=tt0 at hF hX ⊢;refine go ?_;refine X8 hF rfl fun b1 ss2 hF=>go ?_;refine bp H (Jh a2) fun x13 h H=>cl h (go ?_);obtain ⟨x24,g3,H⟩:=bnd H;refine Yb 5 19 24 (.bool x24) (gi q (fun q=>?_) (fun q=>?_)) (fun J=>go ?_)
 ·rw [if_pos (dt q)] at g3;obtain ⟨x20,f1,g3⟩:=bil (g:=Zn) Val.X5 g3;refine go1 ?_;refine go ?_;exact Yq 19 g3
 ·rw [if_neg (df q)] at g3;refine go ?_;exact Yq 19 g3
 obtain ⟨x32,g5,H⟩:=bnd H;refine Yb 6 26 32 (.bool x32) (gi q (fun q=>?_) (fun q=>?_)) (fun J=>go ?_)
 ·rw [if_pos (dbt q)] at g5;obtain ⟨x27,f1,g5⟩:=bil (g:=Zn) Val.X5 g5;refine go1 ?_;refine go ?_;exact Yq 26 g5
 ·rw [if_neg (dbf q)] at g5;refine go ?_;exact Yq 26 g5
 refine cdp H (fun h H=>go ?_) (fun h H=>go ?_)
 ·refine st hF 0 rfl fun s7 hF=>?_;refine go ?_;cases pur H;exact rg _ ⟨_,rfl,hX,K0 _⟩
 ·obtain ⟨x43,g8,H⟩:=bnd H;refine Yb 1 42 43 (.bool x43) (gi q (fun q=>go ?_) (fun q=>go ?_)) (fun J=>go ?_)
  ·exact Yq 42 g8
  ·exact Yq 42 g8
  refine cdb H (fun h H=>go ?_) (fun h H=>go ?_)
  ·obtain ⟨o13,ho13,H⟩:=bnd H;refine Bt a2 c0 0 0 _ ho13 _ rfl _ tt0 e0 b1 ?_ ?_ _ _ _  S hX hF
   ·intro Qgq he T15 s16 t17 tT hX hF;have he:=he.symm;subst he;refine go ?_;refine bp H (Ae Qgq) fun x57 h H=>cl h (go ?_);refine st hF 0 rfl fun s18 hF=>?_;refine go ?_;cases pur H;exact rg _ ⟨_,rfl,hX,K0 _⟩
   ·trivial
  ·obtain ⟨x63,g19,H⟩:=bnd H;refine Yb 1 62 63 (.bool x63) (gi q (fun q=>go ?_) (fun q=>go ?_)) (fun J=>go ?_)
   ·exact Yq 62 g19
   ·exact Yq 62 g19
   obtain ⟨x68,g21,H⟩:=bnd H;refine Yb 3 65 68 (.bool x68) (gi q (fun q=>go ?_) (fun q=>go ?_)) (fun J=>go ?_)
   ·exact Yq 65 g21
   ·exact Yq 65 g21
   refine cdb H (fun h H=>go ?_) (fun h H=>go ?_)
   ·refine Yi E0 [.v,.v,.v,.v,.v,.v,.v,.v,.v,.v,.z] (by kernel_rfl) ?_;obtain ⟨x70,f1,H⟩:=bil (g:=Zn) Val.X5 H;obtain ⟨x74,f2,H⟩:=bil (g:=Zn) Val.X5 H;refine go2 ?_;obtain ⟨x78,hx78,H⟩:=bnd H;refine cv (F0 (decide (x70.num < x74.num)) _ hx78) (go ?_);refine st hF 0 rfl fun s23 hF=>?_;refine go ?_;cases pur H;exact rg _ ⟨_,rfl,hX,K0 _⟩
   ·obtain ⟨x84,g24,H⟩:=bnd H;refine Yb 1 83 84 (.bool x84) (gi q (fun q=>go ?_) (fun q=>go ?_)) (fun J=>go ?_)
    ·exact Yq 83 g24
    ·exact Yq 83 g24
    obtain ⟨x89,g26,H⟩:=bnd H;refine Yb 3 86 89 (.bool x89) (gi q (fun q=>go ?_) (fun q=>go ?_)) (fun J=>go ?_)
    ·exact Yq 86 g26
    ·exact Yq 86 g26
    refine cdb H (fun h H=>go ?_) (fun h H=>go ?_)
    ·refine Yi E0 [.v,.v,.v,.v,.v,.v,.v,.v,.v,.v,.z] (by kernel_rfl) ?_;obtain ⟨x91,f1,H⟩:=bil (g:=Zn) Val.X5 H;obtain ⟨x95,f2,H⟩:=bil (g:=Zn) Val.X5 H;refine go2 ?_;obtain ⟨x99,hx99,H⟩:=bnd H;refine cv (F0 (decide (x91.num=x95.num)) _ hx99) (go ?_);refine st hF 0 rfl fun s28 hF=>?_;refine go ?_;cases pur H;exact rg _ ⟨_,rfl,hX,K0 _⟩
    ·obtain ⟨x105,g29,H⟩:=bnd H;refine Yb 1 104 105 (.bool x105) (gi q (fun q=>go ?_) (fun q=>go ?_)) (fun J=>go ?_)
     ·exact Yq 104 g29
     ·exact Yq 104 g29
     refine cdb H (fun h H=>?_) (fun h H=>go ?_)
     ·obtain ⟨x107,f1,H⟩:=bil (g:=Zn) Val.X5 H;obtain ⟨x110,f2,H⟩:=bil (g:=Zn) Val.X5 H;refine go2 ?_;refine st hF 0 rfl fun s31 hF=>?_;refine go ?_;cases pur H;exact rg _ ⟨_,rfl,hX,K0 _⟩
     ·obtain ⟨x117,g32,H⟩:=bnd H;refine Yb 1 116 117 (.bool x117) (gi q (fun q=>go ?_) (fun q=>go ?_)) (fun J=>go ?_)
      ·exact Yq 116 g32
      ·exact Yq 116 g32
      refine cdb H (fun h H=>?_) (fun h H=>go ?_)
      ·obtain ⟨x119,f1,H⟩:=bil (g:=Zn) Val.X5 H;obtain ⟨x122,f2,H⟩:=bls (g:=Zn) Val.X5 (lo:=some (i6 1)) (hi:=none) rfl rfl H;refine go2 ?_;refine bp H (Cb x122) fun x123 h H=>cl h (go ?_);refine st hF 0 rfl fun s34 hF=>?_;refine go ?_;cases pur H;exact rg _ ⟨_,rfl,hX,K0 _⟩
      ·obtain ⟨x126,hx126,H⟩:=bnd H;refine cx (J7 3 c0 _ hx126 e0  _ (pre 0 1 0 hF hX)) ?_;rintro _ s35 ⟨t36,rfl,hT,hG⟩;obtain ⟨tt37,hX,hF⟩:=aft 0 1 0 hF hX hT hG;refine go ?_;refine st hF 0 rfl fun s38 hF=>?_;refine go ?_;cases pur H;exact rg _ ⟨_,rfl,hX,K0 _⟩
theorem Iz:∀(a0:List Slt) r,VJ a0=some r->∀   (ss:Sto),Pre ss [] []->Ctr KY 56 [sf Zp a0] ss (fun r' ss'=>∃(tt':Sto) (w0:AV),r'=w0/\Tau (strip ss []) [] tt'/\Fx tt' ss' [] [⟨w0,78,17,rws Zp r⟩]):=by
 intro a0 r H;intro   ss hP;unfold VJ at H;refine hdg mixed Tryz.func56 (rs:=[.tmp 2]) fun q tT=>?_;obtain ⟨hF,hX⟩:=hP.start;generalize strip ss []=tt0 at hF hX ⊢;obtain ⟨x8,f1,H⟩:=Qu7 (g:=Zp) Slt.X5 (lo:=none) rfl rfl rfl H;refine go1 ?_;have hF:=hF.Qv9 78 (rws Zp x8) (Cy Slt.X5 _);refine go ?_;cases pur H;exact rg _ ⟨_,_,rfl,hX,hF.pick [] [0] (by decide) (by decide)⟩
theorem Dk:∀(a1:Cor) (a2:List Slt) (c0:Mch) (Yt:Int) out,VE a1 a2 c0 Yt=some out->∀c,Ye Tryz.f29 0=some c->∀(Q:QT) (tt0:Sto) (e0 b1 b3:Nat),(∀(_u:Unit),out=Sum.inr ()->∀(T:TT) (ss tt:Sto),T 6=.ptr b3 0->Tau tt0 [(e0,⟨55,2,[i6 (i64.wrap (c0.fuel - 1)),i6 c0.code]⟩)] tt->Fx tt ss [(b3,⟨34,16,[i6 0,i6 0,.str zB,.X4,i6 0,i6 0,.str zB,i6 0,.X4,i6 0,.str zB,i6 0,.X4,.X4,.X4,.X4]⟩),(b1,⟨31,11,[i6 a1.kind,i6 a1.id,.str a1.name,i6 a1.num,sf cI a1.ids,i6 a1.data.kind,.str a1.data.name,i6 a1.data.num,sf cI a1.data.sc,sf KX a1.data.kids,sf K1 a1.kids]⟩)] []->Q (.ex 1) ⟨T,ss⟩)->(∀r,out=Sum.inl r->∀s',I3 KY [.cell 6 34] (fun r' ss'=>∃(tt':Sto),r'=.agg (Zn r.1)/\Tau tt0 [(e0,⟨55,2,[i6 r.2.fuel,i6 r.2.code]⟩)] tt'/\Fx tt' ss' [] []) s'->Q .ret s')->∀(T:TT) (ss tt:Sto),T 2=sf Zp a2/\T 4=.ptr b1 0/\T 6=.ptr b3 0/\T 7=i6 Yt->Tau tt0 [(e0,⟨55,2,[i6 (i64.wrap (c0.fuel - 1)),i6 c0.code]⟩)] tt->Fx tt ss [(b3,⟨34,16,[i6 0,i6 0,.str zB,.X4,i6 0,i6 0,.str zB,i6 0,.X4,i6 0,.str zB,i6 0,.X4,.X4,.X4,.X4]⟩),(b1,⟨31,11,[i6 a1.kind,i6 a1.id,.str a1.name,i6 a1.num,sf cI a1.ids,i6 a1.data.kind,.str a1.data.name,i6 a1.data.num,sf cI a1.data.sc,sf KX a1.data.kids,sf K1 a1.kids]⟩)] []->aLp KY c Q ⟨T,ss⟩:=by
 intro a1 a2 c0 Yt;revert Yt;refine VE.partial_correctness a1 a2 c0 _ ?_;intro VE IH Yt out H c hc Q tt0 e0 b1 b3 hE hR T ss tt tT hX hF;refine lpy hc rfl fun q=>go ?_;refine cdp H (fun h H=>go ?_) (fun h H=>go ?_)
 ·refine Yi E0 [.v,.v,.v,.v,.v,.v,.v,.v] (by kernel_rfl) ?_;obtain ⟨x50,f1,H⟩:=bil (g:=Zp) Slt.X5 H;refine go1 ?_;refine go ?_;refine cdp H (fun h H=>?_) (fun h H=>go ?_)
  ·obtain ⟨x58,f1,H⟩:=bil (g:=Zp) Slt.X5 H;refine go1 ?_;refine st hF 0 rfl fun s12 hF=>?_;refine go ?_;exact wq (hR _ (pur H).symm _ (rg _ ⟨_,rfl,hX,K0 _⟩))
  ·exact IH  (i64.wrap (Yt - 1)) _ H _ rfl Q tt0 e0 b1 b3 hE hR _ _ _  S hX hF
 ·exact wq (hE () (pur H).symm _ _ _  S hX hF)
theorem Dl:∀(a1:Cor) (VM VH:Int) (x142:Val) (x145:List Val) (Dc:List Slt) (IL:Int) out,Vn a1 VM VH x142 x145 Dc IL=some out->∀c,Ye Tryz.f29 2=some c->∀(Q:QT) (tt0:Sto) (e0 b1 b3 b64:Nat),(∀(Qqr:List Slt),out=Qqr->∀(T:TT) (ss tt:Sto) (e2v0:AV),T 0=.ptr e0 0/\T 6=.ptr b3 0/\T 12=.ptr b64 0/\T 14=e2v0->Tau tt0 [(e0,⟨55,2,[i6 VM,i6 VH]⟩)] tt->Fx tt ss [(b64,⟨34,16,[i6 x142.kind,i6 x142.num,.str x142.name,sf Zn x142.items,i6 x142.fn.kind,i6 x142.fn.id,.str x142.fn.name,i6 x142.fn.num,sf cI x142.fn.ids,i6 x142.fn.data.kind,.str x142.fn.data.name,i6 x142.fn.data.num,sf cI x142.fn.data.sc,sf KX x142.fn.data.kids,sf K1 x142.fn.kids,sf Zp x142.env]⟩),(b3,⟨34,16,[i6 0,i6 0,.str zB,.X4,i6 0,i6 0,.str zB,i6 0,.X4,i6 0,.str zB,i6 0,.X4,.X4,.X4,.X4]⟩),(b1,⟨31,11,[i6 a1.kind,i6 a1.id,.str a1.name,i6 a1.num,sf cI a1.ids,i6 a1.data.kind,.str a1.data.name,i6 a1.data.num,sf cI a1.data.sc,sf KX a1.data.kids,sf K1 a1.kids]⟩)] [⟨e2v0,78,17,rws Zp Qqr⟩]->Q (.ex 6) ⟨T,ss⟩)->True->∀(T:TT) (ss tt:Sto) (z2v0:AV),T 0=.ptr e0 0/\T 6=.ptr b3 0/\T 12=.ptr b64 0/\T 13=sf Zn x145/\T 14=z2v0/\T 171=sf cI x142.fn.ids/\T 172=i6 (x142.fn.ids.length:Int)/\T 173=i6 IL->Tau tt0 [(e0,⟨55,2,[i6 VM,i6 VH]⟩)] tt->Fx tt ss [(b64,⟨34,16,[i6 x142.kind,i6 x142.num,.str x142.name,sf Zn x142.items,i6 x142.fn.kind,i6 x142.fn.id,.str x142.fn.name,i6 x142.fn.num,sf cI x142.fn.ids,i6 x142.fn.data.kind,.str x142.fn.data.name,i6 x142.fn.data.num,sf cI x142.fn.data.sc,sf KX x142.fn.data.kids,sf K1 x142.fn.kids,sf Zp x142.env]⟩),(b3,⟨34,16,[i6 0,i6 0,.str zB,.X4,i6 0,i6 0,.str zB,i6 0,.X4,i6 0,.str zB,i6 0,.X4,.X4,.X4,.X4]⟩),(b1,⟨31,11,[i6 a1.kind,i6 a1.id,.str a1.name,i6 a1.num,sf cI a1.ids,i6 a1.data.kind,.str a1.data.name,i6 a1.data.num,sf cI a1.data.sc,sf KX a1.data.kids,sf K1 a1.kids]⟩)] [⟨z2v0,78,17,rws Zp Dc⟩]->aLp KY c Q ⟨T,ss⟩:=by
 intro a1 VM VH x142 x145 Dc IL;revert Dc IL;refine Vn.partial_correctness a1 VM VH x142 x145 _ ?_;intro Vn IH Dc IL out H c hc Q tt0 e0 b1 b3 b64 hE hR T ss tt z2v0 tT hX hF;refine lpy hc rfl fun q=>go ?_;refine cdp H (fun h H=>?_) (fun h H=>go ?_)
 ·obtain ⟨x176,f1,H⟩:=bil (g:=cI) (fun _=>rfl) H;refine go1 ?_;obtain ⟨x182,f1,H⟩:=bil (g:=Zn) Val.X5 H;refine go1 ?_;refine apd (g:=Zp) hF 0 H (rdo (c:=true) (g:=Zp) Slt.X5) fun x186 H v81 s82 hF=>go ?_;exact IH  x186 (i64.wrap (IL+1)) _ H _ rfl Q tt0 e0 b1 b3 b64 hE hR _ _ _ v81 S hX hF
 ·exact wq (hE _ (pur H).symm _ _ _ z2v0 S hX hF)
theorem EH:∀(a1:Cor) (a2:List Slt) (c0:Mch) r,YN a1 a2 c0=some r->∀(e0:Nat)  (ss:Sto),Pre ss [(e0,⟨55,2,[i6 c0.fuel,i6 c0.code]⟩)] []->Ctr KY 29 [.ptr e0 0,.agg (K1 a1),sf Zp a2] ss (fun r' ss'=>∃(tt':Sto),r'=.agg (Zn r.1)/\Tau (strip ss []) [(e0,⟨55,2,[i6 r.2.fuel,i6 r.2.code]⟩)] tt'/\Fx tt' ss' [] []):=by
 refine YN.partial_correctness _ (motive_2:=fun a1 a2 VX Bn YS J5 out=>∀c,Ye Tryz.f29 1=some c->∀(Q:QT) (tt0:Sto) (e0 b1 b3:Nat),(∀(NW:List Val) (BJ NX:Int),out=(NW,BJ,NX)->∀(T:TT) (ss tt:Sto) (e1v0:AV),T 0=.ptr e0 0/\T 6=.ptr b3 0/\T 9=e1v0->Tau tt0 [(e0,⟨55,2,[i6 BJ,i6 NX]⟩)] tt->Fx tt ss [(b3,⟨34,16,[i6 0,i6 0,.str zB,.X4,i6 0,i6 0,.str zB,i6 0,.X4,i6 0,.str zB,i6 0,.X4,.X4,.X4,.X4]⟩),(b1,⟨31,11,[i6 a1.kind,i6 a1.id,.str a1.name,i6 a1.num,sf cI a1.ids,i6 a1.data.kind,.str a1.data.name,i6 a1.data.num,sf cI a1.data.sc,sf KX a1.data.kids,sf K1 a1.kids]⟩)] [⟨e1v0,34,16,rws Zn NW⟩]->Q (.ex 3) ⟨T,ss⟩)->True->∀(T:TT) (ss tt:Sto) (z1v0:AV),T 0=.ptr e0 0/\T 2=sf Zp a2/\T 6=.ptr b3 0/\T 9=z1v0/\T 121=sf K1 a1.kids/\T 122=i6 (a1.kids.length:Int)/\T 123=i6 Bn->Tau tt0 [(e0,⟨55,2,[i6 YS,i6 J5]⟩)] tt->Fx tt ss [(b3,⟨34,16,[i6 0,i6 0,.str zB,.X4,i6 0,i6 0,.str zB,i6 0,.X4,i6 0,.str zB,i6 0,.X4,.X4,.X4,.X4]⟩),(b1,⟨31,11,[i6 a1.kind,i6 a1.id,.str a1.name,i6 a1.num,sf cI a1.ids,i6 a1.data.kind,.str a1.data.name,i6 a1.data.num,sf cI a1.data.sc,sf KX a1.data.kids,sf K1 a1.kids]⟩)] [⟨z1v0,34,16,rws Zn VX⟩]->aLp KY c Q ⟨T,ss⟩) ?_ ?_
 ·intro YN VF C0 L0 a1 a2 c0 r H;intro e0  ss hP;refine hdg mixed Tryz.func29 (rs:=[.cell 6 34]) fun q tT=>?_;obtain ⟨hF,hX⟩:=hP.start;generalize strip ss []=tt0 at hF hX ⊢;refine go ?_;refine X8 hF rfl fun b1 ss2 hF=>go ?_;refine X8 hF rfl fun b3 ss4 hF=>go ?_;refine cdn H (fun h H=>go ?_) (fun h H=>go ?_)
  ·refine st hF 0 rfl fun ss5 hF=>?_;refine go ?_;cases pur H;exact rg _ ⟨_,rfl,hX,K0 _⟩
  ·refine cdp H (fun h H=>go ?_) (fun h H=>go ?_)
   ·obtain ⟨x29,hx29,H⟩:=bnd H;refine cx (J7 4 c0 _ hx29 e0  _ (pre 0 1 0 hF hX)) ?_;rintro _ ss6 ⟨t7,rfl,hT,hG⟩;obtain ⟨t8,hX,hF⟩:=aft 0 1 0 hF hX hT hG;refine go ?_;refine st hF 0 rfl fun s9 hF=>?_;refine go ?_;cases pur H;exact rg _ ⟨_,rfl,hX,K0 _⟩
   ·refine stT hF hX 0 rfl fun t11 s10 hF hX=>?_;refine go ?_;refine cdp H (fun h H=>go ?_) (fun h H=>go ?_)
    ·obtain ⟨o13,ho13,H⟩:=bnd H;refine Dk a1 a2 c0 (i64.wrap ((a2.length:Int) - 1)) _ ho13 _ rfl _ tt0 e0 b1 b3 ?_ ?_ _ _ _  S hX hF
     ·intro _ he T15 s16 t17 tT hX hF;have he:=he.symm;subst he
      try dsimp only at H
      refine go ?_;refine st hF 0 rfl fun s18 hF=>?_;refine go ?_;cases pur H;exact rg _ ⟨_,rfl,hX,K0 _⟩
     ·intro r hr s' hs;subst hr;cases pur H;exact hsq hs
    ·refine cdp H (fun h H=>go ?_) (fun h H=>go ?_)
     ·refine bp H (Ae a1.num) fun x66 h H=>cl h (go ?_);refine st hF 0 rfl fun s19 hF=>?_;refine go ?_;cases pur H;exact rg _ ⟨_,rfl,hX,K0 _⟩
     ·refine cdp H (fun h H=>go ?_) (fun h H=>go ?_)
      ·refine bp H (LJ a1.data) fun x71 h H=>cl h (go ?_);refine st hF 0 rfl fun s20 hF=>?_;refine go ?_;cases pur H;exact rg _ ⟨_,rfl,hX,K0 _⟩
      ·refine cdp H (fun h H=>go ?_) (fun h H=>go ?_)
       ·refine st hF 0 rfl fun s21 hF=>?_;refine go ?_;cases pur H;exact rg _ ⟨_,rfl,hX,K0 _⟩
       ·refine cdp H (fun h H=>go ?_) (fun h H=>go ?_)
        ·refine Yi E0 [.v,.v,.v,.v] (by kernel_rfl) ?_
         try simp only [go_sem,↓reduceIte,Zq,Zs,Zt,Zr,Zu,Zv,Kl,q,tT,hF.f,hF.m,hF.x hX,Qd4]
         refine bp H (AP [(Qk #[108,105,115,116]),(Qk #[43]),(Qk #[60]),(Qk #[61]),(Qk #[104,101,97,100]),(Qk #[116,97,105,108])] a1.name) fun x82 h H=>cv h (go ?_);refine cdb H (fun h H=>go ?_) (fun h H=>go ?_)
         ·refine st hF 0 rfl fun s22 hF=>?_;refine go ?_;cases pur H;exact rg _ ⟨_,rfl,hX,K0 _⟩
         ·obtain ⟨x87,hx87,H⟩:=bnd H;refine cx (J7 1 (KU (i64.wrap (c0.fuel - 1)) c0.code) _ hx87 e0  _ (pre 0 1 0 hF hX)) ?_;rintro _ s23 ⟨t24,rfl,hT,hG⟩;obtain ⟨t25,hX,hF⟩:=aft 0 1 0 hF hX hT hG;refine go ?_;refine st hF 0 rfl fun s26 hF=>?_;refine go ?_;cases pur H;exact rg _ ⟨_,rfl,hX,K0 _⟩
        ·refine cdp H (fun h H=>?_) (fun h H=>?_)
         ·obtain ⟨x93,f1,H⟩:=bil (g:=K1) Cor.X5 H;refine go1 ?_;obtain ⟨x96,hx96,H⟩:=bnd H;refine cx (C0 x93 a2 (KU (i64.wrap (c0.fuel - 1)) c0.code) _ hx96 e0  _ (pre 0 1 0 hF hX)) ?_;rintro _ s27 ⟨t28,rfl,hT,hG⟩;obtain ⟨t29,hX,hF⟩:=aft 0 1 0 hF hX hT hG;refine go ?_;refine X8 hF rfl fun b30 s31 hF=>go ?_;refine st hF 0 rfl fun s32 hF=>?_;refine go ?_;obtain ⟨x104,g33,H⟩:=bnd H;refine Yb 3 101 104 (.bool x104) (gi q (fun q=>go ?_) (fun q=>go ?_)) (fun J=>go ?_)
          ·exact Yq 101 g33
          ·exact Yq 101 g33
          refine cdb H (fun h H=>?_) (fun h H=>?_)
          ·obtain ⟨x108,f1,H⟩:=bil (g:=K1) Cor.X5 H;refine go1 ?_;obtain ⟨x111,hx111,H⟩:=bnd H;refine cx (C0 x108 a2 x96.2 _ hx111 e0  _ (pre 0 1 0 hF hX)) ?_;rintro _ s35 ⟨t36,rfl,hT,hG⟩;obtain ⟨tt37,hX,hF⟩:=aft 0 1 0 hF hX hT hG;refine go ?_;refine st hF 1 rfl fun s38 hF=>?_;refine go ?_;cases pur H;exact rg _ ⟨_,rfl,hX,K0 _⟩
          ·obtain ⟨x115,f1,H⟩:=bil (g:=K1) Cor.X5 H;refine go1 ?_;obtain ⟨x118,hx118,H⟩:=bnd H;refine cx (C0 x115 a2 x96.2 _ hx118 e0  _ (pre 0 1 0 hF hX)) ?_;rintro _ s39 ⟨t40,rfl,hT,hG⟩;obtain ⟨t41,hX,hF⟩:=aft 0 1 0 hF hX hT hG;refine go ?_;refine st hF 1 rfl fun s42 hF=>?_;refine go ?_;cases pur H;exact rg _ ⟨_,rfl,hX,K0 _⟩
         ·have hF:=hF.lit 34 16 (rws Zn []) rfl;refine go ?_;obtain ⟨o51,ho51,H⟩:=bnd H;refine L0 a1 a2 [] 0 (i64.wrap (c0.fuel - 1)) c0.code _ ho51 _ rfl _ tt0 e0 b1 b3 ?_ ?_ _ _ _ (.sl true (rws Zn [])) S hX hF
          ·intro Qa5 VM VH he T53 s54 t55 e52v0 tT hX hF;have he:=he.symm;subst he
           try dsimp only at H
           refine go ?_;refine cdn H (fun h H=>go ?_) (fun h H=>go ?_)
           ·refine st hF 0 rfl fun s56 hF=>?_;refine go ?_;cases pur H;exact rg _ ⟨_,rfl,hX,K0 _⟩
           ·obtain ⟨s57,hF,hw58,hb59,hz60⟩:=frz hF 0;refine Qat 9 (by simp [upd,tT]) hw58 hb59 (go ?_);obtain ⟨E,hEq⟩:∃E,E=EE s57 []:=⟨_,rfl⟩
            have n61:¬E b3:=by rw [hEq];exact K4 (hF.at 0 rfl) (by simp)
            have n62:¬E b1:=by rw [hEq];exact K4 (hF.at 1 rfl) (by simp)
            have n63:¬E e0:=by rw [hEq];exact K4 (hF.xat hX 0 rfl) (by simp)
            refine Yi E [.v,.v,.v,.v,.v,.x,.x,.v] (by kernel_rfl) ?_;obtain ⟨x142,f1,H⟩:=bil (g:=Zn) Val.X5 H;obtain ⟨x145,f2,H⟩:=bls (g:=Zn) Val.X5 (lo:=some (i6 1)) (hi:=none) rfl rfl H;have z:=K2 (X9 (hF.at 0 rfl) n61) (K2 (X9 (hF.at 1 rfl) n62) (X9 (hF.xat hX 0 rfl) n63));refine gh2 ?_;refine BK hF rfl fun b64 s65 nw66 mo67 hF=>?_;have z:=K2 (X9 (hF.at 1 rfl) n61) (K2 (X9 (hF.at 2 rfl) n62) (X9 (hF.xat hX 0 rfl) n63));refine gh ?_;refine stK hF 0 (show E _ from ((em0 hEq) _ nw66)) rfl fun s68 hF=>?_;have z:=K2 (X9 (hF.at 1 rfl) n61) (K2 (X9 (hF.at 2 rfl) n62) (X9 (hF.xat hX 0 rfl) n63));refine gh ?_;refine go ?_;refine cdp H (fun h H=>go ?_) (fun h H=>go ?_)
            ·obtain ⟨x154,hx154,H⟩:=bnd H;refine cx (Cw x142.name x145 (KU VM VH) _ hx154 e0  _ (pre 0 1 0 hF hX)) ?_;rintro _ s69 ⟨tt70,rfl,hT,hG⟩;obtain ⟨t71,hX,hF⟩:=aft 0 1 0 hF hX hT hG;refine go ?_;refine st hF 1 rfl fun s72 hF=>?_;refine go ?_;cases pur H;exact rg _ ⟨_,rfl,hX,K0 _⟩
            ·refine cdp H (fun h H=>go ?_) (fun h H=>go ?_)
             ·refine cdn H (fun h H=>go ?_) (fun h H=>go ?_)
              ·obtain ⟨x165,hx165,H⟩:=bnd H;refine cx (J7 3 (KU VM VH) _ hx165 e0  _ (pre 0 1 0 hF hX)) ?_;rintro _ s73 ⟨t74,rfl,hT,hG⟩;obtain ⟨tt75,hX,hF⟩:=aft 0 1 0 hF hX hT hG;refine go ?_;refine st hF 1 rfl fun s76 hF=>?_;refine go ?_;cases pur H;exact rg _ ⟨_,rfl,hX,K0 _⟩
              ·obtain ⟨x168,hx168,H⟩:=bnd H;refine cx (Iz x142.env _ hx168   _ (pre 0 0 0 hF hX)) ?_;rintro v77 s78 ⟨t79,_,rfl,hT,hG⟩;obtain ⟨t80,hX,hF⟩:=aft 0 0 0 hF hX hT hG;refine go ?_;obtain ⟨o83,ho83,H⟩:=bnd H;refine Dl a1 VM VH x142 x145 x168 0 _ ho83 _ rfl _ tt0 e0 b1 b3 b64 ?_ ?_ _ _ _ v77 S hX hF
               ·intro Qgw he T85 s86 t87 e84v0 tT hX hF;have he:=he.symm;subst he;refine go ?_;obtain ⟨E,hEq⟩:∃E,E=EE s86 [e0]:=⟨_,rfl⟩
                have n88:¬E b64:=by rw [hEq];exact K4 (hF.at 0 rfl) (nm1 (neX hF 0 rfl hX 0 rfl))
                have n89:¬E b3:=by rw [hEq];exact K4 (hF.at 1 rfl) (nm1 (neX hF 1 rfl hX 0 rfl))
                have n90:¬E b1:=by rw [hEq];exact K4 (hF.at 2 rfl) (nm1 (neX hF 2 rfl hX 0 rfl))
                refine Yi E [.v,.v,.v,.v,.v,.v,.v,.x,.x,.z] (by kernel_rfl) ?_;obtain ⟨x192,f1,H⟩:=bil (g:=K1) Cor.X5 H;have z:=K2 (X9 (hF.at 0 rfl) n88) (K2 (X9 (hF.at 1 rfl) n89) (X9 (hF.at 2 rfl) n90));refine gh1 ?_;obtain ⟨x195,hx195,H⟩:=bnd H;obtain ⟨s91,hF,hw92,hb93,hz94⟩:=frz hF 0;refine Fy (Iz Qgw _ hx195   _ (pre 0 0 0 hF hX)) (.cons hw92 (fun _=>rfl) .nil) hb93 ?_;rintro v95 s96 ⟨t97,_,rfl,hT,hG⟩
                refine Az ((Fx.kept hT hG (by intro p hp;simp only [List.mem_cons,List.not_mem_nil,or_false] at hp<;>first | (rcases hp with rfl<;>(rw [hEq];first | (refine EE.of ?_;simp;done) | exact EE.new rfl))| cases hp)).to hz94) fun kp99=>?_
                obtain ⟨t98,hX,hF⟩:=aft 0 0 0 hF hX hT hG;have z:=K2 (X9 (hF.at 0 rfl) n88) (K2 (X9 (hF.at 1 rfl) n89) (X9 (hF.at 2 rfl) n90));refine gh ?_;obtain ⟨x196,hx196,H⟩:=bnd H;obtain ⟨s100,hF,hw101,hb102,hz103⟩:=frz hF 0;refine Fy (C0 x192 x195 (KU VM VH) _ hx196 e0  _ (pre 0 1 0 hF hX)) (by (try simp only [sf,i6,zB,Cor.Ya,Fm.Ya]);exact (.cons (Zo hb102 _) id (.cons (Zo hb102 _) id (.cons hw101 (fun _=>rfl) .nil)))) hb102 ?_;rintro _ s104 ⟨t105,rfl,hT,hG⟩
                refine Az ((Fx.kept hT hG (by intro p hp;simp only [List.mem_cons,List.not_mem_nil,or_false] at hp<;>first | (rcases hp with rfl<;>(rw [hEq];first | (refine EE.of ?_;simp;done) | exact EE.new rfl))| cases hp)).to hz103) fun kp107=>?_
                obtain ⟨t106,hX,hF⟩:=aft 0 1 0 hF hX hT hG;have z:=K2 (X9 (hF.at 0 rfl) n88) (K2 (X9 (hF.at 1 rfl) n89) (X9 (hF.at 2 rfl) n90));refine gh ?_;refine st hF 1 rfl fun s108 hF=>?_;have z:=K2 (X9 (hF.at 0 rfl) n88) (K2 (X9 (hF.at 1 rfl) n89) (X9 (hF.at 2 rfl) n90));refine gh ?_;refine go ?_;cases pur H;exact rg [.agg [i6 x196.1.kind,i6 x196.1.num,.str x196.1.name,sf Zn x196.1.items,i6 x196.1.fn.kind,i6 x196.1.fn.id,.str x196.1.fn.name,i6 x196.1.fn.num,sf cI x196.1.fn.ids,i6 x196.1.fn.data.kind,.str x196.1.fn.data.name,i6 x196.1.fn.data.num,sf cI x196.1.fn.data.sc,sf KX x196.1.fn.data.kids,sf K1 x196.1.fn.kids,sf Zp x196.1.env]] ⟨_,rfl,hX,K0 _⟩
               ·trivial
             ·obtain ⟨x198,hx198,H⟩:=bnd H;refine cx (J7 2 (KU VM VH) _ hx198 e0  _ (pre 0 1 0 hF hX)) ?_;rintro _ s109 ⟨t110,rfl,hT,hG⟩;obtain ⟨t111,hX,hF⟩:=aft 0 1 0 hF hX hT hG;refine go ?_;refine st hF 1 rfl fun s112 hF=>?_;refine go ?_;cases pur H;exact rg _ ⟨_,rfl,hX,K0 _⟩
          ·trivial
 ·intro YN VF C0 L0 a1 a2 VX Bn YS J5 out H c hc Q tt0 e0 b1 b3 hE hR T ss tt z1v0 tT hX hF;refine lpy hc rfl fun q=>go ?_;refine cdp H (fun h H=>?_) (fun h H=>go ?_)
  ·obtain ⟨x125,f1,H⟩:=bil (g:=K1) Cor.X5 H;refine go1 ?_;refine X8 hF rfl fun b43 s44 hF=>go ?_;refine st hF 0 rfl fun s45 hF=>?_;refine go ?_;obtain ⟨x131,hx131,H⟩:=bnd H;refine cx (C0 x125 a2 (KU YS J5) _ hx131 e0  _ (pre 0 1 0 hF hX)) ?_;rintro _ s46 ⟨t47,rfl,hT,hG⟩;obtain ⟨t48,hX,hF⟩:=aft 0 1 0 hF hX hT hG;refine go ?_;refine apd (g:=Zn) hF 0 H (rdo (c:=true) (g:=Zn) Val.X5) fun x133 H v49 s50 hF=>go ?_;exact L0 a1 a2 x133 (i64.wrap (Bn+1)) x131.2.fuel x131.2.code _ H _ rfl Q tt0 e0 b1 b3 hE hR _ _ _ v49 S hX (hF.drop 1 0)
  ·exact wq (hE _ _ _ (pur H).symm _ _ _ z1v0 S hX hF)
theorem Pn:∀(a0:Val) (c0:Int) r,JY a0 c0=some r->∀(e0:Nat)  (ss:Sto),Pre ss [(e0,⟨3,1,[i6 c0]⟩)] []->Ctr KY 30 [.agg (Zn a0),.ptr e0 0] ss (fun r' ss'=>∃(tt':Sto),r'=.bool r.1/\Tau (strip ss []) [(e0,⟨3,1,[i6 r.2]⟩)] tt'/\Fx tt' ss' [] []):=by
 refine JY.partial_correctness _ (motive_2:=fun a0 DM YS out=>∀c,Ye Tryz.f30 1=some c->∀(Q:QT) (tt0:Sto) (e0 b1:Nat),(∀(BJ:Int),out=Sum.inr BJ->∀(T:TT) (ss tt:Sto),0+0=0->Tau tt0 [(e0,⟨3,1,[i6 BJ]⟩)] tt->Fx tt ss [(b1,⟨34,16,[i6 a0.kind,i6 a0.num,.str a0.name,sf Zn a0.items,i6 a0.fn.kind,i6 a0.fn.id,.str a0.fn.name,i6 a0.fn.num,sf cI a0.fn.ids,i6 a0.fn.data.kind,.str a0.fn.data.name,i6 a0.fn.data.num,sf cI a0.fn.data.sc,sf KX a0.fn.data.kids,sf K1 a0.fn.kids,sf Zp a0.env]⟩)] []->Q (.ex 2) ⟨T,ss⟩)->(∀r,out=Sum.inl r->∀s',I3 KY [.tmp 4] (fun r' ss'=>∃(tt':Sto),r'=.bool r.1/\Tau tt0 [(e0,⟨3,1,[i6 r.2]⟩)] tt'/\Fx tt' ss' [] []) s'->Q .ret s')->∀(T:TT) (ss tt:Sto),T 1=.ptr e0 0/\T 31=sf Zp a0.env/\T 32=i6 (a0.env.length:Int)/\T 33=i6 DM->Tau tt0 [(e0,⟨3,1,[i6 YS]⟩)] tt->Fx tt ss [(b1,⟨34,16,[i6 a0.kind,i6 a0.num,.str a0.name,sf Zn a0.items,i6 a0.fn.kind,i6 a0.fn.id,.str a0.fn.name,i6 a0.fn.num,sf cI a0.fn.ids,i6 a0.fn.data.kind,.str a0.fn.data.name,i6 a0.fn.data.num,sf cI a0.fn.data.sc,sf KX a0.fn.data.kids,sf K1 a0.fn.kids,sf Zp a0.env]⟩)] []->aLp KY c Q ⟨T,ss⟩) (motive_3:=fun a0 Ij Vl out=>∀c,Ye Tryz.f30 0=some c->∀(Q:QT) (tt0:Sto) (e0 b1:Nat),(∀(BI:Int),out=Sum.inr BI->∀(T:TT) (ss tt:Sto),T 1=.ptr e0 0/\T 2=.ptr b1 0->Tau tt0 [(e0,⟨3,1,[i6 BI]⟩)] tt->Fx tt ss [(b1,⟨34,16,[i6 a0.kind,i6 a0.num,.str a0.name,sf Zn a0.items,i6 a0.fn.kind,i6 a0.fn.id,.str a0.fn.name,i6 a0.fn.num,sf cI a0.fn.ids,i6 a0.fn.data.kind,.str a0.fn.data.name,i6 a0.fn.data.num,sf cI a0.fn.data.sc,sf KX a0.fn.data.kids,sf K1 a0.fn.kids,sf Zp a0.env]⟩)] []->Q (.ex 0) ⟨T,ss⟩)->(∀r,out=Sum.inl r->∀s',I3 KY [.tmp 4] (fun r' ss'=>∃(tt':Sto),r'=.bool r.1/\Tau tt0 [(e0,⟨3,1,[i6 r.2]⟩)] tt'/\Fx tt' ss' [] []) s'->Q .ret s')->∀(T:TT) (ss tt:Sto),T 1=.ptr e0 0/\T 2=.ptr b1 0/\T 19=sf Zn a0.items/\T 20=i6 (a0.items.length:Int)/\T 21=i6 Ij->Tau tt0 [(e0,⟨3,1,[i6 Vl]⟩)] tt->Fx tt ss [(b1,⟨34,16,[i6 a0.kind,i6 a0.num,.str a0.name,sf Zn a0.items,i6 a0.fn.kind,i6 a0.fn.id,.str a0.fn.name,i6 a0.fn.num,sf cI a0.fn.ids,i6 a0.fn.data.kind,.str a0.fn.data.name,i6 a0.fn.data.num,sf cI a0.fn.data.sc,sf KX a0.fn.data.kids,sf K1 a0.fn.kids,sf Zp a0.env]⟩)] []->aLp KY c Q ⟨T,ss⟩) ?_ ?_ ?_
 ·intro Gk Gj L1 L0 a0 c0 r H;intro e0  ss hP;refine hdg mixed Tryz.func30 (rs:=[.tmp 4]) fun q tT=>?_;obtain ⟨hF,hX⟩:=hP.start;generalize strip ss []=tt0 at hF hX ⊢;refine go ?_;refine X8 hF rfl fun b1 ss2 hF=>go ?_;refine stT hF hX 0 rfl fun tt4 ss3 hF hX=>?_;refine go ?_;refine cdp H (fun h H=>go ?_) (fun h H=>go ?_)
  ·cases pur H;exact rg _ ⟨_,rfl,hX,K0 _⟩
  ·obtain ⟨o11,ho11,H⟩:=bnd H;refine L0 a0 0 (i64.wrap (c0 - 1)) _ ho11 _ rfl _ tt0 e0 b1 ?_ ?_ _ _ _  S hX hF
   ·intro RO he T13 s14 t15 tT hX hF;have he:=he.symm;subst he
    try dsimp only at H
    refine go ?_;obtain ⟨o22,ho22,H⟩:=bnd H;refine L1 a0 0 RO _ ho22 _ rfl _ tt0 e0 b1 ?_ ?_ _ _ _  S hX hF
    ·intro Qax he T24 s25 t26 tT hX hF;have he:=he.symm;subst he
     try dsimp only at H
     refine go ?_;cases pur H;exact rg _ ⟨_,rfl,hX,K0 _⟩
    ·intro r hr s' hs;subst hr;cases pur H;exact hsq hs
   ·intro r hr s' hs;subst hr;cases pur H;exact hsq hs
 ·intro JY Gk C0 L1 a0 DM YS out H c hc Q tt0 e0 b1 hE hR T ss tt tT hX hF;refine lpy hc rfl fun q=>go ?_;refine cdp H (fun h H=>?_) (fun h H=>go ?_)
  ·obtain ⟨x35,f1,H⟩:=bil (g:=Zp) Slt.X5 H;refine go1 ?_;refine X8 hF rfl fun b16 s17 hF=>go ?_;refine st hF 0 rfl fun s18 hF=>?_;refine go ?_;obtain ⟨x40,hx40,H⟩:=bnd H;refine cx (C0 x35.val YS _ hx40 e0  _ (pre 0 1 0 hF hX)) ?_;rintro _ s19 ⟨tt20,rfl,hT,hG⟩;obtain ⟨t21,hX,hF⟩:=aft 0 1 0 hF hX hT hG;refine go ?_;refine cdb H (fun h H=>go ?_) (fun h H=>go ?_)
   ·exact wq (hR _ (pur H).symm _ (rg _ ⟨_,rfl,hX,K0 _⟩))
   ·exact L1 a0 (i64.wrap (DM+1)) x40.2 _ H _ rfl Q tt0 e0 b1 hE hR _ _ _  S hX (hF.drop 1 0)
  ·exact wq (hE _ (pur H).symm _ _ _  S hX hF)
 ·intro JY Gj C0 L0 a0 Ij Vl out H c hc Q tt0 e0 b1 hE hR T ss tt tT hX hF;refine lpy hc rfl fun q=>go ?_;refine cdp H (fun h H=>?_) (fun h H=>go ?_)
  ·obtain ⟨x23,f1,H⟩:=bil (g:=Zn) Val.X5 H;refine go1 ?_;refine X8 hF rfl fun b5 ss6 hF=>go ?_;refine st hF 0 rfl fun s7 hF=>?_;refine go ?_;obtain ⟨x27,hx27,H⟩:=bnd H;refine cx (C0 x23 Vl _ hx27 e0  _ (pre 0 1 0 hF hX)) ?_;rintro _ s8 ⟨tt9,rfl,hT,hG⟩;obtain ⟨t10,hX,hF⟩:=aft 0 1 0 hF hX hT hG;refine go ?_;refine cdb H (fun h H=>go ?_) (fun h H=>go ?_)
   ·exact wq (hR _ (pur H).symm _ (rg _ ⟨_,rfl,hX,K0 _⟩))
   ·exact L0 a0 (i64.wrap (Ij+1)) x27.2 _ H _ rfl Q tt0 e0 b1 hE hR _ _ _  S hX (hF.drop 1 0)
  ·exact wq (hE _ (pur H).symm _ _ _  S hX hF)
theorem AG:∀(a0:List Int) r,W9 a0=some r->Y7 KY 76 [.sl (false) (rws cI a0)] (sf cI r):=by
 intro a0 r H ss;unfold W9 at H;refine S5 mixed Tryz.func76 rfl (by kernel_rfl) (rs:=[.tmp 2]) rfl (by kernel_rfl) ?_;have hF:=Fx.refl ss;have hX:=Tau.none ss;have hF:=hF.lit 3 1 (rws cI []) rfl
 cases a0 with
 | nil =>
  obtain ⟨rfl,_⟩:=Cx H
  try simp only [go_sem,↓reduceIte,Zq,Zs,Zt,Zr,Zu,Zv,Kl]
  refine Qew ?_ ?_
  ·try simp only [go_sem,↓reduceIte,Zq,Zs,Zt,Zr,Zu,Zv,Kl]
   exact Qbc (vs:=[.X4]) (by first | (simp only [go_sem,↓reduceIte,Zq,Zs,Zt,Zr,Zu,Zv,Kl];done) | rfl | (simp only [go_sem,↓reduceIte,Zq,Zs,Zt,Zr,Zu,Zv,Kl];rfl)) (Wk.Qpn .X4 hF.sub)
  ·try simp only [go_sem,↓reduceIte,Zq,Zs,Zt,Zr,Zu,Zv,Kl]
   refine To hF 0 (g:=cI) (xs:=[]) (ys:=[]) rfl (by decide) (by decide) (RdL.of (c:=false) (fun _=>rfl) rfl) H fun v1 ss1 hF=>?_
   try simp only [go_sem,↓reduceIte,Zq,Zs,Zt,Zr,Zu,Zv,Kl,hF.cells 0 rfl,hF.len 0 rfl]
   exact Qbc (vs:=[v1]) (by first | (simp only [go_sem,↓reduceIte,Zq,Zs,Zt,Zr,Zu,Zv,Kl,hF.cells 0 rfl,hF.len 0 rfl];done) | rfl | (simp only [go_sem,↓reduceIte,Zq,Zs,Zt,Zr,Zu,Zv,Kl,hF.cells 0 rfl,hF.len 0 rfl];rfl)) (hF.wk 0 rfl)
 | cons x xs =>
  try simp only [go_sem,↓reduceIte,Zq,Zs,Zt,Zr,Zu,Zv,Kl]
  refine To hF 0 (g:=cI) (xs:=[]) (ys:=x :: xs) rfl (by decide) (by decide) (RdL.of (c:=false) (fun _=>rfl) (by first | rfl | simp only [Vj,V5,cI,cU,cS,cL])) H fun v1 ss1 hF=>?_
  try simp only [go_sem,↓reduceIte,Zq,Zs,Zt,Zr,Zu,Zv,Kl,hF.cells 0 rfl,hF.len 0 rfl]
  exact Qbc (vs:=[v1]) (by first | (simp only [go_sem,↓reduceIte,Zq,Zs,Zt,Zr,Zu,Zv,Kl,hF.cells 0 rfl,hF.len 0 rfl];done) | rfl | (simp only [go_sem,↓reduceIte,Zq,Zs,Zt,Zr,Zu,Zv,Kl,hF.cells 0 rfl,hF.len 0 rfl];rfl)) (hF.wk 0 rfl)
theorem MF:∀(a0:Fm) r,Hh a0=some r->Y7 KY 91 [.agg (KX a0)] (.agg (KX r)):=by
 refine Hh.partial_correctness _ (motive_2:=fun a0 x14 X7 DI out=>∀c,Ye Tryz.f91 0=some c->∀(Q:QT) (tt:Sto) (b1 b3 b5:Nat),(∀(YX:List Fm),out=YX->∀(T:TT) (ss:Sto) (e0v0:AV),T 2=.ptr b3 0/\T 3=.ptr b5 0->Fx tt ss [(b5,⟨26,5,[i6 a0.kind,.str a0.name,i6 a0.num,sf cI x14,e0v0]⟩),(b3,⟨26,5,[i6 0,.str zB,i6 0,.X4,.X4]⟩),(b1,⟨26,5,[i6 a0.kind,.str a0.name,i6 a0.num,sf cI a0.sc,sf KX a0.kids]⟩)] [⟨e0v0,26,5,rws KX YX⟩]->Q (.ex 0) ⟨T,ss⟩)->True->∀(T:TT) (ss:Sto) (z0v0:AV),T 2=.ptr b3 0/\T 3=.ptr b5 0/\T 17=sf KX a0.kids/\T 18=i6 (a0.kids.length:Int)/\T 19=i6 DI->Fx tt ss [(b5,⟨26,5,[i6 a0.kind,.str a0.name,i6 a0.num,sf cI x14,z0v0]⟩),(b3,⟨26,5,[i6 0,.str zB,i6 0,.X4,.X4]⟩),(b1,⟨26,5,[i6 a0.kind,.str a0.name,i6 a0.num,sf cI a0.sc,sf KX a0.kids]⟩)] [⟨z0v0,26,5,rws KX X7⟩]->aLp KY c Q ⟨T,ss⟩) ?_ ?_
 ·intro Jc L0 a0 r H;intro ss;refine hdh mixed Tryz.func91 (rs:=[.cell 2 26]) fun q tT hF hX=>?_;refine go ?_;refine X8 hF rfl fun b1 ss2 hF=>go ?_;refine X8 hF rfl fun b3 ss4 hF=>go ?_;refine Yi E0 [.v,.v,.v,.v,.v,.v,.v,.v,.v,.v,.x,.z] (by kernel_rfl) (go ?_);refine bp H (AG a0.sc) fun x14 h H=>cv h (go ?_);refine J6 hF rfl fun b5 ss6 hF=>go ?_;refine st hF 0 rfl fun s7 hF=>?_;have hF:=hF.nil 26 5;refine go ?_;obtain ⟨o14,ho14,H⟩:=bnd H;refine L0 a0 x14 [] 0 _ ho14 _ rfl _ _ b1 b3 b5 ?_ ?_ _ _ .X4 S hF
  ·intro Jl he T16 s17 e15v0 tT hF;have he:=he.symm;subst he;refine go ?_;refine st hF 1 rfl fun s19 hF=>?_;refine go ?_;cases pur H;exact rt _
  ·trivial
 ·intro Hh Jc C0 L0 a0 x14 X7 DI out H c hc Q tt b1 b3 b5 hE hR T ss z0v0 tT hF;refine lpx tt hc rfl fun q hX=>go ?_;refine cdp H (fun h H=>?_) (fun h H=>go ?_)
  ·obtain ⟨x21,f1,H⟩:=bil (g:=KX) Fm.X5 H;refine go1 ?_;refine X8 hF rfl fun b8 s9 hF=>go ?_;refine st hF 0 rfl fun s10 hF=>?_;refine go ?_;refine Yi E0 [.v,.v,.v,.v,.v,.x,.v,.z] (by kernel_rfl) (go ?_);refine bp H (C0 x21) fun x26 h H=>cv h (go ?_);refine NI (g:=KX) hF 0 H (rdo (c:=true) (g:=KX) Fm.X5) fun x28 H v11 s12 hF=>go ?_;refine st hF 1 (hF.cells 0 rfl) fun s13 hF=>?_;refine go ?_;exact L0 a0 x14 x28 (i64.wrap (DI+1)) _ H _ rfl Q tt b1 b3 b5 hE hR _ _ v11 S (hF.drop 1 0)
  ·exact wq (hE _ (pur H).symm _ _ z0v0 S hF)
theorem ME:∀(a0:Cor) r,Hg a0=some r->Y7 KY 57 [.agg (K1 a0)] (.agg (K1 r)):=by
 refine Hg.partial_correctness _ (motive_2:=fun a0 x16 x19 X7 DK out=>∀c,Ye Tryz.f57 0=some c->∀(Q:QT) (tt:Sto) (b1 b3 b5:Nat),(∀(YX:List Cor),out=YX->∀(T:TT) (ss:Sto) (e0v0:AV),T 2=.ptr b3 0/\T 3=.ptr b5 0->Fx tt ss [(b5,⟨31,11,[i6 a0.kind,i6 a0.id,.str a0.name,i6 a0.num,sf cI x16,i6 x19.kind,.str x19.name,i6 x19.num,sf cI x19.sc,sf KX x19.kids,e0v0]⟩),(b3,⟨31,11,[i6 0,i6 0,.str zB,i6 0,.X4,i6 0,.str zB,i6 0,.X4,.X4,.X4]⟩),(b1,⟨31,11,[i6 a0.kind,i6 a0.id,.str a0.name,i6 a0.num,sf cI a0.ids,i6 a0.data.kind,.str a0.data.name,i6 a0.data.num,sf cI a0.data.sc,sf KX a0.data.kids,sf K1 a0.kids]⟩)] [⟨e0v0,31,11,rws K1 YX⟩]->Q (.ex 0) ⟨T,ss⟩)->True->∀(T:TT) (ss:Sto) (z0v0:AV),T 2=.ptr b3 0/\T 3=.ptr b5 0/\T 22=sf K1 a0.kids/\T 23=i6 (a0.kids.length:Int)/\T 24=i6 DK->Fx tt ss [(b5,⟨31,11,[i6 a0.kind,i6 a0.id,.str a0.name,i6 a0.num,sf cI x16,i6 x19.kind,.str x19.name,i6 x19.num,sf cI x19.sc,sf KX x19.kids,z0v0]⟩),(b3,⟨31,11,[i6 0,i6 0,.str zB,i6 0,.X4,i6 0,.str zB,i6 0,.X4,.X4,.X4]⟩),(b1,⟨31,11,[i6 a0.kind,i6 a0.id,.str a0.name,i6 a0.num,sf cI a0.ids,i6 a0.data.kind,.str a0.data.name,i6 a0.data.num,sf cI a0.data.sc,sf KX a0.data.kids,sf K1 a0.kids]⟩)] [⟨z0v0,31,11,rws K1 X7⟩]->aLp KY c Q ⟨T,ss⟩) ?_ ?_
 ·intro Jb L0 a0 r H;intro ss;refine hdh mixed Tryz.func57 (rs:=[.cell 2 31]) fun q tT hF hX=>?_;refine go ?_;refine X8 hF rfl fun b1 ss2 hF=>go ?_;refine X8 hF rfl fun b3 ss4 hF=>go ?_;refine Yi E0 [.v,.v,.v,.v,.v,.v,.v,.v,.v,.v,.v,.v,.v,.v,.v,.x,.z] (by kernel_rfl) (go ?_);refine bp H (AG a0.ids) fun x16 h H=>cv h (go ?_);refine bp H (MF a0.data) fun x19 h H=>cv h (go ?_);refine J6 hF rfl fun b5 ss6 hF=>go ?_;refine st hF 0 rfl fun s7 hF=>?_;have hF:=hF.nil 31 11;refine go ?_;obtain ⟨o14,ho14,H⟩:=bnd H;refine L0 a0 x16 x19 [] 0 _ ho14 _ rfl _ _ b1 b3 b5 ?_ ?_ _ _ .X4 S hF
  ·intro Jl he T16 s17 e15v0 tT hF;have he:=he.symm;subst he;refine go ?_;refine st hF 1 rfl fun s19 hF=>?_;refine go ?_;cases pur H;exact rt _
  ·trivial
 ·intro Hg Jb C0 L0 a0 x16 x19 X7 DK out H c hc Q tt b1 b3 b5 hE hR T ss z0v0 tT hF;refine lpx tt hc rfl fun q hX=>go ?_;refine cdp H (fun h H=>?_) (fun h H=>go ?_)
  ·obtain ⟨x26,f1,H⟩:=bil (g:=K1) Cor.X5 H;refine go1 ?_;refine X8 hF rfl fun b8 s9 hF=>go ?_;refine st hF 0 rfl fun s10 hF=>?_;refine go ?_;refine Yi E0 [.v,.v,.v,.v,.v,.x,.v,.z] (by kernel_rfl) (go ?_);refine bp H (C0 x26) fun x31 h H=>cv h (go ?_);refine NI (g:=K1) hF 0 H (rdo (c:=true) (g:=K1) Cor.X5) fun x33 H v11 s12 hF=>go ?_;refine st hF 1 (hF.cells 0 rfl) fun s13 hF=>?_;refine go ?_;exact L0 a0 x16 x19 x33 (i64.wrap (DK+1)) _ H _ rfl Q tt b1 b3 b5 hE hR _ _ v11 S (hF.drop 1 0)
  ·exact wq (hE _ (pur H).symm _ _ z0v0 S hF)
theorem LH:∀(a0:Val) r,Wf a0=some r->Y7 KY 31 [.agg (Zn a0)] (.agg (Zn r)):=by
 refine Wf.partial_correctness _ (motive_2:=fun a0 x16 Jl VU DN out=>∀c,Ye Tryz.f31 1=some c->∀(Q:QT) (tt:Sto) (b1 b3 b5:Nat) (e15v0:AV),(∀(FI:List Slt),out=FI->∀(T:TT) (ss:Sto) (e1v1:AV),T 2=.ptr b3 0/\T 3=.ptr b5 0->Fx tt ss [(b5,⟨34,16,[i6 a0.kind,i6 a0.num,.str a0.name,e15v0,i6 x16.kind,i6 x16.id,.str x16.name,i6 x16.num,sf cI x16.ids,i6 x16.data.kind,.str x16.data.name,i6 x16.data.num,sf cI x16.data.sc,sf KX x16.data.kids,sf K1 x16.kids,e1v1]⟩),(b3,⟨34,16,[i6 0,i6 0,.str zB,.X4,i6 0,i6 0,.str zB,i6 0,.X4,i6 0,.str zB,i6 0,.X4,.X4,.X4,.X4]⟩),(b1,⟨34,16,[i6 a0.kind,i6 a0.num,.str a0.name,sf Zn a0.items,i6 a0.fn.kind,i6 a0.fn.id,.str a0.fn.name,i6 a0.fn.num,sf cI a0.fn.ids,i6 a0.fn.data.kind,.str a0.fn.data.name,i6 a0.fn.data.num,sf cI a0.fn.data.sc,sf KX a0.fn.data.kids,sf K1 a0.fn.kids,sf Zp a0.env]⟩)] [⟨e1v1,78,17,rws Zp FI⟩,⟨e15v0,34,16,rws Zn Jl⟩]->Q (.ex 2) ⟨T,ss⟩)->True->∀(T:TT) (ss:Sto) (z1v1:AV),T 2=.ptr b3 0/\T 3=.ptr b5 0/\T 34=sf Zp a0.env/\T 35=i6 (a0.env.length:Int)/\T 36=i6 DN->Fx tt ss [(b5,⟨34,16,[i6 a0.kind,i6 a0.num,.str a0.name,e15v0,i6 x16.kind,i6 x16.id,.str x16.name,i6 x16.num,sf cI x16.ids,i6 x16.data.kind,.str x16.data.name,i6 x16.data.num,sf cI x16.data.sc,sf KX x16.data.kids,sf K1 x16.kids,z1v1]⟩),(b3,⟨34,16,[i6 0,i6 0,.str zB,.X4,i6 0,i6 0,.str zB,i6 0,.X4,i6 0,.str zB,i6 0,.X4,.X4,.X4,.X4]⟩),(b1,⟨34,16,[i6 a0.kind,i6 a0.num,.str a0.name,sf Zn a0.items,i6 a0.fn.kind,i6 a0.fn.id,.str a0.fn.name,i6 a0.fn.num,sf cI a0.fn.ids,i6 a0.fn.data.kind,.str a0.fn.data.name,i6 a0.fn.data.num,sf cI a0.fn.data.sc,sf KX a0.fn.data.kids,sf K1 a0.fn.kids,sf Zp a0.env]⟩)] [⟨z1v1,78,17,rws Zp VU⟩,⟨e15v0,34,16,rws Zn Jl⟩]->aLp KY c Q ⟨T,ss⟩) (motive_3:=fun a0 x16 X7 Ij out=>∀c,Ye Tryz.f31 0=some c->∀(Q:QT) (tt:Sto) (b1 b3 b5:Nat),(∀(YX:List Val),out=YX->∀(T:TT) (ss:Sto) (e0v0:AV),T 1=.ptr b1 0/\T 2=.ptr b3 0/\T 3=.ptr b5 0->Fx tt ss [(b5,⟨34,16,[i6 a0.kind,i6 a0.num,.str a0.name,e0v0,i6 x16.kind,i6 x16.id,.str x16.name,i6 x16.num,sf cI x16.ids,i6 x16.data.kind,.str x16.data.name,i6 x16.data.num,sf cI x16.data.sc,sf KX x16.data.kids,sf K1 x16.kids,.X4]⟩),(b3,⟨34,16,[i6 0,i6 0,.str zB,.X4,i6 0,i6 0,.str zB,i6 0,.X4,i6 0,.str zB,i6 0,.X4,.X4,.X4,.X4]⟩),(b1,⟨34,16,[i6 a0.kind,i6 a0.num,.str a0.name,sf Zn a0.items,i6 a0.fn.kind,i6 a0.fn.id,.str a0.fn.name,i6 a0.fn.num,sf cI a0.fn.ids,i6 a0.fn.data.kind,.str a0.fn.data.name,i6 a0.fn.data.num,sf cI a0.fn.data.sc,sf KX a0.fn.data.kids,sf K1 a0.fn.kids,sf Zp a0.env]⟩)] [⟨e0v0,34,16,rws Zn YX⟩]->Q (.ex 0) ⟨T,ss⟩)->True->∀(T:TT) (ss:Sto) (z0v0:AV),T 1=.ptr b1 0/\T 2=.ptr b3 0/\T 3=.ptr b5 0/\T 19=sf Zn a0.items/\T 20=i6 (a0.items.length:Int)/\T 21=i6 Ij->Fx tt ss [(b5,⟨34,16,[i6 a0.kind,i6 a0.num,.str a0.name,z0v0,i6 x16.kind,i6 x16.id,.str x16.name,i6 x16.num,sf cI x16.ids,i6 x16.data.kind,.str x16.data.name,i6 x16.data.num,sf cI x16.data.sc,sf KX x16.data.kids,sf K1 x16.kids,.X4]⟩),(b3,⟨34,16,[i6 0,i6 0,.str zB,.X4,i6 0,i6 0,.str zB,i6 0,.X4,i6 0,.str zB,i6 0,.X4,.X4,.X4,.X4]⟩),(b1,⟨34,16,[i6 a0.kind,i6 a0.num,.str a0.name,sf Zn a0.items,i6 a0.fn.kind,i6 a0.fn.id,.str a0.fn.name,i6 a0.fn.num,sf cI a0.fn.ids,i6 a0.fn.data.kind,.str a0.fn.data.name,i6 a0.fn.data.num,sf cI a0.fn.data.sc,sf KX a0.fn.data.kids,sf K1 a0.fn.kids,sf Zp a0.env]⟩)] [⟨z0v0,34,16,rws Zn X7⟩]->aLp KY c Q ⟨T,ss⟩) ?_ ?_ ?_
 ·intro Ww Wv L1 L0 a0 r H;intro ss;refine hdh mixed Tryz.func31 (rs:=[.cell 2 34]) fun q tT hF hX=>?_;refine go ?_;refine X8 hF rfl fun b1 ss2 hF=>go ?_;refine X8 hF rfl fun b3 ss4 hF=>go ?_;refine Yi E0 [.v,.v,.v,.v,.v,.v,.v,.v,.v,.v,.x,.z] (by kernel_rfl) (go ?_);refine bp H (ME a0.fn) fun x16 h H=>cv h (go ?_);refine J6 hF rfl fun b5 ss6 hF=>go ?_;refine st hF 0 rfl fun s7 hF=>?_;have hF:=hF.nil 34 16;refine go ?_;obtain ⟨o14,ho14,H⟩:=bnd H;refine L0 a0 x16 [] 0 _ ho14 _ rfl _ _ b1 b3 b5 ?_ ?_ _ _ .X4 S hF
  ·intro Jl he T16 s17 e15v0 tT hF;have he:=he.symm;subst he;have hF:=hF.nil 78 17;refine go ?_;obtain ⟨o25,ho25,H⟩:=bnd H;refine L1 a0 x16 Jl [] 0 _ ho25 _ rfl _ _ b1 b3 b5 e15v0 ?_ ?_ _ _ .X4 S hF
   ·intro Ql8 he T27 s28 e26v1 tT hF;have he:=he.symm;subst he;refine go ?_;refine st hF 1 rfl fun s30 hF=>?_;refine go ?_;cases pur H;exact rt _
   ·trivial
  ·trivial
 ·intro Wf Ww C0 L1 a0 x16 Jl VU DN out H c hc Q tt b1 b3 b5 e15v0 hE hR T ss z1v1 tT hF;refine lpx tt hc rfl fun q hX=>go ?_;refine cdp H (fun h H=>?_) (fun h H=>go ?_)
  ·obtain ⟨x38,f1,H⟩:=bil (g:=Zp) Slt.X5 H;refine go1 ?_;refine X8 hF rfl fun b19 s20 hF=>go ?_;refine st hF 0 rfl fun s21 hF=>?_;refine go ?_;refine Yi E0 [.v,.v,.v,.v,.v,.v,.v,.v,.v,.x,.v,.z] (by kernel_rfl) (go ?_);refine bp H (C0 x38.val) fun x46 h H=>cv h (go ?_);refine NI (g:=Zp) hF 0 H (rdo (c:=true) (g:=Zp) Slt.X5) fun x49 H v22 s23 hF=>go ?_;refine st hF 1 (hF.cells 0 rfl) fun s24 hF=>?_;refine go ?_;exact L1 a0 x16 Jl x49 (i64.wrap (DN+1)) _ H _ rfl Q tt b1 b3 b5 e15v0 hE hR _ _ v22 S (hF.drop 1 0)
  ·exact wq (hE _ (pur H).symm _ _ z1v1 S hF)
 ·intro Wf Wv C0 L0 a0 x16 X7 Ij out H c hc Q tt b1 b3 b5 hE hR T ss z0v0 tT hF;refine lpx tt hc rfl fun q hX=>go ?_;refine cdp H (fun h H=>?_) (fun h H=>go ?_)
  ·obtain ⟨x23,f1,H⟩:=bil (g:=Zn) Val.X5 H;refine go1 ?_;refine X8 hF rfl fun b8 s9 hF=>go ?_;refine st hF 0 rfl fun s10 hF=>?_;refine go ?_;refine Yi E0 [.v,.v,.v,.v,.v,.x,.v,.z] (by kernel_rfl) (go ?_);refine bp H (C0 x23) fun x28 h H=>cv h (go ?_);refine NI (g:=Zn) hF 0 H (rdo (c:=true) (g:=Zn) Val.X5) fun x30 H v11 s12 hF=>go ?_;refine st hF 1 (hF.cells 0 rfl) fun s13 hF=>?_;refine go ?_;exact L0 a0 x16 x30 (i64.wrap (Ij+1)) _ H _ rfl Q tt b1 b3 b5 hE hR _ _ v11 S (hF.drop 1 0)
  ·exact wq (hE _ (pur H).symm _ _ z0v0 S hF)
theorem DC:∀(a0:Cor) (a1:Int) r,IM a0 a1=some r->Y7 KY 14 [.agg (K1 a0),i6 a1] (.tup [.agg (Zn r.1),i6 r.2]):=by
 intro a0 a1 r H;intro ss;unfold IM at H;refine hdh mixed Tryz.func14 (rs:=[.cell 4 34,.tmp 5]) fun q tT hF hX=>?_;refine go ?_;refine X8 hF rfl fun b1 ss2 hF=>go ?_;refine X8 hF rfl fun b3 ss4 hF=>go ?_;refine bp H (LF a0) fun x10 h H=>cl h (go ?_);obtain ⟨x16,g5,H⟩:=bnd H;refine Yb 3 13 16 (.bool x16) (giN q (fun q=>?_) (fun q=>?_)) (fun J=>go ?_)
 ·rw [if_neg (dbf q)] at g5;refine go ?_;obtain ⟨x14,hx14,g5⟩:=bnd g5;refine cl (Ht a1 0 3000 _ hx14) (go ?_);exact Yq 13 g5
 ·rw [if_pos (dbt q)] at g5;refine go ?_;exact Yq 13 g5
 refine cdb H (fun h H=>go ?_) (fun h H=>go ?_)
 ·refine st hF 0 rfl fun s7 hF=>?_;refine go ?_;cases pur H;exact rt _
 ·refine X8 hF rfl fun b8 s9 hF=>go ?_;obtain ⟨x23,hx23,H⟩:=bnd H;refine cx (EH a0 [] (KU a1 0) _ hx23 b8  _ (pre 1 0 0 hF hX)) ?_;rintro _ s10 ⟨t11,rfl,hT,hG⟩;have hF:=O7 1 0 hF hX hT hG;refine go ?_;refine X8 hF rfl fun b13 s14 hF=>go ?_;refine st hF 0 rfl fun s15 hF=>?_;refine go ?_;refine cdn H (fun h H=>go ?_) (fun h H=>go ?_)
  ·obtain ⟨E,hEq⟩:∃E,E=EE s15 [b3]:=⟨_,rfl⟩
   have n16:¬E b13:=by rw [hEq];exact K4 (hF.at 0 rfl) (nm1 (neL hF 0 2 rfl rfl (by decide)))
   have n17:¬E b8:=by rw [hEq];exact K4 (hF.at 1 rfl) (nm1 (neL hF 1 2 rfl rfl (by decide)))
   have n18:¬E b1:=by rw [hEq];exact K4 (hF.at 3 rfl) (nm1 (neL hF 3 2 rfl rfl (by decide)))
   refine Yi E [.v,.v,.v,.v,.v,.x,.v] (by kernel_rfl) ?_;have z:=K2 (X9 (hF.at 0 rfl) n16) (K2 (X9 (hF.at 1 rfl) n17) (X9 (hF.at 3 rfl) n18));refine gh ?_;refine stK hF 2 (by rw [hEq];exact EE.of (by simp)) rfl fun s19 hF=>?_;have z:=K2 (X9 (hF.at 0 rfl) n16) (K2 (X9 (hF.at 1 rfl) n17) (X9 (hF.at 3 rfl) n18));refine gh ?_;refine go ?_;cases pur H;exact rt [.agg [i6 0,i6 0,.str zB,.X4,i6 0,i6 0,.str zB,i6 0,.X4,i6 0,.str zB,i6 0,.X4,.X4,.X4,.X4],i6 x23.2.code]
  ·refine X8 hF rfl fun b20 s21 hF=>go ?_;refine st hF 0 rfl fun s22 hF=>?_;refine go ?_;obtain ⟨x35,hx35,H⟩:=bnd H;refine cx (Pn x23.1 2000 _ hx35 b20  _ (pre 1 0 0 hF hX)) ?_;rintro _ s23 ⟨t24,rfl,hT,hG⟩;have hF:=O7 1 0 hF hX hT hG;refine go ?_;refine cdb H (fun h H=>go ?_) (fun h H=>go ?_)
   ·refine st hF 3 rfl fun s26 hF=>?_;refine go ?_;cases pur H;exact rt _
   ·refine bp H (LH x23.1) fun x39 h H=>cl h (go ?_);refine st hF 3 rfl fun s27 hF=>?_;refine go ?_;cases pur H;exact rt _
theorem Mj:∀(a0:List Slt) (a1 Yg:Int) out,GK a0 a1 Yg=some out->∀c,Ye Tryz.f69 0=some c->∀(Q:QT) (tt:Sto) (b1:Nat),(∀(_u:Unit),out=Sum.inr ()->∀(T:TT) (ss:Sto),T 4=.ptr b1 0->Fx tt ss [(b1,⟨34,16,[i6 0,i6 0,.str zB,.X4,i6 0,i6 0,.str zB,i6 0,.X4,i6 0,.str zB,i6 0,.X4,.X4,.X4,.X4]⟩)] []->Q (.ex 0) ⟨T,ss⟩)->(∀r,out=Sum.inl r->∀s',I3 KY [.cell 4 34] (fun r' ss'=>r'=.agg (Zn r)/\ss'=tt) s'->Q .ret s')->∀(T:TT) (ss:Sto),T 0=sf Zp a0/\T 1=i6 a1/\T 4=.ptr b1 0/\T 5=i6 Yg->Fx tt ss [(b1,⟨34,16,[i6 0,i6 0,.str zB,.X4,i6 0,i6 0,.str zB,i6 0,.X4,i6 0,.str zB,i6 0,.X4,.X4,.X4,.X4]⟩)] []->aLp KY c Q ⟨T,ss⟩:=by
 intro a0 a1 Yg;revert Yg;refine GK.partial_correctness a0 a1 _ ?_;intro GK IH Yg out H c hc Q tt b1 hE hR T ss tT hF;refine lpx tt hc rfl fun q hX=>go ?_;refine cdp H (fun h H=>?_) (fun h H=>go ?_)
 ·obtain ⟨x15,f1,H⟩:=bil (g:=Zp) Slt.X5 H;refine go1 ?_;refine go ?_;refine cdp H (fun h H=>?_) (fun h H=>go ?_)
  ·obtain ⟨x22,f1,H⟩:=bil (g:=Zp) Slt.X5 H;refine go1 ?_;refine st hF 0 rfl fun ss3 hF=>?_;refine go ?_;exact wq (hR _ (pur H).symm _ (rt _))
  ·exact IH  (i64.wrap (Yg - 1)) _ H _ rfl Q tt b1 hE hR _ _  S hF
 ·exact wq (hE () (pur H).symm _ _  S hF)
theorem PY:∀(a0:List Slt) (a1:Int) r,B5 a0 a1=some r->Y7 KY 69 [sf Zp a0,i6 a1] (.agg (Zn r)):=by
 intro a0 a1 r H;intro ss;unfold B5 at H;refine hdh mixed Tryz.func69 (rs:=[.cell 4 34]) fun q tT hF hX=>?_;refine go ?_;refine X8 hF rfl fun b1 ss2 hF=>go ?_;obtain ⟨o4,ho4,H⟩:=bnd H;refine Mj a0 a1 (i64.wrap ((a0.length:Int) - 1)) _ ho4 _ rfl _ _ b1 ?_ ?_ _ _  S hF
 ·intro _ he T6 s7 tT hF;have he:=he.symm;subst he
  try dsimp only at H
  refine go ?_;refine st hF 0 rfl fun s9 hF=>?_;refine go ?_;cases pur H;exact rt _
 ·intro r hr s' hs;subst hr;cases pur H;exact hsq hs
theorem PV:∀(a0:Fm) r,IK a0=some r->Y7 KY 26 [.agg (KX a0)] (.agg (Zn r)):=by
 refine IK.partial_correctness _ (motive_2:=fun a0 X7 YI out=>∀c,Ye Tryz.f26 0=some c->∀(Q:QT) (tt:Sto) (b1 b3 b7:Nat),(∀(YX:List Val),out=YX->∀(T:TT) (ss:Sto) (e0v0:AV),T 2=.ptr b3 0/\T 3=.ptr b7 0->Fx tt ss [(b7,⟨34,16,[i6 3,i6 0,.str zB,e0v0,i6 0,i6 0,.str zB,i6 0,.X4,i6 0,.str zB,i6 0,.X4,.X4,.X4,.X4]⟩),(b3,⟨34,16,[i6 0,i6 0,.str zB,.X4,i6 0,i6 0,.str zB,i6 0,.X4,i6 0,.str zB,i6 0,.X4,.X4,.X4,.X4]⟩),(b1,⟨26,5,[i6 a0.kind,.str a0.name,i6 a0.num,sf cI a0.sc,sf KX a0.kids]⟩)] [⟨e0v0,34,16,rws Zn YX⟩]->Q (.ex 1) ⟨T,ss⟩)->True->∀(T:TT) (ss:Sto) (z0v0:AV),T 1=.ptr b1 0/\T 2=.ptr b3 0/\T 3=.ptr b7 0/\T 4=i6 YI->Fx tt ss [(b7,⟨34,16,[i6 3,i6 0,.str zB,z0v0,i6 0,i6 0,.str zB,i6 0,.X4,i6 0,.str zB,i6 0,.X4,.X4,.X4,.X4]⟩),(b3,⟨34,16,[i6 0,i6 0,.str zB,.X4,i6 0,i6 0,.str zB,i6 0,.X4,i6 0,.str zB,i6 0,.X4,.X4,.X4,.X4]⟩),(b1,⟨26,5,[i6 a0.kind,.str a0.name,i6 a0.num,sf cI a0.sc,sf KX a0.kids]⟩)] [⟨z0v0,34,16,rws Zn X7⟩]->aLp KY c Q ⟨T,ss⟩) ?_ ?_
 ·intro GI L0 a0 r H;intro ss;refine hdh mixed Tryz.func26 (rs:=[.cell 2 34]) fun q tT hF hX=>?_;refine go ?_;refine X8 hF rfl fun b1 ss2 hF=>go ?_;refine X8 hF rfl fun b3 ss4 hF=>go ?_;refine cdp H (fun h H=>go ?_) (fun h H=>go ?_)
  ·refine st hF 0 rfl fun ss5 hF=>?_;refine go ?_;cases pur H;exact rt _
  ·refine cdp H (fun h H=>go ?_) (fun h H=>go ?_)
   ·refine st hF 0 rfl fun ss6 hF=>?_;refine go ?_;cases pur H;exact rt _
   ·refine X8 hF rfl fun b7 s8 hF=>go ?_;refine st hF 0 rfl fun s9 hF=>?_;have hF:=hF.nil 34 16;refine go ?_;obtain ⟨o13,ho13,H⟩:=bnd H;refine L0 a0 [] 0 _ ho13 _ rfl _ _ b1 b3 b7 ?_ ?_ _ _ .X4 S hF
    ·intro I4 he T15 s16 e14v0 tT hF;have he:=he.symm;subst he;refine go ?_;refine st hF 1 rfl fun s18 hF=>?_;refine go ?_;cases pur H;exact rt _
    ·trivial
 ·intro IK GI C0 L0 a0 X7 YI out H c hc Q tt b1 b3 b7 hE hR T ss z0v0 tT hF;refine lpx tt hc rfl fun q hX=>go ?_;refine cdp H (fun h H=>go ?_) (fun h H=>go ?_)
  ·refine Yi E0 [.v,.v,.v,.v,.v,.v,.v,.v,.v,.x,.v,.z] (by kernel_rfl) ?_;obtain ⟨x30,f1,H⟩:=bil (g:=KX) Fm.X5 H;refine go1 ?_;refine bp H (C0 x30) fun x32 h H=>cv h (go ?_);refine NI (g:=Zn) hF 0 H (rdo (c:=true) (g:=Zn) Val.X5) fun x34 H v10 s11 hF=>go ?_;refine st hF 0 (hF.cells 0 rfl) fun s12 hF=>?_;refine go ?_;exact L0 a0 x34 (i64.wrap (YI+1)) _ H _ rfl Q tt b1 b3 b7 hE hR _ _ v10 S hF
  ·exact wq (hE _ (pur H).symm _ _ z0v0 S hF)
theorem OH:∀  r,Ct  = some r->Y7 KY 71 [] (sf cS r):=by
 intro  r H;intro ss;unfold Ct at H;refine hdh mixed Tryz.func71 (rs:=[.tmp 0]) fun q tT hF hX=>?_;refine go ?_;cases pur H;exact rt _
theorem Oi:∀(a0:List ByteArray) (a1:ByteArray) (Yg:Int) out,Hi a0 a1 Yg=some out->∀c,Ye Tryz.f70 0=some c->∀(Q:QT) (tt:Sto),(∀(_u:Unit),out=Sum.inr ()->∀(T:TT) (ss:Sto),0+0=0->Fx tt ss [] []->Q (.ex 0) ⟨T,ss⟩)->(∀r,out=Sum.inl r->∀s',I3 KY [.tmp 4] (fun r' ss'=>r'=.bool r/\ss'=tt) s'->Q .ret s')->∀(T:TT) (ss:Sto),T 0=sf cS a0/\T 1=.str a1/\T 5=i6 Yg->Fx tt ss [] []->aLp KY c Q ⟨T,ss⟩:=by
 intro a0 a1 Yg;revert Yg;refine Hi.partial_correctness a0 a1 _ ?_;intro Hi IH Yg out H c hc Q tt  hE hR T ss tT hF;refine lpx tt hc rfl fun q hX=>go ?_;refine cdp H (fun h H=>?_) (fun h H=>go ?_)
 ·obtain ⟨x14,f1,H⟩:=bil (g:=cS) (fun _=>rfl) H;refine go1 ?_;refine go ?_;refine cdp H (fun h H=>go ?_) (fun h H=>go ?_)
  ·exact wq (hR _ (pur H).symm _ (rt _))
  ·exact IH  (i64.wrap (Yg+1)) _ H _ rfl Q tt  hE hR _ _  S hF
 ·exact wq (hE () (pur H).symm _ _  S hF)
theorem TI:∀(a0:List ByteArray) (a1:ByteArray) r,Eg a0 a1=some r->Y7 KY 70 [sf cS a0,.str a1] (.bool r):=by
 intro a0 a1 r H;intro ss;unfold Eg at H;refine hdh mixed Tryz.func70 (rs:=[.tmp 4]) fun q tT hF hX=>?_;refine go ?_;obtain ⟨o1,ho1,H⟩:=bnd H;refine Oi a0 a1 0 _ ho1 _ rfl _ _  ?_ ?_ _ _  S hF
 ·intro _ he T3 ss4 tT hF;have he:=he.symm;subst he
  try dsimp only at H
  refine go ?_;cases pur H;exact rt _
 ·intro r hr s' hs;subst hr;cases pur H;exact hsq hs
theorem Nj:∀(a0:List Val) (HC Yg:Int) out,Gh a0 HC Yg=some out->∀c,Ye Tryz.f128 0=some c->∀(Q:QT) (tt:Sto) (b1 b3:Nat),(∀(Qgl:Int),out=Sum.inr Qgl->∀(T:TT) (ss:Sto),T 2=.ptr b1 0/\T 4=.ptr b3 0->Fx tt ss [(b3,⟨34,16,[i6 1,i6 Qgl,.str zB,.X4,i6 0,i6 0,.str zB,i6 0,.X4,i6 0,.str zB,i6 0,.X4,.X4,.X4,.X4]⟩),(b1,⟨34,16,[i6 0,i6 0,.str zB,.X4,i6 0,i6 0,.str zB,i6 0,.X4,i6 0,.str zB,i6 0,.X4,.X4,.X4,.X4]⟩)] []->Q (.ex 0) ⟨T,ss⟩)->(∀r,out=Sum.inl r->∀s',I3 KY [.cell 2 34,.tmp 3] (fun r' ss'=>r'=.tup [.agg (Zn r.1),i6 r.2]/\ss'=tt) s'->Q .ret s')->∀(T:TT) (ss:Sto),T 0=sf Zn a0/\T 2=.ptr b1 0/\T 4=.ptr b3 0/\T 5=i6 Yg->Fx tt ss [(b3,⟨34,16,[i6 1,i6 HC,.str zB,.X4,i6 0,i6 0,.str zB,i6 0,.X4,i6 0,.str zB,i6 0,.X4,.X4,.X4,.X4]⟩),(b1,⟨34,16,[i6 0,i6 0,.str zB,.X4,i6 0,i6 0,.str zB,i6 0,.X4,i6 0,.str zB,i6 0,.X4,.X4,.X4,.X4]⟩)] []->aLp KY c Q ⟨T,ss⟩:=by
 intro a0 HC Yg;revert HC Yg;refine Gh.partial_correctness a0 _ ?_;intro Gh IH HC Yg out H c hc Q tt b1 b3 hE hR T ss tT hF;refine lpx tt hc rfl fun q hX=>go ?_;refine cdp H (fun h H=>?_) (fun h H=>go ?_)
 ·obtain ⟨x15,f1,H⟩:=bil (g:=Zn) Val.X5 H;refine go1 ?_;refine go ?_;refine cdn H (fun h H=>go ?_) (fun h H=>go ?_)
  ·refine st hF 1 rfl fun ss6 hF=>?_;refine go ?_;exact wq (hR _ (pur H).symm _ (rt _))
  ·refine Yi E0 [.v,.v,.v,.v,.v,.v,.v,.v,.v,.v,.z] (by kernel_rfl) ?_;obtain ⟨x24,f1,H⟩:=bil (g:=Zn) Val.X5 H;refine go1 ?_;refine st hF 0 rfl fun s7 hF=>?_;refine go ?_;exact IH  ((i64.wrap (HC+x24.num)).tmod 1000) (i64.wrap (Yg+1)) _ H _ rfl Q tt b1 b3 hE hR _ _  S hF
 ·exact wq (hE _ (pur H).symm _ _  S hF)
theorem Sz:∀(a0:List Val) r,C9 a0=some r->Y7 KY 128 [sf Zn a0] (.tup [.agg (Zn r.1),i6 r.2]):=by
 intro a0 r H;intro ss;unfold C9 at H;refine hdh mixed Tryz.func128 (rs:=[.cell 2 34,.tmp 3]) fun q tT hF hX=>?_;refine go ?_;refine X8 hF rfl fun b1 ss2 hF=>go ?_;refine X8 hF rfl fun b3 ss4 hF=>go ?_;refine st hF 0 rfl fun ss5 hF=>?_;refine go ?_;obtain ⟨o8,ho8,H⟩:=bnd H;refine Nj a0 0 0 _ ho8 _ rfl _ _ b1 b3 ?_ ?_ _ _  S hF
 ·intro UE he T10 s11 tT hF;have he:=he.symm;subst he
  try dsimp only at H
  refine go ?_;refine st hF 1 rfl fun s13 hF=>?_;refine go ?_;cases pur H;exact rt _
 ·intro r hr s' hs;subst hr;cases pur H;exact hsq hs
theorem PZ:∀(a0:ByteArray) (a1:List Val) r,B6 a0 a1=some r->Y7 KY 105 [.str a0,sf Zn a1] (.tup [.agg (Zn r.1),i6 r.2]):=by
 intro a0 a1 r H;intro ss;unfold B6 at H;refine hdh mixed Tryz.func105 (rs:=[.cell 4 34,.tmp 5]) fun q tT hF hX=>?_;refine go ?_;refine X8 hF rfl fun b1 ss2 hF=>go ?_;refine cdp H (fun h H=>go ?_) (fun h H=>go ?_)
 ·refine apv (g:=Zn) H Val.X5 (rdo (c:=false) (g:=Zn) Val.X5) fun x12 H=>go ?_;refine st hF 0 rfl fun ss3 hF=>?_;refine go ?_;cases pur H;exact rt _
 ·refine cdp H (fun h H=>go ?_) (fun h H=>go ?_)
  ·refine bp H (Sz a1) fun x17 h H=>cl h (go ?_);refine st hF 0 rfl fun ss4 hF=>?_;refine go ?_;cases pur H;exact rt _
  ·obtain ⟨Qih,j6,H⟩:=bnd H;refine V4 (fun s'=>∃(T:TT) (ss1:Sto),s'=⟨T,ss1⟩/\(T 0=.str a0/\T 1=sf Zn a1/\T 4=.ptr b1 0/\T 20=.bool Qih)/\Fx ss ss1 [(b1,⟨34,16,[i6 0,i6 0,.str zB,.X4,i6 0,i6 0,.str zB,i6 0,.X4,i6 0,.str zB,i6 0,.X4,.X4,.X4,.X4]⟩)] []) (cdp j6 (fun h j6=>go ?_) (fun h j6=>go ?_)) ?_
   ·cases pur j6;exact ⟨_,_,rfl,S,hF⟩
   ·cases pur j6;exact ⟨_,_,rfl,S,hF⟩
   ·rintro s' ⟨T7,s8,rfl,tT,hF⟩;refine go ?_;refine cdb H (fun h H=>go ?_) (fun h H=>go ?_)
    ·obtain ⟨x32,g10,H⟩:=bnd H;refine Yb 5 27 32 (.bool x32) (giN q (fun q=>?_) (fun q=>?_)) (fun J=>go ?_)
     ·rw [if_pos (dnf q)] at g10;obtain ⟨x28,f1,g10⟩:=bil (g:=Zn) Val.X5 g10;refine go1 ?_;refine go ?_;exact Yq 27 g10
     ·rw [if_neg (dnt q)] at g10;refine go ?_;exact Yq 27 g10
     obtain ⟨x40,g12,H⟩:=bnd H;refine Yb 6 34 40 (.bool x40) (giN q (fun q=>?_) (fun q=>?_)) (fun J=>go ?_)
     ·rw [if_neg (dbf q)] at g12;obtain ⟨x35,f1,g12⟩:=bil (g:=Zn) Val.X5 g12;refine go1 ?_;refine go ?_;exact Yq 34 g12
     ·rw [if_pos (dbt q)] at g12;refine go ?_;exact Yq 34 g12
     refine cdb H (fun h H=>go ?_) (fun h H=>go ?_)
     ·refine st hF 0 rfl fun s14 hF=>?_;refine go ?_;cases pur H;exact rt _
     ·refine cdp H (fun h H=>?_) (fun h H=>?_)
      ·obtain ⟨x45,f1,H⟩:=bil (g:=Zn) Val.X5 H;obtain ⟨x48,f2,H⟩:=bil (g:=Zn) Val.X5 H;refine go2 ?_;refine st hF 0 rfl fun s15 hF=>?_;refine go ?_;cases pur H;exact rt _
      ·obtain ⟨x51,f1,H⟩:=bil (g:=Zn) Val.X5 H;obtain ⟨x54,f2,H⟩:=bls (g:=Zn) Val.X5 (lo:=some (i6 1)) (hi:=none) rfl rfl H;refine go2 ?_;refine st hF 0 rfl fun s16 hF=>?_;refine go ?_;cases pur H;exact rt _
    ·obtain ⟨x65,g17,H⟩:=bnd H;refine Yb 5 60 65 (.bool x65) (giN q (fun q=>?_) (fun q=>?_)) (fun J=>go ?_)
     ·rw [if_pos (dnf q)] at g17;obtain ⟨x61,f1,g17⟩:=bil (g:=Zn) Val.X5 g17;refine go1 ?_;refine go ?_;exact Yq 60 g17
     ·rw [if_neg (dnt q)] at g17;refine go ?_;exact Yq 60 g17
     obtain ⟨x72,g19,H⟩:=bnd H;refine Yb 5 67 72 (.bool x72) (giN q (fun q=>?_) (fun q=>?_)) (fun J=>go ?_)
     ·rw [if_neg (dbf q)] at g19;obtain ⟨x68,f1,g19⟩:=bil (g:=Zn) Val.X5 g19;refine go1 ?_;refine go ?_;exact Yq 67 g19
     ·rw [if_pos (dbt q)] at g19;refine go ?_;exact Yq 67 g19
     refine cdb H (fun h H=>go ?_) (fun h H=>go ?_)
     ·refine st hF 0 rfl fun s21 hF=>?_;refine go ?_;cases pur H;exact rt _
     ·refine X8 hF rfl fun b22 s23 hF=>go ?_;refine st hF 0 rfl fun s24 hF=>?_;refine go ?_;refine Yi E0 [.v,.v,.v,.v,.v,.v,.v,.v,.v,.v,.v,.v,.v,.v,.v,.v,.v,.v,.v,.v,.v,.v,.v,.v,.v,.v,.v,.v] (by kernel_rfl) (go ?_);obtain ⟨x87,g25,H⟩:=bnd H;refine V3 9 78 87 (.bool x87) (ti q (fun q=>?_) (fun q=>?_)) (fun J=>go ?_)
      ·rw [if_pos (dt q)] at g25;obtain ⟨x79,f1,g25⟩:=bil (g:=Zn) Val.X5 g25;obtain ⟨x83,f2,g25⟩:=bil (g:=Zn) Val.X5 g25;refine go2 ?_;refine go ?_;exact Yq 78 g25
      ·rw [if_neg (df q)] at g25;refine go ?_;exact Yq 78 g25
      obtain ⟨x102,g27,H⟩:=bnd H;refine V3 13 89 102 (.bool x102) (tiN q (fun q=>?_) (fun q=>?_)) (fun J=>go ?_)
      ·rw [if_neg (dbf q)] at g27;refine go ?_;obtain ⟨x101,g29,g27⟩:=bnd g27;refine V3 9 92 101 (.bool x101) (ti q (fun q=>?_) (fun q=>?_)) (fun J=>go ?_)
       ·rw [if_pos (dt q)] at g29;obtain ⟨x93,f1,g29⟩:=bil (g:=Zn) Val.X5 g29;obtain ⟨x97,f2,g29⟩:=bil (g:=Zn) Val.X5 g29;refine go2 ?_;refine go ?_;exact Yq 92 g29
       ·rw [if_neg (df q)] at g29;refine go ?_;exact Yq 92 g29
       exact Yq 89 g27
      ·rw [if_pos (dbt q)] at g27;refine go ?_;exact Yq 89 g27
      refine cdb H (fun h H=>go ?_) (fun h H=>go ?_)
      ·refine st hF 0 rfl fun s31 hF=>?_;refine go ?_;refine st hF 1 rfl fun s32 hF=>?_;refine go ?_;cases pur H;exact rt _
      ·refine st hF 1 rfl fun s33 hF=>?_;refine go ?_;cases pur H;exact rt _
theorem Mi:∀(a0:Val) (a1:List Val) (a2:Int) (X7:List Slt) (Vr:Int) out,WR a0 a1 a2 X7 Vr=some out->∀c,Ye Tryz.f72 0=some c->∀(Q:QT) (tt:Sto) (b1 b3:Nat),(∀(YX:List Slt),out=YX->∀(T:TT) (ss:Sto) (e0v0:AV),T 2=i6 a2/\T 3=.ptr b1 0/\T 6=.ptr b3 0/\T 11=e0v0->Fx tt ss [(b3,⟨34,16,[i6 0,i6 0,.str zB,.X4,i6 0,i6 0,.str zB,i6 0,.X4,i6 0,.str zB,i6 0,.X4,.X4,.X4,.X4]⟩),(b1,⟨34,16,[i6 a0.kind,i6 a0.num,.str a0.name,sf Zn a0.items,i6 a0.fn.kind,i6 a0.fn.id,.str a0.fn.name,i6 a0.fn.num,sf cI a0.fn.ids,i6 a0.fn.data.kind,.str a0.fn.data.name,i6 a0.fn.data.num,sf cI a0.fn.data.sc,sf KX a0.fn.data.kids,sf K1 a0.fn.kids,sf Zp a0.env]⟩)] [⟨e0v0,78,17,rws Zp YX⟩]->Q (.ex 0) ⟨T,ss⟩)->True->∀(T:TT) (ss:Sto) (z0v0:AV),T 1=sf Zn a1/\T 2=i6 a2/\T 3=.ptr b1 0/\T 6=.ptr b3 0/\T 11=z0v0/\T 12=i6 Vr->Fx tt ss [(b3,⟨34,16,[i6 0,i6 0,.str zB,.X4,i6 0,i6 0,.str zB,i6 0,.X4,i6 0,.str zB,i6 0,.X4,.X4,.X4,.X4]⟩),(b1,⟨34,16,[i6 a0.kind,i6 a0.num,.str a0.name,sf Zn a0.items,i6 a0.fn.kind,i6 a0.fn.id,.str a0.fn.name,i6 a0.fn.num,sf cI a0.fn.ids,i6 a0.fn.data.kind,.str a0.fn.data.name,i6 a0.fn.data.num,sf cI a0.fn.data.sc,sf KX a0.fn.data.kids,sf K1 a0.fn.kids,sf Zp a0.env]⟩)] [⟨z0v0,78,17,rws Zp X7⟩]->aLp KY c Q ⟨T,ss⟩:=by
 intro a0 a1 a2 X7 Vr;revert X7 Vr;refine WR.partial_correctness a0 a1 a2 _ ?_;intro WR IH X7 Vr out H c hc Q tt b1 b3 hE hR T ss z0v0 tT hF;refine lpx tt hc rfl fun q hX=>go ?_;refine cdp H (fun h H=>go ?_) (fun h H=>go ?_)
 ·refine Yi E0 [.v,.v,.v,.v,.v,.v,.v,.v,.v,.v,.v,.v,.v,.x,.v] (by kernel_rfl) ?_;obtain ⟨x55,f1,H⟩:=bil (g:=cI) (fun _=>rfl) H;obtain ⟨x59,f2,H⟩:=bil (g:=Zn) Val.X5 H;refine go2 ?_;refine NI (g:=Zp) hF 0 H (rdo (c:=true) (g:=Zp) Slt.X5) fun x63 H v13 s14 hF=>go ?_;exact IH  x63 (i64.wrap (Vr+1)) _ H _ rfl Q tt b1 b3 hE hR _ _ v13 S hF
 ·exact wq (hE _ (pur H).symm _ _ z0v0 S hF)
theorem OF:(∀(a0:Cor) (a1:List Slt) (a2:Int) r,VR a0 a1 a2=some r->Y7 KY 41 [.agg (K1 a0),sf Zp a1,i6 a2] (.tup [.agg (Zn r.1),i6 r.2.1,i6 r.2.2]))/\(∀(a0:Val) (a1:List Val) (a2:Int) r,Dw a0 a1 a2=some r->Y7 KY 72 [.agg (Zn a0),sf Zn a1,i6 a2] (.tup [.agg (Zn r.1),i6 r.2.1,i6 r.2.2])):=by
 have h:=VR.mutual_partial_correctness  (motive_1:=fun a0 a1 a2 r=>Y7 KY 41 [.agg (K1 a0),sf Zp a1,i6 a2] (.tup [.agg (Zn r.1),i6 r.2.1,i6 r.2.2])) (motive_2:=fun a0 a1 a2 r=>Y7 KY 72 [.agg (Zn a0),sf Zn a1,i6 a2] (.tup [.agg (Zn r.1),i6 r.2.1,i6 r.2.2])) (motive_3:=fun a0 a1 X7 VS DX out=>∀c,Ye Tryz.f41 0=some c->∀(Q:QT) (tt:Sto) (b1 b3:Nat),(∀(YX:List Val) (Qqm:Int),out=Sum.inr (YX,Qqm)->∀(T:TT) (ss:Sto) (e0v0:AV),T 2=i6 Qqm/\T 6=.ptr b3 0/\T 12=e0v0->Fx tt ss [(b3,⟨34,16,[i6 0,i6 0,.str zB,.X4,i6 0,i6 0,.str zB,i6 0,.X4,i6 0,.str zB,i6 0,.X4,.X4,.X4,.X4]⟩),(b1,⟨31,11,[i6 a0.kind,i6 a0.id,.str a0.name,i6 a0.num,sf cI a0.ids,i6 a0.data.kind,.str a0.data.name,i6 a0.data.num,sf cI a0.data.sc,sf KX a0.data.kids,sf K1 a0.kids]⟩)] [⟨e0v0,34,16,rws Zn YX⟩]->Q (.ex 1) ⟨T,ss⟩)->(∀r,out=Sum.inl r->∀s',I3 KY [.cell 6 34,.tmp 7,.tmp 8] (fun r' ss'=>r'=.tup [.agg (Zn r.1),i6 r.2.1,i6 r.2.2]/\ss'=tt) s'->Q .ret s')->∀(T:TT) (ss:Sto) (z0v0:AV),T 1=sf Zp a1/\T 2=i6 DX/\T 3=.ptr b1 0/\T 6=.ptr b3 0/\T 12=z0v0/\T 13=i6 VS->Fx tt ss [(b3,⟨34,16,[i6 0,i6 0,.str zB,.X4,i6 0,i6 0,.str zB,i6 0,.X4,i6 0,.str zB,i6 0,.X4,.X4,.X4,.X4]⟩),(b1,⟨31,11,[i6 a0.kind,i6 a0.id,.str a0.name,i6 a0.num,sf cI a0.ids,i6 a0.data.kind,.str a0.data.name,i6 a0.data.num,sf cI a0.data.sc,sf KX a0.data.kids,sf K1 a0.kids]⟩)] [⟨z0v0,34,16,rws Zn X7⟩]->aLp KY c Q ⟨T,ss⟩) ?s0 ?s1 ?s2
 ·exact ⟨h.1,h.2.1⟩
 ·intro VR Dw GJ C0 C1 L0 a0 a1 a2 r H;intro ss;refine hdh mixed Tryz.func41 (rs:=[.cell 6 34,.tmp 7,.tmp 8]) fun q tT hF hX=>?_;refine go ?_;refine X8 hF rfl fun b1 ss2 hF=>go ?_;refine X8 hF rfl fun b3 ss4 hF=>go ?_;refine cdp H (fun h H=>go ?_) (fun h H=>go ?_)
  ·refine st hF 0 rfl fun ss5 hF=>?_;refine go ?_;cases pur H;exact rt _
  ·refine cdp H (fun h H=>go ?_) (fun h H=>go ?_)
   ·refine bp H (PY a1 a0.id) fun x29 h H=>cl h (go ?_);refine st hF 0 rfl fun ss6 hF=>?_;refine go ?_;cases pur H;exact rt _
   ·refine cdp H (fun h H=>go ?_) (fun h H=>go ?_)
    ·refine st hF 0 rfl fun s7 hF=>?_;refine go ?_;cases pur H;exact rt _
    ·refine cdp H (fun h H=>go ?_) (fun h H=>go ?_)
     ·refine bp H (PV a0.data) fun x41 h H=>cl h (go ?_);refine st hF 0 rfl fun s8 hF=>?_;refine go ?_;cases pur H;exact rt _
     ·refine cdp H (fun h H=>go ?_) (fun h H=>go ?_)
      ·refine st hF 0 rfl fun s9 hF=>?_;refine go ?_;cases pur H;exact rt _
      ·refine cdp H (fun h H=>go ?_) (fun h H=>go ?_)
       ·refine Yi E0 [.v,.v,.v,.v] (by kernel_rfl) (go ?_);refine bp H (OH ) fun x51 h H=>cv h (go ?_);refine bp H (TI x51 a0.name) fun x54 h H=>cv h (go ?_);refine cdb H (fun h H=>go ?_) (fun h H=>go ?_)
        ·refine st hF 0 rfl fun s10 hF=>?_;refine go ?_;cases pur H;exact rt _
        ·refine st hF 0 rfl fun s11 hF=>?_;refine go ?_;cases pur H;exact rt _
       ·refine cdp H (fun h H=>?_) (fun h H=>?_)
        ·obtain ⟨x66,f1,H⟩:=bil (g:=K1) Cor.X5 H;refine go1 ?_;obtain ⟨x70,hx70,H⟩:=bnd H;refine cl (C0 x66 a1 (i64.wrap (a2 - 1)) _ hx70) (go ?_);refine X8 hF rfl fun b12 s13 hF=>go ?_;refine st hF 0 rfl fun s14 hF=>?_;refine go ?_;refine cdn H (fun h H=>go ?_) (fun h H=>go ?_)
         ·refine st hF 1 rfl fun s15 hF=>?_;refine go ?_;cases pur H;exact rt _
         ·obtain ⟨x86,g16,H⟩:=bnd H;refine Yb 3 83 86 (.bool x86) (gi q (fun q=>go ?_) (fun q=>go ?_)) (fun J=>go ?_)
          ·exact Yq 83 g16
          ·exact Yq 83 g16
          refine cdb H (fun h H=>?_) (fun h H=>?_)
          ·obtain ⟨x89,f1,H⟩:=bil (g:=K1) Cor.X5 H;refine go1 ?_;refine bp H (C0 x89 a1 x70.2.2) fun x93 h H=>cl h (go ?_);refine st hF 1 rfl fun s18 hF=>?_;refine go ?_;cases pur H;exact rt _
          ·obtain ⟨x99,f1,H⟩:=bil (g:=K1) Cor.X5 H;refine go1 ?_;refine bp H (C0 x99 a1 x70.2.2) fun x103 h H=>cl h (go ?_);refine st hF 1 rfl fun s19 hF=>?_;refine go ?_;cases pur H;exact rt _
        ·have hF:=hF.lit 34 16 (rws Zn []) rfl;refine go ?_;obtain ⟨o26,ho26,H⟩:=bnd H;refine L0 a0 a1 [] 0 (i64.wrap (a2 - 1)) _ ho26 _ rfl _ _ b1 b3 ?_ ?_ _ _ (.sl true (rws Zn [])) S hF
         ·intro Qay Qgt he T28 s29 e27v0 tT hF;have he:=he.symm;subst he
          try dsimp only at H
          refine go ?_;obtain ⟨s31,hF,hw32,hb33,hz34⟩:=frz hF 0;refine Qat 12 (by simp [upd,tT]) hw32 hb33 (go ?_);obtain ⟨E,hEq⟩:∃E,E=EE s31 [b3]:=⟨_,rfl⟩
          have n35:¬E b1:=by rw [hEq];exact K4 (hF.at 1 rfl) (nm1 (neL hF 1 0 rfl rfl (by decide)))
          refine Yi E [.v,.v,.v,.v,.v,.v,.v,.v,.v,.v,.x,.v,.v] (by kernel_rfl) ?_;obtain ⟨x138,f1,H⟩:=bil (g:=Zn) Val.X5 H;obtain ⟨x141,f2,H⟩:=bls (g:=Zn) Val.X5 (lo:=some (i6 1)) (hi:=none) rfl rfl H;have z:=X9 (hF.at 1 rfl) n35;refine gh2 ?_;refine bp H (C1 x138 x141 Qgt) fun x143 h H=>cv h ?_;have z:=X9 (hF.at 1 rfl) n35;refine gh ?_;refine stK hF 0 (by rw [hEq];exact EE.of (by simp)) rfl fun s36 hF=>?_;have z:=X9 (hF.at 1 rfl) n35;refine gh ?_;refine go ?_;cases pur H;exact rt [.agg [i6 x143.1.kind,i6 x143.1.num,.str x143.1.name,sf Zn x143.1.items,i6 x143.1.fn.kind,i6 x143.1.fn.id,.str x143.1.fn.name,i6 x143.1.fn.num,sf cI x143.1.fn.ids,i6 x143.1.fn.data.kind,.str x143.1.fn.data.name,i6 x143.1.fn.data.num,sf cI x143.1.fn.data.sc,sf KX x143.1.fn.data.kids,sf K1 x143.1.fn.kids,sf Zp x143.1.env],i6 x143.2.1,i6 x143.2.2]
         ·intro r hr s' hs;subst hr;cases pur H;exact hsq hs
 ·intro VR C0 a0 a1 a2 r H;intro ss;refine hdh mixed Tryz.func72 (rs:=[.cell 6 34,.tmp 7,.tmp 8]) fun q tT hF hX=>?_;refine go ?_;refine X8 hF rfl fun b1 ss2 hF=>go ?_;refine X8 hF rfl fun b3 ss4 hF=>go ?_;refine cdp H (fun h H=>go ?_) (fun h H=>go ?_)
  ·refine bp H (PZ a0.name a1) fun x20 h H=>cl h (go ?_);refine X8 hF rfl fun b5 ss6 hF=>go ?_;refine st hF 0 rfl fun s7 hF=>?_;refine go ?_;refine st hF 1 rfl fun s8 hF=>?_;refine go ?_;cases pur H;exact rt _
  ·refine cdn H (fun h H=>go ?_) (fun h H=>go ?_)
   ·refine st hF 0 rfl fun s9 hF=>?_;refine go ?_;cases pur H;exact rt _
   ·refine cdn H (fun h H=>go ?_) (fun h H=>go ?_)
    ·refine st hF 0 rfl fun s10 hF=>?_;refine go ?_;cases pur H;exact rt _
    ·have hF:=hF.lit 78 17 (rws Zp []) rfl;refine apd (g:=Zp) hF 0 H (rdo (c:=false) (g:=Zp) Slt.X5) fun x43 H v11 s12 hF=>go ?_;obtain ⟨o15,ho15,H⟩:=bnd H;refine Mi a0 a1 a2 x43 0 _ ho15 _ rfl _ _ b1 b3 ?_ ?_ _ _ v11 S hF
     ·intro Qgr he T17 s18 e16v0 tT hF;have he:=he.symm;subst he;obtain ⟨x67,f1,H⟩:=bil (g:=K1) Cor.X5 H;refine go1 ?_;obtain ⟨x71,hx71,H⟩:=bnd H;obtain ⟨s20,hF,hw21,hb22,hz23⟩:=frz hF 0;refine Fy (C0 x67 Qgr a2 _ hx71 _) (by (try simp only [sf,i6,zB,Cor.Ya,Fm.Ya]);exact (.cons (Zo hb22 _) id (.cons hw21 (fun _=>rfl) (.cons (Zo hb22 _) id .nil)))) hb22 ?_;rintro _ _ ⟨rfl,rfl⟩;refine go ?_;refine st hF 0 rfl fun s24 hF=>?_;refine go ?_;cases pur H;exact rt _
     ·trivial
 ·intro VR GJ C0 L0 a0 a1 X7 VS DX out H c hc Q tt b1 b3 hE hR T ss z0v0 tT hF;refine lpx tt hc rfl fun q hX=>go ?_;refine cdp H (fun h H=>?_) (fun h H=>go ?_)
  ·obtain ⟨x119,f1,H⟩:=bil (g:=K1) Cor.X5 H;refine go1 ?_;refine bp H (C0 x119 a1 DX) fun x123 h H=>cl h (go ?_);refine X8 hF rfl fun b20 s21 hF=>go ?_;refine st hF 0 rfl fun s22 hF=>?_;refine go ?_;refine cdn H (fun h H=>go ?_) (fun h H=>go ?_)
   ·refine st hF 1 rfl fun s23 hF=>?_;refine go ?_;exact wq (hR _ (pur H).symm _ (rt _))
   ·refine apd (g:=Zn) hF 0 H (rdo (c:=true) (g:=Zn) Val.X5) fun x136 H v24 s25 hF=>go ?_;exact L0 a0 a1 x136 (i64.wrap (VS+1)) x123.2.2 _ H _ rfl Q tt b1 b3 hE hR _ _ v24 S (hF.drop 1 0)
  ·exact wq (hE _ _ (pur H).symm _ _ z0v0 S hF)
theorem PX:∀(a0:Cor) (a1:List Slt) (a2:Int) r,VR a0 a1 a2=some r->Y7 KY 41 [.agg (K1 a0),sf Zp a1,i6 a2] (.tup [.agg (Zn r.1),i6 r.2.1,i6 r.2.2]):=OF.1
theorem P0:∀(a0:Val) (a1:Int) r,Ic a0 a1=some r->Y7 KY 42 [.agg (Zn a0),i6 a1] (i6 r):=by
 refine Ic.partial_correctness _ (motive_2:=fun a0 a1 Cg Qah out=>∀c,Ye Tryz.f42 1=some c->∀(Q:QT) (tt:Sto) (b1:Nat),(∀(Qqq:Int),out=Qqq->∀(T:TT) (ss:Sto),T 5=i6 Qqq->Fx tt ss [(b1,⟨34,16,[i6 a0.kind,i6 a0.num,.str a0.name,sf Zn a0.items,i6 a0.fn.kind,i6 a0.fn.id,.str a0.fn.name,i6 a0.fn.num,sf cI a0.fn.ids,i6 a0.fn.data.kind,.str a0.fn.data.name,i6 a0.fn.data.num,sf cI a0.fn.data.sc,sf KX a0.fn.data.kids,sf K1 a0.fn.kids,sf Zp a0.env]⟩)] []->Q (.ex 2) ⟨T,ss⟩)->True->∀(T:TT) (ss:Sto),T 1=i6 a1/\T 2=.ptr b1 0/\T 5=i6 Cg/\T 7=i6 Qah->Fx tt ss [(b1,⟨34,16,[i6 a0.kind,i6 a0.num,.str a0.name,sf Zn a0.items,i6 a0.fn.kind,i6 a0.fn.id,.str a0.fn.name,i6 a0.fn.num,sf cI a0.fn.ids,i6 a0.fn.data.kind,.str a0.fn.data.name,i6 a0.fn.data.num,sf cI a0.fn.data.sc,sf KX a0.fn.data.kids,sf K1 a0.fn.kids,sf Zp a0.env]⟩)] []->aLp KY c Q ⟨T,ss⟩) (motive_3:=fun a0 a1 Yg Yx out=>∀c,Ye Tryz.f42 0=some c->∀(Q:QT) (tt:Sto) (b1:Nat),(∀(Te:Int),out=Te->∀(T:TT) (ss:Sto),T 1=i6 a1/\T 2=.ptr b1 0/\T 5=i6 Te->Fx tt ss [(b1,⟨34,16,[i6 a0.kind,i6 a0.num,.str a0.name,sf Zn a0.items,i6 a0.fn.kind,i6 a0.fn.id,.str a0.fn.name,i6 a0.fn.num,sf cI a0.fn.ids,i6 a0.fn.data.kind,.str a0.fn.data.name,i6 a0.fn.data.num,sf cI a0.fn.data.sc,sf KX a0.fn.data.kids,sf K1 a0.fn.kids,sf Zp a0.env]⟩)] []->Q (.ex 0) ⟨T,ss⟩)->True->∀(T:TT) (ss:Sto),T 1=i6 a1/\T 2=.ptr b1 0/\T 5=i6 Yg/\T 6=i6 Yx->Fx tt ss [(b1,⟨34,16,[i6 a0.kind,i6 a0.num,.str a0.name,sf Zn a0.items,i6 a0.fn.kind,i6 a0.fn.id,.str a0.fn.name,i6 a0.fn.num,sf cI a0.fn.ids,i6 a0.fn.data.kind,.str a0.fn.data.name,i6 a0.fn.data.num,sf cI a0.fn.data.sc,sf KX a0.fn.data.kids,sf K1 a0.fn.kids,sf Zp a0.env]⟩)] []->aLp KY c Q ⟨T,ss⟩) ?_ ?_ ?_
 ·intro Hz Hy L1 L0 a0 a1 r H;intro ss;refine hdh mixed Tryz.func42 (rs:=[.tmp 4]) fun q tT hF hX=>?_;refine go ?_;refine X8 hF rfl fun b1 ss2 hF=>go ?_;obtain ⟨o5,ho5,H⟩:=bnd H;refine L0 a0 a1 1 0 _ ho5 _ rfl _ _ b1 ?_ ?_ _ _  S hF
  ·intro Qnq he T7 s8 tT hF;have he:=he.symm;subst he;refine go ?_;obtain ⟨o12,ho12,H⟩:=bnd H;refine L1 a0 a1 Qnq 0 _ ho12 _ rfl _ _ b1 ?_ ?_ _ _  S hF
   ·intro Qgp he T14 s15 tT hF;have he:=he.symm;subst he;refine go ?_;cases pur H;exact rt _
   ·trivial
  ·trivial
 ·intro Ic Hz C0 L1 a0 a1 Cg Qah out H c hc Q tt b1 hE hR T ss tT hF;refine lpx tt hc rfl fun q hX=>go ?_;obtain ⟨x40,g10,H⟩:=bnd H;refine Yb 3 37 40 (.bool x40) (gi q (fun q=>go ?_) (fun q=>go ?_)) (fun J=>go ?_)
  ·exact Yq 37 g10
  ·exact Yq 37 g10
  refine cdb H (fun h H=>?_) (fun h H=>go ?_)
  ·obtain ⟨x47,f1,H⟩:=bil (g:=Zp) Slt.X5 H;refine go1 ?_;obtain ⟨x53,hx53,H⟩:=bnd H;refine cl (C0 x47.val (i64.wrap (a1 - Cg)) _ hx53) (go ?_);exact L1 a0 a1 (i64.wrap (Cg+x53)) (i64.wrap (Qah+1)) _ H _ rfl Q tt b1 hE hR _ _  S hF
  ·exact wq (hE _ (pur H).symm _ _  S hF)
 ·intro Ic Hy C0 L0 a0 a1 Yg Yx out H c hc Q tt b1 hE hR T ss tT hF;refine lpx tt hc rfl fun q hX=>go ?_;obtain ⟨x17,g3,H⟩:=bnd H;refine Yb 3 14 17 (.bool x17) (gi q (fun q=>go ?_) (fun q=>go ?_)) (fun J=>go ?_)
  ·exact Yq 14 g3
  ·exact Yq 14 g3
  refine cdb H (fun h H=>?_) (fun h H=>go ?_)
  ·obtain ⟨x24,f1,H⟩:=bil (g:=Zn) Val.X5 H;refine go1 ?_;obtain ⟨x29,hx29,H⟩:=bnd H;refine cl (C0 x24 (i64.wrap (a1 - Yg)) _ hx29) (go ?_);exact L0 a0 a1 (i64.wrap (Yg+x29)) (i64.wrap (Yx+1)) _ H _ rfl Q tt b1 hE hR _ _  S hF
  ·exact wq (hE _ (pur H).symm _ _  S hF)
theorem PU:∀(a0:Val) r,G3 a0=some r->Y7 KY 43 [.agg (Zn a0)] (.agg (Zn r)):=by
 refine G3.partial_correctness _ (motive_2:=fun a0 x14 HE VU Cg out=>∀c,Ye Tryz.f43 1=some c->∀(Q:QT) (tt:Sto) (b1 b3 b5:Nat) (e12v0:AV),(∀(FI:List Slt),out=FI->∀(T:TT) (ss:Sto) (e1v1:AV),T 2=.ptr b3 0/\T 3=.ptr b5 0->Fx tt ss [(b5,⟨34,16,[i6 a0.kind,i6 a0.num,.str a0.name,e12v0,i6 x14.kind,i6 x14.id,.str x14.name,i6 x14.num,sf cI x14.ids,i6 x14.data.kind,.str x14.data.name,i6 x14.data.num,sf cI x14.data.sc,sf KX x14.data.kids,sf K1 x14.kids,e1v1]⟩),(b3,⟨34,16,[i6 0,i6 0,.str zB,.X4,i6 0,i6 0,.str zB,i6 0,.X4,i6 0,.str zB,i6 0,.X4,.X4,.X4,.X4]⟩),(b1,⟨34,16,[i6 a0.kind,i6 a0.num,.str a0.name,sf Zn a0.items,i6 a0.fn.kind,i6 a0.fn.id,.str a0.fn.name,i6 a0.fn.num,sf cI a0.fn.ids,i6 a0.fn.data.kind,.str a0.fn.data.name,i6 a0.fn.data.num,sf cI a0.fn.data.sc,sf KX a0.fn.data.kids,sf K1 a0.fn.kids,sf Zp a0.env]⟩)] [⟨e1v1,78,17,rws Zp FI⟩,⟨e12v0,34,16,rws Zn HE⟩]->Q (.ex 2) ⟨T,ss⟩)->True->∀(T:TT) (ss:Sto) (z1v1:AV),T 1=.ptr b1 0/\T 2=.ptr b3 0/\T 3=.ptr b5 0/\T 5=i6 Cg->Fx tt ss [(b5,⟨34,16,[i6 a0.kind,i6 a0.num,.str a0.name,e12v0,i6 x14.kind,i6 x14.id,.str x14.name,i6 x14.num,sf cI x14.ids,i6 x14.data.kind,.str x14.data.name,i6 x14.data.num,sf cI x14.data.sc,sf KX x14.data.kids,sf K1 x14.kids,z1v1]⟩),(b3,⟨34,16,[i6 0,i6 0,.str zB,.X4,i6 0,i6 0,.str zB,i6 0,.X4,i6 0,.str zB,i6 0,.X4,.X4,.X4,.X4]⟩),(b1,⟨34,16,[i6 a0.kind,i6 a0.num,.str a0.name,sf Zn a0.items,i6 a0.fn.kind,i6 a0.fn.id,.str a0.fn.name,i6 a0.fn.num,sf cI a0.fn.ids,i6 a0.fn.data.kind,.str a0.fn.data.name,i6 a0.fn.data.num,sf cI a0.fn.data.sc,sf KX a0.fn.data.kids,sf K1 a0.fn.kids,sf Zp a0.env]⟩)] [⟨z1v1,78,17,rws Zp VU⟩,⟨e12v0,34,16,rws Zn HE⟩]->aLp KY c Q ⟨T,ss⟩) (motive_3:=fun a0 x14 X7 YI out=>∀c,Ye Tryz.f43 0=some c->∀(Q:QT) (tt:Sto) (b1 b3 b5:Nat),(∀(YX:List Val),out=YX->∀(T:TT) (ss:Sto) (e0v0:AV),T 1=.ptr b1 0/\T 2=.ptr b3 0/\T 3=.ptr b5 0->Fx tt ss [(b5,⟨34,16,[i6 a0.kind,i6 a0.num,.str a0.name,e0v0,i6 x14.kind,i6 x14.id,.str x14.name,i6 x14.num,sf cI x14.ids,i6 x14.data.kind,.str x14.data.name,i6 x14.data.num,sf cI x14.data.sc,sf KX x14.data.kids,sf K1 x14.kids,.X4]⟩),(b3,⟨34,16,[i6 0,i6 0,.str zB,.X4,i6 0,i6 0,.str zB,i6 0,.X4,i6 0,.str zB,i6 0,.X4,.X4,.X4,.X4]⟩),(b1,⟨34,16,[i6 a0.kind,i6 a0.num,.str a0.name,sf Zn a0.items,i6 a0.fn.kind,i6 a0.fn.id,.str a0.fn.name,i6 a0.fn.num,sf cI a0.fn.ids,i6 a0.fn.data.kind,.str a0.fn.data.name,i6 a0.fn.data.num,sf cI a0.fn.data.sc,sf KX a0.fn.data.kids,sf K1 a0.fn.kids,sf Zp a0.env]⟩)] [⟨e0v0,34,16,rws Zn YX⟩]->Q (.ex 0) ⟨T,ss⟩)->True->∀(T:TT) (ss:Sto) (z0v0:AV),T 1=.ptr b1 0/\T 2=.ptr b3 0/\T 3=.ptr b5 0/\T 4=i6 YI->Fx tt ss [(b5,⟨34,16,[i6 a0.kind,i6 a0.num,.str a0.name,z0v0,i6 x14.kind,i6 x14.id,.str x14.name,i6 x14.num,sf cI x14.ids,i6 x14.data.kind,.str x14.data.name,i6 x14.data.num,sf cI x14.data.sc,sf KX x14.data.kids,sf K1 x14.kids,.X4]⟩),(b3,⟨34,16,[i6 0,i6 0,.str zB,.X4,i6 0,i6 0,.str zB,i6 0,.X4,i6 0,.str zB,i6 0,.X4,.X4,.X4,.X4]⟩),(b1,⟨34,16,[i6 a0.kind,i6 a0.num,.str a0.name,sf Zn a0.items,i6 a0.fn.kind,i6 a0.fn.id,.str a0.fn.name,i6 a0.fn.num,sf cI a0.fn.ids,i6 a0.fn.data.kind,.str a0.fn.data.name,i6 a0.fn.data.num,sf cI a0.fn.data.sc,sf KX a0.fn.data.kids,sf K1 a0.fn.kids,sf Zp a0.env]⟩)] [⟨z0v0,34,16,rws Zn X7⟩]->aLp KY c Q ⟨T,ss⟩) ?_ ?_ ?_
 ·intro GH GG L1 L0 a0 r H;intro ss;refine hdh mixed Tryz.func43 (rs:=[.cell 2 34]) fun q tT hF hX=>?_;refine go ?_;refine X8 hF rfl fun b1 ss2 hF=>go ?_;refine X8 hF rfl fun b3 ss4 hF=>go ?_;refine Yi E0 [.v,.v,.v,.v,.v,.v,.v,.v,.v,.v,.x,.z] (by kernel_rfl) (go ?_);refine bp H (CI a0.fn) fun x14 h H=>cv h (go ?_);refine J6 hF rfl fun b5 ss6 hF=>go ?_;refine st hF 0 rfl fun s7 hF=>?_;have hF:=hF.nil 34 16;refine go ?_;obtain ⟨o11,ho11,H⟩:=bnd H;refine L0 a0 x14 [] 0 _ ho11 _ rfl _ _ b1 b3 b5 ?_ ?_ _ _ .X4 S hF
  ·intro HE he T13 s14 e12v0 tT hF;have he:=he.symm;subst he;have hF:=hF.nil 78 17;refine go ?_;obtain ⟨o19,ho19,H⟩:=bnd H;refine L1 a0 x14 HE [] 0 _ ho19 _ rfl _ _ b1 b3 b5 e12v0 ?_ ?_ _ _ .X4 S hF
   ·intro Ql7 he T21 s22 e20v1 tT hF;have he:=he.symm;subst he;refine go ?_;refine st hF 1 rfl fun s24 hF=>?_;refine go ?_;cases pur H;exact rt _
   ·trivial
  ·trivial
 ·intro G3 GH C0 L1 a0 x14 HE VU Cg out H c hc Q tt b1 b3 b5 e12v0 hE hR T ss z1v1 tT hF;refine lpx tt hc rfl fun q hX=>go ?_;refine cdp H (fun h H=>go ?_) (fun h H=>go ?_)
  ·refine Yi E0 [.v,.v,.v,.v,.v,.v,.v,.v,.v,.v,.v,.v,.v,.v,.v,.v,.v,.x,.v,.z] (by kernel_rfl) ?_;obtain ⟨x46,f1,H⟩:=bil (g:=Zp) Slt.X5 H;refine go1 ?_;refine bp H (C0 x46.val) fun x55 h H=>cv h (go ?_);refine NI (g:=Zp) hF 0 H (rdo (c:=true) (g:=Zp) Slt.X5) fun x58 H v16 s17 hF=>go ?_;refine st hF 0 (hF.cells 0 rfl) fun s18 hF=>?_;refine go ?_;exact L1 a0 x14 HE x58 (i64.wrap (Cg+1)) _ H _ rfl Q tt b1 b3 b5 e12v0 hE hR _ _ v16 S hF
  ·exact wq (hE _ (pur H).symm _ _ z1v1 S hF)
 ·intro G3 GG C0 L0 a0 x14 X7 YI out H c hc Q tt b1 b3 b5 hE hR T ss z0v0 tT hF;refine lpx tt hc rfl fun q hX=>go ?_;refine cdp H (fun h H=>go ?_) (fun h H=>go ?_)
  ·refine Yi E0 [.v,.v,.v,.v,.v,.v,.v,.v,.v,.x,.v,.z] (by kernel_rfl) ?_;obtain ⟨x28,f1,H⟩:=bil (g:=Zn) Val.X5 H;refine go1 ?_;refine bp H (C0 x28) fun x30 h H=>cv h (go ?_);refine NI (g:=Zn) hF 0 H (rdo (c:=true) (g:=Zn) Val.X5) fun x32 H v8 s9 hF=>go ?_;refine st hF 0 (hF.cells 0 rfl) fun s10 hF=>?_;refine go ?_;exact L0 a0 x14 x32 (i64.wrap (YI+1)) _ H _ rfl Q tt b1 b3 b5 hE hR _ _ v8 S hF
  ·exact wq (hE _ (pur H).symm _ _ z0v0 S hF)
theorem MO:∀(a0:Cor) (a1:Int) r,AJ a0 a1=some r->Y7 KY 19 [.agg (K1 a0),i6 a1] (.tup [.agg (Zn r.1),i6 r.2]):=by
 intro a0 a1 r H;intro ss;unfold AJ at H;refine hdh mixed Tryz.func19 (rs:=[.cell 4 34,.tmp 5]) fun q tT hF hX=>?_;refine go ?_;refine X8 hF rfl fun b1 ss2 hF=>go ?_;refine X8 hF rfl fun b3 ss4 hF=>go ?_;refine bp H (CU a0) fun x10 h H=>cl h (go ?_);obtain ⟨x15,g5,H⟩:=bnd H;refine Yb 2 13 15 (.bool x15) (giN q (fun q=>go ?_) (fun q=>go ?_)) (fun J=>go ?_)
 ·exact Yq 13 g5
 ·exact Yq 13 g5
 obtain ⟨x19,g7,H⟩:=bnd H;refine Yb 2 17 19 (.bool x19) (giN q (fun q=>go ?_) (fun q=>go ?_)) (fun J=>go ?_)
 ·exact Yq 17 g7
 ·exact Yq 17 g7
 refine cdb H (fun h H=>go ?_) (fun h H=>go ?_)
 ·refine st hF 0 rfl fun s9 hF=>?_;refine go ?_;cases pur H;exact rt _
 ·refine bp H (PX a0 [] a1) fun x25 h H=>cl h (go ?_);refine X8 hF rfl fun b10 s11 hF=>go ?_;refine st hF 0 rfl fun s12 hF=>?_;refine go ?_;refine cdn H (fun h H=>go ?_) (fun h H=>go ?_)
  ·refine st hF 1 rfl fun s13 hF=>?_;refine go ?_;cases pur H;exact rt _
  ·refine bp H (P0 x25.1 2000) fun x34 h H=>cl h (go ?_);refine cdp H (fun h H=>go ?_) (fun h H=>go ?_)
   ·refine st hF 1 rfl fun s14 hF=>?_;refine go ?_;cases pur H;exact rt _
   ·refine bp H (PU x25.1) fun x38 h H=>cl h (go ?_);refine st hF 1 rfl fun s15 hF=>?_;refine go ?_;cases pur H;exact rt _
theorem En:∀(a0:Int) r,HY a0=some r->Y7 KY 58 [i6 a0] (.str r):=fun a0 r H =>
 Qhe Tryz.func58 (by kernel_rfl) (by kernel_rfl) (by kernel_rfl) (fun n h0 h1 w ht=>Tryz.strconv_Itoa n h0 h1 w ht) H
theorem OK:∀(a0:List ByteArray) (a1:ByteArray) r,Al a0 a1=some r->Y7 KY 59 [sf cS a0,.str a1] (.str r):=fun a0 a1 r H =>
 Qhg Tryz.func59 (by kernel_rfl) (by kernel_rfl) (fun a c sep w=>Tryz.strings_Join_none a c sep w) (fun bk o c xs sep w h1 h2 h3 h4 h5=>Tryz.strings_Join bk o c xs sep w h1 h2 h3 h4 h5) H
theorem LL:∀(a0:Val) (a1:Int) r,Jw a0 a1=some r->Y7 KY 32 [.agg (Zn a0),i6 a1] (.str r):=by
 refine Jw.partial_correctness _ (motive_2:=fun a0 a1 X7 DL out=>∀c,Ye Tryz.f32 0=some c->∀(Q:QT) (tt:Sto) (b1:Nat),(∀(YX:List ByteArray),out=YX->∀(T:TT) (ss:Sto) (e0v0:AV),T 5=e0v0->Fx tt ss [(b1,⟨34,16,[i6 a0.kind,i6 a0.num,.str a0.name,sf Zn a0.items,i6 a0.fn.kind,i6 a0.fn.id,.str a0.fn.name,i6 a0.fn.num,sf cI a0.fn.ids,i6 a0.fn.data.kind,.str a0.fn.data.name,i6 a0.fn.data.num,sf cI a0.fn.data.sc,sf KX a0.fn.data.kids,sf K1 a0.fn.kids,sf Zp a0.env]⟩)] [⟨e0v0,9,1,rws cS YX⟩]->Q (.ex 1) ⟨T,ss⟩)->True->∀(T:TT) (ss:Sto) (z0v0:AV),T 1=i6 a1/\T 5=z0v0/\T 34=sf Zn a0.items/\T 35=i6 (a0.items.length:Int)/\T 36=i6 DL->Fx tt ss [(b1,⟨34,16,[i6 a0.kind,i6 a0.num,.str a0.name,sf Zn a0.items,i6 a0.fn.kind,i6 a0.fn.id,.str a0.fn.name,i6 a0.fn.num,sf cI a0.fn.ids,i6 a0.fn.data.kind,.str a0.fn.data.name,i6 a0.fn.data.num,sf cI a0.fn.data.sc,sf KX a0.fn.data.kids,sf K1 a0.fn.kids,sf Zp a0.env]⟩)] [⟨z0v0,9,1,rws cS X7⟩]->aLp KY c Q ⟨T,ss⟩) ?_ ?_
 ·intro Wy L0 a0 a1 r H;intro ss;refine hdh mixed Tryz.func32 (rs:=[.tmp 4]) fun q tT hF hX=>?_;refine go ?_;refine X8 hF rfl fun b1 ss2 hF=>go ?_;refine cdp H (fun h H=>go ?_) (fun h H=>go ?_)
  ·cases pur H;exact rt _
  ·refine cdp H (fun h H=>go ?_) (fun h H=>go ?_)
   ·refine bp H (En a0.num) fun x16 h H=>cl h (go ?_);cases pur H;exact rt _
   ·obtain ⟨Qig,j4,H⟩:=bnd H;refine V4 (fun s'=>∃(T:TT) (ss1:Sto),s'=⟨T,ss1⟩/\(T 1=i6 a1/\T 2=.ptr b1 0/\T 11=i6 a0.kind/\T 17=.bool Qig)/\Fx ss ss1 [(b1,⟨34,16,[i6 a0.kind,i6 a0.num,.str a0.name,sf Zn a0.items,i6 a0.fn.kind,i6 a0.fn.id,.str a0.fn.name,i6 a0.fn.num,sf cI a0.fn.ids,i6 a0.fn.data.kind,.str a0.fn.data.name,i6 a0.fn.data.num,sf cI a0.fn.data.sc,sf KX a0.fn.data.kids,sf K1 a0.fn.kids,sf Zp a0.env]⟩)] []) (cdp j4 (fun h j4=>go ?_) (fun h j4=>go ?_)) ?_
    ·cases pur j4;exact ⟨_,_,rfl,S,hF⟩
    ·cases pur j4;exact ⟨_,_,rfl,S,hF⟩
    ·rintro s' ⟨T5,ss6,rfl,tT,hF⟩;refine go ?_;refine cdb H (fun h H=>go ?_) (fun h H=>go ?_)
     ·cases pur H;exact rt _
     ·refine cdp H (fun h H=>go ?_) (fun h H=>go ?_)
      ·refine bp H (En (a0.fn.ids.length:Int)) fun x28 h H=>cl h ?_;obtain ⟨x29,f1,H⟩:=bsc H;refine go1 ?_;refine go ?_;cases pur H;exact rt _
      ·refine cdp H (fun h H=>?_) (fun h H=>go ?_)
       ·have hF:=hF.lit 9 1 (rws cS []) rfl;refine go ?_;obtain ⟨o13,ho13,H⟩:=bnd H;refine L0 a0 a1 [] 0 _ ho13 _ rfl _ _ b1 ?_ ?_ _ _ (.sl true (rws cS [])) S hF
        ·intro I4 he T15 s16 e14v0 tT hF;have he:=he.symm;subst he;refine go ?_;obtain ⟨x49,hx49,H⟩:=bnd H;refine CM (OK I4 (Qk #[32]) _ hx49) .str (.cons ((hF.wk 0 rfl).trans (Zo (Sub.zero _) _)) (fun _=>rfl) (.cons (Zo (Sub.zero _) _) id .nil)) ?_;obtain ⟨x50,f1,H⟩:=bsc H;obtain ⟨x51,f2,H⟩:=bsc H;refine go2 ?_;refine go ?_;cases pur H;exact rt _
        ·trivial
       ·cases pur H;exact rt _
 ·intro Jw Wy C0 L0 a0 a1 X7 DL out H c hc Q tt b1 hE hR T ss z0v0 tT hF;refine lpx tt hc rfl fun q hX=>go ?_;refine cdp H (fun h H=>?_) (fun h H=>go ?_)
  ·obtain ⟨x38,f1,H⟩:=bil (g:=Zn) Val.X5 H;refine go1 ?_;refine X8 hF rfl fun b8 s9 hF=>go ?_;refine st hF 0 rfl fun s10 hF=>?_;refine go ?_;obtain ⟨x44,hx44,H⟩:=bnd H;refine cl (C0 x38 (i64.wrap (a1+1)) _ hx44) (go ?_);refine apd (g:=cS) hF 0 H (rdo (c:=true) (g:=cS) (fun _=>rfl)) fun x46 H v11 s12 hF=>go ?_;exact L0 a0 a1 x46 (i64.wrap (DL+1)) _ H _ rfl Q tt b1 hE hR _ _ v11 S (hF.drop 1 0)
  ·exact wq (hE _ (pur H).symm _ _ z0v0 S hF)
theorem BL:∀(a0:Val) r,Hd a0=some r->Y7 KY 15 [.agg (Zn a0)] (.str r):=by
 intro a0 r H;intro ss;unfold Hd at H;refine hdh mixed Tryz.func15 (rs:=[.tmp 2]) fun q tT hF hX=>?_;refine go ?_;refine X8 hF rfl fun b1 ss2 hF=>go ?_;refine bp H (LL a0 0) fun x4 h H=>cl h (go ?_);cases pur H;exact rt _
theorem FX:(∀(a0 a1:Val) r,VV a0 a1=some r->Y7 KY 12 [.agg (Zn a0),.agg (Zn a1)] (.bool r))/\(∀(a0 a1:List Val) r,YO a0 a1=some r->Y7 KY 27 [sf Zn a0,sf Zn a1,.fn 12 []] (.bool r)):=by
 have h:=VV.mutual_partial_correctness  (motive_1:=fun a0 a1 r=>Y7 KY 12 [.agg (Zn a0),.agg (Zn a1)] (.bool r)) (motive_2:=fun a0 a1 r=>Y7 KY 27 [sf Zn a0,sf Zn a1,.fn 12 []] (.bool r)) (motive_3:=fun a0 a1 We out=>∀c,Ye Tryz.f27 0=some c->∀(Q:QT) (tt:Sto),(∀(_u:Unit),out=Sum.inr ()->∀(T:TT) (ss:Sto),0+0=0->Fx tt ss [] []->Q (.ex 0) ⟨T,ss⟩)->(∀r,out=Sum.inl r->∀s',I3 KY [.tmp 6] (fun r' ss'=>r'=.bool r/\ss'=tt) s'->Q .ret s')->∀(T:TT) (ss:Sto),T 1=sf Zn a1/\T 2=.fn 12 []/\T 15=sf Zn a0/\T 16=i6 (a0.length:Int)/\T 17=i6 We->Fx tt ss [] []->aLp KY c Q ⟨T,ss⟩) ?s0 ?s1 ?s2
 ·exact ⟨h.1,h.2.1⟩
 ·intro YO C1 a0 a1 r H;intro ss;refine hdh mixed Tryz.func12 (rs:=[.tmp 4]) fun q tT hF hX=>?_;refine go ?_;refine X8 hF rfl fun b1 ss2 hF=>go ?_;refine X8 hF rfl fun b3 ss4 hF=>go ?_;refine Yi E0 [.v,.v,.v,.v,.v,.v,.v,.v,.v,.v,.v,.v,.v,.v,.v,.v,.v,.v,.v,.v,.v,.v,.v,.v,.v,.v,.v,.v,.v,.v,.v,.v,.v,.v] (by kernel_rfl) (go ?_);obtain ⟨x16,g5,H⟩:=bnd H;refine V3 5 11 16 (.bool x16) (ti q (fun q=>go ?_) (fun q=>go ?_)) (fun J=>go ?_)
  ·exact Yq 11 g5
  ·exact Yq 11 g5
  obtain ⟨x23,g7,H⟩:=bnd H;refine V3 5 18 23 (.bool x23) (ti q (fun q=>go ?_) (fun q=>go ?_)) (fun J=>go ?_)
  ·exact Yq 18 g7
  ·exact Yq 18 g7
  obtain ⟨x30,g9,H⟩:=bnd H;refine V3 5 25 30 (.bool x30) (ti q (fun q=>?_) (fun q=>?_)) (fun J=>go ?_)
  ·rw [if_pos (dbt q)] at g9;refine go ?_;obtain ⟨x29,hx29,g9⟩:=bnd g9;refine cv (C1 a0.items a1.items _ hx29) (go ?_);exact Yq 25 g9
  ·rw [if_neg (dbf q)] at g9;refine go ?_;exact Yq 25 g9
  obtain ⟨x37,g11,H⟩:=bnd H;refine V3 5 32 37 (.bool x37) (ti q (fun q=>?_) (fun q=>?_)) (fun J=>go ?_)
  ·rw [if_pos (dbt q)] at g11;refine go ?_;obtain ⟨x33,hx33,g11⟩:=bnd g11;refine cv (BL a0 _ hx33) (go ?_);obtain ⟨x35,hx35,g11⟩:=bnd g11;refine cv (BL a1 _ hx35) (go ?_);exact Yq 32 g11
  ·rw [if_neg (dbf q)] at g11;refine go ?_;exact Yq 32 g11
  cases pur H;exact rt _
 ·intro Yl L0 a0 a1 r H;intro ss;refine hdh mixed Tryz.func27 (rs:=[.tmp 6]) fun q tT hF hX=>?_;refine go ?_;refine cdn H (fun h H=>go ?_) (fun h H=>go ?_)
  ·cases pur H;exact rt _
  ·obtain ⟨o7,ho7,H⟩:=bnd H;refine L0 a0 a1 0 _ ho7 _ rfl _ _  ?_ ?_ _ _  S hF
   ·intro _ he T9 s10 tT hF;have he:=he.symm;subst he
    try dsimp only at H
    refine go ?_;cases pur H;exact rt _
   ·intro r hr s' hs;subst hr;cases pur H;exact hsq hs
 ·intro VV Yl C0 L0 a0 a1 We out H c hc Q tt  hE hR T ss tT hF;refine lpx tt hc rfl fun q hX=>go ?_;refine cdp H (fun h H=>?_) (fun h H=>go ?_)
  ·obtain ⟨x20,f1,H⟩:=bil (g:=Zn) Val.X5 H;refine go1 ?_;refine X8 hF rfl fun b1 ss2 hF=>go ?_;refine st hF 0 rfl fun ss3 hF=>?_;obtain ⟨x24,f1,H⟩:=bil (g:=Zn) Val.X5 H;refine go1 ?_;refine X8 hF rfl fun b4 ss5 hF=>go ?_;refine st hF 0 rfl fun ss6 hF=>?_;refine go ?_;obtain ⟨x29,hx29,H⟩:=bnd H;refine cl (C0 x20 x24 _ hx29) (go ?_);refine cdb H (fun h H=>go ?_) (fun h H=>go ?_)
   ·exact wq (hR _ (pur H).symm _ (rt _))
   ·exact L0 a0 a1 (i64.wrap (We+1)) _ H _ rfl Q tt  hE hR _ _  S (hF.drop 2 0)
  ·exact wq (hE () (pur H).symm _ _  S hF)
theorem AU:∀(a0 a1:Val) r,VV a0 a1=some r->Y7 KY 12 [.agg (Zn a0),.agg (Zn a1)] (.bool r):=FX.1
theorem F1:∀(a0:List Int) r,AA a0=some r->Y7 KY 5 [sf cU a0] (.bool r):=by
 intro a0 r H;intro ss;unfold AA at H;refine hdh mixed Tryz.func5 (rs:=[.tmp 2]) fun q tT hF hX=>?_;refine go ?_;refine cdp H (fun h H=>go ?_) (fun h H=>go ?_)
 ·cases pur H;exact rt _
 ·refine bp H (EI a0) fun x16 h H=>cl h (go ?_);refine X8 hF rfl fun b1 ss2 hF=>go ?_;refine st hF 0 rfl fun ss3 hF=>?_;refine go ?_;refine bp H (DC x16.1 x16.2) fun x22 h H=>cl h (go ?_);refine X8 hF rfl fun b4 ss5 hF=>go ?_;refine st hF 0 rfl fun ss6 hF=>?_;refine go ?_;refine bp H (MO x16.1 x16.2) fun x28 h H=>cl h (go ?_);refine X8 hF rfl fun b7 s8 hF=>go ?_;refine st hF 0 rfl fun s9 hF=>?_;refine go ?_;refine bp H (AU x22.1 x28.1) fun x33 h H=>cl h (go ?_);obtain ⟨x39,g10,H⟩:=bnd H;refine Yb 3 36 39 (.bool x39) (giN q (fun q=>go ?_) (fun q=>go ?_)) (fun J=>go ?_)
  ·exact Yq 36 g10
  ·exact Yq 36 g10
  obtain ⟨x43,g12,H⟩:=bnd H;refine Yb 2 41 43 (.bool x43) (giN q (fun q=>go ?_) (fun q=>go ?_)) (fun J=>go ?_)
  ·exact Yq 41 g12
  ·exact Yq 41 g12
  obtain ⟨x47,g14,H⟩:=bnd H;refine Yb 2 45 47 (.bool x47) (giN q (fun q=>go ?_) (fun q=>go ?_)) (fun J=>go ?_)
  ·exact Yq 45 g14
  ·exact Yq 45 g14
  refine cdb H (fun h H=>go ?_) (fun h H=>go ?_)
  ·refine bp H (AU x22.1 x28.1) fun x50 h H=>cl h (go ?_);obtain ⟨x55,g16,H⟩:=bnd H;refine Yb 3 52 55 (.bool x55) (gi q (fun q=>go ?_) (fun q=>go ?_)) (fun J=>go ?_)
   ·exact Yq 52 g16
   ·exact Yq 52 g16
   cases pur H;exact rt _
  ·refine bp H (DC x16.1 3000) fun x58 h H=>cl h (go ?_);refine X8 hF rfl fun b18 s19 hF=>go ?_;refine st hF 0 rfl fun s20 hF=>?_;refine go ?_;obtain ⟨x68,g21,H⟩:=bnd H;refine Yb 3 65 68 (.bool x68) (gi q (fun q=>?_) (fun q=>?_)) (fun J=>go ?_)
   ·rw [if_pos (dt q)] at g21;refine go ?_;obtain ⟨x67,hx67,g21⟩:=bnd g21;refine cl (AU x58.1 x22.1 _ hx67) (go ?_);exact Yq 65 g21
   ·rw [if_neg (df q)] at g21;refine go ?_;exact Yq 65 g21
   cases pur H;exact rt _
end Go.Proofs.SA
