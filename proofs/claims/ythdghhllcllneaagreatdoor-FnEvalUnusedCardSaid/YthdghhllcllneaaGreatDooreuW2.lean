/- Printed by a program of mine: the plain functions that the code computes (D), and the walks that show it (W). -/
import Derived.Test.YthdghhllcllneaaGreatDoorGx
import Derived.Test.YthdghhllcllneaaGreatDoorSaTy
import Derived.Test.YthdghhllcllneaaGreatDoorChecked
import Derived.Lib.Strings
import Derived.Lib.Slices
import Derived.Lib.Walk
import Derived.Lib.Bytealg
import Derived.Test.YthdghhllcllneaaGreatDoorGv
import Derived.Test.YthdghhllcllneaaGreatDoorSf
import Derived.Test.YthdghhllcllneaaGreatDooreuD
import Derived.Test.YthdghhllcllneaaGreatDooreuW1
set_option maxRecDepth 100000
set_option maxHeartbeats 2000000
set_option linter.unusedSimpArgs false
set_option linter.unusedVariables false
open Go Go.Proofs Go.Proofs.Shadow
open Val renaming cells → Zo
open Cor renaming cells → K2, mk → KR
open Slt renaming cells → Zq
open Tryz renaming prog → KZ
open Fm renaming cells → KY
open _root_.Int renaming toNat_natCast → Kl, reduceEq → Zw
open _root_.Nat renaming reduceEqDiff → Zr, reduceLeDiff → Zs, reduceAdd → Zt, reduceMul → Zu, reduceLT → Zv
open Fx renaming self → K1
open _root_.And renaming intro → K3
open _root_.ByteArray renaming mk → Qk
open EE renaming not → K5
open Mch renaming mk → KV
open Wk renaming sub → Zp
open Go.IntKind (i64)
namespace Go.Proofs.SA
theorem F8:∀(a0:Bool) r,BC a0=some r->Y7 KZ 89 [.bool a0] (.agg (Zo r)):=by
 intro a0 r H;intro ss;unfold BC at H;refine hdh mixed Tryz.func89 (rs:=[.cell 2 34]) fun q tT hF hX=>?_;refine go ?_;refine X8 hF rfl fun b1 ss2 hF=>go ?_;refine cdb H (fun h H=>go ?_) (fun h H=>go ?_)
 ·refine bp H (Ag 1) fun x4 h H=>cl h (go ?_);refine st hF 0 rfl fun ss3 hF=>?_;refine go ?_;cases pur H;exact rt _
 ·refine bp H (Ag 0) fun x5 h H=>cl h (go ?_);refine st hF 0 rfl fun ss4 hF=>?_;refine go ?_;cases pur H;exact rt _
theorem Ce:∀(a0:List Val) r,WW a0=some r->Y7 KZ 90 [sf Zo a0] (sf Zo r):=by
 intro a0 r H;intro ss;unfold WW at H;refine hdh mixed Tryz.func90 (rs:=[.tmp 2]) fun q tT hF hX=>?_;obtain ⟨x8,f1,H⟩:=Qvm (g:=Zo) Val.X6 (lo:=none) rfl rfl rfl H;refine go1 ?_;refine go ?_;cases pur H;exact rt _
theorem Bu:∀(a2:List Val) (c0:Mch) (Ca YU:Int) out,Y0 a2 c0 Ca YU=some out->∀c,Yf Tryz.f55 0=some c->∀(Q:QT) (tt0:Sto) (e0 b1:Nat),(∀(Qqz:Int),out=Qqz->∀(T:TT) (ss tt:Sto),T 6=.ptr b1 0/\T 9=i6 Qqz->Tau tt0 [(e0,⟨55,2,[i6 c0.fuel,i6 c0.code]⟩)] tt->Fx tt ss [(b1,⟨34,16,[i6 0,i6 0,.str zB,.X4,i6 0,i6 0,.str zB,i6 0,.X4,i6 0,.str zB,i6 0,.X4,.X4,.X4,.X4]⟩)] []->Q (.ex 1) ⟨T,ss⟩)->True->∀(T:TT) (ss tt:Sto),T 6=.ptr b1 0/\T 9=i6 YU/\T 44=sf Zo a2/\T 45=i6 (a2.length:Int)/\T 46=i6 Ca->Tau tt0 [(e0,⟨55,2,[i6 c0.fuel,i6 c0.code]⟩)] tt->Fx tt ss [(b1,⟨34,16,[i6 0,i6 0,.str zB,.X4,i6 0,i6 0,.str zB,i6 0,.X4,i6 0,.str zB,i6 0,.X4,.X4,.X4,.X4]⟩)] []->aLp KZ c Q ⟨T,ss⟩:=by
 intro a2 c0 Ca YU;revert Ca YU;refine Y0.partial_correctness a2 c0 _ ?_;intro Y0 IH Ca YU out H c hc Q tt0 e0 b1 hE hR T ss tt tT hX hF;refine lpy hc rfl fun q=>go ?_;refine cdp H (fun h H=>?_) (fun h H=>go ?_)
 ·obtain ⟨x48,f1,H⟩:=bil (g:=Zo) Val.X6 H;refine go1 ?_;refine X8 hF rfl fun b10 s11 hF=>go ?_;refine st hF 0 rfl fun s12 hF=>?_;refine go ?_;exact IH  (i64.wrap (Ca+1)) ((i64.wrap (YU+x48.num)).tmod 1000) _ H _ rfl Q tt0 e0 b1 hE hR _ _ _  S hX (hF.drop 1 0)
 ·exact wq (hE _ (pur H).symm _ _ _  S hX hF)
theorem Cz:∀(a1:ByteArray) (a2:List Val) (c0:Mch) r,Jo a1 a2 c0=some r->∀(e0:Nat)  (ss:Sto),Pre ss [(e0,⟨55,2,[i6 c0.fuel,i6 c0.code]⟩)] []->Ctr KZ 55 [.ptr e0 0,.str a1,sf Zo a2] ss (fun r' ss'=>∃(tt':Sto),r'=.agg (Zo r.1)/\Tau (strip ss []) [(e0,⟨55,2,[i6 r.2.fuel,i6 r.2.code]⟩)] tt'/\Fx tt' ss' [] []):=by
 intro a1 a2 c0 r H;intro e0  ss hP;unfold Jo at H;refine hdg mixed Tryz.func55 (rs:=[.cell 6 34]) fun q tT=>?_;obtain ⟨hF,hX⟩:=hP.start;generalize strip ss []=tt0 at hF hX ⊢;refine go ?_;refine X8 hF rfl fun b1 ss2 hF=>go ?_;refine bp H (Jj a2) fun x13 h H=>cl h (go ?_);obtain ⟨x24,g3,H⟩:=bnd H;refine Yb 5 19 24 (.bool x24) (gi q (fun q=>?_) (fun q=>?_)) (fun J=>go ?_)
 ·rw [if_pos (dt q)] at g3;obtain ⟨x20,f1,g3⟩:=bil (g:=Zo) Val.X6 g3;refine go1 ?_;refine go ?_;exact Yq 19 g3
 ·rw [if_neg (df q)] at g3;refine go ?_;exact Yq 19 g3
 obtain ⟨x32,g5,H⟩:=bnd H;refine Yb 6 26 32 (.bool x32) (gi q (fun q=>?_) (fun q=>?_)) (fun J=>go ?_)
 ·rw [if_pos (dbt q)] at g5;obtain ⟨x27,f1,g5⟩:=bil (g:=Zo) Val.X6 g5;refine go1 ?_;refine go ?_;exact Yq 26 g5
 ·rw [if_neg (dbf q)] at g5;refine go ?_;exact Yq 26 g5
 refine cdp H (fun h H=>go ?_) (fun h H=>go ?_)
 ·refine st hF 0 rfl fun s7 hF=>?_;refine go ?_;cases pur H;exact rg _ ⟨_,rfl,hX,K1 _⟩
 ·obtain ⟨x43,g8,H⟩:=bnd H;refine Yb 1 42 43 (.bool x43) (gi q (fun q=>go ?_) (fun q=>go ?_)) (fun J=>go ?_)
  ·exact Yq 42 g8
  ·exact Yq 42 g8
  refine cdb H (fun h H=>go ?_) (fun h H=>go ?_)
  ·obtain ⟨o13,ho13,H⟩:=bnd H;refine Bu a2 c0 0 0 _ ho13 _ rfl _ tt0 e0 b1 ?_ ?_ _ _ _  S hX hF
   ·intro Qgw he T15 s16 t17 tT hX hF;have he:=he.symm;subst he;refine go ?_;refine bp H (Ag Qgw) fun x57 h H=>cl h (go ?_);refine st hF 0 rfl fun s18 hF=>?_;refine go ?_;cases pur H;exact rg _ ⟨_,rfl,hX,K1 _⟩
   ·trivial
  ·obtain ⟨x63,g19,H⟩:=bnd H;refine Yb 1 62 63 (.bool x63) (gi q (fun q=>go ?_) (fun q=>go ?_)) (fun J=>go ?_)
   ·exact Yq 62 g19
   ·exact Yq 62 g19
   obtain ⟨x68,g21,H⟩:=bnd H;refine Yb 3 65 68 (.bool x68) (gi q (fun q=>go ?_) (fun q=>go ?_)) (fun J=>go ?_)
   ·exact Yq 65 g21
   ·exact Yq 65 g21
   refine cdb H (fun h H=>go ?_) (fun h H=>go ?_)
   ·refine Yj E0 [.v,.v,.v,.v,.v,.v,.v,.v,.v,.v,.z] (by kernel_rfl) ?_;obtain ⟨x70,f1,H⟩:=bil (g:=Zo) Val.X6 H;obtain ⟨x74,f2,H⟩:=bil (g:=Zo) Val.X6 H;refine go2 ?_;obtain ⟨x78,hx78,H⟩:=bnd H;refine cv (F8 (decide (x70.num < x74.num)) _ hx78) (go ?_);refine st hF 0 rfl fun s23 hF=>?_;refine go ?_;cases pur H;exact rg _ ⟨_,rfl,hX,K1 _⟩
   ·obtain ⟨x84,g24,H⟩:=bnd H;refine Yb 1 83 84 (.bool x84) (gi q (fun q=>go ?_) (fun q=>go ?_)) (fun J=>go ?_)
    ·exact Yq 83 g24
    ·exact Yq 83 g24
    obtain ⟨x89,g26,H⟩:=bnd H;refine Yb 3 86 89 (.bool x89) (gi q (fun q=>go ?_) (fun q=>go ?_)) (fun J=>go ?_)
    ·exact Yq 86 g26
    ·exact Yq 86 g26
    refine cdb H (fun h H=>go ?_) (fun h H=>go ?_)
    ·refine Yj E0 [.v,.v,.v,.v,.v,.v,.v,.v,.v,.v,.z] (by kernel_rfl) ?_;obtain ⟨x91,f1,H⟩:=bil (g:=Zo) Val.X6 H;obtain ⟨x95,f2,H⟩:=bil (g:=Zo) Val.X6 H;refine go2 ?_;obtain ⟨x99,hx99,H⟩:=bnd H;refine cv (F8 (decide (x91.num=x95.num)) _ hx99) (go ?_);refine st hF 0 rfl fun s28 hF=>?_;refine go ?_;cases pur H;exact rg _ ⟨_,rfl,hX,K1 _⟩
    ·obtain ⟨x105,g29,H⟩:=bnd H;refine Yb 1 104 105 (.bool x105) (gi q (fun q=>go ?_) (fun q=>go ?_)) (fun J=>go ?_)
     ·exact Yq 104 g29
     ·exact Yq 104 g29
     refine cdb H (fun h H=>?_) (fun h H=>go ?_)
     ·obtain ⟨x107,f1,H⟩:=bil (g:=Zo) Val.X6 H;obtain ⟨x110,f2,H⟩:=bil (g:=Zo) Val.X6 H;refine go2 ?_;refine st hF 0 rfl fun s31 hF=>?_;refine go ?_;cases pur H;exact rg _ ⟨_,rfl,hX,K1 _⟩
     ·obtain ⟨x117,g32,H⟩:=bnd H;refine Yb 1 116 117 (.bool x117) (gi q (fun q=>go ?_) (fun q=>go ?_)) (fun J=>go ?_)
      ·exact Yq 116 g32
      ·exact Yq 116 g32
      refine cdb H (fun h H=>?_) (fun h H=>go ?_)
      ·obtain ⟨x119,f1,H⟩:=bil (g:=Zo) Val.X6 H;obtain ⟨x122,f2,H⟩:=bls (g:=Zo) Val.X6 (lo:=some (i6 1)) (hi:=none) rfl rfl H;refine go2 ?_;refine bp H (Ce x122) fun x123 h H=>cl h (go ?_);refine st hF 0 rfl fun s34 hF=>?_;refine go ?_;cases pur H;exact rg _ ⟨_,rfl,hX,K1 _⟩
      ·obtain ⟨x126,hx126,H⟩:=bnd H;refine cx (J9 3 c0 _ hx126 e0  _ (pre 0 1 0 hF hX)) ?_;rintro _ s35 ⟨t36,rfl,hT,hG⟩;obtain ⟨tt37,hX,hF⟩:=aft 0 1 0 hF hX hT hG;refine go ?_;refine st hF 0 rfl fun s38 hF=>?_;refine go ?_;cases pur H;exact rg _ ⟨_,rfl,hX,K1 _⟩
theorem IC:∀(a0:List Slt) r,VL a0=some r->∀   (ss:Sto),Pre ss [] []->Ctr KZ 56 [sf Zq a0] ss (fun r' ss'=>∃(tt':Sto) (w0:AV),r'=w0/\Tau (strip ss []) [] tt'/\Fx tt' ss' [] [⟨w0,78,17,rws Zq r⟩]):=by
 intro a0 r H;intro   ss hP;unfold VL at H;refine hdg mixed Tryz.func56 (rs:=[.tmp 2]) fun q tT=>?_;obtain ⟨hF,hX⟩:=hP.start;generalize strip ss []=tt0 at hF hX ⊢;obtain ⟨x8,f1,H⟩:=Qvm (g:=Zq) Slt.X6 (lo:=none) rfl rfl rfl H;refine go1 ?_;have hF:=hF.Qwp 78 (rws Zq x8) (CB Slt.X6 _);refine go ?_;cases pur H;exact rg _ ⟨_,_,rfl,hX,hF.pick [] [0] (by decide) (by decide)⟩
theorem Dq:∀(a1:Cor) (a2:List Slt) (c0:Mch) (Yt:Int) out,VG a1 a2 c0 Yt=some out->∀c,Yf Tryz.f29 0=some c->∀(Q:QT) (tt0:Sto) (e0 b1 b3:Nat),(∀(_u:Unit),out=Sum.inr ()->∀(T:TT) (ss tt:Sto),T 6=.ptr b3 0->Tau tt0 [(e0,⟨55,2,[i6 (i64.wrap (c0.fuel - 1)),i6 c0.code]⟩)] tt->Fx tt ss [(b3,⟨34,16,[i6 0,i6 0,.str zB,.X4,i6 0,i6 0,.str zB,i6 0,.X4,i6 0,.str zB,i6 0,.X4,.X4,.X4,.X4]⟩),(b1,⟨31,11,[i6 a1.kind,i6 a1.id,.str a1.name,i6 a1.num,sf cI a1.ids,i6 a1.data.kind,.str a1.data.name,i6 a1.data.num,sf cI a1.data.sc,sf KY a1.data.kids,sf K2 a1.kids]⟩)] []->Q (.ex 1) ⟨T,ss⟩)->(∀r,out=Sum.inl r->∀s',I6 KZ [.cell 6 34] (fun r' ss'=>∃(tt':Sto),r'=.agg (Zo r.1)/\Tau tt0 [(e0,⟨55,2,[i6 r.2.fuel,i6 r.2.code]⟩)] tt'/\Fx tt' ss' [] []) s'->Q .ret s')->∀(T:TT) (ss tt:Sto),T 2=sf Zq a2/\T 4=.ptr b1 0/\T 6=.ptr b3 0/\T 7=i6 Yt->Tau tt0 [(e0,⟨55,2,[i6 (i64.wrap (c0.fuel - 1)),i6 c0.code]⟩)] tt->Fx tt ss [(b3,⟨34,16,[i6 0,i6 0,.str zB,.X4,i6 0,i6 0,.str zB,i6 0,.X4,i6 0,.str zB,i6 0,.X4,.X4,.X4,.X4]⟩),(b1,⟨31,11,[i6 a1.kind,i6 a1.id,.str a1.name,i6 a1.num,sf cI a1.ids,i6 a1.data.kind,.str a1.data.name,i6 a1.data.num,sf cI a1.data.sc,sf KY a1.data.kids,sf K2 a1.kids]⟩)] []->aLp KZ c Q ⟨T,ss⟩:=by
 intro a1 a2 c0 Yt;revert Yt;refine VG.partial_correctness a1 a2 c0 _ ?_;intro VG IH Yt out H c hc Q tt0 e0 b1 b3 hE hR T ss tt tT hX hF;refine lpy hc rfl fun q=>go ?_;refine cdp H (fun h H=>go ?_) (fun h H=>go ?_)
 ·refine Yj E0 [.v,.v,.v,.v,.v,.v,.v,.v] (by kernel_rfl) ?_;obtain ⟨x50,f1,H⟩:=bil (g:=Zq) Slt.X6 H;refine go1 ?_;refine go ?_;refine cdp H (fun h H=>?_) (fun h H=>go ?_)
  ·obtain ⟨x58,f1,H⟩:=bil (g:=Zq) Slt.X6 H;refine go1 ?_;refine st hF 0 rfl fun s12 hF=>?_;refine go ?_;exact wq (hR _ (pur H).symm _ (rg _ ⟨_,rfl,hX,K1 _⟩))
  ·exact IH  (i64.wrap (Yt - 1)) _ H _ rfl Q tt0 e0 b1 b3 hE hR _ _ _  S hX hF
 ·exact wq (hE () (pur H).symm _ _ _  S hX hF)
theorem Ds:∀(a1:Cor) (VO VK:Int) (x142:Val) (x145:List Val) (Dh:List Slt) (IP:Int) out,Vo a1 VO VK x142 x145 Dh IP=some out->∀c,Yf Tryz.f29 2=some c->∀(Q:QT) (tt0:Sto) (e0 b1 b3 b64:Nat),(∀(Qq2:List Slt),out=Qq2->∀(T:TT) (ss tt:Sto) (e2v0:AV),T 0=.ptr e0 0/\T 6=.ptr b3 0/\T 12=.ptr b64 0/\T 14=e2v0->Tau tt0 [(e0,⟨55,2,[i6 VO,i6 VK]⟩)] tt->Fx tt ss [(b64,⟨34,16,[i6 x142.kind,i6 x142.num,.str x142.name,sf Zo x142.items,i6 x142.fn.kind,i6 x142.fn.id,.str x142.fn.name,i6 x142.fn.num,sf cI x142.fn.ids,i6 x142.fn.data.kind,.str x142.fn.data.name,i6 x142.fn.data.num,sf cI x142.fn.data.sc,sf KY x142.fn.data.kids,sf K2 x142.fn.kids,sf Zq x142.env]⟩),(b3,⟨34,16,[i6 0,i6 0,.str zB,.X4,i6 0,i6 0,.str zB,i6 0,.X4,i6 0,.str zB,i6 0,.X4,.X4,.X4,.X4]⟩),(b1,⟨31,11,[i6 a1.kind,i6 a1.id,.str a1.name,i6 a1.num,sf cI a1.ids,i6 a1.data.kind,.str a1.data.name,i6 a1.data.num,sf cI a1.data.sc,sf KY a1.data.kids,sf K2 a1.kids]⟩)] [⟨e2v0,78,17,rws Zq Qq2⟩]->Q (.ex 6) ⟨T,ss⟩)->True->∀(T:TT) (ss tt:Sto) (z2v0:AV),T 0=.ptr e0 0/\T 6=.ptr b3 0/\T 12=.ptr b64 0/\T 13=sf Zo x145/\T 14=z2v0/\T 171=sf cI x142.fn.ids/\T 172=i6 (x142.fn.ids.length:Int)/\T 173=i6 IP->Tau tt0 [(e0,⟨55,2,[i6 VO,i6 VK]⟩)] tt->Fx tt ss [(b64,⟨34,16,[i6 x142.kind,i6 x142.num,.str x142.name,sf Zo x142.items,i6 x142.fn.kind,i6 x142.fn.id,.str x142.fn.name,i6 x142.fn.num,sf cI x142.fn.ids,i6 x142.fn.data.kind,.str x142.fn.data.name,i6 x142.fn.data.num,sf cI x142.fn.data.sc,sf KY x142.fn.data.kids,sf K2 x142.fn.kids,sf Zq x142.env]⟩),(b3,⟨34,16,[i6 0,i6 0,.str zB,.X4,i6 0,i6 0,.str zB,i6 0,.X4,i6 0,.str zB,i6 0,.X4,.X4,.X4,.X4]⟩),(b1,⟨31,11,[i6 a1.kind,i6 a1.id,.str a1.name,i6 a1.num,sf cI a1.ids,i6 a1.data.kind,.str a1.data.name,i6 a1.data.num,sf cI a1.data.sc,sf KY a1.data.kids,sf K2 a1.kids]⟩)] [⟨z2v0,78,17,rws Zq Dh⟩]->aLp KZ c Q ⟨T,ss⟩:=by
 intro a1 VO VK x142 x145 Dh IP;revert Dh IP;refine Vo.partial_correctness a1 VO VK x142 x145 _ ?_;intro Vo IH Dh IP out H c hc Q tt0 e0 b1 b3 b64 hE hR T ss tt z2v0 tT hX hF;refine lpy hc rfl fun q=>go ?_;refine cdp H (fun h H=>?_) (fun h H=>go ?_)
 ·obtain ⟨x176,f1,H⟩:=bil (g:=cI) (fun _=>rfl) H;refine go1 ?_;obtain ⟨x182,f1,H⟩:=bil (g:=Zo) Val.X6 H;refine go1 ?_;refine apd (g:=Zq) hF 0 H (rdo (c:=true) (g:=Zq) Slt.X6) fun x186 H v81 s82 hF=>go ?_;exact IH  x186 (i64.wrap (IP+1)) _ H _ rfl Q tt0 e0 b1 b3 b64 hE hR _ _ _ v81 S hX hF
 ·exact wq (hE _ (pur H).symm _ _ _ z2v0 S hX hF)
theorem EP:∀(a1:Cor) (a2:List Slt) (c0:Mch) r,YO a1 a2 c0=some r->∀(e0:Nat)  (ss:Sto),Pre ss [(e0,⟨55,2,[i6 c0.fuel,i6 c0.code]⟩)] []->Ctr KZ 29 [.ptr e0 0,.agg (K2 a1),sf Zq a2] ss (fun r' ss'=>∃(tt':Sto),r'=.agg (Zo r.1)/\Tau (strip ss []) [(e0,⟨55,2,[i6 r.2.fuel,i6 r.2.code]⟩)] tt'/\Fx tt' ss' [] []):=by
 refine YO.partial_correctness _ (motive_2:=fun a1 a2 VZ Bo YS J7 out=>∀c,Yf Tryz.f29 1=some c->∀(Q:QT) (tt0:Sto) (e0 b1 b3:Nat),(∀(N1:List Val) (BK N2:Int),out=(N1,BK,N2)->∀(T:TT) (ss tt:Sto) (e1v0:AV),T 0=.ptr e0 0/\T 6=.ptr b3 0/\T 9=e1v0->Tau tt0 [(e0,⟨55,2,[i6 BK,i6 N2]⟩)] tt->Fx tt ss [(b3,⟨34,16,[i6 0,i6 0,.str zB,.X4,i6 0,i6 0,.str zB,i6 0,.X4,i6 0,.str zB,i6 0,.X4,.X4,.X4,.X4]⟩),(b1,⟨31,11,[i6 a1.kind,i6 a1.id,.str a1.name,i6 a1.num,sf cI a1.ids,i6 a1.data.kind,.str a1.data.name,i6 a1.data.num,sf cI a1.data.sc,sf KY a1.data.kids,sf K2 a1.kids]⟩)] [⟨e1v0,34,16,rws Zo N1⟩]->Q (.ex 3) ⟨T,ss⟩)->True->∀(T:TT) (ss tt:Sto) (z1v0:AV),T 0=.ptr e0 0/\T 2=sf Zq a2/\T 6=.ptr b3 0/\T 9=z1v0/\T 121=sf K2 a1.kids/\T 122=i6 (a1.kids.length:Int)/\T 123=i6 Bo->Tau tt0 [(e0,⟨55,2,[i6 YS,i6 J7]⟩)] tt->Fx tt ss [(b3,⟨34,16,[i6 0,i6 0,.str zB,.X4,i6 0,i6 0,.str zB,i6 0,.X4,i6 0,.str zB,i6 0,.X4,.X4,.X4,.X4]⟩),(b1,⟨31,11,[i6 a1.kind,i6 a1.id,.str a1.name,i6 a1.num,sf cI a1.ids,i6 a1.data.kind,.str a1.data.name,i6 a1.data.num,sf cI a1.data.sc,sf KY a1.data.kids,sf K2 a1.kids]⟩)] [⟨z1v0,34,16,rws Zo VZ⟩]->aLp KZ c Q ⟨T,ss⟩) ?_ ?_
 ·intro YO VH C0 L0 a1 a2 c0 r H;intro e0  ss hP;refine hdg mixed Tryz.func29 (rs:=[.cell 6 34]) fun q tT=>?_;obtain ⟨hF,hX⟩:=hP.start;generalize strip ss []=tt0 at hF hX ⊢;refine go ?_;refine X8 hF rfl fun b1 ss2 hF=>go ?_;refine X8 hF rfl fun b3 ss4 hF=>go ?_;refine cdn H (fun h H=>go ?_) (fun h H=>go ?_)
  ·refine st hF 0 rfl fun ss5 hF=>?_;refine go ?_;cases pur H;exact rg _ ⟨_,rfl,hX,K1 _⟩
  ·refine cdp H (fun h H=>go ?_) (fun h H=>go ?_)
   ·obtain ⟨x29,hx29,H⟩:=bnd H;refine cx (J9 4 c0 _ hx29 e0  _ (pre 0 1 0 hF hX)) ?_;rintro _ ss6 ⟨t7,rfl,hT,hG⟩;obtain ⟨t8,hX,hF⟩:=aft 0 1 0 hF hX hT hG;refine go ?_;refine st hF 0 rfl fun s9 hF=>?_;refine go ?_;cases pur H;exact rg _ ⟨_,rfl,hX,K1 _⟩
   ·refine stT hF hX 0 rfl fun t11 s10 hF hX=>?_;refine go ?_;refine cdp H (fun h H=>go ?_) (fun h H=>go ?_)
    ·obtain ⟨o13,ho13,H⟩:=bnd H;refine Dq a1 a2 c0 (i64.wrap ((a2.length:Int) - 1)) _ ho13 _ rfl _ tt0 e0 b1 b3 ?_ ?_ _ _ _  S hX hF
     ·intro _ he T15 s16 t17 tT hX hF;have he:=he.symm;subst he
      try dsimp only at H
      refine go ?_;refine st hF 0 rfl fun s18 hF=>?_;refine go ?_;cases pur H;exact rg _ ⟨_,rfl,hX,K1 _⟩
     ·intro r hr s' hs;subst hr;cases pur H;exact hsq hs
    ·refine cdp H (fun h H=>go ?_) (fun h H=>go ?_)
     ·refine bp H (Ag a1.num) fun x66 h H=>cl h (go ?_);refine st hF 0 rfl fun s19 hF=>?_;refine go ?_;cases pur H;exact rg _ ⟨_,rfl,hX,K1 _⟩
     ·refine cdp H (fun h H=>go ?_) (fun h H=>go ?_)
      ·refine bp H (LQ a1.data) fun x71 h H=>cl h (go ?_);refine st hF 0 rfl fun s20 hF=>?_;refine go ?_;cases pur H;exact rg _ ⟨_,rfl,hX,K1 _⟩
      ·refine cdp H (fun h H=>go ?_) (fun h H=>go ?_)
       ·refine st hF 0 rfl fun s21 hF=>?_;refine go ?_;cases pur H;exact rg _ ⟨_,rfl,hX,K1 _⟩
       ·refine cdp H (fun h H=>go ?_) (fun h H=>go ?_)
        ·refine Yj E0 [.v,.v,.v,.v] (by kernel_rfl) ?_
         try simp only [go_sem,↓reduceIte,Zr,Zt,Zu,Zs,Zv,Zw,Kl,q,tT,hF.f,hF.m,hF.x hX,Qeb]
         refine bp H (AQ [(Qk #[108,105,115,116]),(Qk #[43]),(Qk #[60]),(Qk #[61]),(Qk #[104,101,97,100]),(Qk #[116,97,105,108])] a1.name) fun x82 h H=>cv h (go ?_);refine cdb H (fun h H=>go ?_) (fun h H=>go ?_)
         ·refine st hF 0 rfl fun s22 hF=>?_;refine go ?_;cases pur H;exact rg _ ⟨_,rfl,hX,K1 _⟩
         ·obtain ⟨x87,hx87,H⟩:=bnd H;refine cx (J9 1 (KV (i64.wrap (c0.fuel - 1)) c0.code) _ hx87 e0  _ (pre 0 1 0 hF hX)) ?_;rintro _ s23 ⟨t24,rfl,hT,hG⟩;obtain ⟨t25,hX,hF⟩:=aft 0 1 0 hF hX hT hG;refine go ?_;refine st hF 0 rfl fun s26 hF=>?_;refine go ?_;cases pur H;exact rg _ ⟨_,rfl,hX,K1 _⟩
        ·refine cdp H (fun h H=>?_) (fun h H=>?_)
         ·obtain ⟨x93,f1,H⟩:=bil (g:=K2) Cor.X6 H;refine go1 ?_;obtain ⟨x96,hx96,H⟩:=bnd H;refine cx (C0 x93 a2 (KV (i64.wrap (c0.fuel - 1)) c0.code) _ hx96 e0  _ (pre 0 1 0 hF hX)) ?_;rintro _ s27 ⟨t28,rfl,hT,hG⟩;obtain ⟨t29,hX,hF⟩:=aft 0 1 0 hF hX hT hG;refine go ?_;refine X8 hF rfl fun b30 s31 hF=>go ?_;refine st hF 0 rfl fun s32 hF=>?_;refine go ?_;obtain ⟨x104,g33,H⟩:=bnd H;refine Yb 3 101 104 (.bool x104) (gi q (fun q=>go ?_) (fun q=>go ?_)) (fun J=>go ?_)
          ·exact Yq 101 g33
          ·exact Yq 101 g33
          refine cdb H (fun h H=>?_) (fun h H=>?_)
          ·obtain ⟨x108,f1,H⟩:=bil (g:=K2) Cor.X6 H;refine go1 ?_;obtain ⟨x111,hx111,H⟩:=bnd H;refine cx (C0 x108 a2 x96.2 _ hx111 e0  _ (pre 0 1 0 hF hX)) ?_;rintro _ s35 ⟨t36,rfl,hT,hG⟩;obtain ⟨tt37,hX,hF⟩:=aft 0 1 0 hF hX hT hG;refine go ?_;refine st hF 1 rfl fun s38 hF=>?_;refine go ?_;cases pur H;exact rg _ ⟨_,rfl,hX,K1 _⟩
          ·obtain ⟨x115,f1,H⟩:=bil (g:=K2) Cor.X6 H;refine go1 ?_;obtain ⟨x118,hx118,H⟩:=bnd H;refine cx (C0 x115 a2 x96.2 _ hx118 e0  _ (pre 0 1 0 hF hX)) ?_;rintro _ s39 ⟨t40,rfl,hT,hG⟩;obtain ⟨t41,hX,hF⟩:=aft 0 1 0 hF hX hT hG;refine go ?_;refine st hF 1 rfl fun s42 hF=>?_;refine go ?_;cases pur H;exact rg _ ⟨_,rfl,hX,K1 _⟩
         ·have hF:=hF.lit 34 16 (rws Zo []) rfl;refine go ?_;obtain ⟨o51,ho51,H⟩:=bnd H;refine L0 a1 a2 [] 0 (i64.wrap (c0.fuel - 1)) c0.code _ ho51 _ rfl _ tt0 e0 b1 b3 ?_ ?_ _ _ _ (.sl true (rws Zo [])) S hX hF
          ·intro Qbc VO VK he T53 s54 t55 e52v0 tT hX hF;have he:=he.symm;subst he
           try dsimp only at H
           refine go ?_;refine cdn H (fun h H=>go ?_) (fun h H=>go ?_)
           ·refine st hF 0 rfl fun s56 hF=>?_;refine go ?_;cases pur H;exact rg _ ⟨_,rfl,hX,K1 _⟩
           ·obtain ⟨s57,hF,hw58,hb59,hz60⟩:=frz hF 0;refine Qa0 9 (by simp [upd,tT]) hw58 hb59 (go ?_);obtain ⟨E,hEq⟩:∃E,E=EE s57 []:=⟨_,rfl⟩
            have n61:¬E b3:=by rw [hEq];exact K5 (hF.at 0 rfl) (by simp)
            have n62:¬E b1:=by rw [hEq];exact K5 (hF.at 1 rfl) (by simp)
            have n63:¬E e0:=by rw [hEq];exact K5 (hF.xat hX 0 rfl) (by simp)
            refine Yj E [.v,.v,.v,.v,.v,.x,.x,.v] (by kernel_rfl) ?_;obtain ⟨x142,f1,H⟩:=bil (g:=Zo) Val.X6 H;obtain ⟨x145,f2,H⟩:=bls (g:=Zo) Val.X6 (lo:=some (i6 1)) (hi:=none) rfl rfl H;have z:=K3 (X9 (hF.at 0 rfl) n61) (K3 (X9 (hF.at 1 rfl) n62) (X9 (hF.xat hX 0 rfl) n63));refine gh2 ?_;refine BL hF rfl fun b64 s65 nw66 mo67 hF=>?_;have z:=K3 (X9 (hF.at 1 rfl) n61) (K3 (X9 (hF.at 2 rfl) n62) (X9 (hF.xat hX 0 rfl) n63));refine gh ?_;refine stK hF 0 (show E _ from ((em0 hEq) _ nw66)) rfl fun s68 hF=>?_;have z:=K3 (X9 (hF.at 1 rfl) n61) (K3 (X9 (hF.at 2 rfl) n62) (X9 (hF.xat hX 0 rfl) n63));refine gh ?_;refine go ?_;refine cdp H (fun h H=>go ?_) (fun h H=>go ?_)
            ·obtain ⟨x154,hx154,H⟩:=bnd H;refine cx (Cz x142.name x145 (KV VO VK) _ hx154 e0  _ (pre 0 1 0 hF hX)) ?_;rintro _ s69 ⟨tt70,rfl,hT,hG⟩;obtain ⟨t71,hX,hF⟩:=aft 0 1 0 hF hX hT hG;refine go ?_;refine st hF 1 rfl fun s72 hF=>?_;refine go ?_;cases pur H;exact rg _ ⟨_,rfl,hX,K1 _⟩
            ·refine cdp H (fun h H=>go ?_) (fun h H=>go ?_)
             ·refine cdn H (fun h H=>go ?_) (fun h H=>go ?_)
              ·obtain ⟨x165,hx165,H⟩:=bnd H;refine cx (J9 3 (KV VO VK) _ hx165 e0  _ (pre 0 1 0 hF hX)) ?_;rintro _ s73 ⟨t74,rfl,hT,hG⟩;obtain ⟨tt75,hX,hF⟩:=aft 0 1 0 hF hX hT hG;refine go ?_;refine st hF 1 rfl fun s76 hF=>?_;refine go ?_;cases pur H;exact rg _ ⟨_,rfl,hX,K1 _⟩
              ·obtain ⟨x168,hx168,H⟩:=bnd H;refine cx (IC x142.env _ hx168   _ (pre 0 0 0 hF hX)) ?_;rintro v77 s78 ⟨t79,_,rfl,hT,hG⟩;obtain ⟨t80,hX,hF⟩:=aft 0 0 0 hF hX hT hG;refine go ?_;obtain ⟨o83,ho83,H⟩:=bnd H;refine Ds a1 VO VK x142 x145 x168 0 _ ho83 _ rfl _ tt0 e0 b1 b3 b64 ?_ ?_ _ _ _ v77 S hX hF
               ·intro Qg2 he T85 s86 t87 e84v0 tT hX hF;have he:=he.symm;subst he;refine go ?_;obtain ⟨E,hEq⟩:∃E,E=EE s86 [e0]:=⟨_,rfl⟩
                have n88:¬E b64:=by rw [hEq];exact K5 (hF.at 0 rfl) (nm1 (neX hF 0 rfl hX 0 rfl))
                have n89:¬E b3:=by rw [hEq];exact K5 (hF.at 1 rfl) (nm1 (neX hF 1 rfl hX 0 rfl))
                have n90:¬E b1:=by rw [hEq];exact K5 (hF.at 2 rfl) (nm1 (neX hF 2 rfl hX 0 rfl))
                refine Yj E [.v,.v,.v,.v,.v,.v,.v,.x,.x,.z] (by kernel_rfl) ?_;obtain ⟨x192,f1,H⟩:=bil (g:=K2) Cor.X6 H;have z:=K3 (X9 (hF.at 0 rfl) n88) (K3 (X9 (hF.at 1 rfl) n89) (X9 (hF.at 2 rfl) n90));refine gh1 ?_;obtain ⟨x195,hx195,H⟩:=bnd H;obtain ⟨s91,hF,hw92,hb93,hz94⟩:=frz hF 0;refine FJ (IC Qg2 _ hx195   _ (pre 0 0 0 hF hX)) (.cons hw92 (fun _=>rfl) .nil) hb93 ?_;rintro v95 s96 ⟨t97,_,rfl,hT,hG⟩
                refine AB ((Fx.kept hT hG (by intro p hp;simp only [List.mem_cons,List.not_mem_nil,or_false] at hp<;>first | (rcases hp with rfl<;>(rw [hEq];first | (refine EE.of ?_;simp;done) | exact EE.new rfl))| cases hp)).to hz94) fun kp99=>?_
                obtain ⟨t98,hX,hF⟩:=aft 0 0 0 hF hX hT hG;have z:=K3 (X9 (hF.at 0 rfl) n88) (K3 (X9 (hF.at 1 rfl) n89) (X9 (hF.at 2 rfl) n90));refine gh ?_;obtain ⟨x196,hx196,H⟩:=bnd H;obtain ⟨s100,hF,hw101,hb102,hz103⟩:=frz hF 0;refine FJ (C0 x192 x195 (KV VO VK) _ hx196 e0  _ (pre 0 1 0 hF hX)) (by (try simp only [sf,i6,zB,Cor.Ya,Fm.Ya]);exact (.cons (Zp hb102 _) id (.cons (Zp hb102 _) id (.cons hw101 (fun _=>rfl) .nil)))) hb102 ?_;rintro _ s104 ⟨t105,rfl,hT,hG⟩
                refine AB ((Fx.kept hT hG (by intro p hp;simp only [List.mem_cons,List.not_mem_nil,or_false] at hp<;>first | (rcases hp with rfl<;>(rw [hEq];first | (refine EE.of ?_;simp;done) | exact EE.new rfl))| cases hp)).to hz103) fun kp107=>?_
                obtain ⟨t106,hX,hF⟩:=aft 0 1 0 hF hX hT hG;have z:=K3 (X9 (hF.at 0 rfl) n88) (K3 (X9 (hF.at 1 rfl) n89) (X9 (hF.at 2 rfl) n90));refine gh ?_;refine st hF 1 rfl fun s108 hF=>?_;have z:=K3 (X9 (hF.at 0 rfl) n88) (K3 (X9 (hF.at 1 rfl) n89) (X9 (hF.at 2 rfl) n90));refine gh ?_;refine go ?_;cases pur H;exact rg [.agg [i6 x196.1.kind,i6 x196.1.num,.str x196.1.name,sf Zo x196.1.items,i6 x196.1.fn.kind,i6 x196.1.fn.id,.str x196.1.fn.name,i6 x196.1.fn.num,sf cI x196.1.fn.ids,i6 x196.1.fn.data.kind,.str x196.1.fn.data.name,i6 x196.1.fn.data.num,sf cI x196.1.fn.data.sc,sf KY x196.1.fn.data.kids,sf K2 x196.1.fn.kids,sf Zq x196.1.env]] ⟨_,rfl,hX,K1 _⟩
               ·trivial
             ·obtain ⟨x198,hx198,H⟩:=bnd H;refine cx (J9 2 (KV VO VK) _ hx198 e0  _ (pre 0 1 0 hF hX)) ?_;rintro _ s109 ⟨t110,rfl,hT,hG⟩;obtain ⟨t111,hX,hF⟩:=aft 0 1 0 hF hX hT hG;refine go ?_;refine st hF 1 rfl fun s112 hF=>?_;refine go ?_;cases pur H;exact rg _ ⟨_,rfl,hX,K1 _⟩
          ·trivial
 ·intro YO VH C0 L0 a1 a2 VZ Bo YS J7 out H c hc Q tt0 e0 b1 b3 hE hR T ss tt z1v0 tT hX hF;refine lpy hc rfl fun q=>go ?_;refine cdp H (fun h H=>?_) (fun h H=>go ?_)
  ·obtain ⟨x125,f1,H⟩:=bil (g:=K2) Cor.X6 H;refine go1 ?_;refine X8 hF rfl fun b43 s44 hF=>go ?_;refine st hF 0 rfl fun s45 hF=>?_;refine go ?_;obtain ⟨x131,hx131,H⟩:=bnd H;refine cx (C0 x125 a2 (KV YS J7) _ hx131 e0  _ (pre 0 1 0 hF hX)) ?_;rintro _ s46 ⟨t47,rfl,hT,hG⟩;obtain ⟨t48,hX,hF⟩:=aft 0 1 0 hF hX hT hG;refine go ?_;refine apd (g:=Zo) hF 0 H (rdo (c:=true) (g:=Zo) Val.X6) fun x133 H v49 s50 hF=>go ?_;exact L0 a1 a2 x133 (i64.wrap (Bo+1)) x131.2.fuel x131.2.code _ H _ rfl Q tt0 e0 b1 b3 hE hR _ _ _ v49 S hX (hF.drop 1 0)
  ·exact wq (hE _ _ _ (pur H).symm _ _ _ z1v0 S hX hF)
theorem Pv:∀(a0:Val) (c0:Int) r,J0 a0 c0=some r->∀(e0:Nat)  (ss:Sto),Pre ss [(e0,⟨3,1,[i6 c0]⟩)] []->Ctr KZ 30 [.agg (Zo a0),.ptr e0 0] ss (fun r' ss'=>∃(tt':Sto),r'=.bool r.1/\Tau (strip ss []) [(e0,⟨3,1,[i6 r.2]⟩)] tt'/\Fx tt' ss' [] []):=by
 refine J0.partial_correctness _ (motive_2:=fun a0 DR YS out=>∀c,Yf Tryz.f30 1=some c->∀(Q:QT) (tt0:Sto) (e0 b1:Nat),(∀(BK:Int),out=Sum.inr BK->∀(T:TT) (ss tt:Sto),0+0=0->Tau tt0 [(e0,⟨3,1,[i6 BK]⟩)] tt->Fx tt ss [(b1,⟨34,16,[i6 a0.kind,i6 a0.num,.str a0.name,sf Zo a0.items,i6 a0.fn.kind,i6 a0.fn.id,.str a0.fn.name,i6 a0.fn.num,sf cI a0.fn.ids,i6 a0.fn.data.kind,.str a0.fn.data.name,i6 a0.fn.data.num,sf cI a0.fn.data.sc,sf KY a0.fn.data.kids,sf K2 a0.fn.kids,sf Zq a0.env]⟩)] []->Q (.ex 2) ⟨T,ss⟩)->(∀r,out=Sum.inl r->∀s',I6 KZ [.tmp 4] (fun r' ss'=>∃(tt':Sto),r'=.bool r.1/\Tau tt0 [(e0,⟨3,1,[i6 r.2]⟩)] tt'/\Fx tt' ss' [] []) s'->Q .ret s')->∀(T:TT) (ss tt:Sto),T 1=.ptr e0 0/\T 31=sf Zq a0.env/\T 32=i6 (a0.env.length:Int)/\T 33=i6 DR->Tau tt0 [(e0,⟨3,1,[i6 YS]⟩)] tt->Fx tt ss [(b1,⟨34,16,[i6 a0.kind,i6 a0.num,.str a0.name,sf Zo a0.items,i6 a0.fn.kind,i6 a0.fn.id,.str a0.fn.name,i6 a0.fn.num,sf cI a0.fn.ids,i6 a0.fn.data.kind,.str a0.fn.data.name,i6 a0.fn.data.num,sf cI a0.fn.data.sc,sf KY a0.fn.data.kids,sf K2 a0.fn.kids,sf Zq a0.env]⟩)] []->aLp KZ c Q ⟨T,ss⟩) (motive_3:=fun a0 Il Vm out=>∀c,Yf Tryz.f30 0=some c->∀(Q:QT) (tt0:Sto) (e0 b1:Nat),(∀(BJ:Int),out=Sum.inr BJ->∀(T:TT) (ss tt:Sto),T 1=.ptr e0 0/\T 2=.ptr b1 0->Tau tt0 [(e0,⟨3,1,[i6 BJ]⟩)] tt->Fx tt ss [(b1,⟨34,16,[i6 a0.kind,i6 a0.num,.str a0.name,sf Zo a0.items,i6 a0.fn.kind,i6 a0.fn.id,.str a0.fn.name,i6 a0.fn.num,sf cI a0.fn.ids,i6 a0.fn.data.kind,.str a0.fn.data.name,i6 a0.fn.data.num,sf cI a0.fn.data.sc,sf KY a0.fn.data.kids,sf K2 a0.fn.kids,sf Zq a0.env]⟩)] []->Q (.ex 0) ⟨T,ss⟩)->(∀r,out=Sum.inl r->∀s',I6 KZ [.tmp 4] (fun r' ss'=>∃(tt':Sto),r'=.bool r.1/\Tau tt0 [(e0,⟨3,1,[i6 r.2]⟩)] tt'/\Fx tt' ss' [] []) s'->Q .ret s')->∀(T:TT) (ss tt:Sto),T 1=.ptr e0 0/\T 2=.ptr b1 0/\T 19=sf Zo a0.items/\T 20=i6 (a0.items.length:Int)/\T 21=i6 Il->Tau tt0 [(e0,⟨3,1,[i6 Vm]⟩)] tt->Fx tt ss [(b1,⟨34,16,[i6 a0.kind,i6 a0.num,.str a0.name,sf Zo a0.items,i6 a0.fn.kind,i6 a0.fn.id,.str a0.fn.name,i6 a0.fn.num,sf cI a0.fn.ids,i6 a0.fn.data.kind,.str a0.fn.data.name,i6 a0.fn.data.num,sf cI a0.fn.data.sc,sf KY a0.fn.data.kids,sf K2 a0.fn.kids,sf Zq a0.env]⟩)] []->aLp KZ c Q ⟨T,ss⟩) ?_ ?_ ?_
 ·intro Gp Gn L1 L0 a0 c0 r H;intro e0  ss hP;refine hdg mixed Tryz.func30 (rs:=[.tmp 4]) fun q tT=>?_;obtain ⟨hF,hX⟩:=hP.start;generalize strip ss []=tt0 at hF hX ⊢;refine go ?_;refine X8 hF rfl fun b1 ss2 hF=>go ?_;refine stT hF hX 0 rfl fun tt4 ss3 hF hX=>?_;refine go ?_;refine cdp H (fun h H=>go ?_) (fun h H=>go ?_)
  ·cases pur H;exact rg _ ⟨_,rfl,hX,K1 _⟩
  ·obtain ⟨o11,ho11,H⟩:=bnd H;refine L0 a0 0 (i64.wrap (c0 - 1)) _ ho11 _ rfl _ tt0 e0 b1 ?_ ?_ _ _ _  S hX hF
   ·intro RX he T13 s14 t15 tT hX hF;have he:=he.symm;subst he
    try dsimp only at H
    refine go ?_;obtain ⟨o22,ho22,H⟩:=bnd H;refine L1 a0 0 RX _ ho22 _ rfl _ tt0 e0 b1 ?_ ?_ _ _ _  S hX hF
    ·intro Qa4 he T24 s25 t26 tT hX hF;have he:=he.symm;subst he
     try dsimp only at H
     refine go ?_;cases pur H;exact rg _ ⟨_,rfl,hX,K1 _⟩
    ·intro r hr s' hs;subst hr;cases pur H;exact hsq hs
   ·intro r hr s' hs;subst hr;cases pur H;exact hsq hs
 ·intro J0 Gp C0 L1 a0 DR YS out H c hc Q tt0 e0 b1 hE hR T ss tt tT hX hF;refine lpy hc rfl fun q=>go ?_;refine cdp H (fun h H=>?_) (fun h H=>go ?_)
  ·obtain ⟨x35,f1,H⟩:=bil (g:=Zq) Slt.X6 H;refine go1 ?_;refine X8 hF rfl fun b16 s17 hF=>go ?_;refine st hF 0 rfl fun s18 hF=>?_;refine go ?_;obtain ⟨x40,hx40,H⟩:=bnd H;refine cx (C0 x35.val YS _ hx40 e0  _ (pre 0 1 0 hF hX)) ?_;rintro _ s19 ⟨tt20,rfl,hT,hG⟩;obtain ⟨t21,hX,hF⟩:=aft 0 1 0 hF hX hT hG;refine go ?_;refine cdb H (fun h H=>go ?_) (fun h H=>go ?_)
   ·exact wq (hR _ (pur H).symm _ (rg _ ⟨_,rfl,hX,K1 _⟩))
   ·exact L1 a0 (i64.wrap (DR+1)) x40.2 _ H _ rfl Q tt0 e0 b1 hE hR _ _ _  S hX (hF.drop 1 0)
  ·exact wq (hE _ (pur H).symm _ _ _  S hX hF)
 ·intro J0 Gn C0 L0 a0 Il Vm out H c hc Q tt0 e0 b1 hE hR T ss tt tT hX hF;refine lpy hc rfl fun q=>go ?_;refine cdp H (fun h H=>?_) (fun h H=>go ?_)
  ·obtain ⟨x23,f1,H⟩:=bil (g:=Zo) Val.X6 H;refine go1 ?_;refine X8 hF rfl fun b5 ss6 hF=>go ?_;refine st hF 0 rfl fun s7 hF=>?_;refine go ?_;obtain ⟨x27,hx27,H⟩:=bnd H;refine cx (C0 x23 Vm _ hx27 e0  _ (pre 0 1 0 hF hX)) ?_;rintro _ s8 ⟨tt9,rfl,hT,hG⟩;obtain ⟨t10,hX,hF⟩:=aft 0 1 0 hF hX hT hG;refine go ?_;refine cdb H (fun h H=>go ?_) (fun h H=>go ?_)
   ·exact wq (hR _ (pur H).symm _ (rg _ ⟨_,rfl,hX,K1 _⟩))
   ·exact L0 a0 (i64.wrap (Il+1)) x27.2 _ H _ rfl Q tt0 e0 b1 hE hR _ _ _  S hX (hF.drop 1 0)
  ·exact wq (hE _ (pur H).symm _ _ _  S hX hF)
theorem AH:∀(a0:List Int) r,Jb a0=some r->Y7 KZ 76 [.sl (false) (rws cI a0)] (sf cI r):=by
 intro a0 r H ss;unfold Jb at H;refine Td mixed Tryz.func76 rfl (by kernel_rfl) (rs:=[.tmp 2]) rfl (by kernel_rfl) ?_;have hF:=Fx.refl ss;have hX:=Tau.none ss;have hF:=hF.lit 3 1 (rws cI []) rfl
 cases a0 with
 | nil =>
  obtain ⟨rfl,_⟩:=CA H
  try simp only [go_sem,↓reduceIte,Zr,Zt,Zu,Zs,Zv,Zw,Kl]
  refine Qe2 ?_ ?_
  ·try simp only [go_sem,↓reduceIte,Zr,Zt,Zu,Zs,Zv,Zw,Kl]
   exact Qbk (vs:=[.X4]) (by first | (simp only [go_sem,↓reduceIte,Zr,Zt,Zu,Zs,Zv,Zw,Kl];done) | rfl | (simp only [go_sem,↓reduceIte,Zr,Zt,Zu,Zs,Zv,Zw,Kl];rfl)) (Wk.Qpy .X4 hF.sub)
  ·try simp only [go_sem,↓reduceIte,Zr,Zt,Zu,Zs,Zv,Zw,Kl]
   refine Tw hF 0 (g:=cI) (xs:=[]) (ys:=[]) rfl (by decide) (by decide) (RdL.of (c:=false) (fun _=>rfl) rfl) H fun v1 ss1 hF=>?_
   try simp only [go_sem,↓reduceIte,Zr,Zt,Zu,Zs,Zv,Zw,Kl,hF.cells 0 rfl,hF.len 0 rfl]
   exact Qbk (vs:=[v1]) (by first | (simp only [go_sem,↓reduceIte,Zr,Zt,Zu,Zs,Zv,Zw,Kl,hF.cells 0 rfl,hF.len 0 rfl];done) | rfl | (simp only [go_sem,↓reduceIte,Zr,Zt,Zu,Zs,Zv,Zw,Kl,hF.cells 0 rfl,hF.len 0 rfl];rfl)) (hF.wk 0 rfl)
 | cons x xs =>
  try simp only [go_sem,↓reduceIte,Zr,Zt,Zu,Zs,Zv,Zw,Kl]
  refine Tw hF 0 (g:=cI) (xs:=[]) (ys:=x :: xs) rfl (by decide) (by decide) (RdL.of (c:=false) (fun _=>rfl) (by first | rfl | simp only [Vj,V7,cI,cU,cS,cL])) H fun v1 ss1 hF=>?_
  try simp only [go_sem,↓reduceIte,Zr,Zt,Zu,Zs,Zv,Zw,Kl,hF.cells 0 rfl,hF.len 0 rfl]
  exact Qbk (vs:=[v1]) (by first | (simp only [go_sem,↓reduceIte,Zr,Zt,Zu,Zs,Zv,Zw,Kl,hF.cells 0 rfl,hF.len 0 rfl];done) | rfl | (simp only [go_sem,↓reduceIte,Zr,Zt,Zu,Zs,Zv,Zw,Kl,hF.cells 0 rfl,hF.len 0 rfl];rfl)) (hF.wk 0 rfl)
theorem MK:∀(a0:Fm) r,Hk a0=some r->Y7 KZ 91 [.agg (KY a0)] (.agg (KY r)):=by
 refine Hk.partial_correctness _ (motive_2:=fun a0 x14 X7 DN out=>∀c,Yf Tryz.f91 0=some c->∀(Q:QT) (tt:Sto) (b1 b3 b5:Nat),(∀(YX:List Fm),out=YX->∀(T:TT) (ss:Sto) (e0v0:AV),T 2=.ptr b3 0/\T 3=.ptr b5 0->Fx tt ss [(b5,⟨26,5,[i6 a0.kind,.str a0.name,i6 a0.num,sf cI x14,e0v0]⟩),(b3,⟨26,5,[i6 0,.str zB,i6 0,.X4,.X4]⟩),(b1,⟨26,5,[i6 a0.kind,.str a0.name,i6 a0.num,sf cI a0.sc,sf KY a0.kids]⟩)] [⟨e0v0,26,5,rws KY YX⟩]->Q (.ex 0) ⟨T,ss⟩)->True->∀(T:TT) (ss:Sto) (z0v0:AV),T 2=.ptr b3 0/\T 3=.ptr b5 0/\T 17=sf KY a0.kids/\T 18=i6 (a0.kids.length:Int)/\T 19=i6 DN->Fx tt ss [(b5,⟨26,5,[i6 a0.kind,.str a0.name,i6 a0.num,sf cI x14,z0v0]⟩),(b3,⟨26,5,[i6 0,.str zB,i6 0,.X4,.X4]⟩),(b1,⟨26,5,[i6 a0.kind,.str a0.name,i6 a0.num,sf cI a0.sc,sf KY a0.kids]⟩)] [⟨z0v0,26,5,rws KY X7⟩]->aLp KZ c Q ⟨T,ss⟩) ?_ ?_
 ·intro Je L0 a0 r H;intro ss;refine hdh mixed Tryz.func91 (rs:=[.cell 2 26]) fun q tT hF hX=>?_;refine go ?_;refine X8 hF rfl fun b1 ss2 hF=>go ?_;refine X8 hF rfl fun b3 ss4 hF=>go ?_;refine Yj E0 [.v,.v,.v,.v,.v,.v,.v,.v,.v,.v,.x,.z] (by kernel_rfl) (go ?_);refine bp H (AH a0.sc) fun x14 h H=>cv h (go ?_);refine J8 hF rfl fun b5 ss6 hF=>go ?_;refine st hF 0 rfl fun s7 hF=>?_;have hF:=hF.nil 26 5;refine go ?_;obtain ⟨o14,ho14,H⟩:=bnd H;refine L0 a0 x14 [] 0 _ ho14 _ rfl _ _ b1 b3 b5 ?_ ?_ _ _ .X4 S hF
  ·intro Jm he T16 s17 e15v0 tT hF;have he:=he.symm;subst he;refine go ?_;refine st hF 1 rfl fun s19 hF=>?_;refine go ?_;cases pur H;exact rt _
  ·trivial
 ·intro Hk Je C0 L0 a0 x14 X7 DN out H c hc Q tt b1 b3 b5 hE hR T ss z0v0 tT hF;refine lpx tt hc rfl fun q hX=>go ?_;refine cdp H (fun h H=>?_) (fun h H=>go ?_)
  ·obtain ⟨x21,f1,H⟩:=bil (g:=KY) Fm.X6 H;refine go1 ?_;refine X8 hF rfl fun b8 s9 hF=>go ?_;refine st hF 0 rfl fun s10 hF=>?_;refine go ?_;refine Yj E0 [.v,.v,.v,.v,.v,.x,.v,.z] (by kernel_rfl) (go ?_);refine bp H (C0 x21) fun x26 h H=>cv h (go ?_);refine NN (g:=KY) hF 0 H (rdo (c:=true) (g:=KY) Fm.X6) fun x28 H v11 s12 hF=>go ?_;refine st hF 1 (hF.cells 0 rfl) fun s13 hF=>?_;refine go ?_;exact L0 a0 x14 x28 (i64.wrap (DN+1)) _ H _ rfl Q tt b1 b3 b5 hE hR _ _ v11 S (hF.drop 1 0)
  ·exact wq (hE _ (pur H).symm _ _ z0v0 S hF)
theorem MJ:∀(a0:Cor) r,Hj a0=some r->Y7 KZ 57 [.agg (K2 a0)] (.agg (K2 r)):=by
 refine Hj.partial_correctness _ (motive_2:=fun a0 x16 x19 X7 DP out=>∀c,Yf Tryz.f57 0=some c->∀(Q:QT) (tt:Sto) (b1 b3 b5:Nat),(∀(YX:List Cor),out=YX->∀(T:TT) (ss:Sto) (e0v0:AV),T 2=.ptr b3 0/\T 3=.ptr b5 0->Fx tt ss [(b5,⟨31,11,[i6 a0.kind,i6 a0.id,.str a0.name,i6 a0.num,sf cI x16,i6 x19.kind,.str x19.name,i6 x19.num,sf cI x19.sc,sf KY x19.kids,e0v0]⟩),(b3,⟨31,11,[i6 0,i6 0,.str zB,i6 0,.X4,i6 0,.str zB,i6 0,.X4,.X4,.X4]⟩),(b1,⟨31,11,[i6 a0.kind,i6 a0.id,.str a0.name,i6 a0.num,sf cI a0.ids,i6 a0.data.kind,.str a0.data.name,i6 a0.data.num,sf cI a0.data.sc,sf KY a0.data.kids,sf K2 a0.kids]⟩)] [⟨e0v0,31,11,rws K2 YX⟩]->Q (.ex 0) ⟨T,ss⟩)->True->∀(T:TT) (ss:Sto) (z0v0:AV),T 2=.ptr b3 0/\T 3=.ptr b5 0/\T 22=sf K2 a0.kids/\T 23=i6 (a0.kids.length:Int)/\T 24=i6 DP->Fx tt ss [(b5,⟨31,11,[i6 a0.kind,i6 a0.id,.str a0.name,i6 a0.num,sf cI x16,i6 x19.kind,.str x19.name,i6 x19.num,sf cI x19.sc,sf KY x19.kids,z0v0]⟩),(b3,⟨31,11,[i6 0,i6 0,.str zB,i6 0,.X4,i6 0,.str zB,i6 0,.X4,.X4,.X4]⟩),(b1,⟨31,11,[i6 a0.kind,i6 a0.id,.str a0.name,i6 a0.num,sf cI a0.ids,i6 a0.data.kind,.str a0.data.name,i6 a0.data.num,sf cI a0.data.sc,sf KY a0.data.kids,sf K2 a0.kids]⟩)] [⟨z0v0,31,11,rws K2 X7⟩]->aLp KZ c Q ⟨T,ss⟩) ?_ ?_
 ·intro Jd L0 a0 r H;intro ss;refine hdh mixed Tryz.func57 (rs:=[.cell 2 31]) fun q tT hF hX=>?_;refine go ?_;refine X8 hF rfl fun b1 ss2 hF=>go ?_;refine X8 hF rfl fun b3 ss4 hF=>go ?_;refine Yj E0 [.v,.v,.v,.v,.v,.v,.v,.v,.v,.v,.v,.v,.v,.v,.v,.x,.z] (by kernel_rfl) (go ?_);refine bp H (AH a0.ids) fun x16 h H=>cv h (go ?_);refine bp H (MK a0.data) fun x19 h H=>cv h (go ?_);refine J8 hF rfl fun b5 ss6 hF=>go ?_;refine st hF 0 rfl fun s7 hF=>?_;have hF:=hF.nil 31 11;refine go ?_;obtain ⟨o14,ho14,H⟩:=bnd H;refine L0 a0 x16 x19 [] 0 _ ho14 _ rfl _ _ b1 b3 b5 ?_ ?_ _ _ .X4 S hF
  ·intro Jm he T16 s17 e15v0 tT hF;have he:=he.symm;subst he;refine go ?_;refine st hF 1 rfl fun s19 hF=>?_;refine go ?_;cases pur H;exact rt _
  ·trivial
 ·intro Hj Jd C0 L0 a0 x16 x19 X7 DP out H c hc Q tt b1 b3 b5 hE hR T ss z0v0 tT hF;refine lpx tt hc rfl fun q hX=>go ?_;refine cdp H (fun h H=>?_) (fun h H=>go ?_)
  ·obtain ⟨x26,f1,H⟩:=bil (g:=K2) Cor.X6 H;refine go1 ?_;refine X8 hF rfl fun b8 s9 hF=>go ?_;refine st hF 0 rfl fun s10 hF=>?_;refine go ?_;refine Yj E0 [.v,.v,.v,.v,.v,.x,.v,.z] (by kernel_rfl) (go ?_);refine bp H (C0 x26) fun x31 h H=>cv h (go ?_);refine NN (g:=K2) hF 0 H (rdo (c:=true) (g:=K2) Cor.X6) fun x33 H v11 s12 hF=>go ?_;refine st hF 1 (hF.cells 0 rfl) fun s13 hF=>?_;refine go ?_;exact L0 a0 x16 x19 x33 (i64.wrap (DP+1)) _ H _ rfl Q tt b1 b3 b5 hE hR _ _ v11 S (hF.drop 1 0)
  ·exact wq (hE _ (pur H).symm _ _ z0v0 S hF)
theorem LO:∀(a0:Val) r,Wh a0=some r->Y7 KZ 31 [.agg (Zo a0)] (.agg (Zo r)):=by
 refine Wh.partial_correctness _ (motive_2:=fun a0 x16 Jm VX DS out=>∀c,Yf Tryz.f31 1=some c->∀(Q:QT) (tt:Sto) (b1 b3 b5:Nat) (e15v0:AV),(∀(FU:List Slt),out=FU->∀(T:TT) (ss:Sto) (e1v1:AV),T 2=.ptr b3 0/\T 3=.ptr b5 0->Fx tt ss [(b5,⟨34,16,[i6 a0.kind,i6 a0.num,.str a0.name,e15v0,i6 x16.kind,i6 x16.id,.str x16.name,i6 x16.num,sf cI x16.ids,i6 x16.data.kind,.str x16.data.name,i6 x16.data.num,sf cI x16.data.sc,sf KY x16.data.kids,sf K2 x16.kids,e1v1]⟩),(b3,⟨34,16,[i6 0,i6 0,.str zB,.X4,i6 0,i6 0,.str zB,i6 0,.X4,i6 0,.str zB,i6 0,.X4,.X4,.X4,.X4]⟩),(b1,⟨34,16,[i6 a0.kind,i6 a0.num,.str a0.name,sf Zo a0.items,i6 a0.fn.kind,i6 a0.fn.id,.str a0.fn.name,i6 a0.fn.num,sf cI a0.fn.ids,i6 a0.fn.data.kind,.str a0.fn.data.name,i6 a0.fn.data.num,sf cI a0.fn.data.sc,sf KY a0.fn.data.kids,sf K2 a0.fn.kids,sf Zq a0.env]⟩)] [⟨e1v1,78,17,rws Zq FU⟩,⟨e15v0,34,16,rws Zo Jm⟩]->Q (.ex 2) ⟨T,ss⟩)->True->∀(T:TT) (ss:Sto) (z1v1:AV),T 2=.ptr b3 0/\T 3=.ptr b5 0/\T 34=sf Zq a0.env/\T 35=i6 (a0.env.length:Int)/\T 36=i6 DS->Fx tt ss [(b5,⟨34,16,[i6 a0.kind,i6 a0.num,.str a0.name,e15v0,i6 x16.kind,i6 x16.id,.str x16.name,i6 x16.num,sf cI x16.ids,i6 x16.data.kind,.str x16.data.name,i6 x16.data.num,sf cI x16.data.sc,sf KY x16.data.kids,sf K2 x16.kids,z1v1]⟩),(b3,⟨34,16,[i6 0,i6 0,.str zB,.X4,i6 0,i6 0,.str zB,i6 0,.X4,i6 0,.str zB,i6 0,.X4,.X4,.X4,.X4]⟩),(b1,⟨34,16,[i6 a0.kind,i6 a0.num,.str a0.name,sf Zo a0.items,i6 a0.fn.kind,i6 a0.fn.id,.str a0.fn.name,i6 a0.fn.num,sf cI a0.fn.ids,i6 a0.fn.data.kind,.str a0.fn.data.name,i6 a0.fn.data.num,sf cI a0.fn.data.sc,sf KY a0.fn.data.kids,sf K2 a0.fn.kids,sf Zq a0.env]⟩)] [⟨z1v1,78,17,rws Zq VX⟩,⟨e15v0,34,16,rws Zo Jm⟩]->aLp KZ c Q ⟨T,ss⟩) (motive_3:=fun a0 x16 X7 Il out=>∀c,Yf Tryz.f31 0=some c->∀(Q:QT) (tt:Sto) (b1 b3 b5:Nat),(∀(YX:List Val),out=YX->∀(T:TT) (ss:Sto) (e0v0:AV),T 1=.ptr b1 0/\T 2=.ptr b3 0/\T 3=.ptr b5 0->Fx tt ss [(b5,⟨34,16,[i6 a0.kind,i6 a0.num,.str a0.name,e0v0,i6 x16.kind,i6 x16.id,.str x16.name,i6 x16.num,sf cI x16.ids,i6 x16.data.kind,.str x16.data.name,i6 x16.data.num,sf cI x16.data.sc,sf KY x16.data.kids,sf K2 x16.kids,.X4]⟩),(b3,⟨34,16,[i6 0,i6 0,.str zB,.X4,i6 0,i6 0,.str zB,i6 0,.X4,i6 0,.str zB,i6 0,.X4,.X4,.X4,.X4]⟩),(b1,⟨34,16,[i6 a0.kind,i6 a0.num,.str a0.name,sf Zo a0.items,i6 a0.fn.kind,i6 a0.fn.id,.str a0.fn.name,i6 a0.fn.num,sf cI a0.fn.ids,i6 a0.fn.data.kind,.str a0.fn.data.name,i6 a0.fn.data.num,sf cI a0.fn.data.sc,sf KY a0.fn.data.kids,sf K2 a0.fn.kids,sf Zq a0.env]⟩)] [⟨e0v0,34,16,rws Zo YX⟩]->Q (.ex 0) ⟨T,ss⟩)->True->∀(T:TT) (ss:Sto) (z0v0:AV),T 1=.ptr b1 0/\T 2=.ptr b3 0/\T 3=.ptr b5 0/\T 19=sf Zo a0.items/\T 20=i6 (a0.items.length:Int)/\T 21=i6 Il->Fx tt ss [(b5,⟨34,16,[i6 a0.kind,i6 a0.num,.str a0.name,z0v0,i6 x16.kind,i6 x16.id,.str x16.name,i6 x16.num,sf cI x16.ids,i6 x16.data.kind,.str x16.data.name,i6 x16.data.num,sf cI x16.data.sc,sf KY x16.data.kids,sf K2 x16.kids,.X4]⟩),(b3,⟨34,16,[i6 0,i6 0,.str zB,.X4,i6 0,i6 0,.str zB,i6 0,.X4,i6 0,.str zB,i6 0,.X4,.X4,.X4,.X4]⟩),(b1,⟨34,16,[i6 a0.kind,i6 a0.num,.str a0.name,sf Zo a0.items,i6 a0.fn.kind,i6 a0.fn.id,.str a0.fn.name,i6 a0.fn.num,sf cI a0.fn.ids,i6 a0.fn.data.kind,.str a0.fn.data.name,i6 a0.fn.data.num,sf cI a0.fn.data.sc,sf KY a0.fn.data.kids,sf K2 a0.fn.kids,sf Zq a0.env]⟩)] [⟨z0v0,34,16,rws Zo X7⟩]->aLp KZ c Q ⟨T,ss⟩) ?_ ?_ ?_
 ·intro Wy Wx L1 L0 a0 r H;intro ss;refine hdh mixed Tryz.func31 (rs:=[.cell 2 34]) fun q tT hF hX=>?_;refine go ?_;refine X8 hF rfl fun b1 ss2 hF=>go ?_;refine X8 hF rfl fun b3 ss4 hF=>go ?_;refine Yj E0 [.v,.v,.v,.v,.v,.v,.v,.v,.v,.v,.x,.z] (by kernel_rfl) (go ?_);refine bp H (MJ a0.fn) fun x16 h H=>cv h (go ?_);refine J8 hF rfl fun b5 ss6 hF=>go ?_;refine st hF 0 rfl fun s7 hF=>?_;have hF:=hF.nil 34 16;refine go ?_;obtain ⟨o14,ho14,H⟩:=bnd H;refine L0 a0 x16 [] 0 _ ho14 _ rfl _ _ b1 b3 b5 ?_ ?_ _ _ .X4 S hF
  ·intro Jm he T16 s17 e15v0 tT hF;have he:=he.symm;subst he;have hF:=hF.nil 78 17;refine go ?_;obtain ⟨o25,ho25,H⟩:=bnd H;refine L1 a0 x16 Jm [] 0 _ ho25 _ rfl _ _ b1 b3 b5 e15v0 ?_ ?_ _ _ .X4 S hF
   ·intro Qmf he T27 s28 e26v1 tT hF;have he:=he.symm;subst he;refine go ?_;refine st hF 1 rfl fun s30 hF=>?_;refine go ?_;cases pur H;exact rt _
   ·trivial
  ·trivial
 ·intro Wh Wy C0 L1 a0 x16 Jm VX DS out H c hc Q tt b1 b3 b5 e15v0 hE hR T ss z1v1 tT hF;refine lpx tt hc rfl fun q hX=>go ?_;refine cdp H (fun h H=>?_) (fun h H=>go ?_)
  ·obtain ⟨x38,f1,H⟩:=bil (g:=Zq) Slt.X6 H;refine go1 ?_;refine X8 hF rfl fun b19 s20 hF=>go ?_;refine st hF 0 rfl fun s21 hF=>?_;refine go ?_;refine Yj E0 [.v,.v,.v,.v,.v,.v,.v,.v,.v,.x,.v,.z] (by kernel_rfl) (go ?_);refine bp H (C0 x38.val) fun x46 h H=>cv h (go ?_);refine NN (g:=Zq) hF 0 H (rdo (c:=true) (g:=Zq) Slt.X6) fun x49 H v22 s23 hF=>go ?_;refine st hF 1 (hF.cells 0 rfl) fun s24 hF=>?_;refine go ?_;exact L1 a0 x16 Jm x49 (i64.wrap (DS+1)) _ H _ rfl Q tt b1 b3 b5 e15v0 hE hR _ _ v22 S (hF.drop 1 0)
  ·exact wq (hE _ (pur H).symm _ _ z1v1 S hF)
 ·intro Wh Wx C0 L0 a0 x16 X7 Il out H c hc Q tt b1 b3 b5 hE hR T ss z0v0 tT hF;refine lpx tt hc rfl fun q hX=>go ?_;refine cdp H (fun h H=>?_) (fun h H=>go ?_)
  ·obtain ⟨x23,f1,H⟩:=bil (g:=Zo) Val.X6 H;refine go1 ?_;refine X8 hF rfl fun b8 s9 hF=>go ?_;refine st hF 0 rfl fun s10 hF=>?_;refine go ?_;refine Yj E0 [.v,.v,.v,.v,.v,.x,.v,.z] (by kernel_rfl) (go ?_);refine bp H (C0 x23) fun x28 h H=>cv h (go ?_);refine NN (g:=Zo) hF 0 H (rdo (c:=true) (g:=Zo) Val.X6) fun x30 H v11 s12 hF=>go ?_;refine st hF 1 (hF.cells 0 rfl) fun s13 hF=>?_;refine go ?_;exact L0 a0 x16 x30 (i64.wrap (Il+1)) _ H _ rfl Q tt b1 b3 b5 hE hR _ _ v11 S (hF.drop 1 0)
  ·exact wq (hE _ (pur H).symm _ _ z0v0 S hF)
theorem DH:∀(a0:Cor) (a1:Int) r,IQ a0 a1=some r->Y7 KZ 14 [.agg (K2 a0),i6 a1] (.tup [.agg (Zo r.1),i6 r.2]):=by
 intro a0 a1 r H;intro ss;unfold IQ at H;refine hdh mixed Tryz.func14 (rs:=[.cell 4 34,.tmp 5]) fun q tT hF hX=>?_;refine go ?_;refine X8 hF rfl fun b1 ss2 hF=>go ?_;refine X8 hF rfl fun b3 ss4 hF=>go ?_;refine bp H (CT a0) fun x10 h H=>cl h (go ?_);obtain ⟨x16,g5,H⟩:=bnd H;refine Yb 3 13 16 (.bool x16) (giN q (fun q=>?_) (fun q=>?_)) (fun J=>go ?_)
 ·rw [if_neg (dbf q)] at g5;refine go ?_;obtain ⟨x14,hx14,g5⟩:=bnd g5;refine cl (Hw a1 0 3000 _ hx14) (go ?_);exact Yq 13 g5
 ·rw [if_pos (dbt q)] at g5;refine go ?_;exact Yq 13 g5
 refine cdb H (fun h H=>go ?_) (fun h H=>go ?_)
 ·refine st hF 0 rfl fun s7 hF=>?_;refine go ?_;cases pur H;exact rt _
 ·refine X8 hF rfl fun b8 s9 hF=>go ?_;obtain ⟨x23,hx23,H⟩:=bnd H;refine cx (EP a0 [] (KV a1 0) _ hx23 b8  _ (pre 1 0 0 hF hX)) ?_;rintro _ s10 ⟨t11,rfl,hT,hG⟩;have hF:=Pm 1 0 hF hX hT hG;refine go ?_;refine X8 hF rfl fun b13 s14 hF=>go ?_;refine st hF 0 rfl fun s15 hF=>?_;refine go ?_;refine cdn H (fun h H=>go ?_) (fun h H=>go ?_)
  ·obtain ⟨E,hEq⟩:∃E,E=EE s15 [b3]:=⟨_,rfl⟩
   have n16:¬E b13:=by rw [hEq];exact K5 (hF.at 0 rfl) (nm1 (neL hF 0 2 rfl rfl (by decide)))
   have n17:¬E b8:=by rw [hEq];exact K5 (hF.at 1 rfl) (nm1 (neL hF 1 2 rfl rfl (by decide)))
   have n18:¬E b1:=by rw [hEq];exact K5 (hF.at 3 rfl) (nm1 (neL hF 3 2 rfl rfl (by decide)))
   refine Yj E [.v,.v,.v,.v,.v,.x,.v] (by kernel_rfl) ?_;have z:=K3 (X9 (hF.at 0 rfl) n16) (K3 (X9 (hF.at 1 rfl) n17) (X9 (hF.at 3 rfl) n18));refine gh ?_;refine stK hF 2 (by rw [hEq];exact EE.of (by simp)) rfl fun s19 hF=>?_;have z:=K3 (X9 (hF.at 0 rfl) n16) (K3 (X9 (hF.at 1 rfl) n17) (X9 (hF.at 3 rfl) n18));refine gh ?_;refine go ?_;cases pur H;exact rt [.agg [i6 0,i6 0,.str zB,.X4,i6 0,i6 0,.str zB,i6 0,.X4,i6 0,.str zB,i6 0,.X4,.X4,.X4,.X4],i6 x23.2.code]
  ·refine X8 hF rfl fun b20 s21 hF=>go ?_;refine st hF 0 rfl fun s22 hF=>?_;refine go ?_;obtain ⟨x35,hx35,H⟩:=bnd H;refine cx (Pv x23.1 2000 _ hx35 b20  _ (pre 1 0 0 hF hX)) ?_;rintro _ s23 ⟨t24,rfl,hT,hG⟩;have hF:=Pm 1 0 hF hX hT hG;refine go ?_;refine cdb H (fun h H=>go ?_) (fun h H=>go ?_)
   ·refine st hF 3 rfl fun s26 hF=>?_;refine go ?_;cases pur H;exact rt _
   ·refine bp H (LO x23.1) fun x39 h H=>cl h (go ?_);refine st hF 3 rfl fun s27 hF=>?_;refine go ?_;cases pur H;exact rt _
theorem Mp:∀(a0:List Slt) (a1 Yh:Int) out,GO a0 a1 Yh=some out->∀c,Yf Tryz.f69 0=some c->∀(Q:QT) (tt:Sto) (b1:Nat),(∀(_u:Unit),out=Sum.inr ()->∀(T:TT) (ss:Sto),T 4=.ptr b1 0->Fx tt ss [(b1,⟨34,16,[i6 0,i6 0,.str zB,.X4,i6 0,i6 0,.str zB,i6 0,.X4,i6 0,.str zB,i6 0,.X4,.X4,.X4,.X4]⟩)] []->Q (.ex 0) ⟨T,ss⟩)->(∀r,out=Sum.inl r->∀s',I6 KZ [.cell 4 34] (fun r' ss'=>r'=.agg (Zo r)/\ss'=tt) s'->Q .ret s')->∀(T:TT) (ss:Sto),T 0=sf Zq a0/\T 1=i6 a1/\T 4=.ptr b1 0/\T 5=i6 Yh->Fx tt ss [(b1,⟨34,16,[i6 0,i6 0,.str zB,.X4,i6 0,i6 0,.str zB,i6 0,.X4,i6 0,.str zB,i6 0,.X4,.X4,.X4,.X4]⟩)] []->aLp KZ c Q ⟨T,ss⟩:=by
 intro a0 a1 Yh;revert Yh;refine GO.partial_correctness a0 a1 _ ?_;intro GO IH Yh out H c hc Q tt b1 hE hR T ss tT hF;refine lpx tt hc rfl fun q hX=>go ?_;refine cdp H (fun h H=>?_) (fun h H=>go ?_)
 ·obtain ⟨x15,f1,H⟩:=bil (g:=Zq) Slt.X6 H;refine go1 ?_;refine go ?_;refine cdp H (fun h H=>?_) (fun h H=>go ?_)
  ·obtain ⟨x22,f1,H⟩:=bil (g:=Zq) Slt.X6 H;refine go1 ?_;refine st hF 0 rfl fun ss3 hF=>?_;refine go ?_;exact wq (hR _ (pur H).symm _ (rt _))
  ·exact IH  (i64.wrap (Yh - 1)) _ H _ rfl Q tt b1 hE hR _ _  S hF
 ·exact wq (hE () (pur H).symm _ _  S hF)
theorem P6:∀(a0:List Slt) (a1:Int) r,B6 a0 a1=some r->Y7 KZ 69 [sf Zq a0,i6 a1] (.agg (Zo r)):=by
 intro a0 a1 r H;intro ss;unfold B6 at H;refine hdh mixed Tryz.func69 (rs:=[.cell 4 34]) fun q tT hF hX=>?_;refine go ?_;refine X8 hF rfl fun b1 ss2 hF=>go ?_;obtain ⟨o4,ho4,H⟩:=bnd H;refine Mp a0 a1 (i64.wrap ((a0.length:Int) - 1)) _ ho4 _ rfl _ _ b1 ?_ ?_ _ _  S hF
 ·intro _ he T6 s7 tT hF;have he:=he.symm;subst he
  try dsimp only at H
  refine go ?_;refine st hF 0 rfl fun s9 hF=>?_;refine go ?_;cases pur H;exact rt _
 ·intro r hr s' hs;subst hr;cases pur H;exact hsq hs
theorem P3:∀(a0:Fm) r,IN a0=some r->Y7 KZ 26 [.agg (KY a0)] (.agg (Zo r)):=by
 refine IN.partial_correctness _ (motive_2:=fun a0 X7 YJ out=>∀c,Yf Tryz.f26 0=some c->∀(Q:QT) (tt:Sto) (b1 b3 b7:Nat),(∀(YX:List Val),out=YX->∀(T:TT) (ss:Sto) (e0v0:AV),T 2=.ptr b3 0/\T 3=.ptr b7 0->Fx tt ss [(b7,⟨34,16,[i6 3,i6 0,.str zB,e0v0,i6 0,i6 0,.str zB,i6 0,.X4,i6 0,.str zB,i6 0,.X4,.X4,.X4,.X4]⟩),(b3,⟨34,16,[i6 0,i6 0,.str zB,.X4,i6 0,i6 0,.str zB,i6 0,.X4,i6 0,.str zB,i6 0,.X4,.X4,.X4,.X4]⟩),(b1,⟨26,5,[i6 a0.kind,.str a0.name,i6 a0.num,sf cI a0.sc,sf KY a0.kids]⟩)] [⟨e0v0,34,16,rws Zo YX⟩]->Q (.ex 1) ⟨T,ss⟩)->True->∀(T:TT) (ss:Sto) (z0v0:AV),T 1=.ptr b1 0/\T 2=.ptr b3 0/\T 3=.ptr b7 0/\T 4=i6 YJ->Fx tt ss [(b7,⟨34,16,[i6 3,i6 0,.str zB,z0v0,i6 0,i6 0,.str zB,i6 0,.X4,i6 0,.str zB,i6 0,.X4,.X4,.X4,.X4]⟩),(b3,⟨34,16,[i6 0,i6 0,.str zB,.X4,i6 0,i6 0,.str zB,i6 0,.X4,i6 0,.str zB,i6 0,.X4,.X4,.X4,.X4]⟩),(b1,⟨26,5,[i6 a0.kind,.str a0.name,i6 a0.num,sf cI a0.sc,sf KY a0.kids]⟩)] [⟨z0v0,34,16,rws Zo X7⟩]->aLp KZ c Q ⟨T,ss⟩) ?_ ?_
 ·intro GM L0 a0 r H;intro ss;refine hdh mixed Tryz.func26 (rs:=[.cell 2 34]) fun q tT hF hX=>?_;refine go ?_;refine X8 hF rfl fun b1 ss2 hF=>go ?_;refine X8 hF rfl fun b3 ss4 hF=>go ?_;refine cdp H (fun h H=>go ?_) (fun h H=>go ?_)
  ·refine st hF 0 rfl fun ss5 hF=>?_;refine go ?_;cases pur H;exact rt _
  ·refine cdp H (fun h H=>go ?_) (fun h H=>go ?_)
   ·refine st hF 0 rfl fun ss6 hF=>?_;refine go ?_;cases pur H;exact rt _
   ·refine X8 hF rfl fun b7 s8 hF=>go ?_;refine st hF 0 rfl fun s9 hF=>?_;have hF:=hF.nil 34 16;refine go ?_;obtain ⟨o13,ho13,H⟩:=bnd H;refine L0 a0 [] 0 _ ho13 _ rfl _ _ b1 b3 b7 ?_ ?_ _ _ .X4 S hF
    ·intro I7 he T15 s16 e14v0 tT hF;have he:=he.symm;subst he;refine go ?_;refine st hF 1 rfl fun s18 hF=>?_;refine go ?_;cases pur H;exact rt _
    ·trivial
 ·intro IN GM C0 L0 a0 X7 YJ out H c hc Q tt b1 b3 b7 hE hR T ss z0v0 tT hF;refine lpx tt hc rfl fun q hX=>go ?_;refine cdp H (fun h H=>go ?_) (fun h H=>go ?_)
  ·refine Yj E0 [.v,.v,.v,.v,.v,.v,.v,.v,.v,.x,.v,.z] (by kernel_rfl) ?_;obtain ⟨x30,f1,H⟩:=bil (g:=KY) Fm.X6 H;refine go1 ?_;refine bp H (C0 x30) fun x32 h H=>cv h (go ?_);refine NN (g:=Zo) hF 0 H (rdo (c:=true) (g:=Zo) Val.X6) fun x34 H v10 s11 hF=>go ?_;refine st hF 0 (hF.cells 0 rfl) fun s12 hF=>?_;refine go ?_;exact L0 a0 x34 (i64.wrap (YJ+1)) _ H _ rfl Q tt b1 b3 b7 hE hR _ _ v10 S hF
  ·exact wq (hE _ (pur H).symm _ _ z0v0 S hF)
theorem OQ:∀  r,Cw  = some r->Y7 KZ 71 [] (sf cS r):=by
 intro  r H;intro ss;unfold Cw at H;refine hdh mixed Tryz.func71 (rs:=[.tmp 0]) fun q tT hF hX=>?_;refine go ?_;cases pur H;exact rt _
theorem Ov:∀(a0:List ByteArray) (a1:ByteArray) (Yh:Int) out,Hl a0 a1 Yh=some out->∀c,Yf Tryz.f70 0=some c->∀(Q:QT) (tt:Sto),(∀(_u:Unit),out=Sum.inr ()->∀(T:TT) (ss:Sto),0+0=0->Fx tt ss [] []->Q (.ex 0) ⟨T,ss⟩)->(∀r,out=Sum.inl r->∀s',I6 KZ [.tmp 4] (fun r' ss'=>r'=.bool r/\ss'=tt) s'->Q .ret s')->∀(T:TT) (ss:Sto),T 0=sf cS a0/\T 1=.str a1/\T 5=i6 Yh->Fx tt ss [] []->aLp KZ c Q ⟨T,ss⟩:=by
 intro a0 a1 Yh;revert Yh;refine Hl.partial_correctness a0 a1 _ ?_;intro Hl IH Yh out H c hc Q tt  hE hR T ss tT hF;refine lpx tt hc rfl fun q hX=>go ?_;refine cdp H (fun h H=>?_) (fun h H=>go ?_)
 ·obtain ⟨x14,f1,H⟩:=bil (g:=cS) (fun _=>rfl) H;refine go1 ?_;refine go ?_;refine cdp H (fun h H=>go ?_) (fun h H=>go ?_)
  ·exact wq (hR _ (pur H).symm _ (rt _))
  ·exact IH  (i64.wrap (Yh+1)) _ H _ rfl Q tt  hE hR _ _  S hF
 ·exact wq (hE () (pur H).symm _ _  S hF)
theorem TR:∀(a0:List ByteArray) (a1:ByteArray) r,En a0 a1=some r->Y7 KZ 70 [sf cS a0,.str a1] (.bool r):=by
 intro a0 a1 r H;intro ss;unfold En at H;refine hdh mixed Tryz.func70 (rs:=[.tmp 4]) fun q tT hF hX=>?_;refine go ?_;obtain ⟨o1,ho1,H⟩:=bnd H;refine Ov a0 a1 0 _ ho1 _ rfl _ _  ?_ ?_ _ _  S hF
 ·intro _ he T3 ss4 tT hF;have he:=he.symm;subst he
  try dsimp only at H
  refine go ?_;cases pur H;exact rt _
 ·intro r hr s' hs;subst hr;cases pur H;exact hsq hs
theorem Np:∀(a0:List Val) (HF Yh:Int) out,Gk a0 HF Yh=some out->∀c,Yf Tryz.f128 0=some c->∀(Q:QT) (tt:Sto) (b1 b3:Nat),(∀(Qgr:Int),out=Sum.inr Qgr->∀(T:TT) (ss:Sto),T 2=.ptr b1 0/\T 4=.ptr b3 0->Fx tt ss [(b3,⟨34,16,[i6 1,i6 Qgr,.str zB,.X4,i6 0,i6 0,.str zB,i6 0,.X4,i6 0,.str zB,i6 0,.X4,.X4,.X4,.X4]⟩),(b1,⟨34,16,[i6 0,i6 0,.str zB,.X4,i6 0,i6 0,.str zB,i6 0,.X4,i6 0,.str zB,i6 0,.X4,.X4,.X4,.X4]⟩)] []->Q (.ex 0) ⟨T,ss⟩)->(∀r,out=Sum.inl r->∀s',I6 KZ [.cell 2 34,.tmp 3] (fun r' ss'=>r'=.tup [.agg (Zo r.1),i6 r.2]/\ss'=tt) s'->Q .ret s')->∀(T:TT) (ss:Sto),T 0=sf Zo a0/\T 2=.ptr b1 0/\T 4=.ptr b3 0/\T 5=i6 Yh->Fx tt ss [(b3,⟨34,16,[i6 1,i6 HF,.str zB,.X4,i6 0,i6 0,.str zB,i6 0,.X4,i6 0,.str zB,i6 0,.X4,.X4,.X4,.X4]⟩),(b1,⟨34,16,[i6 0,i6 0,.str zB,.X4,i6 0,i6 0,.str zB,i6 0,.X4,i6 0,.str zB,i6 0,.X4,.X4,.X4,.X4]⟩)] []->aLp KZ c Q ⟨T,ss⟩:=by
 intro a0 HF Yh;revert HF Yh;refine Gk.partial_correctness a0 _ ?_;intro Gk IH HF Yh out H c hc Q tt b1 b3 hE hR T ss tT hF;refine lpx tt hc rfl fun q hX=>go ?_;refine cdp H (fun h H=>?_) (fun h H=>go ?_)
 ·obtain ⟨x15,f1,H⟩:=bil (g:=Zo) Val.X6 H;refine go1 ?_;refine go ?_;refine cdn H (fun h H=>go ?_) (fun h H=>go ?_)
  ·refine st hF 1 rfl fun ss6 hF=>?_;refine go ?_;exact wq (hR _ (pur H).symm _ (rt _))
  ·refine Yj E0 [.v,.v,.v,.v,.v,.v,.v,.v,.v,.v,.z] (by kernel_rfl) ?_;obtain ⟨x24,f1,H⟩:=bil (g:=Zo) Val.X6 H;refine go1 ?_;refine st hF 0 rfl fun s7 hF=>?_;refine go ?_;exact IH  ((i64.wrap (HF+x24.num)).tmod 1000) (i64.wrap (Yh+1)) _ H _ rfl Q tt b1 b3 hE hR _ _  S hF
 ·exact wq (hE _ (pur H).symm _ _  S hF)
theorem SH:∀(a0:List Val) r,De a0=some r->Y7 KZ 128 [sf Zo a0] (.tup [.agg (Zo r.1),i6 r.2]):=by
 intro a0 r H;intro ss;unfold De at H;refine hdh mixed Tryz.func128 (rs:=[.cell 2 34,.tmp 3]) fun q tT hF hX=>?_;refine go ?_;refine X8 hF rfl fun b1 ss2 hF=>go ?_;refine X8 hF rfl fun b3 ss4 hF=>go ?_;refine st hF 0 rfl fun ss5 hF=>?_;refine go ?_;obtain ⟨o8,ho8,H⟩:=bnd H;refine Np a0 0 0 _ ho8 _ rfl _ _ b1 b3 ?_ ?_ _ _  S hF
 ·intro UM he T10 s11 tT hF;have he:=he.symm;subst he
  try dsimp only at H
  refine go ?_;refine st hF 1 rfl fun s13 hF=>?_;refine go ?_;cases pur H;exact rt _
 ·intro r hr s' hs;subst hr;cases pur H;exact hsq hs
theorem P8:∀(a0:ByteArray) (a1:List Val) r,B7 a0 a1=some r->Y7 KZ 105 [.str a0,sf Zo a1] (.tup [.agg (Zo r.1),i6 r.2]):=by
 intro a0 a1 r H;intro ss;unfold B7 at H;refine hdh mixed Tryz.func105 (rs:=[.cell 4 34,.tmp 5]) fun q tT hF hX=>?_;refine go ?_;refine X8 hF rfl fun b1 ss2 hF=>go ?_;refine cdp H (fun h H=>go ?_) (fun h H=>go ?_)
 ·refine apv (g:=Zo) H Val.X6 (rdo (c:=false) (g:=Zo) Val.X6) fun x12 H=>go ?_;refine st hF 0 rfl fun ss3 hF=>?_;refine go ?_;cases pur H;exact rt _
 ·refine cdp H (fun h H=>go ?_) (fun h H=>go ?_)
  ·refine bp H (SH a1) fun x17 h H=>cl h (go ?_);refine st hF 0 rfl fun ss4 hF=>?_;refine go ?_;cases pur H;exact rt _
  ·obtain ⟨Qin,j6,H⟩:=bnd H;refine V6 (fun s'=>∃(T:TT) (ss1:Sto),s'=⟨T,ss1⟩/\(T 0=.str a0/\T 1=sf Zo a1/\T 4=.ptr b1 0/\T 20=.bool Qin)/\Fx ss ss1 [(b1,⟨34,16,[i6 0,i6 0,.str zB,.X4,i6 0,i6 0,.str zB,i6 0,.X4,i6 0,.str zB,i6 0,.X4,.X4,.X4,.X4]⟩)] []) (cdp j6 (fun h j6=>go ?_) (fun h j6=>go ?_)) ?_
   ·cases pur j6;exact ⟨_,_,rfl,S,hF⟩
   ·cases pur j6;exact ⟨_,_,rfl,S,hF⟩
   ·rintro s' ⟨T7,s8,rfl,tT,hF⟩;refine go ?_;refine cdb H (fun h H=>go ?_) (fun h H=>go ?_)
    ·obtain ⟨x32,g10,H⟩:=bnd H;refine Yb 5 27 32 (.bool x32) (giN q (fun q=>?_) (fun q=>?_)) (fun J=>go ?_)
     ·rw [if_pos (dnf q)] at g10;obtain ⟨x28,f1,g10⟩:=bil (g:=Zo) Val.X6 g10;refine go1 ?_;refine go ?_;exact Yq 27 g10
     ·rw [if_neg (dnt q)] at g10;refine go ?_;exact Yq 27 g10
     obtain ⟨x40,g12,H⟩:=bnd H;refine Yb 6 34 40 (.bool x40) (giN q (fun q=>?_) (fun q=>?_)) (fun J=>go ?_)
     ·rw [if_neg (dbf q)] at g12;obtain ⟨x35,f1,g12⟩:=bil (g:=Zo) Val.X6 g12;refine go1 ?_;refine go ?_;exact Yq 34 g12
     ·rw [if_pos (dbt q)] at g12;refine go ?_;exact Yq 34 g12
     refine cdb H (fun h H=>go ?_) (fun h H=>go ?_)
     ·refine st hF 0 rfl fun s14 hF=>?_;refine go ?_;cases pur H;exact rt _
     ·refine cdp H (fun h H=>?_) (fun h H=>?_)
      ·obtain ⟨x45,f1,H⟩:=bil (g:=Zo) Val.X6 H;obtain ⟨x48,f2,H⟩:=bil (g:=Zo) Val.X6 H;refine go2 ?_;refine st hF 0 rfl fun s15 hF=>?_;refine go ?_;cases pur H;exact rt _
      ·obtain ⟨x51,f1,H⟩:=bil (g:=Zo) Val.X6 H;obtain ⟨x54,f2,H⟩:=bls (g:=Zo) Val.X6 (lo:=some (i6 1)) (hi:=none) rfl rfl H;refine go2 ?_;refine st hF 0 rfl fun s16 hF=>?_;refine go ?_;cases pur H;exact rt _
    ·obtain ⟨x65,g17,H⟩:=bnd H;refine Yb 5 60 65 (.bool x65) (giN q (fun q=>?_) (fun q=>?_)) (fun J=>go ?_)
     ·rw [if_pos (dnf q)] at g17;obtain ⟨x61,f1,g17⟩:=bil (g:=Zo) Val.X6 g17;refine go1 ?_;refine go ?_;exact Yq 60 g17
     ·rw [if_neg (dnt q)] at g17;refine go ?_;exact Yq 60 g17
     obtain ⟨x72,g19,H⟩:=bnd H;refine Yb 5 67 72 (.bool x72) (giN q (fun q=>?_) (fun q=>?_)) (fun J=>go ?_)
     ·rw [if_neg (dbf q)] at g19;obtain ⟨x68,f1,g19⟩:=bil (g:=Zo) Val.X6 g19;refine go1 ?_;refine go ?_;exact Yq 67 g19
     ·rw [if_pos (dbt q)] at g19;refine go ?_;exact Yq 67 g19
     refine cdb H (fun h H=>go ?_) (fun h H=>go ?_)
     ·refine st hF 0 rfl fun s21 hF=>?_;refine go ?_;cases pur H;exact rt _
     ·refine X8 hF rfl fun b22 s23 hF=>go ?_;refine st hF 0 rfl fun s24 hF=>?_;refine go ?_;refine Yj E0 [.v,.v,.v,.v,.v,.v,.v,.v,.v,.v,.v,.v,.v,.v,.v,.v,.v,.v,.v,.v,.v,.v,.v,.v,.v,.v,.v,.v] (by kernel_rfl) (go ?_);obtain ⟨x87,g25,H⟩:=bnd H;refine V5 9 78 87 (.bool x87) (ti q (fun q=>?_) (fun q=>?_)) (fun J=>go ?_)
      ·rw [if_pos (dt q)] at g25;obtain ⟨x79,f1,g25⟩:=bil (g:=Zo) Val.X6 g25;obtain ⟨x83,f2,g25⟩:=bil (g:=Zo) Val.X6 g25;refine go2 ?_;refine go ?_;exact Yq 78 g25
      ·rw [if_neg (df q)] at g25;refine go ?_;exact Yq 78 g25
      obtain ⟨x102,g27,H⟩:=bnd H;refine V5 13 89 102 (.bool x102) (tiN q (fun q=>?_) (fun q=>?_)) (fun J=>go ?_)
      ·rw [if_neg (dbf q)] at g27;refine go ?_;obtain ⟨x101,g29,g27⟩:=bnd g27;refine V5 9 92 101 (.bool x101) (ti q (fun q=>?_) (fun q=>?_)) (fun J=>go ?_)
       ·rw [if_pos (dt q)] at g29;obtain ⟨x93,f1,g29⟩:=bil (g:=Zo) Val.X6 g29;obtain ⟨x97,f2,g29⟩:=bil (g:=Zo) Val.X6 g29;refine go2 ?_;refine go ?_;exact Yq 92 g29
       ·rw [if_neg (df q)] at g29;refine go ?_;exact Yq 92 g29
       exact Yq 89 g27
      ·rw [if_pos (dbt q)] at g27;refine go ?_;exact Yq 89 g27
      refine cdb H (fun h H=>go ?_) (fun h H=>go ?_)
      ·refine st hF 0 rfl fun s31 hF=>?_;refine go ?_;refine st hF 1 rfl fun s32 hF=>?_;refine go ?_;cases pur H;exact rt _
      ·refine st hF 1 rfl fun s33 hF=>?_;refine go ?_;cases pur H;exact rt _
theorem Mo:∀(a0:Val) (a1:List Val) (a2:Int) (X7:List Slt) (Vs:Int) out,WT a0 a1 a2 X7 Vs=some out->∀c,Yf Tryz.f72 0=some c->∀(Q:QT) (tt:Sto) (b1 b3:Nat),(∀(YX:List Slt),out=YX->∀(T:TT) (ss:Sto) (e0v0:AV),T 2=i6 a2/\T 3=.ptr b1 0/\T 6=.ptr b3 0/\T 11=e0v0->Fx tt ss [(b3,⟨34,16,[i6 0,i6 0,.str zB,.X4,i6 0,i6 0,.str zB,i6 0,.X4,i6 0,.str zB,i6 0,.X4,.X4,.X4,.X4]⟩),(b1,⟨34,16,[i6 a0.kind,i6 a0.num,.str a0.name,sf Zo a0.items,i6 a0.fn.kind,i6 a0.fn.id,.str a0.fn.name,i6 a0.fn.num,sf cI a0.fn.ids,i6 a0.fn.data.kind,.str a0.fn.data.name,i6 a0.fn.data.num,sf cI a0.fn.data.sc,sf KY a0.fn.data.kids,sf K2 a0.fn.kids,sf Zq a0.env]⟩)] [⟨e0v0,78,17,rws Zq YX⟩]->Q (.ex 0) ⟨T,ss⟩)->True->∀(T:TT) (ss:Sto) (z0v0:AV),T 1=sf Zo a1/\T 2=i6 a2/\T 3=.ptr b1 0/\T 6=.ptr b3 0/\T 11=z0v0/\T 12=i6 Vs->Fx tt ss [(b3,⟨34,16,[i6 0,i6 0,.str zB,.X4,i6 0,i6 0,.str zB,i6 0,.X4,i6 0,.str zB,i6 0,.X4,.X4,.X4,.X4]⟩),(b1,⟨34,16,[i6 a0.kind,i6 a0.num,.str a0.name,sf Zo a0.items,i6 a0.fn.kind,i6 a0.fn.id,.str a0.fn.name,i6 a0.fn.num,sf cI a0.fn.ids,i6 a0.fn.data.kind,.str a0.fn.data.name,i6 a0.fn.data.num,sf cI a0.fn.data.sc,sf KY a0.fn.data.kids,sf K2 a0.fn.kids,sf Zq a0.env]⟩)] [⟨z0v0,78,17,rws Zq X7⟩]->aLp KZ c Q ⟨T,ss⟩:=by
 intro a0 a1 a2 X7 Vs;revert X7 Vs;refine WT.partial_correctness a0 a1 a2 _ ?_;intro WT IH X7 Vs out H c hc Q tt b1 b3 hE hR T ss z0v0 tT hF;refine lpx tt hc rfl fun q hX=>go ?_;refine cdp H (fun h H=>go ?_) (fun h H=>go ?_)
 ·refine Yj E0 [.v,.v,.v,.v,.v,.v,.v,.v,.v,.v,.v,.v,.v,.x,.v] (by kernel_rfl) ?_;obtain ⟨x55,f1,H⟩:=bil (g:=cI) (fun _=>rfl) H;obtain ⟨x59,f2,H⟩:=bil (g:=Zo) Val.X6 H;refine go2 ?_;refine NN (g:=Zq) hF 0 H (rdo (c:=true) (g:=Zq) Slt.X6) fun x63 H v13 s14 hF=>go ?_;exact IH  x63 (i64.wrap (Vs+1)) _ H _ rfl Q tt b1 b3 hE hR _ _ v13 S hF
 ·exact wq (hE _ (pur H).symm _ _ z0v0 S hF)
theorem OO:(∀(a0:Cor) (a1:List Slt) (a2:Int) r,VV a0 a1 a2=some r->Y7 KZ 41 [.agg (K2 a0),sf Zq a1,i6 a2] (.tup [.agg (Zo r.1),i6 r.2.1,i6 r.2.2]))/\(∀(a0:Val) (a1:List Val) (a2:Int) r,DB a0 a1 a2=some r->Y7 KZ 72 [.agg (Zo a0),sf Zo a1,i6 a2] (.tup [.agg (Zo r.1),i6 r.2.1,i6 r.2.2])):=by
 have h:=VV.mutual_partial_correctness  (motive_1:=fun a0 a1 a2 r=>Y7 KZ 41 [.agg (K2 a0),sf Zq a1,i6 a2] (.tup [.agg (Zo r.1),i6 r.2.1,i6 r.2.2])) (motive_2:=fun a0 a1 a2 r=>Y7 KZ 72 [.agg (Zo a0),sf Zo a1,i6 a2] (.tup [.agg (Zo r.1),i6 r.2.1,i6 r.2.2])) (motive_3:=fun a0 a1 X7 VW D3 out=>∀c,Yf Tryz.f41 0=some c->∀(Q:QT) (tt:Sto) (b1 b3:Nat),(∀(YX:List Val) (Qqx:Int),out=Sum.inr (YX,Qqx)->∀(T:TT) (ss:Sto) (e0v0:AV),T 2=i6 Qqx/\T 6=.ptr b3 0/\T 12=e0v0->Fx tt ss [(b3,⟨34,16,[i6 0,i6 0,.str zB,.X4,i6 0,i6 0,.str zB,i6 0,.X4,i6 0,.str zB,i6 0,.X4,.X4,.X4,.X4]⟩),(b1,⟨31,11,[i6 a0.kind,i6 a0.id,.str a0.name,i6 a0.num,sf cI a0.ids,i6 a0.data.kind,.str a0.data.name,i6 a0.data.num,sf cI a0.data.sc,sf KY a0.data.kids,sf K2 a0.kids]⟩)] [⟨e0v0,34,16,rws Zo YX⟩]->Q (.ex 1) ⟨T,ss⟩)->(∀r,out=Sum.inl r->∀s',I6 KZ [.cell 6 34,.tmp 7,.tmp 8] (fun r' ss'=>r'=.tup [.agg (Zo r.1),i6 r.2.1,i6 r.2.2]/\ss'=tt) s'->Q .ret s')->∀(T:TT) (ss:Sto) (z0v0:AV),T 1=sf Zq a1/\T 2=i6 D3/\T 3=.ptr b1 0/\T 6=.ptr b3 0/\T 12=z0v0/\T 13=i6 VW->Fx tt ss [(b3,⟨34,16,[i6 0,i6 0,.str zB,.X4,i6 0,i6 0,.str zB,i6 0,.X4,i6 0,.str zB,i6 0,.X4,.X4,.X4,.X4]⟩),(b1,⟨31,11,[i6 a0.kind,i6 a0.id,.str a0.name,i6 a0.num,sf cI a0.ids,i6 a0.data.kind,.str a0.data.name,i6 a0.data.num,sf cI a0.data.sc,sf KY a0.data.kids,sf K2 a0.kids]⟩)] [⟨z0v0,34,16,rws Zo X7⟩]->aLp KZ c Q ⟨T,ss⟩) ?s0 ?s1 ?s2
 ·exact ⟨h.1,h.2.1⟩
 ·intro VV DB GN C0 C1 L0 a0 a1 a2 r H;intro ss;refine hdh mixed Tryz.func41 (rs:=[.cell 6 34,.tmp 7,.tmp 8]) fun q tT hF hX=>?_;refine go ?_;refine X8 hF rfl fun b1 ss2 hF=>go ?_;refine X8 hF rfl fun b3 ss4 hF=>go ?_;refine cdp H (fun h H=>go ?_) (fun h H=>go ?_)
  ·refine st hF 0 rfl fun ss5 hF=>?_;refine go ?_;cases pur H;exact rt _
  ·refine cdp H (fun h H=>go ?_) (fun h H=>go ?_)
   ·refine bp H (P6 a1 a0.id) fun x29 h H=>cl h (go ?_);refine st hF 0 rfl fun ss6 hF=>?_;refine go ?_;cases pur H;exact rt _
   ·refine cdp H (fun h H=>go ?_) (fun h H=>go ?_)
    ·refine st hF 0 rfl fun s7 hF=>?_;refine go ?_;cases pur H;exact rt _
    ·refine cdp H (fun h H=>go ?_) (fun h H=>go ?_)
     ·refine bp H (P3 a0.data) fun x41 h H=>cl h (go ?_);refine st hF 0 rfl fun s8 hF=>?_;refine go ?_;cases pur H;exact rt _
     ·refine cdp H (fun h H=>go ?_) (fun h H=>go ?_)
      ·refine st hF 0 rfl fun s9 hF=>?_;refine go ?_;cases pur H;exact rt _
      ·refine cdp H (fun h H=>go ?_) (fun h H=>go ?_)
       ·refine Yj E0 [.v,.v,.v,.v] (by kernel_rfl) (go ?_);refine bp H (OQ ) fun x51 h H=>cv h (go ?_);refine bp H (TR x51 a0.name) fun x54 h H=>cv h (go ?_);refine cdb H (fun h H=>go ?_) (fun h H=>go ?_)
        ·refine st hF 0 rfl fun s10 hF=>?_;refine go ?_;cases pur H;exact rt _
        ·refine st hF 0 rfl fun s11 hF=>?_;refine go ?_;cases pur H;exact rt _
       ·refine cdp H (fun h H=>?_) (fun h H=>?_)
        ·obtain ⟨x66,f1,H⟩:=bil (g:=K2) Cor.X6 H;refine go1 ?_;obtain ⟨x70,hx70,H⟩:=bnd H;refine cl (C0 x66 a1 (i64.wrap (a2 - 1)) _ hx70) (go ?_);refine X8 hF rfl fun b12 s13 hF=>go ?_;refine st hF 0 rfl fun s14 hF=>?_;refine go ?_;refine cdn H (fun h H=>go ?_) (fun h H=>go ?_)
         ·refine st hF 1 rfl fun s15 hF=>?_;refine go ?_;cases pur H;exact rt _
         ·obtain ⟨x86,g16,H⟩:=bnd H;refine Yb 3 83 86 (.bool x86) (gi q (fun q=>go ?_) (fun q=>go ?_)) (fun J=>go ?_)
          ·exact Yq 83 g16
          ·exact Yq 83 g16
          refine cdb H (fun h H=>?_) (fun h H=>?_)
          ·obtain ⟨x89,f1,H⟩:=bil (g:=K2) Cor.X6 H;refine go1 ?_;refine bp H (C0 x89 a1 x70.2.2) fun x93 h H=>cl h (go ?_);refine st hF 1 rfl fun s18 hF=>?_;refine go ?_;cases pur H;exact rt _
          ·obtain ⟨x99,f1,H⟩:=bil (g:=K2) Cor.X6 H;refine go1 ?_;refine bp H (C0 x99 a1 x70.2.2) fun x103 h H=>cl h (go ?_);refine st hF 1 rfl fun s19 hF=>?_;refine go ?_;cases pur H;exact rt _
        ·have hF:=hF.lit 34 16 (rws Zo []) rfl;refine go ?_;obtain ⟨o26,ho26,H⟩:=bnd H;refine L0 a0 a1 [] 0 (i64.wrap (a2 - 1)) _ ho26 _ rfl _ _ b1 b3 ?_ ?_ _ _ (.sl true (rws Zo [])) S hF
         ·intro Qa5 Qgz he T28 s29 e27v0 tT hF;have he:=he.symm;subst he
          try dsimp only at H
          refine go ?_;obtain ⟨s31,hF,hw32,hb33,hz34⟩:=frz hF 0;refine Qa0 12 (by simp [upd,tT]) hw32 hb33 (go ?_);obtain ⟨E,hEq⟩:∃E,E=EE s31 [b3]:=⟨_,rfl⟩
          have n35:¬E b1:=by rw [hEq];exact K5 (hF.at 1 rfl) (nm1 (neL hF 1 0 rfl rfl (by decide)))
          refine Yj E [.v,.v,.v,.v,.v,.v,.v,.v,.v,.v,.x,.v,.v] (by kernel_rfl) ?_;obtain ⟨x138,f1,H⟩:=bil (g:=Zo) Val.X6 H;obtain ⟨x141,f2,H⟩:=bls (g:=Zo) Val.X6 (lo:=some (i6 1)) (hi:=none) rfl rfl H;have z:=X9 (hF.at 1 rfl) n35;refine gh2 ?_;refine bp H (C1 x138 x141 Qgz) fun x143 h H=>cv h ?_;have z:=X9 (hF.at 1 rfl) n35;refine gh ?_;refine stK hF 0 (by rw [hEq];exact EE.of (by simp)) rfl fun s36 hF=>?_;have z:=X9 (hF.at 1 rfl) n35;refine gh ?_;refine go ?_;cases pur H;exact rt [.agg [i6 x143.1.kind,i6 x143.1.num,.str x143.1.name,sf Zo x143.1.items,i6 x143.1.fn.kind,i6 x143.1.fn.id,.str x143.1.fn.name,i6 x143.1.fn.num,sf cI x143.1.fn.ids,i6 x143.1.fn.data.kind,.str x143.1.fn.data.name,i6 x143.1.fn.data.num,sf cI x143.1.fn.data.sc,sf KY x143.1.fn.data.kids,sf K2 x143.1.fn.kids,sf Zq x143.1.env],i6 x143.2.1,i6 x143.2.2]
         ·intro r hr s' hs;subst hr;cases pur H;exact hsq hs
 ·intro VV C0 a0 a1 a2 r H;intro ss;refine hdh mixed Tryz.func72 (rs:=[.cell 6 34,.tmp 7,.tmp 8]) fun q tT hF hX=>?_;refine go ?_;refine X8 hF rfl fun b1 ss2 hF=>go ?_;refine X8 hF rfl fun b3 ss4 hF=>go ?_;refine cdp H (fun h H=>go ?_) (fun h H=>go ?_)
  ·refine bp H (P8 a0.name a1) fun x20 h H=>cl h (go ?_);refine X8 hF rfl fun b5 ss6 hF=>go ?_;refine st hF 0 rfl fun s7 hF=>?_;refine go ?_;refine st hF 1 rfl fun s8 hF=>?_;refine go ?_;cases pur H;exact rt _
  ·refine cdn H (fun h H=>go ?_) (fun h H=>go ?_)
   ·refine st hF 0 rfl fun s9 hF=>?_;refine go ?_;cases pur H;exact rt _
   ·refine cdn H (fun h H=>go ?_) (fun h H=>go ?_)
    ·refine st hF 0 rfl fun s10 hF=>?_;refine go ?_;cases pur H;exact rt _
    ·have hF:=hF.lit 78 17 (rws Zq []) rfl;refine apd (g:=Zq) hF 0 H (rdo (c:=false) (g:=Zq) Slt.X6) fun x43 H v11 s12 hF=>go ?_;obtain ⟨o15,ho15,H⟩:=bnd H;refine Mo a0 a1 a2 x43 0 _ ho15 _ rfl _ _ b1 b3 ?_ ?_ _ _ v11 S hF
     ·intro Qgx he T17 s18 e16v0 tT hF;have he:=he.symm;subst he;obtain ⟨x67,f1,H⟩:=bil (g:=K2) Cor.X6 H;refine go1 ?_;obtain ⟨x71,hx71,H⟩:=bnd H;obtain ⟨s20,hF,hw21,hb22,hz23⟩:=frz hF 0;refine FJ (C0 x67 Qgx a2 _ hx71 _) (by (try simp only [sf,i6,zB,Cor.Ya,Fm.Ya]);exact (.cons (Zp hb22 _) id (.cons hw21 (fun _=>rfl) (.cons (Zp hb22 _) id .nil)))) hb22 ?_;rintro _ _ ⟨rfl,rfl⟩;refine go ?_;refine st hF 0 rfl fun s24 hF=>?_;refine go ?_;cases pur H;exact rt _
     ·trivial
 ·intro VV GN C0 L0 a0 a1 X7 VW D3 out H c hc Q tt b1 b3 hE hR T ss z0v0 tT hF;refine lpx tt hc rfl fun q hX=>go ?_;refine cdp H (fun h H=>?_) (fun h H=>go ?_)
  ·obtain ⟨x119,f1,H⟩:=bil (g:=K2) Cor.X6 H;refine go1 ?_;refine bp H (C0 x119 a1 D3) fun x123 h H=>cl h (go ?_);refine X8 hF rfl fun b20 s21 hF=>go ?_;refine st hF 0 rfl fun s22 hF=>?_;refine go ?_;refine cdn H (fun h H=>go ?_) (fun h H=>go ?_)
   ·refine st hF 1 rfl fun s23 hF=>?_;refine go ?_;exact wq (hR _ (pur H).symm _ (rt _))
   ·refine apd (g:=Zo) hF 0 H (rdo (c:=true) (g:=Zo) Val.X6) fun x136 H v24 s25 hF=>go ?_;exact L0 a0 a1 x136 (i64.wrap (VW+1)) x123.2.2 _ H _ rfl Q tt b1 b3 hE hR _ _ v24 S (hF.drop 1 0)
  ·exact wq (hE _ _ (pur H).symm _ _ z0v0 S hF)
theorem P5:∀(a0:Cor) (a1:List Slt) (a2:Int) r,VV a0 a1 a2=some r->Y7 KZ 41 [.agg (K2 a0),sf Zq a1,i6 a2] (.tup [.agg (Zo r.1),i6 r.2.1,i6 r.2.2]):=OO.1
theorem P9:∀(a0:Val) (a1:Int) r,Ig a0 a1=some r->Y7 KZ 42 [.agg (Zo a0),i6 a1] (i6 r):=by
 refine Ig.partial_correctness _ (motive_2:=fun a0 a1 Cj Qao out=>∀c,Yf Tryz.f42 1=some c->∀(Q:QT) (tt:Sto) (b1:Nat),(∀(Qq1:Int),out=Qq1->∀(T:TT) (ss:Sto),T 5=i6 Qq1->Fx tt ss [(b1,⟨34,16,[i6 a0.kind,i6 a0.num,.str a0.name,sf Zo a0.items,i6 a0.fn.kind,i6 a0.fn.id,.str a0.fn.name,i6 a0.fn.num,sf cI a0.fn.ids,i6 a0.fn.data.kind,.str a0.fn.data.name,i6 a0.fn.data.num,sf cI a0.fn.data.sc,sf KY a0.fn.data.kids,sf K2 a0.fn.kids,sf Zq a0.env]⟩)] []->Q (.ex 2) ⟨T,ss⟩)->True->∀(T:TT) (ss:Sto),T 1=i6 a1/\T 2=.ptr b1 0/\T 5=i6 Cj/\T 7=i6 Qao->Fx tt ss [(b1,⟨34,16,[i6 a0.kind,i6 a0.num,.str a0.name,sf Zo a0.items,i6 a0.fn.kind,i6 a0.fn.id,.str a0.fn.name,i6 a0.fn.num,sf cI a0.fn.ids,i6 a0.fn.data.kind,.str a0.fn.data.name,i6 a0.fn.data.num,sf cI a0.fn.data.sc,sf KY a0.fn.data.kids,sf K2 a0.fn.kids,sf Zq a0.env]⟩)] []->aLp KZ c Q ⟨T,ss⟩) (motive_3:=fun a0 a1 Yh Yy out=>∀c,Yf Tryz.f42 0=some c->∀(Q:QT) (tt:Sto) (b1:Nat),(∀(Tl:Int),out=Tl->∀(T:TT) (ss:Sto),T 1=i6 a1/\T 2=.ptr b1 0/\T 5=i6 Tl->Fx tt ss [(b1,⟨34,16,[i6 a0.kind,i6 a0.num,.str a0.name,sf Zo a0.items,i6 a0.fn.kind,i6 a0.fn.id,.str a0.fn.name,i6 a0.fn.num,sf cI a0.fn.ids,i6 a0.fn.data.kind,.str a0.fn.data.name,i6 a0.fn.data.num,sf cI a0.fn.data.sc,sf KY a0.fn.data.kids,sf K2 a0.fn.kids,sf Zq a0.env]⟩)] []->Q (.ex 0) ⟨T,ss⟩)->True->∀(T:TT) (ss:Sto),T 1=i6 a1/\T 2=.ptr b1 0/\T 5=i6 Yh/\T 6=i6 Yy->Fx tt ss [(b1,⟨34,16,[i6 a0.kind,i6 a0.num,.str a0.name,sf Zo a0.items,i6 a0.fn.kind,i6 a0.fn.id,.str a0.fn.name,i6 a0.fn.num,sf cI a0.fn.ids,i6 a0.fn.data.kind,.str a0.fn.data.name,i6 a0.fn.data.num,sf cI a0.fn.data.sc,sf KY a0.fn.data.kids,sf K2 a0.fn.kids,sf Zq a0.env]⟩)] []->aLp KZ c Q ⟨T,ss⟩) ?_ ?_ ?_
 ·intro HD HC L1 L0 a0 a1 r H;intro ss;refine hdh mixed Tryz.func42 (rs:=[.tmp 4]) fun q tT hF hX=>?_;refine go ?_;refine X8 hF rfl fun b1 ss2 hF=>go ?_;obtain ⟨o5,ho5,H⟩:=bnd H;refine L0 a0 a1 1 0 _ ho5 _ rfl _ _ b1 ?_ ?_ _ _  S hF
  ·intro Qny he T7 s8 tT hF;have he:=he.symm;subst he;refine go ?_;obtain ⟨o12,ho12,H⟩:=bnd H;refine L1 a0 a1 Qny 0 _ ho12 _ rfl _ _ b1 ?_ ?_ _ _  S hF
   ·intro Qgv he T14 s15 tT hF;have he:=he.symm;subst he;refine go ?_;cases pur H;exact rt _
   ·trivial
  ·trivial
 ·intro Ig HD C0 L1 a0 a1 Cj Qao out H c hc Q tt b1 hE hR T ss tT hF;refine lpx tt hc rfl fun q hX=>go ?_;obtain ⟨x40,g10,H⟩:=bnd H;refine Yb 3 37 40 (.bool x40) (gi q (fun q=>go ?_) (fun q=>go ?_)) (fun J=>go ?_)
  ·exact Yq 37 g10
  ·exact Yq 37 g10
  refine cdb H (fun h H=>?_) (fun h H=>go ?_)
  ·obtain ⟨x47,f1,H⟩:=bil (g:=Zq) Slt.X6 H;refine go1 ?_;obtain ⟨x53,hx53,H⟩:=bnd H;refine cl (C0 x47.val (i64.wrap (a1 - Cj)) _ hx53) (go ?_);exact L1 a0 a1 (i64.wrap (Cj+x53)) (i64.wrap (Qao+1)) _ H _ rfl Q tt b1 hE hR _ _  S hF
  ·exact wq (hE _ (pur H).symm _ _  S hF)
 ·intro Ig HC C0 L0 a0 a1 Yh Yy out H c hc Q tt b1 hE hR T ss tT hF;refine lpx tt hc rfl fun q hX=>go ?_;obtain ⟨x17,g3,H⟩:=bnd H;refine Yb 3 14 17 (.bool x17) (gi q (fun q=>go ?_) (fun q=>go ?_)) (fun J=>go ?_)
  ·exact Yq 14 g3
  ·exact Yq 14 g3
  refine cdb H (fun h H=>?_) (fun h H=>go ?_)
  ·obtain ⟨x24,f1,H⟩:=bil (g:=Zo) Val.X6 H;refine go1 ?_;obtain ⟨x29,hx29,H⟩:=bnd H;refine cl (C0 x24 (i64.wrap (a1 - Yh)) _ hx29) (go ?_);exact L0 a0 a1 (i64.wrap (Yh+x29)) (i64.wrap (Yy+1)) _ H _ rfl Q tt b1 hE hR _ _  S hF
  ·exact wq (hE _ (pur H).symm _ _  S hF)
theorem P2:∀(a0:Val) r,G6 a0=some r->Y7 KZ 43 [.agg (Zo a0)] (.agg (Zo r)):=by
 refine G6.partial_correctness _ (motive_2:=fun a0 x14 HH VX Cj out=>∀c,Yf Tryz.f43 1=some c->∀(Q:QT) (tt:Sto) (b1 b3 b5:Nat) (e12v0:AV),(∀(FU:List Slt),out=FU->∀(T:TT) (ss:Sto) (e1v1:AV),T 2=.ptr b3 0/\T 3=.ptr b5 0->Fx tt ss [(b5,⟨34,16,[i6 a0.kind,i6 a0.num,.str a0.name,e12v0,i6 x14.kind,i6 x14.id,.str x14.name,i6 x14.num,sf cI x14.ids,i6 x14.data.kind,.str x14.data.name,i6 x14.data.num,sf cI x14.data.sc,sf KY x14.data.kids,sf K2 x14.kids,e1v1]⟩),(b3,⟨34,16,[i6 0,i6 0,.str zB,.X4,i6 0,i6 0,.str zB,i6 0,.X4,i6 0,.str zB,i6 0,.X4,.X4,.X4,.X4]⟩),(b1,⟨34,16,[i6 a0.kind,i6 a0.num,.str a0.name,sf Zo a0.items,i6 a0.fn.kind,i6 a0.fn.id,.str a0.fn.name,i6 a0.fn.num,sf cI a0.fn.ids,i6 a0.fn.data.kind,.str a0.fn.data.name,i6 a0.fn.data.num,sf cI a0.fn.data.sc,sf KY a0.fn.data.kids,sf K2 a0.fn.kids,sf Zq a0.env]⟩)] [⟨e1v1,78,17,rws Zq FU⟩,⟨e12v0,34,16,rws Zo HH⟩]->Q (.ex 2) ⟨T,ss⟩)->True->∀(T:TT) (ss:Sto) (z1v1:AV),T 1=.ptr b1 0/\T 2=.ptr b3 0/\T 3=.ptr b5 0/\T 5=i6 Cj->Fx tt ss [(b5,⟨34,16,[i6 a0.kind,i6 a0.num,.str a0.name,e12v0,i6 x14.kind,i6 x14.id,.str x14.name,i6 x14.num,sf cI x14.ids,i6 x14.data.kind,.str x14.data.name,i6 x14.data.num,sf cI x14.data.sc,sf KY x14.data.kids,sf K2 x14.kids,z1v1]⟩),(b3,⟨34,16,[i6 0,i6 0,.str zB,.X4,i6 0,i6 0,.str zB,i6 0,.X4,i6 0,.str zB,i6 0,.X4,.X4,.X4,.X4]⟩),(b1,⟨34,16,[i6 a0.kind,i6 a0.num,.str a0.name,sf Zo a0.items,i6 a0.fn.kind,i6 a0.fn.id,.str a0.fn.name,i6 a0.fn.num,sf cI a0.fn.ids,i6 a0.fn.data.kind,.str a0.fn.data.name,i6 a0.fn.data.num,sf cI a0.fn.data.sc,sf KY a0.fn.data.kids,sf K2 a0.fn.kids,sf Zq a0.env]⟩)] [⟨z1v1,78,17,rws Zq VX⟩,⟨e12v0,34,16,rws Zo HH⟩]->aLp KZ c Q ⟨T,ss⟩) (motive_3:=fun a0 x14 X7 YJ out=>∀c,Yf Tryz.f43 0=some c->∀(Q:QT) (tt:Sto) (b1 b3 b5:Nat),(∀(YX:List Val),out=YX->∀(T:TT) (ss:Sto) (e0v0:AV),T 1=.ptr b1 0/\T 2=.ptr b3 0/\T 3=.ptr b5 0->Fx tt ss [(b5,⟨34,16,[i6 a0.kind,i6 a0.num,.str a0.name,e0v0,i6 x14.kind,i6 x14.id,.str x14.name,i6 x14.num,sf cI x14.ids,i6 x14.data.kind,.str x14.data.name,i6 x14.data.num,sf cI x14.data.sc,sf KY x14.data.kids,sf K2 x14.kids,.X4]⟩),(b3,⟨34,16,[i6 0,i6 0,.str zB,.X4,i6 0,i6 0,.str zB,i6 0,.X4,i6 0,.str zB,i6 0,.X4,.X4,.X4,.X4]⟩),(b1,⟨34,16,[i6 a0.kind,i6 a0.num,.str a0.name,sf Zo a0.items,i6 a0.fn.kind,i6 a0.fn.id,.str a0.fn.name,i6 a0.fn.num,sf cI a0.fn.ids,i6 a0.fn.data.kind,.str a0.fn.data.name,i6 a0.fn.data.num,sf cI a0.fn.data.sc,sf KY a0.fn.data.kids,sf K2 a0.fn.kids,sf Zq a0.env]⟩)] [⟨e0v0,34,16,rws Zo YX⟩]->Q (.ex 0) ⟨T,ss⟩)->True->∀(T:TT) (ss:Sto) (z0v0:AV),T 1=.ptr b1 0/\T 2=.ptr b3 0/\T 3=.ptr b5 0/\T 4=i6 YJ->Fx tt ss [(b5,⟨34,16,[i6 a0.kind,i6 a0.num,.str a0.name,z0v0,i6 x14.kind,i6 x14.id,.str x14.name,i6 x14.num,sf cI x14.ids,i6 x14.data.kind,.str x14.data.name,i6 x14.data.num,sf cI x14.data.sc,sf KY x14.data.kids,sf K2 x14.kids,.X4]⟩),(b3,⟨34,16,[i6 0,i6 0,.str zB,.X4,i6 0,i6 0,.str zB,i6 0,.X4,i6 0,.str zB,i6 0,.X4,.X4,.X4,.X4]⟩),(b1,⟨34,16,[i6 a0.kind,i6 a0.num,.str a0.name,sf Zo a0.items,i6 a0.fn.kind,i6 a0.fn.id,.str a0.fn.name,i6 a0.fn.num,sf cI a0.fn.ids,i6 a0.fn.data.kind,.str a0.fn.data.name,i6 a0.fn.data.num,sf cI a0.fn.data.sc,sf KY a0.fn.data.kids,sf K2 a0.fn.kids,sf Zq a0.env]⟩)] [⟨z0v0,34,16,rws Zo X7⟩]->aLp KZ c Q ⟨T,ss⟩) ?_ ?_ ?_
 ·intro GL GK L1 L0 a0 r H;intro ss;refine hdh mixed Tryz.func43 (rs:=[.cell 2 34]) fun q tT hF hX=>?_;refine go ?_;refine X8 hF rfl fun b1 ss2 hF=>go ?_;refine X8 hF rfl fun b3 ss4 hF=>go ?_;refine Yj E0 [.v,.v,.v,.v,.v,.v,.v,.v,.v,.v,.x,.z] (by kernel_rfl) (go ?_);refine bp H (CL a0.fn) fun x14 h H=>cv h (go ?_);refine J8 hF rfl fun b5 ss6 hF=>go ?_;refine st hF 0 rfl fun s7 hF=>?_;have hF:=hF.nil 34 16;refine go ?_;obtain ⟨o11,ho11,H⟩:=bnd H;refine L0 a0 x14 [] 0 _ ho11 _ rfl _ _ b1 b3 b5 ?_ ?_ _ _ .X4 S hF
  ·intro HH he T13 s14 e12v0 tT hF;have he:=he.symm;subst he;have hF:=hF.nil 78 17;refine go ?_;obtain ⟨o19,ho19,H⟩:=bnd H;refine L1 a0 x14 HH [] 0 _ ho19 _ rfl _ _ b1 b3 b5 e12v0 ?_ ?_ _ _ .X4 S hF
   ·intro Qme he T21 s22 e20v1 tT hF;have he:=he.symm;subst he;refine go ?_;refine st hF 1 rfl fun s24 hF=>?_;refine go ?_;cases pur H;exact rt _
   ·trivial
  ·trivial
 ·intro G6 GL C0 L1 a0 x14 HH VX Cj out H c hc Q tt b1 b3 b5 e12v0 hE hR T ss z1v1 tT hF;refine lpx tt hc rfl fun q hX=>go ?_;refine cdp H (fun h H=>go ?_) (fun h H=>go ?_)
  ·refine Yj E0 [.v,.v,.v,.v,.v,.v,.v,.v,.v,.v,.v,.v,.v,.v,.v,.v,.v,.x,.v,.z] (by kernel_rfl) ?_;obtain ⟨x46,f1,H⟩:=bil (g:=Zq) Slt.X6 H;refine go1 ?_;refine bp H (C0 x46.val) fun x55 h H=>cv h (go ?_);refine NN (g:=Zq) hF 0 H (rdo (c:=true) (g:=Zq) Slt.X6) fun x58 H v16 s17 hF=>go ?_;refine st hF 0 (hF.cells 0 rfl) fun s18 hF=>?_;refine go ?_;exact L1 a0 x14 HH x58 (i64.wrap (Cj+1)) _ H _ rfl Q tt b1 b3 b5 e12v0 hE hR _ _ v16 S hF
  ·exact wq (hE _ (pur H).symm _ _ z1v1 S hF)
 ·intro G6 GK C0 L0 a0 x14 X7 YJ out H c hc Q tt b1 b3 b5 hE hR T ss z0v0 tT hF;refine lpx tt hc rfl fun q hX=>go ?_;refine cdp H (fun h H=>go ?_) (fun h H=>go ?_)
  ·refine Yj E0 [.v,.v,.v,.v,.v,.v,.v,.v,.v,.x,.v,.z] (by kernel_rfl) ?_;obtain ⟨x28,f1,H⟩:=bil (g:=Zo) Val.X6 H;refine go1 ?_;refine bp H (C0 x28) fun x30 h H=>cv h (go ?_);refine NN (g:=Zo) hF 0 H (rdo (c:=true) (g:=Zo) Val.X6) fun x32 H v8 s9 hF=>go ?_;refine st hF 0 (hF.cells 0 rfl) fun s10 hF=>?_;refine go ?_;exact L0 a0 x14 x32 (i64.wrap (YJ+1)) _ H _ rfl Q tt b1 b3 b5 hE hR _ _ v8 S hF
  ·exact wq (hE _ (pur H).symm _ _ z0v0 S hF)
theorem MV:∀(a0:Cor) (a1:Int) r,AK a0 a1=some r->Y7 KZ 19 [.agg (K2 a0),i6 a1] (.tup [.agg (Zo r.1),i6 r.2]):=by
 intro a0 a1 r H;intro ss;unfold AK at H;refine hdh mixed Tryz.func19 (rs:=[.cell 4 34,.tmp 5]) fun q tT hF hX=>?_;refine go ?_;refine X8 hF rfl fun b1 ss2 hF=>go ?_;refine X8 hF rfl fun b3 ss4 hF=>go ?_;refine bp H (C6 a0) fun x10 h H=>cl h (go ?_);obtain ⟨x15,g5,H⟩:=bnd H;refine Yb 2 13 15 (.bool x15) (giN q (fun q=>go ?_) (fun q=>go ?_)) (fun J=>go ?_)
 ·exact Yq 13 g5
 ·exact Yq 13 g5
 obtain ⟨x19,g7,H⟩:=bnd H;refine Yb 2 17 19 (.bool x19) (giN q (fun q=>go ?_) (fun q=>go ?_)) (fun J=>go ?_)
 ·exact Yq 17 g7
 ·exact Yq 17 g7
 refine cdb H (fun h H=>go ?_) (fun h H=>go ?_)
 ·refine st hF 0 rfl fun s9 hF=>?_;refine go ?_;cases pur H;exact rt _
 ·refine bp H (P5 a0 [] a1) fun x25 h H=>cl h (go ?_);refine X8 hF rfl fun b10 s11 hF=>go ?_;refine st hF 0 rfl fun s12 hF=>?_;refine go ?_;refine cdn H (fun h H=>go ?_) (fun h H=>go ?_)
  ·refine st hF 1 rfl fun s13 hF=>?_;refine go ?_;cases pur H;exact rt _
  ·refine bp H (P9 x25.1 2000) fun x34 h H=>cl h (go ?_);refine cdp H (fun h H=>go ?_) (fun h H=>go ?_)
   ·refine st hF 1 rfl fun s14 hF=>?_;refine go ?_;cases pur H;exact rt _
   ·refine bp H (P2 x25.1) fun x38 h H=>cl h (go ?_);refine st hF 1 rfl fun s15 hF=>?_;refine go ?_;cases pur H;exact rt _
theorem Ev:∀(a0:Int) r,H0 a0=some r->Y7 KZ 58 [i6 a0] (.str r):=fun a0 r H =>
 Qhk Tryz.func58 (by kernel_rfl) (by kernel_rfl) (by kernel_rfl) (fun n h0 h1 w ht=>Tryz.strconv_Itoa n h0 h1 w ht) H
theorem OT:∀(a0:List ByteArray) (a1:ByteArray) r,An a0 a1=some r->Y7 KZ 59 [sf cS a0,.str a1] (.str r):=fun a0 a1 r H =>
 Qhm Tryz.func59 (by kernel_rfl) (by kernel_rfl) (fun a c sep w=>Tryz.strings_Join_none a c sep w) (fun bk o c xs sep w h1 h2 h3 h4 h5=>Tryz.strings_Join bk o c xs sep w h1 h2 h3 h4 h5) H
theorem LS:∀(a0:Val) (a1:Int) r,Jx a0 a1=some r->Y7 KZ 32 [.agg (Zo a0),i6 a1] (.str r):=by
 refine Jx.partial_correctness _ (motive_2:=fun a0 a1 X7 DQ out=>∀c,Yf Tryz.f32 0=some c->∀(Q:QT) (tt:Sto) (b1:Nat),(∀(YX:List ByteArray),out=YX->∀(T:TT) (ss:Sto) (e0v0:AV),T 5=e0v0->Fx tt ss [(b1,⟨34,16,[i6 a0.kind,i6 a0.num,.str a0.name,sf Zo a0.items,i6 a0.fn.kind,i6 a0.fn.id,.str a0.fn.name,i6 a0.fn.num,sf cI a0.fn.ids,i6 a0.fn.data.kind,.str a0.fn.data.name,i6 a0.fn.data.num,sf cI a0.fn.data.sc,sf KY a0.fn.data.kids,sf K2 a0.fn.kids,sf Zq a0.env]⟩)] [⟨e0v0,9,1,rws cS YX⟩]->Q (.ex 1) ⟨T,ss⟩)->True->∀(T:TT) (ss:Sto) (z0v0:AV),T 1=i6 a1/\T 5=z0v0/\T 34=sf Zo a0.items/\T 35=i6 (a0.items.length:Int)/\T 36=i6 DQ->Fx tt ss [(b1,⟨34,16,[i6 a0.kind,i6 a0.num,.str a0.name,sf Zo a0.items,i6 a0.fn.kind,i6 a0.fn.id,.str a0.fn.name,i6 a0.fn.num,sf cI a0.fn.ids,i6 a0.fn.data.kind,.str a0.fn.data.name,i6 a0.fn.data.num,sf cI a0.fn.data.sc,sf KY a0.fn.data.kids,sf K2 a0.fn.kids,sf Zq a0.env]⟩)] [⟨z0v0,9,1,rws cS X7⟩]->aLp KZ c Q ⟨T,ss⟩) ?_ ?_
 ·intro WA L0 a0 a1 r H;intro ss;refine hdh mixed Tryz.func32 (rs:=[.tmp 4]) fun q tT hF hX=>?_;refine go ?_;refine X8 hF rfl fun b1 ss2 hF=>go ?_;refine cdp H (fun h H=>go ?_) (fun h H=>go ?_)
  ·cases pur H;exact rt _
  ·refine cdp H (fun h H=>go ?_) (fun h H=>go ?_)
   ·refine bp H (Ev a0.num) fun x16 h H=>cl h (go ?_);cases pur H;exact rt _
   ·obtain ⟨Qim,j4,H⟩:=bnd H;refine V6 (fun s'=>∃(T:TT) (ss1:Sto),s'=⟨T,ss1⟩/\(T 1=i6 a1/\T 2=.ptr b1 0/\T 11=i6 a0.kind/\T 17=.bool Qim)/\Fx ss ss1 [(b1,⟨34,16,[i6 a0.kind,i6 a0.num,.str a0.name,sf Zo a0.items,i6 a0.fn.kind,i6 a0.fn.id,.str a0.fn.name,i6 a0.fn.num,sf cI a0.fn.ids,i6 a0.fn.data.kind,.str a0.fn.data.name,i6 a0.fn.data.num,sf cI a0.fn.data.sc,sf KY a0.fn.data.kids,sf K2 a0.fn.kids,sf Zq a0.env]⟩)] []) (cdp j4 (fun h j4=>go ?_) (fun h j4=>go ?_)) ?_
    ·cases pur j4;exact ⟨_,_,rfl,S,hF⟩
    ·cases pur j4;exact ⟨_,_,rfl,S,hF⟩
    ·rintro s' ⟨T5,ss6,rfl,tT,hF⟩;refine go ?_;refine cdb H (fun h H=>go ?_) (fun h H=>go ?_)
     ·cases pur H;exact rt _
     ·refine cdp H (fun h H=>go ?_) (fun h H=>go ?_)
      ·refine bp H (Ev (a0.fn.ids.length:Int)) fun x28 h H=>cl h ?_;obtain ⟨x29,f1,H⟩:=bsc H;refine go1 ?_;refine go ?_;cases pur H;exact rt _
      ·refine cdp H (fun h H=>?_) (fun h H=>go ?_)
       ·have hF:=hF.lit 9 1 (rws cS []) rfl;refine go ?_;obtain ⟨o13,ho13,H⟩:=bnd H;refine L0 a0 a1 [] 0 _ ho13 _ rfl _ _ b1 ?_ ?_ _ _ (.sl true (rws cS [])) S hF
        ·intro I7 he T15 s16 e14v0 tT hF;have he:=he.symm;subst he;refine go ?_;obtain ⟨x49,hx49,H⟩:=bnd H;refine CP (OT I7 (Qk #[32]) _ hx49) .str (.cons ((hF.wk 0 rfl).trans (Zp (Sub.zero _) _)) (fun _=>rfl) (.cons (Zp (Sub.zero _) _) id .nil)) ?_;obtain ⟨x50,f1,H⟩:=bsc H;obtain ⟨x51,f2,H⟩:=bsc H;refine go2 ?_;refine go ?_;cases pur H;exact rt _
        ·trivial
       ·cases pur H;exact rt _
 ·intro Jx WA C0 L0 a0 a1 X7 DQ out H c hc Q tt b1 hE hR T ss z0v0 tT hF;refine lpx tt hc rfl fun q hX=>go ?_;refine cdp H (fun h H=>?_) (fun h H=>go ?_)
  ·obtain ⟨x38,f1,H⟩:=bil (g:=Zo) Val.X6 H;refine go1 ?_;refine X8 hF rfl fun b8 s9 hF=>go ?_;refine st hF 0 rfl fun s10 hF=>?_;refine go ?_;obtain ⟨x44,hx44,H⟩:=bnd H;refine cl (C0 x38 (i64.wrap (a1+1)) _ hx44) (go ?_);refine apd (g:=cS) hF 0 H (rdo (c:=true) (g:=cS) (fun _=>rfl)) fun x46 H v11 s12 hF=>go ?_;exact L0 a0 a1 x46 (i64.wrap (DQ+1)) _ H _ rfl Q tt b1 hE hR _ _ v11 S (hF.drop 1 0)
  ·exact wq (hE _ (pur H).symm _ _ z0v0 S hF)
theorem BM:∀(a0:Val) r,Hg a0=some r->Y7 KZ 15 [.agg (Zo a0)] (.str r):=by
 intro a0 r H;intro ss;unfold Hg at H;refine hdh mixed Tryz.func15 (rs:=[.tmp 2]) fun q tT hF hX=>?_;refine go ?_;refine X8 hF rfl fun b1 ss2 hF=>go ?_;refine bp H (LS a0 0) fun x4 h H=>cl h (go ?_);cases pur H;exact rt _
theorem F5:(∀(a0 a1:Val) r,Vt a0 a1=some r->Y7 KZ 12 [.agg (Zo a0),.agg (Zo a1)] (.bool r))/\(∀(a0 a1:List Val) r,YD a0 a1=some r->Y7 KZ 27 [sf Zo a0,sf Zo a1,.fn 12 []] (.bool r)):=by
 have h:=Vt.mutual_partial_correctness  (motive_1:=fun a0 a1 r=>Y7 KZ 12 [.agg (Zo a0),.agg (Zo a1)] (.bool r)) (motive_2:=fun a0 a1 r=>Y7 KZ 27 [sf Zo a0,sf Zo a1,.fn 12 []] (.bool r)) (motive_3:=fun a0 a1 Wg out=>∀c,Yf Tryz.f27 0=some c->∀(Q:QT) (tt:Sto),(∀(_u:Unit),out=Sum.inr ()->∀(T:TT) (ss:Sto),0+0=0->Fx tt ss [] []->Q (.ex 0) ⟨T,ss⟩)->(∀r,out=Sum.inl r->∀s',I6 KZ [.tmp 6] (fun r' ss'=>r'=.bool r/\ss'=tt) s'->Q .ret s')->∀(T:TT) (ss:Sto),T 1=sf Zo a1/\T 2=.fn 12 []/\T 15=sf Zo a0/\T 16=i6 (a0.length:Int)/\T 17=i6 Wg->Fx tt ss [] []->aLp KZ c Q ⟨T,ss⟩) ?s0 ?s1 ?s2
 ·exact ⟨h.1,h.2.1⟩
 ·intro YD C1 a0 a1 r H;intro ss;refine hdh mixed Tryz.func12 (rs:=[.tmp 4]) fun q tT hF hX=>?_;refine go ?_;refine X8 hF rfl fun b1 ss2 hF=>go ?_;refine X8 hF rfl fun b3 ss4 hF=>go ?_;refine Yj E0 [.v,.v,.v,.v,.v,.v,.v,.v,.v,.v,.v,.v,.v,.v,.v,.v,.v,.v,.v,.v,.v,.v,.v,.v,.v,.v,.v,.v,.v,.v,.v,.v,.v,.v] (by kernel_rfl) (go ?_);obtain ⟨x16,g5,H⟩:=bnd H;refine V5 5 11 16 (.bool x16) (ti q (fun q=>go ?_) (fun q=>go ?_)) (fun J=>go ?_)
  ·exact Yq 11 g5
  ·exact Yq 11 g5
  obtain ⟨x23,g7,H⟩:=bnd H;refine V5 5 18 23 (.bool x23) (ti q (fun q=>go ?_) (fun q=>go ?_)) (fun J=>go ?_)
  ·exact Yq 18 g7
  ·exact Yq 18 g7
  obtain ⟨x30,g9,H⟩:=bnd H;refine V5 5 25 30 (.bool x30) (ti q (fun q=>?_) (fun q=>?_)) (fun J=>go ?_)
  ·rw [if_pos (dbt q)] at g9;refine go ?_;obtain ⟨x29,hx29,g9⟩:=bnd g9;refine cv (C1 a0.items a1.items _ hx29) (go ?_);exact Yq 25 g9
  ·rw [if_neg (dbf q)] at g9;refine go ?_;exact Yq 25 g9
  obtain ⟨x37,g11,H⟩:=bnd H;refine V5 5 32 37 (.bool x37) (ti q (fun q=>?_) (fun q=>?_)) (fun J=>go ?_)
  ·rw [if_pos (dbt q)] at g11;refine go ?_;obtain ⟨x33,hx33,g11⟩:=bnd g11;refine cv (BM a0 _ hx33) (go ?_);obtain ⟨x35,hx35,g11⟩:=bnd g11;refine cv (BM a1 _ hx35) (go ?_);exact Yq 32 g11
  ·rw [if_neg (dbf q)] at g11;refine go ?_;exact Yq 32 g11
  cases pur H;exact rt _
 ·intro Yl L0 a0 a1 r H;intro ss;refine hdh mixed Tryz.func27 (rs:=[.tmp 6]) fun q tT hF hX=>?_;refine go ?_;refine cdn H (fun h H=>go ?_) (fun h H=>go ?_)
  ·cases pur H;exact rt _
  ·obtain ⟨o7,ho7,H⟩:=bnd H;refine L0 a0 a1 0 _ ho7 _ rfl _ _  ?_ ?_ _ _  S hF
   ·intro _ he T9 s10 tT hF;have he:=he.symm;subst he
    try dsimp only at H
    refine go ?_;cases pur H;exact rt _
   ·intro r hr s' hs;subst hr;cases pur H;exact hsq hs
 ·intro Vt Yl C0 L0 a0 a1 Wg out H c hc Q tt  hE hR T ss tT hF;refine lpx tt hc rfl fun q hX=>go ?_;refine cdp H (fun h H=>?_) (fun h H=>go ?_)
  ·obtain ⟨x20,f1,H⟩:=bil (g:=Zo) Val.X6 H;refine go1 ?_;refine X8 hF rfl fun b1 ss2 hF=>go ?_;refine st hF 0 rfl fun ss3 hF=>?_;obtain ⟨x24,f1,H⟩:=bil (g:=Zo) Val.X6 H;refine go1 ?_;refine X8 hF rfl fun b4 ss5 hF=>go ?_;refine st hF 0 rfl fun ss6 hF=>?_;refine go ?_;obtain ⟨x29,hx29,H⟩:=bnd H;refine cl (C0 x20 x24 _ hx29) (go ?_);refine cdb H (fun h H=>go ?_) (fun h H=>go ?_)
   ·exact wq (hR _ (pur H).symm _ (rt _))
   ·exact L0 a0 a1 (i64.wrap (Wg+1)) _ H _ rfl Q tt  hE hR _ _  S (hF.drop 2 0)
  ·exact wq (hE () (pur H).symm _ _  S hF)
theorem AW:∀(a0 a1:Val) r,Vt a0 a1=some r->Y7 KZ 12 [.agg (Zo a0),.agg (Zo a1)] (.bool r):=F5.1
theorem ES:∀(a0:List Int) r,IT a0=some r->Y7 KZ 8 [sf cU a0] (.bool r):=by
 intro a0 r H;intro ss;unfold IT at H;refine hdh mixed Tryz.func8 (rs:=[.tmp 2]) fun q tT hF hX=>?_;refine go ?_;refine cdp H (fun h H=>go ?_) (fun h H=>go ?_)
 ·cases pur H;exact rt _
 ·refine bp H (ET a0) fun x17 h H=>cl h (go ?_);refine X8 hF rfl fun b1 ss2 hF=>go ?_;refine st hF 0 rfl fun ss3 hF=>?_;refine go ?_;refine bp H (DH x17.1 x17.2) fun x23 h H=>cl h (go ?_);refine X8 hF rfl fun b4 ss5 hF=>go ?_;refine st hF 0 rfl fun ss6 hF=>?_;refine go ?_;refine bp H (MV x17.1 x17.2) fun x29 h H=>cl h (go ?_);refine X8 hF rfl fun b7 s8 hF=>go ?_;refine st hF 0 rfl fun s9 hF=>?_;refine go ?_;refine X8 hF rfl fun b10 s11 hF=>go ?_;refine st hF 0 rfl fun s12 hF=>?_;refine go ?_;refine bp H (AW x23.1 x29.1) fun x41 h H=>cl h (go ?_);obtain ⟨x47,g13,H⟩:=bnd H;refine Yb 3 44 47 (.bool x47) (giN q (fun q=>go ?_) (fun q=>go ?_)) (fun J=>go ?_)
  ·exact Yq 44 g13
  ·exact Yq 44 g13
  obtain ⟨x51,g15,H⟩:=bnd H;refine Yb 2 49 51 (.bool x51) (giN q (fun q=>go ?_) (fun q=>go ?_)) (fun J=>go ?_)
  ·exact Yq 49 g15
  ·exact Yq 49 g15
  obtain ⟨x55,g17,H⟩:=bnd H;refine Yb 2 53 55 (.bool x55) (giN q (fun q=>go ?_) (fun q=>go ?_)) (fun J=>go ?_)
  ·exact Yq 53 g17
  ·exact Yq 53 g17
  obtain ⟨x60,g19,H⟩:=bnd H;refine Yb 3 57 60 (.bool x60) (giN q (fun q=>?_) (fun q=>?_)) (fun J=>go ?_)
  ·rw [if_neg (dbf q)] at g19;refine go ?_;obtain ⟨x58,hx58,g19⟩:=bnd g19;refine cl (CT (KR 6 0 zB 0 [] (Fm.mk 0 zB 0 [] []) [KR 5 0 zB 0 [995] (Fm.mk 0 zB 0 [] []) [x17.1],KR 3 0 zB 1 [] (Fm.mk 0 zB 0 [] []) []]) _ hx58) (go ?_);exact Yq 57 g19
  ·rw [if_pos (dbt q)] at g19;refine go ?_;exact Yq 57 g19
  refine cdb H (fun h H=>go ?_) (fun h H=>go ?_)
  ·refine bp H (AW x23.1 x29.1) fun x63 h H=>cl h (go ?_);obtain ⟨x68,g21,H⟩:=bnd H;refine Yb 3 65 68 (.bool x68) (gi q (fun q=>go ?_) (fun q=>go ?_)) (fun J=>go ?_)
   ·exact Yq 65 g21
   ·exact Yq 65 g21
   cases pur H;exact rt _
  ·obtain ⟨x73,hx73,H⟩:=bnd H;refine cl (DH (KR 6 0 zB 0 [] (Fm.mk 0 zB 0 [] []) [KR 5 0 zB 0 [995] (Fm.mk 0 zB 0 [] []) [x17.1],KR 3 0 zB 1 [] (Fm.mk 0 zB 0 [] []) []]) (i64.wrap (x17.2+3)) _ hx73) (go ?_);refine X8 hF rfl fun b23 s24 hF=>go ?_;refine st hF 0 rfl fun s25 hF=>?_;refine go ?_;obtain ⟨x86,g26,H⟩:=bnd H;refine Yb 7 79 86 (.bool x86) (giN q (fun q=>?_) (fun q=>?_)) (fun J=>go ?_)
   ·rw [if_neg (df q)] at g26;refine go ?_;obtain ⟨x85,g28,g26⟩:=bnd g26;refine Yb 3 82 85 (.bool x85) (gi q (fun q=>?_) (fun q=>?_)) (fun J=>go ?_)
    ·rw [if_pos (dt q)] at g28;refine go ?_;obtain ⟨x84,hx84,g28⟩:=bnd g28;refine cl (AW x73.1 x23.1 _ hx84) (go ?_);exact Yq 82 g28
    ·rw [if_neg (df q)] at g28;refine go ?_;exact Yq 82 g28
    exact Yq 79 g26
   ·rw [if_pos (dt q)] at g26;refine go ?_;exact Yq 79 g26
   cases pur H;exact rt _
end Go.Proofs.SA
