/- Printed by a program of mine: the plain functions that the code computes (D), and the walks that show it (W). -/
import Derived.Test.YthdghhllcllneabGreatDoorGx
import Derived.Test.YthdghhllcllneabGreatDoorSaTy
import Derived.Test.YthdghhllcllneabGreatDoorChecked
import Derived.Lib.Strings
import Derived.Lib.Slices
import Derived.Lib.Walk
import Derived.Lib.Bytealg
import Derived.Test.YthdghhllcllneabGreatDoorGv
import Derived.Test.YthdghhllcllneabGreatDoorSf
import Derived.Test.YthdghhllcllneabGreatDoorekD
import Derived.Test.YthdghhllcllneabGreatDoorekW1
set_option maxRecDepth 100000
set_option maxHeartbeats 2000000
set_option linter.unusedSimpArgs false
set_option linter.unusedVariables false
open Go Go.Proofs Go.Proofs.Shadow
open Val renaming cells → Zo
open Cor renaming cells → K2, mk → KR
open Tryz renaming prog → KZ
open Slt renaming cells → Zq
open Fm renaming cells → KY, mk → KS
open _root_.Int renaming toNat_natCast → Kl, reduceEq → Zw
open _root_.Nat renaming reduceEqDiff → Zr, reduceLeDiff → Zs, reduceAdd → Zt, reduceMul → Zu, reduceLT → Zv
open Fx renaming self → K1
open _root_.And renaming intro → K3
open _root_.ByteArray renaming mk → Qk
open EE renaming not → K5
open Mch renaming mk → KV
open Wk renaming sub → Zp
open Go.IntKind (i64)
namespace Go.Proofs.SA
theorem F9:∀(a0:Bool) r,BI a0=some r->Y5 KZ 73 [.bool a0] (.agg (Zo r)):=by
 intro a0 r H;intro ss;unfold BI at H;refine hdh mixed Tryz.func73 (rs:=[.cell 2 35]) fun q tT hF hX=>?_;refine go ?_;refine X8 hF rfl fun b1 ss2 hF=>go ?_;refine cdb H (fun h H=>go ?_) (fun h H=>go ?_)
 ·refine bp H (Aj 1) fun x4 h H=>cl h (go ?_);refine st hF 0 rfl fun ss3 hF=>?_;refine go ?_;cases pur H;exact rt _
 ·refine bp H (Aj 0) fun x5 h H=>cl h (go ?_);refine st hF 0 rfl fun ss4 hF=>?_;refine go ?_;cases pur H;exact rt _
theorem Cj:∀(a0:List Val) r,WU a0=some r->Y5 KZ 74 [sf Zo a0] (sf Zo r):=by
 intro a0 r H;intro ss;unfold WU at H;refine hdh mixed Tryz.func74 (rs:=[.tmp 2]) fun q tT hF hX=>?_;obtain ⟨x8,f1,H⟩:=Qvn (g:=Zo) Val.X6 (lo:=none) rfl rfl rfl H;refine go1 ?_;refine go ?_;cases pur H;exact rt _
theorem Bz:∀(a2:List Val) (c0:Mch) (Cg YN:Int) out,Y0 a2 c0 Cg YN=some out->∀c,Ye Tryz.f41 0=some c->∀(Q:QT) (tt0:Sto) (e0 b1:Nat),(∀(Qq2:Int),out=Qq2->∀(T:TT) (ss tt:Sto),T 6=.ptr b1 0/\T 9=i6 Qq2->Tau tt0 [(e0,⟨55,2,[i6 c0.fuel,i6 c0.code]⟩)] tt->Fx tt ss [(b1,⟨35,16,[i6 0,i6 0,.str zB,.X4,i6 0,i6 0,.str zB,i6 0,.X4,i6 0,.str zB,i6 0,.X4,.X4,.X4,.X4]⟩)] []->Q (.ex 1) ⟨T,ss⟩)->True->∀(T:TT) (ss tt:Sto),T 6=.ptr b1 0/\T 9=i6 YN/\T 44=sf Zo a2/\T 45=i6 (a2.length:Int)/\T 46=i6 Cg->Tau tt0 [(e0,⟨55,2,[i6 c0.fuel,i6 c0.code]⟩)] tt->Fx tt ss [(b1,⟨35,16,[i6 0,i6 0,.str zB,.X4,i6 0,i6 0,.str zB,i6 0,.X4,i6 0,.str zB,i6 0,.X4,.X4,.X4,.X4]⟩)] []->aLp KZ c Q ⟨T,ss⟩:=by
 intro a2 c0 Cg YN;revert Cg YN;refine Y0.partial_correctness a2 c0 _ ?_;intro Y0 IH Cg YN out H c hc Q tt0 e0 b1 hE hR T ss tt tT hX hF;refine lpy hc rfl fun q=>go ?_;refine cdp H (fun h H=>?_) (fun h H=>go ?_)
 ·obtain ⟨x48,f1,H⟩:=bil (g:=Zo) Val.X6 H;refine go1 ?_;refine X8 hF rfl fun b10 s11 hF=>go ?_;refine st hF 0 rfl fun s12 hF=>?_;refine go ?_;exact IH  (i64.wrap (Cg+1)) ((i64.wrap (YN+x48.num)).tmod 1000) _ H _ rfl Q tt0 e0 b1 hE hR _ _ _  S hX (hF.drop 1 0)
 ·exact wq (hE _ (pur H).symm _ _ _  S hX hF)
theorem CE:∀(a1:ByteArray) (a2:List Val) (c0:Mch) r,Jo a1 a2 c0=some r->∀(e0:Nat)  (ss:Sto),Pre ss [(e0,⟨55,2,[i6 c0.fuel,i6 c0.code]⟩)] []->Ctr KZ 41 [.ptr e0 0,.str a1,sf Zo a2] ss (fun r' ss'=>∃(tt':Sto),r'=.agg (Zo r.1)/\Tau (strip ss []) [(e0,⟨55,2,[i6 r.2.fuel,i6 r.2.code]⟩)] tt'/\Fx tt' ss' [] []):=by
 intro a1 a2 c0 r H;intro e0  ss hP;unfold Jo at H;refine hdg mixed Tryz.func41 (rs:=[.cell 6 35]) fun q tT=>?_;obtain ⟨hF,hX⟩:=hP.start;generalize strip ss []=tt0 at hF hX ⊢;refine go ?_;refine X8 hF rfl fun b1 ss2 hF=>go ?_;refine bp H (Ji a2) fun x13 h H=>cl h (go ?_);obtain ⟨x24,g3,H⟩:=bnd H;refine Yb 5 19 24 (.bool x24) (gi q (fun q=>?_) (fun q=>?_)) (fun J=>go ?_)
 ·rw [if_pos (dt q)] at g3;obtain ⟨x20,f1,g3⟩:=bil (g:=Zo) Val.X6 g3;refine go1 ?_;refine go ?_;exact Yq 19 g3
 ·rw [if_neg (df q)] at g3;refine go ?_;exact Yq 19 g3
 obtain ⟨x32,g5,H⟩:=bnd H;refine Yb 6 26 32 (.bool x32) (gi q (fun q=>?_) (fun q=>?_)) (fun J=>go ?_)
 ·rw [if_pos (dbt q)] at g5;obtain ⟨x27,f1,g5⟩:=bil (g:=Zo) Val.X6 g5;refine go1 ?_;refine go ?_;exact Yq 26 g5
 ·rw [if_neg (dbf q)] at g5;refine go ?_;exact Yq 26 g5
 refine cdp H (fun h H=>go ?_) (fun h H=>go ?_)
 ·refine st hF 0 rfl fun s7 hF=>?_;refine go ?_;cases pur H;exact rg _ ⟨_,rfl,hX,K1 _⟩
 ·obtain ⟨x43,g8,H⟩:=bnd H;refine Yb 1 42 43 (.bool x43) (gi q (fun q=>go ?_) (fun q=>go ?_)) (fun J=>go ?_)
  ·exact Yq 42 g8
  ·exact Yq 42 g8
  refine cdb H (fun h H=>go ?_) (fun h H=>go ?_)
  ·obtain ⟨o13,ho13,H⟩:=bnd H;refine Bz a2 c0 0 0 _ ho13 _ rfl _ tt0 e0 b1 ?_ ?_ _ _ _  S hX hF
   ·intro Qg0 he T15 s16 t17 tT hX hF;have he:=he.symm;subst he;refine go ?_;refine bp H (Aj Qg0) fun x57 h H=>cl h (go ?_);refine st hF 0 rfl fun s18 hF=>?_;refine go ?_;cases pur H;exact rg _ ⟨_,rfl,hX,K1 _⟩
   ·trivial
  ·obtain ⟨x63,g19,H⟩:=bnd H;refine Yb 1 62 63 (.bool x63) (gi q (fun q=>go ?_) (fun q=>go ?_)) (fun J=>go ?_)
   ·exact Yq 62 g19
   ·exact Yq 62 g19
   obtain ⟨x68,g21,H⟩:=bnd H;refine Yb 3 65 68 (.bool x68) (gi q (fun q=>go ?_) (fun q=>go ?_)) (fun J=>go ?_)
   ·exact Yq 65 g21
   ·exact Yq 65 g21
   refine cdb H (fun h H=>go ?_) (fun h H=>go ?_)
   ·refine Yi E0 [.v,.v,.v,.v,.v,.v,.v,.v,.v,.v,.z] (by kernel_rfl) ?_;obtain ⟨x70,f1,H⟩:=bil (g:=Zo) Val.X6 H;obtain ⟨x74,f2,H⟩:=bil (g:=Zo) Val.X6 H;refine go2 ?_;obtain ⟨x78,hx78,H⟩:=bnd H;refine cv (F9 (decide (x70.num < x74.num)) _ hx78) (go ?_);refine st hF 0 rfl fun s23 hF=>?_;refine go ?_;cases pur H;exact rg _ ⟨_,rfl,hX,K1 _⟩
   ·obtain ⟨x84,g24,H⟩:=bnd H;refine Yb 1 83 84 (.bool x84) (gi q (fun q=>go ?_) (fun q=>go ?_)) (fun J=>go ?_)
    ·exact Yq 83 g24
    ·exact Yq 83 g24
    obtain ⟨x89,g26,H⟩:=bnd H;refine Yb 3 86 89 (.bool x89) (gi q (fun q=>go ?_) (fun q=>go ?_)) (fun J=>go ?_)
    ·exact Yq 86 g26
    ·exact Yq 86 g26
    refine cdb H (fun h H=>go ?_) (fun h H=>go ?_)
    ·refine Yi E0 [.v,.v,.v,.v,.v,.v,.v,.v,.v,.v,.z] (by kernel_rfl) ?_;obtain ⟨x91,f1,H⟩:=bil (g:=Zo) Val.X6 H;obtain ⟨x95,f2,H⟩:=bil (g:=Zo) Val.X6 H;refine go2 ?_;obtain ⟨x99,hx99,H⟩:=bnd H;refine cv (F9 (decide (x91.num=x95.num)) _ hx99) (go ?_);refine st hF 0 rfl fun s28 hF=>?_;refine go ?_;cases pur H;exact rg _ ⟨_,rfl,hX,K1 _⟩
    ·obtain ⟨x105,g29,H⟩:=bnd H;refine Yb 1 104 105 (.bool x105) (gi q (fun q=>go ?_) (fun q=>go ?_)) (fun J=>go ?_)
     ·exact Yq 104 g29
     ·exact Yq 104 g29
     refine cdb H (fun h H=>?_) (fun h H=>go ?_)
     ·obtain ⟨x107,f1,H⟩:=bil (g:=Zo) Val.X6 H;obtain ⟨x110,f2,H⟩:=bil (g:=Zo) Val.X6 H;refine go2 ?_;refine st hF 0 rfl fun s31 hF=>?_;refine go ?_;cases pur H;exact rg _ ⟨_,rfl,hX,K1 _⟩
     ·obtain ⟨x117,g32,H⟩:=bnd H;refine Yb 1 116 117 (.bool x117) (gi q (fun q=>go ?_) (fun q=>go ?_)) (fun J=>go ?_)
      ·exact Yq 116 g32
      ·exact Yq 116 g32
      refine cdb H (fun h H=>?_) (fun h H=>go ?_)
      ·obtain ⟨x119,f1,H⟩:=bil (g:=Zo) Val.X6 H;obtain ⟨x122,f2,H⟩:=bls (g:=Zo) Val.X6 (lo:=some (i6 1)) (hi:=none) rfl rfl H;refine go2 ?_;refine bp H (Cj x122) fun x123 h H=>cl h (go ?_);refine st hF 0 rfl fun s34 hF=>?_;refine go ?_;cases pur H;exact rg _ ⟨_,rfl,hX,K1 _⟩
      ·obtain ⟨x126,hx126,H⟩:=bnd H;refine cx (J9 3 c0 _ hx126 e0  _ (pre 0 1 0 hF hX)) ?_;rintro _ s35 ⟨t36,rfl,hT,hG⟩;obtain ⟨tt37,hX,hF⟩:=aft 0 1 0 hF hX hT hG;refine go ?_;refine st hF 0 rfl fun s38 hF=>?_;refine go ?_;cases pur H;exact rg _ ⟨_,rfl,hX,K1 _⟩
theorem IF:∀(a0:List Slt) r,VK a0=some r->∀   (ss:Sto),Pre ss [] []->Ctr KZ 42 [sf Zq a0] ss (fun r' ss'=>∃(tt':Sto) (w0:AV),r'=w0/\Tau (strip ss []) [] tt'/\Fx tt' ss' [] [⟨w0,83,17,rws Zq r⟩]):=by
 intro a0 r H;intro   ss hP;unfold VK at H;refine hdg mixed Tryz.func42 (rs:=[.tmp 2]) fun q tT=>?_;obtain ⟨hF,hX⟩:=hP.start;generalize strip ss []=tt0 at hF hX ⊢;obtain ⟨x8,f1,H⟩:=Qvn (g:=Zq) Slt.X6 (lo:=none) rfl rfl rfl H;refine go1 ?_;have hF:=hF.Qwq 83 (rws Zq x8) (CG Slt.X6 _);refine go ?_;cases pur H;exact rg _ ⟨_,_,rfl,hX,hF.pick [] [0] (by decide) (by decide)⟩
theorem Dt:∀(a1:Cor) (a2:List Slt) (c0:Mch) (Yu:Int) out,VF a1 a2 c0 Yu=some out->∀c,Ye Tryz.f19 0=some c->∀(Q:QT) (tt0:Sto) (e0 b1 b3:Nat),(∀(_u:Unit),out=Sum.inr ()->∀(T:TT) (ss tt:Sto),T 6=.ptr b3 0->Tau tt0 [(e0,⟨55,2,[i6 (i64.wrap (c0.fuel - 1)),i6 c0.code]⟩)] tt->Fx tt ss [(b3,⟨35,16,[i6 0,i6 0,.str zB,.X4,i6 0,i6 0,.str zB,i6 0,.X4,i6 0,.str zB,i6 0,.X4,.X4,.X4,.X4]⟩),(b1,⟨29,11,[i6 a1.kind,i6 a1.id,.str a1.name,i6 a1.num,sf cI a1.ids,i6 a1.data.kind,.str a1.data.name,i6 a1.data.num,sf cI a1.data.sc,sf KY a1.data.kids,sf K2 a1.kids]⟩)] []->Q (.ex 1) ⟨T,ss⟩)->(∀r,out=Sum.inl r->∀s',I9 KZ [.cell 6 35] (fun r' ss'=>∃(tt':Sto),r'=.agg (Zo r.1)/\Tau tt0 [(e0,⟨55,2,[i6 r.2.fuel,i6 r.2.code]⟩)] tt'/\Fx tt' ss' [] []) s'->Q .ret s')->∀(T:TT) (ss tt:Sto),T 2=sf Zq a2/\T 4=.ptr b1 0/\T 6=.ptr b3 0/\T 7=i6 Yu->Tau tt0 [(e0,⟨55,2,[i6 (i64.wrap (c0.fuel - 1)),i6 c0.code]⟩)] tt->Fx tt ss [(b3,⟨35,16,[i6 0,i6 0,.str zB,.X4,i6 0,i6 0,.str zB,i6 0,.X4,i6 0,.str zB,i6 0,.X4,.X4,.X4,.X4]⟩),(b1,⟨29,11,[i6 a1.kind,i6 a1.id,.str a1.name,i6 a1.num,sf cI a1.ids,i6 a1.data.kind,.str a1.data.name,i6 a1.data.num,sf cI a1.data.sc,sf KY a1.data.kids,sf K2 a1.kids]⟩)] []->aLp KZ c Q ⟨T,ss⟩:=by
 intro a1 a2 c0 Yu;revert Yu;refine VF.partial_correctness a1 a2 c0 _ ?_;intro VF IH Yu out H c hc Q tt0 e0 b1 b3 hE hR T ss tt tT hX hF;refine lpy hc rfl fun q=>go ?_;refine cdp H (fun h H=>go ?_) (fun h H=>go ?_)
 ·refine Yi E0 [.v,.v,.v,.v,.v,.v,.v,.v] (by kernel_rfl) ?_;obtain ⟨x50,f1,H⟩:=bil (g:=Zq) Slt.X6 H;refine go1 ?_;refine go ?_;refine cdp H (fun h H=>?_) (fun h H=>go ?_)
  ·obtain ⟨x58,f1,H⟩:=bil (g:=Zq) Slt.X6 H;refine go1 ?_;refine st hF 0 rfl fun s12 hF=>?_;refine go ?_;exact wq (hR _ (pur H).symm _ (rg _ ⟨_,rfl,hX,K1 _⟩))
  ·exact IH  (i64.wrap (Yu - 1)) _ H _ rfl Q tt0 e0 b1 b3 hE hR _ _ _  S hX hF
 ·exact wq (hE () (pur H).symm _ _ _  S hX hF)
theorem Du:∀(a1:Cor) (VN VJ:Int) (x142:Val) (x145:List Val) (Dk:List Slt) (IT:Int) out,Vn a1 VN VJ x142 x145 Dk IT=some out->∀c,Ye Tryz.f19 2=some c->∀(Q:QT) (tt0:Sto) (e0 b1 b3 b64:Nat),(∀(Qq5:List Slt),out=Qq5->∀(T:TT) (ss tt:Sto) (e2v0:AV),T 0=.ptr e0 0/\T 6=.ptr b3 0/\T 12=.ptr b64 0/\T 14=e2v0->Tau tt0 [(e0,⟨55,2,[i6 VN,i6 VJ]⟩)] tt->Fx tt ss [(b64,⟨35,16,[i6 x142.kind,i6 x142.num,.str x142.name,sf Zo x142.items,i6 x142.fn.kind,i6 x142.fn.id,.str x142.fn.name,i6 x142.fn.num,sf cI x142.fn.ids,i6 x142.fn.data.kind,.str x142.fn.data.name,i6 x142.fn.data.num,sf cI x142.fn.data.sc,sf KY x142.fn.data.kids,sf K2 x142.fn.kids,sf Zq x142.env]⟩),(b3,⟨35,16,[i6 0,i6 0,.str zB,.X4,i6 0,i6 0,.str zB,i6 0,.X4,i6 0,.str zB,i6 0,.X4,.X4,.X4,.X4]⟩),(b1,⟨29,11,[i6 a1.kind,i6 a1.id,.str a1.name,i6 a1.num,sf cI a1.ids,i6 a1.data.kind,.str a1.data.name,i6 a1.data.num,sf cI a1.data.sc,sf KY a1.data.kids,sf K2 a1.kids]⟩)] [⟨e2v0,83,17,rws Zq Qq5⟩]->Q (.ex 6) ⟨T,ss⟩)->True->∀(T:TT) (ss tt:Sto) (z2v0:AV),T 0=.ptr e0 0/\T 6=.ptr b3 0/\T 12=.ptr b64 0/\T 13=sf Zo x145/\T 14=z2v0/\T 171=sf cI x142.fn.ids/\T 172=i6 (x142.fn.ids.length:Int)/\T 173=i6 IT->Tau tt0 [(e0,⟨55,2,[i6 VN,i6 VJ]⟩)] tt->Fx tt ss [(b64,⟨35,16,[i6 x142.kind,i6 x142.num,.str x142.name,sf Zo x142.items,i6 x142.fn.kind,i6 x142.fn.id,.str x142.fn.name,i6 x142.fn.num,sf cI x142.fn.ids,i6 x142.fn.data.kind,.str x142.fn.data.name,i6 x142.fn.data.num,sf cI x142.fn.data.sc,sf KY x142.fn.data.kids,sf K2 x142.fn.kids,sf Zq x142.env]⟩),(b3,⟨35,16,[i6 0,i6 0,.str zB,.X4,i6 0,i6 0,.str zB,i6 0,.X4,i6 0,.str zB,i6 0,.X4,.X4,.X4,.X4]⟩),(b1,⟨29,11,[i6 a1.kind,i6 a1.id,.str a1.name,i6 a1.num,sf cI a1.ids,i6 a1.data.kind,.str a1.data.name,i6 a1.data.num,sf cI a1.data.sc,sf KY a1.data.kids,sf K2 a1.kids]⟩)] [⟨z2v0,83,17,rws Zq Dk⟩]->aLp KZ c Q ⟨T,ss⟩:=by
 intro a1 VN VJ x142 x145 Dk IT;revert Dk IT;refine Vn.partial_correctness a1 VN VJ x142 x145 _ ?_;intro Vn IH Dk IT out H c hc Q tt0 e0 b1 b3 b64 hE hR T ss tt z2v0 tT hX hF;refine lpy hc rfl fun q=>go ?_;refine cdp H (fun h H=>?_) (fun h H=>go ?_)
 ·obtain ⟨x176,f1,H⟩:=bil (g:=cI) (fun _=>rfl) H;refine go1 ?_;obtain ⟨x182,f1,H⟩:=bil (g:=Zo) Val.X6 H;refine go1 ?_;refine apd (g:=Zq) hF 0 H (rdo (c:=true) (g:=Zq) Slt.X6) fun x186 H v81 s82 hF=>go ?_;exact IH  x186 (i64.wrap (IT+1)) _ H _ rfl Q tt0 e0 b1 b3 b64 hE hR _ _ _ v81 S hX hF
 ·exact wq (hE _ (pur H).symm _ _ _ z2v0 S hX hF)
theorem EN:∀(a1:Cor) (a2:List Slt) (c0:Mch) r,YO a1 a2 c0=some r->∀(e0:Nat)  (ss:Sto),Pre ss [(e0,⟨55,2,[i6 c0.fuel,i6 c0.code]⟩)] []->Ctr KZ 19 [.ptr e0 0,.agg (K2 a1),sf Zq a2] ss (fun r' ss'=>∃(tt':Sto),r'=.agg (Zo r.1)/\Tau (strip ss []) [(e0,⟨55,2,[i6 r.2.fuel,i6 r.2.code]⟩)] tt'/\Fx tt' ss' [] []):=by
 refine YO.partial_correctness _ (motive_2:=fun a1 a2 VX Bt YT J7 out=>∀c,Ye Tryz.f19 1=some c->∀(Q:QT) (tt0:Sto) (e0 b1 b3:Nat),(∀(N4:List Val) (BQ N5:Int),out=(N4,BQ,N5)->∀(T:TT) (ss tt:Sto) (e1v0:AV),T 0=.ptr e0 0/\T 6=.ptr b3 0/\T 9=e1v0->Tau tt0 [(e0,⟨55,2,[i6 BQ,i6 N5]⟩)] tt->Fx tt ss [(b3,⟨35,16,[i6 0,i6 0,.str zB,.X4,i6 0,i6 0,.str zB,i6 0,.X4,i6 0,.str zB,i6 0,.X4,.X4,.X4,.X4]⟩),(b1,⟨29,11,[i6 a1.kind,i6 a1.id,.str a1.name,i6 a1.num,sf cI a1.ids,i6 a1.data.kind,.str a1.data.name,i6 a1.data.num,sf cI a1.data.sc,sf KY a1.data.kids,sf K2 a1.kids]⟩)] [⟨e1v0,35,16,rws Zo N4⟩]->Q (.ex 3) ⟨T,ss⟩)->True->∀(T:TT) (ss tt:Sto) (z1v0:AV),T 0=.ptr e0 0/\T 2=sf Zq a2/\T 6=.ptr b3 0/\T 9=z1v0/\T 121=sf K2 a1.kids/\T 122=i6 (a1.kids.length:Int)/\T 123=i6 Bt->Tau tt0 [(e0,⟨55,2,[i6 YT,i6 J7]⟩)] tt->Fx tt ss [(b3,⟨35,16,[i6 0,i6 0,.str zB,.X4,i6 0,i6 0,.str zB,i6 0,.X4,i6 0,.str zB,i6 0,.X4,.X4,.X4,.X4]⟩),(b1,⟨29,11,[i6 a1.kind,i6 a1.id,.str a1.name,i6 a1.num,sf cI a1.ids,i6 a1.data.kind,.str a1.data.name,i6 a1.data.num,sf cI a1.data.sc,sf KY a1.data.kids,sf K2 a1.kids]⟩)] [⟨z1v0,35,16,rws Zo VX⟩]->aLp KZ c Q ⟨T,ss⟩) ?_ ?_
 ·intro YO VG C0 L0 a1 a2 c0 r H;intro e0  ss hP;refine hdg mixed Tryz.func19 (rs:=[.cell 6 35]) fun q tT=>?_;obtain ⟨hF,hX⟩:=hP.start;generalize strip ss []=tt0 at hF hX ⊢;refine go ?_;refine X8 hF rfl fun b1 ss2 hF=>go ?_;refine X8 hF rfl fun b3 ss4 hF=>go ?_;refine cdn H (fun h H=>go ?_) (fun h H=>go ?_)
  ·refine st hF 0 rfl fun ss5 hF=>?_;refine go ?_;cases pur H;exact rg _ ⟨_,rfl,hX,K1 _⟩
  ·refine cdp H (fun h H=>go ?_) (fun h H=>go ?_)
   ·obtain ⟨x29,hx29,H⟩:=bnd H;refine cx (J9 4 c0 _ hx29 e0  _ (pre 0 1 0 hF hX)) ?_;rintro _ ss6 ⟨t7,rfl,hT,hG⟩;obtain ⟨t8,hX,hF⟩:=aft 0 1 0 hF hX hT hG;refine go ?_;refine st hF 0 rfl fun s9 hF=>?_;refine go ?_;cases pur H;exact rg _ ⟨_,rfl,hX,K1 _⟩
   ·refine stT hF hX 0 rfl fun t11 s10 hF hX=>?_;refine go ?_;refine cdp H (fun h H=>go ?_) (fun h H=>go ?_)
    ·obtain ⟨o13,ho13,H⟩:=bnd H;refine Dt a1 a2 c0 (i64.wrap ((a2.length:Int) - 1)) _ ho13 _ rfl _ tt0 e0 b1 b3 ?_ ?_ _ _ _  S hX hF
     ·intro _ he T15 s16 t17 tT hX hF;have he:=he.symm;subst he
      try dsimp only at H
      refine go ?_;refine st hF 0 rfl fun s18 hF=>?_;refine go ?_;cases pur H;exact rg _ ⟨_,rfl,hX,K1 _⟩
     ·intro r hr s' hs;subst hr;cases pur H;exact hsq hs
    ·refine cdp H (fun h H=>go ?_) (fun h H=>go ?_)
     ·refine bp H (Aj a1.num) fun x66 h H=>cl h (go ?_);refine st hF 0 rfl fun s19 hF=>?_;refine go ?_;cases pur H;exact rg _ ⟨_,rfl,hX,K1 _⟩
     ·refine cdp H (fun h H=>go ?_) (fun h H=>go ?_)
      ·refine bp H (LQ a1.data) fun x71 h H=>cl h (go ?_);refine st hF 0 rfl fun s20 hF=>?_;refine go ?_;cases pur H;exact rg _ ⟨_,rfl,hX,K1 _⟩
      ·refine cdp H (fun h H=>go ?_) (fun h H=>go ?_)
       ·refine st hF 0 rfl fun s21 hF=>?_;refine go ?_;cases pur H;exact rg _ ⟨_,rfl,hX,K1 _⟩
       ·refine cdp H (fun h H=>go ?_) (fun h H=>go ?_)
        ·refine Yi E0 [.v,.v,.v,.v] (by kernel_rfl) ?_
         try simp only [go_sem,↓reduceIte,Zr,Zt,Zu,Zs,Zv,Zw,Kl,q,tT,hF.f,hF.m,hF.x hX,Qef]
         refine bp H (AW [(Qk #[108,105,115,116]),(Qk #[43]),(Qk #[60]),(Qk #[61]),(Qk #[104,101,97,100]),(Qk #[116,97,105,108])] a1.name) fun x82 h H=>cv h (go ?_);refine cdb H (fun h H=>go ?_) (fun h H=>go ?_)
         ·refine st hF 0 rfl fun s22 hF=>?_;refine go ?_;cases pur H;exact rg _ ⟨_,rfl,hX,K1 _⟩
         ·obtain ⟨x87,hx87,H⟩:=bnd H;refine cx (J9 1 (KV (i64.wrap (c0.fuel - 1)) c0.code) _ hx87 e0  _ (pre 0 1 0 hF hX)) ?_;rintro _ s23 ⟨t24,rfl,hT,hG⟩;obtain ⟨t25,hX,hF⟩:=aft 0 1 0 hF hX hT hG;refine go ?_;refine st hF 0 rfl fun s26 hF=>?_;refine go ?_;cases pur H;exact rg _ ⟨_,rfl,hX,K1 _⟩
        ·refine cdp H (fun h H=>?_) (fun h H=>?_)
         ·obtain ⟨x93,f1,H⟩:=bil (g:=K2) Cor.X6 H;refine go1 ?_;obtain ⟨x96,hx96,H⟩:=bnd H;refine cx (C0 x93 a2 (KV (i64.wrap (c0.fuel - 1)) c0.code) _ hx96 e0  _ (pre 0 1 0 hF hX)) ?_;rintro _ s27 ⟨t28,rfl,hT,hG⟩;obtain ⟨t29,hX,hF⟩:=aft 0 1 0 hF hX hT hG;refine go ?_;refine X8 hF rfl fun b30 s31 hF=>go ?_;refine st hF 0 rfl fun s32 hF=>?_;refine go ?_;obtain ⟨x104,g33,H⟩:=bnd H;refine Yb 3 101 104 (.bool x104) (gi q (fun q=>go ?_) (fun q=>go ?_)) (fun J=>go ?_)
          ·exact Yq 101 g33
          ·exact Yq 101 g33
          refine cdb H (fun h H=>?_) (fun h H=>?_)
          ·obtain ⟨x108,f1,H⟩:=bil (g:=K2) Cor.X6 H;refine go1 ?_;obtain ⟨x111,hx111,H⟩:=bnd H;refine cx (C0 x108 a2 x96.2 _ hx111 e0  _ (pre 0 1 0 hF hX)) ?_;rintro _ s35 ⟨t36,rfl,hT,hG⟩;obtain ⟨tt37,hX,hF⟩:=aft 0 1 0 hF hX hT hG;refine go ?_;refine st hF 1 rfl fun s38 hF=>?_;refine go ?_;cases pur H;exact rg _ ⟨_,rfl,hX,K1 _⟩
          ·obtain ⟨x115,f1,H⟩:=bil (g:=K2) Cor.X6 H;refine go1 ?_;obtain ⟨x118,hx118,H⟩:=bnd H;refine cx (C0 x115 a2 x96.2 _ hx118 e0  _ (pre 0 1 0 hF hX)) ?_;rintro _ s39 ⟨t40,rfl,hT,hG⟩;obtain ⟨t41,hX,hF⟩:=aft 0 1 0 hF hX hT hG;refine go ?_;refine st hF 1 rfl fun s42 hF=>?_;refine go ?_;cases pur H;exact rg _ ⟨_,rfl,hX,K1 _⟩
         ·have hF:=hF.lit 35 16 (rws Zo []) rfl;refine go ?_;obtain ⟨o51,ho51,H⟩:=bnd H;refine L0 a1 a2 [] 0 (i64.wrap (c0.fuel - 1)) c0.code _ ho51 _ rfl _ tt0 e0 b1 b3 ?_ ?_ _ _ _ (.sl true (rws Zo [])) S hX hF
          ·intro Qbc VN VJ he T53 s54 t55 e52v0 tT hX hF;have he:=he.symm;subst he
           try dsimp only at H
           refine go ?_;refine cdn H (fun h H=>go ?_) (fun h H=>go ?_)
           ·refine st hF 0 rfl fun s56 hF=>?_;refine go ?_;cases pur H;exact rg _ ⟨_,rfl,hX,K1 _⟩
           ·obtain ⟨s57,hF,hw58,hb59,hz60⟩:=frz hF 0;refine Qa0 9 (by simp [upd,tT]) hw58 hb59 (go ?_);obtain ⟨E,hEq⟩:∃E,E=EE s57 []:=⟨_,rfl⟩
            have n61:¬E b3:=by rw [hEq];exact K5 (hF.at 0 rfl) (by simp)
            have n62:¬E b1:=by rw [hEq];exact K5 (hF.at 1 rfl) (by simp)
            have n63:¬E e0:=by rw [hEq];exact K5 (hF.xat hX 0 rfl) (by simp)
            refine Yi E [.v,.v,.v,.v,.v,.x,.x,.v] (by kernel_rfl) ?_;obtain ⟨x142,f1,H⟩:=bil (g:=Zo) Val.X6 H;obtain ⟨x145,f2,H⟩:=bls (g:=Zo) Val.X6 (lo:=some (i6 1)) (hi:=none) rfl rfl H;have z:=K3 (X9 (hF.at 0 rfl) n61) (K3 (X9 (hF.at 1 rfl) n62) (X9 (hF.xat hX 0 rfl) n63));refine gh2 ?_;refine BR hF rfl fun b64 s65 nw66 mo67 hF=>?_;have z:=K3 (X9 (hF.at 1 rfl) n61) (K3 (X9 (hF.at 2 rfl) n62) (X9 (hF.xat hX 0 rfl) n63));refine gh ?_;refine stK hF 0 (show E _ from ((em0 hEq) _ nw66)) rfl fun s68 hF=>?_;have z:=K3 (X9 (hF.at 1 rfl) n61) (K3 (X9 (hF.at 2 rfl) n62) (X9 (hF.xat hX 0 rfl) n63));refine gh ?_;refine go ?_;refine cdp H (fun h H=>go ?_) (fun h H=>go ?_)
            ·obtain ⟨x154,hx154,H⟩:=bnd H;refine cx (CE x142.name x145 (KV VN VJ) _ hx154 e0  _ (pre 0 1 0 hF hX)) ?_;rintro _ s69 ⟨tt70,rfl,hT,hG⟩;obtain ⟨t71,hX,hF⟩:=aft 0 1 0 hF hX hT hG;refine go ?_;refine st hF 1 rfl fun s72 hF=>?_;refine go ?_;cases pur H;exact rg _ ⟨_,rfl,hX,K1 _⟩
            ·refine cdp H (fun h H=>go ?_) (fun h H=>go ?_)
             ·refine cdn H (fun h H=>go ?_) (fun h H=>go ?_)
              ·obtain ⟨x165,hx165,H⟩:=bnd H;refine cx (J9 3 (KV VN VJ) _ hx165 e0  _ (pre 0 1 0 hF hX)) ?_;rintro _ s73 ⟨t74,rfl,hT,hG⟩;obtain ⟨tt75,hX,hF⟩:=aft 0 1 0 hF hX hT hG;refine go ?_;refine st hF 1 rfl fun s76 hF=>?_;refine go ?_;cases pur H;exact rg _ ⟨_,rfl,hX,K1 _⟩
              ·obtain ⟨x168,hx168,H⟩:=bnd H;refine cx (IF x142.env _ hx168   _ (pre 0 0 0 hF hX)) ?_;rintro v77 s78 ⟨t79,_,rfl,hT,hG⟩;obtain ⟨t80,hX,hF⟩:=aft 0 0 0 hF hX hT hG;refine go ?_;obtain ⟨o83,ho83,H⟩:=bnd H;refine Du a1 VN VJ x142 x145 x168 0 _ ho83 _ rfl _ tt0 e0 b1 b3 b64 ?_ ?_ _ _ _ v77 S hX hF
               ·intro Qg6 he T85 s86 t87 e84v0 tT hX hF;have he:=he.symm;subst he;refine go ?_;obtain ⟨E,hEq⟩:∃E,E=EE s86 [e0]:=⟨_,rfl⟩
                have n88:¬E b64:=by rw [hEq];exact K5 (hF.at 0 rfl) (nm1 (neX hF 0 rfl hX 0 rfl))
                have n89:¬E b3:=by rw [hEq];exact K5 (hF.at 1 rfl) (nm1 (neX hF 1 rfl hX 0 rfl))
                have n90:¬E b1:=by rw [hEq];exact K5 (hF.at 2 rfl) (nm1 (neX hF 2 rfl hX 0 rfl))
                refine Yi E [.v,.v,.v,.v,.v,.v,.v,.x,.x,.z] (by kernel_rfl) ?_;obtain ⟨x192,f1,H⟩:=bil (g:=K2) Cor.X6 H;have z:=K3 (X9 (hF.at 0 rfl) n88) (K3 (X9 (hF.at 1 rfl) n89) (X9 (hF.at 2 rfl) n90));refine gh1 ?_;obtain ⟨x195,hx195,H⟩:=bnd H;obtain ⟨s91,hF,hw92,hb93,hz94⟩:=frz hF 0;refine FG (IF Qg6 _ hx195   _ (pre 0 0 0 hF hX)) (.cons hw92 (fun _=>rfl) .nil) hb93 ?_;rintro v95 s96 ⟨t97,_,rfl,hT,hG⟩
                refine AF ((Fx.kept hT hG (by intro p hp;simp only [List.mem_cons,List.not_mem_nil,or_false] at hp<;>first | (rcases hp with rfl<;>(rw [hEq];first | (refine EE.of ?_;simp;done) | exact EE.new rfl))| cases hp)).to hz94) fun kp99=>?_
                obtain ⟨t98,hX,hF⟩:=aft 0 0 0 hF hX hT hG;have z:=K3 (X9 (hF.at 0 rfl) n88) (K3 (X9 (hF.at 1 rfl) n89) (X9 (hF.at 2 rfl) n90));refine gh ?_;obtain ⟨x196,hx196,H⟩:=bnd H;obtain ⟨s100,hF,hw101,hb102,hz103⟩:=frz hF 0;refine FG (C0 x192 x195 (KV VN VJ) _ hx196 e0  _ (pre 0 1 0 hF hX)) (by (try simp only [sf,i6,zB,Cor.Ya,Fm.Ya]);exact (.cons (Zp hb102 _) id (.cons (Zp hb102 _) id (.cons hw101 (fun _=>rfl) .nil)))) hb102 ?_;rintro _ s104 ⟨t105,rfl,hT,hG⟩
                refine AF ((Fx.kept hT hG (by intro p hp;simp only [List.mem_cons,List.not_mem_nil,or_false] at hp<;>first | (rcases hp with rfl<;>(rw [hEq];first | (refine EE.of ?_;simp;done) | exact EE.new rfl))| cases hp)).to hz103) fun kp107=>?_
                obtain ⟨t106,hX,hF⟩:=aft 0 1 0 hF hX hT hG;have z:=K3 (X9 (hF.at 0 rfl) n88) (K3 (X9 (hF.at 1 rfl) n89) (X9 (hF.at 2 rfl) n90));refine gh ?_;refine st hF 1 rfl fun s108 hF=>?_;have z:=K3 (X9 (hF.at 0 rfl) n88) (K3 (X9 (hF.at 1 rfl) n89) (X9 (hF.at 2 rfl) n90));refine gh ?_;refine go ?_;cases pur H;exact rg [.agg [i6 x196.1.kind,i6 x196.1.num,.str x196.1.name,sf Zo x196.1.items,i6 x196.1.fn.kind,i6 x196.1.fn.id,.str x196.1.fn.name,i6 x196.1.fn.num,sf cI x196.1.fn.ids,i6 x196.1.fn.data.kind,.str x196.1.fn.data.name,i6 x196.1.fn.data.num,sf cI x196.1.fn.data.sc,sf KY x196.1.fn.data.kids,sf K2 x196.1.fn.kids,sf Zq x196.1.env]] ⟨_,rfl,hX,K1 _⟩
               ·trivial
             ·obtain ⟨x198,hx198,H⟩:=bnd H;refine cx (J9 2 (KV VN VJ) _ hx198 e0  _ (pre 0 1 0 hF hX)) ?_;rintro _ s109 ⟨t110,rfl,hT,hG⟩;obtain ⟨t111,hX,hF⟩:=aft 0 1 0 hF hX hT hG;refine go ?_;refine st hF 1 rfl fun s112 hF=>?_;refine go ?_;cases pur H;exact rg _ ⟨_,rfl,hX,K1 _⟩
          ·trivial
 ·intro YO VG C0 L0 a1 a2 VX Bt YT J7 out H c hc Q tt0 e0 b1 b3 hE hR T ss tt z1v0 tT hX hF;refine lpy hc rfl fun q=>go ?_;refine cdp H (fun h H=>?_) (fun h H=>go ?_)
  ·obtain ⟨x125,f1,H⟩:=bil (g:=K2) Cor.X6 H;refine go1 ?_;refine X8 hF rfl fun b43 s44 hF=>go ?_;refine st hF 0 rfl fun s45 hF=>?_;refine go ?_;obtain ⟨x131,hx131,H⟩:=bnd H;refine cx (C0 x125 a2 (KV YT J7) _ hx131 e0  _ (pre 0 1 0 hF hX)) ?_;rintro _ s46 ⟨t47,rfl,hT,hG⟩;obtain ⟨t48,hX,hF⟩:=aft 0 1 0 hF hX hT hG;refine go ?_;refine apd (g:=Zo) hF 0 H (rdo (c:=true) (g:=Zo) Val.X6) fun x133 H v49 s50 hF=>go ?_;exact L0 a1 a2 x133 (i64.wrap (Bt+1)) x131.2.fuel x131.2.code _ H _ rfl Q tt0 e0 b1 b3 hE hR _ _ _ v49 S hX (hF.drop 1 0)
  ·exact wq (hE _ _ _ (pur H).symm _ _ _ z1v0 S hX hF)
theorem Px:∀(a0:Val) (c0:Int) r,J0 a0 c0=some r->∀(e0:Nat)  (ss:Sto),Pre ss [(e0,⟨3,1,[i6 c0]⟩)] []->Ctr KZ 20 [.agg (Zo a0),.ptr e0 0] ss (fun r' ss'=>∃(tt':Sto),r'=.bool r.1/\Tau (strip ss []) [(e0,⟨3,1,[i6 r.2]⟩)] tt'/\Fx tt' ss' [] []):=by
 refine J0.partial_correctness _ (motive_2:=fun a0 DS YT out=>∀c,Ye Tryz.f20 1=some c->∀(Q:QT) (tt0:Sto) (e0 b1:Nat),(∀(BQ:Int),out=Sum.inr BQ->∀(T:TT) (ss tt:Sto),0+0=0->Tau tt0 [(e0,⟨3,1,[i6 BQ]⟩)] tt->Fx tt ss [(b1,⟨35,16,[i6 a0.kind,i6 a0.num,.str a0.name,sf Zo a0.items,i6 a0.fn.kind,i6 a0.fn.id,.str a0.fn.name,i6 a0.fn.num,sf cI a0.fn.ids,i6 a0.fn.data.kind,.str a0.fn.data.name,i6 a0.fn.data.num,sf cI a0.fn.data.sc,sf KY a0.fn.data.kids,sf K2 a0.fn.kids,sf Zq a0.env]⟩)] []->Q (.ex 2) ⟨T,ss⟩)->(∀r,out=Sum.inl r->∀s',I9 KZ [.tmp 4] (fun r' ss'=>∃(tt':Sto),r'=.bool r.1/\Tau tt0 [(e0,⟨3,1,[i6 r.2]⟩)] tt'/\Fx tt' ss' [] []) s'->Q .ret s')->∀(T:TT) (ss tt:Sto),T 1=.ptr e0 0/\T 31=sf Zq a0.env/\T 32=i6 (a0.env.length:Int)/\T 33=i6 DS->Tau tt0 [(e0,⟨3,1,[i6 YT]⟩)] tt->Fx tt ss [(b1,⟨35,16,[i6 a0.kind,i6 a0.num,.str a0.name,sf Zo a0.items,i6 a0.fn.kind,i6 a0.fn.id,.str a0.fn.name,i6 a0.fn.num,sf cI a0.fn.ids,i6 a0.fn.data.kind,.str a0.fn.data.name,i6 a0.fn.data.num,sf cI a0.fn.data.sc,sf KY a0.fn.data.kids,sf K2 a0.fn.kids,sf Zq a0.env]⟩)] []->aLp KZ c Q ⟨T,ss⟩) (motive_3:=fun a0 Ip Vl out=>∀c,Ye Tryz.f20 0=some c->∀(Q:QT) (tt0:Sto) (e0 b1:Nat),(∀(BP:Int),out=Sum.inr BP->∀(T:TT) (ss tt:Sto),T 1=.ptr e0 0/\T 2=.ptr b1 0->Tau tt0 [(e0,⟨3,1,[i6 BP]⟩)] tt->Fx tt ss [(b1,⟨35,16,[i6 a0.kind,i6 a0.num,.str a0.name,sf Zo a0.items,i6 a0.fn.kind,i6 a0.fn.id,.str a0.fn.name,i6 a0.fn.num,sf cI a0.fn.ids,i6 a0.fn.data.kind,.str a0.fn.data.name,i6 a0.fn.data.num,sf cI a0.fn.data.sc,sf KY a0.fn.data.kids,sf K2 a0.fn.kids,sf Zq a0.env]⟩)] []->Q (.ex 0) ⟨T,ss⟩)->(∀r,out=Sum.inl r->∀s',I9 KZ [.tmp 4] (fun r' ss'=>∃(tt':Sto),r'=.bool r.1/\Tau tt0 [(e0,⟨3,1,[i6 r.2]⟩)] tt'/\Fx tt' ss' [] []) s'->Q .ret s')->∀(T:TT) (ss tt:Sto),T 1=.ptr e0 0/\T 2=.ptr b1 0/\T 19=sf Zo a0.items/\T 20=i6 (a0.items.length:Int)/\T 21=i6 Ip->Tau tt0 [(e0,⟨3,1,[i6 Vl]⟩)] tt->Fx tt ss [(b1,⟨35,16,[i6 a0.kind,i6 a0.num,.str a0.name,sf Zo a0.items,i6 a0.fn.kind,i6 a0.fn.id,.str a0.fn.name,i6 a0.fn.num,sf cI a0.fn.ids,i6 a0.fn.data.kind,.str a0.fn.data.name,i6 a0.fn.data.num,sf cI a0.fn.data.sc,sf KY a0.fn.data.kids,sf K2 a0.fn.kids,sf Zq a0.env]⟩)] []->aLp KZ c Q ⟨T,ss⟩) ?_ ?_ ?_
 ·intro Gp Gn L1 L0 a0 c0 r H;intro e0  ss hP;refine hdg mixed Tryz.func20 (rs:=[.tmp 4]) fun q tT=>?_;obtain ⟨hF,hX⟩:=hP.start;generalize strip ss []=tt0 at hF hX ⊢;refine go ?_;refine X8 hF rfl fun b1 ss2 hF=>go ?_;refine stT hF hX 0 rfl fun tt4 ss3 hF hX=>?_;refine go ?_;refine cdp H (fun h H=>go ?_) (fun h H=>go ?_)
  ·cases pur H;exact rg _ ⟨_,rfl,hX,K1 _⟩
  ·obtain ⟨o11,ho11,H⟩:=bnd H;refine L0 a0 0 (i64.wrap (c0 - 1)) _ ho11 _ rfl _ tt0 e0 b1 ?_ ?_ _ _ _  S hX hF
   ·intro RW he T13 s14 t15 tT hX hF;have he:=he.symm;subst he
    try dsimp only at H
    refine go ?_;obtain ⟨o22,ho22,H⟩:=bnd H;refine L1 a0 0 RW _ ho22 _ rfl _ tt0 e0 b1 ?_ ?_ _ _ _  S hX hF
    ·intro Qa4 he T24 s25 t26 tT hX hF;have he:=he.symm;subst he
     try dsimp only at H
     refine go ?_;cases pur H;exact rg _ ⟨_,rfl,hX,K1 _⟩
    ·intro r hr s' hs;subst hr;cases pur H;exact hsq hs
   ·intro r hr s' hs;subst hr;cases pur H;exact hsq hs
 ·intro J0 Gp C0 L1 a0 DS YT out H c hc Q tt0 e0 b1 hE hR T ss tt tT hX hF;refine lpy hc rfl fun q=>go ?_;refine cdp H (fun h H=>?_) (fun h H=>go ?_)
  ·obtain ⟨x35,f1,H⟩:=bil (g:=Zq) Slt.X6 H;refine go1 ?_;refine X8 hF rfl fun b16 s17 hF=>go ?_;refine st hF 0 rfl fun s18 hF=>?_;refine go ?_;obtain ⟨x40,hx40,H⟩:=bnd H;refine cx (C0 x35.val YT _ hx40 e0  _ (pre 0 1 0 hF hX)) ?_;rintro _ s19 ⟨tt20,rfl,hT,hG⟩;obtain ⟨t21,hX,hF⟩:=aft 0 1 0 hF hX hT hG;refine go ?_;refine cdb H (fun h H=>go ?_) (fun h H=>go ?_)
   ·exact wq (hR _ (pur H).symm _ (rg _ ⟨_,rfl,hX,K1 _⟩))
   ·exact L1 a0 (i64.wrap (DS+1)) x40.2 _ H _ rfl Q tt0 e0 b1 hE hR _ _ _  S hX (hF.drop 1 0)
  ·exact wq (hE _ (pur H).symm _ _ _  S hX hF)
 ·intro J0 Gn C0 L0 a0 Ip Vl out H c hc Q tt0 e0 b1 hE hR T ss tt tT hX hF;refine lpy hc rfl fun q=>go ?_;refine cdp H (fun h H=>?_) (fun h H=>go ?_)
  ·obtain ⟨x23,f1,H⟩:=bil (g:=Zo) Val.X6 H;refine go1 ?_;refine X8 hF rfl fun b5 ss6 hF=>go ?_;refine st hF 0 rfl fun s7 hF=>?_;refine go ?_;obtain ⟨x27,hx27,H⟩:=bnd H;refine cx (C0 x23 Vl _ hx27 e0  _ (pre 0 1 0 hF hX)) ?_;rintro _ s8 ⟨tt9,rfl,hT,hG⟩;obtain ⟨t10,hX,hF⟩:=aft 0 1 0 hF hX hT hG;refine go ?_;refine cdb H (fun h H=>go ?_) (fun h H=>go ?_)
   ·exact wq (hR _ (pur H).symm _ (rg _ ⟨_,rfl,hX,K1 _⟩))
   ·exact L0 a0 (i64.wrap (Ip+1)) x27.2 _ H _ rfl Q tt0 e0 b1 hE hR _ _ _  S hX (hF.drop 1 0)
  ·exact wq (hE _ (pur H).symm _ _ _  S hX hF)
theorem AK:∀(a0:List Int) r,W9 a0=some r->Y5 KZ 56 [.sl (false) (rws cI a0)] (sf cI r):=by
 intro a0 r H ss;unfold W9 at H;refine Td mixed Tryz.func56 rfl (by kernel_rfl) (rs:=[.tmp 2]) rfl (by kernel_rfl) ?_;have hF:=Fx.refl ss;have hX:=Tau.none ss;have hF:=hF.lit 3 1 (rws cI []) rfl
 cases a0 with
 | nil =>
  obtain ⟨rfl,_⟩:=CF H
  try simp only [go_sem,↓reduceIte,Zr,Zt,Zu,Zs,Zv,Zw,Kl]
  refine Qe6 ?_ ?_
  ·try simp only [go_sem,↓reduceIte,Zr,Zt,Zu,Zs,Zv,Zw,Kl]
   exact Qbk (vs:=[.X4]) (by first | (simp only [go_sem,↓reduceIte,Zr,Zt,Zu,Zs,Zv,Zw,Kl];done) | rfl | (simp only [go_sem,↓reduceIte,Zr,Zt,Zu,Zs,Zv,Zw,Kl];rfl)) (Wk.Qp1 .X4 hF.sub)
  ·try simp only [go_sem,↓reduceIte,Zr,Zt,Zu,Zs,Zv,Zw,Kl]
   refine Tv hF 0 (g:=cI) (xs:=[]) (ys:=[]) rfl (by decide) (by decide) (RdL.of (c:=false) (fun _=>rfl) rfl) H fun v1 ss1 hF=>?_
   try simp only [go_sem,↓reduceIte,Zr,Zt,Zu,Zs,Zv,Zw,Kl,hF.cells 0 rfl,hF.len 0 rfl]
   exact Qbk (vs:=[v1]) (by first | (simp only [go_sem,↓reduceIte,Zr,Zt,Zu,Zs,Zv,Zw,Kl,hF.cells 0 rfl,hF.len 0 rfl];done) | rfl | (simp only [go_sem,↓reduceIte,Zr,Zt,Zu,Zs,Zv,Zw,Kl,hF.cells 0 rfl,hF.len 0 rfl];rfl)) (hF.wk 0 rfl)
 | cons x xs =>
  try simp only [go_sem,↓reduceIte,Zr,Zt,Zu,Zs,Zv,Zw,Kl]
  refine Tv hF 0 (g:=cI) (xs:=[]) (ys:=x :: xs) rfl (by decide) (by decide) (RdL.of (c:=false) (fun _=>rfl) (by first | rfl | simp only [Vj,V5,cI,cU,cS,cL])) H fun v1 ss1 hF=>?_
  try simp only [go_sem,↓reduceIte,Zr,Zt,Zu,Zs,Zv,Zw,Kl,hF.cells 0 rfl,hF.len 0 rfl]
  exact Qbk (vs:=[v1]) (by first | (simp only [go_sem,↓reduceIte,Zr,Zt,Zu,Zs,Zv,Zw,Kl,hF.cells 0 rfl,hF.len 0 rfl];done) | rfl | (simp only [go_sem,↓reduceIte,Zr,Zt,Zu,Zs,Zv,Zw,Kl,hF.cells 0 rfl,hF.len 0 rfl];rfl)) (hF.wk 0 rfl)
theorem MM:∀(a0:Fm) r,Hl a0=some r->Y5 KZ 58 [.agg (KY a0)] (.agg (KY r)):=by
 refine Hl.partial_correctness _ (motive_2:=fun a0 x14 X7 DO out=>∀c,Ye Tryz.f58 0=some c->∀(Q:QT) (tt:Sto) (b1 b3 b5:Nat),(∀(YX:List Fm),out=YX->∀(T:TT) (ss:Sto) (e0v0:AV),T 2=.ptr b3 0/\T 3=.ptr b5 0->Fx tt ss [(b5,⟨26,5,[i6 a0.kind,.str a0.name,i6 a0.num,sf cI x14,e0v0]⟩),(b3,⟨26,5,[i6 0,.str zB,i6 0,.X4,.X4]⟩),(b1,⟨26,5,[i6 a0.kind,.str a0.name,i6 a0.num,sf cI a0.sc,sf KY a0.kids]⟩)] [⟨e0v0,26,5,rws KY YX⟩]->Q (.ex 0) ⟨T,ss⟩)->True->∀(T:TT) (ss:Sto) (z0v0:AV),T 2=.ptr b3 0/\T 3=.ptr b5 0/\T 17=sf KY a0.kids/\T 18=i6 (a0.kids.length:Int)/\T 19=i6 DO->Fx tt ss [(b5,⟨26,5,[i6 a0.kind,.str a0.name,i6 a0.num,sf cI x14,z0v0]⟩),(b3,⟨26,5,[i6 0,.str zB,i6 0,.X4,.X4]⟩),(b1,⟨26,5,[i6 a0.kind,.str a0.name,i6 a0.num,sf cI a0.sc,sf KY a0.kids]⟩)] [⟨z0v0,26,5,rws KY X7⟩]->aLp KZ c Q ⟨T,ss⟩) ?_ ?_
 ·intro Jd L0 a0 r H;intro ss;refine hdh mixed Tryz.func58 (rs:=[.cell 2 26]) fun q tT hF hX=>?_;refine go ?_;refine X8 hF rfl fun b1 ss2 hF=>go ?_;refine X8 hF rfl fun b3 ss4 hF=>go ?_;refine Yi E0 [.v,.v,.v,.v,.v,.v,.v,.v,.v,.v,.x,.z] (by kernel_rfl) (go ?_);refine bp H (AK a0.sc) fun x14 h H=>cv h (go ?_);refine J8 hF rfl fun b5 ss6 hF=>go ?_;refine st hF 0 rfl fun s7 hF=>?_;have hF:=hF.nil 26 5;refine go ?_;obtain ⟨o14,ho14,H⟩:=bnd H;refine L0 a0 x14 [] 0 _ ho14 _ rfl _ _ b1 b3 b5 ?_ ?_ _ _ .X4 S hF
  ·intro Jm he T16 s17 e15v0 tT hF;have he:=he.symm;subst he;refine go ?_;refine st hF 1 rfl fun s19 hF=>?_;refine go ?_;cases pur H;exact rt _
  ·trivial
 ·intro Hl Jd C0 L0 a0 x14 X7 DO out H c hc Q tt b1 b3 b5 hE hR T ss z0v0 tT hF;refine lpx tt hc rfl fun q hX=>go ?_;refine cdp H (fun h H=>?_) (fun h H=>go ?_)
  ·obtain ⟨x21,f1,H⟩:=bil (g:=KY) Fm.X6 H;refine go1 ?_;refine X8 hF rfl fun b8 s9 hF=>go ?_;refine st hF 0 rfl fun s10 hF=>?_;refine go ?_;refine Yi E0 [.v,.v,.v,.v,.v,.x,.v,.z] (by kernel_rfl) (go ?_);refine bp H (C0 x21) fun x26 h H=>cv h (go ?_);refine NS (g:=KY) hF 0 H (rdo (c:=true) (g:=KY) Fm.X6) fun x28 H v11 s12 hF=>go ?_;refine st hF 1 (hF.cells 0 rfl) fun s13 hF=>?_;refine go ?_;exact L0 a0 x14 x28 (i64.wrap (DO+1)) _ H _ rfl Q tt b1 b3 b5 hE hR _ _ v11 S (hF.drop 1 0)
  ·exact wq (hE _ (pur H).symm _ _ z0v0 S hF)
theorem ML:∀(a0:Cor) r,Hk a0=some r->Y5 KZ 43 [.agg (K2 a0)] (.agg (K2 r)):=by
 refine Hk.partial_correctness _ (motive_2:=fun a0 x16 x19 X7 DQ out=>∀c,Ye Tryz.f43 0=some c->∀(Q:QT) (tt:Sto) (b1 b3 b5:Nat),(∀(YX:List Cor),out=YX->∀(T:TT) (ss:Sto) (e0v0:AV),T 2=.ptr b3 0/\T 3=.ptr b5 0->Fx tt ss [(b5,⟨29,11,[i6 a0.kind,i6 a0.id,.str a0.name,i6 a0.num,sf cI x16,i6 x19.kind,.str x19.name,i6 x19.num,sf cI x19.sc,sf KY x19.kids,e0v0]⟩),(b3,⟨29,11,[i6 0,i6 0,.str zB,i6 0,.X4,i6 0,.str zB,i6 0,.X4,.X4,.X4]⟩),(b1,⟨29,11,[i6 a0.kind,i6 a0.id,.str a0.name,i6 a0.num,sf cI a0.ids,i6 a0.data.kind,.str a0.data.name,i6 a0.data.num,sf cI a0.data.sc,sf KY a0.data.kids,sf K2 a0.kids]⟩)] [⟨e0v0,29,11,rws K2 YX⟩]->Q (.ex 0) ⟨T,ss⟩)->True->∀(T:TT) (ss:Sto) (z0v0:AV),T 2=.ptr b3 0/\T 3=.ptr b5 0/\T 22=sf K2 a0.kids/\T 23=i6 (a0.kids.length:Int)/\T 24=i6 DQ->Fx tt ss [(b5,⟨29,11,[i6 a0.kind,i6 a0.id,.str a0.name,i6 a0.num,sf cI x16,i6 x19.kind,.str x19.name,i6 x19.num,sf cI x19.sc,sf KY x19.kids,z0v0]⟩),(b3,⟨29,11,[i6 0,i6 0,.str zB,i6 0,.X4,i6 0,.str zB,i6 0,.X4,.X4,.X4]⟩),(b1,⟨29,11,[i6 a0.kind,i6 a0.id,.str a0.name,i6 a0.num,sf cI a0.ids,i6 a0.data.kind,.str a0.data.name,i6 a0.data.num,sf cI a0.data.sc,sf KY a0.data.kids,sf K2 a0.kids]⟩)] [⟨z0v0,29,11,rws K2 X7⟩]->aLp KZ c Q ⟨T,ss⟩) ?_ ?_
 ·intro Jc L0 a0 r H;intro ss;refine hdh mixed Tryz.func43 (rs:=[.cell 2 29]) fun q tT hF hX=>?_;refine go ?_;refine X8 hF rfl fun b1 ss2 hF=>go ?_;refine X8 hF rfl fun b3 ss4 hF=>go ?_;refine Yi E0 [.v,.v,.v,.v,.v,.v,.v,.v,.v,.v,.v,.v,.v,.v,.v,.x,.z] (by kernel_rfl) (go ?_);refine bp H (AK a0.ids) fun x16 h H=>cv h (go ?_);refine bp H (MM a0.data) fun x19 h H=>cv h (go ?_);refine J8 hF rfl fun b5 ss6 hF=>go ?_;refine st hF 0 rfl fun s7 hF=>?_;have hF:=hF.nil 29 11;refine go ?_;obtain ⟨o14,ho14,H⟩:=bnd H;refine L0 a0 x16 x19 [] 0 _ ho14 _ rfl _ _ b1 b3 b5 ?_ ?_ _ _ .X4 S hF
  ·intro Jm he T16 s17 e15v0 tT hF;have he:=he.symm;subst he;refine go ?_;refine st hF 1 rfl fun s19 hF=>?_;refine go ?_;cases pur H;exact rt _
  ·trivial
 ·intro Hk Jc C0 L0 a0 x16 x19 X7 DQ out H c hc Q tt b1 b3 b5 hE hR T ss z0v0 tT hF;refine lpx tt hc rfl fun q hX=>go ?_;refine cdp H (fun h H=>?_) (fun h H=>go ?_)
  ·obtain ⟨x26,f1,H⟩:=bil (g:=K2) Cor.X6 H;refine go1 ?_;refine X8 hF rfl fun b8 s9 hF=>go ?_;refine st hF 0 rfl fun s10 hF=>?_;refine go ?_;refine Yi E0 [.v,.v,.v,.v,.v,.x,.v,.z] (by kernel_rfl) (go ?_);refine bp H (C0 x26) fun x31 h H=>cv h (go ?_);refine NS (g:=K2) hF 0 H (rdo (c:=true) (g:=K2) Cor.X6) fun x33 H v11 s12 hF=>go ?_;refine st hF 1 (hF.cells 0 rfl) fun s13 hF=>?_;refine go ?_;exact L0 a0 x16 x19 x33 (i64.wrap (DQ+1)) _ H _ rfl Q tt b1 b3 b5 hE hR _ _ v11 S (hF.drop 1 0)
  ·exact wq (hE _ (pur H).symm _ _ z0v0 S hF)
theorem LO:∀(a0:Val) r,Wf a0=some r->Y5 KZ 21 [.agg (Zo a0)] (.agg (Zo r)):=by
 refine Wf.partial_correctness _ (motive_2:=fun a0 x16 Jm VV DT out=>∀c,Ye Tryz.f21 1=some c->∀(Q:QT) (tt:Sto) (b1 b3 b5:Nat) (e15v0:AV),(∀(FQ:List Slt),out=FQ->∀(T:TT) (ss:Sto) (e1v1:AV),T 2=.ptr b3 0/\T 3=.ptr b5 0->Fx tt ss [(b5,⟨35,16,[i6 a0.kind,i6 a0.num,.str a0.name,e15v0,i6 x16.kind,i6 x16.id,.str x16.name,i6 x16.num,sf cI x16.ids,i6 x16.data.kind,.str x16.data.name,i6 x16.data.num,sf cI x16.data.sc,sf KY x16.data.kids,sf K2 x16.kids,e1v1]⟩),(b3,⟨35,16,[i6 0,i6 0,.str zB,.X4,i6 0,i6 0,.str zB,i6 0,.X4,i6 0,.str zB,i6 0,.X4,.X4,.X4,.X4]⟩),(b1,⟨35,16,[i6 a0.kind,i6 a0.num,.str a0.name,sf Zo a0.items,i6 a0.fn.kind,i6 a0.fn.id,.str a0.fn.name,i6 a0.fn.num,sf cI a0.fn.ids,i6 a0.fn.data.kind,.str a0.fn.data.name,i6 a0.fn.data.num,sf cI a0.fn.data.sc,sf KY a0.fn.data.kids,sf K2 a0.fn.kids,sf Zq a0.env]⟩)] [⟨e1v1,83,17,rws Zq FQ⟩,⟨e15v0,35,16,rws Zo Jm⟩]->Q (.ex 2) ⟨T,ss⟩)->True->∀(T:TT) (ss:Sto) (z1v1:AV),T 2=.ptr b3 0/\T 3=.ptr b5 0/\T 34=sf Zq a0.env/\T 35=i6 (a0.env.length:Int)/\T 36=i6 DT->Fx tt ss [(b5,⟨35,16,[i6 a0.kind,i6 a0.num,.str a0.name,e15v0,i6 x16.kind,i6 x16.id,.str x16.name,i6 x16.num,sf cI x16.ids,i6 x16.data.kind,.str x16.data.name,i6 x16.data.num,sf cI x16.data.sc,sf KY x16.data.kids,sf K2 x16.kids,z1v1]⟩),(b3,⟨35,16,[i6 0,i6 0,.str zB,.X4,i6 0,i6 0,.str zB,i6 0,.X4,i6 0,.str zB,i6 0,.X4,.X4,.X4,.X4]⟩),(b1,⟨35,16,[i6 a0.kind,i6 a0.num,.str a0.name,sf Zo a0.items,i6 a0.fn.kind,i6 a0.fn.id,.str a0.fn.name,i6 a0.fn.num,sf cI a0.fn.ids,i6 a0.fn.data.kind,.str a0.fn.data.name,i6 a0.fn.data.num,sf cI a0.fn.data.sc,sf KY a0.fn.data.kids,sf K2 a0.fn.kids,sf Zq a0.env]⟩)] [⟨z1v1,83,17,rws Zq VV⟩,⟨e15v0,35,16,rws Zo Jm⟩]->aLp KZ c Q ⟨T,ss⟩) (motive_3:=fun a0 x16 X7 Ip out=>∀c,Ye Tryz.f21 0=some c->∀(Q:QT) (tt:Sto) (b1 b3 b5:Nat),(∀(YX:List Val),out=YX->∀(T:TT) (ss:Sto) (e0v0:AV),T 1=.ptr b1 0/\T 2=.ptr b3 0/\T 3=.ptr b5 0->Fx tt ss [(b5,⟨35,16,[i6 a0.kind,i6 a0.num,.str a0.name,e0v0,i6 x16.kind,i6 x16.id,.str x16.name,i6 x16.num,sf cI x16.ids,i6 x16.data.kind,.str x16.data.name,i6 x16.data.num,sf cI x16.data.sc,sf KY x16.data.kids,sf K2 x16.kids,.X4]⟩),(b3,⟨35,16,[i6 0,i6 0,.str zB,.X4,i6 0,i6 0,.str zB,i6 0,.X4,i6 0,.str zB,i6 0,.X4,.X4,.X4,.X4]⟩),(b1,⟨35,16,[i6 a0.kind,i6 a0.num,.str a0.name,sf Zo a0.items,i6 a0.fn.kind,i6 a0.fn.id,.str a0.fn.name,i6 a0.fn.num,sf cI a0.fn.ids,i6 a0.fn.data.kind,.str a0.fn.data.name,i6 a0.fn.data.num,sf cI a0.fn.data.sc,sf KY a0.fn.data.kids,sf K2 a0.fn.kids,sf Zq a0.env]⟩)] [⟨e0v0,35,16,rws Zo YX⟩]->Q (.ex 0) ⟨T,ss⟩)->True->∀(T:TT) (ss:Sto) (z0v0:AV),T 1=.ptr b1 0/\T 2=.ptr b3 0/\T 3=.ptr b5 0/\T 19=sf Zo a0.items/\T 20=i6 (a0.items.length:Int)/\T 21=i6 Ip->Fx tt ss [(b5,⟨35,16,[i6 a0.kind,i6 a0.num,.str a0.name,z0v0,i6 x16.kind,i6 x16.id,.str x16.name,i6 x16.num,sf cI x16.ids,i6 x16.data.kind,.str x16.data.name,i6 x16.data.num,sf cI x16.data.sc,sf KY x16.data.kids,sf K2 x16.kids,.X4]⟩),(b3,⟨35,16,[i6 0,i6 0,.str zB,.X4,i6 0,i6 0,.str zB,i6 0,.X4,i6 0,.str zB,i6 0,.X4,.X4,.X4,.X4]⟩),(b1,⟨35,16,[i6 a0.kind,i6 a0.num,.str a0.name,sf Zo a0.items,i6 a0.fn.kind,i6 a0.fn.id,.str a0.fn.name,i6 a0.fn.num,sf cI a0.fn.ids,i6 a0.fn.data.kind,.str a0.fn.data.name,i6 a0.fn.data.num,sf cI a0.fn.data.sc,sf KY a0.fn.data.kids,sf K2 a0.fn.kids,sf Zq a0.env]⟩)] [⟨z0v0,35,16,rws Zo X7⟩]->aLp KZ c Q ⟨T,ss⟩) ?_ ?_ ?_
 ·intro Ww Wv L1 L0 a0 r H;intro ss;refine hdh mixed Tryz.func21 (rs:=[.cell 2 35]) fun q tT hF hX=>?_;refine go ?_;refine X8 hF rfl fun b1 ss2 hF=>go ?_;refine X8 hF rfl fun b3 ss4 hF=>go ?_;refine Yi E0 [.v,.v,.v,.v,.v,.v,.v,.v,.v,.v,.x,.z] (by kernel_rfl) (go ?_);refine bp H (ML a0.fn) fun x16 h H=>cv h (go ?_);refine J8 hF rfl fun b5 ss6 hF=>go ?_;refine st hF 0 rfl fun s7 hF=>?_;have hF:=hF.nil 35 16;refine go ?_;obtain ⟨o14,ho14,H⟩:=bnd H;refine L0 a0 x16 [] 0 _ ho14 _ rfl _ _ b1 b3 b5 ?_ ?_ _ _ .X4 S hF
  ·intro Jm he T16 s17 e15v0 tT hF;have he:=he.symm;subst he;have hF:=hF.nil 83 17;refine go ?_;obtain ⟨o25,ho25,H⟩:=bnd H;refine L1 a0 x16 Jm [] 0 _ ho25 _ rfl _ _ b1 b3 b5 e15v0 ?_ ?_ _ _ .X4 S hF
   ·intro Qmi he T27 s28 e26v1 tT hF;have he:=he.symm;subst he;refine go ?_;refine st hF 1 rfl fun s30 hF=>?_;refine go ?_;cases pur H;exact rt _
   ·trivial
  ·trivial
 ·intro Wf Ww C0 L1 a0 x16 Jm VV DT out H c hc Q tt b1 b3 b5 e15v0 hE hR T ss z1v1 tT hF;refine lpx tt hc rfl fun q hX=>go ?_;refine cdp H (fun h H=>?_) (fun h H=>go ?_)
  ·obtain ⟨x38,f1,H⟩:=bil (g:=Zq) Slt.X6 H;refine go1 ?_;refine X8 hF rfl fun b19 s20 hF=>go ?_;refine st hF 0 rfl fun s21 hF=>?_;refine go ?_;refine Yi E0 [.v,.v,.v,.v,.v,.v,.v,.v,.v,.x,.v,.z] (by kernel_rfl) (go ?_);refine bp H (C0 x38.val) fun x46 h H=>cv h (go ?_);refine NS (g:=Zq) hF 0 H (rdo (c:=true) (g:=Zq) Slt.X6) fun x49 H v22 s23 hF=>go ?_;refine st hF 1 (hF.cells 0 rfl) fun s24 hF=>?_;refine go ?_;exact L1 a0 x16 Jm x49 (i64.wrap (DT+1)) _ H _ rfl Q tt b1 b3 b5 e15v0 hE hR _ _ v22 S (hF.drop 1 0)
  ·exact wq (hE _ (pur H).symm _ _ z1v1 S hF)
 ·intro Wf Wv C0 L0 a0 x16 X7 Ip out H c hc Q tt b1 b3 b5 hE hR T ss z0v0 tT hF;refine lpx tt hc rfl fun q hX=>go ?_;refine cdp H (fun h H=>?_) (fun h H=>go ?_)
  ·obtain ⟨x23,f1,H⟩:=bil (g:=Zo) Val.X6 H;refine go1 ?_;refine X8 hF rfl fun b8 s9 hF=>go ?_;refine st hF 0 rfl fun s10 hF=>?_;refine go ?_;refine Yi E0 [.v,.v,.v,.v,.v,.x,.v,.z] (by kernel_rfl) (go ?_);refine bp H (C0 x23) fun x28 h H=>cv h (go ?_);refine NS (g:=Zo) hF 0 H (rdo (c:=true) (g:=Zo) Val.X6) fun x30 H v11 s12 hF=>go ?_;refine st hF 1 (hF.cells 0 rfl) fun s13 hF=>?_;refine go ?_;exact L0 a0 x16 x30 (i64.wrap (Ip+1)) _ H _ rfl Q tt b1 b3 b5 hE hR _ _ v11 S (hF.drop 1 0)
  ·exact wq (hE _ (pur H).symm _ _ z0v0 S hF)
theorem Bn:∀(a0:Cor) (a1:Int) r,H7 a0 a1=some r->Y5 KZ 6 [.agg (K2 a0),i6 a1] (.tup [.agg (Zo r.1),i6 r.2]):=by
 intro a0 a1 r H;intro ss;unfold H7 at H;refine hdh mixed Tryz.func6 (rs:=[.cell 4 35,.tmp 5]) fun q tT hF hX=>?_;refine go ?_;refine X8 hF rfl fun b1 ss2 hF=>go ?_;refine X8 hF rfl fun b3 ss4 hF=>go ?_;refine bp H (IU a0) fun x10 h H=>cl h (go ?_);obtain ⟨x16,g5,H⟩:=bnd H;refine Yb 3 13 16 (.bool x16) (giN q (fun q=>?_) (fun q=>?_)) (fun J=>go ?_)
 ·rw [if_neg (dbf q)] at g5;refine go ?_;obtain ⟨x14,hx14,g5⟩:=bnd g5;refine cl (Hy a1 0 3000 _ hx14) (go ?_);exact Yq 13 g5
 ·rw [if_pos (dbt q)] at g5;refine go ?_;exact Yq 13 g5
 refine cdb H (fun h H=>go ?_) (fun h H=>go ?_)
 ·refine st hF 0 rfl fun s7 hF=>?_;refine go ?_;cases pur H;exact rt _
 ·refine X8 hF rfl fun b8 s9 hF=>go ?_;obtain ⟨x23,hx23,H⟩:=bnd H;refine cx (EN a0 [] (KV a1 0) _ hx23 b8  _ (pre 1 0 0 hF hX)) ?_;rintro _ s10 ⟨t11,rfl,hT,hG⟩;have hF:=Pn 1 0 hF hX hT hG;refine go ?_;refine X8 hF rfl fun b13 s14 hF=>go ?_;refine st hF 0 rfl fun s15 hF=>?_;refine go ?_;refine cdn H (fun h H=>go ?_) (fun h H=>go ?_)
  ·obtain ⟨E,hEq⟩:∃E,E=EE s15 [b3]:=⟨_,rfl⟩
   have n16:¬E b13:=by rw [hEq];exact K5 (hF.at 0 rfl) (nm1 (neL hF 0 2 rfl rfl (by decide)))
   have n17:¬E b8:=by rw [hEq];exact K5 (hF.at 1 rfl) (nm1 (neL hF 1 2 rfl rfl (by decide)))
   have n18:¬E b1:=by rw [hEq];exact K5 (hF.at 3 rfl) (nm1 (neL hF 3 2 rfl rfl (by decide)))
   refine Yi E [.v,.v,.v,.v,.v,.x,.v] (by kernel_rfl) ?_;have z:=K3 (X9 (hF.at 0 rfl) n16) (K3 (X9 (hF.at 1 rfl) n17) (X9 (hF.at 3 rfl) n18));refine gh ?_;refine stK hF 2 (by rw [hEq];exact EE.of (by simp)) rfl fun s19 hF=>?_;have z:=K3 (X9 (hF.at 0 rfl) n16) (K3 (X9 (hF.at 1 rfl) n17) (X9 (hF.at 3 rfl) n18));refine gh ?_;refine go ?_;cases pur H;exact rt [.agg [i6 0,i6 0,.str zB,.X4,i6 0,i6 0,.str zB,i6 0,.X4,i6 0,.str zB,i6 0,.X4,.X4,.X4,.X4],i6 x23.2.code]
  ·refine X8 hF rfl fun b20 s21 hF=>go ?_;refine st hF 0 rfl fun s22 hF=>?_;refine go ?_;obtain ⟨x35,hx35,H⟩:=bnd H;refine cx (Px x23.1 2000 _ hx35 b20  _ (pre 1 0 0 hF hX)) ?_;rintro _ s23 ⟨t24,rfl,hT,hG⟩;have hF:=Pn 1 0 hF hX hT hG;refine go ?_;refine cdb H (fun h H=>go ?_) (fun h H=>go ?_)
   ·refine st hF 3 rfl fun s26 hF=>?_;refine go ?_;cases pur H;exact rt _
   ·refine bp H (LO x23.1) fun x39 h H=>cl h (go ?_);refine st hF 3 rfl fun s27 hF=>?_;refine go ?_;cases pur H;exact rt _
theorem Mp:∀(a0:List Slt) (a1 Yg:Int) out,GO a0 a1 Yg=some out->∀c,Ye Tryz.f46 0=some c->∀(Q:QT) (tt:Sto) (b1:Nat),(∀(_u:Unit),out=Sum.inr ()->∀(T:TT) (ss:Sto),T 4=.ptr b1 0->Fx tt ss [(b1,⟨35,16,[i6 0,i6 0,.str zB,.X4,i6 0,i6 0,.str zB,i6 0,.X4,i6 0,.str zB,i6 0,.X4,.X4,.X4,.X4]⟩)] []->Q (.ex 0) ⟨T,ss⟩)->(∀r,out=Sum.inl r->∀s',I9 KZ [.cell 4 35] (fun r' ss'=>r'=.agg (Zo r)/\ss'=tt) s'->Q .ret s')->∀(T:TT) (ss:Sto),T 0=sf Zq a0/\T 1=i6 a1/\T 4=.ptr b1 0/\T 5=i6 Yg->Fx tt ss [(b1,⟨35,16,[i6 0,i6 0,.str zB,.X4,i6 0,i6 0,.str zB,i6 0,.X4,i6 0,.str zB,i6 0,.X4,.X4,.X4,.X4]⟩)] []->aLp KZ c Q ⟨T,ss⟩:=by
 intro a0 a1 Yg;revert Yg;refine GO.partial_correctness a0 a1 _ ?_;intro GO IH Yg out H c hc Q tt b1 hE hR T ss tT hF;refine lpx tt hc rfl fun q hX=>go ?_;refine cdp H (fun h H=>?_) (fun h H=>go ?_)
 ·obtain ⟨x15,f1,H⟩:=bil (g:=Zq) Slt.X6 H;refine go1 ?_;refine go ?_;refine cdp H (fun h H=>?_) (fun h H=>go ?_)
  ·obtain ⟨x22,f1,H⟩:=bil (g:=Zq) Slt.X6 H;refine go1 ?_;refine st hF 0 rfl fun ss3 hF=>?_;refine go ?_;exact wq (hR _ (pur H).symm _ (rt _))
  ·exact IH  (i64.wrap (Yg - 1)) _ H _ rfl Q tt b1 hE hR _ _  S hF
 ·exact wq (hE () (pur H).symm _ _  S hF)
theorem P6:∀(a0:List Slt) (a1:Int) r,Cc a0 a1=some r->Y5 KZ 46 [sf Zq a0,i6 a1] (.agg (Zo r)):=by
 intro a0 a1 r H;intro ss;unfold Cc at H;refine hdh mixed Tryz.func46 (rs:=[.cell 4 35]) fun q tT hF hX=>?_;refine go ?_;refine X8 hF rfl fun b1 ss2 hF=>go ?_;obtain ⟨o4,ho4,H⟩:=bnd H;refine Mp a0 a1 (i64.wrap ((a0.length:Int) - 1)) _ ho4 _ rfl _ _ b1 ?_ ?_ _ _  S hF
 ·intro _ he T6 s7 tT hF;have he:=he.symm;subst he
  try dsimp only at H
  refine go ?_;refine st hF 0 rfl fun s9 hF=>?_;refine go ?_;cases pur H;exact rt _
 ·intro r hr s' hs;subst hr;cases pur H;exact hsq hs
theorem P3:∀(a0:Fm) r,IS a0=some r->Y5 KZ 47 [.agg (KY a0)] (.agg (Zo r)):=by
 refine IS.partial_correctness _ (motive_2:=fun a0 X7 YI out=>∀c,Ye Tryz.f47 0=some c->∀(Q:QT) (tt:Sto) (b1 b3 b7:Nat),(∀(YX:List Val),out=YX->∀(T:TT) (ss:Sto) (e0v0:AV),T 2=.ptr b3 0/\T 3=.ptr b7 0->Fx tt ss [(b7,⟨35,16,[i6 3,i6 0,.str zB,e0v0,i6 0,i6 0,.str zB,i6 0,.X4,i6 0,.str zB,i6 0,.X4,.X4,.X4,.X4]⟩),(b3,⟨35,16,[i6 0,i6 0,.str zB,.X4,i6 0,i6 0,.str zB,i6 0,.X4,i6 0,.str zB,i6 0,.X4,.X4,.X4,.X4]⟩),(b1,⟨26,5,[i6 a0.kind,.str a0.name,i6 a0.num,sf cI a0.sc,sf KY a0.kids]⟩)] [⟨e0v0,35,16,rws Zo YX⟩]->Q (.ex 1) ⟨T,ss⟩)->True->∀(T:TT) (ss:Sto) (z0v0:AV),T 1=.ptr b1 0/\T 2=.ptr b3 0/\T 3=.ptr b7 0/\T 4=i6 YI->Fx tt ss [(b7,⟨35,16,[i6 3,i6 0,.str zB,z0v0,i6 0,i6 0,.str zB,i6 0,.X4,i6 0,.str zB,i6 0,.X4,.X4,.X4,.X4]⟩),(b3,⟨35,16,[i6 0,i6 0,.str zB,.X4,i6 0,i6 0,.str zB,i6 0,.X4,i6 0,.str zB,i6 0,.X4,.X4,.X4,.X4]⟩),(b1,⟨26,5,[i6 a0.kind,.str a0.name,i6 a0.num,sf cI a0.sc,sf KY a0.kids]⟩)] [⟨z0v0,35,16,rws Zo X7⟩]->aLp KZ c Q ⟨T,ss⟩) ?_ ?_
 ·intro GM L0 a0 r H;intro ss;refine hdh mixed Tryz.func47 (rs:=[.cell 2 35]) fun q tT hF hX=>?_;refine go ?_;refine X8 hF rfl fun b1 ss2 hF=>go ?_;refine X8 hF rfl fun b3 ss4 hF=>go ?_;refine cdp H (fun h H=>go ?_) (fun h H=>go ?_)
  ·refine st hF 0 rfl fun ss5 hF=>?_;refine go ?_;cases pur H;exact rt _
  ·refine cdp H (fun h H=>go ?_) (fun h H=>go ?_)
   ·refine st hF 0 rfl fun ss6 hF=>?_;refine go ?_;cases pur H;exact rt _
   ·refine X8 hF rfl fun b7 s8 hF=>go ?_;refine st hF 0 rfl fun s9 hF=>?_;have hF:=hF.nil 35 16;refine go ?_;obtain ⟨o13,ho13,H⟩:=bnd H;refine L0 a0 [] 0 _ ho13 _ rfl _ _ b1 b3 b7 ?_ ?_ _ _ .X4 S hF
    ·intro Aa he T15 s16 e14v0 tT hF;have he:=he.symm;subst he;refine go ?_;refine st hF 1 rfl fun s18 hF=>?_;refine go ?_;cases pur H;exact rt _
    ·trivial
 ·intro IS GM C0 L0 a0 X7 YI out H c hc Q tt b1 b3 b7 hE hR T ss z0v0 tT hF;refine lpx tt hc rfl fun q hX=>go ?_;refine cdp H (fun h H=>go ?_) (fun h H=>go ?_)
  ·refine Yi E0 [.v,.v,.v,.v,.v,.v,.v,.v,.v,.x,.v,.z] (by kernel_rfl) ?_;obtain ⟨x30,f1,H⟩:=bil (g:=KY) Fm.X6 H;refine go1 ?_;refine bp H (C0 x30) fun x32 h H=>cv h (go ?_);refine NS (g:=Zo) hF 0 H (rdo (c:=true) (g:=Zo) Val.X6) fun x34 H v10 s11 hF=>go ?_;refine st hF 0 (hF.cells 0 rfl) fun s12 hF=>?_;refine go ?_;exact L0 a0 x34 (i64.wrap (YI+1)) _ H _ rfl Q tt b1 b3 b7 hE hR _ _ v10 S hF
  ·exact wq (hE _ (pur H).symm _ _ z0v0 S hF)
theorem OR:∀  r,CB  = some r->Y5 KZ 49 [] (sf cS r):=by
 intro  r H;intro ss;unfold CB at H;refine hdh mixed Tryz.func49 (rs:=[.tmp 0]) fun q tT hF hX=>?_;refine go ?_;cases pur H;exact rt _
theorem Ow:∀(a0:List ByteArray) (a1:ByteArray) (Yg:Int) out,Hm a0 a1 Yg=some out->∀c,Ye Tryz.f48 0=some c->∀(Q:QT) (tt:Sto),(∀(_u:Unit),out=Sum.inr ()->∀(T:TT) (ss:Sto),0+0=0->Fx tt ss [] []->Q (.ex 0) ⟨T,ss⟩)->(∀r,out=Sum.inl r->∀s',I9 KZ [.tmp 4] (fun r' ss'=>r'=.bool r/\ss'=tt) s'->Q .ret s')->∀(T:TT) (ss:Sto),T 0=sf cS a0/\T 1=.str a1/\T 5=i6 Yg->Fx tt ss [] []->aLp KZ c Q ⟨T,ss⟩:=by
 intro a0 a1 Yg;revert Yg;refine Hm.partial_correctness a0 a1 _ ?_;intro Hm IH Yg out H c hc Q tt  hE hR T ss tT hF;refine lpx tt hc rfl fun q hX=>go ?_;refine cdp H (fun h H=>?_) (fun h H=>go ?_)
 ·obtain ⟨x14,f1,H⟩:=bil (g:=cS) (fun _=>rfl) H;refine go1 ?_;refine go ?_;refine cdp H (fun h H=>go ?_) (fun h H=>go ?_)
  ·exact wq (hR _ (pur H).symm _ (rt _))
  ·exact IH  (i64.wrap (Yg+1)) _ H _ rfl Q tt  hE hR _ _  S hF
 ·exact wq (hE () (pur H).symm _ _  S hF)
theorem TP:∀(a0:List ByteArray) (a1:ByteArray) r,El a0 a1=some r->Y5 KZ 48 [sf cS a0,.str a1] (.bool r):=by
 intro a0 a1 r H;intro ss;unfold El at H;refine hdh mixed Tryz.func48 (rs:=[.tmp 4]) fun q tT hF hX=>?_;refine go ?_;obtain ⟨o1,ho1,H⟩:=bnd H;refine Ow a0 a1 0 _ ho1 _ rfl _ _  ?_ ?_ _ _  S hF
 ·intro _ he T3 ss4 tT hF;have he:=he.symm;subst he
  try dsimp only at H
  refine go ?_;cases pur H;exact rt _
 ·intro r hr s' hs;subst hr;cases pur H;exact hsq hs
theorem Ns:∀(a0:List Val) (HH Yg:Int) out,Gk a0 HH Yg=some out->∀c,Ye Tryz.f105 0=some c->∀(Q:QT) (tt:Sto) (b1 b3:Nat),(∀(Qgv:Int),out=Sum.inr Qgv->∀(T:TT) (ss:Sto),T 2=.ptr b1 0/\T 4=.ptr b3 0->Fx tt ss [(b3,⟨35,16,[i6 1,i6 Qgv,.str zB,.X4,i6 0,i6 0,.str zB,i6 0,.X4,i6 0,.str zB,i6 0,.X4,.X4,.X4,.X4]⟩),(b1,⟨35,16,[i6 0,i6 0,.str zB,.X4,i6 0,i6 0,.str zB,i6 0,.X4,i6 0,.str zB,i6 0,.X4,.X4,.X4,.X4]⟩)] []->Q (.ex 0) ⟨T,ss⟩)->(∀r,out=Sum.inl r->∀s',I9 KZ [.cell 2 35,.tmp 3] (fun r' ss'=>r'=.tup [.agg (Zo r.1),i6 r.2]/\ss'=tt) s'->Q .ret s')->∀(T:TT) (ss:Sto),T 0=sf Zo a0/\T 2=.ptr b1 0/\T 4=.ptr b3 0/\T 5=i6 Yg->Fx tt ss [(b3,⟨35,16,[i6 1,i6 HH,.str zB,.X4,i6 0,i6 0,.str zB,i6 0,.X4,i6 0,.str zB,i6 0,.X4,.X4,.X4,.X4]⟩),(b1,⟨35,16,[i6 0,i6 0,.str zB,.X4,i6 0,i6 0,.str zB,i6 0,.X4,i6 0,.str zB,i6 0,.X4,.X4,.X4,.X4]⟩)] []->aLp KZ c Q ⟨T,ss⟩:=by
 intro a0 HH Yg;revert HH Yg;refine Gk.partial_correctness a0 _ ?_;intro Gk IH HH Yg out H c hc Q tt b1 b3 hE hR T ss tT hF;refine lpx tt hc rfl fun q hX=>go ?_;refine cdp H (fun h H=>?_) (fun h H=>go ?_)
 ·obtain ⟨x15,f1,H⟩:=bil (g:=Zo) Val.X6 H;refine go1 ?_;refine go ?_;refine cdn H (fun h H=>go ?_) (fun h H=>go ?_)
  ·refine st hF 1 rfl fun ss6 hF=>?_;refine go ?_;exact wq (hR _ (pur H).symm _ (rt _))
  ·refine Yi E0 [.v,.v,.v,.v,.v,.v,.v,.v,.v,.v,.z] (by kernel_rfl) ?_;obtain ⟨x24,f1,H⟩:=bil (g:=Zo) Val.X6 H;refine go1 ?_;refine st hF 0 rfl fun s7 hF=>?_;refine go ?_;exact IH  ((i64.wrap (HH+x24.num)).tmod 1000) (i64.wrap (Yg+1)) _ H _ rfl Q tt b1 b3 hE hR _ _  S hF
 ·exact wq (hE _ (pur H).symm _ _  S hF)
theorem SH:∀(a0:List Val) r,Dh a0=some r->Y5 KZ 105 [sf Zo a0] (.tup [.agg (Zo r.1),i6 r.2]):=by
 intro a0 r H;intro ss;unfold Dh at H;refine hdh mixed Tryz.func105 (rs:=[.cell 2 35,.tmp 3]) fun q tT hF hX=>?_;refine go ?_;refine X8 hF rfl fun b1 ss2 hF=>go ?_;refine X8 hF rfl fun b3 ss4 hF=>go ?_;refine st hF 0 rfl fun ss5 hF=>?_;refine go ?_;obtain ⟨o8,ho8,H⟩:=bnd H;refine Ns a0 0 0 _ ho8 _ rfl _ _ b1 b3 ?_ ?_ _ _  S hF
 ·intro UK he T10 s11 tT hF;have he:=he.symm;subst he
  try dsimp only at H
  refine go ?_;refine st hF 1 rfl fun s13 hF=>?_;refine go ?_;cases pur H;exact rt _
 ·intro r hr s' hs;subst hr;cases pur H;exact hsq hs
theorem P8:∀(a0:ByteArray) (a1:List Val) r,Cd a0 a1=some r->Y5 KZ 78 [.str a0,sf Zo a1] (.tup [.agg (Zo r.1),i6 r.2]):=by
 intro a0 a1 r H;intro ss;unfold Cd at H;refine hdh mixed Tryz.func78 (rs:=[.cell 4 35,.tmp 5]) fun q tT hF hX=>?_;refine go ?_;refine X8 hF rfl fun b1 ss2 hF=>go ?_;refine cdp H (fun h H=>go ?_) (fun h H=>go ?_)
 ·refine apv (g:=Zo) H Val.X6 (rdo (c:=false) (g:=Zo) Val.X6) fun x12 H=>go ?_;refine st hF 0 rfl fun ss3 hF=>?_;refine go ?_;cases pur H;exact rt _
 ·refine cdp H (fun h H=>go ?_) (fun h H=>go ?_)
  ·refine bp H (SH a1) fun x17 h H=>cl h (go ?_);refine st hF 0 rfl fun ss4 hF=>?_;refine go ?_;cases pur H;exact rt _
  ·obtain ⟨Qis,j6,H⟩:=bnd H;refine V4 (fun s'=>∃(T:TT) (ss1:Sto),s'=⟨T,ss1⟩/\(T 0=.str a0/\T 1=sf Zo a1/\T 4=.ptr b1 0/\T 20=.bool Qis)/\Fx ss ss1 [(b1,⟨35,16,[i6 0,i6 0,.str zB,.X4,i6 0,i6 0,.str zB,i6 0,.X4,i6 0,.str zB,i6 0,.X4,.X4,.X4,.X4]⟩)] []) (cdp j6 (fun h j6=>go ?_) (fun h j6=>go ?_)) ?_
   ·cases pur j6;exact ⟨_,_,rfl,S,hF⟩
   ·cases pur j6;exact ⟨_,_,rfl,S,hF⟩
   ·rintro s' ⟨T7,s8,rfl,tT,hF⟩;refine go ?_;refine cdb H (fun h H=>go ?_) (fun h H=>go ?_)
    ·obtain ⟨x32,g10,H⟩:=bnd H;refine Yb 5 27 32 (.bool x32) (giN q (fun q=>?_) (fun q=>?_)) (fun J=>go ?_)
     ·rw [if_pos (dnf q)] at g10;obtain ⟨x28,f1,g10⟩:=bil (g:=Zo) Val.X6 g10;refine go1 ?_;refine go ?_;exact Yq 27 g10
     ·rw [if_neg (dnt q)] at g10;refine go ?_;exact Yq 27 g10
     obtain ⟨x40,g12,H⟩:=bnd H;refine Yb 6 34 40 (.bool x40) (giN q (fun q=>?_) (fun q=>?_)) (fun J=>go ?_)
     ·rw [if_neg (dbf q)] at g12;obtain ⟨x35,f1,g12⟩:=bil (g:=Zo) Val.X6 g12;refine go1 ?_;refine go ?_;exact Yq 34 g12
     ·rw [if_pos (dbt q)] at g12;refine go ?_;exact Yq 34 g12
     refine cdb H (fun h H=>go ?_) (fun h H=>go ?_)
     ·refine st hF 0 rfl fun s14 hF=>?_;refine go ?_;cases pur H;exact rt _
     ·refine cdp H (fun h H=>?_) (fun h H=>?_)
      ·obtain ⟨x45,f1,H⟩:=bil (g:=Zo) Val.X6 H;obtain ⟨x48,f2,H⟩:=bil (g:=Zo) Val.X6 H;refine go2 ?_;refine st hF 0 rfl fun s15 hF=>?_;refine go ?_;cases pur H;exact rt _
      ·obtain ⟨x51,f1,H⟩:=bil (g:=Zo) Val.X6 H;obtain ⟨x54,f2,H⟩:=bls (g:=Zo) Val.X6 (lo:=some (i6 1)) (hi:=none) rfl rfl H;refine go2 ?_;refine st hF 0 rfl fun s16 hF=>?_;refine go ?_;cases pur H;exact rt _
    ·obtain ⟨x65,g17,H⟩:=bnd H;refine Yb 5 60 65 (.bool x65) (giN q (fun q=>?_) (fun q=>?_)) (fun J=>go ?_)
     ·rw [if_pos (dnf q)] at g17;obtain ⟨x61,f1,g17⟩:=bil (g:=Zo) Val.X6 g17;refine go1 ?_;refine go ?_;exact Yq 60 g17
     ·rw [if_neg (dnt q)] at g17;refine go ?_;exact Yq 60 g17
     obtain ⟨x72,g19,H⟩:=bnd H;refine Yb 5 67 72 (.bool x72) (giN q (fun q=>?_) (fun q=>?_)) (fun J=>go ?_)
     ·rw [if_neg (dbf q)] at g19;obtain ⟨x68,f1,g19⟩:=bil (g:=Zo) Val.X6 g19;refine go1 ?_;refine go ?_;exact Yq 67 g19
     ·rw [if_pos (dbt q)] at g19;refine go ?_;exact Yq 67 g19
     refine cdb H (fun h H=>go ?_) (fun h H=>go ?_)
     ·refine st hF 0 rfl fun s21 hF=>?_;refine go ?_;cases pur H;exact rt _
     ·refine X8 hF rfl fun b22 s23 hF=>go ?_;refine st hF 0 rfl fun s24 hF=>?_;refine go ?_;refine Yi E0 [.v,.v,.v,.v,.v,.v,.v,.v,.v,.v,.v,.v,.v,.v,.v,.v,.v,.v,.v,.v,.v,.v,.v,.v,.v,.v,.v,.v] (by kernel_rfl) (go ?_);obtain ⟨x87,g25,H⟩:=bnd H;refine V3 9 78 87 (.bool x87) (ti q (fun q=>?_) (fun q=>?_)) (fun J=>go ?_)
      ·rw [if_pos (dt q)] at g25;obtain ⟨x79,f1,g25⟩:=bil (g:=Zo) Val.X6 g25;obtain ⟨x83,f2,g25⟩:=bil (g:=Zo) Val.X6 g25;refine go2 ?_;refine go ?_;exact Yq 78 g25
      ·rw [if_neg (df q)] at g25;refine go ?_;exact Yq 78 g25
      obtain ⟨x102,g27,H⟩:=bnd H;refine V3 13 89 102 (.bool x102) (tiN q (fun q=>?_) (fun q=>?_)) (fun J=>go ?_)
      ·rw [if_neg (dbf q)] at g27;refine go ?_;obtain ⟨x101,g29,g27⟩:=bnd g27;refine V3 9 92 101 (.bool x101) (ti q (fun q=>?_) (fun q=>?_)) (fun J=>go ?_)
       ·rw [if_pos (dt q)] at g29;obtain ⟨x93,f1,g29⟩:=bil (g:=Zo) Val.X6 g29;obtain ⟨x97,f2,g29⟩:=bil (g:=Zo) Val.X6 g29;refine go2 ?_;refine go ?_;exact Yq 92 g29
       ·rw [if_neg (df q)] at g29;refine go ?_;exact Yq 92 g29
       exact Yq 89 g27
      ·rw [if_pos (dbt q)] at g27;refine go ?_;exact Yq 89 g27
      refine cdb H (fun h H=>go ?_) (fun h H=>go ?_)
      ·refine st hF 0 rfl fun s31 hF=>?_;refine go ?_;refine st hF 1 rfl fun s32 hF=>?_;refine go ?_;cases pur H;exact rt _
      ·refine st hF 1 rfl fun s33 hF=>?_;refine go ?_;cases pur H;exact rt _
theorem Mo:∀(a0:Val) (a1:List Val) (a2:Int) (X7:List Slt) (Vr:Int) out,WR a0 a1 a2 X7 Vr=some out->∀c,Ye Tryz.f50 0=some c->∀(Q:QT) (tt:Sto) (b1 b3:Nat),(∀(YX:List Slt),out=YX->∀(T:TT) (ss:Sto) (e0v0:AV),T 2=i6 a2/\T 3=.ptr b1 0/\T 6=.ptr b3 0/\T 11=e0v0->Fx tt ss [(b3,⟨35,16,[i6 0,i6 0,.str zB,.X4,i6 0,i6 0,.str zB,i6 0,.X4,i6 0,.str zB,i6 0,.X4,.X4,.X4,.X4]⟩),(b1,⟨35,16,[i6 a0.kind,i6 a0.num,.str a0.name,sf Zo a0.items,i6 a0.fn.kind,i6 a0.fn.id,.str a0.fn.name,i6 a0.fn.num,sf cI a0.fn.ids,i6 a0.fn.data.kind,.str a0.fn.data.name,i6 a0.fn.data.num,sf cI a0.fn.data.sc,sf KY a0.fn.data.kids,sf K2 a0.fn.kids,sf Zq a0.env]⟩)] [⟨e0v0,83,17,rws Zq YX⟩]->Q (.ex 0) ⟨T,ss⟩)->True->∀(T:TT) (ss:Sto) (z0v0:AV),T 1=sf Zo a1/\T 2=i6 a2/\T 3=.ptr b1 0/\T 6=.ptr b3 0/\T 11=z0v0/\T 12=i6 Vr->Fx tt ss [(b3,⟨35,16,[i6 0,i6 0,.str zB,.X4,i6 0,i6 0,.str zB,i6 0,.X4,i6 0,.str zB,i6 0,.X4,.X4,.X4,.X4]⟩),(b1,⟨35,16,[i6 a0.kind,i6 a0.num,.str a0.name,sf Zo a0.items,i6 a0.fn.kind,i6 a0.fn.id,.str a0.fn.name,i6 a0.fn.num,sf cI a0.fn.ids,i6 a0.fn.data.kind,.str a0.fn.data.name,i6 a0.fn.data.num,sf cI a0.fn.data.sc,sf KY a0.fn.data.kids,sf K2 a0.fn.kids,sf Zq a0.env]⟩)] [⟨z0v0,83,17,rws Zq X7⟩]->aLp KZ c Q ⟨T,ss⟩:=by
 intro a0 a1 a2 X7 Vr;revert X7 Vr;refine WR.partial_correctness a0 a1 a2 _ ?_;intro WR IH X7 Vr out H c hc Q tt b1 b3 hE hR T ss z0v0 tT hF;refine lpx tt hc rfl fun q hX=>go ?_;refine cdp H (fun h H=>go ?_) (fun h H=>go ?_)
 ·refine Yi E0 [.v,.v,.v,.v,.v,.v,.v,.v,.v,.v,.v,.v,.v,.x,.v] (by kernel_rfl) ?_;obtain ⟨x55,f1,H⟩:=bil (g:=cI) (fun _=>rfl) H;obtain ⟨x59,f2,H⟩:=bil (g:=Zo) Val.X6 H;refine go2 ?_;refine NS (g:=Zq) hF 0 H (rdo (c:=true) (g:=Zq) Slt.X6) fun x63 H v13 s14 hF=>go ?_;exact IH  x63 (i64.wrap (Vr+1)) _ H _ rfl Q tt b1 b3 hE hR _ _ v13 S hF
 ·exact wq (hE _ (pur H).symm _ _ z0v0 S hF)
theorem OP:(∀(a0:Cor) (a1:List Slt) (a2:Int) r,VS a0 a1 a2=some r->Y5 KZ 23 [.agg (K2 a0),sf Zq a1,i6 a2] (.tup [.agg (Zo r.1),i6 r.2.1,i6 r.2.2]))/\(∀(a0:Val) (a1:List Val) (a2:Int) r,DD a0 a1 a2=some r->Y5 KZ 50 [.agg (Zo a0),sf Zo a1,i6 a2] (.tup [.agg (Zo r.1),i6 r.2.1,i6 r.2.2])):=by
 have h:=VS.mutual_partial_correctness  (motive_1:=fun a0 a1 a2 r=>Y5 KZ 23 [.agg (K2 a0),sf Zq a1,i6 a2] (.tup [.agg (Zo r.1),i6 r.2.1,i6 r.2.2])) (motive_2:=fun a0 a1 a2 r=>Y5 KZ 50 [.agg (Zo a0),sf Zo a1,i6 a2] (.tup [.agg (Zo r.1),i6 r.2.1,i6 r.2.2])) (motive_3:=fun a0 a1 X7 VU D3 out=>∀c,Ye Tryz.f23 0=some c->∀(Q:QT) (tt:Sto) (b1 b3:Nat),(∀(YX:List Val) (Qq0:Int),out=Sum.inr (YX,Qq0)->∀(T:TT) (ss:Sto) (e0v0:AV),T 2=i6 Qq0/\T 6=.ptr b3 0/\T 12=e0v0->Fx tt ss [(b3,⟨35,16,[i6 0,i6 0,.str zB,.X4,i6 0,i6 0,.str zB,i6 0,.X4,i6 0,.str zB,i6 0,.X4,.X4,.X4,.X4]⟩),(b1,⟨29,11,[i6 a0.kind,i6 a0.id,.str a0.name,i6 a0.num,sf cI a0.ids,i6 a0.data.kind,.str a0.data.name,i6 a0.data.num,sf cI a0.data.sc,sf KY a0.data.kids,sf K2 a0.kids]⟩)] [⟨e0v0,35,16,rws Zo YX⟩]->Q (.ex 1) ⟨T,ss⟩)->(∀r,out=Sum.inl r->∀s',I9 KZ [.cell 6 35,.tmp 7,.tmp 8] (fun r' ss'=>r'=.tup [.agg (Zo r.1),i6 r.2.1,i6 r.2.2]/\ss'=tt) s'->Q .ret s')->∀(T:TT) (ss:Sto) (z0v0:AV),T 1=sf Zq a1/\T 2=i6 D3/\T 3=.ptr b1 0/\T 6=.ptr b3 0/\T 12=z0v0/\T 13=i6 VU->Fx tt ss [(b3,⟨35,16,[i6 0,i6 0,.str zB,.X4,i6 0,i6 0,.str zB,i6 0,.X4,i6 0,.str zB,i6 0,.X4,.X4,.X4,.X4]⟩),(b1,⟨29,11,[i6 a0.kind,i6 a0.id,.str a0.name,i6 a0.num,sf cI a0.ids,i6 a0.data.kind,.str a0.data.name,i6 a0.data.num,sf cI a0.data.sc,sf KY a0.data.kids,sf K2 a0.kids]⟩)] [⟨z0v0,35,16,rws Zo X7⟩]->aLp KZ c Q ⟨T,ss⟩) ?s0 ?s1 ?s2
 ·exact ⟨h.1,h.2.1⟩
 ·intro VS DD GN C0 C1 L0 a0 a1 a2 r H;intro ss;refine hdh mixed Tryz.func23 (rs:=[.cell 6 35,.tmp 7,.tmp 8]) fun q tT hF hX=>?_;refine go ?_;refine X8 hF rfl fun b1 ss2 hF=>go ?_;refine X8 hF rfl fun b3 ss4 hF=>go ?_;refine cdp H (fun h H=>go ?_) (fun h H=>go ?_)
  ·refine st hF 0 rfl fun ss5 hF=>?_;refine go ?_;cases pur H;exact rt _
  ·refine cdp H (fun h H=>go ?_) (fun h H=>go ?_)
   ·refine bp H (P6 a1 a0.id) fun x29 h H=>cl h (go ?_);refine st hF 0 rfl fun ss6 hF=>?_;refine go ?_;cases pur H;exact rt _
   ·refine cdp H (fun h H=>go ?_) (fun h H=>go ?_)
    ·refine st hF 0 rfl fun s7 hF=>?_;refine go ?_;cases pur H;exact rt _
    ·refine cdp H (fun h H=>go ?_) (fun h H=>go ?_)
     ·refine bp H (P3 a0.data) fun x41 h H=>cl h (go ?_);refine st hF 0 rfl fun s8 hF=>?_;refine go ?_;cases pur H;exact rt _
     ·refine cdp H (fun h H=>go ?_) (fun h H=>go ?_)
      ·refine st hF 0 rfl fun s9 hF=>?_;refine go ?_;cases pur H;exact rt _
      ·refine cdp H (fun h H=>go ?_) (fun h H=>go ?_)
       ·refine Yi E0 [.v,.v,.v,.v] (by kernel_rfl) (go ?_);refine bp H (OR ) fun x51 h H=>cv h (go ?_);refine bp H (TP x51 a0.name) fun x54 h H=>cv h (go ?_);refine cdb H (fun h H=>go ?_) (fun h H=>go ?_)
        ·refine st hF 0 rfl fun s10 hF=>?_;refine go ?_;cases pur H;exact rt _
        ·refine st hF 0 rfl fun s11 hF=>?_;refine go ?_;cases pur H;exact rt _
       ·refine cdp H (fun h H=>?_) (fun h H=>?_)
        ·obtain ⟨x66,f1,H⟩:=bil (g:=K2) Cor.X6 H;refine go1 ?_;obtain ⟨x70,hx70,H⟩:=bnd H;refine cl (C0 x66 a1 (i64.wrap (a2 - 1)) _ hx70) (go ?_);refine X8 hF rfl fun b12 s13 hF=>go ?_;refine st hF 0 rfl fun s14 hF=>?_;refine go ?_;refine cdn H (fun h H=>go ?_) (fun h H=>go ?_)
         ·refine st hF 1 rfl fun s15 hF=>?_;refine go ?_;cases pur H;exact rt _
         ·obtain ⟨x86,g16,H⟩:=bnd H;refine Yb 3 83 86 (.bool x86) (gi q (fun q=>go ?_) (fun q=>go ?_)) (fun J=>go ?_)
          ·exact Yq 83 g16
          ·exact Yq 83 g16
          refine cdb H (fun h H=>?_) (fun h H=>?_)
          ·obtain ⟨x89,f1,H⟩:=bil (g:=K2) Cor.X6 H;refine go1 ?_;refine bp H (C0 x89 a1 x70.2.2) fun x93 h H=>cl h (go ?_);refine st hF 1 rfl fun s18 hF=>?_;refine go ?_;cases pur H;exact rt _
          ·obtain ⟨x99,f1,H⟩:=bil (g:=K2) Cor.X6 H;refine go1 ?_;refine bp H (C0 x99 a1 x70.2.2) fun x103 h H=>cl h (go ?_);refine st hF 1 rfl fun s19 hF=>?_;refine go ?_;cases pur H;exact rt _
        ·have hF:=hF.lit 35 16 (rws Zo []) rfl;refine go ?_;obtain ⟨o26,ho26,H⟩:=bnd H;refine L0 a0 a1 [] 0 (i64.wrap (a2 - 1)) _ ho26 _ rfl _ _ b1 b3 ?_ ?_ _ _ (.sl true (rws Zo [])) S hF
         ·intro Qa5 Qg3 he T28 s29 e27v0 tT hF;have he:=he.symm;subst he
          try dsimp only at H
          refine go ?_;obtain ⟨s31,hF,hw32,hb33,hz34⟩:=frz hF 0;refine Qa0 12 (by simp [upd,tT]) hw32 hb33 (go ?_);obtain ⟨E,hEq⟩:∃E,E=EE s31 [b3]:=⟨_,rfl⟩
          have n35:¬E b1:=by rw [hEq];exact K5 (hF.at 1 rfl) (nm1 (neL hF 1 0 rfl rfl (by decide)))
          refine Yi E [.v,.v,.v,.v,.v,.v,.v,.v,.v,.v,.x,.v,.v] (by kernel_rfl) ?_;obtain ⟨x138,f1,H⟩:=bil (g:=Zo) Val.X6 H;obtain ⟨x141,f2,H⟩:=bls (g:=Zo) Val.X6 (lo:=some (i6 1)) (hi:=none) rfl rfl H;have z:=X9 (hF.at 1 rfl) n35;refine gh2 ?_;refine bp H (C1 x138 x141 Qg3) fun x143 h H=>cv h ?_;have z:=X9 (hF.at 1 rfl) n35;refine gh ?_;refine stK hF 0 (by rw [hEq];exact EE.of (by simp)) rfl fun s36 hF=>?_;have z:=X9 (hF.at 1 rfl) n35;refine gh ?_;refine go ?_;cases pur H;exact rt [.agg [i6 x143.1.kind,i6 x143.1.num,.str x143.1.name,sf Zo x143.1.items,i6 x143.1.fn.kind,i6 x143.1.fn.id,.str x143.1.fn.name,i6 x143.1.fn.num,sf cI x143.1.fn.ids,i6 x143.1.fn.data.kind,.str x143.1.fn.data.name,i6 x143.1.fn.data.num,sf cI x143.1.fn.data.sc,sf KY x143.1.fn.data.kids,sf K2 x143.1.fn.kids,sf Zq x143.1.env],i6 x143.2.1,i6 x143.2.2]
         ·intro r hr s' hs;subst hr;cases pur H;exact hsq hs
 ·intro VS C0 a0 a1 a2 r H;intro ss;refine hdh mixed Tryz.func50 (rs:=[.cell 6 35,.tmp 7,.tmp 8]) fun q tT hF hX=>?_;refine go ?_;refine X8 hF rfl fun b1 ss2 hF=>go ?_;refine X8 hF rfl fun b3 ss4 hF=>go ?_;refine cdp H (fun h H=>go ?_) (fun h H=>go ?_)
  ·refine bp H (P8 a0.name a1) fun x20 h H=>cl h (go ?_);refine X8 hF rfl fun b5 ss6 hF=>go ?_;refine st hF 0 rfl fun s7 hF=>?_;refine go ?_;refine st hF 1 rfl fun s8 hF=>?_;refine go ?_;cases pur H;exact rt _
  ·refine cdn H (fun h H=>go ?_) (fun h H=>go ?_)
   ·refine st hF 0 rfl fun s9 hF=>?_;refine go ?_;cases pur H;exact rt _
   ·refine cdn H (fun h H=>go ?_) (fun h H=>go ?_)
    ·refine st hF 0 rfl fun s10 hF=>?_;refine go ?_;cases pur H;exact rt _
    ·have hF:=hF.lit 83 17 (rws Zq []) rfl;refine apd (g:=Zq) hF 0 H (rdo (c:=false) (g:=Zq) Slt.X6) fun x43 H v11 s12 hF=>go ?_;obtain ⟨o15,ho15,H⟩:=bnd H;refine Mo a0 a1 a2 x43 0 _ ho15 _ rfl _ _ b1 b3 ?_ ?_ _ _ v11 S hF
     ·intro Qg1 he T17 s18 e16v0 tT hF;have he:=he.symm;subst he;obtain ⟨x67,f1,H⟩:=bil (g:=K2) Cor.X6 H;refine go1 ?_;obtain ⟨x71,hx71,H⟩:=bnd H;obtain ⟨s20,hF,hw21,hb22,hz23⟩:=frz hF 0;refine FG (C0 x67 Qg1 a2 _ hx71 _) (by (try simp only [sf,i6,zB,Cor.Ya,Fm.Ya]);exact (.cons (Zp hb22 _) id (.cons hw21 (fun _=>rfl) (.cons (Zp hb22 _) id .nil)))) hb22 ?_;rintro _ _ ⟨rfl,rfl⟩;refine go ?_;refine st hF 0 rfl fun s24 hF=>?_;refine go ?_;cases pur H;exact rt _
     ·trivial
 ·intro VS GN C0 L0 a0 a1 X7 VU D3 out H c hc Q tt b1 b3 hE hR T ss z0v0 tT hF;refine lpx tt hc rfl fun q hX=>go ?_;refine cdp H (fun h H=>?_) (fun h H=>go ?_)
  ·obtain ⟨x119,f1,H⟩:=bil (g:=K2) Cor.X6 H;refine go1 ?_;refine bp H (C0 x119 a1 D3) fun x123 h H=>cl h (go ?_);refine X8 hF rfl fun b20 s21 hF=>go ?_;refine st hF 0 rfl fun s22 hF=>?_;refine go ?_;refine cdn H (fun h H=>go ?_) (fun h H=>go ?_)
   ·refine st hF 1 rfl fun s23 hF=>?_;refine go ?_;exact wq (hR _ (pur H).symm _ (rt _))
   ·refine apd (g:=Zo) hF 0 H (rdo (c:=true) (g:=Zo) Val.X6) fun x136 H v24 s25 hF=>go ?_;exact L0 a0 a1 x136 (i64.wrap (VU+1)) x123.2.2 _ H _ rfl Q tt b1 b3 hE hR _ _ v24 S (hF.drop 1 0)
  ·exact wq (hE _ _ (pur H).symm _ _ z0v0 S hF)
theorem P5:∀(a0:Cor) (a1:List Slt) (a2:Int) r,VS a0 a1 a2=some r->Y5 KZ 23 [.agg (K2 a0),sf Zq a1,i6 a2] (.tup [.agg (Zo r.1),i6 r.2.1,i6 r.2.2]):=OP.1
theorem P9:∀(a0:Val) (a1:Int) r,Ij a0 a1=some r->Y5 KZ 24 [.agg (Zo a0),i6 a1] (i6 r):=by
 refine Ij.partial_correctness _ (motive_2:=fun a0 a1 Cp Qao out=>∀c,Ye Tryz.f24 1=some c->∀(Q:QT) (tt:Sto) (b1:Nat),(∀(Qq4:Int),out=Qq4->∀(T:TT) (ss:Sto),T 5=i6 Qq4->Fx tt ss [(b1,⟨35,16,[i6 a0.kind,i6 a0.num,.str a0.name,sf Zo a0.items,i6 a0.fn.kind,i6 a0.fn.id,.str a0.fn.name,i6 a0.fn.num,sf cI a0.fn.ids,i6 a0.fn.data.kind,.str a0.fn.data.name,i6 a0.fn.data.num,sf cI a0.fn.data.sc,sf KY a0.fn.data.kids,sf K2 a0.fn.kids,sf Zq a0.env]⟩)] []->Q (.ex 2) ⟨T,ss⟩)->True->∀(T:TT) (ss:Sto),T 1=i6 a1/\T 2=.ptr b1 0/\T 5=i6 Cp/\T 7=i6 Qao->Fx tt ss [(b1,⟨35,16,[i6 a0.kind,i6 a0.num,.str a0.name,sf Zo a0.items,i6 a0.fn.kind,i6 a0.fn.id,.str a0.fn.name,i6 a0.fn.num,sf cI a0.fn.ids,i6 a0.fn.data.kind,.str a0.fn.data.name,i6 a0.fn.data.num,sf cI a0.fn.data.sc,sf KY a0.fn.data.kids,sf K2 a0.fn.kids,sf Zq a0.env]⟩)] []->aLp KZ c Q ⟨T,ss⟩) (motive_3:=fun a0 a1 Yg Yx out=>∀c,Ye Tryz.f24 0=some c->∀(Q:QT) (tt:Sto) (b1:Nat),(∀(Tl:Int),out=Tl->∀(T:TT) (ss:Sto),T 1=i6 a1/\T 2=.ptr b1 0/\T 5=i6 Tl->Fx tt ss [(b1,⟨35,16,[i6 a0.kind,i6 a0.num,.str a0.name,sf Zo a0.items,i6 a0.fn.kind,i6 a0.fn.id,.str a0.fn.name,i6 a0.fn.num,sf cI a0.fn.ids,i6 a0.fn.data.kind,.str a0.fn.data.name,i6 a0.fn.data.num,sf cI a0.fn.data.sc,sf KY a0.fn.data.kids,sf K2 a0.fn.kids,sf Zq a0.env]⟩)] []->Q (.ex 0) ⟨T,ss⟩)->True->∀(T:TT) (ss:Sto),T 1=i6 a1/\T 2=.ptr b1 0/\T 5=i6 Yg/\T 6=i6 Yx->Fx tt ss [(b1,⟨35,16,[i6 a0.kind,i6 a0.num,.str a0.name,sf Zo a0.items,i6 a0.fn.kind,i6 a0.fn.id,.str a0.fn.name,i6 a0.fn.num,sf cI a0.fn.ids,i6 a0.fn.data.kind,.str a0.fn.data.name,i6 a0.fn.data.num,sf cI a0.fn.data.sc,sf KY a0.fn.data.kids,sf K2 a0.fn.kids,sf Zq a0.env]⟩)] []->aLp KZ c Q ⟨T,ss⟩) ?_ ?_ ?_
 ·intro HF HE L1 L0 a0 a1 r H;intro ss;refine hdh mixed Tryz.func24 (rs:=[.tmp 4]) fun q tT hF hX=>?_;refine go ?_;refine X8 hF rfl fun b1 ss2 hF=>go ?_;obtain ⟨o5,ho5,H⟩:=bnd H;refine L0 a0 a1 1 0 _ ho5 _ rfl _ _ b1 ?_ ?_ _ _  S hF
  ·intro Qn3 he T7 s8 tT hF;have he:=he.symm;subst he;refine go ?_;obtain ⟨o12,ho12,H⟩:=bnd H;refine L1 a0 a1 Qn3 0 _ ho12 _ rfl _ _ b1 ?_ ?_ _ _  S hF
   ·intro Qgz he T14 s15 tT hF;have he:=he.symm;subst he;refine go ?_;cases pur H;exact rt _
   ·trivial
  ·trivial
 ·intro Ij HF C0 L1 a0 a1 Cp Qao out H c hc Q tt b1 hE hR T ss tT hF;refine lpx tt hc rfl fun q hX=>go ?_;obtain ⟨x40,g10,H⟩:=bnd H;refine Yb 3 37 40 (.bool x40) (gi q (fun q=>go ?_) (fun q=>go ?_)) (fun J=>go ?_)
  ·exact Yq 37 g10
  ·exact Yq 37 g10
  refine cdb H (fun h H=>?_) (fun h H=>go ?_)
  ·obtain ⟨x47,f1,H⟩:=bil (g:=Zq) Slt.X6 H;refine go1 ?_;obtain ⟨x53,hx53,H⟩:=bnd H;refine cl (C0 x47.val (i64.wrap (a1 - Cp)) _ hx53) (go ?_);exact L1 a0 a1 (i64.wrap (Cp+x53)) (i64.wrap (Qao+1)) _ H _ rfl Q tt b1 hE hR _ _  S hF
  ·exact wq (hE _ (pur H).symm _ _  S hF)
 ·intro Ij HE C0 L0 a0 a1 Yg Yx out H c hc Q tt b1 hE hR T ss tT hF;refine lpx tt hc rfl fun q hX=>go ?_;obtain ⟨x17,g3,H⟩:=bnd H;refine Yb 3 14 17 (.bool x17) (gi q (fun q=>go ?_) (fun q=>go ?_)) (fun J=>go ?_)
  ·exact Yq 14 g3
  ·exact Yq 14 g3
  refine cdb H (fun h H=>?_) (fun h H=>go ?_)
  ·obtain ⟨x24,f1,H⟩:=bil (g:=Zo) Val.X6 H;refine go1 ?_;obtain ⟨x29,hx29,H⟩:=bnd H;refine cl (C0 x24 (i64.wrap (a1 - Yg)) _ hx29) (go ?_);exact L0 a0 a1 (i64.wrap (Yg+x29)) (i64.wrap (Yx+1)) _ H _ rfl Q tt b1 hE hR _ _  S hF
  ·exact wq (hE _ (pur H).symm _ _  S hF)
theorem P2:∀(a0:Val) r,G7 a0=some r->Y5 KZ 25 [.agg (Zo a0)] (.agg (Zo r)):=by
 refine G7.partial_correctness _ (motive_2:=fun a0 x14 HJ VV Cp out=>∀c,Ye Tryz.f25 1=some c->∀(Q:QT) (tt:Sto) (b1 b3 b5:Nat) (e12v0:AV),(∀(FQ:List Slt),out=FQ->∀(T:TT) (ss:Sto) (e1v1:AV),T 2=.ptr b3 0/\T 3=.ptr b5 0->Fx tt ss [(b5,⟨35,16,[i6 a0.kind,i6 a0.num,.str a0.name,e12v0,i6 x14.kind,i6 x14.id,.str x14.name,i6 x14.num,sf cI x14.ids,i6 x14.data.kind,.str x14.data.name,i6 x14.data.num,sf cI x14.data.sc,sf KY x14.data.kids,sf K2 x14.kids,e1v1]⟩),(b3,⟨35,16,[i6 0,i6 0,.str zB,.X4,i6 0,i6 0,.str zB,i6 0,.X4,i6 0,.str zB,i6 0,.X4,.X4,.X4,.X4]⟩),(b1,⟨35,16,[i6 a0.kind,i6 a0.num,.str a0.name,sf Zo a0.items,i6 a0.fn.kind,i6 a0.fn.id,.str a0.fn.name,i6 a0.fn.num,sf cI a0.fn.ids,i6 a0.fn.data.kind,.str a0.fn.data.name,i6 a0.fn.data.num,sf cI a0.fn.data.sc,sf KY a0.fn.data.kids,sf K2 a0.fn.kids,sf Zq a0.env]⟩)] [⟨e1v1,83,17,rws Zq FQ⟩,⟨e12v0,35,16,rws Zo HJ⟩]->Q (.ex 2) ⟨T,ss⟩)->True->∀(T:TT) (ss:Sto) (z1v1:AV),T 1=.ptr b1 0/\T 2=.ptr b3 0/\T 3=.ptr b5 0/\T 5=i6 Cp->Fx tt ss [(b5,⟨35,16,[i6 a0.kind,i6 a0.num,.str a0.name,e12v0,i6 x14.kind,i6 x14.id,.str x14.name,i6 x14.num,sf cI x14.ids,i6 x14.data.kind,.str x14.data.name,i6 x14.data.num,sf cI x14.data.sc,sf KY x14.data.kids,sf K2 x14.kids,z1v1]⟩),(b3,⟨35,16,[i6 0,i6 0,.str zB,.X4,i6 0,i6 0,.str zB,i6 0,.X4,i6 0,.str zB,i6 0,.X4,.X4,.X4,.X4]⟩),(b1,⟨35,16,[i6 a0.kind,i6 a0.num,.str a0.name,sf Zo a0.items,i6 a0.fn.kind,i6 a0.fn.id,.str a0.fn.name,i6 a0.fn.num,sf cI a0.fn.ids,i6 a0.fn.data.kind,.str a0.fn.data.name,i6 a0.fn.data.num,sf cI a0.fn.data.sc,sf KY a0.fn.data.kids,sf K2 a0.fn.kids,sf Zq a0.env]⟩)] [⟨z1v1,83,17,rws Zq VV⟩,⟨e12v0,35,16,rws Zo HJ⟩]->aLp KZ c Q ⟨T,ss⟩) (motive_3:=fun a0 x14 X7 YI out=>∀c,Ye Tryz.f25 0=some c->∀(Q:QT) (tt:Sto) (b1 b3 b5:Nat),(∀(YX:List Val),out=YX->∀(T:TT) (ss:Sto) (e0v0:AV),T 1=.ptr b1 0/\T 2=.ptr b3 0/\T 3=.ptr b5 0->Fx tt ss [(b5,⟨35,16,[i6 a0.kind,i6 a0.num,.str a0.name,e0v0,i6 x14.kind,i6 x14.id,.str x14.name,i6 x14.num,sf cI x14.ids,i6 x14.data.kind,.str x14.data.name,i6 x14.data.num,sf cI x14.data.sc,sf KY x14.data.kids,sf K2 x14.kids,.X4]⟩),(b3,⟨35,16,[i6 0,i6 0,.str zB,.X4,i6 0,i6 0,.str zB,i6 0,.X4,i6 0,.str zB,i6 0,.X4,.X4,.X4,.X4]⟩),(b1,⟨35,16,[i6 a0.kind,i6 a0.num,.str a0.name,sf Zo a0.items,i6 a0.fn.kind,i6 a0.fn.id,.str a0.fn.name,i6 a0.fn.num,sf cI a0.fn.ids,i6 a0.fn.data.kind,.str a0.fn.data.name,i6 a0.fn.data.num,sf cI a0.fn.data.sc,sf KY a0.fn.data.kids,sf K2 a0.fn.kids,sf Zq a0.env]⟩)] [⟨e0v0,35,16,rws Zo YX⟩]->Q (.ex 0) ⟨T,ss⟩)->True->∀(T:TT) (ss:Sto) (z0v0:AV),T 1=.ptr b1 0/\T 2=.ptr b3 0/\T 3=.ptr b5 0/\T 4=i6 YI->Fx tt ss [(b5,⟨35,16,[i6 a0.kind,i6 a0.num,.str a0.name,z0v0,i6 x14.kind,i6 x14.id,.str x14.name,i6 x14.num,sf cI x14.ids,i6 x14.data.kind,.str x14.data.name,i6 x14.data.num,sf cI x14.data.sc,sf KY x14.data.kids,sf K2 x14.kids,.X4]⟩),(b3,⟨35,16,[i6 0,i6 0,.str zB,.X4,i6 0,i6 0,.str zB,i6 0,.X4,i6 0,.str zB,i6 0,.X4,.X4,.X4,.X4]⟩),(b1,⟨35,16,[i6 a0.kind,i6 a0.num,.str a0.name,sf Zo a0.items,i6 a0.fn.kind,i6 a0.fn.id,.str a0.fn.name,i6 a0.fn.num,sf cI a0.fn.ids,i6 a0.fn.data.kind,.str a0.fn.data.name,i6 a0.fn.data.num,sf cI a0.fn.data.sc,sf KY a0.fn.data.kids,sf K2 a0.fn.kids,sf Zq a0.env]⟩)] [⟨z0v0,35,16,rws Zo X7⟩]->aLp KZ c Q ⟨T,ss⟩) ?_ ?_ ?_
 ·intro GL GK L1 L0 a0 r H;intro ss;refine hdh mixed Tryz.func25 (rs:=[.cell 2 35]) fun q tT hF hX=>?_;refine go ?_;refine X8 hF rfl fun b1 ss2 hF=>go ?_;refine X8 hF rfl fun b3 ss4 hF=>go ?_;refine Yi E0 [.v,.v,.v,.v,.v,.v,.v,.v,.v,.v,.x,.z] (by kernel_rfl) (go ?_);refine bp H (CQ a0.fn) fun x14 h H=>cv h (go ?_);refine J8 hF rfl fun b5 ss6 hF=>go ?_;refine st hF 0 rfl fun s7 hF=>?_;have hF:=hF.nil 35 16;refine go ?_;obtain ⟨o11,ho11,H⟩:=bnd H;refine L0 a0 x14 [] 0 _ ho11 _ rfl _ _ b1 b3 b5 ?_ ?_ _ _ .X4 S hF
  ·intro HJ he T13 s14 e12v0 tT hF;have he:=he.symm;subst he;have hF:=hF.nil 83 17;refine go ?_;obtain ⟨o19,ho19,H⟩:=bnd H;refine L1 a0 x14 HJ [] 0 _ ho19 _ rfl _ _ b1 b3 b5 e12v0 ?_ ?_ _ _ .X4 S hF
   ·intro Qmh he T21 s22 e20v1 tT hF;have he:=he.symm;subst he;refine go ?_;refine st hF 1 rfl fun s24 hF=>?_;refine go ?_;cases pur H;exact rt _
   ·trivial
  ·trivial
 ·intro G7 GL C0 L1 a0 x14 HJ VV Cp out H c hc Q tt b1 b3 b5 e12v0 hE hR T ss z1v1 tT hF;refine lpx tt hc rfl fun q hX=>go ?_;refine cdp H (fun h H=>go ?_) (fun h H=>go ?_)
  ·refine Yi E0 [.v,.v,.v,.v,.v,.v,.v,.v,.v,.v,.v,.v,.v,.v,.v,.v,.v,.x,.v,.z] (by kernel_rfl) ?_;obtain ⟨x46,f1,H⟩:=bil (g:=Zq) Slt.X6 H;refine go1 ?_;refine bp H (C0 x46.val) fun x55 h H=>cv h (go ?_);refine NS (g:=Zq) hF 0 H (rdo (c:=true) (g:=Zq) Slt.X6) fun x58 H v16 s17 hF=>go ?_;refine st hF 0 (hF.cells 0 rfl) fun s18 hF=>?_;refine go ?_;exact L1 a0 x14 HJ x58 (i64.wrap (Cp+1)) _ H _ rfl Q tt b1 b3 b5 e12v0 hE hR _ _ v16 S hF
  ·exact wq (hE _ (pur H).symm _ _ z1v1 S hF)
 ·intro G7 GK C0 L0 a0 x14 X7 YI out H c hc Q tt b1 b3 b5 hE hR T ss z0v0 tT hF;refine lpx tt hc rfl fun q hX=>go ?_;refine cdp H (fun h H=>go ?_) (fun h H=>go ?_)
  ·refine Yi E0 [.v,.v,.v,.v,.v,.v,.v,.v,.v,.x,.v,.z] (by kernel_rfl) ?_;obtain ⟨x28,f1,H⟩:=bil (g:=Zo) Val.X6 H;refine go1 ?_;refine bp H (C0 x28) fun x30 h H=>cv h (go ?_);refine NS (g:=Zo) hF 0 H (rdo (c:=true) (g:=Zo) Val.X6) fun x32 H v8 s9 hF=>go ?_;refine st hF 0 (hF.cells 0 rfl) fun s10 hF=>?_;refine go ?_;exact L0 a0 x14 x32 (i64.wrap (YI+1)) _ H _ rfl Q tt b1 b3 b5 hE hR _ _ v8 S hF
  ·exact wq (hE _ (pur H).symm _ _ z0v0 S hF)
theorem MY:∀(a0:Cor) (a1:Int) r,AN a0 a1=some r->Y5 KZ 7 [.agg (K2 a0),i6 a1] (.tup [.agg (Zo r.1),i6 r.2]):=by
 intro a0 a1 r H;intro ss;unfold AN at H;refine hdh mixed Tryz.func7 (rs:=[.cell 4 35,.tmp 5]) fun q tT hF hX=>?_;refine go ?_;refine X8 hF rfl fun b1 ss2 hF=>go ?_;refine X8 hF rfl fun b3 ss4 hF=>go ?_;refine bp H (C9 a0) fun x10 h H=>cl h (go ?_);obtain ⟨x15,g5,H⟩:=bnd H;refine Yb 2 13 15 (.bool x15) (giN q (fun q=>go ?_) (fun q=>go ?_)) (fun J=>go ?_)
 ·exact Yq 13 g5
 ·exact Yq 13 g5
 obtain ⟨x19,g7,H⟩:=bnd H;refine Yb 2 17 19 (.bool x19) (giN q (fun q=>go ?_) (fun q=>go ?_)) (fun J=>go ?_)
 ·exact Yq 17 g7
 ·exact Yq 17 g7
 refine cdb H (fun h H=>go ?_) (fun h H=>go ?_)
 ·refine st hF 0 rfl fun s9 hF=>?_;refine go ?_;cases pur H;exact rt _
 ·refine bp H (P5 a0 [] a1) fun x25 h H=>cl h (go ?_);refine X8 hF rfl fun b10 s11 hF=>go ?_;refine st hF 0 rfl fun s12 hF=>?_;refine go ?_;refine cdn H (fun h H=>go ?_) (fun h H=>go ?_)
  ·refine st hF 1 rfl fun s13 hF=>?_;refine go ?_;cases pur H;exact rt _
  ·refine bp H (P9 x25.1 2000) fun x34 h H=>cl h (go ?_);refine cdp H (fun h H=>go ?_) (fun h H=>go ?_)
   ·refine st hF 1 rfl fun s14 hF=>?_;refine go ?_;cases pur H;exact rt _
   ·refine bp H (P2 x25.1) fun x38 h H=>cl h (go ?_);refine st hF 1 rfl fun s15 hF=>?_;refine go ?_;cases pur H;exact rt _
theorem Et:∀(a0:Int) r,H3 a0=some r->Y5 KZ 79 [i6 a0] (.str r):=fun a0 r H =>
 Qhp Tryz.func79 (by kernel_rfl) (by kernel_rfl) (by kernel_rfl) (fun n h0 h1 w ht=>Tryz.strconv_Itoa n h0 h1 w ht) H
theorem OU:∀(a0:List ByteArray) (a1:ByteArray) r,Aq a0 a1=some r->Y5 KZ 80 [sf cS a0,.str a1] (.str r):=fun a0 a1 r H =>
 Qhr Tryz.func80 (by kernel_rfl) (by kernel_rfl) (fun a c sep w=>Tryz.strings_Join_none a c sep w) (fun bk o c xs sep w h1 h2 h3 h4 h5=>Tryz.strings_Join bk o c xs sep w h1 h2 h3 h4 h5) H
theorem LS:∀(a0:Val) (a1:Int) r,Jy a0 a1=some r->Y5 KZ 51 [.agg (Zo a0),i6 a1] (.str r):=by
 refine Jy.partial_correctness _ (motive_2:=fun a0 a1 X7 DR out=>∀c,Ye Tryz.f51 0=some c->∀(Q:QT) (tt:Sto) (b1:Nat),(∀(YX:List ByteArray),out=YX->∀(T:TT) (ss:Sto) (e0v0:AV),T 5=e0v0->Fx tt ss [(b1,⟨35,16,[i6 a0.kind,i6 a0.num,.str a0.name,sf Zo a0.items,i6 a0.fn.kind,i6 a0.fn.id,.str a0.fn.name,i6 a0.fn.num,sf cI a0.fn.ids,i6 a0.fn.data.kind,.str a0.fn.data.name,i6 a0.fn.data.num,sf cI a0.fn.data.sc,sf KY a0.fn.data.kids,sf K2 a0.fn.kids,sf Zq a0.env]⟩)] [⟨e0v0,9,1,rws cS YX⟩]->Q (.ex 1) ⟨T,ss⟩)->True->∀(T:TT) (ss:Sto) (z0v0:AV),T 1=i6 a1/\T 5=z0v0/\T 34=sf Zo a0.items/\T 35=i6 (a0.items.length:Int)/\T 36=i6 DR->Fx tt ss [(b1,⟨35,16,[i6 a0.kind,i6 a0.num,.str a0.name,sf Zo a0.items,i6 a0.fn.kind,i6 a0.fn.id,.str a0.fn.name,i6 a0.fn.num,sf cI a0.fn.ids,i6 a0.fn.data.kind,.str a0.fn.data.name,i6 a0.fn.data.num,sf cI a0.fn.data.sc,sf KY a0.fn.data.kids,sf K2 a0.fn.kids,sf Zq a0.env]⟩)] [⟨z0v0,9,1,rws cS X7⟩]->aLp KZ c Q ⟨T,ss⟩) ?_ ?_
 ·intro Wy L0 a0 a1 r H;intro ss;refine hdh mixed Tryz.func51 (rs:=[.tmp 4]) fun q tT hF hX=>?_;refine go ?_;refine X8 hF rfl fun b1 ss2 hF=>go ?_;refine cdp H (fun h H=>go ?_) (fun h H=>go ?_)
  ·cases pur H;exact rt _
  ·refine cdp H (fun h H=>go ?_) (fun h H=>go ?_)
   ·refine bp H (Et a0.num) fun x16 h H=>cl h (go ?_);cases pur H;exact rt _
   ·obtain ⟨Qir,j4,H⟩:=bnd H;refine V4 (fun s'=>∃(T:TT) (ss1:Sto),s'=⟨T,ss1⟩/\(T 1=i6 a1/\T 2=.ptr b1 0/\T 11=i6 a0.kind/\T 17=.bool Qir)/\Fx ss ss1 [(b1,⟨35,16,[i6 a0.kind,i6 a0.num,.str a0.name,sf Zo a0.items,i6 a0.fn.kind,i6 a0.fn.id,.str a0.fn.name,i6 a0.fn.num,sf cI a0.fn.ids,i6 a0.fn.data.kind,.str a0.fn.data.name,i6 a0.fn.data.num,sf cI a0.fn.data.sc,sf KY a0.fn.data.kids,sf K2 a0.fn.kids,sf Zq a0.env]⟩)] []) (cdp j4 (fun h j4=>go ?_) (fun h j4=>go ?_)) ?_
    ·cases pur j4;exact ⟨_,_,rfl,S,hF⟩
    ·cases pur j4;exact ⟨_,_,rfl,S,hF⟩
    ·rintro s' ⟨T5,ss6,rfl,tT,hF⟩;refine go ?_;refine cdb H (fun h H=>go ?_) (fun h H=>go ?_)
     ·cases pur H;exact rt _
     ·refine cdp H (fun h H=>go ?_) (fun h H=>go ?_)
      ·refine bp H (Et (a0.fn.ids.length:Int)) fun x28 h H=>cl h ?_;obtain ⟨x29,f1,H⟩:=bsc H;refine go1 ?_;refine go ?_;cases pur H;exact rt _
      ·refine cdp H (fun h H=>?_) (fun h H=>go ?_)
       ·have hF:=hF.lit 9 1 (rws cS []) rfl;refine go ?_;obtain ⟨o13,ho13,H⟩:=bnd H;refine L0 a0 a1 [] 0 _ ho13 _ rfl _ _ b1 ?_ ?_ _ _ (.sl true (rws cS [])) S hF
        ·intro Aa he T15 s16 e14v0 tT hF;have he:=he.symm;subst he;refine go ?_;obtain ⟨x49,hx49,H⟩:=bnd H;refine CW (OU Aa (Qk #[32]) _ hx49) .str (.cons ((hF.wk 0 rfl).trans (Zp (Sub.zero _) _)) (fun _=>rfl) (.cons (Zp (Sub.zero _) _) id .nil)) ?_;obtain ⟨x50,f1,H⟩:=bsc H;obtain ⟨x51,f2,H⟩:=bsc H;refine go2 ?_;refine go ?_;cases pur H;exact rt _
        ·trivial
       ·cases pur H;exact rt _
 ·intro Jy Wy C0 L0 a0 a1 X7 DR out H c hc Q tt b1 hE hR T ss z0v0 tT hF;refine lpx tt hc rfl fun q hX=>go ?_;refine cdp H (fun h H=>?_) (fun h H=>go ?_)
  ·obtain ⟨x38,f1,H⟩:=bil (g:=Zo) Val.X6 H;refine go1 ?_;refine X8 hF rfl fun b8 s9 hF=>go ?_;refine st hF 0 rfl fun s10 hF=>?_;refine go ?_;obtain ⟨x44,hx44,H⟩:=bnd H;refine cl (C0 x38 (i64.wrap (a1+1)) _ hx44) (go ?_);refine apd (g:=cS) hF 0 H (rdo (c:=true) (g:=cS) (fun _=>rfl)) fun x46 H v11 s12 hF=>go ?_;exact L0 a0 a1 x46 (i64.wrap (DR+1)) _ H _ rfl Q tt b1 hE hR _ _ v11 S (hF.drop 1 0)
  ·exact wq (hE _ (pur H).symm _ _ z0v0 S hF)
theorem BU:∀(a0:Val) r,Hh a0=some r->Y5 KZ 27 [.agg (Zo a0)] (.str r):=by
 intro a0 r H;intro ss;unfold Hh at H;refine hdh mixed Tryz.func27 (rs:=[.tmp 2]) fun q tT hF hX=>?_;refine go ?_;refine X8 hF rfl fun b1 ss2 hF=>go ?_;refine bp H (LS a0 0) fun x4 h H=>cl h (go ?_);cases pur H;exact rt _
theorem F6:(∀(a0 a1:Val) r,VB a0 a1=some r->Y5 KZ 8 [.agg (Zo a0),.agg (Zo a1)] (.bool r))/\(∀(a0 a1:List Val) r,YP a0 a1=some r->Y5 KZ 26 [sf Zo a0,sf Zo a1,.fn 8 []] (.bool r)):=by
 have h:=VB.mutual_partial_correctness  (motive_1:=fun a0 a1 r=>Y5 KZ 8 [.agg (Zo a0),.agg (Zo a1)] (.bool r)) (motive_2:=fun a0 a1 r=>Y5 KZ 26 [sf Zo a0,sf Zo a1,.fn 8 []] (.bool r)) (motive_3:=fun a0 a1 We out=>∀c,Ye Tryz.f26 0=some c->∀(Q:QT) (tt:Sto),(∀(_u:Unit),out=Sum.inr ()->∀(T:TT) (ss:Sto),0+0=0->Fx tt ss [] []->Q (.ex 0) ⟨T,ss⟩)->(∀r,out=Sum.inl r->∀s',I9 KZ [.tmp 6] (fun r' ss'=>r'=.bool r/\ss'=tt) s'->Q .ret s')->∀(T:TT) (ss:Sto),T 1=sf Zo a1/\T 2=.fn 8 []/\T 15=sf Zo a0/\T 16=i6 (a0.length:Int)/\T 17=i6 We->Fx tt ss [] []->aLp KZ c Q ⟨T,ss⟩) ?s0 ?s1 ?s2
 ·exact ⟨h.1,h.2.1⟩
 ·intro YP C1 a0 a1 r H;intro ss;refine hdh mixed Tryz.func8 (rs:=[.tmp 4]) fun q tT hF hX=>?_;refine go ?_;refine X8 hF rfl fun b1 ss2 hF=>go ?_;refine X8 hF rfl fun b3 ss4 hF=>go ?_;refine Yi E0 [.v,.v,.v,.v,.v,.v,.v,.v,.v,.v,.v,.v,.v,.v,.v,.v,.v,.v,.v,.v,.v,.v,.v,.v,.v,.v,.v,.v,.v,.v,.v,.v,.v,.v] (by kernel_rfl) (go ?_);obtain ⟨x16,g5,H⟩:=bnd H;refine V3 5 11 16 (.bool x16) (ti q (fun q=>go ?_) (fun q=>go ?_)) (fun J=>go ?_)
  ·exact Yq 11 g5
  ·exact Yq 11 g5
  obtain ⟨x23,g7,H⟩:=bnd H;refine V3 5 18 23 (.bool x23) (ti q (fun q=>go ?_) (fun q=>go ?_)) (fun J=>go ?_)
  ·exact Yq 18 g7
  ·exact Yq 18 g7
  obtain ⟨x30,g9,H⟩:=bnd H;refine V3 5 25 30 (.bool x30) (ti q (fun q=>?_) (fun q=>?_)) (fun J=>go ?_)
  ·rw [if_pos (dbt q)] at g9;refine go ?_;obtain ⟨x29,hx29,g9⟩:=bnd g9;refine cv (C1 a0.items a1.items _ hx29) (go ?_);exact Yq 25 g9
  ·rw [if_neg (dbf q)] at g9;refine go ?_;exact Yq 25 g9
  obtain ⟨x37,g11,H⟩:=bnd H;refine V3 5 32 37 (.bool x37) (ti q (fun q=>?_) (fun q=>?_)) (fun J=>go ?_)
  ·rw [if_pos (dbt q)] at g11;refine go ?_;obtain ⟨x33,hx33,g11⟩:=bnd g11;refine cv (BU a0 _ hx33) (go ?_);obtain ⟨x35,hx35,g11⟩:=bnd g11;refine cv (BU a1 _ hx35) (go ?_);exact Yq 32 g11
  ·rw [if_neg (dbf q)] at g11;refine go ?_;exact Yq 32 g11
  cases pur H;exact rt _
 ·intro Yl L0 a0 a1 r H;intro ss;refine hdh mixed Tryz.func26 (rs:=[.tmp 6]) fun q tT hF hX=>?_;refine go ?_;refine cdn H (fun h H=>go ?_) (fun h H=>go ?_)
  ·cases pur H;exact rt _
  ·obtain ⟨o7,ho7,H⟩:=bnd H;refine L0 a0 a1 0 _ ho7 _ rfl _ _  ?_ ?_ _ _  S hF
   ·intro _ he T9 s10 tT hF;have he:=he.symm;subst he
    try dsimp only at H
    refine go ?_;cases pur H;exact rt _
   ·intro r hr s' hs;subst hr;cases pur H;exact hsq hs
 ·intro VB Yl C0 L0 a0 a1 We out H c hc Q tt  hE hR T ss tT hF;refine lpx tt hc rfl fun q hX=>go ?_;refine cdp H (fun h H=>?_) (fun h H=>go ?_)
  ·obtain ⟨x20,f1,H⟩:=bil (g:=Zo) Val.X6 H;refine go1 ?_;refine X8 hF rfl fun b1 ss2 hF=>go ?_;refine st hF 0 rfl fun ss3 hF=>?_;obtain ⟨x24,f1,H⟩:=bil (g:=Zo) Val.X6 H;refine go1 ?_;refine X8 hF rfl fun b4 ss5 hF=>go ?_;refine st hF 0 rfl fun ss6 hF=>?_;refine go ?_;obtain ⟨x29,hx29,H⟩:=bnd H;refine cl (C0 x20 x24 _ hx29) (go ?_);refine cdb H (fun h H=>go ?_) (fun h H=>go ?_)
   ·exact wq (hR _ (pur H).symm _ (rt _))
   ·exact L0 a0 a1 (i64.wrap (We+1)) _ H _ rfl Q tt  hE hR _ _  S (hF.drop 2 0)
  ·exact wq (hE () (pur H).symm _ _  S hF)
theorem IW:∀(a0 a1:Val) r,VB a0 a1=some r->Y5 KZ 8 [.agg (Zo a0),.agg (Zo a1)] (.bool r):=F6.1
theorem MI:∀(a0:Cor) r,Gc a0=some r->Y5 KZ 10 [.agg (K2 a0)] (i6 r):=by
 refine Gc.partial_correctness _ (motive_2:=fun a0 Yt YN out=>∀c,Ye Tryz.f10 0=some c->∀(Q:QT) (tt:Sto) (b1:Nat),(∀(FP:Int),out=FP->∀(T:TT) (ss:Sto),T 3=i6 FP->Fx tt ss [(b1,⟨29,11,[i6 a0.kind,i6 a0.id,.str a0.name,i6 a0.num,sf cI a0.ids,i6 a0.data.kind,.str a0.data.name,i6 a0.data.num,sf cI a0.data.sc,sf KY a0.data.kids,sf K2 a0.kids]⟩)] []->Q (.ex 0) ⟨T,ss⟩)->True->∀(T:TT) (ss:Sto),T 3=i6 Yt/\T 7=sf K2 a0.kids/\T 8=i6 (a0.kids.length:Int)/\T 9=i6 YN->Fx tt ss [(b1,⟨29,11,[i6 a0.kind,i6 a0.id,.str a0.name,i6 a0.num,sf cI a0.ids,i6 a0.data.kind,.str a0.data.name,i6 a0.data.num,sf cI a0.data.sc,sf KY a0.data.kids,sf K2 a0.kids]⟩)] []->aLp KZ c Q ⟨T,ss⟩) ?_ ?_
 ·intro Jb L0 a0 r H;intro ss;refine hdh mixed Tryz.func10 (rs:=[.tmp 2]) fun q tT hF hX=>?_;refine go ?_;refine X8 hF rfl fun b1 ss2 hF=>go ?_;obtain ⟨o6,ho6,H⟩:=bnd H;refine L0 a0 1 0 _ ho6 _ rfl _ _ b1 ?_ ?_ _ _  S hF
  ·intro Qn4 he T8 s9 tT hF;have he:=he.symm;subst he;refine go ?_;cases pur H;exact rt _
  ·trivial
 ·intro Gc Jb C0 L0 a0 Yt YN out H c hc Q tt b1 hE hR T ss tT hF;refine lpx tt hc rfl fun q hX=>go ?_;refine cdp H (fun h H=>?_) (fun h H=>go ?_)
  ·obtain ⟨x11,f1,H⟩:=bil (g:=K2) Cor.X6 H;refine go1 ?_;refine X8 hF rfl fun b3 ss4 hF=>go ?_;refine st hF 0 rfl fun ss5 hF=>?_;refine go ?_;refine bp H (C0 x11) fun x15 h H=>cl h (go ?_);exact L0 a0 (i64.wrap (Yt+x15)) (i64.wrap (YN+1)) _ H _ rfl Q tt b1 hE hR _ _  S (hF.drop 1 0)
  ·exact wq (hE _ (pur H).symm _ _  S hF)
theorem MV:∀(a0 a1:List Int) r,BA a0 a1=some r->Y5 KZ 3 [sf cU a0,sf cU a1] (.bool r):=by
 intro a0 a1 r H;intro ss;unfold BA at H;refine hdh mixed Tryz.func3 (rs:=[.tmp 4]) fun q tT hF hX=>?_;refine go ?_;obtain ⟨x25,g1,H⟩:=bnd H;refine Yb 3 22 25 (.bool x25) (giN q (fun q=>go ?_) (fun q=>go ?_)) (fun J=>go ?_)
 ·exact Yq 22 g1
 ·exact Yq 22 g1
 refine cdb H (fun h H=>go ?_) (fun h H=>go ?_)
 ·cases pur H;exact rt _
 ·refine bp H (EO a0) fun x28 h H=>cl h (go ?_);refine X8 hF rfl fun b3 ss4 hF=>go ?_;refine st hF 0 rfl fun ss5 hF=>?_;refine go ?_;refine bp H (Bn x28.1 x28.2) fun x34 h H=>cl h (go ?_);refine X8 hF rfl fun b6 s7 hF=>go ?_;refine st hF 0 rfl fun s8 hF=>?_;refine go ?_;refine bp H (MY x28.1 x28.2) fun x40 h H=>cl h (go ?_);refine X8 hF rfl fun b9 s10 hF=>go ?_;refine st hF 0 rfl fun s11 hF=>?_;refine go ?_;refine bp H (IW x34.1 x40.1) fun x45 h H=>cl h (go ?_);obtain ⟨x51,g12,H⟩:=bnd H;refine Yb 3 48 51 (.bool x51) (giN q (fun q=>go ?_) (fun q=>go ?_)) (fun J=>go ?_)
  ·exact Yq 48 g12
  ·exact Yq 48 g12
  obtain ⟨x56,g14,H⟩:=bnd H;refine Yb 3 53 56 (.bool x56) (giN q (fun q=>?_) (fun q=>?_)) (fun J=>go ?_)
  ·rw [if_neg (dbf q)] at g14;refine go ?_;obtain ⟨x54,hx54,g14⟩:=bnd g14;refine cl (IU x28.1 _ hx54) (go ?_);exact Yq 53 g14
  ·rw [if_pos (dbt q)] at g14;refine go ?_;exact Yq 53 g14
  obtain ⟨x61,g16,H⟩:=bnd H;refine Yb 3 58 61 (.bool x61) (giN q (fun q=>?_) (fun q=>?_)) (fun J=>go ?_)
  ·rw [if_neg (dbf q)] at g16;refine go ?_;obtain ⟨x59,hx59,g16⟩:=bnd g16;refine cl (MI x28.1 _ hx59) (go ?_);exact Yq 58 g16
  ·rw [if_pos (dbt q)] at g16;refine go ?_;exact Yq 58 g16
  obtain ⟨x65,g18,H⟩:=bnd H;refine Yb 2 63 65 (.bool x65) (giN q (fun q=>go ?_) (fun q=>go ?_)) (fun J=>go ?_)
  ·exact Yq 63 g18
  ·exact Yq 63 g18
  obtain ⟨x69,g20,H⟩:=bnd H;refine Yb 2 67 69 (.bool x69) (giN q (fun q=>go ?_) (fun q=>go ?_)) (fun J=>go ?_)
  ·exact Yq 67 g20
  ·exact Yq 67 g20
  refine cdb H (fun h H=>go ?_) (fun h H=>go ?_)
  ·refine bp H (IW x34.1 x40.1) fun x72 h H=>cl h (go ?_);obtain ⟨x77,g22,H⟩:=bnd H;refine Yb 3 74 77 (.bool x77) (gi q (fun q=>go ?_) (fun q=>go ?_)) (fun J=>go ?_)
   ·exact Yq 74 g22
   ·exact Yq 74 g22
   cases pur H;exact rt _
  ·refine X8 hF rfl fun b24 s25 hF=>go ?_;refine st hF 0 rfl fun s26 hF=>?_;refine go ?_;refine X8 hF rfl fun b27 s28 hF=>go ?_;refine st hF 0 rfl fun s29 hF=>?_;refine go ?_;refine cdp H (fun h H=>go ?_) (fun h H=>go ?_)
   ·refine X8 hF rfl fun b30 s31 hF=>go ?_;refine st hF 0 rfl fun s32 hF=>?_;refine go ?_;obtain ⟨x97,hx97,H⟩:=bnd H;refine cl (IU (KR 7 0 zB 0 [] (KS 0 zB 0 [] []) [KR 3 0 zB ((a1.length:Int).tmod 3) [] (KS 0 zB 0 [] []) [],KR 2 0 (Qk #[110,111,116,104,105,110,103]) 0 [] (KS 0 zB 0 [] []) [],x28.1]) _ hx97) (go ?_);refine cdb H (fun h H=>go ?_) (fun h H=>go ?_)
    ·cases pur H;exact rt _
    ·obtain ⟨x103,hx103,H⟩:=bnd H;refine cl (Bn (KR 7 0 zB 0 [] (KS 0 zB 0 [] []) [KR 3 0 zB ((a1.length:Int).tmod 3) [] (KS 0 zB 0 [] []) [],KR 2 0 (Qk #[110,111,116,104,105,110,103]) 0 [] (KS 0 zB 0 [] []) [],x28.1]) (i64.wrap (x28.2+2)) _ hx103) (go ?_);refine X8 hF rfl fun b33 s34 hF=>go ?_;refine st hF 0 rfl fun s35 hF=>?_;refine go ?_;obtain ⟨x113,g36,H⟩:=bnd H;refine Yb 3 110 113 (.bool x113) (gi q (fun q=>?_) (fun q=>?_)) (fun J=>go ?_)
     ·rw [if_pos (dt q)] at g36;refine go ?_;obtain ⟨x112,hx112,g36⟩:=bnd g36;refine cl (IW x103.1 x34.1 _ hx112) (go ?_);exact Yq 110 g36
     ·rw [if_neg (df q)] at g36;refine go ?_;exact Yq 110 g36
     cases pur H;exact rt _
   ·refine X8 hF rfl fun b38 s39 hF=>go ?_;refine st hF 0 rfl fun s40 hF=>?_;refine go ?_;obtain ⟨Qti,hx97_1,H⟩:=bnd H;refine cl (IU (KR 7 0 zB 0 [] (KS 0 zB 0 [] []) [KR 3 0 zB ((a1.length:Int).tmod 3) [] (KS 0 zB 0 [] []) [],x28.1,KR 2 0 (Qk #[110,111,116,104,105,110,103]) 0 [] (KS 0 zB 0 [] []) []]) _ hx97_1) (go ?_);refine cdb H (fun h H=>go ?_) (fun h H=>go ?_)
    ·cases pur H;exact rt _
    ·obtain ⟨Qci,hx103_1,H⟩:=bnd H;refine cl (Bn (KR 7 0 zB 0 [] (KS 0 zB 0 [] []) [KR 3 0 zB ((a1.length:Int).tmod 3) [] (KS 0 zB 0 [] []) [],x28.1,KR 2 0 (Qk #[110,111,116,104,105,110,103]) 0 [] (KS 0 zB 0 [] []) []]) (i64.wrap (x28.2+2)) _ hx103_1) (go ?_);refine X8 hF rfl fun b41 s42 hF=>go ?_;refine st hF 0 rfl fun s43 hF=>?_;refine go ?_;obtain ⟨Qcj,g44,H⟩:=bnd H;refine Yb 3 110 113 (.bool Qcj) (gi q (fun q=>?_) (fun q=>?_)) (fun J=>go ?_)
     ·rw [if_pos (dt q)] at g44;refine go ?_;obtain ⟨Qm3,hx112_1,g44⟩:=bnd g44;refine cl (IW Qci.1 x34.1 _ hx112_1) (go ?_);exact Yq 110 g44
     ·rw [if_neg (df q)] at g44;refine go ?_;exact Yq 110 g44
     cases pur H;exact rt _
end Go.Proofs.SA
