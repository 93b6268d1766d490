/- Printed by a program of mine: the plain functions that the code computes (D), and the walks that show it (W). -/
import Derived.Test.YtiiamkelehfnoaaGreatGs
import Derived.Test.YtiiamkelehfnoaaGreatSaTy
import Derived.Test.YtiiamkelehfnoaaGreatSf
import Derived.Test.YtiiamkelehfnoaaGreatDf
import Derived.Test.YtiiamkelehfnoaaGreatChecked
import Derived.Lib.Strings
import Derived.Lib.Slices
import Derived.Lib.Walk
import Derived.Lib.Bytealg
import Derived.Test.YtiiamkelehfnoaaGreatibD
set_option maxRecDepth 100000
set_option maxHeartbeats 2000000
set_option linter.unusedSimpArgs false
set_option linter.unusedVariables false
open Go Go.Proofs Go.Proofs.Shadow
open Fm renaming cells → KY, kind → Zs, name → Zt, kids → Zu
open Tryz renaming prog → KZ
open _root_.ByteArray renaming mk → Qk
open Bnd renaming cells → K0
open Hit renaming cells → K1, depth → Zb, name → Zj, many → Zk, one → Zv
open _root_.And renaming intro → K2
open Fx renaming self → K3, kept → Za
open Rul renaming cells → K4
open _root_.List renaming not_mem_nil → KD, cons_append → Kh, nil_append → QS, mem_cons → Kj, flatten_cons → Qr, flatten_nil → K6, append_nil → KJ
open EE renaming not → K5, of → Ze, new → Zr
open Xpn renaming cells → K7
open _root_.Int renaming toNat_natCast → Kl, reduceEq → Zi
open _root_.Nat renaming reduceEqDiff → K8, reduceLeDiff → K9, reduceAdd → Zf, reduceMul → Zg, reduceLT → Zh
open Val renaming items → Zc, kind → Zp, name → Zq, num → Zy, env → Zz, fn → ZC
open Mac renaming cells → Zd
open Cor renaming kind → Zl, name → Zm, data → Zn, kids → Zo, num → Zw, ids → Zx, id → ZB
open Slt renaming val → ZA, id → ZD
open Go.IntKind (i64)
namespace Go.Proofs.SA
theorem Qng:Qh3 KZ 41:=⟨⟨_,Tryz.func41,rfl,by kernel_rfl⟩,Tryz.slices_Sort_int,Tryz.slices_Sort_int_none⟩
theorem Qlq:Qhz KZ 42:=⟨⟨_,Tryz.func42,rfl,by kernel_rfl⟩,Tryz.slices_Compact_int,Tryz.slices_Compact_int_empty⟩
theorem Qn8:Qps KZ 71 72:=⟨⟨_,Tryz.func71,rfl,by kernel_rfl⟩,Tryz.Qn7,Tryz.Sd⟩
theorem HN:∀(a0:List Int) r,Gg a0=some r->∀   (ss:Sto),Pre ss [] []->Ctr KZ 22 [sf cU a0] ss (fun r' ss'=>∃(tt':Sto) (n0:Nat),r'=.ptr n0 0/\Tau (strip ss []) [] tt'/\Fx tt' ss' [(n0,⟨89,2,[sf cU r.b,i6 r.p]⟩)] []):=by
 intro a0 r H;intro   ss hP;unfold Gg at H;refine hdg mixed Tryz.func22 (rs:=[.tmp 2]) fun q tT=>?_;obtain ⟨hF,hX⟩:=hP.start;generalize strip ss []=tt0 at hF hX ⊢;refine go ?_;refine cdp H (fun h H=>?_) (fun h H=>?_)
 ·obtain ⟨x7,f1,H⟩:=bls (g:=cU) (fun _=>rfl) (lo:=none) (hi:=some (i6 2000)) rfl rfl H;refine go1 ?_;refine go ?_;refine X8 hF rfl fun b1 ss2 hF=>?_;refine go ?_;have e:=pur H;subst e;exact rg _ ⟨_,_,rfl,hX,hF.pick [0] [] (by decide) (by decide)⟩
 ·refine go ?_;refine X8 hF rfl fun b3 ss4 hF=>?_;refine go ?_;have e:=pur H;subst e;exact rg _ ⟨_,_,rfl,hX,hF.pick [0] [] (by decide) (by decide)⟩
theorem Ys:∀(a1:Int) (c0:Rdr) r,Yq a1 c0=some r->∀(e0:Nat)  (ss:Sto),Pre ss [(e0,⟨89,2,[sf cU c0.b,i6 c0.p]⟩)] []->Ctr KZ 24 [.ptr e0 0,i6 a1] ss (fun r' ss'=>∃(tt':Sto),r'=i6 r.1/\Tau (strip ss []) [(e0,⟨89,2,[sf cU r.2.b,i6 r.2.p]⟩)] tt'/\Fx tt' ss' [] []):=by
 intro a1 c0 r H;intro e0  ss hP;unfold Yq at H;refine hdg mixed Tryz.func24 (rs:=[.tmp 4]) fun q tT=>?_;obtain ⟨hF,hX⟩:=hP.start;generalize strip ss []=tt0 at hF hX ⊢;refine go ?_;refine stT hF hX 0 rfl fun tt2 ss1 hF hX=>?_;refine go ?_;obtain ⟨x24,g3,H⟩:=bnd H;refine Yb 6 18 24 (.bool x24) (giN q (fun q=>?_) (fun q=>?_)) (fun J=>?_)
 ·refine go ?_;exact Yt 18 g3
 ·refine go ?_;exact Yt 18 g3
 refine go ?_;refine cdb H (fun h H=>?_) (fun h H=>?_)
 ·refine go ?_;have e:=pur H;subst e;exact rg _ ⟨_,rfl,hX,K3 _⟩
 ·refine go ?_;refine cdp H (fun h H=>?_) (fun h H=>?_)
  ·obtain ⟨x42,f1,H⟩:=bil (g:=cU) (fun _=>rfl) H;obtain ⟨x46,f2,H⟩:=brm H;refine go2 ?_;refine go ?_;have e:=pur H;subst e;exact rg _ ⟨_,rfl,hX,K3 _⟩
  ·refine go ?_;refine Ye E0 [.v,.v,.v,.v,.v,.v,.v,.v,.v,.v,.v,.v,.v,.v,.v,.v,.v,.v,.v,.v,.v,.v,.v,.v,.v,.v,.v,.v,.v,.v,.v,.v,.v,.v,.v,.v,.v,.v,.v,.v,.v,.v,.v,.v,.v,.v] (by kernel_rfl) ?_;obtain ⟨x57,f1,H⟩:=brm H;obtain ⟨x58,f2,H⟩:=bil (g:=cU) (fun _=>rfl) H;obtain ⟨x74,f3,H⟩:=brm H;obtain ⟨x75,f4,H⟩:=bil (g:=cU) (fun _=>rfl) H;obtain ⟨x89,f5,H⟩:=bqu H;refine go5 ?_;obtain ⟨x98,f1,H⟩:=brm H;refine go1 ?_;refine go ?_;have e:=pur H;subst e;exact rg _ ⟨_,rfl,hX,K3 _⟩
theorem Fs:∀(a0:ByteArray) (HZ:Int) out,JL a0 HZ=some out->∀c,Yf Tryz.f178 0=some c->∀(Q:QT) (tt:Sto),(∀(PM:Int),out=PM->∀(T:TT) (ss:Sto),T 1=i6 PM->Fx tt ss [] []->Q (.ex 0) ⟨T,ss⟩)->True->∀(T:TT) (ss:Sto),T 0=.str a0/\T 1=i6 HZ->Fx tt ss [] []->aLp KZ c Q ⟨T,ss⟩:=by
 intro a0 HZ;revert HZ;refine JL.partial_correctness a0 _ ?_;intro JL IH HZ out H c hc Q tt  hE hR T ss tT hF;refine lpx tt hc rfl fun q hX=>go ?_;obtain ⟨x14,g1,H⟩:=bnd H;refine Yb 4 10 14 (.bool x14) (gi q (fun q=>?_) (fun q=>?_)) (fun J=>?_)
 ·rw [if_pos (dt q)] at g1;obtain ⟨x12,f1,g1⟩:=bsx g1;refine go1 ?_;refine go ?_;exact Yt 10 g1
 ·rw [if_neg (df q)] at g1;refine go ?_;exact Yt 10 g1
 refine go ?_;refine cdb H (fun h H=>?_) (fun h H=>?_)
 ·refine go ?_;exact IH  (i64.wrap (HZ+1)) _ H _ rfl Q tt  hE hR _ _  S hF
 ·refine go ?_;exact wq (hE _ (pur H).symm _ _  S hF)
theorem Aw:∀(a0:ByteArray) (a1:Int) r,HT a0 a1=some r->Vr KZ 178 [.str a0,i6 a1] (i6 r):=by
 intro a0 a1 r H;intro ss;unfold HT at H;refine hdh mixed Tryz.func178 (rs:=[.tmp 4]) fun q tT hF hX=>?_;refine go ?_;obtain ⟨o3,ho3,H⟩:=bnd H;refine Fs a0 a1 _ ho3 _ rfl _ _  ?_ ?_ _ _  S hF
 ·intro Qiv he T5 ss6 tT hF;have he:=he.symm;subst he;refine go ?_;have e:=pur H;subst e;exact rt _
 ·trivial
theorem Ft:∀(a0:ByteArray) (HZ:Int) out,JM a0 HZ=some out->∀c,Yf Tryz.f206 0=some c->∀(Q:QT) (tt:Sto),(∀(PM:Int),out=PM->∀(T:TT) (ss:Sto),T 1=i6 PM->Fx tt ss [] []->Q (.ex 0) ⟨T,ss⟩)->True->∀(T:TT) (ss:Sto),T 0=.str a0/\T 1=i6 HZ->Fx tt ss [] []->aLp KZ c Q ⟨T,ss⟩:=by
 intro a0 HZ;revert HZ;refine JM.partial_correctness a0 _ ?_;intro JM IH HZ out H c hc Q tt  hE hR T ss tT hF;refine lpx tt hc rfl fun q hX=>go ?_;obtain ⟨x14,g1,H⟩:=bnd H;refine Yb 4 10 14 (.bool x14) (gi q (fun q=>?_) (fun q=>?_)) (fun J=>?_)
 ·rw [if_pos (dt q)] at g1;obtain ⟨x12,f1,g1⟩:=bsx g1;refine go1 ?_;refine go ?_;exact Yt 10 g1
 ·rw [if_neg (df q)] at g1;refine go ?_;exact Yt 10 g1
 refine go ?_;obtain ⟨x20,g3,H⟩:=bnd H;refine Yb 4 16 20 (.bool x20) (gi q (fun q=>?_) (fun q=>?_)) (fun J=>?_)
 ·rw [if_pos (dbt q)] at g3;obtain ⟨x18,f1,g3⟩:=bsx g3;refine go1 ?_;refine go ?_;exact Yt 16 g3
 ·rw [if_neg (dbf q)] at g3;refine go ?_;exact Yt 16 g3
 refine go ?_;obtain ⟨x26,g5,H⟩:=bnd H;refine Yb 4 22 26 (.bool x26) (gi q (fun q=>?_) (fun q=>?_)) (fun J=>?_)
 ·rw [if_pos (dbt q)] at g5;obtain ⟨x24,f1,g5⟩:=bsx g5;refine go1 ?_;refine go ?_;exact Yt 22 g5
 ·rw [if_neg (dbf q)] at g5;refine go ?_;exact Yt 22 g5
 refine go ?_;obtain ⟨x32,g7,H⟩:=bnd H;refine Yb 4 28 32 (.bool x32) (gi q (fun q=>?_) (fun q=>?_)) (fun J=>?_)
 ·rw [if_pos (dbt q)] at g7;obtain ⟨x30,f1,g7⟩:=bsx g7;refine go1 ?_;refine go ?_;exact Yt 28 g7
 ·rw [if_neg (dbf q)] at g7;refine go ?_;exact Yt 28 g7
 refine go ?_;refine cdb H (fun h H=>?_) (fun h H=>?_)
 ·refine go ?_;exact IH  (i64.wrap (HZ+1)) _ H _ rfl Q tt  hE hR _ _  S hF
 ·refine go ?_;exact wq (hE _ (pur H).symm _ _  S hF)
theorem NF:∀(a0:ByteArray) (a1:Int) r,Be a0 a1=some r->Vr KZ 206 [.str a0,i6 a1] (i6 r):=by
 intro a0 a1 r H;intro ss;unfold Be at H;refine hdh mixed Tryz.func206 (rs:=[.tmp 4]) fun q tT hF hX=>?_;refine go ?_;obtain ⟨o9,ho9,H⟩:=bnd H;refine Ft a0 a1 _ ho9 _ rfl _ _  ?_ ?_ _ _  S hF
 ·intro Qcc he T11 s12 tT hF;have he:=he.symm;subst he;refine go ?_;have e:=pur H;subst e;exact rt _
 ·trivial
theorem Fl:∀(x14:Bool) (Cy:ByteArray) (Yh YI:Int) out,JG x14 Cy Yh YI=some out->∀c,Yf Tryz.f207 0=some c->∀(Q:QT) (tt:Sto),(∀(Qca:Int),out=Sum.inr Qca->∀(T:TT) (ss:Sto),T 4=.bool x14/\T 5=i6 Qca->Fx tt ss [] []->Q (.ex 0) ⟨T,ss⟩)->(∀r,out=Sum.inl r->∀s',Aj KZ [.tmp 2,.tmp 3] (fun r' ss'=>r'=.tup [i6 r.1,.bool r.2]/\ss'=tt) s'->Q .ret s')->∀(T:TT) (ss:Sto),T 0=.str Cy/\T 4=.bool x14/\T 5=i6 Yh/\T 6=i6 YI->Fx tt ss [] []->aLp KZ c Q ⟨T,ss⟩:=by
 intro x14 Cy Yh YI;revert Yh YI;refine JG.partial_correctness x14 Cy _ ?_;intro JG IH Yh YI out H c hc Q tt  hE hR T ss tT hF;refine lpx tt hc rfl fun q hX=>go ?_;refine cdp H (fun h H=>?_) (fun h H=>?_)
 ·obtain ⟨x47,f1,H⟩:=bsx H;refine go1 ?_;obtain ⟨x54,g16,H⟩:=bnd H;refine Yb 4 50 54 (.bool x54) (giN q (fun q=>?_) (fun q=>?_)) (fun J=>?_)
  ·rw [if_neg (df q)] at g16;obtain ⟨x52,f1,g16⟩:=bsx g16;refine go1 ?_;refine go ?_;exact Yt 50 g16
  ·rw [if_pos (dt q)] at g16;refine go ?_;exact Yt 50 g16
  refine go ?_;refine cdb H (fun h H=>?_) (fun h H=>?_)
  ·refine go ?_;exact wq (hR _ (pur H).symm _ (rt _))
  ·obtain ⟨x59,f1,H⟩:=bsx H;refine go1 ?_;refine go ?_;exact IH  (i64.wrap ((i64.wrap (Yh * 10))+(i64.wrap (IntKind.u8.wrap (x59 - 48))))) (i64.wrap (YI+1)) _ H _ rfl Q tt  hE hR _ _  S hF
 ·refine go ?_;exact wq (hE _ (pur H).symm _ _  S hF)
theorem DR:∀(a0:ByteArray) r,Ao a0=some r->Vr KZ 207 [.str a0] (.tup [i6 r.1,.bool r.2]):=by
 intro a0 r H;intro ss;unfold Ao at H;refine hdh mixed Tryz.func207 (rs:=[.tmp 2,.tmp 3]) fun q tT hF hX=>?_;refine go ?_;obtain ⟨x14,g1,H⟩:=bnd H;refine Yb 3 11 14 (.bool x14) (gi q (fun q=>?_) (fun q=>?_)) (fun J=>?_)
 ·rw [if_pos (dt q)] at g1;obtain ⟨x12,f1,g1⟩:=bsx g1;refine go1 ?_;refine go ?_;exact Yt 11 g1
 ·rw [if_neg (df q)] at g1;refine go ?_;exact Yt 11 g1
 refine go ?_;obtain ⟨Cy,j4,H⟩:=bnd H;refine VL (fun s'=>∃(T:TT) (ss1:Sto),s'=⟨T,ss1⟩/\(T 0=.str Cy/\T 4=.bool x14)/\Fx ss ss1 [] []) (cdb j4 (fun h j4=>?_) (fun h j4=>?_)) ?_
 ·obtain ⟨x17,f1,j4⟩:=bss (lo:=some (i6 1)) (hi:=none) rfl rfl j4;refine go1 ?_;refine go ?_;have e:=pur j4;subst e;exact ⟨_,_,rfl,S,hF⟩
 ·refine go ?_;have e:=pur j4;subst e;exact ⟨_,_,rfl,S,hF⟩
 ·rintro s' ⟨T5,ss6,rfl,tT,hF⟩;refine go ?_;obtain ⟨x25,g8,H⟩:=bnd H;refine Yb 3 22 25 (.bool x25) (giN q (fun q=>?_) (fun q=>?_)) (fun J=>?_)
  ·refine go ?_;exact Yt 22 g8
  ·refine go ?_;exact Yt 22 g8
  refine go ?_;obtain ⟨x38,g10,H⟩:=bnd H;refine Yb 11 27 38 (.bool x38) (giN q (fun q=>?_) (fun q=>?_)) (fun J=>?_)
  ·rw [if_neg (dbf q)] at g10;obtain ⟨x28,f1,g10⟩:=bsx g10;refine go1 ?_;obtain ⟨x37,g12,g10⟩:=bnd g10;refine Yb 6 31 37 (.bool x37) (gi q (fun q=>?_) (fun q=>?_)) (fun J=>?_)
   ·rw [if_pos (dt q)] at g12;refine go ?_;obtain ⟨x36,g14,g12⟩:=bnd g12;refine Yb 1 35 36 (.bool x36) (giN q (fun q=>?_) (fun q=>?_)) (fun J=>?_)
    ·refine go ?_;exact Yt 35 g14
    ·refine go ?_;exact Yt 35 g14
    refine go ?_;exact Yt 31 g12
   ·rw [if_neg (df q)] at g12;refine go ?_;exact Yt 31 g12
   refine go ?_;exact Yt 27 g10
  ·rw [if_pos (dbt q)] at g10;refine go ?_;exact Yt 27 g10
  refine go ?_;refine cdb H (fun h H=>?_) (fun h H=>?_)
  ·refine go ?_;have e:=pur H;subst e;exact rt _
  ·refine go ?_;obtain ⟨o18,ho18,H⟩:=bnd H;refine Fl x14 Cy 0 0 _ ho18 _ rfl _ _  ?_ ?_ _ _  S hF
   ·intro PS he T20 s21 tT hF;have he:=he.symm;subst he
    try dsimp only at H
    refine go ?_;refine cdb H (fun h H=>?_) (fun h H=>?_)
    ·refine go ?_;have e:=pur H;subst e;exact rt _
    ·refine go ?_;have e:=pur H;subst e;exact rt _
   ·intro r hr s' hs;subst hr;have e:=pur H;subst e;exact hsq hs
theorem Fk:∀(a0:ByteArray) (a1:Int) (X5:List ByteArray) (YI Yo:Int) out,WZ a0 a1 X5 YI Yo=some out->∀c,Yf Tryz.f214 0=some c->∀(Q:QT) (tt:Sto),(∀(YT:List ByteArray),out=YT->∀(T:TT) (ss:Sto) (e0v0:AV),T 5=e0v0->Fx tt ss [] [⟨e0v0,9,1,rws cS YT⟩]->Q (.ex 0) ⟨T,ss⟩)->True->∀(T:TT) (ss:Sto) (z0v0:AV),T 0=.str a0/\T 1=.int .u8 a1/\T 5=z0v0/\T 6=i6 YI/\T 7=i6 Yo->Fx tt ss [] [⟨z0v0,9,1,rws cS X5⟩]->aLp KZ c Q ⟨T,ss⟩:=by
 intro a0 a1 X5 YI Yo;revert X5 YI Yo;refine WZ.partial_correctness a0 a1 _ ?_;intro WZ IH X5 YI Yo out H c hc Q tt  hE hR T ss z0v0 tT hF;refine lpx tt hc rfl fun q hX=>go ?_;refine cdp H (fun h H=>?_) (fun h H=>?_)
 ·refine go ?_;obtain ⟨x25,g1,H⟩:=bnd H;refine Yb 5 20 25 (.bool x25) (giN q (fun q=>?_) (fun q=>?_)) (fun J=>?_)
  ·rw [if_neg (df q)] at g1;obtain ⟨x22,f1,g1⟩:=bsx g1;refine go1 ?_;refine go ?_;exact Yt 20 g1
  ·rw [if_pos (dt q)] at g1;refine go ?_;exact Yt 20 g1
  refine go ?_;refine cdb H (fun h H=>?_) (fun h H=>?_)
  ·obtain ⟨x30,f1,H⟩:=bss (lo:=some (i6 YI)) (hi:=some (i6 Yo)) rfl rfl H;refine go1 ?_;refine apd (g:=cS) hF 0 H (rdo (c:=true) (g:=cS) (fun _=>rfl)) fun x32 H v3 ss4 hF=>?_;refine go ?_;exact IH  x32 (i64.wrap (Yo+1)) (i64.wrap (Yo+1)) _ H _ rfl Q tt  hE hR _ _ v3 S hF
  ·refine go ?_;exact IH  X5 YI (i64.wrap (Yo+1)) _ H _ rfl Q tt  hE hR _ _ z0v0 S hF
 ·refine go ?_;exact wq (hE _ (pur H).symm _ _ z0v0 S hF)
theorem NA:∀(a0:ByteArray) (a1:Int) r,Ba a0 a1=some r->Vr KZ 214 [.str a0,.int .u8 a1] (sf cS r):=by
 intro a0 a1 r H;intro ss;unfold Ba at H;refine hdh mixed Tryz.func214 (rs:=[.tmp 4]) fun q tT hF hX=>?_;have hF:=hF.lit 9 1 (rws cS []) rfl;refine go ?_;obtain ⟨o5,ho5,H⟩:=bnd H;refine Fk a0 a1 [] 0 0 _ ho5 _ rfl _ _  ?_ ?_ _ _ (.sl true (rws cS [])) S hF
 ·intro Qlw he T7 s8 e6v0 tT hF;have he:=he.symm;subst he;refine go ?_;have e:=pur H;subst e;exact rt _
 ·trivial
theorem Fp:∀(a0:ByteArray) (a1 Yo:Int) out,Wl a0 a1 Yo=some out->∀c,Yf Tryz.f208 0=some c->∀(Q:QT) (tt:Sto),(∀(Qcb:Int),out=Qcb->∀(T:TT) (ss:Sto),T 0=.str a0/\T 1=i6 a1/\T 6=.sl true (rws cI [])/\T 7=i6 Qcb->Fx tt ss [] []->Q (.ex 0) ⟨T,ss⟩)->True->∀(T:TT) (ss:Sto),T 0=.str a0/\T 1=i6 a1/\T 6=.sl true (rws cI [])/\T 7=i6 Yo->Fx tt ss [] []->aLp KZ c Q ⟨T,ss⟩:=by
 intro a0 a1 Yo;revert Yo;refine Wl.partial_correctness a0 a1 _ ?_;intro Wl IH Yo out H c hc Q tt  hE hR T ss tT hF;refine lpx tt hc rfl fun q hX=>go ?_;obtain ⟨x35,g3,H⟩:=bnd H;refine Yb 4 31 35 (.bool x35) (gi q (fun q=>?_) (fun q=>?_)) (fun J=>?_)
 ·rw [if_pos (dt q)] at g3;obtain ⟨x33,f1,g3⟩:=bsx g3;refine go1 ?_;refine go ?_;exact Yt 31 g3
 ·rw [if_neg (df q)] at g3;refine go ?_;exact Yt 31 g3
 refine go ?_;refine cdb H (fun h H=>?_) (fun h H=>?_)
 ·refine go ?_;exact IH  (i64.wrap (Yo+1)) _ H _ rfl Q tt  hE hR _ _  S hF
 ·refine go ?_;exact wq (hE _ (pur H).symm _ _  S hF)
theorem Fq:∀(DC:Int) (x48:List ByteArray) (Ji:List Int) (G5:Int) out,JK DC x48 Ji G5=some out->∀c,Yf Tryz.f208 1=some c->∀(Q:QT) (tt:Sto),(∀(PT:List Int),out=Sum.inr PT->∀(T:TT) (ss:Sto) (e1v0:AV),T 6=e1v0/\T 7=i6 DC->Fx tt ss [] [⟨e1v0,3,1,rws cI PT⟩]->Q (.ex 2) ⟨T,ss⟩)->(∀r,out=Sum.inl r->∀s',Aj KZ [.tmp 4,.tmp 5] (fun r' ss'=>r'=.tup [sf cI r.1,i6 r.2]/\ss'=tt) s'->Q .ret s')->∀(T:TT) (ss:Sto) (z1v0:AV),T 6=z1v0/\T 7=i6 DC/\T 8=sf cS x48/\T 9=i6 G5->Fx tt ss [] [⟨z1v0,3,1,rws cI Ji⟩]->aLp KZ c Q ⟨T,ss⟩:=by
 intro DC x48 Ji G5;revert Ji G5;refine JK.partial_correctness DC x48 _ ?_;intro JK IH Ji G5 out H c hc Q tt  hE hR T ss z1v0 tT hF;refine lpx tt hc rfl fun q hX=>go ?_;obtain ⟨x56,g10,H⟩:=bnd H;refine Yb 2 54 56 (.bool x56) (gi q (fun q=>?_) (fun q=>?_)) (fun J=>?_)
 ·refine go ?_;exact Yt 54 g10
 ·refine go ?_;exact Yt 54 g10
 refine go ?_;refine cdb H (fun h H=>?_) (fun h H=>?_)
 ·obtain ⟨x62,f1,H⟩:=bil (g:=cS) (fun _=>rfl) H;refine go1 ?_;refine bp H (DR x62) fun x64 h H=>cl h ?_;refine go ?_;refine cdb H (fun h H=>?_) (fun h H=>?_)
  ·refine go ?_;exact wq (hR _ (pur H).symm _ (rt _))
  ·refine go ?_;refine apd (g:=cI) hF 0 H (rdo (c:=true) (g:=cI) (fun _=>rfl)) fun x73 H v12 s13 hF=>?_;refine go ?_;exact IH  x73 (i64.wrap (G5+1)) _ H _ rfl Q tt  hE hR _ _ v12 S hF
 ·refine go ?_;exact wq (hE _ (pur H).symm _ _ z1v0 S hF)
theorem ND:∀(a0:ByteArray) (a1:Int) r,Bd a0 a1=some r->Vr KZ 208 [.str a0,i6 a1] (.tup [sf cI r.1,i6 r.2]):=by
 intro a0 a1 r H;intro ss;unfold Bd at H;refine hdh mixed Tryz.func208 (rs:=[.tmp 4,.tmp 5]) fun q tT hF hX=>?_;refine go ?_;obtain ⟨x22,g1,H⟩:=bnd H;refine Yb 4 18 22 (.bool x22) (giN q (fun q=>?_) (fun q=>?_)) (fun J=>?_)
 ·rw [if_neg (df q)] at g1;obtain ⟨x20,f1,g1⟩:=bsx g1;refine go1 ?_;refine go ?_;exact Yt 18 g1
 ·rw [if_pos (dt q)] at g1;refine go ?_;exact Yt 18 g1
 refine go ?_;refine cdb H (fun h H=>?_) (fun h H=>?_)
 ·refine go ?_;have e:=pur H;subst e;exact rt _
 ·refine go ?_;obtain ⟨o5,ho5,H⟩:=bnd H;refine Fp a0 a1 a1 _ ho5 _ rfl _ _  ?_ ?_ _ _  S hF
  ·intro DC he T7 s8 tT hF;have he:=he.symm;subst he;refine go ?_;refine cdp H (fun h H=>?_) (fun h H=>?_)
   ·refine go ?_;have e:=pur H;subst e;exact rt _
   ·obtain ⟨x47,f1,H⟩:=bss (lo:=some (i6 (i64.wrap (a1+1)))) (hi:=some (i6 DC)) rfl rfl H;refine go1 ?_;refine bp H (NA x47 44) fun x48 h H=>cl h ?_;have hF:=hF.lit 3 1 (rws cI []) rfl;refine go ?_;obtain ⟨o14,ho14,H⟩:=bnd H;refine Fq DC x48 [] 0 _ ho14 _ rfl _ _  ?_ ?_ _ _ (.sl true (rws cI [])) S hF
    ·intro AB he T16 s17 e15v0 tT hF;have he:=he.symm;subst he
     try dsimp only at H
     refine go ?_;have e:=pur H;subst e;exact rt _
    ·intro r hr s' hs;subst hr;have e:=pur H;subst e;exact hsq hs
  ·trivial
theorem NB:∀(a0:ByteArray) (a1:Int) r,Bb a0 a1=some r->Vr KZ 196 [.str a0,i6 a1] (.tup [.agg (KY r.1),i6 r.2]):=by
 intro a0 a1 r H;intro ss;unfold Bb at H;refine hdh mixed Tryz.func196 (rs:=[.cell 4 26,.tmp 5]) fun q tT hF hX=>?_;refine go ?_;refine X8 hF rfl fun b1 ss2 hF=>?_;refine go ?_;refine bp H (NF a0 a1) fun x14 h H=>cl h ?_;obtain ⟨x18,f1,H⟩:=bss (lo:=some (i6 a1)) (hi:=some (i6 x14)) rfl rfl H;refine go1 ?_;refine go ?_;refine bp H (DR x18) fun x21 h H=>cl h ?_;refine go ?_;refine cdb H (fun h H=>?_) (fun h H=>?_)
 ·refine go ?_;refine st hF 0 rfl fun ss3 hF=>?_;refine go ?_;have e:=pur H;subst e;exact rt _
 ·refine go ?_;refine cdp H (fun h H=>?_) (fun h H=>?_)
  ·refine go ?_;refine st hF 0 rfl fun ss4 hF=>?_;refine go ?_;have e:=pur H;subst e;exact rt _
  ·refine go ?_;refine bp H (ND a0 x14) fun x34 h H=>cl h ?_;refine go ?_;refine st hF 0 rfl fun ss5 hF=>?_;refine go ?_;have e:=pur H;subst e;exact rt _
theorem NC:∀(a0:ByteArray) (a1 a2:Int) r,HR a0 a1 a2=some r->Vr KZ 177 [.str a0,i6 a1,i6 a2] (.tup [.agg (KY r.1),i6 r.2]):=by
 intro a0 a1 a2;revert a1 a2;refine HR.partial_correctness a0 (motive_1:=fun a1 a2 r=>Vr KZ 177 [.str a0,i6 a1,i6 a2] (.tup [.agg (KY r.1),i6 r.2])) (motive_2:=fun a2 X5 HZ out=>∀c,Yf Tryz.f177 0=some c->∀(Q:QT) (tt:Sto) (b1 b7:Nat),(∀(YT:List Fm) (PM:Int),out=Sum.inr (YT,PM)->∀(T:TT) (ss:Sto) (e0v0:AV),T 0=.str a0/\T 1=i6 PM/\T 6=.ptr b1 0/\T 8=.ptr b7 0->Fx tt ss [(b7,⟨26,5,[i6 3,.str zB,i6 0,.Ya,e0v0]⟩),(b1,⟨26,5,[i6 0,.str zB,i6 0,.Ya,.Ya]⟩)] [⟨e0v0,26,5,rws KY YT⟩]->Q (.ex 0) ⟨T,ss⟩)->(∀r,out=Sum.inl r->∀s',Aj KZ [.cell 6 26,.tmp 7] (fun r' ss'=>r'=.tup [.agg (KY r.1),i6 r.2]/\ss'=tt) s'->Q .ret s')->∀(T:TT) (ss:Sto) (z0v0:AV),T 0=.str a0/\T 1=i6 HZ/\T 2=i6 a2/\T 6=.ptr b1 0/\T 8=.ptr b7 0->Fx tt ss [(b7,⟨26,5,[i6 3,.str zB,i6 0,.Ya,z0v0]⟩),(b1,⟨26,5,[i6 0,.str zB,i6 0,.Ya,.Ya]⟩)] [⟨z0v0,26,5,rws KY X5⟩]->aLp KZ c Q ⟨T,ss⟩) ?_ ?_
 ·intro Hu L0 a1 a2 r H;intro ss;refine hdh mixed Tryz.func177 (rs:=[.cell 6 26,.tmp 7]) fun q tT hF hX=>?_;refine go ?_;refine X8 hF rfl fun b1 ss2 hF=>?_;refine go ?_;refine bp H (Aw a0 a1) fun x13 h H=>cl h ?_;refine go ?_;obtain ⟨x21,g3,H⟩:=bnd H;refine Yb 2 19 21 (.bool x21) (giN q (fun q=>?_) (fun q=>?_)) (fun J=>?_)
  ·refine go ?_;exact Yt 19 g3
  ·refine go ?_;exact Yt 19 g3
  refine go ?_;refine cdb H (fun h H=>?_) (fun h H=>?_)
  ·refine go ?_;refine st hF 0 rfl fun ss5 hF=>?_;refine go ?_;have e:=pur H;subst e;exact rt _
  ·obtain ⟨x25,f1,H⟩:=bsx H;refine go1 ?_;refine go ?_;refine cdn H (fun h H=>?_) (fun h H=>?_)
   ·refine go ?_;refine bp H (NB a0 x13) fun x29 h H=>cl h ?_;refine go ?_;refine st hF 0 rfl fun ss6 hF=>?_;refine go ?_;have e:=pur H;subst e;exact rt _
   ·refine go ?_;refine X8 hF rfl fun b7 s8 hF=>?_;refine go ?_;refine st hF 0 rfl fun s9 hF=>?_;refine go ?_;obtain ⟨x36,hx36,H⟩:=bnd H;refine cl (Aw a0 (i64.wrap (x13+1)) _ hx36) ?_;have hF:=hF.nil 26 5;refine go ?_;obtain ⟨o21,ho21,H⟩:=bnd H;refine L0 a2 [] x36 _ ho21 _ rfl _ _ b1 b7 ?_ ?_ _ _ .Ya S hF
    ·intro CA PU he T23 s24 e22v0 tT hF;have he:=he.symm;subst he
     try dsimp only at H
     refine go ?_;obtain ⟨x82,g26,H⟩:=bnd H;refine Yb 4 78 82 (.bool x82) (giN q (fun q=>?_) (fun q=>?_)) (fun J=>?_)
     ·rw [if_neg (df q)] at g26;obtain ⟨x80,f1,g26⟩:=bsx g26;refine go1 ?_;refine go ?_;exact Yt 78 g26
     ·rw [if_pos (dt q)] at g26;refine go ?_;exact Yt 78 g26
     refine go ?_;refine cdb H (fun h H=>?_) (fun h H=>?_)
     ·refine go ?_;refine st hF 1 rfl fun s28 hF=>?_;refine go ?_;have e:=pur H;subst e;exact rt _
     ·refine go ?_;refine st hF 1 rfl fun s29 hF=>?_;refine go ?_;have e:=pur H;subst e;exact rt _
    ·intro r hr s' hs;subst hr;have e:=pur H;subst e;exact hsq hs
 ·intro HR Hu C0 L0 a2 X5 HZ out H c hc Q tt b1 b7 hE hR T ss z0v0 tT hF;refine lpx tt hc rfl fun q hX=>go ?_;obtain ⟨x46,g10,H⟩:=bnd H;refine Yb 4 42 46 (.bool x46) (gi q (fun q=>?_) (fun q=>?_)) (fun J=>?_)
  ·rw [if_pos (dt q)] at g10;obtain ⟨x44,f1,g10⟩:=bsx g10;refine go1 ?_;refine go ?_;exact Yt 42 g10
  ·rw [if_neg (df q)] at g10;refine go ?_;exact Yt 42 g10
  refine go ?_;obtain ⟨x52,g12,H⟩:=bnd H;refine Yb 4 48 52 (.bool x52) (gi q (fun q=>?_) (fun q=>?_)) (fun J=>?_)
  ·refine go ?_;exact Yt 48 g12
  ·refine go ?_;exact Yt 48 g12
  refine go ?_;refine cdb H (fun h H=>?_) (fun h H=>?_)
  ·refine go ?_;obtain ⟨x58,hx58,H⟩:=bnd H;refine cl (C0 HZ (i64.wrap (a2 - 1)) _ hx58) ?_;refine go ?_;refine X8 hF rfl fun b14 s15 hF=>?_;refine go ?_;refine st hF 0 rfl fun s16 hF=>?_;refine go ?_;refine cdp H (fun h H=>?_) (fun h H=>?_)
   ·refine go ?_;refine st hF 2 rfl fun s17 hF=>?_;refine go ?_;exact wq (hR _ (pur H).symm _ (rt _))
   ·refine go ?_;refine apd (g:=KY) hF 0 H (rdo (c:=true) (g:=KY) Fm.X6) fun x68 H v18 s19 hF=>?_;refine go ?_;refine st hF 1 (hF.cells 0 rfl) fun s20 hF=>?_;refine go ?_;refine bp H (Aw a0 x58.2) fun x72 h H=>cl h ?_;refine go ?_;exact L0 a2 x68 x72 _ H _ rfl Q tt b1 b7 hE hR _ _ v18 S (hF.drop 1 0)
  ·refine go ?_;exact wq (hE _ _ (pur H).symm _ _ z0v0 S hF)
theorem Lh:∀(a0:Int) (a1:Bool) r,Hf a0 a1=some r->Vr KZ 132 [.int .u8 a0,.bool a1] (.bool r):=by
 intro a0 a1 r H;intro ss;unfold Hf at H;refine hdh mixed Tryz.func132 (rs:=[.tmp 4]) fun q tT hF hX=>?_;refine go ?_;obtain ⟨x10,g1,H⟩:=bnd H;refine Yb 2 8 10 (.bool x10) (gi q (fun q=>?_) (fun q=>?_)) (fun J=>?_)
 ·refine go ?_;exact Yt 8 g1
 ·refine go ?_;exact Yt 8 g1
 refine go ?_;obtain ⟨x14,g3,H⟩:=bnd H;refine Yb 2 12 14 (.bool x14) (giN q (fun q=>?_) (fun q=>?_)) (fun J=>?_)
 ·refine go ?_;exact Yt 12 g3
 ·refine go ?_;exact Yt 12 g3
 refine go ?_;obtain ⟨x18,g5,H⟩:=bnd H;refine Yb 2 16 18 (.bool x18) (giN q (fun q=>?_) (fun q=>?_)) (fun J=>?_)
 ·refine go ?_;exact Yt 16 g5
 ·refine go ?_;exact Yt 16 g5
 refine go ?_;obtain ⟨x22,g7,H⟩:=bnd H;refine Yb 2 20 22 (.bool x22) (giN q (fun q=>?_) (fun q=>?_)) (fun J=>?_)
 ·refine go ?_;exact Yt 20 g7
 ·refine go ?_;exact Yt 20 g7
 refine go ?_;obtain ⟨x26,g9,H⟩:=bnd H;refine Yb 2 24 26 (.bool x26) (giN q (fun q=>?_) (fun q=>?_)) (fun J=>?_)
 ·refine go ?_;exact Yt 24 g9
 ·refine go ?_;exact Yt 24 g9
 refine go ?_;obtain ⟨x30,g11,H⟩:=bnd H;refine Yb 2 28 30 (.bool x30) (giN q (fun q=>?_) (fun q=>?_)) (fun J=>?_)
 ·refine go ?_;exact Yt 28 g11
 ·refine go ?_;exact Yt 28 g11
 refine go ?_;refine cdb H (fun h H=>?_) (fun h H=>?_)
 ·refine go ?_;have e:=pur H;subst e;exact rt _
 ·refine go ?_;obtain ⟨x44,g13,H⟩:=bnd H;refine Yb 10 34 44 (.bool x44) (gi q (fun q=>?_) (fun q=>?_)) (fun J=>?_)
  ·rw [if_pos (dbt q)] at g13;refine go ?_;obtain ⟨x39,g15,g13⟩:=bnd g13;refine Yb 2 37 39 (.bool x39) (gi q (fun q=>?_) (fun q=>?_)) (fun J=>?_)
   ·refine go ?_;exact Yt 37 g15
   ·refine go ?_;exact Yt 37 g15
   refine go ?_;obtain ⟨x43,g17,g13⟩:=bnd g13;refine Yb 2 41 43 (.bool x43) (giN q (fun q=>?_) (fun q=>?_)) (fun J=>?_)
   ·refine go ?_;exact Yt 41 g17
   ·refine go ?_;exact Yt 41 g17
   refine go ?_;exact Yt 34 g13
  ·rw [if_neg (dbf q)] at g13;refine go ?_;exact Yt 34 g13
  refine go ?_;have e:=pur H;subst e;exact rt _
theorem DH:∀(a0:ByteArray) (YC:Int) out,Vn a0 YC=some out->∀c,Yf Tryz.f93 0=some c->∀(Q:QT) (tt:Sto),(∀(_u:Unit),out=Sum.inr ()->∀(T:TT) (ss:Sto),T 0=.str a0->Fx tt ss [] []->Q (.ex 0) ⟨T,ss⟩)->(∀r,out=Sum.inl r->∀s',Aj KZ [.tmp 2] (fun r' ss'=>r'=.bool r/\ss'=tt) s'->Q .ret s')->∀(T:TT) (ss:Sto),T 0=.str a0/\T 3=i6 YC->Fx tt ss [] []->aLp KZ c Q ⟨T,ss⟩:=by
 intro a0 YC;revert YC;refine Vn.partial_correctness a0 _ ?_;intro Vn IH YC out H c hc Q tt  hE hR T ss tT hF;refine lpx tt hc rfl fun q hX=>go ?_;obtain ⟨x17,g3,H⟩:=bnd H;refine Yb 2 15 17 (.bool x17) (gi q (fun q=>?_) (fun q=>?_)) (fun J=>?_)
 ·refine go ?_;exact Yt 15 g3
 ·refine go ?_;exact Yt 15 g3
 refine go ?_;refine cdb H (fun h H=>?_) (fun h H=>?_)
 ·obtain ⟨x22,f1,H⟩:=bsx H;refine go1 ?_;obtain ⟨x25,hx25,H⟩:=bnd H;refine cl (Lh x22 (decide (YC=0)) _ hx25) ?_;refine go ?_;refine cdb H (fun h H=>?_) (fun h H=>?_)
  ·refine go ?_;exact wq (hR _ (pur H).symm _ (rt _))
  ·refine go ?_;exact IH  (i64.wrap (YC+1)) _ H _ rfl Q tt  hE hR _ _  S hF
 ·refine go ?_;exact wq (hE () (pur H).symm _ _  S hF)
theorem Am:∀(a0:ByteArray) r,WX a0=some r->Vr KZ 93 [.str a0] (.bool r):=by
 intro a0 r H;intro ss;unfold WX at H;refine hdh mixed Tryz.func93 (rs:=[.tmp 2]) fun q tT hF hX=>?_;refine go ?_;obtain ⟨x9,g1,H⟩:=bnd H;refine Yb 2 7 9 (.bool x9) (giN q (fun q=>?_) (fun q=>?_)) (fun J=>?_)
 ·refine go ?_;exact Yt 7 g1
 ·refine go ?_;exact Yt 7 g1
 refine go ?_;refine cdb H (fun h H=>?_) (fun h H=>?_)
 ·refine go ?_;have e:=pur H;subst e;exact rt _
 ·refine go ?_;obtain ⟨o5,ho5,H⟩:=bnd H;refine DH a0 0 _ ho5 _ rfl _ _  ?_ ?_ _ _  S hF
  ·intro _ he T7 s8 tT hF;have he:=he.symm;subst he
   try dsimp only at H
   refine go ?_;obtain ⟨x34,g10,H⟩:=bnd H;refine Yb 3 31 34 (.bool x34) (gi q (fun q=>?_) (fun q=>?_)) (fun J=>?_)
   ·refine go ?_;exact Yt 31 g10
   ·refine go ?_;exact Yt 31 g10
   refine go ?_;have e:=pur H;subst e;exact rt _
  ·intro r hr s' hs;subst hr;have e:=pur H;subst e;exact hsq hs
theorem Eh:∀(a0:List Int) (YC:Int) out,Vs a0 YC=some out->∀c,Yf Tryz.f94 0=some c->∀(Q:QT) (tt:Sto),(∀(_u:Unit),out=Sum.inr ()->∀(T:TT) (ss:Sto),T 0=sf cI a0->Fx tt ss [] []->Q (.ex 0) ⟨T,ss⟩)->(∀r,out=Sum.inl r->∀s',Aj KZ [.tmp 2] (fun r' ss'=>r'=.bool r/\ss'=tt) s'->Q .ret s')->∀(T:TT) (ss:Sto),T 0=sf cI a0/\T 3=i6 YC->Fx tt ss [] []->aLp KZ c Q ⟨T,ss⟩:=by
 intro a0 YC;revert YC;refine Vs.partial_correctness a0 _ ?_;intro Vs IH YC out H c hc Q tt  hE hR T ss tT hF;refine lpx tt hc rfl fun q hX=>go ?_;obtain ⟨x11,g1,H⟩:=bnd H;refine Yb 2 9 11 (.bool x11) (gi q (fun q=>?_) (fun q=>?_)) (fun J=>?_)
 ·refine go ?_;exact Yt 9 g1
 ·refine go ?_;exact Yt 9 g1
 refine go ?_;refine cdb H (fun h H=>?_) (fun h H=>?_)
 ·refine go ?_;refine Ye E0 [.v,.v,.v,.v,.v,.v,.v,.v,.v,.v,.v,.v,.v,.v,.v,.v,.v,.v,.v,.v,.v,.v,.v,.v,.v,.v,.v,.v] (by kernel_rfl) ?_;obtain ⟨x16,f1,H⟩:=bil (g:=cI) (fun _=>rfl) H;refine go1 ?_;obtain ⟨x25,g3,H⟩:=bnd H;refine Jb 5 20 25 (.bool x25) (tiN q (fun q=>?_) (fun q=>?_)) (fun J=>?_)
  ·rw [if_neg (df q)] at g3;obtain ⟨x22,f1,g3⟩:=bil (g:=cI) (fun _=>rfl) g3;refine go1 ?_;refine go ?_;exact Yt 20 g3
  ·rw [if_pos (dt q)] at g3;refine go ?_;exact Yt 20 g3
  refine go ?_;obtain ⟨x41,g5,H⟩:=bnd H;refine Jb 14 27 41 (.bool x41) (tiN q (fun q=>?_) (fun q=>?_)) (fun J=>?_)
  ·rw [if_neg (dbf q)] at g5;refine go ?_;obtain ⟨x40,g7,g5⟩:=bnd g5;refine Jb 10 30 40 (.bool x40) (ti q (fun q=>?_) (fun q=>?_)) (fun J=>?_)
   ·rw [if_pos (dt q)] at g7;obtain ⟨x32,f1,g7⟩:=bil (g:=cI) (fun _=>rfl) g7;obtain ⟨x37,f2,g7⟩:=bil (g:=cI) (fun _=>rfl) g7;refine go2 ?_;refine go ?_;exact Yt 30 g7
   ·rw [if_neg (df q)] at g7;refine go ?_;exact Yt 30 g7
   refine go ?_;exact Yt 27 g5
  ·rw [if_pos (dbt q)] at g5;refine go ?_;exact Yt 27 g5
  refine go ?_;refine cdb H (fun h H=>?_) (fun h H=>?_)
  ·refine go ?_;exact wq (hR _ (pur H).symm _ (rt _))
  ·refine go ?_;exact IH  (i64.wrap (YC+1)) _ H _ rfl Q tt  hE hR _ _  S hF
 ·refine go ?_;exact wq (hE () (pur H).symm _ _  S hF)
theorem CF:∀(a0:List Int) r,Gh a0=some r->Vr KZ 94 [sf cI a0] (.bool r):=by
 intro a0 r H;intro ss;unfold Gh at H;refine hdh mixed Tryz.func94 (rs:=[.tmp 2]) fun q tT hF hX=>?_;refine go ?_;obtain ⟨o9,ho9,H⟩:=bnd H;refine Eh a0 0 _ ho9 _ rfl _ _  ?_ ?_ _ _  S hF
 ·intro _ he T11 s12 tT hF;have he:=he.symm;subst he
  try dsimp only at H
  refine go ?_;have e:=pur H;subst e;exact rt _
 ·intro r hr s' hs;subst hr;have e:=pur H;subst e;exact hsq hs
theorem Rx:∀(a0:Fm) (a1:Int) r,Hp a0 a1=some r->Vr KZ 63 [.agg (KY a0),i6 a1] (.bool r):=by
 refine Hp.partial_correctness _ (motive_2:=fun a0 a1 Yh out=>∀c,Yf Tryz.f63 0=some c->∀(Q:QT) (tt:Sto) (b1:Nat),(∀(_u:Unit),out=Sum.inr ()->∀(T:TT) (ss:Sto),0+0=0->Fx tt ss [(b1,⟨26,5,[i6 a0.kind,.str a0.name,i6 a0.num,sf cI a0.sc,sf KY a0.kids]⟩)] []->Q (.ex 1) ⟨T,ss⟩)->(∀r,out=Sum.inl r->∀s',Aj KZ [.tmp 4] (fun r' ss'=>r'=.bool r/\ss'=tt) s'->Q .ret s')->∀(T:TT) (ss:Sto),T 1=i6 a1/\T 2=.ptr b1 0/\T 5=i6 Yh->Fx tt ss [(b1,⟨26,5,[i6 a0.kind,.str a0.name,i6 a0.num,sf cI a0.sc,sf KY a0.kids]⟩)] []->aLp KZ c Q ⟨T,ss⟩) ?_ ?_
 ·intro JJ L0 a0 a1 r H;intro ss;refine hdh mixed Tryz.func63 (rs:=[.tmp 4]) fun q tT hF hX=>?_;refine go ?_;refine X8 hF rfl fun b1 ss2 hF=>?_;refine go ?_;refine cdp H (fun h H=>?_) (fun h H=>?_)
  ·refine go ?_;have e:=pur H;subst e;exact rt _
  ·refine go ?_;refine cdp H (fun h H=>?_) (fun h H=>?_)
   ·refine go ?_;refine bp H (Am a0.name) fun x14 h H=>cl h ?_;refine go ?_;obtain ⟨x19,g3,H⟩:=bnd H;refine Yb 3 16 19 (.bool x19) (gi q (fun q=>?_) (fun q=>?_)) (fun J=>?_)
    ·refine go ?_;exact Yt 16 g3
    ·refine go ?_;exact Yt 16 g3
    refine go ?_;obtain ⟨x24,g5,H⟩:=bnd H;refine Yb 3 21 24 (.bool x24) (gi q (fun q=>?_) (fun q=>?_)) (fun J=>?_)
    ·rw [if_pos (dbt q)] at g5;refine go ?_;obtain ⟨x23,hx23,g5⟩:=bnd g5;refine cl (CF a0.sc _ hx23) ?_;refine go ?_;exact Yt 21 g5
    ·rw [if_neg (dbf q)] at g5;refine go ?_;exact Yt 21 g5
    refine go ?_;obtain ⟨x30,g7,H⟩:=bnd H;refine Yb 4 26 30 (.bool x30) (gi q (fun q=>?_) (fun q=>?_)) (fun J=>?_)
    ·refine go ?_;exact Yt 26 g7
    ·refine go ?_;exact Yt 26 g7
    refine go ?_;have e:=pur H;subst e;exact rt _
   ·refine go ?_;refine cdp H (fun h H=>?_) (fun h H=>?_)
    ·refine go ?_;obtain ⟨x40,g9,H⟩:=bnd H;refine Yb 3 37 40 (.bool x40) (gi q (fun q=>?_) (fun q=>?_)) (fun J=>?_)
     ·refine go ?_;exact Yt 37 g9
     ·refine go ?_;exact Yt 37 g9
     refine go ?_;obtain ⟨x45,g11,H⟩:=bnd H;refine Yb 3 42 45 (.bool x45) (gi q (fun q=>?_) (fun q=>?_)) (fun J=>?_)
     ·refine go ?_;exact Yt 42 g11
     ·refine go ?_;exact Yt 42 g11
     refine go ?_;obtain ⟨x51,g13,H⟩:=bnd H;refine Yb 4 47 51 (.bool x51) (gi q (fun q=>?_) (fun q=>?_)) (fun J=>?_)
     ·refine go ?_;exact Yt 47 g13
     ·refine go ?_;exact Yt 47 g13
     refine go ?_;obtain ⟨x57,g15,H⟩:=bnd H;refine Yb 4 53 57 (.bool x57) (gi q (fun q=>?_) (fun q=>?_)) (fun J=>?_)
     ·refine go ?_;exact Yt 53 g15
     ·refine go ?_;exact Yt 53 g15
     refine go ?_;have e:=pur H;subst e;exact rt _
    ·refine go ?_;obtain ⟨x65,g17,H⟩:=bnd H;refine Yb 3 62 65 (.bool x65) (giN q (fun q=>?_) (fun q=>?_)) (fun J=>?_)
     ·refine go ?_;exact Yt 62 g17
     ·refine go ?_;exact Yt 62 g17
     refine go ?_;obtain ⟨x70,g19,H⟩:=bnd H;refine Yb 3 67 70 (.bool x70) (giN q (fun q=>?_) (fun q=>?_)) (fun J=>?_)
     ·refine go ?_;exact Yt 67 g19
     ·refine go ?_;exact Yt 67 g19
     refine go ?_;obtain ⟨x76,g21,H⟩:=bnd H;refine Yb 4 72 76 (.bool x76) (giN q (fun q=>?_) (fun q=>?_)) (fun J=>?_)
     ·refine go ?_;exact Yt 72 g21
     ·refine go ?_;exact Yt 72 g21
     refine go ?_;refine cdb H (fun h H=>?_) (fun h H=>?_)
     ·refine go ?_;have e:=pur H;subst e;exact rt _
     ·refine go ?_;obtain ⟨o23,ho23,H⟩:=bnd H;refine L0 a0 a1 0 _ ho23 _ rfl _ _ b1 ?_ ?_ _ _  S hF
      ·intro _ he T25 s26 tT hF;have he:=he.symm;subst he
       try dsimp only at H
       refine go ?_;have e:=pur H;subst e;exact rt _
      ·intro r hr s' hs;subst hr;have e:=pur H;subst e;exact hsq hs
 ·intro Hp JJ C0 L0 a0 a1 Yh out H c hc Q tt b1 hE hR T ss tT hF;refine lpx tt hc rfl fun q hX=>go ?_;refine cdp H (fun h H=>?_) (fun h H=>?_)
  ·obtain ⟨x87,f1,H⟩:=bil (g:=KY) Fm.X6 H;refine go1 ?_;obtain ⟨x91,hx91,H⟩:=bnd H;refine cl (C0 x87 (i64.wrap (a1 - 1)) _ hx91) ?_;refine go ?_;refine cdb H (fun h H=>?_) (fun h H=>?_)
   ·refine go ?_;exact wq (hR _ (pur H).symm _ (rt _))
   ·refine go ?_;exact L0 a0 a1 (i64.wrap (Yh+1)) _ H _ rfl Q tt b1 hE hR _ _  S hF
  ·refine go ?_;exact wq (hE () (pur H).symm _ _  S hF)
theorem Dg:∀(a0:Fm) r,JI a0=some r->Vr KZ 64 [.agg (KY a0)] (i6 r):=by
 refine JI.partial_correctness _ (motive_2:=fun a0 YC YH out=>∀c,Yf Tryz.f64 0=some c->∀(Q:QT) (tt:Sto) (b1:Nat),(∀(PN:Int),out=PN->∀(T:TT) (ss:Sto),T 3=i6 PN->Fx tt ss [(b1,⟨26,5,[i6 a0.kind,.str a0.name,i6 a0.num,sf cI a0.sc,sf KY a0.kids]⟩)] []->Q (.ex 0) ⟨T,ss⟩)->True->∀(T:TT) (ss:Sto),T 1=.ptr b1 0/\T 3=i6 YC/\T 4=i6 YH->Fx tt ss [(b1,⟨26,5,[i6 a0.kind,.str a0.name,i6 a0.num,sf cI a0.sc,sf KY a0.kids]⟩)] []->aLp KZ c Q ⟨T,ss⟩) ?_ ?_
 ·intro VX L0 a0 r H;intro ss;refine hdh mixed Tryz.func64 (rs:=[.tmp 2]) fun q tT hF hX=>?_;refine go ?_;refine X8 hF rfl fun b1 ss2 hF=>?_;refine go ?_;obtain ⟨o3,ho3,H⟩:=bnd H;refine L0 a0 1 0 _ ho3 _ rfl _ _ b1 ?_ ?_ _ _  S hF
  ·intro Sh he T5 ss6 tT hF;have he:=he.symm;subst he;refine go ?_;have e:=pur H;subst e;exact rt _
  ·trivial
 ·intro JI VX C0 L0 a0 YC YH out H c hc Q tt b1 hE hR T ss tT hF;refine lpx tt hc rfl fun q hX=>go ?_;refine cdp H (fun h H=>?_) (fun h H=>?_)
  ·obtain ⟨x16,f1,H⟩:=bil (g:=KY) Fm.X6 H;refine go1 ?_;refine bp H (C0 x16) fun x18 h H=>cl h ?_;refine go ?_;exact L0 a0 (i64.wrap (YC+x18)) (i64.wrap (YH+1)) _ H _ rfl Q tt b1 hE hR _ _  S hF
  ·refine go ?_;exact wq (hE _ (pur H).symm _ _  S hF)
theorem YA:∀(a0:Fm) r,Yu a0=some r->Vr KZ 31 [.agg (KY a0)] (.bool r):=by
 intro a0 r H;intro ss;unfold Yu at H;refine hdh mixed Tryz.func31 (rs:=[.tmp 2]) fun q tT hF hX=>?_;refine go ?_;refine X8 hF rfl fun b1 ss2 hF=>?_;refine go ?_;refine bp H (Rx a0 40) fun x4 h H=>cl h ?_;refine go ?_;obtain ⟨x9,g3,H⟩:=bnd H;refine Yb 3 6 9 (.bool x9) (gi q (fun q=>?_) (fun q=>?_)) (fun J=>?_)
 ·rw [if_pos (dbt q)] at g3;refine go ?_;obtain ⟨x7,hx7,g3⟩:=bnd g3;refine cl (Dg a0 _ hx7) ?_;refine go ?_;exact Yt 6 g3
 ·rw [if_neg (dbf q)] at g3;refine go ?_;exact Yt 6 g3
 refine go ?_;have e:=pur H;subst e;exact rt _
theorem Fh:∀(a0:ByteArray) r,Iv a0=some r->Vr KZ 153 [.str a0] (.tup [.agg (KY r.1),.bool r.2]):=by
 intro a0 r H;intro ss;unfold Iv at H;refine hdh mixed Tryz.func153 (rs:=[.cell 2 26,.tmp 3]) fun q tT hF hX=>?_;refine go ?_;refine X8 hF rfl fun b1 ss2 hF=>?_;refine go ?_;refine bp H (NC a0 0 40) fun x8 h H=>cl h ?_;refine go ?_;refine X8 hF rfl fun b3 ss4 hF=>?_;refine go ?_;refine st hF 0 rfl fun ss5 hF=>?_;refine go ?_;obtain ⟨x20,g6,H⟩:=bnd H;refine Yb 6 14 20 (.bool x20) (giN q (fun q=>?_) (fun q=>?_)) (fun J=>?_)
 ·rw [if_neg (df q)] at g6;refine go ?_;obtain ⟨x16,hx16,g6⟩:=bnd g6;refine cl (Aw a0 x8.2 _ hx16) ?_;refine go ?_;exact Yt 14 g6
 ·rw [if_pos (dt q)] at g6;refine go ?_;exact Yt 14 g6
 refine go ?_;obtain ⟨x25,g8,H⟩:=bnd H;refine Yb 3 22 25 (.bool x25) (giN q (fun q=>?_) (fun q=>?_)) (fun J=>?_)
 ·rw [if_neg (dbf q)] at g8;refine go ?_;obtain ⟨x23,hx23,g8⟩:=bnd g8;refine cl (YA x8.1 _ hx23) ?_;refine go ?_;exact Yt 22 g8
 ·rw [if_pos (dbt q)] at g8;refine go ?_;exact Yt 22 g8
 refine go ?_;refine cdb H (fun h H=>?_) (fun h H=>?_)
 ·refine go ?_;refine st hF 1 rfl fun s10 hF=>?_;refine go ?_;have e:=pur H;subst e;exact rt _
 ·refine go ?_;refine st hF 1 rfl fun s11 hF=>?_;refine go ?_;have e:=pur H;subst e;exact rt _
theorem Bc:∀(a0:ByteArray) r,HQ a0=some r->Vr KZ 129 [.str a0] (.agg (KY r)):=by
 intro a0 r H;intro ss;unfold HQ at H;refine hdh mixed Tryz.func129 (rs:=[.cell 2 26]) fun q tT hF hX=>?_;refine go ?_;refine X8 hF rfl fun b1 ss2 hF=>?_;refine go ?_;refine bp H (Fh a0) fun x7 h H=>cl h ?_;refine go ?_;refine X8 hF rfl fun b3 ss4 hF=>?_;refine go ?_;refine st hF 0 rfl fun ss5 hF=>?_;refine go ?_;refine st hF 1 rfl fun ss6 hF=>?_;refine go ?_;have e:=pur H;subst e;exact rt _
theorem MW:∀  r,BL  = some r->Vr KZ 140 [] (sf cS r):=by
 intro  r H;intro ss;unfold BL at H;refine hdh mixed Tryz.func140 (rs:=[.tmp 0]) fun q tT hF hX=>?_;refine goL ?_;have e:=pur H;subst e;exact rt _
theorem Y6:∀(a1:List Int) (c0:Rdr) r,YM a1 c0=some r->∀(e0:Nat)  (ss:Sto),Pre ss [(e0,⟨89,2,[sf cU c0.b,i6 c0.p]⟩)] []->Ctr KZ 57 [.ptr e0 0,sf cI a1] ss (fun r' ss'=>∃(tt':Sto),r'=i6 r.1/\Tau (strip ss []) [(e0,⟨89,2,[sf cU r.2.b,i6 r.2.p]⟩)] tt'/\Fx tt' ss' [] []):=by
 intro a1 c0 r H;intro e0  ss hP;unfold YM at H;refine hdg mixed Tryz.func57 (rs:=[.tmp 4]) fun q tT=>?_;obtain ⟨hF,hX⟩:=hP.start;generalize strip ss []=tt0 at hF hX ⊢;refine go ?_;obtain ⟨x9,hx9,H⟩:=bnd H;refine cx (Ys (a1.length:Int) c0 _ hx9 e0  _ (pre 0 1 0 hF hX)) ?_;rintro _ ss1 ⟨tt2,rfl,hT,hG⟩;obtain ⟨tt3,hX,hF⟩:=aft 0 1 0 hF hX hT hG;obtain ⟨x10,f1,H⟩:=bil (g:=cI) (fun _=>rfl) H;refine go1 ?_;refine go ?_;have e:=pur H;subst e;exact rg _ ⟨_,rfl,hX,K3 _⟩
theorem VG:∀(a0:ByteArray) r,VD a0=some r->Vr KZ 44 [.str a0] (.agg (KY r)):=by
 intro a0 r H;intro ss;unfold VD at H;refine hdh mixed Tryz.func44 (rs:=[.cell 2 26]) fun q tT hF hX=>?_;refine go ?_;refine X8 hF rfl fun b1 ss2 hF=>?_;refine go ?_;refine st hF 0 rfl fun ss3 hF=>?_;refine go ?_;have e:=pur H;subst e;exact rt _
theorem Hn:∀(a1:List ByteArray) (c0:Rdr) r,Wv a1 c0=some r->∀(e0:Nat)  (ss:Sto),Pre ss [(e0,⟨89,2,[sf cU c0.b,i6 c0.p]⟩)] []->Ctr KZ 45 [.ptr e0 0,sf cS a1] ss (fun r' ss'=>∃(tt':Sto),r'=.str r.1/\Tau (strip ss []) [(e0,⟨89,2,[sf cU r.2.b,i6 r.2.p]⟩)] tt'/\Fx tt' ss' [] []):=by
 intro a1 c0 r H;intro e0  ss hP;unfold Wv at H;refine hdg mixed Tryz.func45 (rs:=[.tmp 4]) fun q tT=>?_;obtain ⟨hF,hX⟩:=hP.start;generalize strip ss []=tt0 at hF hX ⊢;refine go ?_;obtain ⟨x9,hx9,H⟩:=bnd H;refine cx (Ys (a1.length:Int) c0 _ hx9 e0  _ (pre 0 1 0 hF hX)) ?_;rintro _ ss1 ⟨tt2,rfl,hT,hG⟩;obtain ⟨tt3,hX,hF⟩:=aft 0 1 0 hF hX hT hG;obtain ⟨x10,f1,H⟩:=bil (g:=cS) (fun _=>rfl) H;refine go1 ?_;refine go ?_;have e:=pur H;subst e;exact rg _ ⟨_,rfl,hX,K3 _⟩
theorem VY:∀(a0:List Fm) r,Ww a0=some r->Vr KZ 142 [sf KY a0] (.agg (KY r)):=by
 intro a0 r H;intro ss;unfold Ww at H;refine hdh mixed Tryz.func142 (rs:=[.cell 2 26]) fun q tT hF hX=>?_;refine go ?_;refine X8 hF rfl fun b1 ss2 hF=>?_;refine go ?_;refine st hF 0 rfl fun ss3 hF=>?_;refine go ?_;have e:=pur H;subst e;exact rt _
theorem DT:∀(a1:Int) (c0:Rdr) r,GD a1 c0=some r->∀(e0:Nat)  (ss:Sto),Pre ss [(e0,⟨89,2,[sf cU c0.b,i6 c0.p]⟩)] []->Ctr KZ 23 [.ptr e0 0,i6 a1] ss (fun r' ss'=>∃(tt':Sto),r'=.agg (KY r.1)/\Tau (strip ss []) [(e0,⟨89,2,[sf cU r.2.b,i6 r.2.p]⟩)] tt'/\Fx tt' ss' [] []):=by
 refine GD.partial_correctness _ (motive_2:=fun a1 X5 YI G4 Au out=>∀c,Yf Tryz.f23 0=some c->∀(Q:QT) (tt0:Sto) (e0 b1 b22:Nat),(∀(YT:List Fm) (CS:List Int) (Mb:Int),out=(YT,CS,Mb)->∀(T:TT) (ss tt:Sto) (e0v0:AV),T 4=.ptr b1 0/\T 5=.ptr b22 0->Tau tt0 [(e0,⟨89,2,[sf cU CS,i6 Mb]⟩)] tt->Fx tt ss [(b22,⟨26,5,[i6 3,.str zB,i6 0,.Ya,e0v0]⟩),(b1,⟨26,5,[i6 0,.str zB,i6 0,.Ya,.Ya]⟩)] [⟨e0v0,26,5,rws KY YT⟩]->Q (.ex 0) ⟨T,ss⟩)->True->∀(T:TT) (ss tt:Sto) (z0v0:AV),T 0=.ptr e0 0/\T 1=i6 a1/\T 4=.ptr b1 0/\T 5=.ptr b22 0/\T 6=i6 YI->Tau tt0 [(e0,⟨89,2,[sf cU G4,i6 Au]⟩)] tt->Fx tt ss [(b22,⟨26,5,[i6 3,.str zB,i6 0,.Ya,z0v0]⟩),(b1,⟨26,5,[i6 0,.str zB,i6 0,.Ya,.Ya]⟩)] [⟨z0v0,26,5,rws KY X5⟩]->aLp KZ c Q ⟨T,ss⟩) ?_ ?_
 ·intro GF L0 a1 c0 r H;intro e0  ss hP;refine hdg mixed Tryz.func23 (rs:=[.cell 4 26]) fun q tT=>?_;obtain ⟨hF,hX⟩:=hP.start;generalize strip ss []=tt0 at hF hX ⊢;refine go ?_;refine X8 hF rfl fun b1 ss2 hF=>?_;refine go ?_;refine giN q (fun q=>?_) (fun q=>?_)
  ·rw [if_neg (df q)] at H;refine go ?_;obtain ⟨U2,hx11_1,H⟩:=bnd H;refine cx (Ys 3 c0 _ hx11_1 e0  _ (pre 0 1 0 hF hX)) ?_;rintro _ s8 ⟨tt9,rfl,hT,hG⟩;obtain ⟨t10,hX,hF⟩:=aft 0 1 0 hF hX hT hG;refine go ?_;refine cdp H (fun h H=>?_) (fun h H=>?_)
   ·refine go ?_;obtain ⟨x15,hx15,H⟩:=bnd H;refine cx (Ys 4 U2.2 _ hx15 e0  _ (pre 0 1 0 hF hX)) ?_;rintro _ s11 ⟨t12,rfl,hT,hG⟩;obtain ⟨t13,hX,hF⟩:=aft 0 1 0 hF hX hT hG;refine go ?_;refine cdp H (fun h H=>?_) (fun h H=>?_)
    ·refine go ?_;obtain ⟨x19,hx19,H⟩:=bnd H;refine cx (Y6 [0,1,2,7,42,999] x15.2 _ hx19 e0  _ (pre 0 1 0 hF hX)) ?_;rintro _ s14 ⟨t15,rfl,hT,hG⟩;obtain ⟨t16,hX,hF⟩:=aft 0 1 0 hF hX hT hG;refine go ?_;refine st hF 0 rfl fun s17 hF=>?_;refine go ?_;have e:=pur H;subst e;exact rg _ ⟨_,rfl,hX,K3 _⟩
    ·refine go ?_;obtain ⟨x23,hx23,H⟩:=bnd H;refine cx (Hn [(Qk #[97]),(Qk #[98]),(Qk #[120]),(Qk #[121]),(Qk #[102]),(Qk #[105,102]),(Qk #[108,101,116]),(Qk #[43])] x15.2 _ hx23 e0  _ (pre 0 1 0 hF hX)) ?_;rintro _ s18 ⟨t19,rfl,hT,hG⟩;obtain ⟨t20,hX,hF⟩:=aft 0 1 0 hF hX hT hG;refine go ?_;refine bp H (VG x23.1) fun x24 h H=>cl h ?_;refine go ?_;refine st hF 0 rfl fun s21 hF=>?_;refine go ?_;have e:=pur H;subst e;exact rg _ ⟨_,rfl,hX,K3 _⟩
   ·refine go ?_;refine X8 hF rfl fun b22 s23 hF=>?_;refine go ?_;refine st hF 0 rfl fun s24 hF=>?_;refine go ?_;obtain ⟨x27,hx27,H⟩:=bnd H;refine cx (Ys 4 U2.2 _ hx27 e0  _ (pre 0 1 0 hF hX)) ?_;rintro _ s25 ⟨t26,rfl,hT,hG⟩;obtain ⟨t27,hX,hF⟩:=aft 0 1 0 hF hX hT hG;have hF:=hF.nil 26 5;refine go ?_;obtain ⟨o37,ho37,H⟩:=bnd H;refine L0 a1 [] x27.1 x27.2.b x27.2.p _ ho37 _ rfl _ tt0 e0 b1 b22 ?_ ?_ _ _ _ .Ya S hX hF
    ·intro DM Tf Tg he T39 s40 t41 e38v0 tT hX hF;have he:=he.symm;subst he
     try dsimp only at H
     refine go ?_;refine st hF 1 rfl fun s42 hF=>?_;refine go ?_;have e:=pur H;subst e;exact rg _ ⟨_,rfl,hX,K3 _⟩
    ·trivial
  ·rw [if_pos (dt q)] at H;refine go ?_;obtain ⟨FQ,hx15_1,H⟩:=bnd H;refine cx (Ys 4 c0 _ hx15_1 e0  _ (pre 0 1 0 hF hX)) ?_;rintro _ s43 ⟨t44,rfl,hT,hG⟩;obtain ⟨t45,hX,hF⟩:=aft 0 1 0 hF hX hT hG;refine go ?_;refine cdp H (fun h H=>?_) (fun h H=>?_)
   ·refine go ?_;obtain ⟨Qgx,hx19_1,H⟩:=bnd H;refine cx (Y6 [0,1,2,7,42,999] FQ.2 _ hx19_1 e0  _ (pre 0 1 0 hF hX)) ?_;rintro _ s46 ⟨t47,rfl,hT,hG⟩;obtain ⟨t48,hX,hF⟩:=aft 0 1 0 hF hX hT hG;refine go ?_;refine st hF 0 rfl fun s49 hF=>?_;refine go ?_;have e:=pur H;subst e;exact rg _ ⟨_,rfl,hX,K3 _⟩
   ·refine go ?_;obtain ⟨Qgz,hx23_1,H⟩:=bnd H;refine cx (Hn [(Qk #[97]),(Qk #[98]),(Qk #[120]),(Qk #[121]),(Qk #[102]),(Qk #[105,102]),(Qk #[108,101,116]),(Qk #[43])] FQ.2 _ hx23_1 e0  _ (pre 0 1 0 hF hX)) ?_;rintro _ s50 ⟨tt51,rfl,hT,hG⟩;obtain ⟨t52,hX,hF⟩:=aft 0 1 0 hF hX hT hG;refine go ?_;obtain ⟨SM,hx24_1,H⟩:=bnd H;refine cl (VG Qgz.1 _ hx24_1) ?_;refine go ?_;refine st hF 0 rfl fun s53 hF=>?_;refine go ?_;have e:=pur H;subst e;exact rg _ ⟨_,rfl,hX,K3 _⟩
 ·intro GD GF C0 L0 a1 X5 YI G4 Au out H c hc Q tt0 e0 b1 b22 hE hR T ss tt z0v0 tT hX hF;refine lpy hc rfl fun q=>go ?_;refine cdp H (fun h H=>?_) (fun h H=>?_)
  ·refine go ?_;obtain ⟨E,hEq⟩:∃E,E=EE ss [e0]:=⟨_,rfl⟩
   have n28:¬E b22:=by rw [hEq];exact K5 (hF.at 0 rfl) (nm1 (neX hF 0 rfl hX 0 rfl))
   have n29:¬E b1:=by rw [hEq];exact K5 (hF.at 1 rfl) (nm1 (neX hF 1 rfl hX 0 rfl))
   refine Ye E [.v,.v,.v,.v,.v,.x,.v,.x,.v,.z] (by kernel_rfl) ?_;have z:=K2 (X4 (hF.at 0 rfl) n28) (X4 (hF.at 1 rfl) n29);refine gh ?_;obtain ⟨x37,hx37,H⟩:=bnd H;refine cx (C0 (i64.wrap (a1 - 1)) (Rdr.mk G4 Au) _ hx37 e0  _ (pre 0 1 0 hF hX)) ?_;rintro _ s30 ⟨t31,rfl,hT,hG⟩
   refine VM (Za hT hG (by intro p hp;simp only [Kj,KD,or_false] at hp<;>first | (rcases hp with rfl<;>(rw [hEq];first | (refine Ze ?_;simp;done) | exact Zr rfl))| cases hp)) fun kp33=>?_
   obtain ⟨t32,hX,hF⟩:=aft 0 1 0 hF hX hT hG;have z:=K2 (X4 (hF.at 0 rfl) n28) (X4 (hF.at 1 rfl) n29);refine gh ?_;refine Pn (g:=KY) hF 0 H (rdo (c:=true) (g:=KY) Fm.X6) fun x39 H v34 s35 hF=>?_;have z:=K2 (X4 (hF.at 0 rfl) n28) (X4 (hF.at 1 rfl) n29);refine gh ?_;refine st hF 0 (hF.cells 0 rfl) fun s36 hF=>?_;have z:=K2 (X4 (hF.at 0 rfl) n28) (X4 (hF.at 1 rfl) n29);refine gh ?_;refine go ?_;exact L0 a1 x39 (i64.wrap (YI - 1)) x37.2.b x37.2.p _ H _ rfl Q tt0 e0 b1 b22 hE hR _ _ _ v34 S hX hF
  ·refine go ?_;exact wq (hE _ _ _ (pur H).symm _ _ _ z0v0 S hX hF)
theorem NY:∀(a1:List ByteArray) (a2:Int) (c0:Rdr) r,VF a1 a2 c0=some r->∀(e0:Nat)  (ss:Sto),Pre ss [(e0,⟨89,2,[sf cU c0.b,i6 c0.p]⟩)] []->Ctr KZ 141 [.ptr e0 0,sf cS a1,i6 a2] ss (fun r' ss'=>∃(tt':Sto),r'=.agg (KY r.1)/\Tau (strip ss []) [(e0,⟨89,2,[sf cU r.2.b,i6 r.2.p]⟩)] tt'/\Fx tt' ss' [] []):=by
 refine VF.partial_correctness  (motive:=fun a1 a2 c0 r=>∀(e0:Nat)  (ss:Sto),Pre ss [(e0,⟨89,2,[sf cU c0.b,i6 c0.p]⟩)] []->Ctr KZ 141 [.ptr e0 0,sf cS a1,i6 a2] ss (fun r' ss'=>∃(tt':Sto),r'=.agg (KY r.1)/\Tau (strip ss []) [(e0,⟨89,2,[sf cU r.2.b,i6 r.2.p]⟩)] tt'/\Fx tt' ss' [] [])) ?_
 ·intro VF C0 a1 a2 c0 r H;intro e0  ss hP;refine hdg mixed Tryz.func141 (rs:=[.cell 6 26]) fun q tT=>?_;obtain ⟨hF,hX⟩:=hP.start;generalize strip ss []=tt0 at hF hX ⊢;refine go ?_;refine X8 hF rfl fun b1 ss2 hF=>?_;refine go ?_;refine giN q (fun q=>?_) (fun q=>?_)
  ·rw [if_neg (df q)] at H;refine go ?_;obtain ⟨U3,hx14_1,H⟩:=bnd H;refine cx (Ys 5 c0 _ hx14_1 e0  _ (pre 0 1 0 hF hX)) ?_;rintro _ s8 ⟨tt9,rfl,hT,hG⟩;obtain ⟨t10,hX,hF⟩:=aft 0 1 0 hF hX hT hG;refine go ?_;refine cdp H (fun h H=>?_) (fun h H=>?_)
   ·refine go ?_;obtain ⟨x18,hx18,H⟩:=bnd H;refine cx (Ys 3 U3.2 _ hx18 e0  _ (pre 0 1 0 hF hX)) ?_;rintro _ s11 ⟨t12,rfl,hT,hG⟩;obtain ⟨t13,hX,hF⟩:=aft 0 1 0 hF hX hT hG;refine go ?_;refine cdp H (fun h H=>?_) (fun h H=>?_)
    ·refine go ?_;obtain ⟨x22,hx22,H⟩:=bnd H;refine cx (Y6 [0,1,2,7] x18.2 _ hx22 e0  _ (pre 0 1 0 hF hX)) ?_;rintro _ s14 ⟨t15,rfl,hT,hG⟩;obtain ⟨t16,hX,hF⟩:=aft 0 1 0 hF hX hT hG;refine go ?_;refine st hF 0 rfl fun s17 hF=>?_;refine go ?_;have e:=pur H;subst e;exact rg _ ⟨_,rfl,hX,K3 _⟩
    ·refine go ?_;obtain ⟨x28,hx28,H⟩:=bnd H;refine cx (Ys (a1.length:Int) x18.2 _ hx28 e0  _ (pre 0 1 0 hF hX)) ?_;rintro _ s18 ⟨t19,rfl,hT,hG⟩;obtain ⟨t20,hX,hF⟩:=aft 0 1 0 hF hX hT hG;obtain ⟨x29,f1,H⟩:=bil (g:=cS) (fun _=>rfl) H;refine go1 ?_;refine bp H (VG x29) fun x31 h H=>cl h ?_;refine go ?_;refine st hF 0 rfl fun s21 hF=>?_;refine go ?_;have e:=pur H;subst e;exact rg _ ⟨_,rfl,hX,K3 _⟩
   ·refine go ?_;obtain ⟨x34,hx34,H⟩:=bnd H;refine cx (Hn [(Qk #[120]),(Qk #[121]),(Qk #[116])] U3.2 _ hx34 e0  _ (pre 0 1 0 hF hX)) ?_;rintro _ s22 ⟨t23,rfl,hT,hG⟩;obtain ⟨t24,hX,hF⟩:=aft 0 1 0 hF hX hT hG;refine go ?_;have hF:=hF.lit 9 1 (rws cS []) rfl;refine apd (g:=cS) hF 0 H (rdo (c:=false) (g:=cS) (fun _=>rfl)) fun x37 H v25 s26 hF=>?_;refine go ?_;refine apf (g:=cS) hF 0 H (rdo (c:=true) (g:=cS) (fun _=>rfl)) fun x40 H s28 hF=>?_;refine go ?_;obtain ⟨x42,hx42,H⟩:=bnd H;refine cx (Ys 8 x34.2 _ hx42 e0  _ (pre 0 1 0 hF hX)) ?_;rintro _ s29 ⟨t30,rfl,hT,hG⟩;obtain ⟨t31,hX,hF⟩:=aft 0 1 0 hF hX hT hG;refine go ?_;obtain ⟨SO,j33,H⟩:=bnd H;refine VL (fun s'=>∃(T:TT) (ss1 tt1:Sto),s'=⟨T,ss1⟩/\(T 0=.ptr e0 0/\T 1=sf cS a1/\T 2=i6 a2/\T 6=.ptr b1 0/\T 7=.str x34.1/\T 8=sf cS x40/\T 42=i6 x42.1/\T 43=.bool SO)/\Tau tt0 [(e0,⟨89,2,[sf cU x42.2.b,i6 x42.2.p]⟩)] tt1/\Fx tt1 ss1 [(b1,⟨26,5,[i6 0,.str zB,i6 0,.Ya,.Ya]⟩)] []) (cdp j33 (fun h j33=>?_) (fun h j33=>?_)) ?_
    ·refine go ?_;have e:=pur j33;subst e;exact ⟨_,_,_,rfl,S,hX,hF⟩
    ·refine go ?_;have e:=pur j33;subst e;exact ⟨_,_,_,rfl,S,hX,hF⟩
    ·rintro s' ⟨T34,s35,t36,rfl,tT,hX,hF⟩;refine go ?_;refine cdb H (fun h H=>?_) (fun h H=>?_)
     ·refine go ?_;refine bp H (VG (Qk #[108,97,109,98,100,97])) fun x46 h H=>cl h ?_;refine go ?_;refine bp H (VG x34.1) fun x48 h H=>cl h ?_;refine go ?_;refine bp H (VY [x48]) fun x50 h H=>cl h ?_;refine go ?_;obtain ⟨x55,hx55,H⟩:=bnd H;refine cx (C0 x40 (i64.wrap (a2 - 1)) x42.2 _ hx55 e0  _ (pre 0 1 0 hF hX)) ?_;rintro _ s37 ⟨t38,rfl,hT,hG⟩;obtain ⟨t39,hX,hF⟩:=aft 0 1 0 hF hX hT hG;refine go ?_;refine bp H (VY [x46,x50,x55.1]) fun x57 h H=>cl h ?_;refine go ?_;refine st hF 0 rfl fun s40 hF=>?_;refine go ?_;have e:=pur H;subst e;exact rg _ ⟨_,rfl,hX,K3 _⟩
     ·refine go ?_;obtain ⟨SQ,j42,H⟩:=bnd H;refine VL (fun s'=>∃(T:TT) (ss1 tt1:Sto),s'=⟨T,ss1⟩/\(T 0=.ptr e0 0/\T 1=sf cS a1/\T 2=i6 a2/\T 6=.ptr b1 0/\T 7=.str x34.1/\T 8=sf cS x40/\T 42=i6 x42.1/\T 58=.bool SQ)/\Tau tt0 [(e0,⟨89,2,[sf cU x42.2.b,i6 x42.2.p]⟩)] tt1/\Fx tt1 ss1 [(b1,⟨26,5,[i6 0,.str zB,i6 0,.Ya,.Ya]⟩)] []) (cdp j42 (fun h j42=>?_) (fun h j42=>?_)) ?_
      ·refine go ?_;have e:=pur j42;subst e;exact ⟨_,_,_,rfl,S,hX,hF⟩
      ·refine go ?_;have e:=pur j42;subst e;exact ⟨_,_,_,rfl,S,hX,hF⟩
      ·rintro s' ⟨T43,s44,t45,rfl,tT,hX,hF⟩;refine go ?_;refine cdb H (fun h H=>?_) (fun h H=>?_)
       ·refine go ?_;refine bp H (VG x34.1) fun x62 h H=>cl h ?_;refine go ?_;obtain ⟨x67,hx67,H⟩:=bnd H;refine cx (C0 a1 (i64.wrap (a2 - 1)) x42.2 _ hx67 e0  _ (pre 0 1 0 hF hX)) ?_;rintro _ s46 ⟨t47,rfl,hT,hG⟩;obtain ⟨t48,hX,hF⟩:=aft 0 1 0 hF hX hT hG;refine go ?_;refine bp H (VY [x62,x67.1]) fun x69 h H=>cl h ?_;refine go ?_;refine X8 hF rfl fun b49 s50 hF=>?_;refine go ?_;refine st hF 0 rfl fun s51 hF=>?_;refine go ?_;obtain ⟨E,hEq⟩:∃E,E=EE s51 [e0]:=⟨_,rfl⟩
        have n52:¬E b49:=by rw [hEq];exact K5 (hF.at 0 rfl) (nm1 (neX hF 0 rfl hX 0 rfl))
        have n53:¬E b1:=by rw [hEq];exact K5 (hF.at 1 rfl) (nm1 (neX hF 1 rfl hX 0 rfl))
        refine Ye E [.v,.v,.v,.v,.v,.v,.v,.v,.x,.v,.v,.z] (by kernel_rfl) ?_;have z:=K2 (X4 (hF.at 0 rfl) n52) (X4 (hF.at 1 rfl) n53);refine gh ?_;refine bp H (VG (Qk #[108,101,116])) fun x70 h H=>cv h ?_;have z:=K2 (X4 (hF.at 0 rfl) n52) (X4 (hF.at 1 rfl) n53);refine gh ?_;refine bp H (VY [x69]) fun x73 h H=>cv h ?_;have z:=K2 (X4 (hF.at 0 rfl) n52) (X4 (hF.at 1 rfl) n53);refine gh ?_;obtain ⟨x78,hx78,H⟩:=bnd H;refine cx (C0 x40 (i64.wrap (a2 - 1)) x67.2 _ hx78 e0  _ (pre 0 1 0 hF hX)) ?_;rintro _ s54 ⟨t55,rfl,hT,hG⟩
        refine VM (Za hT hG (by intro p hp;simp only [Kj,KD,or_false] at hp<;>first | (rcases hp with rfl<;>(rw [hEq];first | (refine Ze ?_;simp;done) | exact Zr rfl))| cases hp)) fun kp57=>?_
        obtain ⟨t56,hX,hF⟩:=aft 0 1 0 hF hX hT hG;have z:=K2 (X4 (hF.at 0 rfl) n52) (X4 (hF.at 1 rfl) n53);refine gh ?_;refine bp H (VY [x70,x73,x78.1]) fun x80 h H=>cv h ?_;have z:=K2 (X4 (hF.at 0 rfl) n52) (X4 (hF.at 1 rfl) n53);refine gh ?_;refine st hF 1 rfl fun s58 hF=>?_;have z:=K2 (X4 (hF.at 0 rfl) n52) (X4 (hF.at 1 rfl) n53);refine gh ?_;refine go ?_;have e:=pur H;subst e;exact rg [.agg [i6 x80.kind,.str x80.name,i6 x80.num,sf cI x80.sc,sf KY x80.kids]] ⟨_,rfl,hX,K3 _⟩
       ·refine go ?_;refine cdp H (fun h H=>?_) (fun h H=>?_)
        ·refine go ?_;refine bp H (VG (Qk #[105,102])) fun x83 h H=>cl h ?_;refine go ?_;obtain ⟨x88,hx88,H⟩:=bnd H;refine cx (C0 a1 (i64.wrap (a2 - 1)) x42.2 _ hx88 e0  _ (pre 0 1 0 hF hX)) ?_;rintro _ s59 ⟨t60,rfl,hT,hG⟩;obtain ⟨t61,hX,hF⟩:=aft 0 1 0 hF hX hT hG;refine go ?_;obtain ⟨x93,hx93,H⟩:=bnd H;refine cx (C0 a1 (i64.wrap (a2 - 1)) x88.2 _ hx93 e0  _ (pre 0 1 0 hF hX)) ?_;rintro _ s62 ⟨t63,rfl,hT,hG⟩;obtain ⟨t64,hX,hF⟩:=aft 0 1 0 hF hX hT hG;refine go ?_;obtain ⟨x96,hx96,H⟩:=bnd H;refine cx (C0 a1 0 x93.2 _ hx96 e0  _ (pre 0 1 0 hF hX)) ?_;rintro _ s65 ⟨t66,rfl,hT,hG⟩;obtain ⟨t67,hX,hF⟩:=aft 0 1 0 hF hX hT hG;refine go ?_;refine bp H (VY [x83,x88.1,x93.1,x96.1]) fun x98 h H=>cl h ?_;refine go ?_;refine st hF 0 rfl fun s68 hF=>?_;refine go ?_;have e:=pur H;subst e;exact rg _ ⟨_,rfl,hX,K3 _⟩
        ·refine go ?_;refine cdp H (fun h H=>?_) (fun h H=>?_)
         ·refine go ?_;refine bp H (VG (Qk #[113,117,111,116,101])) fun x101 h H=>cl h ?_;refine go ?_;obtain ⟨x103,hx103,H⟩:=bnd H;refine cx (DT 1 x42.2 _ hx103 e0  _ (pre 0 1 0 hF hX)) ?_;rintro _ s69 ⟨t70,rfl,hT,hG⟩;obtain ⟨t71,hX,hF⟩:=aft 0 1 0 hF hX hT hG;refine go ?_;refine bp H (VY [x101,x103.1]) fun x105 h H=>cl h ?_;refine go ?_;refine st hF 0 rfl fun s72 hF=>?_;refine go ?_;have e:=pur H;subst e;exact rg _ ⟨_,rfl,hX,K3 _⟩
         ·refine go ?_;obtain ⟨x110,hx110,H⟩:=bnd H;refine cx (C0 a1 (i64.wrap (a2 - 1)) x42.2 _ hx110 e0  _ (pre 0 1 0 hF hX)) ?_;rintro _ s73 ⟨t74,rfl,hT,hG⟩;obtain ⟨t75,hX,hF⟩:=aft 0 1 0 hF hX hT hG;refine go ?_;obtain ⟨x115,hx115,H⟩:=bnd H;refine cx (C0 a1 (i64.wrap (a2 - 1)) x110.2 _ hx115 e0  _ (pre 0 1 0 hF hX)) ?_;rintro _ s76 ⟨t77,rfl,hT,hG⟩;obtain ⟨t78,hX,hF⟩:=aft 0 1 0 hF hX hT hG;refine go ?_;refine bp H (VY [x110.1,x115.1]) fun x117 h H=>cl h ?_;refine go ?_;refine st hF 0 rfl fun s79 hF=>?_;refine go ?_;have e:=pur H;subst e;exact rg _ ⟨_,rfl,hX,K3 _⟩
  ·rw [if_pos (dt q)] at H;refine go ?_;obtain ⟨U4,hx18_1,H⟩:=bnd H;refine cx (Ys 3 c0 _ hx18_1 e0  _ (pre 0 1 0 hF hX)) ?_;rintro _ s80 ⟨t81,rfl,hT,hG⟩;obtain ⟨t82,hX,hF⟩:=aft 0 1 0 hF hX hT hG;refine go ?_;refine cdp H (fun h H=>?_) (fun h H=>?_)
   ·refine go ?_;obtain ⟨Qgy,hx22_1,H⟩:=bnd H;refine cx (Y6 [0,1,2,7] U4.2 _ hx22_1 e0  _ (pre 0 1 0 hF hX)) ?_;rintro _ s83 ⟨t84,rfl,hT,hG⟩;obtain ⟨t85,hX,hF⟩:=aft 0 1 0 hF hX hT hG;refine go ?_;refine st hF 0 rfl fun s86 hF=>?_;refine go ?_;have e:=pur H;subst e;exact rg _ ⟨_,rfl,hX,K3 _⟩
   ·refine go ?_;obtain ⟨Qk0,hx28_1,H⟩:=bnd H;refine cx (Ys (a1.length:Int) U4.2 _ hx28_1 e0  _ (pre 0 1 0 hF hX)) ?_;rintro _ s87 ⟨t88,rfl,hT,hG⟩;obtain ⟨t89,hX,hF⟩:=aft 0 1 0 hF hX hT hG;obtain ⟨Qk1,f1,H⟩:=bil (g:=cS) (fun _=>rfl) H;refine go1 ?_;obtain ⟨SN,hx31_1,H⟩:=bnd H;refine cl (VG Qk1 _ hx31_1) ?_;refine go ?_;refine st hF 0 rfl fun s90 hF=>?_;refine go ?_;have e:=pur H;subst e;exact rg _ ⟨_,rfl,hX,K3 _⟩
theorem NW:∀(c0:Rdr) r,Bj c0=some r->∀(e0:Nat)  (ss:Sto),Pre ss [(e0,⟨89,2,[sf cU c0.b,i6 c0.p]⟩)] []->Ctr KZ 109 [.ptr e0 0] ss (fun r' ss'=>∃(tt':Sto),r'=.agg (KY r.1)/\Tau (strip ss []) [(e0,⟨89,2,[sf cU r.2.b,i6 r.2.p]⟩)] tt'/\Fx tt' ss' [] []):=by
 intro c0 r H;intro e0  ss hP;unfold Bj at H;refine hdg mixed Tryz.func109 (rs:=[.cell 2 26]) fun q tT=>?_;obtain ⟨hF,hX⟩:=hP.start;generalize strip ss []=tt0 at hF hX ⊢;refine go ?_;refine X8 hF rfl fun b1 ss2 hF=>?_;refine go ?_;refine bp H (MW ) fun x6 h H=>cl h ?_;refine go ?_;obtain ⟨x8,hx8,H⟩:=bnd H;refine cx (Ys 3 c0 _ hx8 e0  _ (pre 0 1 0 hF hX)) ?_;rintro _ ss3 ⟨tt4,rfl,hT,hG⟩;obtain ⟨tt5,hX,hF⟩:=aft 0 1 0 hF hX hT hG;refine goL ?_;refine cdp H (fun h H=>?_) (fun h H=>?_)
 ·refine go ?_;obtain ⟨x14,hx14,H⟩:=bnd H;refine cx (Ys (x6.length:Int) x8.2 _ hx14 e0  _ (pre 0 1 0 hF hX)) ?_;rintro _ ss6 ⟨t7,rfl,hT,hG⟩;obtain ⟨t8,hX,hF⟩:=aft 0 1 0 hF hX hT hG;obtain ⟨x15,f1,H⟩:=bil (g:=cS) (fun _=>rfl) H;refine go1 ?_;refine bp H (Bc x15) fun x17 h H=>cl h ?_;refine go ?_;refine st hF 0 rfl fun s9 hF=>?_;refine go ?_;have e:=pur H;subst e;exact rg _ ⟨_,rfl,hX,K3 _⟩
 ·refine go ?_;obtain ⟨x22,hx22,H⟩:=bnd H;refine cx (Y6 [4,3,2] x8.2 _ hx22 e0  _ (pre 0 1 0 hF hX)) ?_;rintro _ s10 ⟨t11,rfl,hT,hG⟩;obtain ⟨t12,hX,hF⟩:=aft 0 1 0 hF hX hT hG;refine go ?_;obtain ⟨x23,hx23,H⟩:=bnd H;refine cx (NY [(Qk #[43]),(Qk #[108,105,115,116]),(Qk #[103])] x22.1 x22.2 _ hx23 e0  _ (pre 0 1 0 hF hX)) ?_;rintro _ s13 ⟨t14,rfl,hT,hG⟩;obtain ⟨t15,hX,hF⟩:=aft 0 1 0 hF hX hT hG;refine go ?_;refine X8 hF rfl fun b16 s17 hF=>?_;refine go ?_;refine st hF 0 rfl fun s18 hF=>?_;refine go ?_;obtain ⟨x25,hx25,H⟩:=bnd H;refine cx (Ys 2 x23.2 _ hx25 e0  _ (pre 0 1 0 hF hX)) ?_;rintro _ s19 ⟨t20,rfl,hT,hG⟩;obtain ⟨t21,hX,hF⟩:=aft 0 1 0 hF hX hT hG;refine goL ?_;refine cdp H (fun h H=>?_) (fun h H=>?_)
  ·refine goL ?_;refine bp H (Bc (Qk #[40,114,117,108,101,115,32,40,41,32,40,40,95,32,97,32,98,41,32,40,108,101,116,32,40,40,116,32,97,41,41,32,40,108,105,115,116,32,98,32,116,41,41,41,32,40,40,95,32,97,41,32,40,108,101,116,32,40,40,120,32,97,41,41,32,40,108,105,115,116,32,120,32,97,41,41,41,41])) fun x27 h H=>cl h ?_;refine goL ?_;refine X8 hF rfl fun b22 s23 hF=>?_;refine goL ?_;refine st hF 0 rfl fun s24 hF=>?_;refine goL ?_;refine Ye E0 [.v,.v,.v,.v,.v,.v,.v,.v,.v,.v,.z] (by kernel_rfl) ?_;refine goL ?_;refine bp H (VG (Qk #[108,101,116,45,115,121,110,116,97,120])) fun x28 h H=>cv h ?_;refine goL ?_;refine bp H (VG (Qk #[103])) fun x29 h H=>cv h ?_;refine goL ?_;refine bp H (VY [x29,x27]) fun x32 h H=>cv h ?_;refine goL ?_;refine bp H (VY [x32]) fun x34 h H=>cv h ?_;refine goL ?_;refine bp H (VY [x28,x34,x23.1]) fun x37 h H=>cv h ?_;refine goL ?_;refine st hF 1 rfl fun s25 hF=>?_;refine goL ?_;refine st hF 2 rfl fun s26 hF=>?_;refine goL ?_;have e:=pur H;subst e;exact rg _ ⟨_,rfl,hX,K3 _⟩
  ·refine goL ?_;refine st hF 1 rfl fun s27 hF=>?_;refine goL ?_;have e:=pur H;subst e;exact rg _ ⟨_,rfl,hX,K3 _⟩
theorem N0:∀(c0:Rdr) r,Bn c0=some r->∀(e0:Nat)  (ss:Sto),Pre ss [(e0,⟨89,2,[sf cU c0.b,i6 c0.p]⟩)] []->Ctr KZ 90 [.ptr e0 0] ss (fun r' ss'=>∃(tt':Sto),r'=.agg (KY r.1)/\Tau (strip ss []) [(e0,⟨89,2,[sf cU r.2.b,i6 r.2.p]⟩)] tt'/\Fx tt' ss' [] []):=by
 intro c0 r H;intro e0  ss hP;unfold Bn at H;refine hdg mixed Tryz.func90 (rs:=[.cell 2 26]) fun q tT=>?_;obtain ⟨hF,hX⟩:=hP.start;generalize strip ss []=tt0 at hF hX ⊢;refine go ?_;refine X8 hF rfl fun b1 ss2 hF=>?_;refine goL ?_;obtain ⟨x6,hx6,H⟩:=bnd H;refine cx (Ys 2 c0 _ hx6 e0  _ (pre 0 1 0 hF hX)) ?_;rintro _ ss3 ⟨tt4,rfl,hT,hG⟩;obtain ⟨tt5,hX,hF⟩:=aft 0 1 0 hF hX hT hG;refine goL ?_;refine cdp H (fun h H=>?_) (fun h H=>?_)
 ·refine goL ?_;obtain ⟨x12,hx12,H⟩:=bnd H;refine cx (Ys 4 x6.2 _ hx12 e0  _ (pre 0 1 0 hF hX)) ?_;rintro _ ss6 ⟨t7,rfl,hT,hG⟩;obtain ⟨t8,hX,hF⟩:=aft 0 1 0 hF hX hT hG;obtain ⟨x13,hx13,H⟩:=bnd H;have f1:=fun (ss:Sto)=>Oq (g:=cS) (ss:=ss) (c:=true) (k:=.i64) (e:=9) (sz:=1) (by_:=16) (fun _=>rfl) hx13;simp only [Y8,Vy,cI,cU,cS,cL,cB] at f1
  try simp only [go_sem,↓reduceIte,K8,Zf,Zg,K9,Zh,Zi,Kl,q,tT,hF.f,hF.m,hF.x hX,f1,List.append_eq,Kh,QS]
  refine bp H (Bc x13) fun x15 h H=>cl h ?_;refine goL ?_;refine st hF 0 rfl fun s9 hF=>?_;refine goL ?_;have e:=pur H;subst e;exact rg _ ⟨_,rfl,hX,K3 _⟩
 ·refine goL ?_;obtain ⟨x17,hx17,H⟩:=bnd H;refine cx (NW x6.2 _ hx17 e0  _ (pre 0 1 0 hF hX)) ?_;rintro _ s10 ⟨t11,rfl,hT,hG⟩;obtain ⟨t12,hX,hF⟩:=aft 0 1 0 hF hX hT hG;refine goL ?_;refine st hF 0 rfl fun s13 hF=>?_;refine goL ?_;have e:=pur H;subst e;exact rg _ ⟨_,rfl,hX,K3 _⟩
theorem VW:∀(a0:Fm) r,Vh a0=some r->Vr KZ 58 [.agg (KY a0)] (.agg (KY r)):=by
 refine Vh.partial_correctness _ (motive_2:=fun a0 x14 X5 YH out=>∀c,Yf Tryz.f58 0=some c->∀(Q:QT) (tt:Sto) (b1 b3 b5:Nat),(∀(YT:List Fm),out=YT->∀(T:TT) (ss:Sto) (e0v0:AV),T 2=.ptr b3 0/\T 3=.ptr b5 0->Fx tt ss [(b5,⟨26,5,[i6 a0.kind,.str a0.name,i6 a0.num,sf cI x14,e0v0]⟩),(b3,⟨26,5,[i6 0,.str zB,i6 0,.Ya,.Ya]⟩),(b1,⟨26,5,[i6 a0.kind,.str a0.name,i6 a0.num,sf cI a0.sc,sf KY a0.kids]⟩)] [⟨e0v0,26,5,rws KY YT⟩]->Q (.ex 0) ⟨T,ss⟩)->True->∀(T:TT) (ss:Sto) (z0v0:AV),T 1=.ptr b1 0/\T 2=.ptr b3 0/\T 3=.ptr b5 0/\T 4=i6 YH->Fx tt ss [(b5,⟨26,5,[i6 a0.kind,.str a0.name,i6 a0.num,sf cI x14,z0v0]⟩),(b3,⟨26,5,[i6 0,.str zB,i6 0,.Ya,.Ya]⟩),(b1,⟨26,5,[i6 a0.kind,.str a0.name,i6 a0.num,sf cI a0.sc,sf KY a0.kids]⟩)] [⟨z0v0,26,5,rws KY X5⟩]->aLp KZ c Q ⟨T,ss⟩) ?_ ?_
 ·intro JH L0 a0 r H;intro ss;refine hdh mixed Tryz.func58 (rs:=[.cell 2 26]) fun q tT hF hX=>?_;refine go ?_;refine X8 hF rfl fun b1 ss2 hF=>?_;refine go ?_;refine X8 hF rfl fun b3 ss4 hF=>?_;refine go ?_;refine Ye E0 [.v,.v,.v,.v,.v,.v,.v,.v,.v,.v,.v,.x,.z] (by kernel_rfl) ?_;refine go ?_;obtain ⟨x14,hx14,H⟩:=bnd H;refine M1 (g:=cI) (xs:=[]) (ys:=a0.sc) (fun _=>rfl) (by decide) (by decide) (.inr (by first | rfl | simp only [Y8,Vy,cI,cU,cS,cL])) (.inr ⟨_,by first | rfl | simp only [Y8,Vy,cI,cU,cS,cL]⟩) hx14 ?_;refine go ?_;refine WQ hF rfl fun b5 ss6 hF=>?_;refine go ?_;refine st hF 0 rfl fun s7 hF=>?_;have hF:=hF.nil 26 5;refine go ?_;obtain ⟨o11,ho11,H⟩:=bnd H;refine L0 a0 x14 [] 0 _ ho11 _ rfl _ _ b1 b3 b5 ?_ ?_ _ _ .Ya S hF
  ·intro CT he T13 s14 e12v0 tT hF;have he:=he.symm;subst he;refine go ?_;refine st hF 1 rfl fun s16 hF=>?_;refine go ?_;have e:=pur H;subst e;exact rt _
  ·trivial
 ·intro Vh JH C0 L0 a0 x14 X5 YH out H c hc Q tt b1 b3 b5 hE hR T ss z0v0 tT hF;refine lpx tt hc rfl fun q hX=>go ?_;refine cdp H (fun h H=>?_) (fun h H=>?_)
  ·refine go ?_;refine Ye E0 [.v,.v,.v,.v,.v,.v,.v,.v,.v,.x,.v,.z] (by kernel_rfl) ?_;obtain ⟨x28,f1,H⟩:=bil (g:=KY) Fm.X6 H;refine go1 ?_;refine bp H (C0 x28) fun x30 h H=>cv h ?_;refine go ?_;refine Pn (g:=KY) hF 0 H (rdo (c:=true) (g:=KY) Fm.X6) fun x32 H v8 s9 hF=>?_;refine go ?_;refine st hF 0 (hF.cells 0 rfl) fun s10 hF=>?_;refine go ?_;exact L0 a0 x14 x32 (i64.wrap (YH+1)) _ H _ rfl Q tt b1 b3 b5 hE hR _ _ v8 S hF
  ·refine go ?_;exact wq (hE _ (pur H).symm _ _ z0v0 S hF)
theorem BY:∀(a0:Fm) (x14:List Int) (IP:List Fm) (YH:Int) out,Vj a0 x14 IP YH=some out->∀c,Yf Tryz.f58 0=some c->∀(Q:QT) (tt0:Sto) (b1 b3:Nat) (v5:AV) (b7:Nat),(∀(Qb9:List Fm),out=Qb9->∀(T:TT) (ss tt:Sto) (e0v1:AV),T 2=.ptr b3 0/\T 3=.ptr b7 0->Tau tt0 [] tt->Fx tt ss [(b7,⟨26,5,[i6 a0.kind,.str a0.name,i6 a0.num,v5,e0v1]⟩),(b3,⟨26,5,[i6 0,.str zB,i6 0,.Ya,.Ya]⟩),(b1,⟨26,5,[i6 a0.kind,.str a0.name,i6 a0.num,sf cI a0.sc,sf KY a0.kids]⟩)] [⟨e0v1,26,5,rws KY Qb9⟩,⟨v5,3,1,rws cI x14⟩]->Q (.ex 0) ⟨T,ss⟩)->True->∀(T:TT) (ss tt:Sto) (z0v1:AV),T 1=.ptr b1 0/\T 2=.ptr b3 0/\T 3=.ptr b7 0/\T 4=i6 YH->Tau tt0 [] tt->Fx tt ss [(b7,⟨26,5,[i6 a0.kind,.str a0.name,i6 a0.num,v5,z0v1]⟩),(b3,⟨26,5,[i6 0,.str zB,i6 0,.Ya,.Ya]⟩),(b1,⟨26,5,[i6 a0.kind,.str a0.name,i6 a0.num,sf cI a0.sc,sf KY a0.kids]⟩)] [⟨z0v1,26,5,rws KY IP⟩,⟨v5,3,1,rws cI x14⟩]->aLp KZ c Q ⟨T,ss⟩:=by
 intro a0 x14 IP YH;revert IP YH;refine Vj.partial_correctness a0 x14 _ ?_;intro Vj IH IP YH out H c hc Q tt0 b1 b3 v5 b7 hE hR T ss tt z0v1 tT hX hF;refine lpy hc rfl fun q=>go ?_;refine cdp H (fun h H=>?_) (fun h H=>?_)
 ·refine go ?_;refine Ye E0 [.v,.v,.v,.v,.v,.v,.v,.v,.v,.x,.v,.z] (by kernel_rfl) ?_;obtain ⟨x28,f1,H⟩:=bil (g:=KY) Fm.X6 H;refine go1 ?_;refine bp H (VW x28) fun x30 h H=>cv h ?_;refine go ?_;refine Pn (g:=KY) hF 0 H (rdo (c:=true) (g:=KY) Fm.X6) fun x32 H v10 s11 hF=>?_;refine go ?_;refine st hF 0 (hF.cells 0 rfl) fun s12 hF=>?_;refine go ?_;exact IH  x32 (i64.wrap (YH+1)) _ H _ rfl Q tt0 b1 b3 v5 b7 hE hR _ _ _ v10 S hX hF
 ·refine go ?_;exact wq (hE _ (pur H).symm _ _ _ z0v1 S hX hF)
theorem CN:∀(a0:Fm) r,J2 a0=some r->∀   (ss:Sto),Pre ss [] []->Ctr KZ 58 [.agg (KY a0)] ss (fun r' ss'=>∃(tt':Sto) (Qpy Qnp:AV),r'=.agg [i6 r.kind,.str r.name,i6 r.num,Qpy,Qnp]/\Tau (strip ss []) [] tt'/\Fx tt' ss' [] [⟨Qpy,3,1,rws cI r.sc⟩,⟨Qnp,26,5,rws KY r.kids⟩]):=by
 intro a0 r H;intro   ss hP;unfold J2 at H;refine hdg mixed Tryz.func58 (rs:=[.cell 2 26]) fun q tT=>?_;obtain ⟨hF,hX⟩:=hP.start;generalize strip ss []=tt0 at hF hX ⊢;refine go ?_;refine X8 hF rfl fun b1 ss2 hF=>?_;refine go ?_;refine X8 hF rfl fun b3 ss4 hF=>?_;refine go ?_;refine Ye E0 [.v,.v,.v,.v,.v,.v,.v,.v,.v,.x,.v,.x,.z] (by kernel_rfl) ?_;refine go ?_;have hF:=hF.lit 3 1 (rws cI []) rfl;refine Pn (g:=cI) hF 0 H (rdo (c:=false) (g:=cI) (fun _=>rfl)) fun x14 H v5 ss6 hF=>?_;refine go ?_;refine WQ hF rfl fun b7 s8 hF=>?_;refine go ?_;refine st hF 0 rfl fun s9 hF=>?_;have hF:=hF.nil 26 5;refine go ?_;obtain ⟨o13,ho13,H⟩:=bnd H;refine BY a0 x14 [] 0 _ ho13 _ rfl _ tt0 b1 b3 v5 b7 ?_ ?_ _ _ _ .Ya S hX hF
 ·intro Qhd he T15 s16 t17 e14v1 tT hX hF;have he:=he.symm;subst he;refine go ?_;refine st hF 1 rfl fun s18 hF=>?_;refine go ?_;have e:=pur H;subst e;exact rg _ ⟨_,_,_,rfl,hX,hF.pick [] [1,0] (by decide) (by decide)⟩
 ·trivial
theorem IA:∀(a1:Fm) (c0:Rdr) r,W1 a1 c0=some r->∀(e0:Nat)  (ss:Sto),Pre ss [(e0,⟨89,2,[sf cU c0.b,i6 c0.p]⟩)] []->Ctr KZ 56 [.ptr e0 0,.agg (KY a1)] ss (fun r' ss'=>∃(tt':Sto),r'=.agg (KY r.1)/\Tau (strip ss []) [(e0,⟨89,2,[sf cU r.2.b,i6 r.2.p]⟩)] tt'/\Fx tt' ss' [] []):=by
 refine W1.partial_correctness  (motive:=fun a1 c0 r=>∀(e0:Nat)  (ss:Sto),Pre ss [(e0,⟨89,2,[sf cU c0.b,i6 c0.p]⟩)] []->Ctr KZ 56 [.ptr e0 0,.agg (KY a1)] ss (fun r' ss'=>∃(tt':Sto),r'=.agg (KY r.1)/\Tau (strip ss []) [(e0,⟨89,2,[sf cU r.2.b,i6 r.2.p]⟩)] tt'/\Fx tt' ss' [] [])) ?_
 ·intro W1 C0 a1 c0 r H;intro e0  ss hP;refine hdg mixed Tryz.func56 (rs:=[.cell 4 26]) fun q tT=>?_;obtain ⟨hF,hX⟩:=hP.start;generalize strip ss []=tt0 at hF hX ⊢;refine go ?_;refine X8 hF rfl fun b1 ss2 hF=>?_;refine go ?_;refine X8 hF rfl fun b3 ss4 hF=>?_;refine go ?_;obtain ⟨x8,hx8,H⟩:=bnd H;refine cx (CN a1 _ hx8   _ (pre 0 0 0 hF hX)) ?_;rintro _ s7 ⟨t8,v5,v6,rfl,hT,hG⟩;obtain ⟨tt9,hX,hF⟩:=aft 0 0 0 hF hX hT hG;refine go ?_;refine X8 hF rfl fun b10 s11 hF=>?_;refine go ?_;refine st hF 0 rfl fun s12 hF=>?_;refine go ?_;refine gi q (fun q=>?_) (fun q=>?_)
  ·rw [if_pos (dt q)] at H;refine go ?_;obtain ⟨FQ,hx15_1,H⟩:=bnd H;refine cx (Ys 2 c0 _ hx15_1 e0  _ (pre 0 1 0 hF hX)) ?_;rintro _ s18 ⟨t19,rfl,hT,hG⟩;obtain ⟨t20,hX,hF⟩:=aft 0 1 0 hF hX hT hG;refine go ?_;refine cdp H (fun h H=>?_) (fun h H=>?_)
   ·refine go ?_;obtain ⟨x22,hx22,H⟩:=bnd H;refine cx (Ys (x8.kids.length:Int) FQ.2 _ hx22 e0  _ (pre 0 1 0 hF hX)) ?_;rintro _ s21 ⟨tt22,rfl,hT,hG⟩;obtain ⟨t23,hX,hF⟩:=aft 0 1 0 hF hX hT hG;refine go ?_;obtain ⟨E,hEq⟩:∃E,E=EE s21 [e0]:=⟨_,rfl⟩
    have n24:¬E b10:=by rw [hEq];exact K5 (hF.at 0 rfl) (nm1 (neX hF 0 rfl hX 0 rfl))
    have n25:¬E b3:=by rw [hEq];exact K5 (hF.at 1 rfl) (nm1 (neX hF 1 rfl hX 0 rfl))
    have n26:¬E b1:=by rw [hEq];exact K5 (hF.at 2 rfl) (nm1 (neX hF 2 rfl hX 0 rfl))
    refine Ye E [.v,.v,.v,.v,.v,.v,.v,.v,.x,.x,.v,.z] (by kernel_rfl) ?_;have z:=K2 (X4 (hF.at 0 rfl) n24) (K2 (X4 (hF.at 1 rfl) n25) (X4 (hF.at 2 rfl) n26));refine gh ?_;obtain ⟨x30,hx30,H⟩:=bnd H;obtain ⟨b27,k28,hv⟩:=hF.ref 1 rfl hx30;subst hv
    try simp only [go_sem,↓reduceIte,K8,Zf,Zg,K9,Zh,Zi,Kl,q,tT,hF.f,hF.m,hF.x hX,X4 (hF.at 0 rfl) n24,X4 (hF.at 1 rfl) n25,X4 (hF.at 2 rfl) n26,Bz (l:=x8.kids) rfl hx30,L3 hF 1 (p:=x22.1.toNat * 5) (sz:=5) (ag:=true) (k:=5) (o:=0) (g:=KY) (x:=x30) (i:=x22.1) (v:=(.agg [i6 x30.kind,.str x30.name,i6 x30.num,sf cI x30.sc,sf KY x30.kids])) (by first | rfl | simp) Fm.X6 rfl hx30 (by decide) (by first | rfl | (simp only [sf,i6,zB,cI,cU,cS,cL,cB,Fm.X9];rfl))]
    obtain ⟨x32,hx32,H⟩:=bnd H;refine cx (C0 x30 x22.2 _ hx32 e0  _ (pre 0 1 0 hF hX)) ?_;rintro _ s29 ⟨t30,rfl,hT,hG⟩
    refine VM (Za hT hG (by intro p hp;simp only [Kj,KD,or_false] at hp<;>first | (rcases hp with rfl<;>(rw [hEq];first | (refine Ze ?_;simp;done) | exact Zr rfl))| cases hp)) fun kp32=>?_
    obtain ⟨t31,hX,hF⟩:=aft 0 1 0 hF hX hT hG;obtain ⟨x33,hx33,H⟩:=bnd H
    try simp only [go_sem,↓reduceIte,K8,Zf,Zg,K9,Zh,Zi,Kl,q,tT,hF.f,hF.m,hF.x hX,X4 (hF.at 0 rfl) n24,X4 (hF.at 1 rfl) n25,X4 (hF.at 2 rfl) n26,Bz (l:=x8.kids) ((DO hF 1 rfl).1.trans (WM _)) hx33]
    refine OL hF 1 (o:=0) (sz:=5) (k:=5) (v:=(.agg [i6 x32.1.kind,.str x32.1.name,i6 x32.1.num,sf cI x32.1.sc,sf KY x32.1.kids])) (cs:=[i6 x32.1.kind,.str x32.1.name,i6 x32.1.num,sf cI x32.1.sc,sf KY x32.1.kids]) (g:=KY) (i:=x22.1) x32.1 Fm.X6 (by first | rfl | simp) rfl hx33 rfl rfl (by decide) (by first | rfl | simp [Hq,cI,cU,cS,cL,cB,Fm.X9]) fun s33 hF=>?_;have hF:Fx t31 s33 [(b10,⟨26,5,[i6 x8.kind,.str x8.name,i6 x8.num,v5,.ref b27 x8.kids.length k28]⟩),(b3,⟨26,5,[i6 0,.str zB,i6 0,.Ya,.Ya]⟩),(b1,⟨26,5,[i6 a1.kind,.str a1.name,i6 a1.num,sf cI a1.sc,sf KY a1.kids]⟩)] [⟨v5,3,1,rws cI x8.sc⟩,⟨.ref b27 x8.kids.length k28,26,5,rws KY (x8.kids.set x22.1.toNat x32.1)⟩]:=hF;have z:=K2 (X4 (hF.at 0 rfl) n24) (K2 (X4 (hF.at 1 rfl) n25) (X4 (hF.at 2 rfl) n26));refine gh ?_;refine go ?_;refine st hF 1 rfl fun s34 hF=>?_;refine go ?_;have e:=pur H;subst e;exact rg _ ⟨_,rfl,hX,K3 _⟩
   ·refine go ?_;obtain ⟨x36,hx36,H⟩:=bnd H;refine cx (Ys 14 FQ.2 _ hx36 e0  _ (pre 0 1 0 hF hX)) ?_;rintro _ s35 ⟨t36,rfl,hT,hG⟩;obtain ⟨t37,hX,hF⟩:=aft 0 1 0 hF hX hT hG;refine go ?_;refine cdp H (fun h H=>?_) (fun h H=>?_)
    ·refine go ?_;obtain ⟨x41,hx41,H⟩:=bnd H;refine cx (Y6 [0,4,1,3] x36.2 _ hx41 e0  _ (pre 0 1 0 hF hX)) ?_;rintro _ s38 ⟨t39,rfl,hT,hG⟩;obtain ⟨t40,hX,hF⟩:=aft 0 1 0 hF hX hT hG;refine go ?_;refine st hF 0 rfl fun s41 hF=>?_;refine go ?_;refine st hF 1 rfl fun s42 hF=>?_;refine go ?_;have e:=pur H;subst e;exact rg _ ⟨_,rfl,hX,K3 _⟩
    ·refine go ?_;refine cdp H (fun h H=>?_) (fun h H=>?_)
     ·refine go ?_;obtain ⟨x47,hx47,H⟩:=bnd H;refine cx (Hn [zB,(Qk #[65]),(Qk #[116,111,111,108,111,110,103,97,110,97,109,101,49]),(Qk #[122]),(Qk #[120,32,121])] x36.2 _ hx47 e0  _ (pre 0 1 0 hF hX)) ?_;rintro _ s43 ⟨t44,rfl,hT,hG⟩;obtain ⟨t45,hX,hF⟩:=aft 0 1 0 hF hX hT hG;refine go ?_;refine st hF 0 rfl fun s46 hF=>?_;refine go ?_;refine st hF 1 rfl fun s47 hF=>?_;refine go ?_;have e:=pur H;subst e;exact rg _ ⟨_,rfl,hX,K3 _⟩
     ·refine go ?_;refine cdp H (fun h H=>?_) (fun h H=>?_)
      ·refine go ?_;obtain ⟨x53,hx53,H⟩:=bnd H;refine cx (Y6 [1000,-1,5] x36.2 _ hx53 e0  _ (pre 0 1 0 hF hX)) ?_;rintro _ s48 ⟨t49,rfl,hT,hG⟩;obtain ⟨t50,hX,hF⟩:=aft 0 1 0 hF hX hT hG;refine go ?_;refine st hF 0 rfl fun s51 hF=>?_;refine go ?_;refine st hF 1 rfl fun s52 hF=>?_;refine go ?_;have e:=pur H;subst e;exact rg _ ⟨_,rfl,hX,K3 _⟩
      ·refine go ?_;refine cdp H (fun h H=>?_) (fun h H=>?_)
       ·refine go ?_;obtain ⟨E,hEq⟩:∃E,E=EE s35 [e0]:=⟨_,rfl⟩
        have n53:¬E b10:=by rw [hEq];exact K5 (hF.at 0 rfl) (nm1 (neX hF 0 rfl hX 0 rfl))
        have n54:¬E b3:=by rw [hEq];exact K5 (hF.at 1 rfl) (nm1 (neX hF 1 rfl hX 0 rfl))
        have n55:¬E b1:=by rw [hEq];exact K5 (hF.at 2 rfl) (nm1 (neX hF 2 rfl hX 0 rfl))
        refine Ye E [.v,.v,.v,.v,.x,.v,.x,.v,.z] (by kernel_rfl) ?_;have z:=K2 (X4 (hF.at 0 rfl) n53) (K2 (X4 (hF.at 1 rfl) n54) (X4 (hF.at 2 rfl) n55));refine gh ?_;obtain ⟨x61,hx61,H⟩:=bnd H;refine cx (Y6 [0,100,1,50] x36.2 _ hx61 e0  _ (pre 0 1 0 hF hX)) ?_;rintro _ s56 ⟨t57,rfl,hT,hG⟩
        refine VM (Za hT hG (by intro p hp;simp only [Kj,KD,or_false] at hp<;>first | (rcases hp with rfl<;>(rw [hEq];first | (refine Ze ?_;simp;done) | exact Zr rfl))| cases hp)) fun kp59=>?_
        obtain ⟨t58,hX,hF⟩:=aft 0 1 0 hF hX hT hG;have z:=K2 (X4 (hF.at 0 rfl) n53) (K2 (X4 (hF.at 1 rfl) n54) (X4 (hF.at 2 rfl) n55));refine gh ?_;refine Pn (g:=cI) hF 0 H (rdo (c:=true) (g:=cI) (fun _=>rfl)) fun x63 H v60 s61 hF=>?_;have z:=K2 (X4 (hF.at 0 rfl) n53) (K2 (X4 (hF.at 1 rfl) n54) (X4 (hF.at 2 rfl) n55));refine gh ?_;refine st hF 0 (hF.cells 0 rfl) fun s62 hF=>?_;have z:=K2 (X4 (hF.at 0 rfl) n53) (K2 (X4 (hF.at 1 rfl) n54) (X4 (hF.at 2 rfl) n55));refine gh ?_;refine go ?_;refine st hF 1 rfl fun s63 hF=>?_;refine go ?_;have e:=pur H;subst e;exact rg _ ⟨_,rfl,hX,K3 _⟩
       ·refine go ?_;refine st hF 1 rfl fun s64 hF=>?_;refine go ?_;have e:=pur H;subst e;exact rg _ ⟨_,rfl,hX,K3 _⟩
  ·rw [if_neg (df q)] at H;refine go ?_;obtain ⟨EZ,hx36_1,H⟩:=bnd H;refine cx (Ys 14 c0 _ hx36_1 e0  _ (pre 0 1 0 hF hX)) ?_;rintro _ s65 ⟨t66,rfl,hT,hG⟩;obtain ⟨t67,hX,hF⟩:=aft 0 1 0 hF hX hT hG;refine go ?_;refine cdp H (fun h H=>?_) (fun h H=>?_)
   ·refine go ?_;obtain ⟨Qg1,hx41_1,H⟩:=bnd H;refine cx (Y6 [0,4,1,3] EZ.2 _ hx41_1 e0  _ (pre 0 1 0 hF hX)) ?_;rintro _ s68 ⟨t69,rfl,hT,hG⟩;obtain ⟨t70,hX,hF⟩:=aft 0 1 0 hF hX hT hG;refine go ?_;refine st hF 0 rfl fun s71 hF=>?_;refine go ?_;refine st hF 1 rfl fun s72 hF=>?_;refine go ?_;have e:=pur H;subst e;exact rg _ ⟨_,rfl,hX,K3 _⟩
   ·refine go ?_;refine cdp H (fun h H=>?_) (fun h H=>?_)
    ·refine go ?_;obtain ⟨Qg2,hx47_1,H⟩:=bnd H;refine cx (Hn [zB,(Qk #[65]),(Qk #[116,111,111,108,111,110,103,97,110,97,109,101,49]),(Qk #[122]),(Qk #[120,32,121])] EZ.2 _ hx47_1 e0  _ (pre 0 1 0 hF hX)) ?_;rintro _ s73 ⟨t74,rfl,hT,hG⟩;obtain ⟨t75,hX,hF⟩:=aft 0 1 0 hF hX hT hG;refine go ?_;refine st hF 0 rfl fun s76 hF=>?_;refine go ?_;refine st hF 1 rfl fun s77 hF=>?_;refine go ?_;have e:=pur H;subst e;exact rg _ ⟨_,rfl,hX,K3 _⟩
    ·refine go ?_;refine cdp H (fun h H=>?_) (fun h H=>?_)
     ·refine go ?_;obtain ⟨Qg3,hx53_1,H⟩:=bnd H;refine cx (Y6 [1000,-1,5] EZ.2 _ hx53_1 e0  _ (pre 0 1 0 hF hX)) ?_;rintro _ s78 ⟨t79,rfl,hT,hG⟩;obtain ⟨t80,hX,hF⟩:=aft 0 1 0 hF hX hT hG;refine go ?_;refine st hF 0 rfl fun s81 hF=>?_;refine go ?_;refine st hF 1 rfl fun s82 hF=>?_;refine go ?_;have e:=pur H;subst e;exact rg _ ⟨_,rfl,hX,K3 _⟩
     ·refine go ?_;refine cdp H (fun h H=>?_) (fun h H=>?_)
      ·refine go ?_;obtain ⟨E,hEq⟩:∃E,E=EE s65 [e0]:=⟨_,rfl⟩
       have n83:¬E b10:=by rw [hEq];exact K5 (hF.at 0 rfl) (nm1 (neX hF 0 rfl hX 0 rfl))
       have n84:¬E b3:=by rw [hEq];exact K5 (hF.at 1 rfl) (nm1 (neX hF 1 rfl hX 0 rfl))
       have n85:¬E b1:=by rw [hEq];exact K5 (hF.at 2 rfl) (nm1 (neX hF 2 rfl hX 0 rfl))
       refine Ye E [.v,.v,.v,.v,.x,.v,.x,.v,.z] (by kernel_rfl) ?_;have z:=K2 (X4 (hF.at 0 rfl) n83) (K2 (X4 (hF.at 1 rfl) n84) (X4 (hF.at 2 rfl) n85));refine gh ?_;obtain ⟨Qk2,hx61_1,H⟩:=bnd H;refine cx (Y6 [0,100,1,50] EZ.2 _ hx61_1 e0  _ (pre 0 1 0 hF hX)) ?_;rintro _ s86 ⟨t87,rfl,hT,hG⟩
       refine VM (Za hT hG (by intro p hp;simp only [Kj,KD,or_false] at hp<;>first | (rcases hp with rfl<;>(rw [hEq];first | (refine Ze ?_;simp;done) | exact Zr rfl))| cases hp)) fun kp89=>?_
       obtain ⟨t88,hX,hF⟩:=aft 0 1 0 hF hX hT hG;have z:=K2 (X4 (hF.at 0 rfl) n83) (K2 (X4 (hF.at 1 rfl) n84) (X4 (hF.at 2 rfl) n85));refine gh ?_;refine Pn (g:=cI) hF 0 H (rdo (c:=true) (g:=cI) (fun _=>rfl)) fun Qnq H v90 s91 hF=>?_;have z:=K2 (X4 (hF.at 0 rfl) n83) (K2 (X4 (hF.at 1 rfl) n84) (X4 (hF.at 2 rfl) n85));refine gh ?_;refine st hF 0 (hF.cells 0 rfl) fun s92 hF=>?_;have z:=K2 (X4 (hF.at 0 rfl) n83) (K2 (X4 (hF.at 1 rfl) n84) (X4 (hF.at 2 rfl) n85));refine gh ?_;refine go ?_;refine st hF 1 rfl fun s93 hF=>?_;refine go ?_;have e:=pur H;subst e;exact rg _ ⟨_,rfl,hX,K3 _⟩
      ·refine go ?_;refine st hF 1 rfl fun s94 hF=>?_;refine go ?_;have e:=pur H;subst e;exact rg _ ⟨_,rfl,hX,K3 _⟩
theorem NZ:∀(a0:List Int) r,Bm a0=some r->Vr KZ 54 [sf cU a0] (.tup [.agg (KY r.1),i6 r.2]):=by
 intro a0 r H;intro ss;unfold Bm at H;refine hdh mixed Tryz.func54 (rs:=[.cell 2 26,.tmp 3]) fun q tT hF hX=>?_;refine go ?_;refine X8 hF rfl fun b1 ss2 hF=>?_;refine go ?_;obtain ⟨x7,hx7,H⟩:=bnd H;refine cx (HN a0 _ hx7   _ (pre 0 0 0 hF hX)) ?_;rintro _ ss4 ⟨tt5,b3,rfl,hT,hG⟩;have nw7:ss2.var b3=none:=(hT.off b3 (by simp)).symm.trans (hG.var _ (List.mem_cons_self ..)).2.1;have hF:=DB 0 0 hF hX hT hG;refine go ?_;obtain ⟨x9,hx9,H⟩:=bnd H;refine cx (N0 x7 _ hx9 b3  _ (pre 1 0 0 hF hX)) ?_;rintro _ s8 ⟨tt9,rfl,hT,hG⟩;have hF:=DB 1 0 hF hX hT hG;refine go ?_;refine X8 hF rfl fun b11 s12 hF=>?_;refine go ?_;refine st hF 0 rfl fun s13 hF=>?_;refine go ?_;have hF:=pck hF [1,0,2] [];obtain ⟨x11,hx11,H⟩:=bnd H;refine cx (Ys 16 x9.2 _ hx11 b3  _ (pre 1 0 0 hF hX)) ?_;rintro _ s14 ⟨t15,rfl,hT,hG⟩;have hF:=DB 1 0 hF hX hT hG;refine go ?_;obtain ⟨⟨LQ,LR,LS,LU,LV,LW,LX⟩,j18,H⟩:=bnd H;refine VL (fun s'=>∃(T:TT) (ss1:Sto),s'=⟨T,ss1⟩/\(T 2=.ptr b1 0/\T 4=.ptr b3 0/\T 5=.ptr b11 0)/\Fx ss ss1 [(b3,⟨89,2,[sf cU LW,i6 LX]⟩),(b11,⟨26,5,[i6 LQ,.str LR,i6 LS,sf cI LU,sf KY LV]⟩),(b1,⟨26,5,[i6 0,.str zB,i6 0,.Ya,.Ya]⟩)] []) (cdp j18 (fun h j18=>?_) (fun h j18=>?_)) ?_
 ·refine go ?_;obtain ⟨x16,hx16,j18⟩:=bnd j18;refine cx (IA x9.1 x11.2 _ hx16 b3  _ (pre 1 0 0 hF hX)) ?_;rintro _ s19 ⟨t20,rfl,hT,hG⟩;have hF:=DB 1 0 hF hX hT hG;refine go ?_;obtain ⟨x17,hx17,j18⟩:=bnd j18;refine cx (IA x16.1 x16.2 _ hx17 b3  _ (pre 1 0 0 hF hX)) ?_;rintro _ s22 ⟨t23,rfl,hT,hG⟩;have hF:=DB 1 0 hF hX hT hG;refine go ?_;refine st hF 1 rfl fun s25 hF=>?_;refine go ?_;have e:=pur j18
  injection e with e0 e
  injection e with e1 e
  injection e with e2 e
  injection e with e3 e
  injection e with e4 e
  injection e with e5 e
  subst e0;subst e1;subst e2;subst e3;subst e4;subst e5;subst e;exact ⟨_,_,rfl,S,hF⟩
 ·refine go ?_;have e:=pur j18
  injection e with e0 e
  injection e with e1 e
  injection e with e2 e
  injection e with e3 e
  injection e with e4 e
  injection e with e5 e
  subst e0;subst e1;subst e2;subst e3;subst e4;subst e5;subst e;exact ⟨_,_,rfl,S,hF⟩
 ·rintro s' ⟨T26,s27,rfl,tT,hF⟩;refine go ?_;obtain ⟨E,hEq⟩:∃E,E=EE s27 [b3,b1]:=⟨_,rfl⟩
  have n29:¬E b11:=by rw [hEq];exact K5 (hF.at 1 rfl) (nm2 ⟨neL hF 1 0 rfl rfl (by decide),neL hF 1 2 rfl rfl (by decide)⟩)
  refine Ye E [.v,.v,.v,.x,.x,.v] (by kernel_rfl) ?_;have z:=X4 (hF.at 1 rfl) n29;refine gh ?_;obtain ⟨x21,hx21,H⟩:=bnd H;refine cx (Y6 [20,10,60,3,0,61] (Rdr.mk LW LX) _ hx21 b3  _ (pre 1 0 0 hF hX)) ?_;rintro _ s30 ⟨t31,rfl,hT,hG⟩
  refine VM (Za hT hG (by intro p hp;simp only [Kj,KD,or_false] at hp<;>first | (rcases hp with rfl<;>(rw [hEq];first | (refine Ze ?_;simp;done) | exact Zr nw7))| cases hp)) fun kp33=>?_
  have hF:=DB 1 0 hF hX hT hG;have z:=X4 (hF.at 1 rfl) n29;refine gh ?_;refine stK hF 2 (by rw [hEq];exact Ze (by simp)) rfl fun s34 hF=>?_;have z:=X4 (hF.at 1 rfl) n29;refine gh ?_;refine go ?_;have e:=pur H;subst e;exact rt [.agg [i6 LQ,.str LR,i6 LS,sf cI LU,sf KY LV],i6 x21.1]
theorem MV:∀  r,BK  = some r->Vr KZ 112 [] (sf cS r):=by
 intro  r H;intro ss;unfold BK at H;refine hdh mixed Tryz.func112 (rs:=[.tmp 0]) fun q tT hF hX=>?_;refine go ?_;have e:=pur H;subst e;exact rt _
theorem BW:∀(x5:List ByteArray) (X5:List Bnd) (YC:Int) out,Y9 x5 X5 YC=some out->∀c,Yf Tryz.f77 0=some c->∀(Q:QT) (tt:Sto) (b1 b3:Nat),(∀(YT:List Bnd),out=YT->∀(T:TT) (ss:Sto) (e0v0:AV),T 0=.ptr b1 0/\T 1=.ptr b3 0->Fx tt ss [(b3,⟨42,5,[e0v0,.Ya,i6 0,i6 10,i6 0]⟩),(b1,⟨42,5,[.Ya,.Ya,i6 0,i6 0,i6 0]⟩)] [⟨e0v0,75,3,rws K0 YT⟩]->Q (.ex 0) ⟨T,ss⟩)->True->∀(T:TT) (ss:Sto) (z0v0:AV),T 0=.ptr b1 0/\T 1=.ptr b3 0/\T 2=sf cS x5/\T 3=i6 YC->Fx tt ss [(b3,⟨42,5,[z0v0,.Ya,i6 0,i6 10,i6 0]⟩),(b1,⟨42,5,[.Ya,.Ya,i6 0,i6 0,i6 0]⟩)] [⟨z0v0,75,3,rws K0 X5⟩]->aLp KZ c Q ⟨T,ss⟩:=by
 intro x5 X5 YC;revert X5 YC;refine Y9.partial_correctness x5 _ ?_;intro Y9 IH X5 YC out H c hc Q tt b1 b3 hE hR T ss z0v0 tT hF;refine lpx tt hc rfl fun q hX=>go ?_;refine cdp H (fun h H=>?_) (fun h H=>?_)
 ·refine go ?_;refine Ye E0 [.v,.v,.v,.v,.v,.v,.v,.v,.v,.x,.v,.z] (by kernel_rfl) ?_;obtain ⟨x16,f1,H⟩:=bil (g:=cS) (fun _=>rfl) H;refine go1 ?_;refine Qpv (g:=K0) (rows:=[[.str x16,.Ya,i6 YC]]) hF 0 H Bnd.X6 true rfl (by simp only [sf,i6,zB,Y8,Vy,cI,cU,cS,cL,Bnd.X9,Zs,Zt,Fm.num,Fm.sc,Zu,Zj,Zb,Zv,Zk,Zl,ZB,Zm,Zw,Zx,Zn,Zo,Zp,Zy,Zq,Zc,ZC,Zz,ZD,ZA,Qr,K6,KJ,Kh,QS];exact (.cons (.refl _) id (.cons .Ya (fun _=>rfl) (.cons (.refl _) id .nil)))) fun x21 H v6 s7 hF=>?_;refine go ?_;refine st hF 0 (hF.cells 0 rfl) fun s8 hF=>?_;refine go ?_;exact IH  x21 (i64.wrap (YC+1)) _ H _ rfl Q tt b1 b3 hE hR _ _ v6 S hF
 ·refine go ?_;exact wq (hE _ (pur H).symm _ _ z0v0 S hF)
theorem Ak:∀  r,Vg  = some r->Vr KZ 77 [] (.agg (K7 r)):=by
 intro  r H;intro ss;unfold Vg at H;refine hdh mixed Tryz.func77 (rs:=[.cell 0 42]) fun q tT hF hX=>?_;refine go ?_;refine X8 hF rfl fun b1 ss2 hF=>?_;refine go ?_;refine X8 hF rfl fun b3 ss4 hF=>?_;refine go ?_;refine st hF 0 rfl fun ss5 hF=>?_;refine go ?_;refine bp H (MV ) fun x5 h H=>cl h ?_;have hF:=hF.nil 75 3;refine go ?_;obtain ⟨o9,ho9,H⟩:=bnd H;refine BW x5 [] 1 _ ho9 _ rfl _ _ b1 b3 ?_ ?_ _ _ .Ya S hF
 ·intro PO he T11 s12 e10v0 tT hF;have he:=he.symm;subst he;refine go ?_;refine st hF 1 rfl fun s14 hF=>?_;refine go ?_;have e:=pur H;subst e;exact rt _
 ·trivial
theorem Li:∀(a0:List Int) (a1 Yh:Int) out,JA a0 a1 Yh=some out->∀c,Yf Tryz.f65 0=some c->∀(Q:QT) (tt:Sto),(∀(_u:Unit),out=Sum.inr ()->∀(T:TT) (ss:Sto),0+0=0->Fx tt ss [] []->Q (.ex 0) ⟨T,ss⟩)->(∀r,out=Sum.inl r->∀s',Aj KZ [.tmp 4] (fun r' ss'=>r'=.bool r/\ss'=tt) s'->Q .ret s')->∀(T:TT) (ss:Sto),T 0=sf cI a0/\T 1=i6 a1/\T 5=i6 Yh->Fx tt ss [] []->aLp KZ c Q ⟨T,ss⟩:=by
 intro a0 a1 Yh;revert Yh;refine JA.partial_correctness a0 a1 _ ?_;intro JA IH Yh out H c hc Q tt  hE hR T ss tT hF;refine lpx tt hc rfl fun q hX=>go ?_;refine cdp H (fun h H=>?_) (fun h H=>?_)
 ·obtain ⟨x14,f1,H⟩:=bil (g:=cI) (fun _=>rfl) H;refine go1 ?_;refine go ?_;refine cdp H (fun h H=>?_) (fun h H=>?_)
  ·refine go ?_;exact wq (hR _ (pur H).symm _ (rt _))
  ·refine go ?_;exact IH  (i64.wrap (Yh+1)) _ H _ rfl Q tt  hE hR _ _  S hF
 ·refine go ?_;exact wq (hE () (pur H).symm _ _  S hF)
theorem Hg:∀(a0:List Int) (a1:Int) r,WS a0 a1=some r->Vr KZ 65 [sf cI a0,i6 a1] (.bool r):=by
 intro a0 a1 r H;intro ss;unfold WS at H;refine hdh mixed Tryz.func65 (rs:=[.tmp 4]) fun q tT hF hX=>?_;refine go ?_;obtain ⟨o1,ho1,H⟩:=bnd H;refine Li a0 a1 0 _ ho1 _ rfl _ _  ?_ ?_ _ _  S hF
 ·intro _ he T3 ss4 tT hF;have he:=he.symm;subst he
  try dsimp only at H
  refine go ?_;have e:=pur H;subst e;exact rt _
 ·intro r hr s' hs;subst hr;have e:=pur H;subst e;exact hsq hs
theorem Cv:∀(a0 a1:List Int) (Yh:Int) out,Vk a0 a1 Yh=some out->∀c,Yf Tryz.f128 0=some c->∀(Q:QT) (tt:Sto),(∀(_u:Unit),out=Sum.inr ()->∀(T:TT) (ss:Sto),0+0=0->Fx tt ss [] []->Q (.ex 0) ⟨T,ss⟩)->(∀r,out=Sum.inl r->∀s',Aj KZ [.tmp 4] (fun r' ss'=>r'=.bool r/\ss'=tt) s'->Q .ret s')->∀(T:TT) (ss:Sto),T 0=sf cI a0/\T 1=sf cI a1/\T 5=i6 Yh->Fx tt ss [] []->aLp KZ c Q ⟨T,ss⟩:=by
 intro a0 a1 Yh;revert Yh;refine Vk.partial_correctness a0 a1 _ ?_;intro Vk IH Yh out H c hc Q tt  hE hR T ss tT hF;refine lpx tt hc rfl fun q hX=>go ?_;refine cdp H (fun h H=>?_) (fun h H=>?_)
 ·obtain ⟨x15,f1,H⟩:=bil (g:=cI) (fun _=>rfl) H;refine go1 ?_;refine bp H (Hg a1 x15) fun x17 h H=>cl h ?_;refine go ?_;refine cdb H (fun h H=>?_) (fun h H=>?_)
  ·refine go ?_;exact wq (hR _ (pur H).symm _ (rt _))
  ·refine go ?_;exact IH  (i64.wrap (Yh+1)) _ H _ rfl Q tt  hE hR _ _  S hF
 ·refine go ?_;exact wq (hE () (pur H).symm _ _  S hF)
theorem AP:∀(a0 a1:List Int) r,V9 a0 a1=some r->Vr KZ 128 [sf cI a0,sf cI a1] (.bool r):=by
 intro a0 a1 r H;intro ss;unfold V9 at H;refine hdh mixed Tryz.func128 (rs:=[.tmp 4]) fun q tT hF hX=>?_;refine go ?_;obtain ⟨o1,ho1,H⟩:=bnd H;refine Cv a0 a1 0 _ ho1 _ rfl _ _  ?_ ?_ _ _  S hF
 ·intro _ he T3 ss4 tT hF;have he:=he.symm;subst he
  try dsimp only at H
  refine go ?_;have e:=pur H;subst e;exact rt _
 ·intro r hr s' hs;subst hr;have e:=pur H;subst e;exact hsq hs
theorem DK:∀(a0:List Bnd) (a1:Fm) (X5:List Int) (YI:Int) out,Vv a0 a1 X5 YI=some out->∀c,Yf Tryz.f127 0=some c->∀(Q:QT) (tt:Sto) (b1:Nat),(∀(YT:List Int),out=YT->∀(T:TT) (ss:Sto) (e0v0:AV),T 5=e0v0->Fx tt ss [(b1,⟨26,5,[i6 a1.kind,.str a1.name,i6 a1.num,sf cI a1.sc,sf KY a1.kids]⟩)] [⟨e0v0,3,1,rws cI YT⟩]->Q (.ex 0) ⟨T,ss⟩)->True->∀(T:TT) (ss:Sto) (z0v0:AV),T 0=sf K0 a0/\T 3=.ptr b1 0/\T 5=z0v0/\T 6=i6 YI->Fx tt ss [(b1,⟨26,5,[i6 a1.kind,.str a1.name,i6 a1.num,sf cI a1.sc,sf KY a1.kids]⟩)] [⟨z0v0,3,1,rws cI X5⟩]->aLp KZ c Q ⟨T,ss⟩:=by
 intro a0 a1 X5 YI;revert X5 YI;refine Vv.partial_correctness a0 a1 _ ?_;intro Vv IH X5 YI out H c hc Q tt b1 hE hR T ss z0v0 tT hF;refine lpx tt hc rfl fun q hX=>go ?_;refine cdp H (fun h H=>?_) (fun h H=>?_)
 ·refine go ?_;refine Ye E0 [.v,.v,.v,.v,.v,.v,.v,.v,.v,.v,.v,.v,.v,.v,.v,.v,.v,.v] (by kernel_rfl) ?_;obtain ⟨x16,f1,H⟩:=bil (g:=K0) Bnd.X6 H;refine go1 ?_;obtain ⟨x31,g3,H⟩:=bnd H;refine Jb 8 23 31 (.bool x31) (ti q (fun q=>?_) (fun q=>?_)) (fun J=>?_)
  ·rw [if_pos (dt q)] at g3;obtain ⟨x25,f1,g3⟩:=bil (g:=K0) Bnd.X6 g3;refine go1 ?_;obtain ⟨x30,hx30,g3⟩:=bnd g3;refine cv (AP x25.sc a1.sc _ hx30) ?_;refine go ?_;exact Yt 23 g3
  ·rw [if_neg (df q)] at g3;refine go ?_;exact Yt 23 g3
  refine go ?_;refine cdb H (fun h H=>?_) (fun h H=>?_)
  ·refine go ?_;refine apd (g:=cI) hF 0 H (rdo (c:=true) (g:=cI) (fun _=>rfl)) fun x35 H v5 ss6 hF=>?_;refine go ?_;exact IH  x35 (i64.wrap (YI+1)) _ H _ rfl Q tt b1 hE hR _ _ v5 S hF
  ·refine go ?_;exact IH  X5 (i64.wrap (YI+1)) _ H _ rfl Q tt b1 hE hR _ _ z0v0 S hF
 ·refine go ?_;exact wq (hE _ (pur H).symm _ _ z0v0 S hF)
theorem Fz:∀(a0:List Bnd) (a1:Fm) r,Ix a0 a1=some r->Vr KZ 127 [sf K0 a0,.agg (KY a1)] (sf cI r):=by
 intro a0 a1 r H;intro ss;unfold Ix at H;refine hdh mixed Tryz.func127 (rs:=[.tmp 4]) fun q tT hF hX=>?_;refine go ?_;refine X8 hF rfl fun b1 ss2 hF=>?_;have hF:=hF.lit 3 1 (rws cI []) rfl;refine go ?_;obtain ⟨o7,ho7,H⟩:=bnd H;refine DK a0 a1 [] 0 _ ho7 _ rfl _ _ b1 ?_ ?_ _ _ (.sl true (rws cI [])) S hF
 ·intro Qcg he T9 s10 e8v0 tT hF;have he:=he.symm;subst he;refine go ?_;have e:=pur H;subst e;exact rt _
 ·trivial
theorem Fy:∀(a0:List Bnd) (a1:Fm) (x12:List Int) (Yo:Int) (WD:Bool) (G5:Int) out,Wn a0 a1 x12 Yo WD G5=some out->∀c,Yf Tryz.f87 1=some c->∀(Q:QT) (tt:Sto) (b1:Nat),(∀(Qce:Bool),out=Qce->∀(T:TT) (ss:Sto),T 0=sf K0 a0/\T 6=sf cI x12/\T 7=i6 Yo/\T 8=.bool Qce->Fx tt ss [(b1,⟨26,5,[i6 a1.kind,.str a1.name,i6 a1.num,sf cI a1.sc,sf KY a1.kids]⟩)] []->Q (.ex 2) ⟨T,ss⟩)->True->∀(T:TT) (ss:Sto),T 0=sf K0 a0/\T 6=sf cI x12/\T 7=i6 Yo/\T 8=.bool WD/\T 9=i6 G5->Fx tt ss [(b1,⟨26,5,[i6 a1.kind,.str a1.name,i6 a1.num,sf cI a1.sc,sf KY a1.kids]⟩)] []->aLp KZ c Q ⟨T,ss⟩:=by
 intro a0 a1 x12 Yo WD G5;revert WD G5;refine Wn.partial_correctness a0 a1 x12 Yo _ ?_;intro Wn IH WD G5 out H c hc Q tt b1 hE hR T ss tT hF;refine lpx tt hc rfl fun q hX=>go ?_;refine cdp H (fun h H=>?_) (fun h H=>?_)
 ·refine go ?_;refine Ye E0 [.v,.v,.v,.v,.v,.v,.v,.v,.v,.v,.v,.v,.v,.v,.v,.v,.v,.v,.v,.v,.v] (by kernel_rfl) ?_;refine go ?_;obtain ⟨x44,g3,H⟩:=bnd H;refine Jb 17 27 44 (.bool x44) (ti q (fun q=>?_) (fun q=>?_)) (fun J=>?_)
  ·rw [if_pos (dbt q)] at g3;obtain ⟨x30,f1,g3⟩:=bil (g:=cI) (fun _=>rfl) g3;obtain ⟨x32,f2,g3⟩:=bil (g:=K0) Bnd.X6 g3;obtain ⟨x38,f3,g3⟩:=bil (g:=cI) (fun _=>rfl) g3;obtain ⟨x40,f4,g3⟩:=bil (g:=K0) Bnd.X6 g3;refine go4 ?_;obtain ⟨x43,hx43,g3⟩:=bnd g3;refine cv (AP x32.sc x40.sc _ hx43) ?_;refine go ?_;exact Yt 27 g3
  ·rw [if_neg (dbf q)] at g3;refine go ?_;exact Yt 27 g3
  refine go ?_;exact IH  x44 (i64.wrap (G5+1)) _ H _ rfl Q tt b1 hE hR _ _  S hF
 ·refine go ?_;exact wq (hE _ (pur H).symm _ _  S hF)
theorem Fw:∀(a0:List Bnd) (a1:Fm) (x12:List Int) (Yo:Int) out,W2 a0 a1 x12 Yo=some out->∀c,Yf Tryz.f87 0=some c->∀(Q:QT) (tt:Sto) (b1:Nat),(∀(_u:Unit),out=Sum.inr ()->∀(T:TT) (ss:Sto),T 6=sf cI x12->Fx tt ss [(b1,⟨26,5,[i6 a1.kind,.str a1.name,i6 a1.num,sf cI a1.sc,sf KY a1.kids]⟩)] []->Q (.ex 0) ⟨T,ss⟩)->(∀r,out=Sum.inl r->∀s',Aj KZ [.tmp 4,.tmp 5] (fun r' ss'=>r'=.tup [i6 r.1,i6 r.2]/\ss'=tt) s'->Q .ret s')->∀(T:TT) (ss:Sto),T 0=sf K0 a0/\T 6=sf cI x12/\T 7=i6 Yo->Fx tt ss [(b1,⟨26,5,[i6 a1.kind,.str a1.name,i6 a1.num,sf cI a1.sc,sf KY a1.kids]⟩)] []->aLp KZ c Q ⟨T,ss⟩:=by
 intro a0 a1 x12 Yo;revert Yo;refine W2.partial_correctness a0 a1 x12 _ ?_;intro W2 IH Yo out H c hc Q tt b1 hE hR T ss tT hF;refine lpx tt hc rfl fun q hX=>go ?_;refine cdp H (fun h H=>?_) (fun h H=>?_)
 ·refine go ?_;obtain ⟨o5,ho5,H⟩:=bnd H;refine Fy a0 a1 x12 Yo true 0 _ ho5 _ rfl _ _ b1 ?_ ?_ _ _  S hF
  ·intro Qe3 he T7 s8 tT hF;have he:=he.symm;subst he;refine go ?_;refine cdb H (fun h H=>?_) (fun h H=>?_)
   ·obtain ⟨x48,f1,H⟩:=bil (g:=cI) (fun _=>rfl) H;refine go1 ?_;refine go ?_;exact wq (hR _ (pur H).symm _ (rt _))
   ·refine go ?_;exact IH  (i64.wrap (Yo+1)) _ H _ rfl Q tt b1 hE hR _ _  S hF
  ·trivial
 ·refine go ?_;exact wq (hE () (pur H).symm _ _  S hF)
theorem BZ:∀(a0:List Bnd) (a1:Fm) r,IJ a0 a1=some r->Vr KZ 87 [sf K0 a0,.agg (KY a1)] (.tup [i6 r.1,i6 r.2]):=by
 intro a0 a1 r H;intro ss;unfold IJ at H;refine hdh mixed Tryz.func87 (rs:=[.tmp 4,.tmp 5]) fun q tT hF hX=>?_;refine go ?_;refine X8 hF rfl fun b1 ss2 hF=>?_;refine go ?_;refine bp H (Fz a0 a1) fun x12 h H=>cl h ?_;refine go ?_;obtain ⟨o10,ho10,H⟩:=bnd H;refine Fw a0 a1 x12 0 _ ho10 _ rfl _ _ b1 ?_ ?_ _ _  S hF
 ·intro _ he T12 s13 tT hF;have he:=he.symm;subst he
  try dsimp only at H
  refine go ?_;refine cdp H (fun h H=>?_) (fun h H=>?_)
  ·refine go ?_;have e:=pur H;subst e;exact rt _
  ·refine go ?_;have e:=pur H;subst e;exact rt _
 ·intro r hr s' hs;subst hr;have e:=pur H;subst e;exact hsq hs
theorem ES:∀(a0:Xpn) (a1 Yh:Int) out,WA a0 a1 Yh=some out->∀c,Yf Tryz.f85 0=some c->∀(Q:QT) (tt:Sto) (b1:Nat),(∀(_u:Unit),out=Sum.inr ()->∀(T:TT) (ss:Sto),0+0=0->Fx tt ss [(b1,⟨42,5,[sf K0 a0.binds,sf Zd a0.macs,i6 a0.scope,i6 a0.id,i6 a0.steps]⟩)] []->Q (.ex 0) ⟨T,ss⟩)->(∀r,out=Sum.inl r->∀s',Aj KZ [.tmp 4] (fun r' ss'=>r'=i6 r/\ss'=tt) s'->Q .ret s')->∀(T:TT) (ss:Sto),T 1=i6 a1/\T 2=.ptr b1 0/\T 5=i6 Yh->Fx tt ss [(b1,⟨42,5,[sf K0 a0.binds,sf Zd a0.macs,i6 a0.scope,i6 a0.id,i6 a0.steps]⟩)] []->aLp KZ c Q ⟨T,ss⟩:=by
 intro a0 a1 Yh;revert Yh;refine WA.partial_correctness a0 a1 _ ?_;intro WA IH Yh out H c hc Q tt b1 hE hR T ss tT hF;refine lpx tt hc rfl fun q hX=>go ?_;refine cdp H (fun h H=>?_) (fun h H=>?_)
 ·obtain ⟨x16,f1,H⟩:=bil (g:=Zd) Mac.X6 H;refine go1 ?_;refine go ?_;refine cdp H (fun h H=>?_) (fun h H=>?_)
  ·refine go ?_;exact wq (hR _ (pur H).symm _ (rt _))
  ·refine go ?_;exact IH  (i64.wrap (Yh+1)) _ H _ rfl Q tt b1 hE hR _ _  S hF
 ·refine go ?_;exact wq (hE () (pur H).symm _ _  S hF)
theorem Ag:∀(a0:Xpn) (a1:Int) r,G9 a0 a1=some r->Vr KZ 85 [.agg (K7 a0),i6 a1] (i6 r):=by
 intro a0 a1 r H;intro ss;unfold G9 at H;refine hdh mixed Tryz.func85 (rs:=[.tmp 4]) fun q tT hF hX=>?_;refine go ?_;refine X8 hF rfl fun b1 ss2 hF=>?_;refine go ?_;obtain ⟨o3,ho3,H⟩:=bnd H;refine ES a0 a1 0 _ ho3 _ rfl _ _ b1 ?_ ?_ _ _  S hF
 ·intro _ he T5 ss6 tT hF;have he:=he.symm;subst he
  try dsimp only at H
  refine go ?_;have e:=pur H;subst e;exact rt _
 ·intro r hr s' hs;subst hr;have e:=pur H;subst e;exact hsq hs
theorem Ih:∀(a0:Xpn) (a1:Fm) r,JS a0 a1=some r->Vr KZ 51 [.agg (K7 a0),.agg (KY a1)] (.tup [i6 r.1,i6 r.2]):=by
 intro a0 a1 r H;intro ss;unfold JS at H;refine hdh mixed Tryz.func51 (rs:=[.tmp 4,.tmp 5]) fun q tT hF hX=>?_;refine go ?_;refine X8 hF rfl fun b1 ss2 hF=>?_;refine go ?_;refine X8 hF rfl fun b3 ss4 hF=>?_;refine go ?_;refine bp H (BZ a0.binds a1) fun x13 h H=>cl h ?_;refine go ?_;refine cdp H (fun h H=>?_) (fun h H=>?_)
 ·refine go ?_;have e:=pur H;subst e;exact rt _
 ·refine go ?_;refine cdp H (fun h H=>?_) (fun h H=>?_)
  ·refine go ?_;have e:=pur H;subst e;exact rt _
  ·obtain ⟨x24,f1,H⟩:=bil (g:=K0) Bnd.X6 H;refine go1 ?_;refine go ?_;refine cdp H (fun h H=>?_) (fun h H=>?_)
   ·refine go ?_;have e:=pur H;subst e;exact rt _
   ·refine go ?_;refine bp H (Ag a0 x24.id) fun x34 h H=>cl h ?_;refine go ?_;refine cdp H (fun h H=>?_) (fun h H=>?_)
    ·refine go ?_;have e:=pur H;subst e;exact rt _
    ·refine go ?_;have e:=pur H;subst e;exact rt _
theorem NX:∀(a0:Xpn) (a1:Fm) r,Bk a0 a1=some r->Vr KZ 160 [.agg (K7 a0),.agg (KY a1)] (.tup [.agg (K7 r.1),.agg (Cor.cells r.2.1),i6 r.2.2]):=by
 intro a0 a1 r H;intro ss;unfold Bk at H;refine hdh mixed Tryz.func160 (rs:=[.cell 4 42,.cell 5 136,.tmp 6]) fun q tT hF hX=>?_;refine go ?_;refine X8 hF rfl fun b1 ss2 hF=>?_;refine go ?_;refine X8 hF rfl fun b3 ss4 hF=>?_;refine go ?_;refine X8 hF rfl fun b5 ss6 hF=>?_;refine go ?_;refine X8 hF rfl fun b7 s8 hF=>?_;refine go ?_;refine bp H (Ih a0 a1) fun x12 h H=>cl h ?_;refine go ?_;refine cdp H (fun h H=>?_) (fun h H=>?_)
 ·refine go ?_;obtain ⟨E,hEq⟩:∃E,E=EE s8 [b5,b7]:=⟨_,rfl⟩
  have n9:¬E b3:=by rw [hEq];exact K5 (hF.at 2 rfl) (nm2 ⟨neL hF 2 1 rfl rfl (by decide),neL hF 2 0 rfl rfl (by decide)⟩)
  have n10:¬E b1:=by rw [hEq];exact K5 (hF.at 3 rfl) (nm2 ⟨neL hF 3 1 rfl rfl (by decide),neL hF 3 0 rfl rfl (by decide)⟩)
  refine Ye E [.v,.v,.v,.v,.x,.x,.v] (by kernel_rfl) ?_;have z:=K2 (X4 (hF.at 2 rfl) n9) (X4 (hF.at 3 rfl) n10);refine gh ?_;refine stK hF 1 (by rw [hEq];exact Ze (by simp)) rfl fun s11 hF=>?_;have z:=K2 (X4 (hF.at 2 rfl) n9) (X4 (hF.at 3 rfl) n10);refine gh ?_;refine stK hF 0 (by rw [hEq];exact Ze (by simp)) rfl fun s12 hF=>?_;have z:=K2 (X4 (hF.at 2 rfl) n9) (X4 (hF.at 3 rfl) n10);refine gh ?_;refine go ?_;have e:=pur H;subst e;exact rt [.agg [sf K0 a0.binds,sf Zd a0.macs,i6 a0.scope,i6 a0.id,i6 a0.steps],.agg [i6 2,i6 0,.str a1.name,i6 0,.Ya,i6 0,.str zB,i6 0,.Ya,.Ya,.Ya],i6 0]
 ·refine go ?_;refine cdp H (fun h H=>?_) (fun h H=>?_)
  ·refine go ?_;refine st hF 1 rfl fun s13 hF=>?_;refine go ?_;refine st hF 0 rfl fun s14 hF=>?_;refine go ?_;have e:=pur H;subst e;exact rt _
  ·refine go ?_;refine cdp H (fun h H=>?_) (fun h H=>?_)
   ·refine go ?_;refine st hF 1 rfl fun s15 hF=>?_;refine go ?_;refine st hF 0 rfl fun s16 hF=>?_;refine go ?_;have e:=pur H;subst e;exact rt _
   ·refine go ?_;refine st hF 1 rfl fun s17 hF=>?_;refine go ?_;refine st hF 0 rfl fun s18 hF=>?_;refine go ?_;have e:=pur H;subst e;exact rt _
theorem B9:∀(a0:Fm) r,Wj a0=some r->Vr KZ 186 [.agg (KY a0)] (.agg (KY r)):=by
 refine Wj.partial_correctness _ (motive_2:=fun a0 X5 YH out=>∀c,Yf Tryz.f186 0=some c->∀(Q:QT) (tt:Sto) (b1 b3 b5:Nat),(∀(YT:List Fm),out=YT->∀(T:TT) (ss:Sto) (e0v0:AV),T 2=.ptr b3 0/\T 3=.ptr b5 0->Fx tt ss [(b5,⟨26,5,[i6 a0.kind,.str a0.name,i6 a0.num,.Ya,e0v0]⟩),(b3,⟨26,5,[i6 0,.str zB,i6 0,.Ya,.Ya]⟩),(b1,⟨26,5,[i6 a0.kind,.str a0.name,i6 a0.num,sf cI a0.sc,sf KY a0.kids]⟩)] [⟨e0v0,26,5,rws KY YT⟩]->Q (.ex 0) ⟨T,ss⟩)->True->∀(T:TT) (ss:Sto) (z0v0:AV),T 1=.ptr b1 0/\T 2=.ptr b3 0/\T 3=.ptr b5 0/\T 4=i6 YH->Fx tt ss [(b5,⟨26,5,[i6 a0.kind,.str a0.name,i6 a0.num,.Ya,z0v0]⟩),(b3,⟨26,5,[i6 0,.str zB,i6 0,.Ya,.Ya]⟩),(b1,⟨26,5,[i6 a0.kind,.str a0.name,i6 a0.num,sf cI a0.sc,sf KY a0.kids]⟩)] [⟨z0v0,26,5,rws KY X5⟩]->aLp KZ c Q ⟨T,ss⟩) ?_ ?_
 ·intro Wb L0 a0 r H;intro ss;refine hdh mixed Tryz.func186 (rs:=[.cell 2 26]) fun q tT hF hX=>?_;refine go ?_;refine X8 hF rfl fun b1 ss2 hF=>?_;refine go ?_;refine X8 hF rfl fun b3 ss4 hF=>?_;refine go ?_;refine X8 hF rfl fun b5 ss6 hF=>?_;refine go ?_;refine st hF 0 rfl fun s7 hF=>?_;have hF:=hF.nil 26 5;refine go ?_;obtain ⟨o11,ho11,H⟩:=bnd H;refine L0 a0 [] 0 _ ho11 _ rfl _ _ b1 b3 b5 ?_ ?_ _ _ .Ya S hF
  ·intro CT he T13 s14 e12v0 tT hF;have he:=he.symm;subst he;refine go ?_;refine st hF 1 rfl fun s16 hF=>?_;refine go ?_;have e:=pur H;subst e;exact rt _
  ·trivial
 ·intro Wj Wb C0 L0 a0 X5 YH out H c hc Q tt b1 b3 b5 hE hR T ss z0v0 tT hF;refine lpx tt hc rfl fun q hX=>go ?_;refine cdp H (fun h H=>?_) (fun h H=>?_)
  ·refine go ?_;refine Ye E0 [.v,.v,.v,.v,.v,.v,.v,.v,.v,.x,.v,.z] (by kernel_rfl) ?_;obtain ⟨x24,f1,H⟩:=bil (g:=KY) Fm.X6 H;refine go1 ?_;refine bp H (C0 x24) fun x26 h H=>cv h ?_;refine go ?_;refine Pn (g:=KY) hF 0 H (rdo (c:=true) (g:=KY) Fm.X6) fun x28 H v8 s9 hF=>?_;refine go ?_;refine st hF 0 (hF.cells 0 rfl) fun s10 hF=>?_;refine go ?_;exact L0 a0 x28 (i64.wrap (YH+1)) _ H _ rfl Q tt b1 b3 b5 hE hR _ _ v8 S hF
  ·refine go ?_;exact wq (hE _ (pur H).symm _ _ z0v0 S hF)
theorem Bl:∀(a0:Xpn) r,HY a0=some r->Vr KZ 197 [.agg (K7 a0)] (.tup [.agg (K7 r.1),.bool r.2]):=by
 intro a0 r H;intro ss;unfold HY at H;refine hdh mixed Tryz.func197 (rs:=[.cell 2 42,.tmp 3]) fun q tT hF hX=>?_;refine go ?_;refine X8 hF rfl fun b1 ss2 hF=>?_;refine go ?_;refine X8 hF rfl fun b3 ss4 hF=>?_;refine go ?_;refine st hF 1 rfl fun ss5 hF=>?_;refine go ?_;obtain ⟨E,hEq⟩:∃E,E=EE ss5 [b3]:=⟨_,rfl⟩
 have n6:¬E b1:=by rw [hEq];exact K5 (hF.at 1 rfl) (nm1 (neL hF 1 0 rfl rfl (by decide)))
 refine Ye E [.v,.v,.v,.v,.x,.v] (by kernel_rfl) ?_;have z:=X4 (hF.at 1 rfl) n6;refine gh ?_;refine stK hF 0 (by rw [hEq];exact Ze (by simp)) rfl fun s7 hF=>?_;have z:=X4 (hF.at 1 rfl) n6;refine gh ?_;refine go ?_;have e:=pur H;subst e;exact rt [.agg [sf K0 a0.binds,sf Zd a0.macs,i6 (i64.wrap (a0.scope+1)),i6 a0.id,i6 a0.steps],.bool (decide ((i64.wrap (a0.scope+1))<=99))]
theorem Fu:∀(a0:List Int) (a1:Int) (X5:List Int) (YI:Int) out,Wm a0 a1 X5 YI=some out->∀c,Yf Tryz.f200 0=some c->∀(Q:QT) (tt:Sto),(∀(YT:List Int),out=YT->∀(T:TT) (ss:Sto) (e0v0:AV),T 5=e0v0->Fx tt ss [] [⟨e0v0,3,1,rws cI YT⟩]->Q (.ex 0) ⟨T,ss⟩)->True->∀(T:TT) (ss:Sto) (z0v0:AV),T 0=sf cI a0/\T 1=i6 a1/\T 5=z0v0/\T 6=i6 YI->Fx tt ss [] [⟨z0v0,3,1,rws cI X5⟩]->aLp KZ c Q ⟨T,ss⟩:=by
 intro a0 a1 X5 YI;revert X5 YI;refine Wm.partial_correctness a0 a1 _ ?_;intro Wm IH X5 YI out H c hc Q tt  hE hR T ss z0v0 tT hF;refine lpx tt hc rfl fun q hX=>go ?_;refine cdp H (fun h H=>?_) (fun h H=>?_)
 ·obtain ⟨x16,f1,H⟩:=bil (g:=cI) (fun _=>rfl) H;refine go1 ?_;refine go ?_;refine cdn H (fun h H=>?_) (fun h H=>?_)
  ·obtain ⟨x23,f1,H⟩:=bil (g:=cI) (fun _=>rfl) H;refine go1 ?_;refine apd (g:=cI) hF 0 H (rdo (c:=true) (g:=cI) (fun _=>rfl)) fun x26 H v1 ss2 hF=>?_;refine go ?_;exact IH  x26 (i64.wrap (YI+1)) _ H _ rfl Q tt  hE hR _ _ v1 S hF
  ·refine go ?_;exact IH  X5 (i64.wrap (YI+1)) _ H _ rfl Q tt  hE hR _ _ z0v0 S hF
 ·refine go ?_;exact wq (hE _ (pur H).symm _ _ z0v0 S hF)
theorem NG:∀(a0:List Int) (a1:Int) r,Aq a0 a1=some r->Vr KZ 200 [sf cI a0,i6 a1] (sf cI r):=by
 intro a0 a1 r H;intro ss;unfold Aq at H;refine hdh mixed Tryz.func200 (rs:=[.tmp 4]) fun q tT hF hX=>?_;have hF:=hF.lit 3 1 (rws cI []) rfl;refine go ?_;obtain ⟨o3,ho3,H⟩:=bnd H;refine Fu a0 a1 [] 0 _ ho3 _ rfl _ _  ?_ ?_ _ _ (.sl true (rws cI [])) S hF
 ·intro Qlv he T5 ss6 e4v0 tT hF;have he:=he.symm;subst he;refine go ?_;have e:=pur H;subst e;exact rt _
 ·trivial
theorem Lj:∀(a0:List Int) (a1:Int) (X5:List Int) (YI:Bool) (Yo:Int) out,JB a0 a1 X5 YI Yo=some out->∀c,Yf Tryz.f201 0=some c->∀(Q:QT) (tt:Sto),(∀(YT:List Int) (Qlt:Bool),out=(YT,Qlt)->∀(T:TT) (ss:Sto) (e0v0:AV),T 1=i6 a1/\T 5=e0v0/\T 6=.bool Qlt->Fx tt ss [] [⟨e0v0,3,1,rws cI YT⟩]->Q (.ex 0) ⟨T,ss⟩)->True->∀(T:TT) (ss:Sto) (z0v0:AV),T 0=sf cI a0/\T 1=i6 a1/\T 5=z0v0/\T 6=.bool YI/\T 7=i6 Yo->Fx tt ss [] [⟨z0v0,3,1,rws cI X5⟩]->aLp KZ c Q ⟨T,ss⟩:=by
 intro a0 a1 X5 YI Yo;revert X5 YI Yo;refine JB.partial_correctness a0 a1 _ ?_;intro JB IH X5 YI Yo out H c hc Q tt  hE hR T ss z0v0 tT hF;refine lpx tt hc rfl fun q hX=>go ?_;refine cdp H (fun h H=>?_) (fun h H=>?_)
 ·refine go ?_;obtain ⟨x27,g1,H⟩:=bnd H;refine Yb 6 21 27 (.bool x27) (gi q (fun q=>?_) (fun q=>?_)) (fun J=>?_)
  ·rw [if_pos (dbt q)] at g1;obtain ⟨x23,f1,g1⟩:=bil (g:=cI) (fun _=>rfl) g1;refine go1 ?_;refine go ?_;exact Yt 21 g1
  ·rw [if_neg (dbf q)] at g1;refine go ?_;exact Yt 21 g1
  refine go ?_;obtain ⟨⟨AO,U5⟩,j4,H⟩:=bnd H;refine VL (fun s'=>∃(T:TT) (ss1:Sto) (y3v0:AV),s'=⟨T,ss1⟩/\(T 0=sf cI a0/\T 1=i6 a1/\T 5=y3v0/\T 6=.bool U5/\T 7=i6 Yo)/\Fx tt ss1 [] [⟨y3v0,3,1,rws cI AO⟩]) (cdb j4 (fun h j4=>?_) (fun h j4=>?_)) ?_
  ·refine go ?_;refine apd (g:=cI) hF 0 j4 (rdo (c:=true) (g:=cI) (fun _=>rfl)) fun x31 j4 v5 ss6 hF=>?_;refine go ?_;have e:=pur j4
   injection e with e0 e
   subst e0;subst e;exact ⟨_,_,v5,rfl,S,hF⟩
  ·refine go ?_;have e:=pur j4
   injection e with e0 e
   subst e0;subst e;exact ⟨_,_,z0v0,rfl,S,hF⟩
  ·rintro s' ⟨T7,s8,y3v0,rfl,tT,hF⟩;obtain ⟨x35,f1,H⟩:=bil (g:=cI) (fun _=>rfl) H;refine go1 ?_;refine apd (g:=cI) hF 0 H (rdo (c:=true) (g:=cI) (fun _=>rfl)) fun x38 H v10 s11 hF=>?_;refine go ?_;exact IH  x38 U5 (i64.wrap (Yo+1)) _ H _ rfl Q tt  hE hR _ _ v10 S hF
 ·refine go ?_;exact wq (hE _ _ (pur H).symm _ _ z0v0 S hF)
theorem O5:∀(a0:List Int) (a1:Int) r,AY a0 a1=some r->Vr KZ 201 [sf cI a0,i6 a1] (sf cI r):=by
 intro a0 a1 r H;intro ss;unfold AY at H;refine hdh mixed Tryz.func201 (rs:=[.tmp 4]) fun q tT hF hX=>?_;refine go ?_;refine bp H (Hg a0 a1) fun x11 h H=>cl h ?_;have hF:=hF.lit 3 1 (rws cI []) rfl;refine go ?_;obtain ⟨o12,ho12,H⟩:=bnd H;refine Lj a0 a1 [] x11 0 _ ho12 _ rfl _ _  ?_ ?_ _ _ (.sl true (rws cI [])) S hF
 ·intro N8 Qhc he T14 s15 e13v0 tT hF;have he:=he.symm;subst he
  try dsimp only at H
  refine go ?_;refine cdb H (fun h H=>?_) (fun h H=>?_)
  ·refine go ?_;refine apd (g:=cI) hF 0 H (rdo (c:=true) (g:=cI) (fun _=>rfl)) fun x44 H v17 s18 hF=>?_;refine go ?_;have e:=pur H;subst e;exact rt _
  ·refine go ?_;have e:=pur H;subst e;exact rt _
 ·trivial
theorem Ve:∀(a0:Fm) (a1 a2:Int) r,YQ a0 a1 a2=some r->Vr KZ 182 [.agg (KY a0),i6 a1,i6 a2] (.agg (KY r)):=by
 intro a0 a1 a2;revert a0;refine YQ.partial_correctness a1 a2 (motive_1:=fun a0 r=>Vr KZ 182 [.agg (KY a0),i6 a1,i6 a2] (.agg (KY r))) (motive_2:=fun a0 GJ X5 YL out=>∀c,Yf Tryz.f182 0=some c->∀(Q:QT) (tt:Sto) (b1 b3 b5:Nat),(∀(YT:List Fm),out=YT->∀(T:TT) (ss:Sto) (e0v0:AV),T 6=.ptr b3 0/\T 7=.ptr b5 0->Fx tt ss [(b5,⟨26,5,[i6 a0.kind,.str a0.name,i6 a0.num,sf cI GJ,e0v0]⟩),(b3,⟨26,5,[i6 0,.str zB,i6 0,.Ya,.Ya]⟩),(b1,⟨26,5,[i6 a0.kind,.str a0.name,i6 a0.num,sf cI a0.sc,sf KY a0.kids]⟩)] [⟨e0v0,26,5,rws KY YT⟩]->Q (.ex 0) ⟨T,ss⟩)->True->∀(T:TT) (ss:Sto) (z0v0:AV),T 1=i6 a1/\T 2=i6 a2/\T 3=.ptr b1 0/\T 6=.ptr b3 0/\T 7=.ptr b5 0/\T 8=i6 YL->Fx tt ss [(b5,⟨26,5,[i6 a0.kind,.str a0.name,i6 a0.num,sf cI GJ,z0v0]⟩),(b3,⟨26,5,[i6 0,.str zB,i6 0,.Ya,.Ya]⟩),(b1,⟨26,5,[i6 a0.kind,.str a0.name,i6 a0.num,sf cI a0.sc,sf KY a0.kids]⟩)] [⟨z0v0,26,5,rws KY X5⟩]->aLp KZ c Q ⟨T,ss⟩) ?_ ?_
 ·intro WL L0 a0 r H;intro ss;refine hdh mixed Tryz.func182 (rs:=[.cell 6 26]) fun q tT hF hX=>?_;refine go ?_;refine X8 hF rfl fun b1 ss2 hF=>?_;refine go ?_;refine X8 hF rfl fun b3 ss4 hF=>?_;refine go ?_;refine Ye E0 [.v,.v,.v,.v,.v,.v,.v,.v,.v,.v,.v,.x,.z] (by kernel_rfl) ?_;refine go ?_;obtain ⟨x18,hx18,H⟩:=bnd H;refine M1 (g:=cI) (xs:=[]) (ys:=a0.sc) (fun _=>rfl) (by decide) (by decide) (.inr (by first | rfl | simp only [Y8,Vy,cI,cU,cS,cL])) (.inr ⟨_,by first | rfl | simp only [Y8,Vy,cI,cU,cS,cL]⟩) hx18 ?_;refine go ?_;refine WQ hF rfl fun b5 ss6 hF=>?_;refine go ?_;refine st hF 0 rfl fun s7 hF=>?_;refine go ?_;obtain ⟨GJ,j9,H⟩:=bnd H;refine VL (fun s'=>∃(T:TT) (ss1:Sto),s'=⟨T,ss1⟩/\(T 1=i6 a1/\T 2=i6 a2/\T 3=.ptr b1 0/\T 6=.ptr b3 0/\T 7=.ptr b5 0)/\Fx ss ss1 [(b5,⟨26,5,[i6 a0.kind,.str a0.name,i6 a0.num,sf cI GJ,.Ya]⟩),(b3,⟨26,5,[i6 0,.str zB,i6 0,.Ya,.Ya]⟩),(b1,⟨26,5,[i6 a0.kind,.str a0.name,i6 a0.num,sf cI a0.sc,sf KY a0.kids]⟩)] []) (cdp j9 (fun h j9=>?_) (fun h j9=>?_)) ?_
  ·refine go ?_;obtain ⟨x34,g10,j9⟩:=bnd j9;refine Yb 8 26 34 (.bool x34) (giN q (fun q=>?_) (fun q=>?_)) (fun J=>?_)
   ·rw [if_neg (df q)] at g10;refine go ?_;obtain ⟨x33,g12,g10⟩:=bnd g10;refine Yb 4 29 33 (.bool x33) (gi q (fun q=>?_) (fun q=>?_)) (fun J=>?_)
    ·rw [if_pos (dt q)] at g12;refine go ?_;obtain ⟨x32,hx32,g12⟩:=bnd g12;refine cl (Hg a0.sc a1 _ hx32) ?_;refine go ?_;exact Yt 29 g12
    ·rw [if_neg (df q)] at g12;refine go ?_;exact Yt 29 g12
    refine go ?_;exact Yt 26 g10
   ·rw [if_pos (dt q)] at g10;refine go ?_;exact Yt 26 g10
   refine go ?_;refine cdb j9 (fun h j9=>?_) (fun h j9=>?_)
   ·refine go ?_;obtain ⟨x38,hx38,j9⟩:=bnd j9;refine cl (NG a0.sc a1 _ hx38) ?_;refine go ?_;refine st hF 0 rfl fun s14 hF=>?_;refine go ?_;have e:=pur j9;subst e;exact ⟨_,_,rfl,S,hF⟩
   ·refine go ?_;obtain ⟨x43,hx43,j9⟩:=bnd j9;refine cl (O5 a0.sc a1 _ hx43) ?_;refine go ?_;refine st hF 0 rfl fun s15 hF=>?_;refine go ?_;have e:=pur j9;subst e;exact ⟨_,_,rfl,S,hF⟩
  ·refine go ?_;have e:=pur j9;subst e;exact ⟨_,_,rfl,S,hF⟩
  ·rintro s' ⟨T16,s17,rfl,tT,hF⟩;have hF:=hF.nil 26 5;refine go ?_;obtain ⟨o22,ho22,H⟩:=bnd H;refine L0 a0 GJ [] 0 _ ho22 _ rfl _ _ b1 b3 b5 ?_ ?_ _ _ .Ya S hF
   ·intro PV he T24 s25 e23v0 tT hF;have he:=he.symm;subst he;refine go ?_;refine st hF 1 rfl fun s27 hF=>?_;refine go ?_;have e:=pur H;subst e;exact rt _
   ·trivial
 ·intro YQ WL C0 L0 a0 GJ X5 YL out H c hc Q tt b1 b3 b5 hE hR T ss z0v0 tT hF;refine lpx tt hc rfl fun q hX=>go ?_;refine cdp H (fun h H=>?_) (fun h H=>?_)
  ·refine go ?_;refine Ye E0 [.v,.v,.v,.v,.v,.v,.v,.v,.v,.v,.v,.x,.v,.z] (by kernel_rfl) ?_;obtain ⟨x57,f1,H⟩:=bil (g:=KY) Fm.X6 H;refine go1 ?_;refine bp H (C0 x57) fun x61 h H=>cv h ?_;refine go ?_;refine Pn (g:=KY) hF 0 H (rdo (c:=true) (g:=KY) Fm.X6) fun x63 H v19 s20 hF=>?_;refine go ?_;refine st hF 0 (hF.cells 0 rfl) fun s21 hF=>?_;refine go ?_;exact L0 a0 GJ x63 (i64.wrap (YL+1)) _ H _ rfl Q tt b1 b3 b5 hE hR _ _ v19 S hF
  ·refine go ?_;exact wq (hE _ (pur H).symm _ _ z0v0 S hF)
theorem Fo:∀(a0 a1:List Int) (Yh:Int) out,W0 a0 a1 Yh=some out->∀c,Yf Tryz.f124 0=some c->∀(Q:QT) (tt:Sto),(∀(_u:Unit),out=Sum.inr ()->∀(T:TT) (ss:Sto),0+0=0->Fx tt ss [] []->Q (.ex 0) ⟨T,ss⟩)->(∀r,out=Sum.inl r->∀s',Aj KZ [.tmp 4] (fun r' ss'=>r'=.bool r/\ss'=tt) s'->Q .ret s')->∀(T:TT) (ss:Sto),T 0=sf cI a0/\T 1=sf cI a1/\T 5=i6 Yh->Fx tt ss [] []->aLp KZ c Q ⟨T,ss⟩:=by
 intro a0 a1 Yh;revert Yh;refine W0.partial_correctness a0 a1 _ ?_;intro W0 IH Yh out H c hc Q tt  hE hR T ss tT hF;refine lpx tt hc rfl fun q hX=>go ?_;refine cdp H (fun h H=>?_) (fun h H=>?_)
 ·refine go ?_;refine Ye E0 [.v,.v,.v,.v,.v,.v,.v,.v,.v] (by kernel_rfl) ?_;obtain ⟨x19,f1,H⟩:=bil (g:=cI) (fun _=>rfl) H;obtain ⟨x23,f2,H⟩:=bil (g:=cI) (fun _=>rfl) H;refine go2 ?_;refine go ?_;refine cdn H (fun h H=>?_) (fun h H=>?_)
  ·refine go ?_;exact wq (hR _ (pur H).symm _ (rt _))
  ·refine go ?_;exact IH  (i64.wrap (Yh+1)) _ H _ rfl Q tt  hE hR _ _  S hF
 ·refine go ?_;exact wq (hE () (pur H).symm _ _  S hF)
theorem DS:∀(a0 a1:List Int) r,Ap a0 a1=some r->Vr KZ 124 [sf cI a0,sf cI a1] (.bool r):=by
 intro a0 a1 r H;intro ss;unfold Ap at H;refine hdh mixed Tryz.func124 (rs:=[.tmp 4]) fun q tT hF hX=>?_;refine go ?_;refine cdn H (fun h H=>?_) (fun h H=>?_)
 ·refine go ?_;have e:=pur H;subst e;exact rt _
 ·refine go ?_;obtain ⟨o1,ho1,H⟩:=bnd H;refine Fo a0 a1 0 _ ho1 _ rfl _ _  ?_ ?_ _ _  S hF
  ·intro _ he T3 ss4 tT hF;have he:=he.symm;subst he
   try dsimp only at H
   refine go ?_;have e:=pur H;subst e;exact rt _
  ·intro r hr s' hs;subst hr;have e:=pur H;subst e;exact hsq hs
theorem Db:∀(a0:List Bnd) (YC Nj:Int) out,VO a0 YC Nj=some out->∀c,Yf Tryz.f84 1=some c->∀(Q:QT) (tt:Sto),(∀(_u:Unit),out=Sum.inr ()->∀(T:TT) (ss:Sto),T 0=sf K0 a0/\T 3=i6 YC->Fx tt ss [] []->Q (.ex 2) ⟨T,ss⟩)->(∀r,out=Sum.inl r->∀s',Aj KZ [.tmp 2] (fun r' ss'=>r'=.bool r/\ss'=tt) s'->Q .ret s')->∀(T:TT) (ss:Sto),T 0=sf K0 a0/\T 3=i6 YC/\T 4=i6 Nj->Fx tt ss [] []->aLp KZ c Q ⟨T,ss⟩:=by
 intro a0 YC Nj;revert Nj;refine VO.partial_correctness a0 YC _ ?_;intro VO IH Nj out H c hc Q tt  hE hR T ss tT hF;refine lpx tt hc rfl fun q hX=>go ?_;refine cdp H (fun h H=>?_) (fun h H=>?_)
 ·refine go ?_;refine Ye E0 [.v,.v,.v,.v,.v,.v,.v,.v,.v,.v,.v,.v,.v,.v,.v,.v,.v,.v,.v,.v,.v,.v,.v,.v] (by kernel_rfl) ?_;obtain ⟨x54,f1,H⟩:=bil (g:=K0) Bnd.X6 H;obtain ⟨x59,f2,H⟩:=bil (g:=K0) Bnd.X6 H;refine go2 ?_;obtain ⟨x75,g9,H⟩:=bnd H;refine Jb 11 64 75 (.bool x75) (ti q (fun q=>?_) (fun q=>?_)) (fun J=>?_)
  ·rw [if_pos (dt q)] at g9;obtain ⟨x66,f1,g9⟩:=bil (g:=K0) Bnd.X6 g9;obtain ⟨x71,f2,g9⟩:=bil (g:=K0) Bnd.X6 g9;refine go2 ?_;obtain ⟨x74,hx74,g9⟩:=bnd g9;refine cv (DS x66.sc x71.sc _ hx74) ?_;refine go ?_;exact Yt 64 g9
  ·rw [if_neg (df q)] at g9;refine go ?_;exact Yt 64 g9
  refine go ?_;refine cdb H (fun h H=>?_) (fun h H=>?_)
  ·refine go ?_;exact wq (hR _ (pur H).symm _ (rt _))
  ·refine go ?_;exact IH  (i64.wrap (Nj+1)) _ H _ rfl Q tt  hE hR _ _  S hF
 ·refine go ?_;exact wq (hE () (pur H).symm _ _  S hF)
theorem Da:∀(a0:List Bnd) (YC:Int) out,VN a0 YC=some out->∀c,Yf Tryz.f84 0=some c->∀(Q:QT) (tt:Sto),(∀(_u:Unit),out=Sum.inr ()->∀(T:TT) (ss:Sto),T 0=sf K0 a0->Fx tt ss [] []->Q (.ex 0) ⟨T,ss⟩)->(∀r,out=Sum.inl r->∀s',Aj KZ [.tmp 2] (fun r' ss'=>r'=.bool r/\ss'=tt) s'->Q .ret s')->∀(T:TT) (ss:Sto),T 0=sf K0 a0/\T 3=i6 YC->Fx tt ss [] []->aLp KZ c Q ⟨T,ss⟩:=by
 intro a0 YC;revert YC;refine VN.partial_correctness a0 _ ?_;intro VN IH YC out H c hc Q tt  hE hR T ss tT hF;refine lpx tt hc rfl fun q hX=>go ?_;obtain ⟨x12,g1,H⟩:=bnd H;refine Yb 2 10 12 (.bool x12) (gi q (fun q=>?_) (fun q=>?_)) (fun J=>?_)
 ·refine go ?_;exact Yt 10 g1
 ·refine go ?_;exact Yt 10 g1
 refine go ?_;refine cdb H (fun h H=>?_) (fun h H=>?_)
 ·obtain ⟨x17,f1,H⟩:=bil (g:=K0) Bnd.X6 H;refine go1 ?_;refine bp H (Am x17.name) fun x20 h H=>cl h ?_;refine go ?_;obtain ⟨x30,g3,H⟩:=bnd H;refine Yb 7 23 30 (.bool x30) (giN q (fun q=>?_) (fun q=>?_)) (fun J=>?_)
  ·rw [if_neg (dbf q)] at g3;obtain ⟨x25,f1,g3⟩:=bil (g:=K0) Bnd.X6 g3;refine go1 ?_;obtain ⟨x28,hx28,g3⟩:=bnd g3;refine cl (CF x25.sc _ hx28) ?_;refine go ?_;exact Yt 23 g3
  ·rw [if_pos (dbt q)] at g3;refine go ?_;exact Yt 23 g3
  refine go ?_;obtain ⟨x38,g5,H⟩:=bnd H;refine Yb 6 32 38 (.bool x38) (giN q (fun q=>?_) (fun q=>?_)) (fun J=>?_)
  ·rw [if_neg (dbf q)] at g5;obtain ⟨x34,f1,g5⟩:=bil (g:=K0) Bnd.X6 g5;refine go1 ?_;refine go ?_;exact Yt 32 g5
  ·rw [if_pos (dbt q)] at g5;refine go ?_;exact Yt 32 g5
  refine go ?_;obtain ⟨x46,g7,H⟩:=bnd H;refine Yb 6 40 46 (.bool x46) (giN q (fun q=>?_) (fun q=>?_)) (fun J=>?_)
  ·rw [if_neg (dbf q)] at g7;obtain ⟨x42,f1,g7⟩:=bil (g:=K0) Bnd.X6 g7;refine go1 ?_;refine go ?_;exact Yt 40 g7
  ·rw [if_pos (dbt q)] at g7;refine go ?_;exact Yt 40 g7
  refine go ?_;refine cdb H (fun h H=>?_) (fun h H=>?_)
  ·refine go ?_;exact wq (hR _ (pur H).symm _ (rt _))
  ·refine go ?_;obtain ⟨o11,ho11,H⟩:=bnd H;refine Db a0 YC 0 _ ho11 _ rfl _ _  ?_ ?_ _ _  S hF
   ·intro _ he T13 s14 tT hF;have he:=he.symm;subst he
    try dsimp only at H
    refine go ?_;exact IH  (i64.wrap (YC+1)) _ H _ rfl Q tt  hE hR _ _  S hF
   ·intro r hr s' hs;subst hr;exact wq (hR _ (pur H).symm _ hs)
 ·refine go ?_;exact wq (hE () (pur H).symm _ _  S hF)
theorem Ac:∀(a0:List Bnd) r,JZ a0=some r->Vr KZ 84 [sf K0 a0] (.bool r):=by
 intro a0 r H;intro ss;unfold JZ at H;refine hdh mixed Tryz.func84 (rs:=[.tmp 2]) fun q tT hF hX=>?_;refine go ?_;obtain ⟨o16,ho16,H⟩:=bnd H;refine Da a0 0 _ ho16 _ rfl _ _  ?_ ?_ _ _  S hF
 ·intro _ he T18 s19 tT hF;have he:=he.symm;subst he
  try dsimp only at H
  refine go ?_;have e:=pur H;subst e;exact rt _
 ·intro r hr s' hs;subst hr;have e:=pur H;subst e;exact hsq hs
theorem F5:∀(a0:Fm) r,Cd a0=some r->Vr KZ 50 [.agg (KY a0)] (.bool r):=by
 intro a0 r H;intro ss;unfold Cd at H;refine hdh mixed Tryz.func50 (rs:=[.tmp 2]) fun q tT hF hX=>?_;refine go ?_;refine X8 hF rfl fun b1 ss2 hF=>?_;refine go ?_;obtain ⟨x9,g3,H⟩:=bnd H;refine Yb 2 7 9 (.bool x9) (gi q (fun q=>?_) (fun q=>?_)) (fun J=>?_)
 ·rw [if_pos (dt q)] at g3;refine go ?_;obtain ⟨x8,hx8,g3⟩:=bnd g3;refine cl (YA a0 _ hx8) ?_;refine go ?_;exact Yt 7 g3
 ·rw [if_neg (df q)] at g3;refine go ?_;exact Yt 7 g3
 refine go ?_;have e:=pur H;subst e;exact rt _
theorem DJ:∀(a0 X5:List Bnd) (YH:Int) out,VK a0 X5 YH=some out->∀c,Yf Tryz.f113 0=some c->∀(Q:QT) (tt0:Sto),(∀(YT:List Bnd),out=YT->∀(T:TT) (ss tt:Sto) (e0v0:AV),T 3=e0v0->Tau tt0 [] tt->Fx tt ss [] [⟨e0v0,75,3,rws K0 YT⟩]->Q (.ex 0) ⟨T,ss⟩)->True->∀(T:TT) (ss tt:Sto) (z0v0:AV),T 0=sf K0 a0/\T 3=z0v0/\T 4=i6 YH->Tau tt0 [] tt->Fx tt ss [] [⟨z0v0,75,3,rws K0 X5⟩]->aLp KZ c Q ⟨T,ss⟩:=by
 intro a0 X5 YH;revert X5 YH;refine VK.partial_correctness a0 _ ?_;intro VK IH X5 YH out H c hc Q tt0  hE hR T ss tt z0v0 tT hX hF;refine lpy hc rfl fun q=>go ?_;refine cdp H (fun h H=>?_) (fun h H=>?_)
 ·obtain ⟨x15,f1,H⟩:=bil (g:=K0) Bnd.X6 H;refine go1 ?_;refine X8 hF rfl fun b1 ss2 hF=>?_;refine go ?_;refine st hF 0 rfl fun ss3 hF=>?_;refine go ?_;refine apv (g:=cI) H (fun _=>rfl) (rdo (c:=false) (g:=cI) (fun _=>rfl)) fun x20 H=>?_;refine go ?_;refine st hF 0 rfl fun ss4 hF=>?_;refine go ?_;refine apd (g:=K0) hF 0 H (rdo (c:=true) (g:=K0) Bnd.X6) fun x25 H v5 ss6 hF=>?_;refine go ?_;exact IH  x25 (i64.wrap (YH+1)) _ H _ rfl Q tt0  hE hR _ _ _ v5 S hX (hF.drop 1 0)
 ·refine go ?_;exact wq (hE _ (pur H).symm _ _ _ z0v0 S hX hF)
theorem Fv:∀(a0:List Bnd) r,Iw a0=some r->∀   (ss:Sto),Pre ss [] []->Ctr KZ 113 [sf K0 a0] ss (fun r' ss'=>∃(tt':Sto) (w0:AV),r'=w0/\Tau (strip ss []) [] tt'/\Fx tt' ss' [] [⟨w0,75,3,rws K0 r⟩]):=by
 intro a0 r H;intro   ss hP;unfold Iw at H;refine hdg mixed Tryz.func113 (rs:=[.tmp 2]) fun q tT=>?_;obtain ⟨hF,hX⟩:=hP.start;generalize strip ss []=tt0 at hF hX ⊢;have hF:=hF.lit 75 3 (rws K0 []) rfl;refine go ?_;obtain ⟨o7,ho7,H⟩:=bnd H;refine DJ a0 [] 0 _ ho7 _ rfl _ tt0  ?_ ?_ _ _ _ (.sl true (rws K0 [])) S hX hF
 ·intro Qcg he T9 s10 t11 e8v0 tT hX hF;have he:=he.symm;subst he;refine go ?_;have e:=pur H;subst e;exact rg _ ⟨_,_,rfl,hX,hF.pick [] [0] (by decide) (by decide)⟩
 ·trivial
theorem MB:∀(a0:List Bnd) (a1:Fm) (a2:Int) r,AF a0 a1 a2=some r->Vr KZ 209 [sf K0 a0,.agg (KY a1),i6 a2] (.tup [sf K0 r.1,.bool r.2]):=by
 intro a0 a1 a2 r H;intro ss;unfold AF at H;refine hdh mixed Tryz.func209 (rs:=[.tmp 6,.tmp 7]) fun q tT hF hX=>?_;refine go ?_;refine X8 hF rfl fun b1 ss2 hF=>?_;refine go ?_;refine bp H (Ac a0) fun x10 h H=>cl h ?_;refine go ?_;obtain ⟨x16,g3,H⟩:=bnd H;refine Yb 3 13 16 (.bool x16) (giN q (fun q=>?_) (fun q=>?_)) (fun J=>?_)
 ·rw [if_neg (dbf q)] at g3;refine go ?_;obtain ⟨x14,hx14,g3⟩:=bnd g3;refine cl (F5 a1 _ hx14) ?_;refine go ?_;exact Yt 13 g3
 ·rw [if_pos (dbt q)] at g3;refine go ?_;exact Yt 13 g3
 refine go ?_;refine cdb H (fun h H=>?_) (fun h H=>?_)
 ·refine go ?_;have e:=pur H;subst e;exact rt _
 ·refine go ?_;obtain ⟨E,hEq⟩:∃E,E=EE ss2 []:=⟨_,rfl⟩
  have n5:¬E b1:=by rw [hEq];exact K5 (hF.at 0 rfl) (by simp)
  refine LD E [.v,.v,.v,.v,.v,.v,.v,.x,.v,.v,.v,.x,.v] [0,2,3,4,5,6,8,1,7,9,10,11,12] (by kernel_rfl) ?_;have z:=X4 (hF.at 0 rfl) n5;refine gh ?_;obtain ⟨x19,hx19,H⟩:=bnd H;refine cx (Fv a0 _ hx19   _ (pre 0 0 0 hF hX)) ?_;rintro v6 s7 ⟨t8,_,rfl,hT,hG⟩
  refine VM (Za hT hG (by intro p hp;simp only [Kj,KD,or_false] at hp<;>first | (rcases hp with rfl<;>(rw [hEq];first | (refine Ze ?_;simp;done) | exact Zr rfl))| cases hp)) fun kp10=>?_
  have hF:=DB 0 0 hF hX hT hG;have z:=X4 (hF.at 0 rfl) n5;refine gh ?_;obtain ⟨x25,hx25,H⟩:=bnd H;refine M1 (g:=cI) (xs:=[]) (ys:=a1.sc) (fun _=>rfl) (by decide) (by decide) (.inr (by first | rfl | simp only [Y8,Vy,cI,cU,cS,cL])) (.inr ⟨_,by first | rfl | simp only [Y8,Vy,cI,cU,cS,cL]⟩) hx25 ?_;have z:=X4 (hF.at 0 rfl) n5;refine gh ?_;refine Pn (g:=K0) hF 0 H (rdo (c:=true) (g:=K0) Bnd.X6) fun x29 H v11 s12 hF=>?_;have z:=X4 (hF.at 0 rfl) n5;refine gh ?_;refine go ?_;obtain ⟨x31,hx31,H⟩:=bnd H;refine B3 (Ac x29 _ hx31) .bool (.cons ((hF.wk 0 rfl).trans (Wk.sub (Sub.zero _) _)) (fun _=>rfl) .nil) ?_;refine go ?_;refine cdb H (fun h H=>?_) (fun h H=>?_)
  ·refine go ?_;have e:=pur H;subst e;exact rt _
  ·refine go ?_;have e:=pur H;subst e;exact rt _
theorem DW:∀(a0:Xpn) (a1:Fm) r,HW a0 a1=some r->Vr KZ 199 [.agg (K7 a0),.agg (KY a1)] (.tup [.agg (K7 r.1),i6 r.2]):=by
 intro a0 a1 r H;intro ss;unfold HW at H;refine hdh mixed Tryz.func199 (rs:=[.cell 4 42,.tmp 5]) fun q tT hF hX=>?_;refine go ?_;refine X8 hF rfl fun b1 ss2 hF=>?_;refine go ?_;refine X8 hF rfl fun b3 ss4 hF=>?_;refine go ?_;refine X8 hF rfl fun b5 ss6 hF=>?_;refine go ?_;refine cdp H (fun h H=>?_) (fun h H=>?_)
 ·refine go ?_;refine st hF 0 rfl fun s7 hF=>?_;refine go ?_;have e:=pur H;subst e;exact rt _
 ·refine go ?_;obtain ⟨x20,hx20,H⟩:=bnd H;refine cl (MB a0.binds a1 (i64.wrap (a0.id+1)) _ hx20) ?_;refine go ?_;refine cdb H (fun h H=>?_) (fun h H=>?_)
  ·refine go ?_;refine st hF 0 rfl fun s8 hF=>?_;refine go ?_;have e:=pur H;subst e;exact rt _
  ·refine go ?_;refine st hF 2 rfl fun s9 hF=>?_;refine go ?_;refine st hF 2 rfl fun s10 hF=>?_;refine go ?_;refine st hF 0 rfl fun s11 hF=>?_;refine go ?_;have e:=pur H;subst e;exact rt _
theorem EU:∀(a0:Fm) (X5 IP:List Fm) (Yo:Int) out,WB a0 X5 IP Yo=some out->∀c,Yf Tryz.f180 0=some c->∀(Q:QT) (tt:Sto) (b1:Nat),(∀(YT Qb9:List Fm),out=Sum.inr (YT,Qb9)->∀(T:TT) (ss:Sto) (e0v0 e0v1:AV),T 1=.ptr b1 0/\T 5=e0v0/\T 6=e0v1->Fx tt ss [(b1,⟨26,5,[i6 a0.kind,.str a0.name,i6 a0.num,sf cI a0.sc,sf KY a0.kids]⟩)] [⟨e0v1,26,5,rws KY Qb9⟩,⟨e0v0,26,5,rws KY YT⟩]->Q (.ex 0) ⟨T,ss⟩)->(∀r,out=Sum.inl r->∀s',Aj KZ [.tmp 2,.tmp 3,.tmp 4] (fun r' ss'=>r'=.tup [sf KY r.1,sf KY r.2.1,.bool r.2.2]/\ss'=tt) s'->Q .ret s')->∀(T:TT) (ss:Sto) (z0v0 z0v1:AV),T 1=.ptr b1 0/\T 5=z0v0/\T 6=z0v1/\T 7=i6 Yo->Fx tt ss [(b1,⟨26,5,[i6 a0.kind,.str a0.name,i6 a0.num,sf cI a0.sc,sf KY a0.kids]⟩)] [⟨z0v1,26,5,rws KY IP⟩,⟨z0v0,26,5,rws KY X5⟩]->aLp KZ c Q ⟨T,ss⟩:=by
 intro a0 X5 IP Yo;revert X5 IP Yo;refine WB.partial_correctness a0 _ ?_;intro WB IH X5 IP Yo out H c hc Q tt b1 hE hR T ss z0v0 z0v1 tT hF;refine lpx tt hc rfl fun q hX=>go ?_;refine cdp H (fun h H=>?_) (fun h H=>?_)
 ·obtain ⟨x20,f1,H⟩:=bil (g:=KY) Fm.X6 H;refine go1 ?_;obtain ⟨x33,g3,H⟩:=bnd H;refine Yb 8 25 33 (.bool x33) (giN q (fun q=>?_) (fun q=>?_)) (fun J=>?_)
  ·rw [if_pos (dnf q)] at g3;obtain ⟨x28,f1,g3⟩:=bil (g:=KY) Fm.X6 g3;refine go1 ?_;refine go ?_;exact Yt 25 g3
  ·rw [if_neg (dnt q)] at g3;refine go ?_;exact Yt 25 g3
  refine go ?_;refine cdb H (fun h H=>?_) (fun h H=>?_)
  ·refine go ?_;exact wq (hR _ (pur H).symm _ (rt _))
  ·obtain ⟨x40,f1,H⟩:=bil (g:=KY) Fm.X6 H;obtain ⟨x43,f2,H⟩:=bil (g:=KY) Fm.X6 H;refine go2 ?_;refine apd (g:=KY) hF 1 H (rdo (c:=true) (g:=KY) Fm.X6) fun x46 H v5 ss6 hF=>?_;obtain ⟨x51,f1,H⟩:=bil (g:=KY) Fm.X6 H;obtain ⟨x54,f2,H⟩:=bil (g:=KY) Fm.X6 H;refine go2 ?_;refine apd (g:=KY) hF 0 H (rdo (c:=true) (g:=KY) Fm.X6) fun x57 H v7 s8 hF=>?_;refine go ?_;exact IH  x46 x57 (i64.wrap (Yo+1)) _ H _ rfl Q tt b1 hE hR _ _ v5 v7 S hF
 ·refine go ?_;exact wq (hE _ _ (pur H).symm _ _ z0v0 z0v1 S hF)
theorem HX:∀(a0:Fm) r,Gr a0=some r->Vr KZ 180 [.agg (KY a0)] (.tup [sf KY r.1,sf KY r.2.1,.bool r.2.2]):=by
 intro a0 r H;intro ss;unfold Gr at H;refine hdh mixed Tryz.func180 (rs:=[.tmp 2,.tmp 3,.tmp 4]) fun q tT hF hX=>?_;refine go ?_;refine X8 hF rfl fun b1 ss2 hF=>?_;have hF:=hF.lit 26 5 (rws KY []) rfl;have hF:=hF.lit 26 5 (rws KY []) rfl;refine go ?_;obtain ⟨o9,ho9,H⟩:=bnd H;refine EU a0 [] [] 0 _ ho9 _ rfl _ _ b1 ?_ ?_ _ _ (.sl true (rws KY [])) (.sl true (rws KY [])) S hF
 ·intro PO Qha he T11 s12 e10v0 e10v1 tT hF;have he:=he.symm;subst he
  try dsimp only at H
  refine go ?_;refine Ye E0 [.v,.v,.v,.v,.v,.v,.v,.v] (by kernel_rfl) ?_;refine go ?_;have e:=pur H;subst e;exact rt _
 ·intro r hr s' hs;subst hr;have e:=pur H;subst e;exact hsq hs
theorem Ga:∀(a0 a1:Fm) r,Vf a0 a1=some r->Vr KZ 95 [.agg (KY a0),.agg (KY a1)] (.bool r):=by
 refine Vf.partial_correctness _ (motive_2:=fun a0 a1 Yh out=>∀c,Yf Tryz.f95 0=some c->∀(Q:QT) (tt:Sto) (b1 b3:Nat),(∀(_u:Unit),out=Sum.inr ()->∀(T:TT) (ss:Sto),0+0=0->Fx tt ss [(b3,⟨26,5,[i6 a1.kind,.str a1.name,i6 a1.num,sf cI a1.sc,sf KY a1.kids]⟩),(b1,⟨26,5,[i6 a0.kind,.str a0.name,i6 a0.num,sf cI a0.sc,sf KY a0.kids]⟩)] []->Q (.ex 0) ⟨T,ss⟩)->(∀r,out=Sum.inl r->∀s',Aj KZ [.tmp 4] (fun r' ss'=>r'=.bool r/\ss'=tt) s'->Q .ret s')->∀(T:TT) (ss:Sto),T 2=.ptr b1 0/\T 3=.ptr b3 0/\T 5=i6 Yh->Fx tt ss [(b3,⟨26,5,[i6 a1.kind,.str a1.name,i6 a1.num,sf cI a1.sc,sf KY a1.kids]⟩),(b1,⟨26,5,[i6 a0.kind,.str a0.name,i6 a0.num,sf cI a0.sc,sf KY a0.kids]⟩)] []->aLp KZ c Q ⟨T,ss⟩) ?_ ?_
 ·intro WK L0 a0 a1 r H;intro ss;refine hdh mixed Tryz.func95 (rs:=[.tmp 4]) fun q tT hF hX=>?_;refine go ?_;refine X8 hF rfl fun b1 ss2 hF=>?_;refine go ?_;refine X8 hF rfl fun b3 ss4 hF=>?_;refine go ?_;obtain ⟨x17,g5,H⟩:=bnd H;refine Yb 5 12 17 (.bool x17) (giN q (fun q=>?_) (fun q=>?_)) (fun J=>?_)
  ·refine go ?_;exact Yt 12 g5
  ·refine go ?_;exact Yt 12 g5
  refine go ?_;obtain ⟨x24,g7,H⟩:=bnd H;refine Yb 5 19 24 (.bool x24) (giN q (fun q=>?_) (fun q=>?_)) (fun J=>?_)
  ·refine go ?_;exact Yt 19 g7
  ·refine go ?_;exact Yt 19 g7
  refine go ?_;obtain ⟨x32,g9,H⟩:=bnd H;refine Yb 6 26 32 (.bool x32) (giN q (fun q=>?_) (fun q=>?_)) (fun J=>?_)
  ·rw [if_neg (dbf q)] at g9;refine go ?_;obtain ⟨x30,hx30,g9⟩:=bnd g9;refine cl (DS a0.sc a1.sc _ hx30) ?_;refine go ?_;exact Yt 26 g9
  ·rw [if_pos (dbt q)] at g9;refine go ?_;exact Yt 26 g9
  refine go ?_;obtain ⟨x41,g11,H⟩:=bnd H;refine Yb 7 34 41 (.bool x41) (giN q (fun q=>?_) (fun q=>?_)) (fun J=>?_)
  ·refine go ?_;exact Yt 34 g11
  ·refine go ?_;exact Yt 34 g11
  refine go ?_;refine cdb H (fun h H=>?_) (fun h H=>?_)
  ·refine go ?_;have e:=pur H;subst e;exact rt _
  ·refine go ?_;obtain ⟨o13,ho13,H⟩:=bnd H;refine L0 a0 a1 0 _ ho13 _ rfl _ _ b1 b3 ?_ ?_ _ _  S hF
   ·intro _ he T15 s16 tT hF;have he:=he.symm;subst he
    try dsimp only at H
    refine go ?_;have e:=pur H;subst e;exact rt _
   ·intro r hr s' hs;subst hr;have e:=pur H;subst e;exact hsq hs
 ·intro Vf WK C0 L0 a0 a1 Yh out H c hc Q tt b1 b3 hE hR T ss tT hF;refine lpx tt hc rfl fun q hX=>go ?_;refine cdp H (fun h H=>?_) (fun h H=>?_)
  ·refine go ?_;refine Ye E0 [.v,.v,.v,.v,.v,.v,.v,.v,.v,.v,.v,.v] (by kernel_rfl) ?_;obtain ⟨x52,f1,H⟩:=bil (g:=KY) Fm.X6 H;obtain ⟨x57,f2,H⟩:=bil (g:=KY) Fm.X6 H;refine go2 ?_;refine bp H (C0 x52 x57) fun x59 h H=>cv h ?_;refine go ?_;refine cdb H (fun h H=>?_) (fun h H=>?_)
   ·refine go ?_;exact wq (hR _ (pur H).symm _ (rt _))
   ·refine go ?_;exact L0 a0 a1 (i64.wrap (Yh+1)) _ H _ rfl Q tt b1 b3 hE hR _ _  S hF
  ·refine go ?_;exact wq (hE () (pur H).symm _ _  S hF)
theorem MG:∀(a0:List Fm) (a1:Fm) (Yh:Int) out,Gi a0 a1 Yh=some out->∀c,Yf Tryz.f66 0=some c->∀(Q:QT) (tt:Sto) (b1:Nat),(∀(_u:Unit),out=Sum.inr ()->∀(T:TT) (ss:Sto),0+0=0->Fx tt ss [(b1,⟨26,5,[i6 a1.kind,.str a1.name,i6 a1.num,sf cI a1.sc,sf KY a1.kids]⟩)] []->Q (.ex 0) ⟨T,ss⟩)->(∀r,out=Sum.inl r->∀s',Aj KZ [.tmp 4] (fun r' ss'=>r'=.bool r/\ss'=tt) s'->Q .ret s')->∀(T:TT) (ss:Sto),T 0=sf KY a0/\T 3=.ptr b1 0/\T 5=i6 Yh->Fx tt ss [(b1,⟨26,5,[i6 a1.kind,.str a1.name,i6 a1.num,sf cI a1.sc,sf KY a1.kids]⟩)] []->aLp KZ c Q ⟨T,ss⟩:=by
 intro a0 a1 Yh;revert Yh;refine Gi.partial_correctness a0 a1 _ ?_;intro Gi IH Yh out H c hc Q tt b1 hE hR T ss tT hF;refine lpx tt hc rfl fun q hX=>go ?_;refine cdp H (fun h H=>?_) (fun h H=>?_)
 ·refine go ?_;refine Ye E0 [.v,.v,.v,.v,.v,.v] (by kernel_rfl) ?_;obtain ⟨x14,f1,H⟩:=bil (g:=KY) Fm.X6 H;refine go1 ?_;refine bp H (Ga x14 a1) fun x17 h H=>cv h ?_;refine go ?_;refine cdb H (fun h H=>?_) (fun h H=>?_)
  ·refine go ?_;exact wq (hR _ (pur H).symm _ (rt _))
  ·refine go ?_;exact IH  (i64.wrap (Yh+1)) _ H _ rfl Q tt b1 hE hR _ _  S hF
 ·refine go ?_;exact wq (hE () (pur H).symm _ _  S hF)
theorem IT:∀(a0:List Fm) (a1:Fm) r,HU a0 a1=some r->Vr KZ 66 [sf KY a0,.agg (KY a1)] (.bool r):=by
 intro a0 a1 r H;intro ss;unfold HU at H;refine hdh mixed Tryz.func66 (rs:=[.tmp 4]) fun q tT hF hX=>?_;refine go ?_;refine X8 hF rfl fun b1 ss2 hF=>?_;refine go ?_;obtain ⟨o3,ho3,H⟩:=bnd H;refine MG a0 a1 0 _ ho3 _ rfl _ _ b1 ?_ ?_ _ _  S hF
 ·intro _ he T5 ss6 tT hF;have he:=he.symm;subst he
  try dsimp only at H
  refine go ?_;have e:=pur H;subst e;exact rt _
 ·intro r hr s' hs;subst hr;have e:=pur H;subst e;exact hsq hs
theorem Di:∀(a0:List Fm) (YC:Int) out,VT a0 YC=some out->∀c,Yf Tryz.f126 0=some c->∀(Q:QT) (tt:Sto),(∀(_u:Unit),out=Sum.inr ()->∀(T:TT) (ss:Sto),T 0=sf KY a0->Fx tt ss [] []->Q (.ex 0) ⟨T,ss⟩)->(∀r,out=Sum.inl r->∀s',Aj KZ [.tmp 2] (fun r' ss'=>r'=.bool r/\ss'=tt) s'->Q .ret s')->∀(T:TT) (ss:Sto),T 0=sf KY a0/\T 3=i6 YC->Fx tt ss [] []->aLp KZ c Q ⟨T,ss⟩:=by
 intro a0 YC;revert YC;refine VT.partial_correctness a0 _ ?_;intro VT IH YC out H c hc Q tt  hE hR T ss tT hF;refine lpx tt hc rfl fun q hX=>go ?_;obtain ⟨x11,g1,H⟩:=bnd H;refine Yb 2 9 11 (.bool x11) (gi q (fun q=>?_) (fun q=>?_)) (fun J=>?_)
 ·refine go ?_;exact Yt 9 g1
 ·refine go ?_;exact Yt 9 g1
 refine go ?_;refine cdb H (fun h H=>?_) (fun h H=>?_)
 ·refine go ?_;refine Ye E0 [.v,.v,.v,.v,.v,.v,.v,.v,.v,.v,.v,.v,.v,.v,.v,.v,.v,.v,.v,.v,.v,.v,.v,.v,.v,.v,.v,.v,.v,.v,.v,.v] (by kernel_rfl) ?_;obtain ⟨x16,f1,H⟩:=bil (g:=KY) Fm.X6 H;refine go1 ?_;refine bp H (F5 x16) fun x18 h H=>cv h ?_;refine go ?_;obtain ⟨x27,g3,H⟩:=bnd H;refine Jb 6 21 27 (.bool x27) (tiN q (fun q=>?_) (fun q=>?_)) (fun J=>?_)
  ·rw [if_neg (dbf q)] at g3;obtain ⟨x23,f1,g3⟩:=bil (g:=KY) Fm.X6 g3;refine go1 ?_;refine go ?_;exact Yt 21 g3
  ·rw [if_pos (dbt q)] at g3;refine go ?_;exact Yt 21 g3
  refine go ?_;obtain ⟨x35,g5,H⟩:=bnd H;refine Jb 6 29 35 (.bool x35) (tiN q (fun q=>?_) (fun q=>?_)) (fun J=>?_)
  ·rw [if_neg (dbf q)] at g5;obtain ⟨x31,f1,g5⟩:=bil (g:=KY) Fm.X6 g5;refine go1 ?_;refine go ?_;exact Yt 29 g5
  ·rw [if_pos (dbt q)] at g5;refine go ?_;exact Yt 29 g5
  refine go ?_;obtain ⟨x45,g7,H⟩:=bnd H;refine Jb 8 37 45 (.bool x45) (tiN q (fun q=>?_) (fun q=>?_)) (fun J=>?_)
  ·rw [if_neg (dbf q)] at g7;obtain ⟨x39,f1,g7⟩:=bls (g:=KY) Fm.X6 (lo:=none) (hi:=some (i6 YC)) rfl rfl g7;obtain ⟨x42,f2,g7⟩:=bil (g:=KY) Fm.X6 g7;refine go2 ?_;obtain ⟨x44,hx44,g7⟩:=bnd g7;refine cv (IT x39 x42 _ hx44) ?_;refine go ?_;exact Yt 37 g7
  ·rw [if_pos (dbt q)] at g7;refine go ?_;exact Yt 37 g7
  refine go ?_;refine cdb H (fun h H=>?_) (fun h H=>?_)
  ·refine go ?_;exact wq (hR _ (pur H).symm _ (rt _))
  ·refine go ?_;exact IH  (i64.wrap (YC+1)) _ H _ rfl Q tt  hE hR _ _  S hF
 ·refine go ?_;exact wq (hE () (pur H).symm _ _  S hF)
theorem BI:∀(a0:List Fm) r,GY a0=some r->Vr KZ 126 [sf KY a0] (.bool r):=by
 intro a0 r H;intro ss;unfold GY at H;refine hdh mixed Tryz.func126 (rs:=[.tmp 2]) fun q tT hF hX=>?_;refine go ?_;obtain ⟨o9,ho9,H⟩:=bnd H;refine Di a0 0 _ ho9 _ rfl _ _  ?_ ?_ _ _  S hF
 ·intro _ he T11 s12 tT hF;have he:=he.symm;subst he
  try dsimp only at H
  refine go ?_;have e:=pur H;subst e;exact rt _
 ·intro r hr s' hs;subst hr;have e:=pur H;subst e;exact hsq hs
theorem Vw:∀(a0:Fm) r,YY a0=some r->Vr KZ 173 [.agg (KY a0)] (.bool r):=by
 intro a0 r H;intro ss;unfold YY at H;refine hdh mixed Tryz.func173 (rs:=[.tmp 2]) fun q tT hF hX=>?_;refine go ?_;refine X8 hF rfl fun b1 ss2 hF=>?_;refine go ?_;obtain ⟨x10,g3,H⟩:=bnd H;refine Yb 3 7 10 (.bool x10) (gi q (fun q=>?_) (fun q=>?_)) (fun J=>?_)
 ·refine go ?_;exact Yt 7 g3
 ·refine go ?_;exact Yt 7 g3
 refine go ?_;have e:=pur H;subst e;exact rt _
theorem ML:∀(a0:Fm) r,G6 a0=some r->Vr KZ 170 [.agg (KY a0)] (.bool r):=by
 refine G6.partial_correctness _ (motive_2:=fun a0 YC YH out=>∀c,Yf Tryz.f170 0=some c->∀(Q:QT) (tt:Sto) (b1:Nat),(∀(PN:Int),out=Sum.inr PN->∀(T:TT) (ss:Sto),T 3=i6 PN->Fx tt ss [(b1,⟨26,5,[i6 a0.kind,.str a0.name,i6 a0.num,sf cI a0.sc,sf KY a0.kids]⟩)] []->Q (.ex 0) ⟨T,ss⟩)->(∀r,out=Sum.inl r->∀s',Aj KZ [.tmp 2] (fun r' ss'=>r'=.bool r/\ss'=tt) s'->Q .ret s')->∀(T:TT) (ss:Sto),T 1=.ptr b1 0/\T 3=i6 YC/\T 4=i6 YH->Fx tt ss [(b1,⟨26,5,[i6 a0.kind,.str a0.name,i6 a0.num,sf cI a0.sc,sf KY a0.kids]⟩)] []->aLp KZ c Q ⟨T,ss⟩) ?_ ?_
 ·intro Wy L0 a0 r H;intro ss;refine hdh mixed Tryz.func170 (rs:=[.tmp 2]) fun q tT hF hX=>?_;refine go ?_;refine X8 hF rfl fun b1 ss2 hF=>?_;refine go ?_;refine bp H (Vw a0) fun x6 h H=>cl h ?_;refine go ?_;refine cdb H (fun h H=>?_) (fun h H=>?_)
  ·refine go ?_;have e:=pur H;subst e;exact rt _
  ·refine go ?_;obtain ⟨o5,ho5,H⟩:=bnd H;refine L0 a0 0 0 _ ho5 _ rfl _ _ b1 ?_ ?_ _ _  S hF
   ·intro Qiw he T7 s8 tT hF;have he:=he.symm;subst he
    try dsimp only at H
    refine go ?_;have e:=pur H;subst e;exact rt _
   ·intro r hr s' hs;subst hr;have e:=pur H;subst e;exact hsq hs
 ·intro G6 Wy C0 L0 a0 YC YH out H c hc Q tt b1 hE hR T ss tT hF;refine lpx tt hc rfl fun q hX=>go ?_;refine cdp H (fun h H=>?_) (fun h H=>?_)
  ·obtain ⟨x17,f1,H⟩:=bil (g:=KY) Fm.X6 H;refine go1 ?_;refine bp H (Vw x17) fun x19 h H=>cl h ?_;refine go ?_;refine cdb H (fun h H=>?_) (fun h H=>?_)
   ·refine go ?_;obtain ⟨x32,g3,H⟩:=bnd H;refine Yb 7 25 32 (.bool x32) (giN q (fun q=>?_) (fun q=>?_)) (fun J=>?_)
    ·rw [if_neg (df q)] at g3;obtain ⟨x29,f1,g3⟩:=bil (g:=KY) Fm.X6 g3;refine go1 ?_;obtain ⟨x31,hx31,g3⟩:=bnd g3;refine cl (Vw x29 _ hx31) ?_;refine go ?_;exact Yt 25 g3
    ·rw [if_pos (dt q)] at g3;refine go ?_;exact Yt 25 g3
    refine go ?_;refine cdb H (fun h H=>?_) (fun h H=>?_)
    ·refine go ?_;exact wq (hR _ (pur H).symm _ (rt _))
    ·refine go ?_;exact L0 a0 (i64.wrap (YC+1)) (i64.wrap (YH+1)) _ H _ rfl Q tt b1 hE hR _ _  S hF
   ·obtain ⟨x36,f1,H⟩:=bil (g:=KY) Fm.X6 H;refine go1 ?_;refine bp H (C0 x36) fun x38 h H=>cl h ?_;refine go ?_;refine cdb H (fun h H=>?_) (fun h H=>?_)
    ·refine go ?_;exact wq (hR _ (pur H).symm _ (rt _))
    ·refine go ?_;exact L0 a0 YC (i64.wrap (YH+1)) _ H _ rfl Q tt b1 hE hR _ _  S hF
  ·refine go ?_;exact wq (hE _ (pur H).symm _ _  S hF)
theorem AR:∀(a0:Fm) (a1:List Fm) r,IU a0 a1=some r->Vr KZ 194 [.agg (KY a0),sf KY a1] (.bool r):=by
 intro a0 a1 r H;intro ss;unfold IU at H;refine hdh mixed Tryz.func194 (rs:=[.tmp 4]) fun q tT hF hX=>?_;refine go ?_;refine X8 hF rfl fun b1 ss2 hF=>?_;refine go ?_;obtain ⟨x12,g3,H⟩:=bnd H;refine Yb 3 9 12 (.bool x12) (gi q (fun q=>?_) (fun q=>?_)) (fun J=>?_)
 ·refine go ?_;exact Yt 9 g3
 ·refine go ?_;exact Yt 9 g3
 refine go ?_;obtain ⟨x17,g5,H⟩:=bnd H;refine Yb 3 14 17 (.bool x17) (gi q (fun q=>?_) (fun q=>?_)) (fun J=>?_)
 ·refine go ?_;exact Yt 14 g5
 ·refine go ?_;exact Yt 14 g5
 refine go ?_;obtain ⟨x23,g7,H⟩:=bnd H;refine Yb 4 19 23 (.bool x23) (gi q (fun q=>?_) (fun q=>?_)) (fun J=>?_)
 ·rw [if_pos (dbt q)] at g7;refine go ?_;obtain ⟨x21,hx21,g7⟩:=bnd g7;refine cl (IT a1 a0 _ hx21) ?_;refine go ?_;exact Yt 19 g7
 ·rw [if_neg (dbf q)] at g7;refine go ?_;exact Yt 19 g7
 refine go ?_;have e:=pur H;subst e;exact rt _
theorem FE:∀(a0:List Fm) (a1:Fm) (a2:List Fm) r,W7 a0 a1 a2=some r->∀  (p0:AV) (ss:Sto),Pre ss [] [⟨p0,26,5,rws KY a0⟩]->Ctr KZ 171 [p0,.agg (KY a1),sf KY a2] ss (fun r' ss'=>∃(tt':Sto) (w0:AV),r'=w0/\Tau (strip ss [⟨p0,26,5,rws KY a0⟩]) [] tt'/\Fx tt' ss' [] [⟨w0,26,5,rws KY r⟩]):=by
 intro a0 a1 a2;revert a0 a1;refine W7.partial_correctness a2 (motive_1:=fun a0 a1 r=>∀  (p0:AV) (ss:Sto),Pre ss [] [⟨p0,26,5,rws KY a0⟩]->Ctr KZ 171 [p0,.agg (KY a1),sf KY a2] ss (fun r' ss'=>∃(tt':Sto) (w0:AV),r'=w0/\Tau (strip ss [⟨p0,26,5,rws KY a0⟩]) [] tt'/\Fx tt' ss' [] [⟨w0,26,5,rws KY r⟩])) (motive_2:=fun a1 X5 Yo out=>∀c,Yf Tryz.f171 0=some c->∀(Q:QT) (tt0:Sto) (b1:Nat),(∀(YT:List Fm),out=YT->∀(T:TT) (ss tt:Sto) (e0v0:AV),T 0=e0v0->Tau tt0 [] tt->Fx tt ss [(b1,⟨26,5,[i6 a1.kind,.str a1.name,i6 a1.num,sf cI a1.sc,sf KY a1.kids]⟩)] [⟨e0v0,26,5,rws KY YT⟩]->Q (.ex 0) ⟨T,ss⟩)->True->∀(T:TT) (ss tt:Sto) (z0v0:AV),T 0=z0v0/\T 2=sf KY a2/\T 4=.ptr b1 0/\T 7=i6 Yo->Tau tt0 [] tt->Fx tt ss [(b1,⟨26,5,[i6 a1.kind,.str a1.name,i6 a1.num,sf cI a1.sc,sf KY a1.kids]⟩)] [⟨z0v0,26,5,rws KY X5⟩]->aLp KZ c Q ⟨T,ss⟩) ?_ ?_
 ·intro Wf L0 a0 a1 r H;intro  p0 ss hP;refine hdg mixed Tryz.func171 (rs:=[.tmp 6]) fun q tT=>?_;obtain ⟨hF,hX⟩:=hP.start;generalize strip ss [⟨p0,26,5,rws KY a0⟩]=tt0 at hF hX ⊢;refine go ?_;refine X8 hF rfl fun b1 ss2 hF=>?_;refine go ?_;refine bp H (AR a1 a2) fun x10 h H=>cl h ?_;refine go ?_;obtain ⟨AO,j4,H⟩:=bnd H;refine VL (fun s'=>∃(T:TT) (ss1 tt1:Sto) (y3v0:AV),s'=⟨T,ss1⟩/\(T 0=y3v0/\T 2=sf KY a2/\T 4=.ptr b1 0)/\Tau tt0 [] tt1/\Fx tt1 ss1 [(b1,⟨26,5,[i6 a1.kind,.str a1.name,i6 a1.num,sf cI a1.sc,sf KY a1.kids]⟩)] [⟨y3v0,26,5,rws KY AO⟩]) (cdb j4 (fun h j4=>?_) (fun h j4=>?_)) ?_
  ·refine go ?_;refine apd (g:=KY) hF 0 j4 (rdo (c:=true) (g:=KY) Fm.X6) fun x14 j4 v5 ss6 hF=>?_;refine go ?_;have e:=pur j4;subst e;exact ⟨_,_,_,v5,rfl,S,hX,hF⟩
  ·refine go ?_;have e:=pur j4;subst e;exact ⟨_,_,_,p0,rfl,S,hX,hF⟩
  ·rintro s' ⟨T7,s8,tt9,y3v0,rfl,tT,hX,hF⟩;refine go ?_;obtain ⟨o14,ho14,H⟩:=bnd H;refine L0 a1 AO 0 _ ho14 _ rfl _ tt0 b1 ?_ ?_ _ _ _ y3v0 S hX hF
   ·intro AB he T16 s17 t18 e15v0 tT hX hF;have he:=he.symm;subst he;refine go ?_;have e:=pur H;subst e;exact rg _ ⟨_,_,rfl,hX,hF.pick [] [0] (by decide) (by decide)⟩
   ·trivial
 ·intro W7 Wf C0 L0 a1 X5 Yo out H c hc Q tt0 b1 hE hR T ss tt z0v0 tT hX hF;refine lpy hc rfl fun q=>go ?_;refine cdp H (fun h H=>?_) (fun h H=>?_)
  ·obtain ⟨x26,f1,H⟩:=bil (g:=KY) Fm.X6 H;refine go1 ?_;obtain ⟨x29,hx29,H⟩:=bnd H;refine cx (C0 X5 x26 _ hx29  z0v0 _ (pre 0 0 1 hF hX)) ?_;rintro v10 s11 ⟨t12,_,rfl,hT,hG⟩;obtain ⟨t13,hX,hF⟩:=aft 0 0 1 hF hX hT hG;refine go ?_;exact L0 a1 x29 (i64.wrap (Yo+1)) _ H _ rfl Q tt0 b1 hE hR _ _ _ v10 S hX hF
  ·refine go ?_;exact wq (hE _ (pur H).symm _ _ _ z0v0 S hX hF)
theorem FD:∀(a1:Fm) (a2 X5:List Fm) (Yo:Int) out,W6 a1 a2 X5 Yo=some out->∀c,Yf Tryz.f171 0=some c->∀(Q:QT) (tt0:Sto) (b1:Nat),(∀(YT:List Fm),out=YT->∀(T:TT) (ss tt:Sto) (e0v0:AV),T 0=e0v0->Tau tt0 [] tt->Fx tt ss [(b1,⟨26,5,[i6 a1.kind,.str a1.name,i6 a1.num,sf cI a1.sc,sf KY a1.kids]⟩)] [⟨e0v0,26,5,rws KY YT⟩]->Q (.ex 0) ⟨T,ss⟩)->True->∀(T:TT) (ss tt:Sto) (z0v0:AV),T 0=z0v0/\T 2=sf KY a2/\T 4=.ptr b1 0/\T 7=i6 Yo->Tau tt0 [] tt->Fx tt ss [(b1,⟨26,5,[i6 a1.kind,.str a1.name,i6 a1.num,sf cI a1.sc,sf KY a1.kids]⟩)] [⟨z0v0,26,5,rws KY X5⟩]->aLp KZ c Q ⟨T,ss⟩:=by
 intro a1 a2 X5 Yo;revert X5 Yo;refine W6.partial_correctness a1 a2 _ ?_;intro W6 IH X5 Yo out H c hc Q tt0 b1 hE hR T ss tt z0v0 tT hX hF;refine lpy hc rfl fun q=>go ?_;refine cdp H (fun h H=>?_) (fun h H=>?_)
 ·obtain ⟨x26,f1,H⟩:=bil (g:=KY) Fm.X6 H;refine go1 ?_;obtain ⟨x29,hx29,H⟩:=bnd H;refine cx (FE X5 x26 a2 _ hx29  z0v0 _ (pre 0 0 1 hF hX)) ?_;rintro v10 s11 ⟨t12,_,rfl,hT,hG⟩;obtain ⟨t13,hX,hF⟩:=aft 0 0 1 hF hX hT hG;refine go ?_;exact IH  x29 (i64.wrap (Yo+1)) _ H _ rfl Q tt0 b1 hE hR _ _ _ v10 S hX hF
 ·refine go ?_;exact wq (hE _ (pur H).symm _ _ _ z0v0 S hX hF)
theorem B0:∀(a0:List Fm) (a1:Fm) (a2:List Fm) r,IL a0 a1 a2=some r->∀  (p0:AV) (ss:Sto),Pre ss [] [⟨p0,26,5,rws KY a0⟩]->Ctr KZ 171 [p0,.agg (KY a1),sf KY a2] ss (fun r' ss'=>∃(tt':Sto),r'=sf KY r/\Tau (strip ss [⟨p0,26,5,rws KY a0⟩]) [] tt'/\Fx tt' ss' [] []):=by
 intro a0 a1 a2 r H;intro  p0 ss hP;unfold IL at H;refine hdg mixed Tryz.func171 (rs:=[.tmp 6]) fun q tT=>?_;obtain ⟨hF,hX⟩:=hP.start;generalize strip ss [⟨p0,26,5,rws KY a0⟩]=tt0 at hF hX ⊢;refine go ?_;refine X8 hF rfl fun b1 ss2 hF=>?_;refine go ?_;refine bp H (AR a1 a2) fun x10 h H=>cl h ?_;refine go ?_;obtain ⟨AO,j4,H⟩:=bnd H;refine VL (fun s'=>∃(T:TT) (ss1 tt1:Sto) (y3v0:AV),s'=⟨T,ss1⟩/\(T 0=y3v0/\T 2=sf KY a2/\T 4=.ptr b1 0)/\Tau tt0 [] tt1/\Fx tt1 ss1 [(b1,⟨26,5,[i6 a1.kind,.str a1.name,i6 a1.num,sf cI a1.sc,sf KY a1.kids]⟩)] [⟨y3v0,26,5,rws KY AO⟩]) (cdb j4 (fun h j4=>?_) (fun h j4=>?_)) ?_
 ·refine go ?_;refine apd (g:=KY) hF 0 j4 (rdo (c:=true) (g:=KY) Fm.X6) fun x14 j4 v5 ss6 hF=>?_;refine go ?_;have e:=pur j4;subst e;exact ⟨_,_,_,v5,rfl,S,hX,hF⟩
 ·refine go ?_;have e:=pur j4;subst e;exact ⟨_,_,_,p0,rfl,S,hX,hF⟩
 ·rintro s' ⟨T7,s8,tt9,y3v0,rfl,tT,hX,hF⟩;refine go ?_;obtain ⟨o14,ho14,H⟩:=bnd H;refine FD a1 a2 AO 0 _ ho14 _ rfl _ tt0 b1 ?_ ?_ _ _ _ y3v0 S hX hF
  ·intro AB he T16 s17 t18 e15v0 tT hX hF;have he:=he.symm;subst he;refine go ?_;have e:=pur H;subst e;exact rg _ ⟨_,rfl,hX,K3 _⟩
  ·trivial
theorem El:∀(a0:List Int) (a1:Fm) (a2:List Fm) (a3:Int) r,Vt a0 a1 a2 a3=some r->∀  (p0:AV) (ss:Sto),Pre ss [] [⟨p0,3,1,rws cI a0⟩]->Ctr KZ 172 [p0,.agg (KY a1),sf KY a2,i6 a3] ss (fun r' ss'=>∃(tt':Sto) (w0:AV),r'=w0/\Tau (strip ss [⟨p0,3,1,rws cI a0⟩]) [] tt'/\Fx tt' ss' [] [⟨w0,3,1,rws cI r⟩]):=by
 intro a0 a1 a2 a3;revert a0 a1 a3;refine Vt.partial_correctness a2 (motive_1:=fun a0 a1 a3 r=>∀  (p0:AV) (ss:Sto),Pre ss [] [⟨p0,3,1,rws cI a0⟩]->Ctr KZ 172 [p0,.agg (KY a1),sf KY a2,i6 a3] ss (fun r' ss'=>∃(tt':Sto) (w0:AV),r'=w0/\Tau (strip ss [⟨p0,3,1,rws cI a0⟩]) [] tt'/\Fx tt' ss' [] [⟨w0,3,1,rws cI r⟩])) (motive_2:=fun a1 a3 X5 YR out=>∀c,Yf Tryz.f172 0=some c->∀(Q:QT) (tt0:Sto) (b1:Nat),(∀(YT:List Int),out=YT->∀(T:TT) (ss tt:Sto) (e0v0:AV),T 0=e0v0->Tau tt0 [] tt->Fx tt ss [(b1,⟨26,5,[i6 a1.kind,.str a1.name,i6 a1.num,sf cI a1.sc,sf KY a1.kids]⟩)] [⟨e0v0,3,1,rws cI YT⟩]->Q (.ex 0) ⟨T,ss⟩)->True->∀(T:TT) (ss tt:Sto) (z0v0:AV),T 0=z0v0/\T 2=sf KY a2/\T 3=i6 a3/\T 5=.ptr b1 0/\T 9=i6 YR->Tau tt0 [] tt->Fx tt ss [(b1,⟨26,5,[i6 a1.kind,.str a1.name,i6 a1.num,sf cI a1.sc,sf KY a1.kids]⟩)] [⟨z0v0,3,1,rws cI X5⟩]->aLp KZ c Q ⟨T,ss⟩) ?_ ?_
 ·intro VE L0 a0 a1 a3 r H;intro  p0 ss hP;refine hdg mixed Tryz.func172 (rs:=[.tmp 8]) fun q tT=>?_;obtain ⟨hF,hX⟩:=hP.start;generalize strip ss [⟨p0,3,1,rws cI a0⟩]=tt0 at hF hX ⊢;refine go ?_;refine X8 hF rfl fun b1 ss2 hF=>?_;refine go ?_;refine bp H (AR a1 a2) fun x13 h H=>cl h ?_;refine go ?_;obtain ⟨AO,j4,H⟩:=bnd H;refine VL (fun s'=>∃(T:TT) (ss1 tt1:Sto) (y3v0:AV),s'=⟨T,ss1⟩/\(T 0=y3v0/\T 2=sf KY a2/\T 3=i6 a3/\T 5=.ptr b1 0)/\Tau tt0 [] tt1/\Fx tt1 ss1 [(b1,⟨26,5,[i6 a1.kind,.str a1.name,i6 a1.num,sf cI a1.sc,sf KY a1.kids]⟩)] [⟨y3v0,3,1,rws cI AO⟩]) (cdb j4 (fun h j4=>?_) (fun h j4=>?_)) ?_
  ·refine go ?_;refine apd (g:=cI) hF 0 j4 (rdo (c:=true) (g:=cI) (fun _=>rfl)) fun x17 j4 v5 ss6 hF=>?_;refine go ?_;have e:=pur j4;subst e;exact ⟨_,_,_,v5,rfl,S,hX,hF⟩
  ·refine go ?_;have e:=pur j4;subst e;exact ⟨_,_,_,p0,rfl,S,hX,hF⟩
  ·rintro s' ⟨T7,s8,tt9,y3v0,rfl,tT,hX,hF⟩;refine go ?_;obtain ⟨o21,ho21,H⟩:=bnd H;refine L0 a1 a3 AO 0 _ ho21 _ rfl _ tt0 b1 ?_ ?_ _ _ _ y3v0 S hX hF
   ·intro CA he T23 s24 tt25 e22v0 tT hX hF;have he:=he.symm;subst he;refine go ?_;have e:=pur H;subst e;exact rg _ ⟨_,_,rfl,hX,hF.pick [] [0] (by decide) (by decide)⟩
   ·trivial
 ·intro Vt VE C0 L0 a1 a3 X5 YR out H c hc Q tt0 b1 hE hR T ss tt z0v0 tT hX hF;refine lpy hc rfl fun q=>go ?_;refine cdp H (fun h H=>?_) (fun h H=>?_)
  ·refine go ?_;obtain ⟨x40,g10,H⟩:=bnd H;refine Yb 7 33 40 (.bool x40) (gi q (fun q=>?_) (fun q=>?_)) (fun J=>?_)
   ·rw [if_pos (dt q)] at g10;obtain ⟨x37,f1,g10⟩:=bil (g:=KY) Fm.X6 g10;refine go1 ?_;obtain ⟨x39,hx39,g10⟩:=bnd g10;refine cl (Vw x37 _ hx39) ?_;refine go ?_;exact Yt 33 g10
   ·rw [if_neg (df q)] at g10;refine go ?_;exact Yt 33 g10
   refine go ?_;obtain ⟨As,j13,H⟩:=bnd H;refine VL (fun s'=>∃(T:TT) (ss1 tt1:Sto),s'=⟨T,ss1⟩/\(T 0=z0v0/\T 2=sf KY a2/\T 3=i6 a3/\T 5=.ptr b1 0/\T 9=i6 YR/\T 10=i6 As)/\Tau tt0 [] tt1/\Fx tt1 ss1 [(b1,⟨26,5,[i6 a1.kind,.str a1.name,i6 a1.num,sf cI a1.sc,sf KY a1.kids]⟩)] [⟨z0v0,3,1,rws cI X5⟩]) (cdb j13 (fun h j13=>?_) (fun h j13=>?_)) ?_
   ·refine go ?_;have e:=pur j13;subst e;exact ⟨_,_,_,rfl,S,hX,hF⟩
   ·refine go ?_;have e:=pur j13;subst e;exact ⟨_,_,_,rfl,S,hX,hF⟩
   ·rintro s' ⟨T14,s15,t16,rfl,tT,hX,hF⟩;obtain ⟨x47,f1,H⟩:=bil (g:=KY) Fm.X6 H;refine go1 ?_;obtain ⟨x51,hx51,H⟩:=bnd H;refine cx (C0 X5 x47 As _ hx51  z0v0 _ (pre 0 0 1 hF hX)) ?_;rintro v17 s18 ⟨t19,_,rfl,hT,hG⟩;obtain ⟨t20,hX,hF⟩:=aft 0 0 1 hF hX hT hG;refine go ?_;exact L0 a1 a3 x51 (i64.wrap (YR+1)) _ H _ rfl Q tt0 b1 hE hR _ _ _ v17 S hX hF
  ·refine go ?_;exact wq (hE _ (pur H).symm _ _ _ z0v0 S hX hF)
theorem Ek:∀(a1:Fm) (a2:List Fm) (a3:Int) (X5:List Int) (YR:Int) out,V4 a1 a2 a3 X5 YR=some out->∀c,Yf Tryz.f172 0=some c->∀(Q:QT) (tt0:Sto) (b1:Nat),(∀(YT:List Int),out=YT->∀(T:TT) (ss tt:Sto) (e0v0:AV),T 0=e0v0->Tau tt0 [] tt->Fx tt ss [(b1,⟨26,5,[i6 a1.kind,.str a1.name,i6 a1.num,sf cI a1.sc,sf KY a1.kids]⟩)] [⟨e0v0,3,1,rws cI YT⟩]->Q (.ex 0) ⟨T,ss⟩)->True->∀(T:TT) (ss tt:Sto) (z0v0:AV),T 0=z0v0/\T 2=sf KY a2/\T 3=i6 a3/\T 5=.ptr b1 0/\T 9=i6 YR->Tau tt0 [] tt->Fx tt ss [(b1,⟨26,5,[i6 a1.kind,.str a1.name,i6 a1.num,sf cI a1.sc,sf KY a1.kids]⟩)] [⟨z0v0,3,1,rws cI X5⟩]->aLp KZ c Q ⟨T,ss⟩:=by
 intro a1 a2 a3 X5 YR;revert X5 YR;refine V4.partial_correctness a1 a2 a3 _ ?_;intro V4 IH X5 YR out H c hc Q tt0 b1 hE hR T ss tt z0v0 tT hX hF;refine lpy hc rfl fun q=>go ?_;refine cdp H (fun h H=>?_) (fun h H=>?_)
 ·refine go ?_;obtain ⟨x40,g10,H⟩:=bnd H;refine Yb 7 33 40 (.bool x40) (gi q (fun q=>?_) (fun q=>?_)) (fun J=>?_)
  ·rw [if_pos (dt q)] at g10;obtain ⟨x37,f1,g10⟩:=bil (g:=KY) Fm.X6 g10;refine go1 ?_;obtain ⟨x39,hx39,g10⟩:=bnd g10;refine cl (Vw x37 _ hx39) ?_;refine go ?_;exact Yt 33 g10
  ·rw [if_neg (df q)] at g10;refine go ?_;exact Yt 33 g10
  refine go ?_;obtain ⟨As,j13,H⟩:=bnd H;refine VL (fun s'=>∃(T:TT) (ss1 tt1:Sto),s'=⟨T,ss1⟩/\(T 0=z0v0/\T 2=sf KY a2/\T 3=i6 a3/\T 5=.ptr b1 0/\T 9=i6 YR/\T 10=i6 As)/\Tau tt0 [] tt1/\Fx tt1 ss1 [(b1,⟨26,5,[i6 a1.kind,.str a1.name,i6 a1.num,sf cI a1.sc,sf KY a1.kids]⟩)] [⟨z0v0,3,1,rws cI X5⟩]) (cdb j13 (fun h j13=>?_) (fun h j13=>?_)) ?_
  ·refine go ?_;have e:=pur j13;subst e;exact ⟨_,_,_,rfl,S,hX,hF⟩
  ·refine go ?_;have e:=pur j13;subst e;exact ⟨_,_,_,rfl,S,hX,hF⟩
  ·rintro s' ⟨T14,s15,t16,rfl,tT,hX,hF⟩;obtain ⟨x47,f1,H⟩:=bil (g:=KY) Fm.X6 H;refine go1 ?_;obtain ⟨x51,hx51,H⟩:=bnd H;refine cx (El X5 x47 a2 As _ hx51  z0v0 _ (pre 0 0 1 hF hX)) ?_;rintro v17 s18 ⟨t19,_,rfl,hT,hG⟩;obtain ⟨t20,hX,hF⟩:=aft 0 0 1 hF hX hT hG;refine go ?_;exact IH  x51 (i64.wrap (YR+1)) _ H _ rfl Q tt0 b1 hE hR _ _ _ v17 S hX hF
 ·refine go ?_;exact wq (hE _ (pur H).symm _ _ _ z0v0 S hX hF)
theorem AM:∀(a0:List Int) (a1:Fm) (a2:List Fm) (a3:Int) r,Hh a0 a1 a2 a3=some r->∀  (p0:AV) (ss:Sto),Pre ss [] [⟨p0,3,1,rws cI a0⟩]->Ctr KZ 172 [p0,.agg (KY a1),sf KY a2,i6 a3] ss (fun r' ss'=>∃(tt':Sto),r'=sf cI r/\Tau (strip ss [⟨p0,3,1,rws cI a0⟩]) [] tt'/\Fx tt' ss' [] []):=by
 intro a0 a1 a2 a3 r H;intro  p0 ss hP;unfold Hh at H;refine hdg mixed Tryz.func172 (rs:=[.tmp 8]) fun q tT=>?_;obtain ⟨hF,hX⟩:=hP.start;generalize strip ss [⟨p0,3,1,rws cI a0⟩]=tt0 at hF hX ⊢;refine go ?_;refine X8 hF rfl fun b1 ss2 hF=>?_;refine go ?_;refine bp H (AR a1 a2) fun x13 h H=>cl h ?_;refine go ?_;obtain ⟨AO,j4,H⟩:=bnd H;refine VL (fun s'=>∃(T:TT) (ss1 tt1:Sto) (y3v0:AV),s'=⟨T,ss1⟩/\(T 0=y3v0/\T 2=sf KY a2/\T 3=i6 a3/\T 5=.ptr b1 0)/\Tau tt0 [] tt1/\Fx tt1 ss1 [(b1,⟨26,5,[i6 a1.kind,.str a1.name,i6 a1.num,sf cI a1.sc,sf KY a1.kids]⟩)] [⟨y3v0,3,1,rws cI AO⟩]) (cdb j4 (fun h j4=>?_) (fun h j4=>?_)) ?_
 ·refine go ?_;refine apd (g:=cI) hF 0 j4 (rdo (c:=true) (g:=cI) (fun _=>rfl)) fun x17 j4 v5 ss6 hF=>?_;refine go ?_;have e:=pur j4;subst e;exact ⟨_,_,_,v5,rfl,S,hX,hF⟩
 ·refine go ?_;have e:=pur j4;subst e;exact ⟨_,_,_,p0,rfl,S,hX,hF⟩
 ·rintro s' ⟨T7,s8,tt9,y3v0,rfl,tT,hX,hF⟩;refine go ?_;obtain ⟨o21,ho21,H⟩:=bnd H;refine Ek a1 a2 a3 AO 0 _ ho21 _ rfl _ tt0 b1 ?_ ?_ _ _ _ y3v0 S hX hF
  ·intro CA he T23 s24 tt25 e22v0 tT hX hF;have he:=he.symm;subst he;refine go ?_;have e:=pur H;subst e;exact rg _ ⟨_,rfl,hX,K3 _⟩
  ·trivial
theorem MH:∀(a0:Fm) (a1 x25:List Fm) (YI:Int) out,Gj a0 a1 x25 YI=some out->∀c,Yf Tryz.f150 0=some c->∀(Q:QT) (tt:Sto) (b1:Nat),(∀(_u:Unit),out=Sum.inr ()->∀(T:TT) (ss:Sto),T 1=sf KY a1/\T 2=.ptr b1 0/\T 5=sf KY x25->Fx tt ss [(b1,⟨26,5,[i6 a0.kind,.str a0.name,i6 a0.num,sf cI a0.sc,sf KY a0.kids]⟩)] []->Q (.ex 0) ⟨T,ss⟩)->(∀r,out=Sum.inl r->∀s',Aj KZ [.tmp 4] (fun r' ss'=>r'=.bool r/\ss'=tt) s'->Q .ret s')->∀(T:TT) (ss:Sto),T 1=sf KY a1/\T 2=.ptr b1 0/\T 5=sf KY x25/\T 6=i6 YI->Fx tt ss [(b1,⟨26,5,[i6 a0.kind,.str a0.name,i6 a0.num,sf cI a0.sc,sf KY a0.kids]⟩)] []->aLp KZ c Q ⟨T,ss⟩:=by
 intro a0 a1 x25 YI;revert YI;refine Gj.partial_correctness a0 a1 x25 _ ?_;intro Gj IH YI out H c hc Q tt b1 hE hR T ss tT hF;refine lpx tt hc rfl fun q hX=>go ?_;refine cdp H (fun h H=>?_) (fun h H=>?_)
 ·refine go ?_;refine Ye E0 [.v,.v,.v,.v,.v,.v,.v,.v] (by kernel_rfl) ?_;obtain ⟨x34,f1,H⟩:=bls (g:=KY) Fm.X6 (lo:=none) (hi:=some (i6 YI)) rfl rfl H;obtain ⟨x37,f2,H⟩:=bil (g:=KY) Fm.X6 H;refine go2 ?_;refine bp H (IT x34 x37) fun x39 h H=>cv h ?_;refine go ?_;refine cdb H (fun h H=>?_) (fun h H=>?_)
  ·refine go ?_;exact wq (hR _ (pur H).symm _ (rt _))
  ·refine go ?_;exact IH  (i64.wrap (YI+1)) _ H _ rfl Q tt b1 hE hR _ _  S hF
 ·refine go ?_;exact wq (hE () (pur H).symm _ _  S hF)
theorem MI:∀(a0:Fm) (x25:List Fm) (x43:List Int) (WD:Int) out,Gk a0 x25 x43 WD=some out->∀c,Yf Tryz.f150 1=some c->∀(Q:QT) (tt:Sto) (b1:Nat),(∀(_u:Unit),out=Sum.inr ()->∀(T:TT) (ss:Sto),T 5=sf KY x25->Fx tt ss [(b1,⟨26,5,[i6 a0.kind,.str a0.name,i6 a0.num,sf cI a0.sc,sf KY a0.kids]⟩)] []->Q (.ex 2) ⟨T,ss⟩)->(∀r,out=Sum.inl r->∀s',Aj KZ [.tmp 4] (fun r' ss'=>r'=.bool r/\ss'=tt) s'->Q .ret s')->∀(T:TT) (ss:Sto),T 5=sf KY x25/\T 7=sf cI x43/\T 8=i6 WD->Fx tt ss [(b1,⟨26,5,[i6 a0.kind,.str a0.name,i6 a0.num,sf cI a0.sc,sf KY a0.kids]⟩)] []->aLp KZ c Q ⟨T,ss⟩:=by
 intro a0 x25 x43 WD;revert WD;refine Gk.partial_correctness a0 x25 x43 _ ?_;intro Gk IH WD out H c hc Q tt b1 hE hR T ss tT hF;refine lpx tt hc rfl fun q hX=>go ?_;refine cdp H (fun h H=>?_) (fun h H=>?_)
 ·obtain ⟨x52,f1,H⟩:=bil (g:=cI) (fun _=>rfl) H;refine go1 ?_;refine go ?_;refine cdp H (fun h H=>?_) (fun h H=>?_)
  ·refine go ?_;exact wq (hR _ (pur H).symm _ (rt _))
  ·refine go ?_;exact IH  (i64.wrap (WD+1)) _ H _ rfl Q tt b1 hE hR _ _  S hF
 ·refine go ?_;exact wq (hE () (pur H).symm _ _  S hF)
theorem Ry:∀(a0:Fm) (a1:List Fm) r,Dh a0 a1=some r->Vr KZ 150 [.agg (KY a0),sf KY a1] (.bool r):=by
 intro a0 a1 r H;intro ss;unfold Dh at H;refine hdh mixed Tryz.func150 (rs:=[.tmp 4]) fun q tT hF hX=>?_;refine go ?_;refine X8 hF rfl fun b1 ss2 hF=>?_;refine go ?_;refine bp H (YA a0) fun x10 h H=>cl h ?_;refine go ?_;obtain ⟨x16,g3,H⟩:=bnd H;refine Yb 3 13 16 (.bool x16) (giN q (fun q=>?_) (fun q=>?_)) (fun J=>?_)
 ·rw [if_neg (dbf q)] at g3;refine go ?_;obtain ⟨x14,hx14,g3⟩:=bnd g3;refine cl (BI a1 _ hx14) ?_;refine go ?_;exact Yt 13 g3
 ·rw [if_pos (dbt q)] at g3;refine go ?_;exact Yt 13 g3
 refine go ?_;obtain ⟨x21,g5,H⟩:=bnd H;refine Yb 3 18 21 (.bool x21) (giN q (fun q=>?_) (fun q=>?_)) (fun J=>?_)
 ·rw [if_neg (dbf q)] at g5;refine go ?_;obtain ⟨x19,hx19,g5⟩:=bnd g5;refine cl (ML a0 _ hx19) ?_;refine go ?_;exact Yt 18 g5
 ·rw [if_pos (dbt q)] at g5;refine go ?_;exact Yt 18 g5
 refine go ?_;refine cdb H (fun h H=>?_) (fun h H=>?_)
 ·refine go ?_;have e:=pur H;subst e;exact rt _
 ·have hF:=hF.lit 26 5 (rws KY []) rfl;refine go ?_;obtain ⟨x25,hx25,H⟩:=bnd H;refine cx (B0 [] a0 a1 _ hx25  (.sl true (rws KY [])) _ (pre 0 0 1 hF hX)) ?_;rintro _ s7 ⟨t8,rfl,hT,hG⟩;have hF:=DB 0 1 hF hX hT hG;refine go ?_;obtain ⟨o10,ho10,H⟩:=bnd H;refine MH a0 a1 x25 0 _ ho10 _ rfl _ _ b1 ?_ ?_ _ _  S hF
  ·intro _ he T12 s13 tT hF;have he:=he.symm;subst he
   try dsimp only at H
   have hF:=hF.lit 3 1 (rws cI []) rfl;refine go ?_;obtain ⟨x43,hx43,H⟩:=bnd H;refine cx (AM [] a0 a1 0 _ hx43  (.sl true (rws cI [])) _ (pre 0 0 1 hF hX)) ?_;rintro _ s15 ⟨t16,rfl,hT,hG⟩;have hF:=DB 0 1 hF hX hT hG;refine go ?_;obtain ⟨o18,ho18,H⟩:=bnd H;refine MI a0 x25 x43 0 _ ho18 _ rfl _ _ b1 ?_ ?_ _ _  S hF
   ·intro _ he T20 s21 tT hF;have he:=he.symm;subst he
    try dsimp only at H
    refine go ?_;have e:=pur H;subst e;exact rt _
   ·intro r hr s' hs;subst hr;have e:=pur H;subst e;exact hsq hs
  ·intro r hr s' hs;subst hr;have e:=pur H;subst e;exact hsq hs
theorem EO:∀(a0:Fm) (x14:List Fm) (x18:List Int) (X5:List Hit) (YL:Int) out,V1 a0 x14 x18 X5 YL=some out->∀c,Yf Tryz.f152 0=some c->∀(Q:QT) (tt:Sto) (b1:Nat),(∀(YT:List Hit),out=YT->∀(T:TT) (ss:Sto) (e0v0:AV),T 5=e0v0->Fx tt ss [(b1,⟨26,5,[i6 a0.kind,.str a0.name,i6 a0.num,sf cI a0.sc,sf KY a0.kids]⟩)] [⟨e0v0,195,12,rws K1 YT⟩]->Q (.ex 0) ⟨T,ss⟩)->True->∀(T:TT) (ss:Sto) (z0v0:AV),T 5=z0v0/\T 6=sf KY x14/\T 7=sf cI x18/\T 8=i6 YL->Fx tt ss [(b1,⟨26,5,[i6 a0.kind,.str a0.name,i6 a0.num,sf cI a0.sc,sf KY a0.kids]⟩)] [⟨z0v0,195,12,rws K1 X5⟩]->aLp KZ c Q ⟨T,ss⟩:=by
 intro a0 x14 x18 X5 YL;revert X5 YL;refine V1.partial_correctness a0 x14 x18 _ ?_;intro V1 IH X5 YL out H c hc Q tt b1 hE hR T ss z0v0 tT hF;refine lpx tt hc rfl fun q hX=>go ?_;refine cdp H (fun h H=>?_) (fun h H=>?_)
 ·refine go ?_;refine Ye E0 [.v,.v,.v,.v,.v,.v,.v,.v,.v,.x,.z] (by kernel_rfl) ?_;obtain ⟨x27,f1,H⟩:=bil (g:=KY) Fm.X6 H;obtain ⟨x31,f2,H⟩:=bil (g:=cI) (fun _=>rfl) H;refine go2 ?_;refine WQ hF rfl fun b9 s10 hF=>?_;refine go ?_;refine st hF 0 rfl fun s11 hF=>?_;refine go ?_;refine cdp H (fun h H=>?_) (fun h H=>?_)
  ·obtain ⟨x39,f1,H⟩:=bil (g:=KY) Fm.X6 H;refine go1 ?_;refine st hF 0 rfl fun s12 hF=>?_;refine go ?_;refine apw (g:=K1) (rows:=[[i6 x27.kind,.str x27.name,i6 x27.num,sf cI x27.sc,sf KY x27.kids,i6 x31,i6 x39.kind,.str x39.name,i6 x39.num,sf cI x39.sc,sf KY x39.kids,.Ya]]) hF 0 H Hit.X6 true rfl (by simp only [sf,i6,zB,Y8,Vy,cI,cU,cS,cL,Hit.X9,Fm.X9,Zs,Zt,Fm.num,Fm.sc,Zu,Zj,Zb,Zv,Zk,Zl,ZB,Zm,Zw,Zx,Zn,Zo,Zp,Zy,Zq,Zc,ZC,Zz,ZD,ZA,Qr,K6,KJ,Kh,QS];exact (.cons (.refl _) id (.cons (.refl _) id (.cons (.refl _) id (.cons (.refl _) id (.cons (.refl _) id (.cons (.refl _) id (.cons (.refl _) id (.cons (.refl _) id (.cons (.refl _) id (.cons (.refl _) id (.cons (.refl _) id (.cons .Ya (fun _=>rfl) .nil))))))))))))) fun x45 H v13 s14 hF=>?_;refine go ?_;exact IH  x45 (i64.wrap (YL+1)) _ H _ rfl Q tt b1 hE hR _ _ v13 S (hF.drop 1 0)
  ·refine go ?_;refine apw (g:=K1) (rows:=[[i6 x27.kind,.str x27.name,i6 x27.num,sf cI x27.sc,sf KY x27.kids,i6 x31,i6 0,.str zB,i6 0,.Ya,.Ya,.Ya]]) hF 0 H Hit.X6 true rfl (by simp only [sf,i6,zB,Y8,Vy,cI,cU,cS,cL,Hit.X9,Fm.X9,Zs,Zt,Fm.num,Fm.sc,Zu,Zj,Zb,Zv,Zk,Zl,ZB,Zm,Zw,Zx,Zn,Zo,Zp,Zy,Zq,Zc,ZC,Zz,ZD,ZA,Qr,K6,KJ,Kh,QS];exact (.cons (.refl _) id (.cons (.refl _) id (.cons (.refl _) id (.cons (.refl _) id (.cons (.refl _) id (.cons (.refl _) id (.cons (.refl _) id (.cons (.refl _) id (.cons (.refl _) id (.cons .Ya (fun _=>rfl) (.cons .Ya (fun _=>rfl) (.cons .Ya (fun _=>rfl) .nil))))))))))))) fun Qdr H v15 s16 hF=>?_;refine go ?_;exact IH  Qdr (i64.wrap (YL+1)) _ H _ rfl Q tt b1 hE hR _ _ v15 S (hF.drop 1 0)
 ·refine go ?_;exact wq (hE _ (pur H).symm _ _ z0v0 S hF)
theorem MO:∀(a0:Fm) (a1:List Fm) r,AJ a0 a1=some r->Vr KZ 152 [.agg (KY a0),sf KY a1] (sf K1 r):=by
 intro a0 a1 r H;intro ss;unfold AJ at H;refine hdh mixed Tryz.func152 (rs:=[.tmp 4]) fun q tT hF hX=>?_;refine go ?_;refine X8 hF rfl fun b1 ss2 hF=>?_;have hF:=hF.lit 26 5 (rws KY []) rfl;refine go ?_;obtain ⟨x14,hx14,H⟩:=bnd H;refine cx (B0 [] a0 a1 _ hx14  (.sl true (rws KY [])) _ (pre 0 0 1 hF hX)) ?_;rintro _ ss3 ⟨tt4,rfl,hT,hG⟩;have hF:=DB 0 1 hF hX hT hG;have hF:=hF.lit 3 1 (rws cI []) rfl;refine go ?_;obtain ⟨x18,hx18,H⟩:=bnd H;refine cx (AM [] a0 a1 0 _ hx18  (.sl true (rws cI [])) _ (pre 0 0 1 hF hX)) ?_;rintro _ ss6 ⟨t7,rfl,hT,hG⟩;have hF:=DB 0 1 hF hX hT hG;have hF:=hF.lit 195 12 (rws K1 []) rfl;refine go ?_;obtain ⟨o17,ho17,H⟩:=bnd H;refine EO a0 x14 x18 [] 0 _ ho17 _ rfl _ _ b1 ?_ ?_ _ _ (.sl true (rws K1 [])) S hF
 ·intro Qhf he T19 s20 e18v0 tT hF;have he:=he.symm;subst he;refine go ?_;have e:=pur H;subst e;exact rt _
 ·trivial
theorem FA:∀(a0:List Hit) (a1:Fm) (Yh:Int) out,W3 a0 a1 Yh=some out->∀c,Yf Tryz.f195 0=some c->∀(Q:QT) (tt:Sto) (b1:Nat),(∀(_u:Unit),out=Sum.inr ()->∀(T:TT) (ss:Sto),0+0=0->Fx tt ss [(b1,⟨26,5,[i6 a1.kind,.str a1.name,i6 a1.num,sf cI a1.sc,sf KY a1.kids]⟩)] []->Q (.ex 0) ⟨T,ss⟩)->(∀r,out=Sum.inl r->∀s',Aj KZ [.tmp 4] (fun r' ss'=>r'=i6 r/\ss'=tt) s'->Q .ret s')->∀(T:TT) (ss:Sto),T 0=sf K1 a0/\T 3=.ptr b1 0/\T 5=i6 Yh->Fx tt ss [(b1,⟨26,5,[i6 a1.kind,.str a1.name,i6 a1.num,sf cI a1.sc,sf KY a1.kids]⟩)] []->aLp KZ c Q ⟨T,ss⟩:=by
 intro a0 a1 Yh;revert Yh;refine W3.partial_correctness a0 a1 _ ?_;intro W3 IH Yh out H c hc Q tt b1 hE hR T ss tT hF;refine lpx tt hc rfl fun q hX=>go ?_;refine cdp H (fun h H=>?_) (fun h H=>?_)
 ·refine go ?_;refine Ye E0 [.v,.v,.v,.v,.v,.v,.v] (by kernel_rfl) ?_;obtain ⟨x14,f1,H⟩:=bil (g:=K1) Hit.X6 H;refine go1 ?_;refine bp H (Ga x14.name a1) fun x18 h H=>cv h ?_;refine go ?_;refine cdb H (fun h H=>?_) (fun h H=>?_)
  ·refine go ?_;exact wq (hR _ (pur H).symm _ (rt _))
  ·refine go ?_;exact IH  (i64.wrap (Yh+1)) _ H _ rfl Q tt b1 hE hR _ _  S hF
 ·refine go ?_;exact wq (hE () (pur H).symm _ _  S hF)
theorem DU:∀(a0:List Hit) (a1:Fm) r,IK a0 a1=some r->Vr KZ 195 [sf K1 a0,.agg (KY a1)] (i6 r):=by
 intro a0 a1 r H;intro ss;unfold IK at H;refine hdh mixed Tryz.func195 (rs:=[.tmp 4]) fun q tT hF hX=>?_;refine go ?_;refine X8 hF rfl fun b1 ss2 hF=>?_;refine go ?_;obtain ⟨o3,ho3,H⟩:=bnd H;refine FA a0 a1 0 _ ho3 _ rfl _ _ b1 ?_ ?_ _ _  S hF
 ·intro _ he T5 ss6 tT hF;have he:=he.symm;subst he
  try dsimp only at H
  refine go ?_;have e:=pur H;subst e;exact rt _
 ·intro r hr s' hs;subst hr;have e:=pur H;subst e;exact hsq hs
theorem Dk:∀(a0:List Hit) (a1:Fm) r,IW a0 a1=some r->Vr KZ 174 [sf K1 a0,.agg (KY a1)] (i6 r):=by
 intro a0 a1 r H;intro ss;unfold IW at H;refine hdh mixed Tryz.func174 (rs:=[.tmp 4]) fun q tT hF hX=>?_;refine go ?_;refine X8 hF rfl fun b1 ss2 hF=>?_;refine go ?_;refine cdn H (fun h H=>?_) (fun h H=>?_)
 ·refine go ?_;have e:=pur H;subst e;exact rt _
 ·refine go ?_;refine bp H (DU a0 a1) fun x11 h H=>cl h ?_;refine go ?_;refine cdp H (fun h H=>?_) (fun h H=>?_)
  ·refine go ?_;have e:=pur H;subst e;exact rt _
  ·obtain ⟨x16,f1,H⟩:=bil (g:=K1) Hit.X6 H;refine go1 ?_;refine go ?_;have e:=pur H;subst e;exact rt _
theorem NO:∀(a0:List Hit) (a1:Fm) r,Hi a0 a1=some r->Vr KZ 175 [sf K1 a0,.agg (KY a1)] (.bool r):=by
 intro a0 a1;revert a1;refine Hi.partial_correctness a0 (motive_1:=fun a1 r=>Vr KZ 175 [sf K1 a0,.agg (KY a1)] (.bool r)) (motive_2:=fun a1 Yh out=>∀c,Yf Tryz.f175 0=some c->∀(Q:QT) (tt:Sto) (b1:Nat),(∀(_u:Unit),out=Sum.inr ()->∀(T:TT) (ss:Sto),0+0=0->Fx tt ss [(b1,⟨26,5,[i6 a1.kind,.str a1.name,i6 a1.num,sf cI a1.sc,sf KY a1.kids]⟩)] []->Q (.ex 0) ⟨T,ss⟩)->(∀r,out=Sum.inl r->∀s',Aj KZ [.tmp 4] (fun r' ss'=>r'=.bool r/\ss'=tt) s'->Q .ret s')->∀(T:TT) (ss:Sto),T 0=sf K1 a0/\T 3=.ptr b1 0/\T 5=i6 Yh->Fx tt ss [(b1,⟨26,5,[i6 a1.kind,.str a1.name,i6 a1.num,sf cI a1.sc,sf KY a1.kids]⟩)] []->aLp KZ c Q ⟨T,ss⟩) ?_ ?_
 ·intro JQ L0 a1 r H;intro ss;refine hdh mixed Tryz.func175 (rs:=[.tmp 4]) fun q tT hF hX=>?_;refine go ?_;refine X8 hF rfl fun b1 ss2 hF=>?_;refine go ?_;refine bp H (Dk a0 a1) fun x8 h H=>cl h ?_;refine go ?_;refine cdp H (fun h H=>?_) (fun h H=>?_)
  ·refine go ?_;have e:=pur H;subst e;exact rt _
  ·refine go ?_;obtain ⟨o3,ho3,H⟩:=bnd H;refine L0 a1 0 _ ho3 _ rfl _ _ b1 ?_ ?_ _ _  S hF
   ·intro _ he T5 ss6 tT hF;have he:=he.symm;subst he
    try dsimp only at H
    refine go ?_;have e:=pur H;subst e;exact rt _
   ·intro r hr s' hs;subst hr;have e:=pur H;subst e;exact hsq hs
 ·intro Hi JQ C0 L0 a1 Yh out H c hc Q tt b1 hE hR T ss tT hF;refine lpx tt hc rfl fun q hX=>go ?_;refine cdp H (fun h H=>?_) (fun h H=>?_)
  ·obtain ⟨x21,f1,H⟩:=bil (g:=KY) Fm.X6 H;refine go1 ?_;refine bp H (C0 x21) fun x23 h H=>cl h ?_;refine go ?_;refine cdb H (fun h H=>?_) (fun h H=>?_)
   ·refine go ?_;exact wq (hR _ (pur H).symm _ (rt _))
   ·refine go ?_;exact L0 a1 (i64.wrap (Yh+1)) _ H _ rfl Q tt b1 hE hR _ _  S hF
  ·refine go ?_;exact wq (hE () (pur H).symm _ _  S hF)
theorem FH:∀(a0 X5:List Hit) (YH:Int) out,W8 a0 X5 YH=some out->∀c,Yf Tryz.f176 0=some c->∀(Q:QT) (tt:Sto),(∀(YT:List Hit),out=YT->∀(T:TT) (ss:Sto) (e0v0:AV),T 3=e0v0->Fx tt ss [] [⟨e0v0,195,12,rws K1 YT⟩]->Q (.ex 0) ⟨T,ss⟩)->True->∀(T:TT) (ss:Sto) (z0v0:AV),T 0=sf K1 a0/\T 3=z0v0/\T 4=i6 YH->Fx tt ss [] [⟨z0v0,195,12,rws K1 X5⟩]->aLp KZ c Q ⟨T,ss⟩:=by
 intro a0 X5 YH;revert X5 YH;refine W8.partial_correctness a0 _ ?_;intro W8 IH X5 YH out H c hc Q tt  hE hR T ss z0v0 tT hF;refine lpx tt hc rfl fun q hX=>go ?_;refine cdp H (fun h H=>?_) (fun h H=>?_)
 ·refine go ?_;refine Ye E0 [.v,.v,.v,.v,.v,.v,.v,.v,.v,.v,.v,.v,.v,.v,.v,.v,.x,.z] (by kernel_rfl) ?_;obtain ⟨x15,f1,H⟩:=bil (g:=K1) Hit.X6 H;refine go1 ?_;refine WQ hF rfl fun b1 ss2 hF=>?_;refine go ?_;refine st hF 0 rfl fun ss3 hF=>?_;refine go ?_;obtain ⟨FU,j5,H⟩:=bnd H;refine VL (fun s'=>∃(T:TT) (ss1:Sto),s'=⟨T,ss1⟩/\(T 0=sf K1 a0/\T 3=z0v0/\T 4=i6 YH/\T 5=.ptr b1 0)/\Fx tt ss1 [(b1,⟨195,12,[i6 x15.name.kind,.str x15.name.name,i6 x15.name.num,sf cI x15.name.sc,sf KY x15.name.kids,i6 FU,i6 x15.one.kind,.str x15.one.name,i6 x15.one.num,sf cI x15.one.sc,sf KY x15.one.kids,.Ya]⟩)] [⟨z0v0,195,12,rws K1 X5⟩]) (cdp j5 (fun h j5=>?_) (fun h j5=>?_)) ?_
  ·refine go ?_;refine st hF 0 rfl fun ss6 hF=>?_;refine go ?_;have e:=pur j5;subst e;exact ⟨_,_,rfl,S,hF⟩
  ·refine go ?_;have e:=pur j5;subst e;exact ⟨_,_,rfl,S,hF⟩
  ·rintro s' ⟨T7,s8,rfl,tT,hF⟩;refine go ?_;refine apw (g:=K1) (rows:=[[i6 x15.name.kind,.str x15.name.name,i6 x15.name.num,sf cI x15.name.sc,sf KY x15.name.kids,i6 FU,i6 x15.one.kind,.str x15.one.name,i6 x15.one.num,sf cI x15.one.sc,sf KY x15.one.kids,.Ya]]) hF 0 H Hit.X6 true rfl (by simp only [sf,i6,zB,Y8,Vy,cI,cU,cS,cL,Hit.X9,Fm.X9,Zs,Zt,Fm.num,Fm.sc,Zu,Zj,Zb,Zv,Zk,Zl,ZB,Zm,Zw,Zx,Zn,Zo,Zp,Zy,Zq,Zc,ZC,Zz,ZD,ZA,Qr,K6,KJ,Kh,QS];exact (.cons (.refl _) id (.cons (.refl _) id (.cons (.refl _) id (.cons (.refl _) id (.cons (.refl _) id (.cons (.refl _) id (.cons (.refl _) id (.cons (.refl _) id (.cons (.refl _) id (.cons (.refl _) id (.cons (.refl _) id (.cons .Ya (fun _=>rfl) .nil))))))))))))) fun x39 H v10 s11 hF=>?_;refine go ?_;exact IH  x39 (i64.wrap (YH+1)) _ H _ rfl Q tt  hE hR _ _ v10 S (hF.drop 1 0)
 ·refine go ?_;exact wq (hE _ (pur H).symm _ _ z0v0 S hF)
theorem NN:∀(a0:List Hit) r,Ar a0=some r->Vr KZ 176 [sf K1 a0] (sf K1 r):=by
 intro a0 r H;intro ss;unfold Ar at H;refine hdh mixed Tryz.func176 (rs:=[.tmp 2]) fun q tT hF hX=>?_;have hF:=hF.lit 195 12 (rws K1 []) rfl;refine go ?_;obtain ⟨o12,ho12,H⟩:=bnd H;refine FH a0 [] 0 _ ho12 _ rfl _ _  ?_ ?_ _ _ (.sl true (rws K1 [])) S hF
 ·intro N8 he T14 s15 e13v0 tT hF;have he:=he.symm;subst he;refine go ?_;have e:=pur H;subst e;exact rt _
 ·trivial
theorem Rz:∀(a0:Fm) (a1:List Hit) r,Iy a0 a1=some r->Vr KZ 151 [.agg (KY a0),sf K1 a1] (.bool r):=by
 refine Iy.partial_correctness _ (motive_2:=fun a0 a1 Yh out=>∀c,Yf Tryz.f151 0=some c->∀(Q:QT) (tt:Sto) (b1:Nat),(∀(_u:Unit),out=Sum.inr ()->∀(T:TT) (ss:Sto),0+0=0->Fx tt ss [(b1,⟨26,5,[i6 a0.kind,.str a0.name,i6 a0.num,sf cI a0.sc,sf KY a0.kids]⟩)] []->Q (.ex 0) ⟨T,ss⟩)->(∀r,out=Sum.inl r->∀s',Aj KZ [.tmp 4] (fun r' ss'=>r'=.bool r/\ss'=tt) s'->Q .ret s')->∀(T:TT) (ss:Sto),T 1=sf K1 a1/\T 2=.ptr b1 0/\T 5=i6 Yh->Fx tt ss [(b1,⟨26,5,[i6 a0.kind,.str a0.name,i6 a0.num,sf cI a0.sc,sf KY a0.kids]⟩)] []->aLp KZ c Q ⟨T,ss⟩) ?_ ?_
 ·intro JO L0 a0 a1 r H;intro ss;refine hdh mixed Tryz.func151 (rs:=[.tmp 4]) fun q tT hF hX=>?_;refine go ?_;refine X8 hF rfl fun b1 ss2 hF=>?_;refine go ?_;refine bp H (Vw a0) fun x7 h H=>cl h ?_;refine go ?_;obtain ⟨x13,g3,H⟩:=bnd H;refine Yb 4 9 13 (.bool x13) (giN q (fun q=>?_) (fun q=>?_)) (fun J=>?_)
  ·rw [if_neg (dbf q)] at g3;refine go ?_;obtain ⟨x11,hx11,g3⟩:=bnd g3;refine cl (Dk a1 a0 _ hx11) ?_;refine go ?_;exact Yt 9 g3
  ·rw [if_pos (dbt q)] at g3;refine go ?_;exact Yt 9 g3
  refine go ?_;refine cdb H (fun h H=>?_) (fun h H=>?_)
  ·refine go ?_;have e:=pur H;subst e;exact rt _
  ·refine go ?_;obtain ⟨o11,ho11,H⟩:=bnd H;refine L0 a0 a1 0 _ ho11 _ rfl _ _ b1 ?_ ?_ _ _  S hF
   ·intro _ he T13 s14 tT hF;have he:=he.symm;subst he
    try dsimp only at H
    refine go ?_;have e:=pur H;subst e;exact rt _
   ·intro r hr s' hs;subst hr;have e:=pur H;subst e;exact hsq hs
 ·intro Iy JO C0 L0 a0 a1 Yh out H c hc Q tt b1 hE hR T ss tT hF;refine lpx tt hc rfl fun q hX=>go ?_;refine cdp H (fun h H=>?_) (fun h H=>?_)
  ·obtain ⟨x24,f1,H⟩:=bil (g:=KY) Fm.X6 H;refine go1 ?_;refine bp H (Vw x24) fun x26 h H=>cl h ?_;refine go ?_;refine cdb H (fun h H=>?_) (fun h H=>?_)
   ·refine go ?_;obtain ⟨x37,g5,H⟩:=bnd H;refine Yb 7 30 37 (.bool x37) (giN q (fun q=>?_) (fun q=>?_)) (fun J=>?_)
    ·rw [if_neg (df q)] at g5;obtain ⟨x34,f1,g5⟩:=bil (g:=KY) Fm.X6 g5;refine go1 ?_;obtain ⟨x36,hx36,g5⟩:=bnd g5;refine cl (Vw x34 _ hx36) ?_;refine go ?_;exact Yt 30 g5
    ·rw [if_pos (dt q)] at g5;refine go ?_;exact Yt 30 g5
    refine go ?_;refine cdb H (fun h H=>?_) (fun h H=>?_)
    ·refine go ?_;exact wq (hR _ (pur H).symm _ (rt _))
    ·refine go ?_;exact L0 a0 a1 (i64.wrap (Yh+1)) _ H _ rfl Q tt b1 hE hR _ _  S hF
   ·refine go ?_;obtain ⟨x52,g7,H⟩:=bnd H;refine Yb 7 45 52 (.bool x52) (gi q (fun q=>?_) (fun q=>?_)) (fun J=>?_)
    ·rw [if_pos (dt q)] at g7;obtain ⟨x49,f1,g7⟩:=bil (g:=KY) Fm.X6 g7;refine go1 ?_;obtain ⟨x51,hx51,g7⟩:=bnd g7;refine cl (Vw x49 _ hx51) ?_;refine go ?_;exact Yt 45 g7
    ·rw [if_neg (df q)] at g7;refine go ?_;exact Yt 45 g7
    refine go ?_;refine cdb H (fun h H=>?_) (fun h H=>?_)
    ·refine go ?_;refine Ye E0 [.v,.v,.v,.v,.v,.v,.v,.v,.v,.v,.v,.v,.v,.v,.v,.v,.v,.v,.v] (by kernel_rfl) ?_;obtain ⟨x57,f1,H⟩:=bil (g:=KY) Fm.X6 H;refine go1 ?_;refine bp H (NO a1 x57) fun x59 h H=>cv h ?_;refine go ?_;obtain ⟨x71,g9,H⟩:=bnd H;refine Jb 9 62 71 (.bool x71) (tiN q (fun q=>?_) (fun q=>?_)) (fun J=>?_)
     ·rw [if_neg (dbf q)] at g9;obtain ⟨x65,f1,g9⟩:=bil (g:=KY) Fm.X6 g9;refine go1 ?_;obtain ⟨x68,hx68,g9⟩:=bnd g9;refine cv (NN a1 _ hx68) ?_;refine go ?_;obtain ⟨x69,hx69,g9⟩:=bnd g9;refine cv (C0 x65 x68 _ hx69) ?_;refine go ?_;exact Yt 62 g9
     ·rw [if_pos (dbt q)] at g9;refine go ?_;exact Yt 62 g9
     refine go ?_;refine cdb H (fun h H=>?_) (fun h H=>?_)
     ·refine go ?_;exact wq (hR _ (pur H).symm _ (rt _))
     ·refine go ?_;exact L0 a0 a1 (i64.wrap (Yh+1)) _ H _ rfl Q tt b1 hE hR _ _  S hF
    ·obtain ⟨x75,f1,H⟩:=bil (g:=KY) Fm.X6 H;refine go1 ?_;refine bp H (C0 x75 a1) fun x78 h H=>cl h ?_;refine go ?_;refine cdb H (fun h H=>?_) (fun h H=>?_)
     ·refine go ?_;exact wq (hR _ (pur H).symm _ (rt _))
     ·refine go ?_;exact L0 a0 a1 (i64.wrap (Yh+1)) _ H _ rfl Q tt b1 hE hR _ _  S hF
  ·refine go ?_;exact wq (hE () (pur H).symm _ _  S hF)
theorem NQ:∀(a0:Rul) (a1:List Fm) r,Bh a0 a1=some r->Vr KZ 125 [.agg (K4 a0),sf KY a1] (.bool r):=by
 intro a0 a1 r H;intro ss;unfold Bh at H;refine hdh mixed Tryz.func125 (rs:=[.tmp 4]) fun q tT hF hX=>?_;refine go ?_;refine X8 hF rfl fun b1 ss2 hF=>?_;refine go ?_;refine Ye E0 [.v,.v,.v,.v,.v,.v,.v,.v,.v,.v,.v,.v,.v,.v,.v,.v,.v,.v,.v,.v,.v,.v,.v,.v,.v,.v,.v,.v,.v,.v,.v,.v] (by kernel_rfl) ?_;refine go ?_;refine bp H (Ry a0.pat a1) fun x8 h H=>cv h ?_;refine go ?_;obtain ⟨x14,g3,H⟩:=bnd H;refine Jb 4 10 14 (.bool x14) (ti q (fun q=>?_) (fun q=>?_)) (fun J=>?_)
 ·refine go ?_;exact Yt 10 g3
 ·refine go ?_;exact Yt 10 g3
 refine go ?_;obtain ⟨x21,g5,H⟩:=bnd H;refine Jb 5 16 21 (.bool x21) (ti q (fun q=>?_) (fun q=>?_)) (fun J=>?_)
 ·refine go ?_;exact Yt 16 g5
 ·refine go ?_;exact Yt 16 g5
 refine go ?_;obtain ⟨x26,g7,H⟩:=bnd H;refine Jb 3 23 26 (.bool x26) (ti q (fun q=>?_) (fun q=>?_)) (fun J=>?_)
 ·rw [if_pos (dbt q)] at g7;refine go ?_;obtain ⟨x25,hx25,g7⟩:=bnd g7;refine cv (YA a0.tpl _ hx25) ?_;refine go ?_;exact Yt 23 g7
 ·rw [if_neg (dbf q)] at g7;refine go ?_;exact Yt 23 g7
 refine go ?_;obtain ⟨x35,g9,H⟩:=bnd H;refine Jb 7 28 35 (.bool x35) (ti q (fun q=>?_) (fun q=>?_)) (fun J=>?_)
 ·rw [if_pos (dbt q)] at g9;refine go ?_;obtain ⟨x33,hx33,g9⟩:=bnd g9;refine cv (MO a0.pat a1 _ hx33) ?_;refine go ?_;obtain ⟨x34,hx34,g9⟩:=bnd g9;refine cv (Rz a0.tpl x33 _ hx34) ?_;refine go ?_;exact Yt 28 g9
 ·rw [if_neg (dbf q)] at g9;refine go ?_;exact Yt 28 g9
 refine go ?_;have e:=pur H;subst e;exact rt _
theorem EN:∀(a0:List Rul) (a1:List Fm) (Yh:Int) out,Jg a0 a1 Yh=some out->∀c,Yf Tryz.f86 0=some c->∀(Q:QT) (tt:Sto),(∀(_u:Unit),out=Sum.inr ()->∀(T:TT) (ss:Sto),T 0=sf K4 a0/\T 1=sf KY a1->Fx tt ss [] []->Q (.ex 0) ⟨T,ss⟩)->(∀r,out=Sum.inl r->∀s',Aj KZ [.tmp 4] (fun r' ss'=>r'=.bool r/\ss'=tt) s'->Q .ret s')->∀(T:TT) (ss:Sto),T 0=sf K4 a0/\T 1=sf KY a1/\T 5=i6 Yh->Fx tt ss [] []->aLp KZ c Q ⟨T,ss⟩:=by
 intro a0 a1 Yh;revert Yh;refine Jg.partial_correctness a0 a1 _ ?_;intro Jg IH Yh out H c hc Q tt  hE hR T ss tT hF;refine lpx tt hc rfl fun q hX=>go ?_;obtain ⟨x13,g1,H⟩:=bnd H;refine Yb 2 11 13 (.bool x13) (gi q (fun q=>?_) (fun q=>?_)) (fun J=>?_)
 ·refine go ?_;exact Yt 11 g1
 ·refine go ?_;exact Yt 11 g1
 refine go ?_;refine cdb H (fun h H=>?_) (fun h H=>?_)
 ·obtain ⟨x18,f1,H⟩:=bil (g:=K4) Rul.X6 H;refine go1 ?_;refine bp H (NQ x18 a1) fun x21 h H=>cl h ?_;refine go ?_;refine cdb H (fun h H=>?_) (fun h H=>?_)
  ·refine go ?_;exact wq (hR _ (pur H).symm _ (rt _))
  ·refine go ?_;exact IH  (i64.wrap (Yh+1)) _ H _ rfl Q tt  hE hR _ _  S hF
 ·refine go ?_;exact wq (hE () (pur H).symm _ _  S hF)
theorem Dl:∀(a0:List Rul) (a1:List Fm) r,IX a0 a1=some r->Vr KZ 86 [sf K4 a0,sf KY a1] (.bool r):=by
 intro a0 a1 r H;intro ss;unfold IX at H;refine hdh mixed Tryz.func86 (rs:=[.tmp 4]) fun q tT hF hX=>?_;refine go ?_;obtain ⟨o3,ho3,H⟩:=bnd H;refine EN a0 a1 0 _ ho3 _ rfl _ _  ?_ ?_ _ _  S hF
 ·intro _ he T5 ss6 tT hF;have he:=he.symm;subst he
  try dsimp only at H
  refine go ?_;obtain ⟨x29,g8,H⟩:=bnd H;refine Yb 2 27 29 (.bool x29) (gi q (fun q=>?_) (fun q=>?_)) (fun J=>?_)
  ·rw [if_pos (dt q)] at g8;refine go ?_;obtain ⟨x28,hx28,g8⟩:=bnd g8;refine cl (BI a1 _ hx28) ?_;refine go ?_;exact Yt 27 g8
  ·rw [if_neg (df q)] at g8;refine go ?_;exact Yt 27 g8
  refine go ?_;have e:=pur H;subst e;exact rt _
 ·intro r hr s' hs;subst hr;have e:=pur H;subst e;exact hsq hs
theorem Dc:∀(a0:Fm) (X5:List Fm) (Yo:Int) out,VQ a0 X5 Yo=some out->∀c,Yf Tryz.f198 0=some c->∀(Q:QT) (tt:Sto) (b1:Nat),(∀(YT:List Fm),out=YT->∀(T:TT) (ss:Sto) (e0v0:AV),T 1=.ptr b1 0/\T 5=e0v0/\T 6=.sl true (rws K4 [])->Fx tt ss [(b1,⟨26,5,[i6 a0.kind,.str a0.name,i6 a0.num,sf cI a0.sc,sf KY a0.kids]⟩)] [⟨e0v0,26,5,rws KY YT⟩]->Q (.ex 0) ⟨T,ss⟩)->True->∀(T:TT) (ss:Sto) (z0v0:AV),T 1=.ptr b1 0/\T 5=z0v0/\T 6=.sl true (rws K4 [])/\T 7=i6 Yo->Fx tt ss [(b1,⟨26,5,[i6 a0.kind,.str a0.name,i6 a0.num,sf cI a0.sc,sf KY a0.kids]⟩)] [⟨z0v0,26,5,rws KY X5⟩]->aLp KZ c Q ⟨T,ss⟩:=by
 intro a0 X5 Yo;revert X5 Yo;refine VQ.partial_correctness a0 _ ?_;intro VQ IH X5 Yo out H c hc Q tt b1 hE hR T ss z0v0 tT hF;obtain rfl:=lpe (rfl:Yf Tryz.f198 0=some _) hc;refine Yc ?_;have q:=dum;have hX:=Tau.none tt;obtain ⟨x46,f1,H⟩:=bil (g:=KY) Fm.X6 H;refine go1 ?_;refine go ?_;refine cdp H (fun h H=>?_) (fun h H=>?_)
 ·obtain ⟨x56,f1,H⟩:=bil (g:=KY) Fm.X6 H;obtain ⟨x60,f2,H⟩:=bil (g:=KY) Fm.X6 H;refine go2 ?_;refine bp H (VW x60) fun x62 h H=>cl h ?_;refine go ?_;refine apd (g:=KY) hF 0 H (rdo (c:=true) (g:=KY) Fm.X6) fun x64 H v11 s12 hF=>?_;refine go ?_;exact IH  x64 (i64.wrap (Yo+1)) _ H _ rfl Q tt b1 hE hR _ _ v11 S hF
 ·refine go ?_;exact wq (hE _ (pur H).symm _ _ z0v0 S hF)
theorem Dd:∀(a0:Fm) (BA:List Fm) (Ai:List Rul) (WD:Int) out,VR a0 BA Ai WD=some out->∀c,Yf Tryz.f198 1=some c->∀(Q:QT) (tt:Sto) (b1:Nat) (e14v0:AV),(∀(Qcd:List Rul),out=Sum.inr Qcd->∀(T:TT) (ss:Sto) (e1v1:AV),T 5=e14v0/\T 6=e1v1->Fx tt ss [(b1,⟨26,5,[i6 a0.kind,.str a0.name,i6 a0.num,sf cI a0.sc,sf KY a0.kids]⟩)] [⟨e1v1,116,10,rws K4 Qcd⟩,⟨e14v0,26,5,rws KY BA⟩]->Q (.ex 2) ⟨T,ss⟩)->(∀r,out=Sum.inl r->∀s',Aj KZ [.tmp 2,.tmp 3,.tmp 4] (fun r' ss'=>r'=.tup [sf KY r.1,sf K4 r.2.1,.bool r.2.2]/\ss'=tt) s'->Q .ret s')->∀(T:TT) (ss:Sto) (z1v1:AV),T 1=.ptr b1 0/\T 5=e14v0/\T 6=z1v1/\T 8=i6 WD->Fx tt ss [(b1,⟨26,5,[i6 a0.kind,.str a0.name,i6 a0.num,sf cI a0.sc,sf KY a0.kids]⟩)] [⟨z1v1,116,10,rws K4 Ai⟩,⟨e14v0,26,5,rws KY BA⟩]->aLp KZ c Q ⟨T,ss⟩:=by
 intro a0 BA Ai WD;revert Ai WD;refine VR.partial_correctness a0 BA _ ?_;intro VR IH Ai WD out H c hc Q tt b1 e14v0 hE hR T ss z1v1 tT hF;refine lpx tt hc rfl fun q hX=>go ?_;refine cdp H (fun h H=>?_) (fun h H=>?_)
 ·obtain ⟨x75,f1,H⟩:=bil (g:=KY) Fm.X6 H;refine go1 ?_;obtain ⟨x88,g18,H⟩:=bnd H;refine Yb 8 80 88 (.bool x88) (giN q (fun q=>?_) (fun q=>?_)) (fun J=>?_)
  ·rw [if_pos (dnf q)] at g18;obtain ⟨x83,f1,g18⟩:=bil (g:=KY) Fm.X6 g18;refine go1 ?_;refine go ?_;exact Yt 80 g18
  ·rw [if_neg (dnt q)] at g18;refine go ?_;exact Yt 80 g18
  refine go ?_;refine cdb H (fun h H=>?_) (fun h H=>?_)
  ·refine go ?_;exact wq (hR _ (pur H).symm _ (rt _))
  ·refine go ?_;refine Ye E0 [.v,.v,.v,.v,.v,.v,.v,.v,.v,.v,.v,.v,.v,.v,.v,.v,.v,.v,.v,.v,.v,.x,.v] (by kernel_rfl) ?_;obtain ⟨x95,f1,H⟩:=bil (g:=KY) Fm.X6 H;obtain ⟨x98,f2,H⟩:=bil (g:=KY) Fm.X6 H;refine go2 ?_;refine bp H (VW x98) fun x100 h H=>cv h ?_;obtain ⟨x104,f1,H⟩:=bil (g:=KY) Fm.X6 H;obtain ⟨x107,f2,H⟩:=bil (g:=KY) Fm.X6 H;refine go2 ?_;refine bp H (VW x107) fun x109 h H=>cv h ?_;refine go ?_;refine Pn (g:=K4) hF 0 H (rdo (c:=true) (g:=K4) Rul.X6) fun x112 H v20 s21 hF=>?_;refine go ?_;exact IH  x112 (i64.wrap (WD+1)) _ H _ rfl Q tt b1 e14v0 hE hR _ _ v20 S hF
 ·refine go ?_;exact wq (hE _ (pur H).symm _ _ z1v1 S hF)
theorem EJ:∀(a0:Fm) r,GS a0=some r->Vr KZ 198 [.agg (KY a0)] (.tup [sf KY r.1,sf K4 r.2.1,.bool r.2.2]):=by
 intro a0 r H;intro ss;unfold GS at H;refine hdh mixed Tryz.func198 (rs:=[.tmp 2,.tmp 3,.tmp 4]) fun q tT hF hX=>?_;refine go ?_;refine X8 hF rfl fun b1 ss2 hF=>?_;refine go ?_;refine bp H (YA a0) fun x12 h H=>cl h ?_;refine go ?_;obtain ⟨x18,g3,H⟩:=bnd H;refine Yb 3 15 18 (.bool x18) (giN q (fun q=>?_) (fun q=>?_)) (fun J=>?_)
 ·refine go ?_;exact Yt 15 g3
 ·refine go ?_;exact Yt 15 g3
 refine go ?_;obtain ⟨x24,g5,H⟩:=bnd H;refine Yb 4 20 24 (.bool x24) (giN q (fun q=>?_) (fun q=>?_)) (fun J=>?_)
 ·refine go ?_;exact Yt 20 g5
 ·refine go ?_;exact Yt 20 g5
 refine go ?_;obtain ⟨x32,g7,H⟩:=bnd H;refine Yb 6 26 32 (.bool x32) (giN q (fun q=>?_) (fun q=>?_)) (fun J=>?_)
 ·rw [if_neg (dbf q)] at g7;obtain ⟨x28,f1,g7⟩:=bil (g:=KY) Fm.X6 g7;refine go1 ?_;refine go ?_;exact Yt 26 g7
 ·rw [if_pos (dbt q)] at g7;refine go ?_;exact Yt 26 g7
 refine go ?_;obtain ⟨x40,g9,H⟩:=bnd H;refine Yb 6 34 40 (.bool x40) (giN q (fun q=>?_) (fun q=>?_)) (fun J=>?_)
 ·rw [if_neg (dbf q)] at g9;obtain ⟨x36,f1,g9⟩:=bil (g:=KY) Fm.X6 g9;refine go1 ?_;refine go ?_;exact Yt 34 g9
 ·rw [if_pos (dbt q)] at g9;refine go ?_;exact Yt 34 g9
 refine go ?_;refine cdb H (fun h H=>?_) (fun h H=>?_)
 ·refine go ?_;have e:=pur H;subst e;exact rt _
 ·have hF:=hF.lit 26 5 (rws KY []) rfl;refine go ?_;obtain ⟨o13,ho13,H⟩:=bnd H;refine Dc a0 [] 0 _ ho13 _ rfl _ _ b1 ?_ ?_ _ _ (.sl true (rws KY [])) S hF
  ·intro BA he T15 s16 e14v0 tT hF;have he:=he.symm;subst he;have hF:=hF.lit 116 10 (rws K4 []) rfl;refine go ?_;obtain ⟨o22,ho22,H⟩:=bnd H;refine Dd a0 BA [] 2 _ ho22 _ rfl _ _ b1 e14v0 ?_ ?_ _ _ (.sl true (rws K4 [])) S hF
   ·intro S6 he T24 s25 e23v1 tT hF;have he:=he.symm;subst he
    try dsimp only at H
    refine go ?_;obtain ⟨x115,hx115,H⟩:=bnd H;refine B3 (Dl S6 BA _ hx115) .bool (.cons ((hF.wk 0 rfl).trans (Wk.sub (Sub.zero _) _)) (fun _=>rfl) (.cons ((hF.wk 1 rfl).trans (Wk.sub (Sub.zero _) _)) (fun _=>rfl) .nil)) ?_;refine go ?_;refine cdb H (fun h H=>?_) (fun h H=>?_)
    ·refine go ?_;have e:=pur H;subst e;exact rt _
    ·refine go ?_;have e:=pur H;subst e;exact rt _
   ·intro r hr s' hs;subst hr;have e:=pur H;subst e;exact hsq hs
  ·trivial
theorem NH:∀(a0:List Bnd) (a1 a2:Fm) r,Bf a0 a1 a2=some r->Vr KZ 212 [sf K0 a0,.agg (KY a1),.agg (KY a2)] (.bool r):=by
 intro a0 a1 a2 r H;intro ss;unfold Bf at H;refine hdh mixed Tryz.func212 (rs:=[.tmp 6]) fun q tT hF hX=>?_;refine go ?_;refine X8 hF rfl fun b1 ss2 hF=>?_;refine go ?_;refine X8 hF rfl fun b3 ss4 hF=>?_;refine go ?_;refine bp H (BZ a0 a1) fun x14 h H=>cl h ?_;refine go ?_;refine bp H (BZ a0 a2) fun x20 h H=>cl h ?_;refine go ?_;obtain ⟨x29,g5,H⟩:=bnd H;refine Yb 2 27 29 (.bool x29) (giN q (fun q=>?_) (fun q=>?_)) (fun J=>?_)
 ·refine go ?_;exact Yt 27 g5
 ·refine go ?_;exact Yt 27 g5
 refine go ?_;refine cdb H (fun h H=>?_) (fun h H=>?_)
 ·refine go ?_;have e:=pur H;subst e;exact rt _
 ·refine go ?_;refine cdp H (fun h H=>?_) (fun h H=>?_)
  ·refine go ?_;have e:=pur H;subst e;exact rt _
  ·refine go ?_;refine Ye E0 [.v,.v,.v,.v,.v,.v,.v,.v,.v,.v,.v,.v] (by kernel_rfl) ?_;obtain ⟨x39,f1,H⟩:=bil (g:=K0) Bnd.X6 H;obtain ⟨x44,f2,H⟩:=bil (g:=K0) Bnd.X6 H;refine go2 ?_;refine go ?_;have e:=pur H;subst e;exact rt _
theorem Lr:∀(a0:Fm) (a2:List (List Hit)) (x17:List Fm) (x21:List Int) (X5:List Hit) (Y0:Int) (x30:Fm) (x34:Int) (Ai:List Hit) (Ht:Int) out,W5 a0 a2 x17 x21 X5 Y0 x30 x34 Ai Ht=some out->∀c,Yf Tryz.f218 1=some c->∀(Q:QT) (tt:Sto) (b1 b9:Nat) (z0v0:AV),(∀(Qcd:List Hit),out=Qcd->∀(T:TT) (ss:Sto) (e1v1:AV),T 2=sf (cL K1) a2/\T 7=z0v0/\T 8=sf KY x17/\T 9=sf cI x21/\T 10=i6 Y0/\T 11=.ptr b9 0->Fx tt ss [(b9,⟨195,12,[i6 x30.kind,.str x30.name,i6 x30.num,sf cI x30.sc,sf KY x30.kids,i6 (i64.wrap (x34+1)),i6 0,.str zB,i6 0,.Ya,.Ya,e1v1]⟩),(b1,⟨26,5,[i6 a0.kind,.str a0.name,i6 a0.num,sf cI a0.sc,sf KY a0.kids]⟩)] [⟨e1v1,195,12,rws K1 Qcd⟩,⟨z0v0,195,12,rws K1 X5⟩]->Q (.ex 2) ⟨T,ss⟩)->True->∀(T:TT) (ss:Sto) (z1v1:AV),T 2=sf (cL K1) a2/\T 7=z0v0/\T 8=sf KY x17/\T 9=sf cI x21/\T 10=i6 Y0/\T 11=.ptr b9 0/\T 12=i6 Ht->Fx tt ss [(b9,⟨195,12,[i6 x30.kind,.str x30.name,i6 x30.num,sf cI x30.sc,sf KY x30.kids,i6 (i64.wrap (x34+1)),i6 0,.str zB,i6 0,.Ya,.Ya,z1v1]⟩),(b1,⟨26,5,[i6 a0.kind,.str a0.name,i6 a0.num,sf cI a0.sc,sf KY a0.kids]⟩)] [⟨z1v1,195,12,rws K1 Ai⟩,⟨z0v0,195,12,rws K1 X5⟩]->aLp KZ c Q ⟨T,ss⟩:=by
 intro a0 a2 x17 x21 X5 Y0 x30 x34 Ai Ht;revert Ai Ht;refine W5.partial_correctness a0 a2 x17 x21 X5 Y0 x30 x34 _ ?_;intro W5 IH Ai Ht out H c hc Q tt b1 b9 z0v0 hE hR T ss z1v1 tT hF;refine lpx tt hc rfl fun q hX=>go ?_;refine cdp H (fun h H=>?_) (fun h H=>?_)
 ·refine go ?_;refine Ye E0 [.v,.v,.v,.v,.v,.v,.v,.v,.v,.v,.x,.v,.z] (by kernel_rfl) ?_;obtain ⟨x48,f1,H⟩:=bil (g:=(cL K1)) (fun _=>rfl) H;obtain ⟨x51,f2,H⟩:=bil (g:=K1) Hit.X6 H;refine go2 ?_;refine Pn (g:=K1) hF 0 H (rdo (c:=true) (g:=K1) Hit.X6) fun x54 H v12 s13 hF=>?_;refine go ?_;refine st hF 0 (hF.cells 0 rfl) fun s14 hF=>?_;refine go ?_;exact IH  x54 (i64.wrap (Ht+1)) _ H _ rfl Q tt b1 b9 z0v0 hE hR _ _ v12 S hF
 ·refine go ?_;exact wq (hE _ (pur H).symm _ _ z1v1 S hF)
theorem Lq:∀(a0:Fm) (a2:List (List Hit)) (x17:List Fm) (x21:List Int) (X5:List Hit) (Y0:Int) out,JC a0 a2 x17 x21 X5 Y0=some out->∀c,Yf Tryz.f218 0=some c->∀(Q:QT) (tt:Sto) (b1:Nat),(∀(YT:List Hit),out=YT->∀(T:TT) (ss:Sto) (e0v0:AV),T 7=e0v0->Fx tt ss [(b1,⟨26,5,[i6 a0.kind,.str a0.name,i6 a0.num,sf cI a0.sc,sf KY a0.kids]⟩)] [⟨e0v0,195,12,rws K1 YT⟩]->Q (.ex 0) ⟨T,ss⟩)->True->∀(T:TT) (ss:Sto) (z0v0:AV),T 2=sf (cL K1) a2/\T 7=z0v0/\T 8=sf KY x17/\T 9=sf cI x21/\T 10=i6 Y0->Fx tt ss [(b1,⟨26,5,[i6 a0.kind,.str a0.name,i6 a0.num,sf cI a0.sc,sf KY a0.kids]⟩)] [⟨z0v0,195,12,rws K1 X5⟩]->aLp KZ c Q ⟨T,ss⟩:=by
 intro a0 a2 x17 x21 X5 Y0;revert X5 Y0;refine JC.partial_correctness a0 a2 x17 x21 _ ?_;intro JC IH X5 Y0 out H c hc Q tt b1 hE hR T ss z0v0 tT hF;refine lpx tt hc rfl fun q hX=>go ?_;refine cdp H (fun h H=>?_) (fun h H=>?_)
 ·refine go ?_;refine Ye E0 [.v,.v,.v,.v,.v,.v,.v,.v,.v,.v,.x,.z] (by kernel_rfl) ?_;obtain ⟨x30,f1,H⟩:=bil (g:=KY) Fm.X6 H;obtain ⟨x34,f2,H⟩:=bil (g:=cI) (fun _=>rfl) H;refine go2 ?_;refine WQ hF rfl fun b9 s10 hF=>?_;refine go ?_;refine st hF 0 rfl fun s11 hF=>?_;have hF:=hF.nil 195 12;refine go ?_;obtain ⟨o15,ho15,H⟩:=bnd H;refine Lr a0 a2 x17 x21 X5 Y0 x30 x34 [] 0 _ ho15 _ rfl _ _ b1 b9 z0v0 ?_ ?_ _ _ .Ya S hF
  ·intro S5 he T17 s18 e16v1 tT hF;have he:=he.symm;subst he;refine go ?_;refine Qp0 (g:=K1) (rows:=[[i6 x30.kind,.str x30.name,i6 x30.num,sf cI x30.sc,sf KY x30.kids,i6 (i64.wrap (x34+1)),i6 0,.str zB,i6 0,.Ya,.Ya,e16v1]]) hF 1 0 0 H Hit.X6 true rfl (by simp only [sf,i6,zB,Y8,Vy,cI,cU,cS,cL,Hit.X9,Fm.X9,Zs,Zt,Fm.num,Fm.sc,Zu,Zj,Zb,Zv,Zk,Zl,ZB,Zm,Zw,Zx,Zn,Zo,Zp,Zy,Zq,Zc,ZC,Zz,ZD,ZA,Qr,K6,KJ,Kh,QS];exact (.wk (.refl _) id (.wk (.refl _) id (.wk (.refl _) id (.wk (.refl _) id (.wk (.refl _) id (.wk (.refl _) id (.wk (.refl _) id (.wk (.refl _) id (.wk (.refl _) id (.wk .Ya (fun _=>rfl) (.wk .Ya (fun _=>rfl) (.own .nil))))))))))))) fun x59 H v20 s21 hF=>?_;refine go ?_;exact IH  x59 (i64.wrap (Y0+1)) _ H _ rfl Q tt b1 hE hR _ _ v20 S (hF.drop 1 0)
  ·trivial
 ·refine go ?_;exact wq (hE _ (pur H).symm _ _ z0v0 S hF)
theorem O6:∀(a0:Fm) (a1:List Fm) (a2:List (List Hit)) r,AZ a0 a1 a2=some r->Vr KZ 218 [.agg (KY a0),sf KY a1,sf (cL K1) a2] (sf K1 r):=by
 intro a0 a1 a2 r H;intro ss;unfold AZ at H;refine hdh mixed Tryz.func218 (rs:=[.tmp 6]) fun q tT hF hX=>?_;refine go ?_;refine X8 hF rfl fun b1 ss2 hF=>?_;have hF:=hF.lit 26 5 (rws KY []) rfl;refine go ?_;obtain ⟨x17,hx17,H⟩:=bnd H;refine cx (B0 [] a0 a1 _ hx17  (.sl true (rws KY [])) _ (pre 0 0 1 hF hX)) ?_;rintro _ ss3 ⟨tt4,rfl,hT,hG⟩;have hF:=DB 0 1 hF hX hT hG;have hF:=hF.lit 3 1 (rws cI []) rfl;refine go ?_;obtain ⟨x21,hx21,H⟩:=bnd H;refine cx (AM [] a0 a1 0 _ hx21  (.sl true (rws cI [])) _ (pre 0 0 1 hF hX)) ?_;rintro _ ss6 ⟨t7,rfl,hT,hG⟩;have hF:=DB 0 1 hF hX hT hG;have hF:=hF.lit 195 12 (rws K1 []) rfl;refine go ?_;obtain ⟨o22,ho22,H⟩:=bnd H;refine Lq a0 a2 x17 x21 [] 0 _ ho22 _ rfl _ _ b1 ?_ ?_ _ _ (.sl true (rws K1 [])) S hF
 ·intro PV he T24 s25 e23v0 tT hF;have he:=he.symm;subst he;refine go ?_;have e:=pur H;subst e;exact rt _
 ·trivial
theorem FB:∀(a0:List Bnd) (a1 a2 a3:List Fm) (Wh Wi:Int) out,W4 a0 a1 a2 a3 Wh Wi=some out->∀c,Yf Tryz.f213 0=some c->∀(Q:QT) (tt:Sto),(∀(Qg9:Int),out=Qg9->∀(T:TT) (ss:Sto),T 0=sf K0 a0/\T 1=sf KY a1/\T 2=sf KY a2/\T 3=sf KY a3/\T 10=.sl true (rws K1 [])/\T 11=i6 Qg9->Fx tt ss [] []->Q (.ex 0) ⟨T,ss⟩)->True->∀(T:TT) (ss:Sto),T 0=sf K0 a0/\T 1=sf KY a1/\T 2=sf KY a2/\T 3=sf KY a3/\T 10=.sl true (rws K1 [])/\T 11=i6 Wh/\T 12=i6 Wi->Fx tt ss [] []->aLp KZ c Q ⟨T,ss⟩:=by
 intro a0 a1 a2 a3 Wh Wi;revert Wh Wi;refine W4.partial_correctness a0 a1 a2 a3 _ ?_;intro W4 IH Wh Wi out H c hc Q tt  hE hR T ss tT hF;refine lpx tt hc rfl fun q hX=>go ?_;refine cdp H (fun h H=>?_) (fun h H=>?_)
 ·obtain ⟨x32,f1,H⟩:=bil (g:=KY) Fm.X6 H;refine go1 ?_;refine bp H (Vw x32) fun x34 h H=>cl h ?_;refine go ?_;refine cdb H (fun h H=>?_) (fun h H=>?_)
  ·refine go ?_;exact IH  Wi (i64.wrap (Wi+1)) _ H _ rfl Q tt  hE hR _ _  S hF
  ·refine go ?_;exact IH  Wh (i64.wrap (Wi+1)) _ H _ rfl Q tt  hE hR _ _  S hF
 ·refine go ?_;exact wq (hE _ (pur H).symm _ _  S hF)
end Go.Proofs.SA
