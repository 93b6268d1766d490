/- Printed by a program of mine: the plain functions that the code computes (D), and the walks that show it (W). -/
import Derived.Test.YtiiamkelehfnoaaGreatDoorGx
import Derived.Test.YtiiamkelehfnoaaGreatDoorSaTy
import Derived.Test.YtiiamkelehfnoaaGreatDoorChecked
import Derived.Lib.Strings
import Derived.Lib.Slices
import Derived.Lib.Walk
import Derived.Lib.Bytealg
import Derived.Test.YtiiamkelehfnoaaGreatDoorGv
import Derived.Test.YtiiamkelehfnoaaGreatDoorSf
import Derived.Test.YtiiamkelehfnoaaGreatDoorsjD
set_option maxRecDepth 100000
set_option maxHeartbeats 2000000
set_option linter.unusedSimpArgs false
set_option linter.unusedVariables false
open Go Go.Proofs Go.Proofs.Shadow
open Fm renaming cells → KZ, kind → Zt, name → Zu, kids → Zv
open Tryz renaming prog → K0
open _root_.ByteArray renaming mk → Ql
open Bnd renaming cells → K1
open Hit renaming cells → K2, depth → Zc, name → Zk, many → Zl, one → Zw
open _root_.And renaming intro → K3
open Fx renaming self → K4, kept → Zb
open Rul renaming cells → K5
open _root_.List renaming not_mem_nil → KE, cons_append → Ki, nil_append → QU, mem_cons → Kk, flatten_cons → Qt, flatten_nil → K7, append_nil → KJ
open EE renaming not → K6, of → Zf, new → Zs
open Xpn renaming cells → K8
open _root_.Int renaming toNat_natCast → Km, reduceEq → Zj
open _root_.Nat renaming reduceEqDiff → K9, reduceLeDiff → Za, reduceAdd → Zg, reduceMul → Zh, reduceLT → Zi
open Val renaming items → Zd, kind → Zq, name → Zr, num → Zz, env → ZA, fn → ZD
open Mac renaming cells → Ze
open Cor renaming kind → Zm, name → Zn, data → Zo, kids → Zp, num → Zx, ids → Zy, id → ZC
open Slt renaming val → ZB, id → ZE
open Go.IntKind (i64)
namespace Go.Proofs.SA
theorem B4:∀(a0:List Int) r,HW a0=some r->∀   (ss:Sto),Pre ss [] []->Ctr K0 22 [sf cU a0] ss (fun r' ss'=>∃(tt':Sto) (n0:Nat),r'=.ptr n0 0/\Tau (strip ss []) [] tt'/\Fx tt' ss' [(n0,⟨81,2,[sf cU r.b,i6 r.p]⟩)] []):=by
 intro a0 r H;intro   ss hP;unfold HW at H;refine hdg mixed Tryz.func22 (rs:=[.tmp 2]) fun q tT=>?_;obtain ⟨hF,hX⟩:=hP.start;generalize strip ss []=tt0 at hF hX ⊢;refine go ?_;refine cdp H (fun h H=>?_) (fun h H=>?_)
 ·obtain ⟨x7,f1,H⟩:=bls (g:=cU) (fun _=>rfl) (lo:=none) (hi:=some (i6 2000)) rfl rfl H;refine go1 ?_;refine go ?_;refine X9 hF rfl fun b1 ss2 hF=>?_;refine go ?_;have e:=pur H;subst e;exact rg _ ⟨_,_,rfl,hX,hF.pick [0] [] (by decide) (by decide)⟩
 ·refine go ?_;refine X9 hF rfl fun b3 ss4 hF=>?_;refine go ?_;have e:=pur H;subst e;exact rg _ ⟨_,_,rfl,hX,hF.pick [0] [] (by decide) (by decide)⟩
theorem Yr:∀(a1:Int) (c0:Rdr) r,Yp a1 c0=some r->∀(e0:Nat)  (ss:Sto),Pre ss [(e0,⟨81,2,[sf cU c0.b,i6 c0.p]⟩)] []->Ctr K0 23 [.ptr e0 0,i6 a1] ss (fun r' ss'=>∃(tt':Sto),r'=i6 r.1/\Tau (strip ss []) [(e0,⟨81,2,[sf cU r.2.b,i6 r.2.p]⟩)] tt'/\Fx tt' ss' [] []):=by
 intro a1 c0 r H;intro e0  ss hP;unfold Yp at H;refine hdg mixed Tryz.func23 (rs:=[.tmp 4]) fun q tT=>?_;obtain ⟨hF,hX⟩:=hP.start;generalize strip ss []=tt0 at hF hX ⊢;refine go ?_;refine stT hF hX 0 rfl fun tt2 ss1 hF hX=>?_;refine go ?_;obtain ⟨x24,g3,H⟩:=bnd H;refine Yc 6 18 24 (.bool x24) (giN q (fun q=>?_) (fun q=>?_)) (fun J=>?_)
 ·refine go ?_;exact Yt 18 g3
 ·refine go ?_;exact Yt 18 g3
 refine go ?_;refine cdb H (fun h H=>?_) (fun h H=>?_)
 ·refine go ?_;have e:=pur H;subst e;exact rg _ ⟨_,rfl,hX,K4 _⟩
 ·refine go ?_;refine cdp H (fun h H=>?_) (fun h H=>?_)
  ·obtain ⟨x42,f1,H⟩:=bil (g:=cU) (fun _=>rfl) H;obtain ⟨x46,f2,H⟩:=brm H;refine go2 ?_;refine go ?_;have e:=pur H;subst e;exact rg _ ⟨_,rfl,hX,K4 _⟩
  ·refine go ?_;refine Yg E0 [.v,.v,.v,.v,.v,.v,.v,.v,.v,.v,.v,.v,.v,.v,.v,.v,.v,.v,.v,.v,.v,.v,.v,.v,.v,.v,.v,.v,.v,.v,.v,.v,.v,.v,.v,.v,.v,.v,.v,.v,.v,.v,.v,.v,.v,.v] (by kernel_rfl) ?_;obtain ⟨x57,f1,H⟩:=brm H;obtain ⟨x58,f2,H⟩:=bil (g:=cU) (fun _=>rfl) H;obtain ⟨x74,f3,H⟩:=brm H;obtain ⟨x75,f4,H⟩:=bil (g:=cU) (fun _=>rfl) H;obtain ⟨x89,f5,H⟩:=bqu H;refine go5 ?_;obtain ⟨x98,f1,H⟩:=brm H;refine go1 ?_;refine go ?_;have e:=pur H;subst e;exact rg _ ⟨_,rfl,hX,K4 _⟩
theorem Ek:∀(a0:ByteArray) (He:Int) out,Je a0 He=some out->∀c,Yh Tryz.f137 0=some c->∀(Q:QT) (tt:Sto),(∀(On:Int),out=On->∀(T:TT) (ss:Sto),T 1=i6 On->Fx tt ss [] []->Q (.ex 0) ⟨T,ss⟩)->True->∀(T:TT) (ss:Sto),T 0=.str a0/\T 1=i6 He->Fx tt ss [] []->aLp K0 c Q ⟨T,ss⟩:=by
 intro a0 He;revert He;refine Je.partial_correctness a0 _ ?_;intro Je IH He out H c hc Q tt  hE hR T ss tT hF;refine lpx tt hc rfl fun q hX=>go ?_;obtain ⟨x14,g1,H⟩:=bnd H;refine Yc 4 10 14 (.bool x14) (gi q (fun q=>?_) (fun q=>?_)) (fun J=>?_)
 ·rw [if_pos (dt q)] at g1;obtain ⟨x12,f1,g1⟩:=bsx g1;refine go1 ?_;refine go ?_;exact Yt 10 g1
 ·rw [if_neg (df q)] at g1;refine go ?_;exact Yt 10 g1
 refine go ?_;refine cdb H (fun h H=>?_) (fun h H=>?_)
 ·refine go ?_;exact IH  (i64.wrap (He+1)) _ H _ rfl Q tt  hE hR _ _  S hF
 ·refine go ?_;exact wq (hE _ (pur H).symm _ _  S hF)
theorem IB:∀(a0:ByteArray) (a1:Int) r,G7 a0 a1=some r->Vb K0 137 [.str a0,i6 a1] (i6 r):=by
 intro a0 a1 r H;intro ss;unfold G7 at H;refine hdh mixed Tryz.func137 (rs:=[.tmp 4]) fun q tT hF hX=>?_;refine go ?_;obtain ⟨o3,ho3,H⟩:=bnd H;refine Ek a0 a1 _ ho3 _ rfl _ _  ?_ ?_ _ _  S hF
 ·intro Qgf he T5 ss6 tT hF;have he:=he.symm;subst he;refine go ?_;have e:=pur H;subst e;exact rt _
 ·trivial
theorem Em:∀(a0:ByteArray) (He:Int) out,Jg a0 He=some out->∀c,Yh Tryz.f177 0=some c->∀(Q:QT) (tt:Sto),(∀(On:Int),out=On->∀(T:TT) (ss:Sto),T 1=i6 On->Fx tt ss [] []->Q (.ex 0) ⟨T,ss⟩)->True->∀(T:TT) (ss:Sto),T 0=.str a0/\T 1=i6 He->Fx tt ss [] []->aLp K0 c Q ⟨T,ss⟩:=by
 intro a0 He;revert He;refine Jg.partial_correctness a0 _ ?_;intro Jg IH He out H c hc Q tt  hE hR T ss tT hF;refine lpx tt hc rfl fun q hX=>go ?_;obtain ⟨x14,g1,H⟩:=bnd H;refine Yc 4 10 14 (.bool x14) (gi q (fun q=>?_) (fun q=>?_)) (fun J=>?_)
 ·rw [if_pos (dt q)] at g1;obtain ⟨x12,f1,g1⟩:=bsx g1;refine go1 ?_;refine go ?_;exact Yt 10 g1
 ·rw [if_neg (df q)] at g1;refine go ?_;exact Yt 10 g1
 refine go ?_;obtain ⟨x20,g3,H⟩:=bnd H;refine Yc 4 16 20 (.bool x20) (gi q (fun q=>?_) (fun q=>?_)) (fun J=>?_)
 ·rw [if_pos (dbt q)] at g3;obtain ⟨x18,f1,g3⟩:=bsx g3;refine go1 ?_;refine go ?_;exact Yt 16 g3
 ·rw [if_neg (dbf q)] at g3;refine go ?_;exact Yt 16 g3
 refine go ?_;obtain ⟨x26,g5,H⟩:=bnd H;refine Yc 4 22 26 (.bool x26) (gi q (fun q=>?_) (fun q=>?_)) (fun J=>?_)
 ·rw [if_pos (dbt q)] at g5;obtain ⟨x24,f1,g5⟩:=bsx g5;refine go1 ?_;refine go ?_;exact Yt 22 g5
 ·rw [if_neg (dbf q)] at g5;refine go ?_;exact Yt 22 g5
 refine go ?_;obtain ⟨x32,g7,H⟩:=bnd H;refine Yc 4 28 32 (.bool x32) (gi q (fun q=>?_) (fun q=>?_)) (fun J=>?_)
 ·rw [if_pos (dbt q)] at g7;obtain ⟨x30,f1,g7⟩:=bsx g7;refine go1 ?_;refine go ?_;exact Yt 28 g7
 ·rw [if_neg (dbf q)] at g7;refine go ?_;exact Yt 28 g7
 refine go ?_;refine cdb H (fun h H=>?_) (fun h H=>?_)
 ·refine go ?_;exact IH  (i64.wrap (He+1)) _ H _ rfl Q tt  hE hR _ _  S hF
 ·refine go ?_;exact wq (hE _ (pur H).symm _ _  S hF)
theorem Mp:∀(a0:ByteArray) (a1:Int) r,Af a0 a1=some r->Vb K0 177 [.str a0,i6 a1] (i6 r):=by
 intro a0 a1 r H;intro ss;unfold Af at H;refine hdh mixed Tryz.func177 (rs:=[.tmp 4]) fun q tT hF hX=>?_;refine go ?_;obtain ⟨o9,ho9,H⟩:=bnd H;refine Em a0 a1 _ ho9 _ rfl _ _  ?_ ?_ _ _  S hF
 ·intro U4 he T11 s12 tT hF;have he:=he.symm;subst he;refine go ?_;have e:=pur H;subst e;exact rt _
 ·trivial
theorem Eg:∀(x14:Bool) (Bs:ByteArray) (Yi Yy:Int) out,W8 x14 Bs Yi Yy=some out->∀c,Yh Tryz.f178 0=some c->∀(Q:QT) (tt:Sto),(∀(Oo:Int),out=Sum.inr Oo->∀(T:TT) (ss:Sto),T 4=.bool x14/\T 5=i6 Oo->Fx tt ss [] []->Q (.ex 0) ⟨T,ss⟩)->(∀r,out=Sum.inl r->∀s',IP K0 [.tmp 2,.tmp 3] (fun r' ss'=>r'=.tup [i6 r.1,.bool r.2]/\ss'=tt) s'->Q .ret s')->∀(T:TT) (ss:Sto),T 0=.str Bs/\T 4=.bool x14/\T 5=i6 Yi/\T 6=i6 Yy->Fx tt ss [] []->aLp K0 c Q ⟨T,ss⟩:=by
 intro x14 Bs Yi Yy;revert Yi Yy;refine W8.partial_correctness x14 Bs _ ?_;intro W8 IH Yi Yy out H c hc Q tt  hE hR T ss tT hF;refine lpx tt hc rfl fun q hX=>go ?_;refine cdp H (fun h H=>?_) (fun h H=>?_)
 ·obtain ⟨x47,f1,H⟩:=bsx H;refine go1 ?_;obtain ⟨x54,g16,H⟩:=bnd H;refine Yc 4 50 54 (.bool x54) (giN q (fun q=>?_) (fun q=>?_)) (fun J=>?_)
  ·rw [if_neg (df q)] at g16;obtain ⟨x52,f1,g16⟩:=bsx g16;refine go1 ?_;refine go ?_;exact Yt 50 g16
  ·rw [if_pos (dt q)] at g16;refine go ?_;exact Yt 50 g16
  refine go ?_;refine cdb H (fun h H=>?_) (fun h H=>?_)
  ·refine go ?_;exact wq (hR _ (pur H).symm _ (rt _))
  ·obtain ⟨x59,f1,H⟩:=bsx H;refine go1 ?_;refine go ?_;exact IH  (i64.wrap ((i64.wrap (Yi * 10))+(i64.wrap (IntKind.u8.wrap (x59 - 48))))) (i64.wrap (Yy+1)) _ H _ rfl Q tt  hE hR _ _  S hF
 ·refine go ?_;exact wq (hE _ (pur H).symm _ _  S hF)
theorem CH:∀(a0:ByteArray) r,Is a0=some r->Vb K0 178 [.str a0] (.tup [i6 r.1,.bool r.2]):=by
 intro a0 r H;intro ss;unfold Is at H;refine hdh mixed Tryz.func178 (rs:=[.tmp 2,.tmp 3]) fun q tT hF hX=>?_;refine go ?_;obtain ⟨x14,g1,H⟩:=bnd H;refine Yc 3 11 14 (.bool x14) (gi q (fun q=>?_) (fun q=>?_)) (fun J=>?_)
 ·rw [if_pos (dt q)] at g1;obtain ⟨x12,f1,g1⟩:=bsx g1;refine go1 ?_;refine go ?_;exact Yt 11 g1
 ·rw [if_neg (df q)] at g1;refine go ?_;exact Yt 11 g1
 refine go ?_;obtain ⟨Bs,j4,H⟩:=bnd H;refine Vy (fun s'=>∃(T:TT) (ss1:Sto),s'=⟨T,ss1⟩/\(T 0=.str Bs/\T 4=.bool x14)/\Fx ss ss1 [] []) (cdb j4 (fun h j4=>?_) (fun h j4=>?_)) ?_
 ·obtain ⟨x17,f1,j4⟩:=bss (lo:=some (i6 1)) (hi:=none) rfl rfl j4;refine go1 ?_;refine go ?_;have e:=pur j4;subst e;exact ⟨_,_,rfl,S,hF⟩
 ·refine go ?_;have e:=pur j4;subst e;exact ⟨_,_,rfl,S,hF⟩
 ·rintro s' ⟨T5,ss6,rfl,tT,hF⟩;refine go ?_;obtain ⟨x25,g8,H⟩:=bnd H;refine Yc 3 22 25 (.bool x25) (giN q (fun q=>?_) (fun q=>?_)) (fun J=>?_)
  ·refine go ?_;exact Yt 22 g8
  ·refine go ?_;exact Yt 22 g8
  refine go ?_;obtain ⟨x38,g10,H⟩:=bnd H;refine Yc 11 27 38 (.bool x38) (giN q (fun q=>?_) (fun q=>?_)) (fun J=>?_)
  ·rw [if_neg (dbf q)] at g10;obtain ⟨x28,f1,g10⟩:=bsx g10;refine go1 ?_;obtain ⟨x37,g12,g10⟩:=bnd g10;refine Yc 6 31 37 (.bool x37) (gi q (fun q=>?_) (fun q=>?_)) (fun J=>?_)
   ·rw [if_pos (dt q)] at g12;refine go ?_;obtain ⟨x36,g14,g12⟩:=bnd g12;refine Yc 1 35 36 (.bool x36) (giN q (fun q=>?_) (fun q=>?_)) (fun J=>?_)
    ·refine go ?_;exact Yt 35 g14
    ·refine go ?_;exact Yt 35 g14
    refine go ?_;exact Yt 31 g12
   ·rw [if_neg (df q)] at g12;refine go ?_;exact Yt 31 g12
   refine go ?_;exact Yt 27 g10
  ·rw [if_pos (dbt q)] at g10;refine go ?_;exact Yt 27 g10
  refine go ?_;refine cdb H (fun h H=>?_) (fun h H=>?_)
  ·refine go ?_;have e:=pur H;subst e;exact rt _
  ·refine go ?_;obtain ⟨o18,ho18,H⟩:=bnd H;refine Eg x14 Bs 0 0 _ ho18 _ rfl _ _  ?_ ?_ _ _  S hF
   ·intro Ou he T20 s21 tT hF;have he:=he.symm;subst he
    try dsimp only at H
    refine go ?_;refine cdb H (fun h H=>?_) (fun h H=>?_)
    ·refine go ?_;have e:=pur H;subst e;exact rt _
    ·refine go ?_;have e:=pur H;subst e;exact rt _
   ·intro r hr s' hs;subst hr;have e:=pur H;subst e;exact hsq hs
theorem Ee:∀(a0:ByteArray) (a1:Int) (X8:List ByteArray) (Yy Yq:Int) out,Wo a0 a1 X8 Yy Yq=some out->∀c,Yh Tryz.f191 0=some c->∀(Q:QT) (tt:Sto),(∀(YO:List ByteArray),out=YO->∀(T:TT) (ss:Sto) (e0v0:AV),T 5=e0v0->Fx tt ss [] [⟨e0v0,9,1,rws cS YO⟩]->Q (.ex 0) ⟨T,ss⟩)->True->∀(T:TT) (ss:Sto) (z0v0:AV),T 0=.str a0/\T 1=.int .u8 a1/\T 5=z0v0/\T 6=i6 Yy/\T 7=i6 Yq->Fx tt ss [] [⟨z0v0,9,1,rws cS X8⟩]->aLp K0 c Q ⟨T,ss⟩:=by
 intro a0 a1 X8 Yy Yq;revert X8 Yy Yq;refine Wo.partial_correctness a0 a1 _ ?_;intro Wo IH X8 Yy Yq out H c hc Q tt  hE hR T ss z0v0 tT hF;refine lpx tt hc rfl fun q hX=>go ?_;refine cdp H (fun h H=>?_) (fun h H=>?_)
 ·refine go ?_;obtain ⟨x25,g1,H⟩:=bnd H;refine Yc 5 20 25 (.bool x25) (giN q (fun q=>?_) (fun q=>?_)) (fun J=>?_)
  ·rw [if_neg (df q)] at g1;obtain ⟨x22,f1,g1⟩:=bsx g1;refine go1 ?_;refine go ?_;exact Yt 20 g1
  ·rw [if_pos (dt q)] at g1;refine go ?_;exact Yt 20 g1
  refine go ?_;refine cdb H (fun h H=>?_) (fun h H=>?_)
  ·obtain ⟨x30,f1,H⟩:=bss (lo:=some (i6 Yy)) (hi:=some (i6 Yq)) rfl rfl H;refine go1 ?_;refine apd (g:=cS) hF 0 H (rdo (c:=true) (g:=cS) (fun _=>rfl)) fun x32 H v3 ss4 hF=>?_;refine go ?_;exact IH  x32 (i64.wrap (Yq+1)) (i64.wrap (Yq+1)) _ H _ rfl Q tt  hE hR _ _ v3 S hF
  ·refine go ?_;exact IH  X8 Yy (i64.wrap (Yq+1)) _ H _ rfl Q tt  hE hR _ _ z0v0 S hF
 ·refine go ?_;exact wq (hE _ (pur H).symm _ _ z0v0 S hF)
theorem Mj:∀(a0:ByteArray) (a1:Int) r,Ab a0 a1=some r->Vb K0 191 [.str a0,.int .u8 a1] (sf cS r):=by
 intro a0 a1 r H;intro ss;unfold Ab at H;refine hdh mixed Tryz.func191 (rs:=[.tmp 4]) fun q tT hF hX=>?_;have hF:=hF.lit 9 1 (rws cS []) rfl;refine go ?_;obtain ⟨o5,ho5,H⟩:=bnd H;refine Ee a0 a1 [] 0 0 _ ho5 _ rfl _ _  ?_ ?_ _ _ (.sl true (rws cS [])) S hF
 ·intro SW he T7 s8 e6v0 tT hF;have he:=he.symm;subst he;refine go ?_;have e:=pur H;subst e;exact rt _
 ·trivial
theorem Ei:∀(a0:ByteArray) (a1 Yq:Int) out,VV a0 a1 Yq=some out->∀c,Yh Tryz.f179 0=some c->∀(Q:QT) (tt:Sto),(∀(U2:Int),out=U2->∀(T:TT) (ss:Sto),T 0=.str a0/\T 1=i6 a1/\T 6=.sl true (rws cI [])/\T 7=i6 U2->Fx tt ss [] []->Q (.ex 0) ⟨T,ss⟩)->True->∀(T:TT) (ss:Sto),T 0=.str a0/\T 1=i6 a1/\T 6=.sl true (rws cI [])/\T 7=i6 Yq->Fx tt ss [] []->aLp K0 c Q ⟨T,ss⟩:=by
 intro a0 a1 Yq;revert Yq;refine VV.partial_correctness a0 a1 _ ?_;intro VV IH Yq out H c hc Q tt  hE hR T ss tT hF;refine lpx tt hc rfl fun q hX=>go ?_;obtain ⟨x35,g3,H⟩:=bnd H;refine Yc 4 31 35 (.bool x35) (gi q (fun q=>?_) (fun q=>?_)) (fun J=>?_)
 ·rw [if_pos (dt q)] at g3;obtain ⟨x33,f1,g3⟩:=bsx g3;refine go1 ?_;refine go ?_;exact Yt 31 g3
 ·rw [if_neg (df q)] at g3;refine go ?_;exact Yt 31 g3
 refine go ?_;refine cdb H (fun h H=>?_) (fun h H=>?_)
 ·refine go ?_;exact IH  (i64.wrap (Yq+1)) _ H _ rfl Q tt  hE hR _ _  S hF
 ·refine go ?_;exact wq (hE _ (pur H).symm _ _  S hF)
theorem Ej:∀(Ct:Int) (x48:List ByteArray) (Vj:List Int) (Gg:Int) out,Jd Ct x48 Vj Gg=some out->∀c,Yh Tryz.f179 1=some c->∀(Q:QT) (tt:Sto),(∀(La:List Int),out=Sum.inr La->∀(T:TT) (ss:Sto) (e1v0:AV),T 6=e1v0/\T 7=i6 Ct->Fx tt ss [] [⟨e1v0,3,1,rws cI La⟩]->Q (.ex 2) ⟨T,ss⟩)->(∀r,out=Sum.inl r->∀s',IP K0 [.tmp 4,.tmp 5] (fun r' ss'=>r'=.tup [sf cI r.1,i6 r.2]/\ss'=tt) s'->Q .ret s')->∀(T:TT) (ss:Sto) (z1v0:AV),T 6=z1v0/\T 7=i6 Ct/\T 8=sf cS x48/\T 9=i6 Gg->Fx tt ss [] [⟨z1v0,3,1,rws cI Vj⟩]->aLp K0 c Q ⟨T,ss⟩:=by
 intro Ct x48 Vj Gg;revert Vj Gg;refine Jd.partial_correctness Ct x48 _ ?_;intro Jd IH Vj Gg out H c hc Q tt  hE hR T ss z1v0 tT hF;refine lpx tt hc rfl fun q hX=>go ?_;obtain ⟨x56,g10,H⟩:=bnd H;refine Yc 2 54 56 (.bool x56) (gi q (fun q=>?_) (fun q=>?_)) (fun J=>?_)
 ·refine go ?_;exact Yt 54 g10
 ·refine go ?_;exact Yt 54 g10
 refine go ?_;refine cdb H (fun h H=>?_) (fun h H=>?_)
 ·obtain ⟨x62,f1,H⟩:=bil (g:=cS) (fun _=>rfl) H;refine go1 ?_;refine bp H (CH x62) fun x64 h H=>cl h ?_;refine go ?_;refine cdb H (fun h H=>?_) (fun h H=>?_)
  ·refine go ?_;exact wq (hR _ (pur H).symm _ (rt _))
  ·refine go ?_;refine apd (g:=cI) hF 0 H (rdo (c:=true) (g:=cI) (fun _=>rfl)) fun x73 H v12 s13 hF=>?_;refine go ?_;exact IH  x73 (i64.wrap (Gg+1)) _ H _ rfl Q tt  hE hR _ _ v12 S hF
 ·refine go ?_;exact wq (hE _ (pur H).symm _ _ z1v0 S hF)
theorem Mm:∀(a0:ByteArray) (a1:Int) r,Ae a0 a1=some r->Vb K0 179 [.str a0,i6 a1] (.tup [sf cI r.1,i6 r.2]):=by
 intro a0 a1 r H;intro ss;unfold Ae at H;refine hdh mixed Tryz.func179 (rs:=[.tmp 4,.tmp 5]) fun q tT hF hX=>?_;refine go ?_;obtain ⟨x22,g1,H⟩:=bnd H;refine Yc 4 18 22 (.bool x22) (giN q (fun q=>?_) (fun q=>?_)) (fun J=>?_)
 ·rw [if_neg (df q)] at g1;obtain ⟨x20,f1,g1⟩:=bsx g1;refine go1 ?_;refine go ?_;exact Yt 18 g1
 ·rw [if_pos (dt q)] at g1;refine go ?_;exact Yt 18 g1
 refine go ?_;refine cdb H (fun h H=>?_) (fun h H=>?_)
 ·refine go ?_;have e:=pur H;subst e;exact rt _
 ·refine go ?_;obtain ⟨o5,ho5,H⟩:=bnd H;refine Ei a0 a1 a1 _ ho5 _ rfl _ _  ?_ ?_ _ _  S hF
  ·intro Ct he T7 s8 tT hF;have he:=he.symm;subst he;refine go ?_;refine cdp H (fun h H=>?_) (fun h H=>?_)
   ·refine go ?_;have e:=pur H;subst e;exact rt _
   ·obtain ⟨x47,f1,H⟩:=bss (lo:=some (i6 (i64.wrap (a1+1)))) (hi:=some (i6 Ct)) rfl rfl H;refine go1 ?_;refine bp H (Mj x47 44) fun x48 h H=>cl h ?_;have hF:=hF.lit 3 1 (rws cI []) rfl;refine go ?_;obtain ⟨o14,ho14,H⟩:=bnd H;refine Ej Ct x48 [] 0 _ ho14 _ rfl _ _  ?_ ?_ _ _ (.sl true (rws cI [])) S hF
    ·intro BM he T16 s17 e15v0 tT hF;have he:=he.symm;subst he
     try dsimp only at H
     refine go ?_;have e:=pur H;subst e;exact rt _
    ·intro r hr s' hs;subst hr;have e:=pur H;subst e;exact hsq hs
  ·trivial
theorem Mk:∀(a0:ByteArray) (a1:Int) r,Ac a0 a1=some r->Vb K0 159 [.str a0,i6 a1] (.tup [.agg (KZ r.1),i6 r.2]):=by
 intro a0 a1 r H;intro ss;unfold Ac at H;refine hdh mixed Tryz.func159 (rs:=[.cell 4 34,.tmp 5]) fun q tT hF hX=>?_;refine go ?_;refine X9 hF rfl fun b1 ss2 hF=>?_;refine go ?_;refine bp H (Mp a0 a1) fun x14 h H=>cl h ?_;obtain ⟨x18,f1,H⟩:=bss (lo:=some (i6 a1)) (hi:=some (i6 x14)) rfl rfl H;refine go1 ?_;refine go ?_;refine bp H (CH x18) fun x21 h H=>cl h ?_;refine go ?_;refine cdb H (fun h H=>?_) (fun h H=>?_)
 ·refine go ?_;refine st hF 0 rfl fun ss3 hF=>?_;refine go ?_;have e:=pur H;subst e;exact rt _
 ·refine go ?_;refine cdp H (fun h H=>?_) (fun h H=>?_)
  ·refine go ?_;refine st hF 0 rfl fun ss4 hF=>?_;refine go ?_;have e:=pur H;subst e;exact rt _
  ·refine go ?_;refine bp H (Mm a0 x14) fun x34 h H=>cl h ?_;refine go ?_;refine st hF 0 rfl fun ss5 hF=>?_;refine go ?_;have e:=pur H;subst e;exact rt _
theorem Ml:∀(a0:ByteArray) (a1 a2:Int) r,G6 a0 a1 a2=some r->Vb K0 136 [.str a0,i6 a1,i6 a2] (.tup [.agg (KZ r.1),i6 r.2]):=by
 intro a0 a1 a2;revert a1 a2;refine G6.partial_correctness a0 (motive_1:=fun a1 a2 r=>Vb K0 136 [.str a0,i6 a1,i6 a2] (.tup [.agg (KZ r.1),i6 r.2])) (motive_2:=fun a2 X8 He out=>∀c,Yh Tryz.f136 0=some c->∀(Q:QT) (tt:Sto) (b1 b7:Nat),(∀(YO:List Fm) (On:Int),out=Sum.inr (YO,On)->∀(T:TT) (ss:Sto) (e0v0:AV),T 0=.str a0/\T 1=i6 On/\T 6=.ptr b1 0/\T 8=.ptr b7 0->Fx tt ss [(b7,⟨34,5,[i6 3,.str zB,i6 0,.Yb,e0v0]⟩),(b1,⟨34,5,[i6 0,.str zB,i6 0,.Yb,.Yb]⟩)] [⟨e0v0,34,5,rws KZ YO⟩]->Q (.ex 0) ⟨T,ss⟩)->(∀r,out=Sum.inl r->∀s',IP K0 [.cell 6 34,.tmp 7] (fun r' ss'=>r'=.tup [.agg (KZ r.1),i6 r.2]/\ss'=tt) s'->Q .ret s')->∀(T:TT) (ss:Sto) (z0v0:AV),T 0=.str a0/\T 1=i6 He/\T 2=i6 a2/\T 6=.ptr b1 0/\T 8=.ptr b7 0->Fx tt ss [(b7,⟨34,5,[i6 3,.str zB,i6 0,.Yb,z0v0]⟩),(b1,⟨34,5,[i6 0,.str zB,i6 0,.Yb,.Yb]⟩)] [⟨z0v0,34,5,rws KZ X8⟩]->aLp K0 c Q ⟨T,ss⟩) ?_ ?_
 ·intro GN L0 a1 a2 r H;intro ss;refine hdh mixed Tryz.func136 (rs:=[.cell 6 34,.tmp 7]) fun q tT hF hX=>?_;refine go ?_;refine X9 hF rfl fun b1 ss2 hF=>?_;refine go ?_;refine bp H (IB a0 a1) fun x13 h H=>cl h ?_;refine go ?_;obtain ⟨x21,g3,H⟩:=bnd H;refine Yc 2 19 21 (.bool x21) (giN q (fun q=>?_) (fun q=>?_)) (fun J=>?_)
  ·refine go ?_;exact Yt 19 g3
  ·refine go ?_;exact Yt 19 g3
  refine go ?_;refine cdb H (fun h H=>?_) (fun h H=>?_)
  ·refine go ?_;refine st hF 0 rfl fun ss5 hF=>?_;refine go ?_;have e:=pur H;subst e;exact rt _
  ·obtain ⟨x25,f1,H⟩:=bsx H;refine go1 ?_;refine go ?_;refine cdn H (fun h H=>?_) (fun h H=>?_)
   ·refine go ?_;refine bp H (Mk a0 x13) fun x29 h H=>cl h ?_;refine go ?_;refine st hF 0 rfl fun ss6 hF=>?_;refine go ?_;have e:=pur H;subst e;exact rt _
   ·refine go ?_;refine X9 hF rfl fun b7 s8 hF=>?_;refine go ?_;refine st hF 0 rfl fun s9 hF=>?_;refine go ?_;obtain ⟨x36,hx36,H⟩:=bnd H;refine cl (IB a0 (i64.wrap (x13+1)) _ hx36) ?_;have hF:=hF.nil 34 5;refine go ?_;obtain ⟨o21,ho21,H⟩:=bnd H;refine L0 a2 [] x36 _ ho21 _ rfl _ _ b1 b7 ?_ ?_ _ _ .Yb S hF
    ·intro Bv Ov he T23 s24 e22v0 tT hF;have he:=he.symm;subst he
     try dsimp only at H
     refine go ?_;obtain ⟨x82,g26,H⟩:=bnd H;refine Yc 4 78 82 (.bool x82) (giN q (fun q=>?_) (fun q=>?_)) (fun J=>?_)
     ·rw [if_neg (df q)] at g26;obtain ⟨x80,f1,g26⟩:=bsx g26;refine go1 ?_;refine go ?_;exact Yt 78 g26
     ·rw [if_pos (dt q)] at g26;refine go ?_;exact Yt 78 g26
     refine go ?_;refine cdb H (fun h H=>?_) (fun h H=>?_)
     ·refine go ?_;refine st hF 1 rfl fun s28 hF=>?_;refine go ?_;have e:=pur H;subst e;exact rt _
     ·refine go ?_;refine st hF 1 rfl fun s29 hF=>?_;refine go ?_;have e:=pur H;subst e;exact rt _
    ·intro r hr s' hs;subst hr;have e:=pur H;subst e;exact hsq hs
 ·intro G6 GN C0 L0 a2 X8 He out H c hc Q tt b1 b7 hE hR T ss z0v0 tT hF;refine lpx tt hc rfl fun q hX=>go ?_;obtain ⟨x46,g10,H⟩:=bnd H;refine Yc 4 42 46 (.bool x46) (gi q (fun q=>?_) (fun q=>?_)) (fun J=>?_)
  ·rw [if_pos (dt q)] at g10;obtain ⟨x44,f1,g10⟩:=bsx g10;refine go1 ?_;refine go ?_;exact Yt 42 g10
  ·rw [if_neg (df q)] at g10;refine go ?_;exact Yt 42 g10
  refine go ?_;obtain ⟨x52,g12,H⟩:=bnd H;refine Yc 4 48 52 (.bool x52) (gi q (fun q=>?_) (fun q=>?_)) (fun J=>?_)
  ·refine go ?_;exact Yt 48 g12
  ·refine go ?_;exact Yt 48 g12
  refine go ?_;refine cdb H (fun h H=>?_) (fun h H=>?_)
  ·refine go ?_;obtain ⟨x58,hx58,H⟩:=bnd H;refine cl (C0 He (i64.wrap (a2 - 1)) _ hx58) ?_;refine go ?_;refine X9 hF rfl fun b14 s15 hF=>?_;refine go ?_;refine st hF 0 rfl fun s16 hF=>?_;refine go ?_;refine cdp H (fun h H=>?_) (fun h H=>?_)
   ·refine go ?_;refine st hF 2 rfl fun s17 hF=>?_;refine go ?_;exact wq (hR _ (pur H).symm _ (rt _))
   ·refine go ?_;refine apd (g:=KZ) hF 0 H (rdo (c:=true) (g:=KZ) Fm.X6) fun x68 H v18 s19 hF=>?_;refine go ?_;refine st hF 1 (hF.cells 0 rfl) fun s20 hF=>?_;refine go ?_;refine bp H (IB a0 x58.2) fun x72 h H=>cl h ?_;refine go ?_;exact L0 a2 x68 x72 _ H _ rfl Q tt b1 b7 hE hR _ _ v18 S (hF.drop 1 0)
  ·refine go ?_;exact wq (hE _ _ (pur H).symm _ _ z0v0 S hF)
theorem Fb:∀(a0:Int) (a1:Bool) r,Gp a0 a1=some r->Vb K0 120 [.int .u8 a0,.bool a1] (.bool r):=by
 intro a0 a1 r H;intro ss;unfold Gp at H;refine hdh mixed Tryz.func120 (rs:=[.tmp 4]) fun q tT hF hX=>?_;refine go ?_;obtain ⟨x10,g1,H⟩:=bnd H;refine Yc 2 8 10 (.bool x10) (gi q (fun q=>?_) (fun q=>?_)) (fun J=>?_)
 ·refine go ?_;exact Yt 8 g1
 ·refine go ?_;exact Yt 8 g1
 refine go ?_;obtain ⟨x14,g3,H⟩:=bnd H;refine Yc 2 12 14 (.bool x14) (giN q (fun q=>?_) (fun q=>?_)) (fun J=>?_)
 ·refine go ?_;exact Yt 12 g3
 ·refine go ?_;exact Yt 12 g3
 refine go ?_;obtain ⟨x18,g5,H⟩:=bnd H;refine Yc 2 16 18 (.bool x18) (giN q (fun q=>?_) (fun q=>?_)) (fun J=>?_)
 ·refine go ?_;exact Yt 16 g5
 ·refine go ?_;exact Yt 16 g5
 refine go ?_;obtain ⟨x22,g7,H⟩:=bnd H;refine Yc 2 20 22 (.bool x22) (giN q (fun q=>?_) (fun q=>?_)) (fun J=>?_)
 ·refine go ?_;exact Yt 20 g7
 ·refine go ?_;exact Yt 20 g7
 refine go ?_;obtain ⟨x26,g9,H⟩:=bnd H;refine Yc 2 24 26 (.bool x26) (giN q (fun q=>?_) (fun q=>?_)) (fun J=>?_)
 ·refine go ?_;exact Yt 24 g9
 ·refine go ?_;exact Yt 24 g9
 refine go ?_;obtain ⟨x30,g11,H⟩:=bnd H;refine Yc 2 28 30 (.bool x30) (giN q (fun q=>?_) (fun q=>?_)) (fun J=>?_)
 ·refine go ?_;exact Yt 28 g11
 ·refine go ?_;exact Yt 28 g11
 refine go ?_;refine cdb H (fun h H=>?_) (fun h H=>?_)
 ·refine go ?_;have e:=pur H;subst e;exact rt _
 ·refine go ?_;obtain ⟨x44,g13,H⟩:=bnd H;refine Yc 10 34 44 (.bool x44) (gi q (fun q=>?_) (fun q=>?_)) (fun J=>?_)
  ·rw [if_pos (dbt q)] at g13;refine go ?_;obtain ⟨x39,g15,g13⟩:=bnd g13;refine Yc 2 37 39 (.bool x39) (gi q (fun q=>?_) (fun q=>?_)) (fun J=>?_)
   ·refine go ?_;exact Yt 37 g15
   ·refine go ?_;exact Yt 37 g15
   refine go ?_;obtain ⟨x43,g17,g13⟩:=bnd g13;refine Yc 2 41 43 (.bool x43) (giN q (fun q=>?_) (fun q=>?_)) (fun J=>?_)
   ·refine go ?_;exact Yt 41 g17
   ·refine go ?_;exact Yt 41 g17
   refine go ?_;exact Yt 34 g13
  ·rw [if_neg (dbf q)] at g13;refine go ?_;exact Yt 34 g13
  refine go ?_;have e:=pur H;subst e;exact rt _
theorem Cx:∀(a0:ByteArray) (Yo:Int) out,Y1 a0 Yo=some out->∀c,Yh Tryz.f94 0=some c->∀(Q:QT) (tt:Sto),(∀(_u:Unit),out=Sum.inr ()->∀(T:TT) (ss:Sto),T 0=.str a0->Fx tt ss [] []->Q (.ex 0) ⟨T,ss⟩)->(∀r,out=Sum.inl r->∀s',IP K0 [.tmp 2] (fun r' ss'=>r'=.bool r/\ss'=tt) s'->Q .ret s')->∀(T:TT) (ss:Sto),T 0=.str a0/\T 3=i6 Yo->Fx tt ss [] []->aLp K0 c Q ⟨T,ss⟩:=by
 intro a0 Yo;revert Yo;refine Y1.partial_correctness a0 _ ?_;intro Y1 IH Yo out H c hc Q tt  hE hR T ss tT hF;refine lpx tt hc rfl fun q hX=>go ?_;obtain ⟨x17,g3,H⟩:=bnd H;refine Yc 2 15 17 (.bool x17) (gi q (fun q=>?_) (fun q=>?_)) (fun J=>?_)
 ·refine go ?_;exact Yt 15 g3
 ·refine go ?_;exact Yt 15 g3
 refine go ?_;refine cdb H (fun h H=>?_) (fun h H=>?_)
 ·obtain ⟨x22,f1,H⟩:=bsx H;refine go1 ?_;obtain ⟨x25,hx25,H⟩:=bnd H;refine cl (Fb x22 (decide (Yo=0)) _ hx25) ?_;refine go ?_;refine cdb H (fun h H=>?_) (fun h H=>?_)
  ·refine go ?_;exact wq (hR _ (pur H).symm _ (rt _))
  ·refine go ?_;exact IH  (i64.wrap (Yo+1)) _ H _ rfl Q tt  hE hR _ _  S hF
 ·refine go ?_;exact wq (hE () (pur H).symm _ _  S hF)
theorem Iq:∀(a0:ByteArray) r,Wm a0=some r->Vb K0 94 [.str a0] (.bool r):=by
 intro a0 r H;intro ss;unfold Wm at H;refine hdh mixed Tryz.func94 (rs:=[.tmp 2]) fun q tT hF hX=>?_;refine go ?_;obtain ⟨x9,g1,H⟩:=bnd H;refine Yc 2 7 9 (.bool x9) (giN q (fun q=>?_) (fun q=>?_)) (fun J=>?_)
 ·refine go ?_;exact Yt 7 g1
 ·refine go ?_;exact Yt 7 g1
 refine go ?_;refine cdb H (fun h H=>?_) (fun h H=>?_)
 ·refine go ?_;have e:=pur H;subst e;exact rt _
 ·refine go ?_;obtain ⟨o5,ho5,H⟩:=bnd H;refine Cx a0 0 _ ho5 _ rfl _ _  ?_ ?_ _ _  S hF
  ·intro _ he T7 s8 tT hF;have he:=he.symm;subst he
   try dsimp only at H
   refine go ?_;obtain ⟨x34,g10,H⟩:=bnd H;refine Yc 3 31 34 (.bool x34) (gi q (fun q=>?_) (fun q=>?_)) (fun J=>?_)
   ·refine go ?_;exact Yt 31 g10
   ·refine go ?_;exact Yt 31 g10
   refine go ?_;have e:=pur H;subst e;exact rt _
  ·intro r hr s' hs;subst hr;have e:=pur H;subst e;exact hsq hs
theorem Dd:∀(a0:List Int) (Yo:Int) out,Y6 a0 Yo=some out->∀c,Yh Tryz.f95 0=some c->∀(Q:QT) (tt:Sto),(∀(_u:Unit),out=Sum.inr ()->∀(T:TT) (ss:Sto),T 0=sf cI a0->Fx tt ss [] []->Q (.ex 0) ⟨T,ss⟩)->(∀r,out=Sum.inl r->∀s',IP K0 [.tmp 2] (fun r' ss'=>r'=.bool r/\ss'=tt) s'->Q .ret s')->∀(T:TT) (ss:Sto),T 0=sf cI a0/\T 3=i6 Yo->Fx tt ss [] []->aLp K0 c Q ⟨T,ss⟩:=by
 intro a0 Yo;revert Yo;refine Y6.partial_correctness a0 _ ?_;intro Y6 IH Yo out H c hc Q tt  hE hR T ss tT hF;refine lpx tt hc rfl fun q hX=>go ?_;obtain ⟨x11,g1,H⟩:=bnd H;refine Yc 2 9 11 (.bool x11) (gi q (fun q=>?_) (fun q=>?_)) (fun J=>?_)
 ·refine go ?_;exact Yt 9 g1
 ·refine go ?_;exact Yt 9 g1
 refine go ?_;refine cdb H (fun h H=>?_) (fun h H=>?_)
 ·refine go ?_;refine Yg E0 [.v,.v,.v,.v,.v,.v,.v,.v,.v,.v,.v,.v,.v,.v,.v,.v,.v,.v,.v,.v,.v,.v,.v,.v,.v,.v,.v,.v] (by kernel_rfl) ?_;obtain ⟨x16,f1,H⟩:=bil (g:=cI) (fun _=>rfl) H;refine go1 ?_;obtain ⟨x25,g3,H⟩:=bnd H;refine W6 5 20 25 (.bool x25) (tiN q (fun q=>?_) (fun q=>?_)) (fun J=>?_)
  ·rw [if_neg (df q)] at g3;obtain ⟨x22,f1,g3⟩:=bil (g:=cI) (fun _=>rfl) g3;refine go1 ?_;refine go ?_;exact Yt 20 g3
  ·rw [if_pos (dt q)] at g3;refine go ?_;exact Yt 20 g3
  refine go ?_;obtain ⟨x41,g5,H⟩:=bnd H;refine W6 14 27 41 (.bool x41) (tiN q (fun q=>?_) (fun q=>?_)) (fun J=>?_)
  ·rw [if_neg (dbf q)] at g5;refine go ?_;obtain ⟨x40,g7,g5⟩:=bnd g5;refine W6 10 30 40 (.bool x40) (ti q (fun q=>?_) (fun q=>?_)) (fun J=>?_)
   ·rw [if_pos (dt q)] at g7;obtain ⟨x32,f1,g7⟩:=bil (g:=cI) (fun _=>rfl) g7;obtain ⟨x37,f2,g7⟩:=bil (g:=cI) (fun _=>rfl) g7;refine go2 ?_;refine go ?_;exact Yt 30 g7
   ·rw [if_neg (df q)] at g7;refine go ?_;exact Yt 30 g7
   refine go ?_;exact Yt 27 g5
  ·rw [if_pos (dbt q)] at g5;refine go ?_;exact Yt 27 g5
  refine go ?_;refine cdb H (fun h H=>?_) (fun h H=>?_)
  ·refine go ?_;exact wq (hR _ (pur H).symm _ (rt _))
  ·refine go ?_;exact IH  (i64.wrap (Yo+1)) _ H _ rfl Q tt  hE hR _ _  S hF
 ·refine go ?_;exact wq (hE () (pur H).symm _ _  S hF)
theorem By:∀(a0:List Int) r,JG a0=some r->Vb K0 95 [sf cI a0] (.bool r):=by
 intro a0 r H;intro ss;unfold JG at H;refine hdh mixed Tryz.func95 (rs:=[.tmp 2]) fun q tT hF hX=>?_;refine go ?_;obtain ⟨o9,ho9,H⟩:=bnd H;refine Dd a0 0 _ ho9 _ rfl _ _  ?_ ?_ _ _  S hF
 ·intro _ he T11 s12 tT hF;have he:=he.symm;subst he
  try dsimp only at H
  refine go ?_;have e:=pur H;subst e;exact rt _
 ·intro r hr s' hs;subst hr;have e:=pur H;subst e;exact hsq hs
theorem OS:∀(a0:Fm) (a1:Int) r,GJ a0 a1=some r->Vb K0 69 [.agg (KZ a0),i6 a1] (.bool r):=by
 refine GJ.partial_correctness _ (motive_2:=fun a0 a1 Yi out=>∀c,Yh Tryz.f69 0=some c->∀(Q:QT) (tt:Sto) (b1:Nat),(∀(_u:Unit),out=Sum.inr ()->∀(T:TT) (ss:Sto),0+0=0->Fx tt ss [(b1,⟨34,5,[i6 a0.kind,.str a0.name,i6 a0.num,sf cI a0.sc,sf KZ a0.kids]⟩)] []->Q (.ex 1) ⟨T,ss⟩)->(∀r,out=Sum.inl r->∀s',IP K0 [.tmp 4] (fun r' ss'=>r'=.bool r/\ss'=tt) s'->Q .ret s')->∀(T:TT) (ss:Sto),T 1=i6 a1/\T 2=.ptr b1 0/\T 5=i6 Yi->Fx tt ss [(b1,⟨34,5,[i6 a0.kind,.str a0.name,i6 a0.num,sf cI a0.sc,sf KZ a0.kids]⟩)] []->aLp K0 c Q ⟨T,ss⟩) ?_ ?_
 ·intro Jc L0 a0 a1 r H;intro ss;refine hdh mixed Tryz.func69 (rs:=[.tmp 4]) fun q tT hF hX=>?_;refine go ?_;refine X9 hF rfl fun b1 ss2 hF=>?_;refine go ?_;refine cdp H (fun h H=>?_) (fun h H=>?_)
  ·refine go ?_;have e:=pur H;subst e;exact rt _
  ·refine go ?_;refine cdp H (fun h H=>?_) (fun h H=>?_)
   ·refine go ?_;refine bp H (Iq a0.name) fun x14 h H=>cl h ?_;refine go ?_;obtain ⟨x19,g3,H⟩:=bnd H;refine Yc 3 16 19 (.bool x19) (gi q (fun q=>?_) (fun q=>?_)) (fun J=>?_)
    ·refine go ?_;exact Yt 16 g3
    ·refine go ?_;exact Yt 16 g3
    refine go ?_;obtain ⟨x24,g5,H⟩:=bnd H;refine Yc 3 21 24 (.bool x24) (gi q (fun q=>?_) (fun q=>?_)) (fun J=>?_)
    ·rw [if_pos (dbt q)] at g5;refine go ?_;obtain ⟨x23,hx23,g5⟩:=bnd g5;refine cl (By a0.sc _ hx23) ?_;refine go ?_;exact Yt 21 g5
    ·rw [if_neg (dbf q)] at g5;refine go ?_;exact Yt 21 g5
    refine go ?_;obtain ⟨x30,g7,H⟩:=bnd H;refine Yc 4 26 30 (.bool x30) (gi q (fun q=>?_) (fun q=>?_)) (fun J=>?_)
    ·refine go ?_;exact Yt 26 g7
    ·refine go ?_;exact Yt 26 g7
    refine go ?_;have e:=pur H;subst e;exact rt _
   ·refine go ?_;refine cdp H (fun h H=>?_) (fun h H=>?_)
    ·refine go ?_;obtain ⟨x40,g9,H⟩:=bnd H;refine Yc 3 37 40 (.bool x40) (gi q (fun q=>?_) (fun q=>?_)) (fun J=>?_)
     ·refine go ?_;exact Yt 37 g9
     ·refine go ?_;exact Yt 37 g9
     refine go ?_;obtain ⟨x45,g11,H⟩:=bnd H;refine Yc 3 42 45 (.bool x45) (gi q (fun q=>?_) (fun q=>?_)) (fun J=>?_)
     ·refine go ?_;exact Yt 42 g11
     ·refine go ?_;exact Yt 42 g11
     refine go ?_;obtain ⟨x51,g13,H⟩:=bnd H;refine Yc 4 47 51 (.bool x51) (gi q (fun q=>?_) (fun q=>?_)) (fun J=>?_)
     ·refine go ?_;exact Yt 47 g13
     ·refine go ?_;exact Yt 47 g13
     refine go ?_;obtain ⟨x57,g15,H⟩:=bnd H;refine Yc 4 53 57 (.bool x57) (gi q (fun q=>?_) (fun q=>?_)) (fun J=>?_)
     ·refine go ?_;exact Yt 53 g15
     ·refine go ?_;exact Yt 53 g15
     refine go ?_;have e:=pur H;subst e;exact rt _
    ·refine go ?_;obtain ⟨x65,g17,H⟩:=bnd H;refine Yc 3 62 65 (.bool x65) (giN q (fun q=>?_) (fun q=>?_)) (fun J=>?_)
     ·refine go ?_;exact Yt 62 g17
     ·refine go ?_;exact Yt 62 g17
     refine go ?_;obtain ⟨x70,g19,H⟩:=bnd H;refine Yc 3 67 70 (.bool x70) (giN q (fun q=>?_) (fun q=>?_)) (fun J=>?_)
     ·refine go ?_;exact Yt 67 g19
     ·refine go ?_;exact Yt 67 g19
     refine go ?_;obtain ⟨x76,g21,H⟩:=bnd H;refine Yc 4 72 76 (.bool x76) (giN q (fun q=>?_) (fun q=>?_)) (fun J=>?_)
     ·refine go ?_;exact Yt 72 g21
     ·refine go ?_;exact Yt 72 g21
     refine go ?_;refine cdb H (fun h H=>?_) (fun h H=>?_)
     ·refine go ?_;have e:=pur H;subst e;exact rt _
     ·refine go ?_;obtain ⟨o23,ho23,H⟩:=bnd H;refine L0 a0 a1 0 _ ho23 _ rfl _ _ b1 ?_ ?_ _ _  S hF
      ·intro _ he T25 s26 tT hF;have he:=he.symm;subst he
       try dsimp only at H
       refine go ?_;have e:=pur H;subst e;exact rt _
      ·intro r hr s' hs;subst hr;have e:=pur H;subst e;exact hsq hs
 ·intro GJ Jc C0 L0 a0 a1 Yi out H c hc Q tt b1 hE hR T ss tT hF;refine lpx tt hc rfl fun q hX=>go ?_;refine cdp H (fun h H=>?_) (fun h H=>?_)
  ·obtain ⟨x87,f1,H⟩:=bil (g:=KZ) Fm.X6 H;refine go1 ?_;obtain ⟨x91,hx91,H⟩:=bnd H;refine cl (C0 x87 (i64.wrap (a1 - 1)) _ hx91) ?_;refine go ?_;refine cdb H (fun h H=>?_) (fun h H=>?_)
   ·refine go ?_;exact wq (hR _ (pur H).symm _ (rt _))
   ·refine go ?_;exact L0 a0 a1 (i64.wrap (Yi+1)) _ H _ rfl Q tt b1 hE hR _ _  S hF
  ·refine go ?_;exact wq (hE () (pur H).symm _ _  S hF)
theorem B5:∀(a0:Fm) r,Jb a0=some r->Vb K0 70 [.agg (KZ a0)] (i6 r):=by
 refine Jb.partial_correctness _ (motive_2:=fun a0 Yo Yx out=>∀c,Yh Tryz.f70 0=some c->∀(Q:QT) (tt:Sto) (b1:Nat),(∀(A6:Int),out=A6->∀(T:TT) (ss:Sto),T 3=i6 A6->Fx tt ss [(b1,⟨34,5,[i6 a0.kind,.str a0.name,i6 a0.num,sf cI a0.sc,sf KZ a0.kids]⟩)] []->Q (.ex 0) ⟨T,ss⟩)->True->∀(T:TT) (ss:Sto),T 1=.ptr b1 0/\T 3=i6 Yo/\T 4=i6 Yx->Fx tt ss [(b1,⟨34,5,[i6 a0.kind,.str a0.name,i6 a0.num,sf cI a0.sc,sf KZ a0.kids]⟩)] []->aLp K0 c Q ⟨T,ss⟩) ?_ ?_
 ·intro VB L0 a0 r H;intro ss;refine hdh mixed Tryz.func70 (rs:=[.tmp 2]) fun q tT hF hX=>?_;refine go ?_;refine X9 hF rfl fun b1 ss2 hF=>?_;refine go ?_;obtain ⟨o3,ho3,H⟩:=bnd H;refine L0 a0 1 0 _ ho3 _ rfl _ _ b1 ?_ ?_ _ _  S hF
  ·intro PI he T5 ss6 tT hF;have he:=he.symm;subst he;refine go ?_;have e:=pur H;subst e;exact rt _
  ·trivial
 ·intro Jb VB C0 L0 a0 Yo Yx out H c hc Q tt b1 hE hR T ss tT hF;refine lpx tt hc rfl fun q hX=>go ?_;refine cdp H (fun h H=>?_) (fun h H=>?_)
  ·obtain ⟨x16,f1,H⟩:=bil (g:=KZ) Fm.X6 H;refine go1 ?_;refine bp H (C0 x16) fun x18 h H=>cl h ?_;refine go ?_;exact L0 a0 (i64.wrap (Yo+x18)) (i64.wrap (Yx+1)) _ H _ rfl Q tt b1 hE hR _ _  S hF
  ·refine go ?_;exact wq (hE _ (pur H).symm _ _  S hF)
theorem Yv:∀(a0:Fm) r,Ys a0=some r->Vb K0 44 [.agg (KZ a0)] (.bool r):=by
 intro a0 r H;intro ss;unfold Ys at H;refine hdh mixed Tryz.func44 (rs:=[.tmp 2]) fun q tT hF hX=>?_;refine go ?_;refine X9 hF rfl fun b1 ss2 hF=>?_;refine go ?_;refine bp H (OS a0 40) fun x4 h H=>cl h ?_;refine go ?_;obtain ⟨x9,g3,H⟩:=bnd H;refine Yc 3 6 9 (.bool x9) (gi q (fun q=>?_) (fun q=>?_)) (fun J=>?_)
 ·rw [if_pos (dbt q)] at g3;refine go ?_;obtain ⟨x7,hx7,g3⟩:=bnd g3;refine cl (B5 a0 _ hx7) ?_;refine go ?_;exact Yt 6 g3
 ·rw [if_neg (dbf q)] at g3;refine go ?_;exact Yt 6 g3
 refine go ?_;have e:=pur H;subst e;exact rt _
theorem Ea:∀(a0:ByteArray) r,HC a0=some r->Vb K0 111 [.str a0] (.tup [.agg (KZ r.1),.bool r.2]):=by
 intro a0 r H;intro ss;unfold HC at H;refine hdh mixed Tryz.func111 (rs:=[.cell 2 34,.tmp 3]) fun q tT hF hX=>?_;refine go ?_;refine X9 hF rfl fun b1 ss2 hF=>?_;refine go ?_;refine bp H (Ml a0 0 40) fun x8 h H=>cl h ?_;refine go ?_;refine X9 hF rfl fun b3 ss4 hF=>?_;refine go ?_;refine st hF 0 rfl fun ss5 hF=>?_;refine go ?_;obtain ⟨x20,g6,H⟩:=bnd H;refine Yc 6 14 20 (.bool x20) (giN q (fun q=>?_) (fun q=>?_)) (fun J=>?_)
 ·rw [if_neg (df q)] at g6;refine go ?_;obtain ⟨x16,hx16,g6⟩:=bnd g6;refine cl (IB a0 x8.2 _ hx16) ?_;refine go ?_;exact Yt 14 g6
 ·rw [if_pos (dt q)] at g6;refine go ?_;exact Yt 14 g6
 refine go ?_;obtain ⟨x25,g8,H⟩:=bnd H;refine Yc 3 22 25 (.bool x25) (giN q (fun q=>?_) (fun q=>?_)) (fun J=>?_)
 ·rw [if_neg (dbf q)] at g8;refine go ?_;obtain ⟨x23,hx23,g8⟩:=bnd g8;refine cl (Yv x8.1 _ hx23) ?_;refine go ?_;exact Yt 22 g8
 ·rw [if_pos (dbt q)] at g8;refine go ?_;exact Yt 22 g8
 refine go ?_;refine cdb H (fun h H=>?_) (fun h H=>?_)
 ·refine go ?_;refine st hF 1 rfl fun s10 hF=>?_;refine go ?_;have e:=pur H;subst e;exact rt _
 ·refine go ?_;refine st hF 1 rfl fun s11 hF=>?_;refine go ?_;have e:=pur H;subst e;exact rt _
theorem Ad:∀(a0:ByteArray) r,G5 a0=some r->Vb K0 87 [.str a0] (.agg (KZ r)):=by
 intro a0 r H;intro ss;unfold G5 at H;refine hdh mixed Tryz.func87 (rs:=[.cell 2 34]) fun q tT hF hX=>?_;refine go ?_;refine X9 hF rfl fun b1 ss2 hF=>?_;refine go ?_;refine bp H (Ea a0) fun x7 h H=>cl h ?_;refine go ?_;refine X9 hF rfl fun b3 ss4 hF=>?_;refine go ?_;refine st hF 0 rfl fun ss5 hF=>?_;refine go ?_;refine st hF 1 rfl fun ss6 hF=>?_;refine go ?_;have e:=pur H;subst e;exact rt _
theorem LH:∀  r,AJ  = some r->Vb K0 96 [] (sf cS r):=by
 intro  r H;intro ss;unfold AJ at H;refine hdh mixed Tryz.func96 (rs:=[.tmp 0]) fun q tT hF hX=>?_;refine goL ?_;have e:=pur H;subst e;exact rt _
theorem YN:∀(a1:List Int) (c0:Rdr) r,YA a1 c0=some r->∀(e0:Nat)  (ss:Sto),Pre ss [(e0,⟨81,2,[sf cU c0.b,i6 c0.p]⟩)] []->Ctr K0 42 [.ptr e0 0,sf cI a1] ss (fun r' ss'=>∃(tt':Sto),r'=i6 r.1/\Tau (strip ss []) [(e0,⟨81,2,[sf cU r.2.b,i6 r.2.p]⟩)] tt'/\Fx tt' ss' [] []):=by
 intro a1 c0 r H;intro e0  ss hP;unfold YA at H;refine hdg mixed Tryz.func42 (rs:=[.tmp 4]) fun q tT=>?_;obtain ⟨hF,hX⟩:=hP.start;generalize strip ss []=tt0 at hF hX ⊢;refine go ?_;obtain ⟨x9,hx9,H⟩:=bnd H;refine cx (Yr (a1.length:Int) c0 _ hx9 e0  _ (pre 0 1 0 hF hX)) ?_;rintro _ ss1 ⟨tt2,rfl,hT,hG⟩;obtain ⟨tt3,hX,hF⟩:=aft 0 1 0 hF hX hT hG;obtain ⟨x10,f1,H⟩:=bil (g:=cI) (fun _=>rfl) H;refine go1 ?_;refine go ?_;have e:=pur H;subst e;exact rg _ ⟨_,rfl,hX,K4 _⟩
theorem Vi:∀(a0:ByteArray) r,Vf a0=some r->Vb K0 25 [.str a0] (.agg (KZ r)):=by
 intro a0 r H;intro ss;unfold Vf at H;refine hdh mixed Tryz.func25 (rs:=[.cell 2 34]) fun q tT hF hX=>?_;refine go ?_;refine X9 hF rfl fun b1 ss2 hF=>?_;refine go ?_;refine st hF 0 rfl fun ss3 hF=>?_;refine go ?_;have e:=pur H;subst e;exact rt _
theorem GI:∀(a1:List ByteArray) (c0:Rdr) r,V2 a1 c0=some r->∀(e0:Nat)  (ss:Sto),Pre ss [(e0,⟨81,2,[sf cU c0.b,i6 c0.p]⟩)] []->Ctr K0 26 [.ptr e0 0,sf cS a1] ss (fun r' ss'=>∃(tt':Sto),r'=.str r.1/\Tau (strip ss []) [(e0,⟨81,2,[sf cU r.2.b,i6 r.2.p]⟩)] tt'/\Fx tt' ss' [] []):=by
 intro a1 c0 r H;intro e0  ss hP;unfold V2 at H;refine hdg mixed Tryz.func26 (rs:=[.tmp 4]) fun q tT=>?_;obtain ⟨hF,hX⟩:=hP.start;generalize strip ss []=tt0 at hF hX ⊢;refine go ?_;obtain ⟨x9,hx9,H⟩:=bnd H;refine cx (Yr (a1.length:Int) c0 _ hx9 e0  _ (pre 0 1 0 hF hX)) ?_;rintro _ ss1 ⟨tt2,rfl,hT,hG⟩;obtain ⟨tt3,hX,hF⟩:=aft 0 1 0 hF hX hT hG;obtain ⟨x10,f1,H⟩:=bil (g:=cS) (fun _=>rfl) H;refine go1 ?_;refine go ?_;have e:=pur H;subst e;exact rg _ ⟨_,rfl,hX,K4 _⟩
theorem VC:∀(a0:List Fm) r,V3 a0=some r->Vb K0 98 [sf KZ a0] (.agg (KZ r)):=by
 intro a0 r H;intro ss;unfold V3 at H;refine hdh mixed Tryz.func98 (rs:=[.cell 2 34]) fun q tT hF hX=>?_;refine go ?_;refine X9 hF rfl fun b1 ss2 hF=>?_;refine go ?_;refine st hF 0 rfl fun ss3 hF=>?_;refine go ?_;have e:=pur H;subst e;exact rt _
theorem Mn:∀(a1:Int) (c0:Rdr) r,Gq a1 c0=some r->∀(e0:Nat)  (ss:Sto),Pre ss [(e0,⟨81,2,[sf cU c0.b,i6 c0.p]⟩)] []->Ctr K0 121 [.ptr e0 0,i6 a1] ss (fun r' ss'=>∃(tt':Sto),r'=.agg (KZ r.1)/\Tau (strip ss []) [(e0,⟨81,2,[sf cU r.2.b,i6 r.2.p]⟩)] tt'/\Fx tt' ss' [] []):=by
 refine Gq.partial_correctness _ (motive_2:=fun a1 X8 Yy Iy EL out=>∀c,Yh Tryz.f121 0=some c->∀(Q:QT) (tt0:Sto) (e0 b1 b22:Nat),(∀(YO:List Fm) (F8:List Int) (U3:Int),out=(YO,F8,U3)->∀(T:TT) (ss tt:Sto) (e0v0:AV),T 4=.ptr b1 0/\T 5=.ptr b22 0->Tau tt0 [(e0,⟨81,2,[sf cU F8,i6 U3]⟩)] tt->Fx tt ss [(b22,⟨34,5,[i6 3,.str zB,i6 0,.Yb,e0v0]⟩),(b1,⟨34,5,[i6 0,.str zB,i6 0,.Yb,.Yb]⟩)] [⟨e0v0,34,5,rws KZ YO⟩]->Q (.ex 0) ⟨T,ss⟩)->True->∀(T:TT) (ss tt:Sto) (z0v0:AV),T 0=.ptr e0 0/\T 1=i6 a1/\T 4=.ptr b1 0/\T 5=.ptr b22 0/\T 6=i6 Yy->Tau tt0 [(e0,⟨81,2,[sf cU Iy,i6 EL]⟩)] tt->Fx tt ss [(b22,⟨34,5,[i6 3,.str zB,i6 0,.Yb,z0v0]⟩),(b1,⟨34,5,[i6 0,.str zB,i6 0,.Yb,.Yb]⟩)] [⟨z0v0,34,5,rws KZ X8⟩]->aLp K0 c Q ⟨T,ss⟩) ?_ ?_
 ·intro JV L0 a1 c0 r H;intro e0  ss hP;refine hdg mixed Tryz.func121 (rs:=[.cell 4 34]) fun q tT=>?_;obtain ⟨hF,hX⟩:=hP.start;generalize strip ss []=tt0 at hF hX ⊢;refine go ?_;refine X9 hF rfl fun b1 ss2 hF=>?_;refine go ?_;refine giN q (fun q=>?_) (fun q=>?_)
  ·rw [if_neg (df q)] at H;refine go ?_;obtain ⟨TB,hx11_1,H⟩:=bnd H;refine cx (Yr 3 c0 _ hx11_1 e0  _ (pre 0 1 0 hF hX)) ?_;rintro _ s8 ⟨tt9,rfl,hT,hG⟩;obtain ⟨t10,hX,hF⟩:=aft 0 1 0 hF hX hT hG;refine go ?_;refine cdp H (fun h H=>?_) (fun h H=>?_)
   ·refine go ?_;obtain ⟨x15,hx15,H⟩:=bnd H;refine cx (Yr 4 TB.2 _ hx15 e0  _ (pre 0 1 0 hF hX)) ?_;rintro _ s11 ⟨t12,rfl,hT,hG⟩;obtain ⟨t13,hX,hF⟩:=aft 0 1 0 hF hX hT hG;refine go ?_;refine cdp H (fun h H=>?_) (fun h H=>?_)
    ·refine go ?_;obtain ⟨x19,hx19,H⟩:=bnd H;refine cx (YN [0,1,2,7,42,999] x15.2 _ hx19 e0  _ (pre 0 1 0 hF hX)) ?_;rintro _ s14 ⟨t15,rfl,hT,hG⟩;obtain ⟨t16,hX,hF⟩:=aft 0 1 0 hF hX hT hG;refine go ?_;refine st hF 0 rfl fun s17 hF=>?_;refine go ?_;have e:=pur H;subst e;exact rg _ ⟨_,rfl,hX,K4 _⟩
    ·refine go ?_;obtain ⟨x23,hx23,H⟩:=bnd H;refine cx (GI [(Ql #[97]),(Ql #[98]),(Ql #[120]),(Ql #[121]),(Ql #[102]),(Ql #[105,102]),(Ql #[108,101,116]),(Ql #[43])] x15.2 _ hx23 e0  _ (pre 0 1 0 hF hX)) ?_;rintro _ s18 ⟨t19,rfl,hT,hG⟩;obtain ⟨tt20,hX,hF⟩:=aft 0 1 0 hF hX hT hG;refine go ?_;refine bp H (Vi x23.1) fun x24 h H=>cl h ?_;refine go ?_;refine st hF 0 rfl fun s21 hF=>?_;refine go ?_;have e:=pur H;subst e;exact rg _ ⟨_,rfl,hX,K4 _⟩
   ·refine go ?_;refine X9 hF rfl fun b22 s23 hF=>?_;refine go ?_;refine st hF 0 rfl fun s24 hF=>?_;refine go ?_;obtain ⟨x27,hx27,H⟩:=bnd H;refine cx (Yr 4 TB.2 _ hx27 e0  _ (pre 0 1 0 hF hX)) ?_;rintro _ s25 ⟨t26,rfl,hT,hG⟩;obtain ⟨t27,hX,hF⟩:=aft 0 1 0 hF hX hT hG;have hF:=hF.nil 34 5;refine go ?_;obtain ⟨o37,ho37,H⟩:=bnd H;refine L0 a1 [] x27.1 x27.2.b x27.2.p _ ho37 _ rfl _ tt0 e0 b1 b22 ?_ ?_ _ _ _ .Yb S hX hF
    ·intro CD RJ RK he T39 s40 t41 e38v0 tT hX hF;have he:=he.symm;subst he
     try dsimp only at H
     refine go ?_;refine st hF 1 rfl fun s42 hF=>?_;refine go ?_;have e:=pur H;subst e;exact rg _ ⟨_,rfl,hX,K4 _⟩
    ·trivial
  ·rw [if_pos (dt q)] at H;refine go ?_;obtain ⟨EJ,hx15_1,H⟩:=bnd H;refine cx (Yr 4 c0 _ hx15_1 e0  _ (pre 0 1 0 hF hX)) ?_;rintro _ s43 ⟨t44,rfl,hT,hG⟩;obtain ⟨t45,hX,hF⟩:=aft 0 1 0 hF hX hT hG;refine go ?_;refine cdp H (fun h H=>?_) (fun h H=>?_)
   ·refine go ?_;obtain ⟨Qen,hx19_1,H⟩:=bnd H;refine cx (YN [0,1,2,7,42,999] EJ.2 _ hx19_1 e0  _ (pre 0 1 0 hF hX)) ?_;rintro _ s46 ⟨t47,rfl,hT,hG⟩;obtain ⟨t48,hX,hF⟩:=aft 0 1 0 hF hX hT hG;refine go ?_;refine st hF 0 rfl fun s49 hF=>?_;refine go ?_;have e:=pur H;subst e;exact rg _ ⟨_,rfl,hX,K4 _⟩
   ·refine go ?_;obtain ⟨Qep,hx23_1,H⟩:=bnd H;refine cx (GI [(Ql #[97]),(Ql #[98]),(Ql #[120]),(Ql #[121]),(Ql #[102]),(Ql #[105,102]),(Ql #[108,101,116]),(Ql #[43])] EJ.2 _ hx23_1 e0  _ (pre 0 1 0 hF hX)) ?_;rintro _ s50 ⟨tt51,rfl,hT,hG⟩;obtain ⟨t52,hX,hF⟩:=aft 0 1 0 hF hX hT hG;refine go ?_;obtain ⟨Rp,hx24_1,H⟩:=bnd H;refine cl (Vi Qep.1 _ hx24_1) ?_;refine go ?_;refine st hF 0 rfl fun s53 hF=>?_;refine go ?_;have e:=pur H;subst e;exact rg _ ⟨_,rfl,hX,K4 _⟩
 ·intro Gq JV C0 L0 a1 X8 Yy Iy EL out H c hc Q tt0 e0 b1 b22 hE hR T ss tt z0v0 tT hX hF;refine lpy hc rfl fun q=>go ?_;refine cdp H (fun h H=>?_) (fun h H=>?_)
  ·refine go ?_;obtain ⟨E,hEq⟩:∃E,E=EE ss [e0]:=⟨_,rfl⟩
   have n28:¬E b22:=by rw [hEq];exact K6 (hF.at 0 rfl) (nm1 (neX hF 0 rfl hX 0 rfl))
   have n29:¬E b1:=by rw [hEq];exact K6 (hF.at 1 rfl) (nm1 (neX hF 1 rfl hX 0 rfl))
   refine Yg E [.v,.v,.v,.v,.v,.x,.v,.x,.v,.z] (by kernel_rfl) ?_;have z:=K3 (X5 (hF.at 0 rfl) n28) (X5 (hF.at 1 rfl) n29);refine gh ?_;obtain ⟨x37,hx37,H⟩:=bnd H;refine cx (C0 (i64.wrap (a1 - 1)) (Rdr.mk Iy EL) _ hx37 e0  _ (pre 0 1 0 hF hX)) ?_;rintro _ s30 ⟨tt31,rfl,hT,hG⟩
   refine V0 (Zb hT hG (by intro p hp;simp only [Kk,KE,or_false] at hp<;>first | (rcases hp with rfl<;>(rw [hEq];first | (refine Zf ?_;simp;done) | exact Zs rfl))| cases hp)) fun kp33=>?_
   obtain ⟨t32,hX,hF⟩:=aft 0 1 0 hF hX hT hG;have z:=K3 (X5 (hF.at 0 rfl) n28) (X5 (hF.at 1 rfl) n29);refine gh ?_;refine Pr (g:=KZ) hF 0 H (rdo (c:=true) (g:=KZ) Fm.X6) fun x39 H v34 s35 hF=>?_;have z:=K3 (X5 (hF.at 0 rfl) n28) (X5 (hF.at 1 rfl) n29);refine gh ?_;refine st hF 0 (hF.cells 0 rfl) fun s36 hF=>?_;have z:=K3 (X5 (hF.at 0 rfl) n28) (X5 (hF.at 1 rfl) n29);refine gh ?_;refine go ?_;exact L0 a1 x39 (i64.wrap (Yy - 1)) x37.2.b x37.2.p _ H _ rfl Q tt0 e0 b1 b22 hE hR _ _ _ v34 S hX hF
  ·refine go ?_;exact wq (hE _ _ _ (pur H).symm _ _ _ z0v0 S hX hF)
theorem MG:∀(a1:List ByteArray) (a2:Int) (c0:Rdr) r,Vh a1 a2 c0=some r->∀(e0:Nat)  (ss:Sto),Pre ss [(e0,⟨81,2,[sf cU c0.b,i6 c0.p]⟩)] []->Ctr K0 97 [.ptr e0 0,sf cS a1,i6 a2] ss (fun r' ss'=>∃(tt':Sto),r'=.agg (KZ r.1)/\Tau (strip ss []) [(e0,⟨81,2,[sf cU r.2.b,i6 r.2.p]⟩)] tt'/\Fx tt' ss' [] []):=by
 refine Vh.partial_correctness  (motive:=fun a1 a2 c0 r=>∀(e0:Nat)  (ss:Sto),Pre ss [(e0,⟨81,2,[sf cU c0.b,i6 c0.p]⟩)] []->Ctr K0 97 [.ptr e0 0,sf cS a1,i6 a2] ss (fun r' ss'=>∃(tt':Sto),r'=.agg (KZ r.1)/\Tau (strip ss []) [(e0,⟨81,2,[sf cU r.2.b,i6 r.2.p]⟩)] tt'/\Fx tt' ss' [] [])) ?_
 ·intro Vh C0 a1 a2 c0 r H;intro e0  ss hP;refine hdg mixed Tryz.func97 (rs:=[.cell 6 34]) fun q tT=>?_;obtain ⟨hF,hX⟩:=hP.start;generalize strip ss []=tt0 at hF hX ⊢;refine go ?_;refine X9 hF rfl fun b1 ss2 hF=>?_;refine go ?_;refine giN q (fun q=>?_) (fun q=>?_)
  ·rw [if_neg (df q)] at H;refine go ?_;obtain ⟨TC,hx14_1,H⟩:=bnd H;refine cx (Yr 5 c0 _ hx14_1 e0  _ (pre 0 1 0 hF hX)) ?_;rintro _ s8 ⟨tt9,rfl,hT,hG⟩;obtain ⟨t10,hX,hF⟩:=aft 0 1 0 hF hX hT hG;refine go ?_;refine cdp H (fun h H=>?_) (fun h H=>?_)
   ·refine go ?_;obtain ⟨x18,hx18,H⟩:=bnd H;refine cx (Yr 3 TC.2 _ hx18 e0  _ (pre 0 1 0 hF hX)) ?_;rintro _ s11 ⟨t12,rfl,hT,hG⟩;obtain ⟨t13,hX,hF⟩:=aft 0 1 0 hF hX hT hG;refine go ?_;refine cdp H (fun h H=>?_) (fun h H=>?_)
    ·refine go ?_;obtain ⟨x22,hx22,H⟩:=bnd H;refine cx (YN [0,1,2,7] x18.2 _ hx22 e0  _ (pre 0 1 0 hF hX)) ?_;rintro _ s14 ⟨t15,rfl,hT,hG⟩;obtain ⟨t16,hX,hF⟩:=aft 0 1 0 hF hX hT hG;refine go ?_;refine st hF 0 rfl fun s17 hF=>?_;refine go ?_;have e:=pur H;subst e;exact rg _ ⟨_,rfl,hX,K4 _⟩
    ·refine go ?_;obtain ⟨x28,hx28,H⟩:=bnd H;refine cx (Yr (a1.length:Int) x18.2 _ hx28 e0  _ (pre 0 1 0 hF hX)) ?_;rintro _ s18 ⟨t19,rfl,hT,hG⟩;obtain ⟨tt20,hX,hF⟩:=aft 0 1 0 hF hX hT hG;obtain ⟨x29,f1,H⟩:=bil (g:=cS) (fun _=>rfl) H;refine go1 ?_;refine bp H (Vi x29) fun x31 h H=>cl h ?_;refine go ?_;refine st hF 0 rfl fun s21 hF=>?_;refine go ?_;have e:=pur H;subst e;exact rg _ ⟨_,rfl,hX,K4 _⟩
   ·refine go ?_;obtain ⟨x34,hx34,H⟩:=bnd H;refine cx (GI [(Ql #[120]),(Ql #[121]),(Ql #[116])] TC.2 _ hx34 e0  _ (pre 0 1 0 hF hX)) ?_;rintro _ s22 ⟨t23,rfl,hT,hG⟩;obtain ⟨t24,hX,hF⟩:=aft 0 1 0 hF hX hT hG;refine go ?_;have hF:=hF.lit 9 1 (rws cS []) rfl;refine apd (g:=cS) hF 0 H (rdo (c:=false) (g:=cS) (fun _=>rfl)) fun x37 H v25 s26 hF=>?_;refine go ?_;refine apf (g:=cS) hF 0 H (rdo (c:=true) (g:=cS) (fun _=>rfl)) fun x40 H s28 hF=>?_;refine go ?_;obtain ⟨x42,hx42,H⟩:=bnd H;refine cx (Yr 8 x34.2 _ hx42 e0  _ (pre 0 1 0 hF hX)) ?_;rintro _ s29 ⟨t30,rfl,hT,hG⟩;obtain ⟨tt31,hX,hF⟩:=aft 0 1 0 hF hX hT hG;refine go ?_;obtain ⟨Rr,j33,H⟩:=bnd H;refine Vy (fun s'=>∃(T:TT) (ss1 tt1:Sto),s'=⟨T,ss1⟩/\(T 0=.ptr e0 0/\T 1=sf cS a1/\T 2=i6 a2/\T 6=.ptr b1 0/\T 7=.str x34.1/\T 8=sf cS x40/\T 42=i6 x42.1/\T 43=.bool Rr)/\Tau tt0 [(e0,⟨81,2,[sf cU x42.2.b,i6 x42.2.p]⟩)] tt1/\Fx tt1 ss1 [(b1,⟨34,5,[i6 0,.str zB,i6 0,.Yb,.Yb]⟩)] []) (cdp j33 (fun h j33=>?_) (fun h j33=>?_)) ?_
    ·refine go ?_;have e:=pur j33;subst e;exact ⟨_,_,_,rfl,S,hX,hF⟩
    ·refine go ?_;have e:=pur j33;subst e;exact ⟨_,_,_,rfl,S,hX,hF⟩
    ·rintro s' ⟨T34,s35,t36,rfl,tT,hX,hF⟩;refine go ?_;refine cdb H (fun h H=>?_) (fun h H=>?_)
     ·refine go ?_;refine bp H (Vi (Ql #[108,97,109,98,100,97])) fun x46 h H=>cl h ?_;refine go ?_;refine bp H (Vi x34.1) fun x48 h H=>cl h ?_;refine go ?_;refine bp H (VC [x48]) fun x50 h H=>cl h ?_;refine go ?_;obtain ⟨x55,hx55,H⟩:=bnd H;refine cx (C0 x40 (i64.wrap (a2 - 1)) x42.2 _ hx55 e0  _ (pre 0 1 0 hF hX)) ?_;rintro _ s37 ⟨t38,rfl,hT,hG⟩;obtain ⟨t39,hX,hF⟩:=aft 0 1 0 hF hX hT hG;refine go ?_;refine bp H (VC [x46,x50,x55.1]) fun x57 h H=>cl h ?_;refine go ?_;refine st hF 0 rfl fun s40 hF=>?_;refine go ?_;have e:=pur H;subst e;exact rg _ ⟨_,rfl,hX,K4 _⟩
     ·refine go ?_;obtain ⟨Rs,j42,H⟩:=bnd H;refine Vy (fun s'=>∃(T:TT) (ss1 tt1:Sto),s'=⟨T,ss1⟩/\(T 0=.ptr e0 0/\T 1=sf cS a1/\T 2=i6 a2/\T 6=.ptr b1 0/\T 7=.str x34.1/\T 8=sf cS x40/\T 42=i6 x42.1/\T 58=.bool Rs)/\Tau tt0 [(e0,⟨81,2,[sf cU x42.2.b,i6 x42.2.p]⟩)] tt1/\Fx tt1 ss1 [(b1,⟨34,5,[i6 0,.str zB,i6 0,.Yb,.Yb]⟩)] []) (cdp j42 (fun h j42=>?_) (fun h j42=>?_)) ?_
      ·refine go ?_;have e:=pur j42;subst e;exact ⟨_,_,_,rfl,S,hX,hF⟩
      ·refine go ?_;have e:=pur j42;subst e;exact ⟨_,_,_,rfl,S,hX,hF⟩
      ·rintro s' ⟨T43,s44,t45,rfl,tT,hX,hF⟩;refine go ?_;refine cdb H (fun h H=>?_) (fun h H=>?_)
       ·refine go ?_;refine bp H (Vi x34.1) fun x62 h H=>cl h ?_;refine go ?_;obtain ⟨x67,hx67,H⟩:=bnd H;refine cx (C0 a1 (i64.wrap (a2 - 1)) x42.2 _ hx67 e0  _ (pre 0 1 0 hF hX)) ?_;rintro _ s46 ⟨t47,rfl,hT,hG⟩;obtain ⟨t48,hX,hF⟩:=aft 0 1 0 hF hX hT hG;refine go ?_;refine bp H (VC [x62,x67.1]) fun x69 h H=>cl h ?_;refine go ?_;refine X9 hF rfl fun b49 s50 hF=>?_;refine go ?_;refine st hF 0 rfl fun s51 hF=>?_;refine go ?_;obtain ⟨E,hEq⟩:∃E,E=EE s51 [e0]:=⟨_,rfl⟩
        have n52:¬E b49:=by rw [hEq];exact K6 (hF.at 0 rfl) (nm1 (neX hF 0 rfl hX 0 rfl))
        have n53:¬E b1:=by rw [hEq];exact K6 (hF.at 1 rfl) (nm1 (neX hF 1 rfl hX 0 rfl))
        refine Yg E [.v,.v,.v,.v,.v,.v,.v,.v,.x,.v,.v,.z] (by kernel_rfl) ?_;have z:=K3 (X5 (hF.at 0 rfl) n52) (X5 (hF.at 1 rfl) n53);refine gh ?_;refine bp H (Vi (Ql #[108,101,116])) fun x70 h H=>cv h ?_;have z:=K3 (X5 (hF.at 0 rfl) n52) (X5 (hF.at 1 rfl) n53);refine gh ?_;refine bp H (VC [x69]) fun x73 h H=>cv h ?_;have z:=K3 (X5 (hF.at 0 rfl) n52) (X5 (hF.at 1 rfl) n53);refine gh ?_;obtain ⟨x78,hx78,H⟩:=bnd H;refine cx (C0 x40 (i64.wrap (a2 - 1)) x67.2 _ hx78 e0  _ (pre 0 1 0 hF hX)) ?_;rintro _ s54 ⟨t55,rfl,hT,hG⟩
        refine V0 (Zb hT hG (by intro p hp;simp only [Kk,KE,or_false] at hp<;>first | (rcases hp with rfl<;>(rw [hEq];first | (refine Zf ?_;simp;done) | exact Zs rfl))| cases hp)) fun kp57=>?_
        obtain ⟨t56,hX,hF⟩:=aft 0 1 0 hF hX hT hG;have z:=K3 (X5 (hF.at 0 rfl) n52) (X5 (hF.at 1 rfl) n53);refine gh ?_;refine bp H (VC [x70,x73,x78.1]) fun x80 h H=>cv h ?_;have z:=K3 (X5 (hF.at 0 rfl) n52) (X5 (hF.at 1 rfl) n53);refine gh ?_;refine st hF 1 rfl fun s58 hF=>?_;have z:=K3 (X5 (hF.at 0 rfl) n52) (X5 (hF.at 1 rfl) n53);refine gh ?_;refine go ?_;have e:=pur H;subst e;exact rg [.agg [i6 x80.kind,.str x80.name,i6 x80.num,sf cI x80.sc,sf KZ x80.kids]] ⟨_,rfl,hX,K4 _⟩
       ·refine go ?_;refine cdp H (fun h H=>?_) (fun h H=>?_)
        ·refine go ?_;refine bp H (Vi (Ql #[105,102])) fun x83 h H=>cl h ?_;refine go ?_;obtain ⟨x88,hx88,H⟩:=bnd H;refine cx (C0 a1 (i64.wrap (a2 - 1)) x42.2 _ hx88 e0  _ (pre 0 1 0 hF hX)) ?_;rintro _ s59 ⟨t60,rfl,hT,hG⟩;obtain ⟨t61,hX,hF⟩:=aft 0 1 0 hF hX hT hG;refine go ?_;obtain ⟨x93,hx93,H⟩:=bnd H;refine cx (C0 a1 (i64.wrap (a2 - 1)) x88.2 _ hx93 e0  _ (pre 0 1 0 hF hX)) ?_;rintro _ s62 ⟨t63,rfl,hT,hG⟩;obtain ⟨t64,hX,hF⟩:=aft 0 1 0 hF hX hT hG;refine go ?_;obtain ⟨x96,hx96,H⟩:=bnd H;refine cx (C0 a1 0 x93.2 _ hx96 e0  _ (pre 0 1 0 hF hX)) ?_;rintro _ s65 ⟨t66,rfl,hT,hG⟩;obtain ⟨t67,hX,hF⟩:=aft 0 1 0 hF hX hT hG;refine go ?_;refine bp H (VC [x83,x88.1,x93.1,x96.1]) fun x98 h H=>cl h ?_;refine go ?_;refine st hF 0 rfl fun s68 hF=>?_;refine go ?_;have e:=pur H;subst e;exact rg _ ⟨_,rfl,hX,K4 _⟩
        ·refine go ?_;refine cdp H (fun h H=>?_) (fun h H=>?_)
         ·refine go ?_;refine bp H (Vi (Ql #[113,117,111,116,101])) fun x101 h H=>cl h ?_;refine go ?_;obtain ⟨x103,hx103,H⟩:=bnd H;refine cx (Mn 1 x42.2 _ hx103 e0  _ (pre 0 1 0 hF hX)) ?_;rintro _ s69 ⟨tt70,rfl,hT,hG⟩;obtain ⟨t71,hX,hF⟩:=aft 0 1 0 hF hX hT hG;refine go ?_;refine bp H (VC [x101,x103.1]) fun x105 h H=>cl h ?_;refine go ?_;refine st hF 0 rfl fun s72 hF=>?_;refine go ?_;have e:=pur H;subst e;exact rg _ ⟨_,rfl,hX,K4 _⟩
         ·refine go ?_;obtain ⟨x110,hx110,H⟩:=bnd H;refine cx (C0 a1 (i64.wrap (a2 - 1)) x42.2 _ hx110 e0  _ (pre 0 1 0 hF hX)) ?_;rintro _ s73 ⟨t74,rfl,hT,hG⟩;obtain ⟨tt75,hX,hF⟩:=aft 0 1 0 hF hX hT hG;refine go ?_;obtain ⟨x115,hx115,H⟩:=bnd H;refine cx (C0 a1 (i64.wrap (a2 - 1)) x110.2 _ hx115 e0  _ (pre 0 1 0 hF hX)) ?_;rintro _ s76 ⟨t77,rfl,hT,hG⟩;obtain ⟨t78,hX,hF⟩:=aft 0 1 0 hF hX hT hG;refine go ?_;refine bp H (VC [x110.1,x115.1]) fun x117 h H=>cl h ?_;refine go ?_;refine st hF 0 rfl fun s79 hF=>?_;refine go ?_;have e:=pur H;subst e;exact rg _ ⟨_,rfl,hX,K4 _⟩
  ·rw [if_pos (dt q)] at H;refine go ?_;obtain ⟨TD,hx18_1,H⟩:=bnd H;refine cx (Yr 3 c0 _ hx18_1 e0  _ (pre 0 1 0 hF hX)) ?_;rintro _ s80 ⟨t81,rfl,hT,hG⟩;obtain ⟨t82,hX,hF⟩:=aft 0 1 0 hF hX hT hG;refine go ?_;refine cdp H (fun h H=>?_) (fun h H=>?_)
   ·refine go ?_;obtain ⟨Qeo,hx22_1,H⟩:=bnd H;refine cx (YN [0,1,2,7] TD.2 _ hx22_1 e0  _ (pre 0 1 0 hF hX)) ?_;rintro _ s83 ⟨t84,rfl,hT,hG⟩;obtain ⟨t85,hX,hF⟩:=aft 0 1 0 hF hX hT hG;refine go ?_;refine st hF 0 rfl fun s86 hF=>?_;refine go ?_;have e:=pur H;subst e;exact rg _ ⟨_,rfl,hX,K4 _⟩
   ·refine go ?_;obtain ⟨Qii,hx28_1,H⟩:=bnd H;refine cx (Yr (a1.length:Int) TD.2 _ hx28_1 e0  _ (pre 0 1 0 hF hX)) ?_;rintro _ s87 ⟨t88,rfl,hT,hG⟩;obtain ⟨t89,hX,hF⟩:=aft 0 1 0 hF hX hT hG;obtain ⟨Qij,f1,H⟩:=bil (g:=cS) (fun _=>rfl) H;refine go1 ?_;obtain ⟨Rq,hx31_1,H⟩:=bnd H;refine cl (Vi Qij _ hx31_1) ?_;refine go ?_;refine st hF 0 rfl fun s90 hF=>?_;refine go ?_;have e:=pur H;subst e;exact rg _ ⟨_,rfl,hX,K4 _⟩
theorem ME:∀(c0:Rdr) r,Ak c0=some r->∀(e0:Nat)  (ss:Sto),Pre ss [(e0,⟨81,2,[sf cU c0.b,i6 c0.p]⟩)] []->Ctr K0 72 [.ptr e0 0] ss (fun r' ss'=>∃(tt':Sto),r'=.agg (KZ r.1)/\Tau (strip ss []) [(e0,⟨81,2,[sf cU r.2.b,i6 r.2.p]⟩)] tt'/\Fx tt' ss' [] []):=by
 intro c0 r H;intro e0  ss hP;unfold Ak at H;refine hdg mixed Tryz.func72 (rs:=[.cell 2 34]) fun q tT=>?_;obtain ⟨hF,hX⟩:=hP.start;generalize strip ss []=tt0 at hF hX ⊢;refine go ?_;refine X9 hF rfl fun b1 ss2 hF=>?_;refine go ?_;refine bp H (LH ) fun x6 h H=>cl h ?_;refine go ?_;obtain ⟨x8,hx8,H⟩:=bnd H;refine cx (Yr 3 c0 _ hx8 e0  _ (pre 0 1 0 hF hX)) ?_;rintro _ ss3 ⟨tt4,rfl,hT,hG⟩;obtain ⟨tt5,hX,hF⟩:=aft 0 1 0 hF hX hT hG;refine goL ?_;refine cdp H (fun h H=>?_) (fun h H=>?_)
 ·refine go ?_;obtain ⟨x14,hx14,H⟩:=bnd H;refine cx (Yr (x6.length:Int) x8.2 _ hx14 e0  _ (pre 0 1 0 hF hX)) ?_;rintro _ ss6 ⟨t7,rfl,hT,hG⟩;obtain ⟨t8,hX,hF⟩:=aft 0 1 0 hF hX hT hG;obtain ⟨x15,f1,H⟩:=bil (g:=cS) (fun _=>rfl) H;refine go1 ?_;refine bp H (Ad x15) fun x17 h H=>cl h ?_;refine go ?_;refine st hF 0 rfl fun s9 hF=>?_;refine go ?_;have e:=pur H;subst e;exact rg _ ⟨_,rfl,hX,K4 _⟩
 ·refine go ?_;obtain ⟨x22,hx22,H⟩:=bnd H;refine cx (YN [4,3,2] x8.2 _ hx22 e0  _ (pre 0 1 0 hF hX)) ?_;rintro _ s10 ⟨t11,rfl,hT,hG⟩;obtain ⟨t12,hX,hF⟩:=aft 0 1 0 hF hX hT hG;refine go ?_;obtain ⟨x23,hx23,H⟩:=bnd H;refine cx (MG [(Ql #[43]),(Ql #[108,105,115,116]),(Ql #[103])] x22.1 x22.2 _ hx23 e0  _ (pre 0 1 0 hF hX)) ?_;rintro _ s13 ⟨t14,rfl,hT,hG⟩;obtain ⟨t15,hX,hF⟩:=aft 0 1 0 hF hX hT hG;refine go ?_;refine X9 hF rfl fun b16 s17 hF=>?_;refine go ?_;refine st hF 0 rfl fun s18 hF=>?_;refine go ?_;obtain ⟨x25,hx25,H⟩:=bnd H;refine cx (Yr 2 x23.2 _ hx25 e0  _ (pre 0 1 0 hF hX)) ?_;rintro _ s19 ⟨tt20,rfl,hT,hG⟩;obtain ⟨t21,hX,hF⟩:=aft 0 1 0 hF hX hT hG;refine goL ?_;refine cdp H (fun h H=>?_) (fun h H=>?_)
  ·refine goL ?_;refine bp H (Ad (Ql #[40,114,117,108,101,115,32,40,41,32,40,40,95,32,97,32,98,41,32,40,108,101,116,32,40,40,116,32,97,41,41,32,40,108,105,115,116,32,98,32,116,41,41,41,32,40,40,95,32,97,41,32,40,108,101,116,32,40,40,120,32,97,41,41,32,40,108,105,115,116,32,120,32,97,41,41,41,41])) fun x27 h H=>cl h ?_;refine goL ?_;refine X9 hF rfl fun b22 s23 hF=>?_;refine goL ?_;refine st hF 0 rfl fun s24 hF=>?_;refine goL ?_;refine Yg E0 [.v,.v,.v,.v,.v,.v,.v,.v,.v,.v,.z] (by kernel_rfl) ?_;refine goL ?_;refine bp H (Vi (Ql #[108,101,116,45,115,121,110,116,97,120])) fun x28 h H=>cv h ?_;refine goL ?_;refine bp H (Vi (Ql #[103])) fun x29 h H=>cv h ?_;refine goL ?_;refine bp H (VC [x29,x27]) fun x32 h H=>cv h ?_;refine goL ?_;refine bp H (VC [x32]) fun x34 h H=>cv h ?_;refine goL ?_;refine bp H (VC [x28,x34,x23.1]) fun x37 h H=>cv h ?_;refine goL ?_;refine st hF 1 rfl fun s25 hF=>?_;refine goL ?_;refine st hF 2 rfl fun s26 hF=>?_;refine goL ?_;have e:=pur H;subst e;exact rg _ ⟨_,rfl,hX,K4 _⟩
  ·refine goL ?_;refine st hF 1 rfl fun s27 hF=>?_;refine goL ?_;have e:=pur H;subst e;exact rg _ ⟨_,rfl,hX,K4 _⟩
theorem MI:∀(c0:Rdr) r,Ao c0=some r->∀(e0:Nat)  (ss:Sto),Pre ss [(e0,⟨81,2,[sf cU c0.b,i6 c0.p]⟩)] []->Ctr K0 65 [.ptr e0 0] ss (fun r' ss'=>∃(tt':Sto),r'=.agg (KZ r.1)/\Tau (strip ss []) [(e0,⟨81,2,[sf cU r.2.b,i6 r.2.p]⟩)] tt'/\Fx tt' ss' [] []):=by
 intro c0 r H;intro e0  ss hP;unfold Ao at H;refine hdg mixed Tryz.func65 (rs:=[.cell 2 34]) fun q tT=>?_;obtain ⟨hF,hX⟩:=hP.start;generalize strip ss []=tt0 at hF hX ⊢;refine go ?_;refine X9 hF rfl fun b1 ss2 hF=>?_;refine goL ?_;obtain ⟨x6,hx6,H⟩:=bnd H;refine cx (Yr 2 c0 _ hx6 e0  _ (pre 0 1 0 hF hX)) ?_;rintro _ ss3 ⟨tt4,rfl,hT,hG⟩;obtain ⟨tt5,hX,hF⟩:=aft 0 1 0 hF hX hT hG;refine goL ?_;refine cdp H (fun h H=>?_) (fun h H=>?_)
 ·refine goL ?_;obtain ⟨x12,hx12,H⟩:=bnd H;refine cx (Yr 4 x6.2 _ hx12 e0  _ (pre 0 1 0 hF hX)) ?_;rintro _ ss6 ⟨t7,rfl,hT,hG⟩;obtain ⟨t8,hX,hF⟩:=aft 0 1 0 hF hX hT hG;obtain ⟨x13,hx13,H⟩:=bnd H;have f1:=fun (ss:Sto)=>Rw (g:=cS) (ss:=ss) (c:=true) (k:=.i64) (e:=9) (sz:=1) (by_:=16) (fun _=>rfl) hx13;simp only [Y2,VJ,cI,cU,cS,cL,cB] at f1
  try simp only [go_sem,↓reduceIte,K9,Zg,Zh,Za,Zi,Zj,Km,q,tT,hF.f,hF.m,hF.x hX,f1,List.append_eq,Ki,QU]
  refine bp H (Ad x13) fun x15 h H=>cl h ?_;refine goL ?_;refine st hF 0 rfl fun s9 hF=>?_;refine goL ?_;have e:=pur H;subst e;exact rg _ ⟨_,rfl,hX,K4 _⟩
 ·refine goL ?_;obtain ⟨x17,hx17,H⟩:=bnd H;refine cx (ME x6.2 _ hx17 e0  _ (pre 0 1 0 hF hX)) ?_;rintro _ s10 ⟨t11,rfl,hT,hG⟩;obtain ⟨t12,hX,hF⟩:=aft 0 1 0 hF hX hT hG;refine goL ?_;refine st hF 0 rfl fun s13 hF=>?_;refine goL ?_;have e:=pur H;subst e;exact rg _ ⟨_,rfl,hX,K4 _⟩
theorem Ja:∀(a0:Fm) r,Vq a0=some r->Vb K0 49 [.agg (KZ a0)] (.agg (KZ r)):=by
 refine Vq.partial_correctness _ (motive_2:=fun a0 x14 X8 Yx out=>∀c,Yh Tryz.f49 0=some c->∀(Q:QT) (tt:Sto) (b1 b3 b5:Nat),(∀(YO:List Fm),out=YO->∀(T:TT) (ss:Sto) (e0v0:AV),T 2=.ptr b3 0/\T 3=.ptr b5 0->Fx tt ss [(b5,⟨34,5,[i6 a0.kind,.str a0.name,i6 a0.num,sf cI x14,e0v0]⟩),(b3,⟨34,5,[i6 0,.str zB,i6 0,.Yb,.Yb]⟩),(b1,⟨34,5,[i6 a0.kind,.str a0.name,i6 a0.num,sf cI a0.sc,sf KZ a0.kids]⟩)] [⟨e0v0,34,5,rws KZ YO⟩]->Q (.ex 0) ⟨T,ss⟩)->True->∀(T:TT) (ss:Sto) (z0v0:AV),T 1=.ptr b1 0/\T 2=.ptr b3 0/\T 3=.ptr b5 0/\T 4=i6 Yx->Fx tt ss [(b5,⟨34,5,[i6 a0.kind,.str a0.name,i6 a0.num,sf cI x14,z0v0]⟩),(b3,⟨34,5,[i6 0,.str zB,i6 0,.Yb,.Yb]⟩),(b1,⟨34,5,[i6 a0.kind,.str a0.name,i6 a0.num,sf cI a0.sc,sf KZ a0.kids]⟩)] [⟨z0v0,34,5,rws KZ X8⟩]->aLp K0 c Q ⟨T,ss⟩) ?_ ?_
 ·intro W9 L0 a0 r H;intro ss;refine hdh mixed Tryz.func49 (rs:=[.cell 2 34]) fun q tT hF hX=>?_;refine go ?_;refine X9 hF rfl fun b1 ss2 hF=>?_;refine go ?_;refine X9 hF rfl fun b3 ss4 hF=>?_;refine go ?_;refine Yg E0 [.v,.v,.v,.v,.v,.v,.v,.v,.v,.v,.v,.x,.z] (by kernel_rfl) ?_;refine go ?_;obtain ⟨x14,hx14,H⟩:=bnd H;refine MZ (g:=cI) (xs:=[]) (ys:=a0.sc) (fun _=>rfl) (by decide) (by decide) (.inr (by first | rfl | simp only [Y2,VJ,cI,cU,cS,cL])) (.inr ⟨_,by first | rfl | simp only [Y2,VJ,cI,cU,cS,cL]⟩) hx14 ?_;refine go ?_;refine WY hF rfl fun b5 ss6 hF=>?_;refine go ?_;refine st hF 0 rfl fun s7 hF=>?_;have hF:=hF.nil 34 5;refine go ?_;obtain ⟨o11,ho11,H⟩:=bnd H;refine L0 a0 x14 [] 0 _ ho11 _ rfl _ _ b1 b3 b5 ?_ ?_ _ _ .Yb S hF
  ·intro EP he T13 s14 e12v0 tT hF;have he:=he.symm;subst he;refine go ?_;refine st hF 1 rfl fun s16 hF=>?_;refine go ?_;have e:=pur H;subst e;exact rt _
  ·trivial
 ·intro Vq W9 C0 L0 a0 x14 X8 Yx out H c hc Q tt b1 b3 b5 hE hR T ss z0v0 tT hF;refine lpx tt hc rfl fun q hX=>go ?_;refine cdp H (fun h H=>?_) (fun h H=>?_)
  ·refine go ?_;refine Yg E0 [.v,.v,.v,.v,.v,.v,.v,.v,.v,.x,.v,.z] (by kernel_rfl) ?_;obtain ⟨x28,f1,H⟩:=bil (g:=KZ) Fm.X6 H;refine go1 ?_;refine bp H (C0 x28) fun x30 h H=>cv h ?_;refine go ?_;refine Pr (g:=KZ) hF 0 H (rdo (c:=true) (g:=KZ) Fm.X6) fun x32 H v8 s9 hF=>?_;refine go ?_;refine st hF 0 (hF.cells 0 rfl) fun s10 hF=>?_;refine go ?_;exact L0 a0 x14 x32 (i64.wrap (Yx+1)) _ H _ rfl Q tt b1 b3 b5 hE hR _ _ v8 S hF
  ·refine go ?_;exact wq (hE _ (pur H).symm _ _ z0v0 S hF)
theorem AW:∀(a0:Fm) (x14:List Int) (HU:List Fm) (Yx:Int) out,YY a0 x14 HU Yx=some out->∀c,Yh Tryz.f49 0=some c->∀(Q:QT) (tt0:Sto) (b1 b3:Nat) (v5:AV) (b7:Nat),(∀(U1:List Fm),out=U1->∀(T:TT) (ss tt:Sto) (e0v1:AV),T 2=.ptr b3 0/\T 3=.ptr b7 0->Tau tt0 [] tt->Fx tt ss [(b7,⟨34,5,[i6 a0.kind,.str a0.name,i6 a0.num,v5,e0v1]⟩),(b3,⟨34,5,[i6 0,.str zB,i6 0,.Yb,.Yb]⟩),(b1,⟨34,5,[i6 a0.kind,.str a0.name,i6 a0.num,sf cI a0.sc,sf KZ a0.kids]⟩)] [⟨e0v1,34,5,rws KZ U1⟩,⟨v5,3,1,rws cI x14⟩]->Q (.ex 0) ⟨T,ss⟩)->True->∀(T:TT) (ss tt:Sto) (z0v1:AV),T 1=.ptr b1 0/\T 2=.ptr b3 0/\T 3=.ptr b7 0/\T 4=i6 Yx->Tau tt0 [] tt->Fx tt ss [(b7,⟨34,5,[i6 a0.kind,.str a0.name,i6 a0.num,v5,z0v1]⟩),(b3,⟨34,5,[i6 0,.str zB,i6 0,.Yb,.Yb]⟩),(b1,⟨34,5,[i6 a0.kind,.str a0.name,i6 a0.num,sf cI a0.sc,sf KZ a0.kids]⟩)] [⟨z0v1,34,5,rws KZ HU⟩,⟨v5,3,1,rws cI x14⟩]->aLp K0 c Q ⟨T,ss⟩:=by
 intro a0 x14 HU Yx;revert HU Yx;refine YY.partial_correctness a0 x14 _ ?_;intro YY IH HU Yx out H c hc Q tt0 b1 b3 v5 b7 hE hR T ss tt z0v1 tT hX hF;refine lpy hc rfl fun q=>go ?_;refine cdp H (fun h H=>?_) (fun h H=>?_)
 ·refine go ?_;refine Yg E0 [.v,.v,.v,.v,.v,.v,.v,.v,.v,.x,.v,.z] (by kernel_rfl) ?_;obtain ⟨x28,f1,H⟩:=bil (g:=KZ) Fm.X6 H;refine go1 ?_;refine bp H (Ja x28) fun x30 h H=>cv h ?_;refine go ?_;refine Pr (g:=KZ) hF 0 H (rdo (c:=true) (g:=KZ) Fm.X6) fun x32 H v10 s11 hF=>?_;refine go ?_;refine st hF 0 (hF.cells 0 rfl) fun s12 hF=>?_;refine go ?_;exact IH  x32 (i64.wrap (Yx+1)) _ H _ rfl Q tt0 b1 b3 v5 b7 hE hR _ _ _ v10 S hX hF
 ·refine go ?_;exact wq (hE _ (pur H).symm _ _ _ z0v1 S hX hF)
theorem BJ:∀(a0:Fm) r,Jw a0=some r->∀   (ss:Sto),Pre ss [] []->Ctr K0 49 [.agg (KZ a0)] ss (fun r' ss'=>∃(tt':Sto) (Qnc Qnd:AV),r'=.agg [i6 r.kind,.str r.name,i6 r.num,Qnc,Qnd]/\Tau (strip ss []) [] tt'/\Fx tt' ss' [] [⟨Qnc,3,1,rws cI r.sc⟩,⟨Qnd,34,5,rws KZ r.kids⟩]):=by
 intro a0 r H;intro   ss hP;unfold Jw at H;refine hdg mixed Tryz.func49 (rs:=[.cell 2 34]) fun q tT=>?_;obtain ⟨hF,hX⟩:=hP.start;generalize strip ss []=tt0 at hF hX ⊢;refine go ?_;refine X9 hF rfl fun b1 ss2 hF=>?_;refine go ?_;refine X9 hF rfl fun b3 ss4 hF=>?_;refine go ?_;refine Yg E0 [.v,.v,.v,.v,.v,.v,.v,.v,.v,.x,.v,.x,.z] (by kernel_rfl) ?_;refine go ?_;have hF:=hF.lit 3 1 (rws cI []) rfl;refine Pr (g:=cI) hF 0 H (rdo (c:=false) (g:=cI) (fun _=>rfl)) fun x14 H v5 ss6 hF=>?_;refine go ?_;refine WY hF rfl fun b7 s8 hF=>?_;refine go ?_;refine st hF 0 rfl fun s9 hF=>?_;have hF:=hF.nil 34 5;refine go ?_;obtain ⟨o13,ho13,H⟩:=bnd H;refine AW a0 x14 [] 0 _ ho13 _ rfl _ tt0 b1 b3 v5 b7 ?_ ?_ _ _ _ .Yb S hX hF
 ·intro Qe4 he T15 s16 t17 e14v1 tT hX hF;have he:=he.symm;subst he;refine go ?_;refine st hF 1 rfl fun s18 hF=>?_;refine go ?_;have e:=pur H;subst e;exact rg _ ⟨_,_,_,rfl,hX,hF.pick [] [1,0] (by decide) (by decide)⟩
 ·trivial
theorem HH:∀(a1:Fm) (c0:Rdr) r,Wq a1 c0=some r->∀(e0:Nat)  (ss:Sto),Pre ss [(e0,⟨81,2,[sf cU c0.b,i6 c0.p]⟩)] []->Ctr K0 41 [.ptr e0 0,.agg (KZ a1)] ss (fun r' ss'=>∃(tt':Sto),r'=.agg (KZ r.1)/\Tau (strip ss []) [(e0,⟨81,2,[sf cU r.2.b,i6 r.2.p]⟩)] tt'/\Fx tt' ss' [] []):=by
 refine Wq.partial_correctness  (motive:=fun a1 c0 r=>∀(e0:Nat)  (ss:Sto),Pre ss [(e0,⟨81,2,[sf cU c0.b,i6 c0.p]⟩)] []->Ctr K0 41 [.ptr e0 0,.agg (KZ a1)] ss (fun r' ss'=>∃(tt':Sto),r'=.agg (KZ r.1)/\Tau (strip ss []) [(e0,⟨81,2,[sf cU r.2.b,i6 r.2.p]⟩)] tt'/\Fx tt' ss' [] [])) ?_
 ·intro Wq C0 a1 c0 r H;intro e0  ss hP;refine hdg mixed Tryz.func41 (rs:=[.cell 4 34]) fun q tT=>?_;obtain ⟨hF,hX⟩:=hP.start;generalize strip ss []=tt0 at hF hX ⊢;refine go ?_;refine X9 hF rfl fun b1 ss2 hF=>?_;refine go ?_;refine X9 hF rfl fun b3 ss4 hF=>?_;refine go ?_;obtain ⟨x8,hx8,H⟩:=bnd H;refine cx (BJ a1 _ hx8   _ (pre 0 0 0 hF hX)) ?_;rintro _ s7 ⟨t8,v5,v6,rfl,hT,hG⟩;obtain ⟨tt9,hX,hF⟩:=aft 0 0 0 hF hX hT hG;refine go ?_;refine X9 hF rfl fun b10 s11 hF=>?_;refine go ?_;refine st hF 0 rfl fun s12 hF=>?_;refine go ?_;refine gi q (fun q=>?_) (fun q=>?_)
  ·rw [if_pos (dt q)] at H;refine go ?_;obtain ⟨EJ,hx15_1,H⟩:=bnd H;refine cx (Yr 2 c0 _ hx15_1 e0  _ (pre 0 1 0 hF hX)) ?_;rintro _ s18 ⟨t19,rfl,hT,hG⟩;obtain ⟨tt20,hX,hF⟩:=aft 0 1 0 hF hX hT hG;refine go ?_;refine cdp H (fun h H=>?_) (fun h H=>?_)
   ·refine go ?_;obtain ⟨x22,hx22,H⟩:=bnd H;refine cx (Yr (x8.kids.length:Int) EJ.2 _ hx22 e0  _ (pre 0 1 0 hF hX)) ?_;rintro _ s21 ⟨t22,rfl,hT,hG⟩;obtain ⟨t23,hX,hF⟩:=aft 0 1 0 hF hX hT hG;refine go ?_;obtain ⟨E,hEq⟩:∃E,E=EE s21 [e0]:=⟨_,rfl⟩
    have n24:¬E b10:=by rw [hEq];exact K6 (hF.at 0 rfl) (nm1 (neX hF 0 rfl hX 0 rfl))
    have n25:¬E b3:=by rw [hEq];exact K6 (hF.at 1 rfl) (nm1 (neX hF 1 rfl hX 0 rfl))
    have n26:¬E b1:=by rw [hEq];exact K6 (hF.at 2 rfl) (nm1 (neX hF 2 rfl hX 0 rfl))
    refine Yg E [.v,.v,.v,.v,.v,.v,.v,.v,.x,.x,.v,.z] (by kernel_rfl) ?_;have z:=K3 (X5 (hF.at 0 rfl) n24) (K3 (X5 (hF.at 1 rfl) n25) (X5 (hF.at 2 rfl) n26));refine gh ?_;obtain ⟨x30,hx30,H⟩:=bnd H;obtain ⟨b27,k28,hv⟩:=hF.ref 1 rfl hx30;subst hv
    try simp only [go_sem,↓reduceIte,K9,Zg,Zh,Za,Zi,Zj,Km,q,tT,hF.f,hF.m,hF.x hX,X5 (hF.at 0 rfl) n24,X5 (hF.at 1 rfl) n25,X5 (hF.at 2 rfl) n26,Dl (l:=x8.kids) rfl hx30,N7 hF 1 (p:=x22.1.toNat * 5) (sz:=5) (ag:=true) (k:=5) (o:=0) (g:=KZ) (x:=x30) (i:=x22.1) (v:=(.agg [i6 x30.kind,.str x30.name,i6 x30.num,sf cI x30.sc,sf KZ x30.kids])) (by first | rfl | simp) Fm.X6 rfl hx30 (by decide) (by first | rfl | (simp only [sf,i6,zB,cI,cU,cS,cL,cB,Fm.Ya];rfl))]
    obtain ⟨x32,hx32,H⟩:=bnd H;refine cx (C0 x30 x22.2 _ hx32 e0  _ (pre 0 1 0 hF hX)) ?_;rintro _ s29 ⟨t30,rfl,hT,hG⟩
    refine V0 (Zb hT hG (by intro p hp;simp only [Kk,KE,or_false] at hp<;>first | (rcases hp with rfl<;>(rw [hEq];first | (refine Zf ?_;simp;done) | exact Zs rfl))| cases hp)) fun kp32=>?_
    obtain ⟨tt31,hX,hF⟩:=aft 0 1 0 hF hX hT hG;obtain ⟨x33,hx33,H⟩:=bnd H
    try simp only [go_sem,↓reduceIte,K9,Zg,Zh,Za,Zi,Zj,Km,q,tT,hF.f,hF.m,hF.x hX,X5 (hF.at 0 rfl) n24,X5 (hF.at 1 rfl) n25,X5 (hF.at 2 rfl) n26,Dl (l:=x8.kids) ((EV hF 1 rfl).1.trans (WD _)) hx33]
    refine PL hF 1 (o:=0) (sz:=5) (k:=5) (v:=(.agg [i6 x32.1.kind,.str x32.1.name,i6 x32.1.num,sf cI x32.1.sc,sf KZ x32.1.kids])) (cs:=[i6 x32.1.kind,.str x32.1.name,i6 x32.1.num,sf cI x32.1.sc,sf KZ x32.1.kids]) (g:=KZ) (i:=x22.1) x32.1 Fm.X6 (by first | rfl | simp) rfl hx33 rfl rfl (by decide) (by first | rfl | simp [IM,cI,cU,cS,cL,cB,Fm.Ya]) fun s33 hF=>?_;have hF:Fx tt31 s33 [(b10,⟨34,5,[i6 x8.kind,.str x8.name,i6 x8.num,v5,.ref b27 x8.kids.length k28]⟩),(b3,⟨34,5,[i6 0,.str zB,i6 0,.Yb,.Yb]⟩),(b1,⟨34,5,[i6 a1.kind,.str a1.name,i6 a1.num,sf cI a1.sc,sf KZ a1.kids]⟩)] [⟨v5,3,1,rws cI x8.sc⟩,⟨.ref b27 x8.kids.length k28,34,5,rws KZ (x8.kids.set x22.1.toNat x32.1)⟩]:=hF;have z:=K3 (X5 (hF.at 0 rfl) n24) (K3 (X5 (hF.at 1 rfl) n25) (X5 (hF.at 2 rfl) n26));refine gh ?_;refine go ?_;refine st hF 1 rfl fun s34 hF=>?_;refine go ?_;have e:=pur H;subst e;exact rg _ ⟨_,rfl,hX,K4 _⟩
   ·refine go ?_;obtain ⟨x36,hx36,H⟩:=bnd H;refine cx (Yr 14 EJ.2 _ hx36 e0  _ (pre 0 1 0 hF hX)) ?_;rintro _ s35 ⟨t36,rfl,hT,hG⟩;obtain ⟨tt37,hX,hF⟩:=aft 0 1 0 hF hX hT hG;refine go ?_;refine cdp H (fun h H=>?_) (fun h H=>?_)
    ·refine go ?_;obtain ⟨x41,hx41,H⟩:=bnd H;refine cx (YN [0,4,1,3] x36.2 _ hx41 e0  _ (pre 0 1 0 hF hX)) ?_;rintro _ s38 ⟨t39,rfl,hT,hG⟩;obtain ⟨t40,hX,hF⟩:=aft 0 1 0 hF hX hT hG;refine go ?_;refine st hF 0 rfl fun s41 hF=>?_;refine go ?_;refine st hF 1 rfl fun s42 hF=>?_;refine go ?_;have e:=pur H;subst e;exact rg _ ⟨_,rfl,hX,K4 _⟩
    ·refine go ?_;refine cdp H (fun h H=>?_) (fun h H=>?_)
     ·refine go ?_;obtain ⟨x47,hx47,H⟩:=bnd H;refine cx (GI [zB,(Ql #[65]),(Ql #[116,111,111,108,111,110,103,97,110,97,109,101,49]),(Ql #[122]),(Ql #[120,32,121])] x36.2 _ hx47 e0  _ (pre 0 1 0 hF hX)) ?_;rintro _ s43 ⟨t44,rfl,hT,hG⟩;obtain ⟨t45,hX,hF⟩:=aft 0 1 0 hF hX hT hG;refine go ?_;refine st hF 0 rfl fun s46 hF=>?_;refine go ?_;refine st hF 1 rfl fun s47 hF=>?_;refine go ?_;have e:=pur H;subst e;exact rg _ ⟨_,rfl,hX,K4 _⟩
     ·refine go ?_;refine cdp H (fun h H=>?_) (fun h H=>?_)
      ·refine go ?_;obtain ⟨x53,hx53,H⟩:=bnd H;refine cx (YN [1000,-1,5] x36.2 _ hx53 e0  _ (pre 0 1 0 hF hX)) ?_;rintro _ s48 ⟨t49,rfl,hT,hG⟩;obtain ⟨t50,hX,hF⟩:=aft 0 1 0 hF hX hT hG;refine go ?_;refine st hF 0 rfl fun s51 hF=>?_;refine go ?_;refine st hF 1 rfl fun s52 hF=>?_;refine go ?_;have e:=pur H;subst e;exact rg _ ⟨_,rfl,hX,K4 _⟩
      ·refine go ?_;refine cdp H (fun h H=>?_) (fun h H=>?_)
       ·refine go ?_;obtain ⟨E,hEq⟩:∃E,E=EE s35 [e0]:=⟨_,rfl⟩
        have n53:¬E b10:=by rw [hEq];exact K6 (hF.at 0 rfl) (nm1 (neX hF 0 rfl hX 0 rfl))
        have n54:¬E b3:=by rw [hEq];exact K6 (hF.at 1 rfl) (nm1 (neX hF 1 rfl hX 0 rfl))
        have n55:¬E b1:=by rw [hEq];exact K6 (hF.at 2 rfl) (nm1 (neX hF 2 rfl hX 0 rfl))
        refine Yg E [.v,.v,.v,.v,.x,.v,.x,.v,.z] (by kernel_rfl) ?_;have z:=K3 (X5 (hF.at 0 rfl) n53) (K3 (X5 (hF.at 1 rfl) n54) (X5 (hF.at 2 rfl) n55));refine gh ?_;obtain ⟨x61,hx61,H⟩:=bnd H;refine cx (YN [0,100,1,50] x36.2 _ hx61 e0  _ (pre 0 1 0 hF hX)) ?_;rintro _ s56 ⟨t57,rfl,hT,hG⟩
        refine V0 (Zb hT hG (by intro p hp;simp only [Kk,KE,or_false] at hp<;>first | (rcases hp with rfl<;>(rw [hEq];first | (refine Zf ?_;simp;done) | exact Zs rfl))| cases hp)) fun kp59=>?_
        obtain ⟨t58,hX,hF⟩:=aft 0 1 0 hF hX hT hG;have z:=K3 (X5 (hF.at 0 rfl) n53) (K3 (X5 (hF.at 1 rfl) n54) (X5 (hF.at 2 rfl) n55));refine gh ?_;refine Pr (g:=cI) hF 0 H (rdo (c:=true) (g:=cI) (fun _=>rfl)) fun x63 H v60 s61 hF=>?_;have z:=K3 (X5 (hF.at 0 rfl) n53) (K3 (X5 (hF.at 1 rfl) n54) (X5 (hF.at 2 rfl) n55));refine gh ?_;refine st hF 0 (hF.cells 0 rfl) fun s62 hF=>?_;have z:=K3 (X5 (hF.at 0 rfl) n53) (K3 (X5 (hF.at 1 rfl) n54) (X5 (hF.at 2 rfl) n55));refine gh ?_;refine go ?_;refine st hF 1 rfl fun s63 hF=>?_;refine go ?_;have e:=pur H;subst e;exact rg _ ⟨_,rfl,hX,K4 _⟩
       ·refine go ?_;refine st hF 1 rfl fun s64 hF=>?_;refine go ?_;have e:=pur H;subst e;exact rg _ ⟨_,rfl,hX,K4 _⟩
  ·rw [if_neg (df q)] at H;refine go ?_;obtain ⟨DT,hx36_1,H⟩:=bnd H;refine cx (Yr 14 c0 _ hx36_1 e0  _ (pre 0 1 0 hF hX)) ?_;rintro _ s65 ⟨t66,rfl,hT,hG⟩;obtain ⟨t67,hX,hF⟩:=aft 0 1 0 hF hX hT hG;refine go ?_;refine cdp H (fun h H=>?_) (fun h H=>?_)
   ·refine go ?_;obtain ⟨Qer,hx41_1,H⟩:=bnd H;refine cx (YN [0,4,1,3] DT.2 _ hx41_1 e0  _ (pre 0 1 0 hF hX)) ?_;rintro _ s68 ⟨t69,rfl,hT,hG⟩;obtain ⟨tt70,hX,hF⟩:=aft 0 1 0 hF hX hT hG;refine go ?_;refine st hF 0 rfl fun s71 hF=>?_;refine go ?_;refine st hF 1 rfl fun s72 hF=>?_;refine go ?_;have e:=pur H;subst e;exact rg _ ⟨_,rfl,hX,K4 _⟩
   ·refine go ?_;refine cdp H (fun h H=>?_) (fun h H=>?_)
    ·refine go ?_;obtain ⟨Qes,hx47_1,H⟩:=bnd H;refine cx (GI [zB,(Ql #[65]),(Ql #[116,111,111,108,111,110,103,97,110,97,109,101,49]),(Ql #[122]),(Ql #[120,32,121])] DT.2 _ hx47_1 e0  _ (pre 0 1 0 hF hX)) ?_;rintro _ s73 ⟨t74,rfl,hT,hG⟩;obtain ⟨tt75,hX,hF⟩:=aft 0 1 0 hF hX hT hG;refine go ?_;refine st hF 0 rfl fun s76 hF=>?_;refine go ?_;refine st hF 1 rfl fun s77 hF=>?_;refine go ?_;have e:=pur H;subst e;exact rg _ ⟨_,rfl,hX,K4 _⟩
    ·refine go ?_;refine cdp H (fun h H=>?_) (fun h H=>?_)
     ·refine go ?_;obtain ⟨Qet,hx53_1,H⟩:=bnd H;refine cx (YN [1000,-1,5] DT.2 _ hx53_1 e0  _ (pre 0 1 0 hF hX)) ?_;rintro _ s78 ⟨t79,rfl,hT,hG⟩;obtain ⟨t80,hX,hF⟩:=aft 0 1 0 hF hX hT hG;refine go ?_;refine st hF 0 rfl fun s81 hF=>?_;refine go ?_;refine st hF 1 rfl fun s82 hF=>?_;refine go ?_;have e:=pur H;subst e;exact rg _ ⟨_,rfl,hX,K4 _⟩
     ·refine go ?_;refine cdp H (fun h H=>?_) (fun h H=>?_)
      ·refine go ?_;obtain ⟨E,hEq⟩:∃E,E=EE s65 [e0]:=⟨_,rfl⟩
       have n83:¬E b10:=by rw [hEq];exact K6 (hF.at 0 rfl) (nm1 (neX hF 0 rfl hX 0 rfl))
       have n84:¬E b3:=by rw [hEq];exact K6 (hF.at 1 rfl) (nm1 (neX hF 1 rfl hX 0 rfl))
       have n85:¬E b1:=by rw [hEq];exact K6 (hF.at 2 rfl) (nm1 (neX hF 2 rfl hX 0 rfl))
       refine Yg E [.v,.v,.v,.v,.x,.v,.x,.v,.z] (by kernel_rfl) ?_;have z:=K3 (X5 (hF.at 0 rfl) n83) (K3 (X5 (hF.at 1 rfl) n84) (X5 (hF.at 2 rfl) n85));refine gh ?_;obtain ⟨Qik,hx61_1,H⟩:=bnd H;refine cx (YN [0,100,1,50] DT.2 _ hx61_1 e0  _ (pre 0 1 0 hF hX)) ?_;rintro _ s86 ⟨t87,rfl,hT,hG⟩
       refine V0 (Zb hT hG (by intro p hp;simp only [Kk,KE,or_false] at hp<;>first | (rcases hp with rfl<;>(rw [hEq];first | (refine Zf ?_;simp;done) | exact Zs rfl))| cases hp)) fun kp89=>?_
       obtain ⟨t88,hX,hF⟩:=aft 0 1 0 hF hX hT hG;have z:=K3 (X5 (hF.at 0 rfl) n83) (K3 (X5 (hF.at 1 rfl) n84) (X5 (hF.at 2 rfl) n85));refine gh ?_;refine Pr (g:=cI) hF 0 H (rdo (c:=true) (g:=cI) (fun _=>rfl)) fun Qla H v90 s91 hF=>?_;have z:=K3 (X5 (hF.at 0 rfl) n83) (K3 (X5 (hF.at 1 rfl) n84) (X5 (hF.at 2 rfl) n85));refine gh ?_;refine st hF 0 (hF.cells 0 rfl) fun s92 hF=>?_;have z:=K3 (X5 (hF.at 0 rfl) n83) (K3 (X5 (hF.at 1 rfl) n84) (X5 (hF.at 2 rfl) n85));refine gh ?_;refine go ?_;refine st hF 1 rfl fun s93 hF=>?_;refine go ?_;have e:=pur H;subst e;exact rg _ ⟨_,rfl,hX,K4 _⟩
      ·refine go ?_;refine st hF 1 rfl fun s94 hF=>?_;refine go ?_;have e:=pur H;subst e;exact rg _ ⟨_,rfl,hX,K4 _⟩
theorem MH:∀(a0:List Int) r,An a0=some r->Vb K0 39 [sf cU a0] (.tup [.agg (KZ r.1),i6 r.2]):=by
 intro a0 r H;intro ss;unfold An at H;refine hdh mixed Tryz.func39 (rs:=[.cell 2 34,.tmp 3]) fun q tT hF hX=>?_;refine go ?_;refine X9 hF rfl fun b1 ss2 hF=>?_;refine go ?_;obtain ⟨x7,hx7,H⟩:=bnd H;refine cx (B4 a0 _ hx7   _ (pre 0 0 0 hF hX)) ?_;rintro _ ss4 ⟨tt5,b3,rfl,hT,hG⟩;have nw7:ss2.var b3=none:=(hT.off b3 (by simp)).symm.trans (hG.var _ (List.mem_cons_self ..)).2.1;have hF:=L6 0 0 hF hX hT hG;refine go ?_;obtain ⟨x9,hx9,H⟩:=bnd H;refine cx (MI x7 _ hx9 b3  _ (pre 1 0 0 hF hX)) ?_;rintro _ s8 ⟨tt9,rfl,hT,hG⟩;have hF:=L6 1 0 hF hX hT hG;refine go ?_;refine X9 hF rfl fun b11 s12 hF=>?_;refine go ?_;refine st hF 0 rfl fun s13 hF=>?_;refine go ?_;have hF:=pck hF [1,0,2] [];obtain ⟨x11,hx11,H⟩:=bnd H;refine cx (Yr 16 x9.2 _ hx11 b3  _ (pre 1 0 0 hF hX)) ?_;rintro _ s14 ⟨t15,rfl,hT,hG⟩;have hF:=L6 1 0 hF hX hT hG;refine go ?_;obtain ⟨⟨FO,FP,FQ,FU,FW,FX,FY⟩,j18,H⟩:=bnd H;refine Vy (fun s'=>∃(T:TT) (ss1:Sto),s'=⟨T,ss1⟩/\(T 2=.ptr b1 0/\T 4=.ptr b3 0/\T 5=.ptr b11 0)/\Fx ss ss1 [(b3,⟨81,2,[sf cU FX,i6 FY]⟩),(b11,⟨34,5,[i6 FO,.str FP,i6 FQ,sf cI FU,sf KZ FW]⟩),(b1,⟨34,5,[i6 0,.str zB,i6 0,.Yb,.Yb]⟩)] []) (cdp j18 (fun h j18=>?_) (fun h j18=>?_)) ?_
 ·refine go ?_;obtain ⟨x16,hx16,j18⟩:=bnd j18;refine cx (HH x9.1 x11.2 _ hx16 b3  _ (pre 1 0 0 hF hX)) ?_;rintro _ s19 ⟨tt20,rfl,hT,hG⟩;have hF:=L6 1 0 hF hX hT hG;refine go ?_;obtain ⟨x17,hx17,j18⟩:=bnd j18;refine cx (HH x16.1 x16.2 _ hx17 b3  _ (pre 1 0 0 hF hX)) ?_;rintro _ s22 ⟨t23,rfl,hT,hG⟩;have hF:=L6 1 0 hF hX hT hG;refine go ?_;refine st hF 1 rfl fun s25 hF=>?_;refine go ?_;have e:=pur j18
  injection e with e0 e
  injection e with e1 e
  injection e with e2 e
  injection e with e3 e
  injection e with e4 e
  injection e with e5 e
  subst e0;subst e1;subst e2;subst e3;subst e4;subst e5;subst e;exact ⟨_,_,rfl,S,hF⟩
 ·refine go ?_;have e:=pur j18
  injection e with e0 e
  injection e with e1 e
  injection e with e2 e
  injection e with e3 e
  injection e with e4 e
  injection e with e5 e
  subst e0;subst e1;subst e2;subst e3;subst e4;subst e5;subst e;exact ⟨_,_,rfl,S,hF⟩
 ·rintro s' ⟨T26,s27,rfl,tT,hF⟩;refine go ?_;obtain ⟨E,hEq⟩:∃E,E=EE s27 [b3,b1]:=⟨_,rfl⟩
  have n29:¬E b11:=by rw [hEq];exact K6 (hF.at 1 rfl) (nm2 ⟨neL hF 1 0 rfl rfl (by decide),neL hF 1 2 rfl rfl (by decide)⟩)
  refine Yg E [.v,.v,.v,.x,.x,.v] (by kernel_rfl) ?_;have z:=X5 (hF.at 1 rfl) n29;refine gh ?_;obtain ⟨x21,hx21,H⟩:=bnd H;refine cx (YN [20,10,60,3,0,61] (Rdr.mk FX FY) _ hx21 b3  _ (pre 1 0 0 hF hX)) ?_;rintro _ s30 ⟨tt31,rfl,hT,hG⟩
  refine V0 (Zb hT hG (by intro p hp;simp only [Kk,KE,or_false] at hp<;>first | (rcases hp with rfl<;>(rw [hEq];first | (refine Zf ?_;simp;done) | exact Zs nw7))| cases hp)) fun kp33=>?_
  have hF:=L6 1 0 hF hX hT hG;have z:=X5 (hF.at 1 rfl) n29;refine gh ?_;refine stK hF 2 (by rw [hEq];exact Zf (by simp)) rfl fun s34 hF=>?_;have z:=X5 (hF.at 1 rfl) n29;refine gh ?_;refine go ?_;have e:=pur H;subst e;exact rt [.agg [i6 FO,.str FP,i6 FQ,sf cI FU,sf KZ FW],i6 x21.1]
theorem LG:∀  r,AI  = some r->Vb K0 29 [] (sf cS r):=by
 intro  r H;intro ss;unfold AI at H;refine hdh mixed Tryz.func29 (rs:=[.tmp 0]) fun q tT hF hX=>?_;refine go ?_;have e:=pur H;subst e;exact rt _
theorem AT:∀(x5:List ByteArray) (X8:List Bnd) (Yo:Int) out,YP x5 X8 Yo=some out->∀c,Yh Tryz.f12 0=some c->∀(Q:QT) (tt:Sto) (b1 b3:Nat),(∀(YO:List Bnd),out=YO->∀(T:TT) (ss:Sto) (e0v0:AV),T 0=.ptr b1 0/\T 1=.ptr b3 0->Fx tt ss [(b3,⟨30,5,[e0v0,.Yb,i6 0,i6 10,i6 0]⟩),(b1,⟨30,5,[.Yb,.Yb,i6 0,i6 0,i6 0]⟩)] [⟨e0v0,53,3,rws K1 YO⟩]->Q (.ex 0) ⟨T,ss⟩)->True->∀(T:TT) (ss:Sto) (z0v0:AV),T 0=.ptr b1 0/\T 1=.ptr b3 0/\T 2=sf cS x5/\T 3=i6 Yo->Fx tt ss [(b3,⟨30,5,[z0v0,.Yb,i6 0,i6 10,i6 0]⟩),(b1,⟨30,5,[.Yb,.Yb,i6 0,i6 0,i6 0]⟩)] [⟨z0v0,53,3,rws K1 X8⟩]->aLp K0 c Q ⟨T,ss⟩:=by
 intro x5 X8 Yo;revert X8 Yo;refine YP.partial_correctness x5 _ ?_;intro YP IH X8 Yo out H c hc Q tt b1 b3 hE hR T ss z0v0 tT hF;refine lpx tt hc rfl fun q hX=>go ?_;refine cdp H (fun h H=>?_) (fun h H=>?_)
 ·refine go ?_;refine Yg E0 [.v,.v,.v,.v,.v,.v,.v,.v,.v,.x,.v,.z] (by kernel_rfl) ?_;obtain ⟨x16,f1,H⟩:=bil (g:=cS) (fun _=>rfl) H;refine go1 ?_;refine Qng (g:=K1) (rows:=[[.str x16,.Yb,i6 Yo]]) hF 0 H Bnd.X6 true rfl (by simp only [sf,i6,zB,Y2,VJ,cI,cU,cS,cL,Bnd.Ya,Zt,Zu,Fm.num,Fm.sc,Zv,Zk,Zc,Zw,Zl,Zm,ZC,Zn,Zx,Zy,Zo,Zp,Zq,Zz,Zr,Zd,ZD,ZA,ZE,ZB,Qt,K7,KJ,Ki,QU];exact (.cons (.refl _) id (.cons .Yb (fun _=>rfl) (.cons (.refl _) id .nil)))) fun x21 H v6 s7 hF=>?_;refine go ?_;refine st hF 0 (hF.cells 0 rfl) fun s8 hF=>?_;refine go ?_;exact IH  x21 (i64.wrap (Yo+1)) _ H _ rfl Q tt b1 b3 hE hR _ _ v6 S hF
 ·refine go ?_;exact wq (hE _ (pur H).symm _ _ z0v0 S hF)
theorem Io:∀  r,YV  = some r->Vb K0 12 [] (.agg (K8 r)):=by
 intro  r H;intro ss;unfold YV at H;refine hdh mixed Tryz.func12 (rs:=[.cell 0 30]) fun q tT hF hX=>?_;refine go ?_;refine X9 hF rfl fun b1 ss2 hF=>?_;refine go ?_;refine X9 hF rfl fun b3 ss4 hF=>?_;refine go ?_;refine st hF 0 rfl fun ss5 hF=>?_;refine go ?_;refine bp H (LG ) fun x5 h H=>cl h ?_;have hF:=hF.nil 53 3;refine go ?_;obtain ⟨o9,ho9,H⟩:=bnd H;refine AT x5 [] 1 _ ho9 _ rfl _ _ b1 b3 ?_ ?_ _ _ .Yb S hF
 ·intro Oq he T11 s12 e10v0 tT hF;have he:=he.symm;subst he;refine go ?_;refine st hF 1 rfl fun s14 hF=>?_;refine go ?_;have e:=pur H;subst e;exact rt _
 ·trivial
theorem Ff:∀(a0:List Int) (a1 Yi:Int) out,W1 a0 a1 Yi=some out->∀c,Yh Tryz.f156 0=some c->∀(Q:QT) (tt:Sto),(∀(_u:Unit),out=Sum.inr ()->∀(T:TT) (ss:Sto),0+0=0->Fx tt ss [] []->Q (.ex 0) ⟨T,ss⟩)->(∀r,out=Sum.inl r->∀s',IP K0 [.tmp 4] (fun r' ss'=>r'=.bool r/\ss'=tt) s'->Q .ret s')->∀(T:TT) (ss:Sto),T 0=sf cI a0/\T 1=i6 a1/\T 5=i6 Yi->Fx tt ss [] []->aLp K0 c Q ⟨T,ss⟩:=by
 intro a0 a1 Yi;revert Yi;refine W1.partial_correctness a0 a1 _ ?_;intro W1 IH Yi out H c hc Q tt  hE hR T ss tT hF;refine lpx tt hc rfl fun q hX=>go ?_;refine cdp H (fun h H=>?_) (fun h H=>?_)
 ·obtain ⟨x14,f1,H⟩:=bil (g:=cI) (fun _=>rfl) H;refine go1 ?_;refine go ?_;refine cdp H (fun h H=>?_) (fun h H=>?_)
  ·refine go ?_;exact wq (hR _ (pur H).symm _ (rt _))
  ·refine go ?_;exact IH  (i64.wrap (Yi+1)) _ H _ rfl Q tt  hE hR _ _  S hF
 ·refine go ?_;exact wq (hE () (pur H).symm _ _  S hF)
theorem Ig:∀(a0:List Int) (a1:Int) r,Jq a0 a1=some r->Vb K0 156 [sf cI a0,i6 a1] (.bool r):=by
 intro a0 a1 r H;intro ss;unfold Jq at H;refine hdh mixed Tryz.func156 (rs:=[.tmp 4]) fun q tT hF hX=>?_;refine go ?_;obtain ⟨o1,ho1,H⟩:=bnd H;refine Ff a0 a1 0 _ ho1 _ rfl _ _  ?_ ?_ _ _  S hF
 ·intro _ he T3 ss4 tT hF;have he:=he.symm;subst he
  try dsimp only at H
  refine go ?_;have e:=pur H;subst e;exact rt _
 ·intro r hr s' hs;subst hr;have e:=pur H;subst e;exact hsq hs
theorem Bp:∀(a0 a1:List Int) (Yi:Int) out,YZ a0 a1 Yi=some out->∀c,Yh Tryz.f161 0=some c->∀(Q:QT) (tt:Sto),(∀(_u:Unit),out=Sum.inr ()->∀(T:TT) (ss:Sto),0+0=0->Fx tt ss [] []->Q (.ex 0) ⟨T,ss⟩)->(∀r,out=Sum.inl r->∀s',IP K0 [.tmp 4] (fun r' ss'=>r'=.bool r/\ss'=tt) s'->Q .ret s')->∀(T:TT) (ss:Sto),T 0=sf cI a0/\T 1=sf cI a1/\T 5=i6 Yi->Fx tt ss [] []->aLp K0 c Q ⟨T,ss⟩:=by
 intro a0 a1 Yi;revert Yi;refine YZ.partial_correctness a0 a1 _ ?_;intro YZ IH Yi out H c hc Q tt  hE hR T ss tT hF;refine lpx tt hc rfl fun q hX=>go ?_;refine cdp H (fun h H=>?_) (fun h H=>?_)
 ·obtain ⟨x15,f1,H⟩:=bil (g:=cI) (fun _=>rfl) H;refine go1 ?_;refine bp H (Ig a1 x15) fun x17 h H=>cl h ?_;refine go ?_;refine cdb H (fun h H=>?_) (fun h H=>?_)
  ·refine go ?_;exact wq (hR _ (pur H).symm _ (rt _))
  ·refine go ?_;exact IH  (i64.wrap (Yi+1)) _ H _ rfl Q tt  hE hR _ _  S hF
 ·refine go ?_;exact wq (hE () (pur H).symm _ _  S hF)
theorem IV:∀(a0 a1:List Int) r,VM a0 a1=some r->Vb K0 161 [sf cI a0,sf cI a1] (.bool r):=by
 intro a0 a1 r H;intro ss;unfold VM at H;refine hdh mixed Tryz.func161 (rs:=[.tmp 4]) fun q tT hF hX=>?_;refine go ?_;obtain ⟨o1,ho1,H⟩:=bnd H;refine Bp a0 a1 0 _ ho1 _ rfl _ _  ?_ ?_ _ _  S hF
 ·intro _ he T3 ss4 tT hF;have he:=he.symm;subst he
  try dsimp only at H
  refine go ?_;have e:=pur H;subst e;exact rt _
 ·intro r hr s' hs;subst hr;have e:=pur H;subst e;exact hsq hs
theorem CB:∀(a0:List Bnd) (a1:Fm) (X8:List Int) (Yy:Int) out,Y9 a0 a1 X8 Yy=some out->∀c,Yh Tryz.f160 0=some c->∀(Q:QT) (tt:Sto) (b1:Nat),(∀(YO:List Int),out=YO->∀(T:TT) (ss:Sto) (e0v0:AV),T 5=e0v0->Fx tt ss [(b1,⟨34,5,[i6 a1.kind,.str a1.name,i6 a1.num,sf cI a1.sc,sf KZ a1.kids]⟩)] [⟨e0v0,3,1,rws cI YO⟩]->Q (.ex 0) ⟨T,ss⟩)->True->∀(T:TT) (ss:Sto) (z0v0:AV),T 0=sf K1 a0/\T 3=.ptr b1 0/\T 5=z0v0/\T 6=i6 Yy->Fx tt ss [(b1,⟨34,5,[i6 a1.kind,.str a1.name,i6 a1.num,sf cI a1.sc,sf KZ a1.kids]⟩)] [⟨z0v0,3,1,rws cI X8⟩]->aLp K0 c Q ⟨T,ss⟩:=by
 intro a0 a1 X8 Yy;revert X8 Yy;refine Y9.partial_correctness a0 a1 _ ?_;intro Y9 IH X8 Yy out H c hc Q tt b1 hE hR T ss z0v0 tT hF;refine lpx tt hc rfl fun q hX=>go ?_;refine cdp H (fun h H=>?_) (fun h H=>?_)
 ·refine go ?_;refine Yg E0 [.v,.v,.v,.v,.v,.v,.v,.v,.v,.v,.v,.v,.v,.v,.v,.v,.v,.v] (by kernel_rfl) ?_;obtain ⟨x16,f1,H⟩:=bil (g:=K1) Bnd.X6 H;refine go1 ?_;obtain ⟨x31,g3,H⟩:=bnd H;refine W6 8 23 31 (.bool x31) (ti q (fun q=>?_) (fun q=>?_)) (fun J=>?_)
  ·rw [if_pos (dt q)] at g3;obtain ⟨x25,f1,g3⟩:=bil (g:=K1) Bnd.X6 g3;refine go1 ?_;obtain ⟨x30,hx30,g3⟩:=bnd g3;refine cv (IV x25.sc a1.sc _ hx30) ?_;refine go ?_;exact Yt 23 g3
  ·rw [if_neg (df q)] at g3;refine go ?_;exact Yt 23 g3
  refine go ?_;refine cdb H (fun h H=>?_) (fun h H=>?_)
  ·refine go ?_;refine apd (g:=cI) hF 0 H (rdo (c:=true) (g:=cI) (fun _=>rfl)) fun x35 H v5 ss6 hF=>?_;refine go ?_;exact IH  x35 (i64.wrap (Yy+1)) _ H _ rfl Q tt b1 hE hR _ _ v5 S hF
  ·refine go ?_;exact IH  X8 (i64.wrap (Yy+1)) _ H _ rfl Q tt b1 hE hR _ _ z0v0 S hF
 ·refine go ?_;exact wq (hE _ (pur H).symm _ _ z0v0 S hF)
theorem Es:∀(a0:List Bnd) (a1:Fm) r,HE a0 a1=some r->Vb K0 160 [sf K1 a0,.agg (KZ a1)] (sf cI r):=by
 intro a0 a1 r H;intro ss;unfold HE at H;refine hdh mixed Tryz.func160 (rs:=[.tmp 4]) fun q tT hF hX=>?_;refine go ?_;refine X9 hF rfl fun b1 ss2 hF=>?_;have hF:=hF.lit 3 1 (rws cI []) rfl;refine go ?_;obtain ⟨o7,ho7,H⟩:=bnd H;refine CB a0 a1 [] 0 _ ho7 _ rfl _ _ b1 ?_ ?_ _ _ (.sl true (rws cI [])) S hF
 ·intro Qaa he T9 s10 e8v0 tT hF;have he:=he.symm;subst he;refine go ?_;have e:=pur H;subst e;exact rt _
 ·trivial
theorem Er:∀(a0:List Bnd) (a1:Fm) (x12:List Int) (Yq:Int) (V9:Bool) (Gg:Int) out,VX a0 a1 x12 Yq V9 Gg=some out->∀c,Yh Tryz.f138 1=some c->∀(Q:QT) (tt:Sto) (b1:Nat),(∀(U7:Bool),out=U7->∀(T:TT) (ss:Sto),T 0=sf K1 a0/\T 6=sf cI x12/\T 7=i6 Yq/\T 8=.bool U7->Fx tt ss [(b1,⟨34,5,[i6 a1.kind,.str a1.name,i6 a1.num,sf cI a1.sc,sf KZ a1.kids]⟩)] []->Q (.ex 2) ⟨T,ss⟩)->True->∀(T:TT) (ss:Sto),T 0=sf K1 a0/\T 6=sf cI x12/\T 7=i6 Yq/\T 8=.bool V9/\T 9=i6 Gg->Fx tt ss [(b1,⟨34,5,[i6 a1.kind,.str a1.name,i6 a1.num,sf cI a1.sc,sf KZ a1.kids]⟩)] []->aLp K0 c Q ⟨T,ss⟩:=by
 intro a0 a1 x12 Yq V9 Gg;revert V9 Gg;refine VX.partial_correctness a0 a1 x12 Yq _ ?_;intro VX IH V9 Gg out H c hc Q tt b1 hE hR T ss tT hF;refine lpx tt hc rfl fun q hX=>go ?_;refine cdp H (fun h H=>?_) (fun h H=>?_)
 ·refine go ?_;refine Yg E0 [.v,.v,.v,.v,.v,.v,.v,.v,.v,.v,.v,.v,.v,.v,.v,.v,.v,.v,.v,.v,.v] (by kernel_rfl) ?_;refine go ?_;obtain ⟨x44,g3,H⟩:=bnd H;refine W6 17 27 44 (.bool x44) (ti q (fun q=>?_) (fun q=>?_)) (fun J=>?_)
  ·rw [if_pos (dbt q)] at g3;obtain ⟨x30,f1,g3⟩:=bil (g:=cI) (fun _=>rfl) g3;obtain ⟨x32,f2,g3⟩:=bil (g:=K1) Bnd.X6 g3;obtain ⟨x38,f3,g3⟩:=bil (g:=cI) (fun _=>rfl) g3;obtain ⟨x40,f4,g3⟩:=bil (g:=K1) Bnd.X6 g3;refine go4 ?_;obtain ⟨x43,hx43,g3⟩:=bnd g3;refine cv (IV x32.sc x40.sc _ hx43) ?_;refine go ?_;exact Yt 27 g3
  ·rw [if_neg (dbf q)] at g3;refine go ?_;exact Yt 27 g3
  refine go ?_;exact IH  x44 (i64.wrap (Gg+1)) _ H _ rfl Q tt b1 hE hR _ _  S hF
 ·refine go ?_;exact wq (hE _ (pur H).symm _ _  S hF)
theorem Ep:∀(a0:List Bnd) (a1:Fm) (x12:List Int) (Yq:Int) out,Ws a0 a1 x12 Yq=some out->∀c,Yh Tryz.f138 0=some c->∀(Q:QT) (tt:Sto) (b1:Nat),(∀(_u:Unit),out=Sum.inr ()->∀(T:TT) (ss:Sto),T 6=sf cI x12->Fx tt ss [(b1,⟨34,5,[i6 a1.kind,.str a1.name,i6 a1.num,sf cI a1.sc,sf KZ a1.kids]⟩)] []->Q (.ex 0) ⟨T,ss⟩)->(∀r,out=Sum.inl r->∀s',IP K0 [.tmp 4,.tmp 5] (fun r' ss'=>r'=.tup [i6 r.1,i6 r.2]/\ss'=tt) s'->Q .ret s')->∀(T:TT) (ss:Sto),T 0=sf K1 a0/\T 6=sf cI x12/\T 7=i6 Yq->Fx tt ss [(b1,⟨34,5,[i6 a1.kind,.str a1.name,i6 a1.num,sf cI a1.sc,sf KZ a1.kids]⟩)] []->aLp K0 c Q ⟨T,ss⟩:=by
 intro a0 a1 x12 Yq;revert Yq;refine Ws.partial_correctness a0 a1 x12 _ ?_;intro Ws IH Yq out H c hc Q tt b1 hE hR T ss tT hF;refine lpx tt hc rfl fun q hX=>go ?_;refine cdp H (fun h H=>?_) (fun h H=>?_)
 ·refine go ?_;obtain ⟨o5,ho5,H⟩:=bnd H;refine Er a0 a1 x12 Yq true 0 _ ho5 _ rfl _ _ b1 ?_ ?_ _ _  S hF
  ·intro Qcu he T7 s8 tT hF;have he:=he.symm;subst he;refine go ?_;refine cdb H (fun h H=>?_) (fun h H=>?_)
   ·obtain ⟨x48,f1,H⟩:=bil (g:=cI) (fun _=>rfl) H;refine go1 ?_;refine go ?_;exact wq (hR _ (pur H).symm _ (rt _))
   ·refine go ?_;exact IH  (i64.wrap (Yq+1)) _ H _ rfl Q tt b1 hE hR _ _  S hF
  ·trivial
 ·refine go ?_;exact wq (hE () (pur H).symm _ _  S hF)
theorem AY:∀(a0:List Bnd) (a1:Fm) r,HO a0 a1=some r->Vb K0 138 [sf K1 a0,.agg (KZ a1)] (.tup [i6 r.1,i6 r.2]):=by
 intro a0 a1 r H;intro ss;unfold HO at H;refine hdh mixed Tryz.func138 (rs:=[.tmp 4,.tmp 5]) fun q tT hF hX=>?_;refine go ?_;refine X9 hF rfl fun b1 ss2 hF=>?_;refine go ?_;refine bp H (Es a0 a1) fun x12 h H=>cl h ?_;refine go ?_;obtain ⟨o10,ho10,H⟩:=bnd H;refine Ep a0 a1 x12 0 _ ho10 _ rfl _ _ b1 ?_ ?_ _ _  S hF
 ·intro _ he T12 s13 tT hF;have he:=he.symm;subst he
  try dsimp only at H
  refine go ?_;refine cdp H (fun h H=>?_) (fun h H=>?_)
  ·refine go ?_;have e:=pur H;subst e;exact rt _
  ·refine go ?_;have e:=pur H;subst e;exact rt _
 ·intro r hr s' hs;subst hr;have e:=pur H;subst e;exact hsq hs
theorem DM:∀(a0:Xpn) (a1 Yi:Int) out,V7 a0 a1 Yi=some out->∀c,Yh Tryz.f139 0=some c->∀(Q:QT) (tt:Sto) (b1:Nat),(∀(_u:Unit),out=Sum.inr ()->∀(T:TT) (ss:Sto),0+0=0->Fx tt ss [(b1,⟨30,5,[sf K1 a0.binds,sf Ze a0.macs,i6 a0.scope,i6 a0.id,i6 a0.steps]⟩)] []->Q (.ex 0) ⟨T,ss⟩)->(∀r,out=Sum.inl r->∀s',IP K0 [.tmp 4] (fun r' ss'=>r'=i6 r/\ss'=tt) s'->Q .ret s')->∀(T:TT) (ss:Sto),T 1=i6 a1/\T 2=.ptr b1 0/\T 5=i6 Yi->Fx tt ss [(b1,⟨30,5,[sf K1 a0.binds,sf Ze a0.macs,i6 a0.scope,i6 a0.id,i6 a0.steps]⟩)] []->aLp K0 c Q ⟨T,ss⟩:=by
 intro a0 a1 Yi;revert Yi;refine V7.partial_correctness a0 a1 _ ?_;intro V7 IH Yi out H c hc Q tt b1 hE hR T ss tT hF;refine lpx tt hc rfl fun q hX=>go ?_;refine cdp H (fun h H=>?_) (fun h H=>?_)
 ·obtain ⟨x16,f1,H⟩:=bil (g:=Ze) Mac.X6 H;refine go1 ?_;refine go ?_;refine cdp H (fun h H=>?_) (fun h H=>?_)
  ·refine go ?_;exact wq (hR _ (pur H).symm _ (rt _))
  ·refine go ?_;exact IH  (i64.wrap (Yi+1)) _ H _ rfl Q tt b1 hE hR _ _  S hF
 ·refine go ?_;exact wq (hE () (pur H).symm _ _  S hF)
theorem Ij:∀(a0:Xpn) (a1:Int) r,Gk a0 a1=some r->Vb K0 139 [.agg (K8 a0),i6 a1] (i6 r):=by
 intro a0 a1 r H;intro ss;unfold Gk at H;refine hdh mixed Tryz.func139 (rs:=[.tmp 4]) fun q tT hF hX=>?_;refine go ?_;refine X9 hF rfl fun b1 ss2 hF=>?_;refine go ?_;obtain ⟨o3,ho3,H⟩:=bnd H;refine DM a0 a1 0 _ ho3 _ rfl _ _ b1 ?_ ?_ _ _  S hF
 ·intro _ he T5 ss6 tT hF;have he:=he.symm;subst he
  try dsimp only at H
  refine go ?_;have e:=pur H;subst e;exact rt _
 ·intro r hr s' hs;subst hr;have e:=pur H;subst e;exact hsq hs
theorem Hr:∀(a0:Xpn) (a1:Fm) r,Jm a0 a1=some r->Vb K0 112 [.agg (K8 a0),.agg (KZ a1)] (.tup [i6 r.1,i6 r.2]):=by
 intro a0 a1 r H;intro ss;unfold Jm at H;refine hdh mixed Tryz.func112 (rs:=[.tmp 4,.tmp 5]) fun q tT hF hX=>?_;refine go ?_;refine X9 hF rfl fun b1 ss2 hF=>?_;refine go ?_;refine X9 hF rfl fun b3 ss4 hF=>?_;refine go ?_;refine bp H (AY a0.binds a1) fun x13 h H=>cl h ?_;refine go ?_;refine cdp H (fun h H=>?_) (fun h H=>?_)
 ·refine go ?_;have e:=pur H;subst e;exact rt _
 ·refine go ?_;refine cdp H (fun h H=>?_) (fun h H=>?_)
  ·refine go ?_;have e:=pur H;subst e;exact rt _
  ·obtain ⟨x24,f1,H⟩:=bil (g:=K1) Bnd.X6 H;refine go1 ?_;refine go ?_;refine cdp H (fun h H=>?_) (fun h H=>?_)
   ·refine go ?_;have e:=pur H;subst e;exact rt _
   ·refine go ?_;refine bp H (Ij a0 x24.id) fun x34 h H=>cl h ?_;refine go ?_;refine cdp H (fun h H=>?_) (fun h H=>?_)
    ·refine go ?_;have e:=pur H;subst e;exact rt _
    ·refine go ?_;have e:=pur H;subst e;exact rt _
theorem MF:∀(a0:Xpn) (a1:Fm) r,Al a0 a1=some r->Vb K0 122 [.agg (K8 a0),.agg (KZ a1)] (.tup [.agg (K8 r.1),.agg (Cor.cells r.2.1),i6 r.2.2]):=by
 intro a0 a1 r H;intro ss;unfold Al at H;refine hdh mixed Tryz.func122 (rs:=[.cell 4 30,.cell 5 105,.tmp 6]) fun q tT hF hX=>?_;refine go ?_;refine X9 hF rfl fun b1 ss2 hF=>?_;refine go ?_;refine X9 hF rfl fun b3 ss4 hF=>?_;refine go ?_;refine X9 hF rfl fun b5 ss6 hF=>?_;refine go ?_;refine X9 hF rfl fun b7 s8 hF=>?_;refine go ?_;refine bp H (Hr a0 a1) fun x12 h H=>cl h ?_;refine go ?_;refine cdp H (fun h H=>?_) (fun h H=>?_)
 ·refine go ?_;obtain ⟨E,hEq⟩:∃E,E=EE s8 [b5,b7]:=⟨_,rfl⟩
  have n9:¬E b3:=by rw [hEq];exact K6 (hF.at 2 rfl) (nm2 ⟨neL hF 2 1 rfl rfl (by decide),neL hF 2 0 rfl rfl (by decide)⟩)
  have n10:¬E b1:=by rw [hEq];exact K6 (hF.at 3 rfl) (nm2 ⟨neL hF 3 1 rfl rfl (by decide),neL hF 3 0 rfl rfl (by decide)⟩)
  refine Yg E [.v,.v,.v,.v,.x,.x,.v] (by kernel_rfl) ?_;have z:=K3 (X5 (hF.at 2 rfl) n9) (X5 (hF.at 3 rfl) n10);refine gh ?_;refine stK hF 1 (by rw [hEq];exact Zf (by simp)) rfl fun s11 hF=>?_;have z:=K3 (X5 (hF.at 2 rfl) n9) (X5 (hF.at 3 rfl) n10);refine gh ?_;refine stK hF 0 (by rw [hEq];exact Zf (by simp)) rfl fun s12 hF=>?_;have z:=K3 (X5 (hF.at 2 rfl) n9) (X5 (hF.at 3 rfl) n10);refine gh ?_;refine go ?_;have e:=pur H;subst e;exact rt [.agg [sf K1 a0.binds,sf Ze a0.macs,i6 a0.scope,i6 a0.id,i6 a0.steps],.agg [i6 2,i6 0,.str a1.name,i6 0,.Yb,i6 0,.str zB,i6 0,.Yb,.Yb,.Yb],i6 0]
 ·refine go ?_;refine cdp H (fun h H=>?_) (fun h H=>?_)
  ·refine go ?_;refine st hF 1 rfl fun s13 hF=>?_;refine go ?_;refine st hF 0 rfl fun s14 hF=>?_;refine go ?_;have e:=pur H;subst e;exact rt _
  ·refine go ?_;refine cdp H (fun h H=>?_) (fun h H=>?_)
   ·refine go ?_;refine st hF 1 rfl fun s15 hF=>?_;refine go ?_;refine st hF 0 rfl fun s16 hF=>?_;refine go ?_;have e:=pur H;subst e;exact rt _
   ·refine go ?_;refine st hF 1 rfl fun s17 hF=>?_;refine go ?_;refine st hF 0 rfl fun s18 hF=>?_;refine go ?_;have e:=pur H;subst e;exact rt _
theorem Hl:∀(a0:Fm) r,Y3 a0=some r->Vb K0 20 [.agg (KZ a0)] (.agg (KZ r)):=by
 refine Y3.partial_correctness _ (motive_2:=fun a0 X8 Yx out=>∀c,Yh Tryz.f20 0=some c->∀(Q:QT) (tt:Sto) (b1 b3 b5:Nat),(∀(YO:List Fm),out=YO->∀(T:TT) (ss:Sto) (e0v0:AV),T 2=.ptr b3 0/\T 3=.ptr b5 0->Fx tt ss [(b5,⟨34,5,[i6 a0.kind,.str a0.name,i6 a0.num,.Yb,e0v0]⟩),(b3,⟨34,5,[i6 0,.str zB,i6 0,.Yb,.Yb]⟩),(b1,⟨34,5,[i6 a0.kind,.str a0.name,i6 a0.num,sf cI a0.sc,sf KZ a0.kids]⟩)] [⟨e0v0,34,5,rws KZ YO⟩]->Q (.ex 0) ⟨T,ss⟩)->True->∀(T:TT) (ss:Sto) (z0v0:AV),T 1=.ptr b1 0/\T 2=.ptr b3 0/\T 3=.ptr b5 0/\T 4=i6 Yx->Fx tt ss [(b5,⟨34,5,[i6 a0.kind,.str a0.name,i6 a0.num,.Yb,z0v0]⟩),(b3,⟨34,5,[i6 0,.str zB,i6 0,.Yb,.Yb]⟩),(b1,⟨34,5,[i6 a0.kind,.str a0.name,i6 a0.num,sf cI a0.sc,sf KZ a0.kids]⟩)] [⟨z0v0,34,5,rws KZ X8⟩]->aLp K0 c Q ⟨T,ss⟩) ?_ ?_
 ·intro VO L0 a0 r H;intro ss;refine hdh mixed Tryz.func20 (rs:=[.cell 2 34]) fun q tT hF hX=>?_;refine go ?_;refine X9 hF rfl fun b1 ss2 hF=>?_;refine go ?_;refine X9 hF rfl fun b3 ss4 hF=>?_;refine go ?_;refine X9 hF rfl fun b5 ss6 hF=>?_;refine go ?_;refine st hF 0 rfl fun s7 hF=>?_;have hF:=hF.nil 34 5;refine go ?_;obtain ⟨o11,ho11,H⟩:=bnd H;refine L0 a0 [] 0 _ ho11 _ rfl _ _ b1 b3 b5 ?_ ?_ _ _ .Yb S hF
  ·intro EP he T13 s14 e12v0 tT hF;have he:=he.symm;subst he;refine go ?_;refine st hF 1 rfl fun s16 hF=>?_;refine go ?_;have e:=pur H;subst e;exact rt _
  ·trivial
 ·intro Y3 VO C0 L0 a0 X8 Yx out H c hc Q tt b1 b3 b5 hE hR T ss z0v0 tT hF;refine lpx tt hc rfl fun q hX=>go ?_;refine cdp H (fun h H=>?_) (fun h H=>?_)
  ·refine go ?_;refine Yg E0 [.v,.v,.v,.v,.v,.v,.v,.v,.v,.x,.v,.z] (by kernel_rfl) ?_;obtain ⟨x24,f1,H⟩:=bil (g:=KZ) Fm.X6 H;refine go1 ?_;refine bp H (C0 x24) fun x26 h H=>cv h ?_;refine go ?_;refine Pr (g:=KZ) hF 0 H (rdo (c:=true) (g:=KZ) Fm.X6) fun x28 H v8 s9 hF=>?_;refine go ?_;refine st hF 0 (hF.cells 0 rfl) fun s10 hF=>?_;refine go ?_;exact L0 a0 x28 (i64.wrap (Yx+1)) _ H _ rfl Q tt b1 b3 b5 hE hR _ _ v8 S hF
  ·refine go ?_;exact wq (hE _ (pur H).symm _ _ z0v0 S hF)
theorem Am:∀(a0:Xpn) r,Hd a0=some r->Vb K0 162 [.agg (K8 a0)] (.tup [.agg (K8 r.1),.bool r.2]):=by
 intro a0 r H;intro ss;unfold Hd at H;refine hdh mixed Tryz.func162 (rs:=[.cell 2 30,.tmp 3]) fun q tT hF hX=>?_;refine go ?_;refine X9 hF rfl fun b1 ss2 hF=>?_;refine go ?_;refine X9 hF rfl fun b3 ss4 hF=>?_;refine go ?_;refine st hF 1 rfl fun ss5 hF=>?_;refine go ?_;obtain ⟨E,hEq⟩:∃E,E=EE ss5 [b3]:=⟨_,rfl⟩
 have n6:¬E b1:=by rw [hEq];exact K6 (hF.at 1 rfl) (nm1 (neL hF 1 0 rfl rfl (by decide)))
 refine Yg E [.v,.v,.v,.v,.x,.v] (by kernel_rfl) ?_;have z:=X5 (hF.at 1 rfl) n6;refine gh ?_;refine stK hF 0 (by rw [hEq];exact Zf (by simp)) rfl fun s7 hF=>?_;have z:=X5 (hF.at 1 rfl) n6;refine gh ?_;refine go ?_;have e:=pur H;subst e;exact rt [.agg [sf K1 a0.binds,sf Ze a0.macs,i6 (i64.wrap (a0.scope+1)),i6 a0.id,i6 a0.steps],.bool (decide ((i64.wrap (a0.scope+1))<=99))]
theorem En:∀(a0:List Int) (a1:Int) (X8:List Int) (Yy:Int) out,VW a0 a1 X8 Yy=some out->∀c,Yh Tryz.f165 0=some c->∀(Q:QT) (tt:Sto),(∀(YO:List Int),out=YO->∀(T:TT) (ss:Sto) (e0v0:AV),T 5=e0v0->Fx tt ss [] [⟨e0v0,3,1,rws cI YO⟩]->Q (.ex 0) ⟨T,ss⟩)->True->∀(T:TT) (ss:Sto) (z0v0:AV),T 0=sf cI a0/\T 1=i6 a1/\T 5=z0v0/\T 6=i6 Yy->Fx tt ss [] [⟨z0v0,3,1,rws cI X8⟩]->aLp K0 c Q ⟨T,ss⟩:=by
 intro a0 a1 X8 Yy;revert X8 Yy;refine VW.partial_correctness a0 a1 _ ?_;intro VW IH X8 Yy out H c hc Q tt  hE hR T ss z0v0 tT hF;refine lpx tt hc rfl fun q hX=>go ?_;refine cdp H (fun h H=>?_) (fun h H=>?_)
 ·obtain ⟨x16,f1,H⟩:=bil (g:=cI) (fun _=>rfl) H;refine go1 ?_;refine go ?_;refine cdn H (fun h H=>?_) (fun h H=>?_)
  ·obtain ⟨x23,f1,H⟩:=bil (g:=cI) (fun _=>rfl) H;refine go1 ?_;refine apd (g:=cI) hF 0 H (rdo (c:=true) (g:=cI) (fun _=>rfl)) fun x26 H v1 ss2 hF=>?_;refine go ?_;exact IH  x26 (i64.wrap (Yy+1)) _ H _ rfl Q tt  hE hR _ _ v1 S hF
  ·refine go ?_;exact IH  X8 (i64.wrap (Yy+1)) _ H _ rfl Q tt  hE hR _ _ z0v0 S hF
 ·refine go ?_;exact wq (hE _ (pur H).symm _ _ z0v0 S hF)
theorem Mq:∀(a0:List Int) (a1:Int) r,Iu a0 a1=some r->Vb K0 165 [sf cI a0,i6 a1] (sf cI r):=by
 intro a0 a1 r H;intro ss;unfold Iu at H;refine hdh mixed Tryz.func165 (rs:=[.tmp 4]) fun q tT hF hX=>?_;have hF:=hF.lit 3 1 (rws cI []) rfl;refine go ?_;obtain ⟨o3,ho3,H⟩:=bnd H;refine En a0 a1 [] 0 _ ho3 _ rfl _ _  ?_ ?_ _ _ (.sl true (rws cI [])) S hF
 ·intro Qjg he T5 ss6 e4v0 tT hF;have he:=he.symm;subst he;refine go ?_;have e:=pur H;subst e;exact rt _
 ·trivial
theorem Fg:∀(a0:List Int) (a1:Int) (X8:List Int) (Yy:Bool) (Yq:Int) out,W2 a0 a1 X8 Yy Yq=some out->∀c,Yh Tryz.f166 0=some c->∀(Q:QT) (tt:Sto),(∀(YO:List Int) (Qjc:Bool),out=(YO,Qjc)->∀(T:TT) (ss:Sto) (e0v0:AV),T 1=i6 a1/\T 5=e0v0/\T 6=.bool Qjc->Fx tt ss [] [⟨e0v0,3,1,rws cI YO⟩]->Q (.ex 0) ⟨T,ss⟩)->True->∀(T:TT) (ss:Sto) (z0v0:AV),T 0=sf cI a0/\T 1=i6 a1/\T 5=z0v0/\T 6=.bool Yy/\T 7=i6 Yq->Fx tt ss [] [⟨z0v0,3,1,rws cI X8⟩]->aLp K0 c Q ⟨T,ss⟩:=by
 intro a0 a1 X8 Yy Yq;revert X8 Yy Yq;refine W2.partial_correctness a0 a1 _ ?_;intro W2 IH X8 Yy Yq out H c hc Q tt  hE hR T ss z0v0 tT hF;refine lpx tt hc rfl fun q hX=>go ?_;refine cdp H (fun h H=>?_) (fun h H=>?_)
 ·refine go ?_;obtain ⟨x27,g1,H⟩:=bnd H;refine Yc 6 21 27 (.bool x27) (gi q (fun q=>?_) (fun q=>?_)) (fun J=>?_)
  ·rw [if_pos (dbt q)] at g1;obtain ⟨x23,f1,g1⟩:=bil (g:=cI) (fun _=>rfl) g1;refine go1 ?_;refine go ?_;exact Yt 21 g1
  ·rw [if_neg (dbf q)] at g1;refine go ?_;exact Yt 21 g1
  refine go ?_;obtain ⟨⟨IU,TE⟩,j4,H⟩:=bnd H;refine Vy (fun s'=>∃(T:TT) (ss1:Sto) (y3v0:AV),s'=⟨T,ss1⟩/\(T 0=sf cI a0/\T 1=i6 a1/\T 5=y3v0/\T 6=.bool TE/\T 7=i6 Yq)/\Fx tt ss1 [] [⟨y3v0,3,1,rws cI IU⟩]) (cdb j4 (fun h j4=>?_) (fun h j4=>?_)) ?_
  ·refine go ?_;refine apd (g:=cI) hF 0 j4 (rdo (c:=true) (g:=cI) (fun _=>rfl)) fun x31 j4 v5 ss6 hF=>?_;refine go ?_;have e:=pur j4
   injection e with e0 e
   subst e0;subst e;exact ⟨_,_,v5,rfl,S,hF⟩
  ·refine go ?_;have e:=pur j4
   injection e with e0 e
   subst e0;subst e;exact ⟨_,_,z0v0,rfl,S,hF⟩
  ·rintro s' ⟨T7,s8,y3v0,rfl,tT,hF⟩;obtain ⟨x35,f1,H⟩:=bil (g:=cI) (fun _=>rfl) H;refine go1 ?_;refine apd (g:=cI) hF 0 H (rdo (c:=true) (g:=cI) (fun _=>rfl)) fun x38 H v10 s11 hF=>?_;refine go ?_;exact IH  x38 TE (i64.wrap (Yq+1)) _ H _ rfl Q tt  hE hR _ _ v10 S hF
 ·refine go ?_;exact wq (hE _ _ (pur H).symm _ _ z0v0 S hF)
theorem NL:∀(a0:List Int) (a1:Int) r,I2 a0 a1=some r->Vb K0 166 [sf cI a0,i6 a1] (sf cI r):=by
 intro a0 a1 r H;intro ss;unfold I2 at H;refine hdh mixed Tryz.func166 (rs:=[.tmp 4]) fun q tT hF hX=>?_;refine go ?_;refine bp H (Ig a0 a1) fun x11 h H=>cl h ?_;have hF:=hF.lit 3 1 (rws cI []) rfl;refine go ?_;obtain ⟨o12,ho12,H⟩:=bnd H;refine Fg a0 a1 [] x11 0 _ ho12 _ rfl _ _  ?_ ?_ _ _ (.sl true (rws cI [])) S hF
 ·intro MP Qe3 he T14 s15 e13v0 tT hF;have he:=he.symm;subst he
  try dsimp only at H
  refine go ?_;refine cdb H (fun h H=>?_) (fun h H=>?_)
  ·refine go ?_;refine apd (g:=cI) hF 0 H (rdo (c:=true) (g:=cI) (fun _=>rfl)) fun x44 H v17 s18 hF=>?_;refine go ?_;have e:=pur H;subst e;exact rt _
  ·refine go ?_;have e:=pur H;subst e;exact rt _
 ·trivial
theorem YS:∀(a0:Fm) (a1 a2:Int) r,YB a0 a1 a2=some r->Vb K0 143 [.agg (KZ a0),i6 a1,i6 a2] (.agg (KZ r)):=by
 intro a0 a1 a2;revert a0;refine YB.partial_correctness a1 a2 (motive_1:=fun a0 r=>Vb K0 143 [.agg (KZ a0),i6 a1,i6 a2] (.agg (KZ r))) (motive_2:=fun a0 JZ X8 YI out=>∀c,Yh Tryz.f143 0=some c->∀(Q:QT) (tt:Sto) (b1 b3 b5:Nat),(∀(YO:List Fm),out=YO->∀(T:TT) (ss:Sto) (e0v0:AV),T 6=.ptr b3 0/\T 7=.ptr b5 0->Fx tt ss [(b5,⟨34,5,[i6 a0.kind,.str a0.name,i6 a0.num,sf cI JZ,e0v0]⟩),(b3,⟨34,5,[i6 0,.str zB,i6 0,.Yb,.Yb]⟩),(b1,⟨34,5,[i6 a0.kind,.str a0.name,i6 a0.num,sf cI a0.sc,sf KZ a0.kids]⟩)] [⟨e0v0,34,5,rws KZ YO⟩]->Q (.ex 0) ⟨T,ss⟩)->True->∀(T:TT) (ss:Sto) (z0v0:AV),T 1=i6 a1/\T 2=i6 a2/\T 3=.ptr b1 0/\T 6=.ptr b3 0/\T 7=.ptr b5 0/\T 8=i6 YI->Fx tt ss [(b5,⟨34,5,[i6 a0.kind,.str a0.name,i6 a0.num,sf cI JZ,z0v0]⟩),(b3,⟨34,5,[i6 0,.str zB,i6 0,.Yb,.Yb]⟩),(b1,⟨34,5,[i6 a0.kind,.str a0.name,i6 a0.num,sf cI a0.sc,sf KZ a0.kids]⟩)] [⟨z0v0,34,5,rws KZ X8⟩]->aLp K0 c Q ⟨T,ss⟩) ?_ ?_
 ·intro Wd L0 a0 r H;intro ss;refine hdh mixed Tryz.func143 (rs:=[.cell 6 34]) fun q tT hF hX=>?_;refine go ?_;refine X9 hF rfl fun b1 ss2 hF=>?_;refine go ?_;refine X9 hF rfl fun b3 ss4 hF=>?_;refine go ?_;refine Yg E0 [.v,.v,.v,.v,.v,.v,.v,.v,.v,.v,.v,.x,.z] (by kernel_rfl) ?_;refine go ?_;obtain ⟨x18,hx18,H⟩:=bnd H;refine MZ (g:=cI) (xs:=[]) (ys:=a0.sc) (fun _=>rfl) (by decide) (by decide) (.inr (by first | rfl | simp only [Y2,VJ,cI,cU,cS,cL])) (.inr ⟨_,by first | rfl | simp only [Y2,VJ,cI,cU,cS,cL]⟩) hx18 ?_;refine go ?_;refine WY hF rfl fun b5 ss6 hF=>?_;refine go ?_;refine st hF 0 rfl fun s7 hF=>?_;refine go ?_;obtain ⟨JZ,j9,H⟩:=bnd H;refine Vy (fun s'=>∃(T:TT) (ss1:Sto),s'=⟨T,ss1⟩/\(T 1=i6 a1/\T 2=i6 a2/\T 3=.ptr b1 0/\T 6=.ptr b3 0/\T 7=.ptr b5 0)/\Fx ss ss1 [(b5,⟨34,5,[i6 a0.kind,.str a0.name,i6 a0.num,sf cI JZ,.Yb]⟩),(b3,⟨34,5,[i6 0,.str zB,i6 0,.Yb,.Yb]⟩),(b1,⟨34,5,[i6 a0.kind,.str a0.name,i6 a0.num,sf cI a0.sc,sf KZ a0.kids]⟩)] []) (cdp j9 (fun h j9=>?_) (fun h j9=>?_)) ?_
  ·refine go ?_;obtain ⟨x34,g10,j9⟩:=bnd j9;refine Yc 8 26 34 (.bool x34) (giN q (fun q=>?_) (fun q=>?_)) (fun J=>?_)
   ·rw [if_neg (df q)] at g10;refine go ?_;obtain ⟨x33,g12,g10⟩:=bnd g10;refine Yc 4 29 33 (.bool x33) (gi q (fun q=>?_) (fun q=>?_)) (fun J=>?_)
    ·rw [if_pos (dt q)] at g12;refine go ?_;obtain ⟨x32,hx32,g12⟩:=bnd g12;refine cl (Ig a0.sc a1 _ hx32) ?_;refine go ?_;exact Yt 29 g12
    ·rw [if_neg (df q)] at g12;refine go ?_;exact Yt 29 g12
    refine go ?_;exact Yt 26 g10
   ·rw [if_pos (dt q)] at g10;refine go ?_;exact Yt 26 g10
   refine go ?_;refine cdb j9 (fun h j9=>?_) (fun h j9=>?_)
   ·refine go ?_;obtain ⟨x38,hx38,j9⟩:=bnd j9;refine cl (Mq a0.sc a1 _ hx38) ?_;refine go ?_;refine st hF 0 rfl fun s14 hF=>?_;refine go ?_;have e:=pur j9;subst e;exact ⟨_,_,rfl,S,hF⟩
   ·refine go ?_;obtain ⟨x43,hx43,j9⟩:=bnd j9;refine cl (NL a0.sc a1 _ hx43) ?_;refine go ?_;refine st hF 0 rfl fun s15 hF=>?_;refine go ?_;have e:=pur j9;subst e;exact ⟨_,_,rfl,S,hF⟩
  ·refine go ?_;have e:=pur j9;subst e;exact ⟨_,_,rfl,S,hF⟩
  ·rintro s' ⟨T16,s17,rfl,tT,hF⟩;have hF:=hF.nil 34 5;refine go ?_;obtain ⟨o22,ho22,H⟩:=bnd H;refine L0 a0 JZ [] 0 _ ho22 _ rfl _ _ b1 b3 b5 ?_ ?_ _ _ .Yb S hF
   ·intro Ow he T24 s25 e23v0 tT hF;have he:=he.symm;subst he;refine go ?_;refine st hF 1 rfl fun s27 hF=>?_;refine go ?_;have e:=pur H;subst e;exact rt _
   ·trivial
 ·intro YB Wd C0 L0 a0 JZ X8 YI out H c hc Q tt b1 b3 b5 hE hR T ss z0v0 tT hF;refine lpx tt hc rfl fun q hX=>go ?_;refine cdp H (fun h H=>?_) (fun h H=>?_)
  ·refine go ?_;refine Yg E0 [.v,.v,.v,.v,.v,.v,.v,.v,.v,.v,.v,.x,.v,.z] (by kernel_rfl) ?_;obtain ⟨x57,f1,H⟩:=bil (g:=KZ) Fm.X6 H;refine go1 ?_;refine bp H (C0 x57) fun x61 h H=>cv h ?_;refine go ?_;refine Pr (g:=KZ) hF 0 H (rdo (c:=true) (g:=KZ) Fm.X6) fun x63 H v19 s20 hF=>?_;refine go ?_;refine st hF 0 (hF.cells 0 rfl) fun s21 hF=>?_;refine go ?_;exact L0 a0 JZ x63 (i64.wrap (YI+1)) _ H _ rfl Q tt b1 b3 b5 hE hR _ _ v19 S hF
  ·refine go ?_;exact wq (hE _ (pur H).symm _ _ z0v0 S hF)
theorem Eh:∀(a0 a1:List Int) (Yi:Int) out,Wp a0 a1 Yi=some out->∀c,Yh Tryz.f183 0=some c->∀(Q:QT) (tt:Sto),(∀(_u:Unit),out=Sum.inr ()->∀(T:TT) (ss:Sto),0+0=0->Fx tt ss [] []->Q (.ex 0) ⟨T,ss⟩)->(∀r,out=Sum.inl r->∀s',IP K0 [.tmp 4] (fun r' ss'=>r'=.bool r/\ss'=tt) s'->Q .ret s')->∀(T:TT) (ss:Sto),T 0=sf cI a0/\T 1=sf cI a1/\T 5=i6 Yi->Fx tt ss [] []->aLp K0 c Q ⟨T,ss⟩:=by
 intro a0 a1 Yi;revert Yi;refine Wp.partial_correctness a0 a1 _ ?_;intro Wp IH Yi out H c hc Q tt  hE hR T ss tT hF;refine lpx tt hc rfl fun q hX=>go ?_;refine cdp H (fun h H=>?_) (fun h H=>?_)
 ·refine go ?_;refine Yg E0 [.v,.v,.v,.v,.v,.v,.v,.v,.v] (by kernel_rfl) ?_;obtain ⟨x19,f1,H⟩:=bil (g:=cI) (fun _=>rfl) H;obtain ⟨x23,f2,H⟩:=bil (g:=cI) (fun _=>rfl) H;refine go2 ?_;refine go ?_;refine cdn H (fun h H=>?_) (fun h H=>?_)
  ·refine go ?_;exact wq (hR _ (pur H).symm _ (rt _))
  ·refine go ?_;exact IH  (i64.wrap (Yi+1)) _ H _ rfl Q tt  hE hR _ _  S hF
 ·refine go ?_;exact wq (hE () (pur H).symm _ _  S hF)
theorem CI:∀(a0 a1:List Int) r,It a0 a1=some r->Vb K0 183 [sf cI a0,sf cI a1] (.bool r):=by
 intro a0 a1 r H;intro ss;unfold It at H;refine hdh mixed Tryz.func183 (rs:=[.tmp 4]) fun q tT hF hX=>?_;refine go ?_;refine cdn H (fun h H=>?_) (fun h H=>?_)
 ·refine go ?_;have e:=pur H;subst e;exact rt _
 ·refine go ?_;obtain ⟨o1,ho1,H⟩:=bnd H;refine Eh a0 a1 0 _ ho1 _ rfl _ _  ?_ ?_ _ _  S hF
  ·intro _ he T3 ss4 tT hF;have he:=he.symm;subst he
   try dsimp only at H
   refine go ?_;have e:=pur H;subst e;exact rt _
  ·intro r hr s' hs;subst hr;have e:=pur H;subst e;exact hsq hs
theorem B0:∀(a0:List Bnd) (Yo L4:Int) out,Vs a0 Yo L4=some out->∀c,Yh Tryz.f168 1=some c->∀(Q:QT) (tt:Sto),(∀(_u:Unit),out=Sum.inr ()->∀(T:TT) (ss:Sto),T 0=sf K1 a0/\T 3=i6 Yo->Fx tt ss [] []->Q (.ex 2) ⟨T,ss⟩)->(∀r,out=Sum.inl r->∀s',IP K0 [.tmp 2] (fun r' ss'=>r'=.bool r/\ss'=tt) s'->Q .ret s')->∀(T:TT) (ss:Sto),T 0=sf K1 a0/\T 3=i6 Yo/\T 4=i6 L4->Fx tt ss [] []->aLp K0 c Q ⟨T,ss⟩:=by
 intro a0 Yo L4;revert L4;refine Vs.partial_correctness a0 Yo _ ?_;intro Vs IH L4 out H c hc Q tt  hE hR T ss tT hF;refine lpx tt hc rfl fun q hX=>go ?_;refine cdp H (fun h H=>?_) (fun h H=>?_)
 ·refine go ?_;refine Yg E0 [.v,.v,.v,.v,.v,.v,.v,.v,.v,.v,.v,.v,.v,.v,.v,.v,.v,.v,.v,.v,.v,.v,.v,.v] (by kernel_rfl) ?_;obtain ⟨x54,f1,H⟩:=bil (g:=K1) Bnd.X6 H;obtain ⟨x59,f2,H⟩:=bil (g:=K1) Bnd.X6 H;refine go2 ?_;obtain ⟨x75,g9,H⟩:=bnd H;refine W6 11 64 75 (.bool x75) (ti q (fun q=>?_) (fun q=>?_)) (fun J=>?_)
  ·rw [if_pos (dt q)] at g9;obtain ⟨x66,f1,g9⟩:=bil (g:=K1) Bnd.X6 g9;obtain ⟨x71,f2,g9⟩:=bil (g:=K1) Bnd.X6 g9;refine go2 ?_;obtain ⟨x74,hx74,g9⟩:=bnd g9;refine cv (CI x66.sc x71.sc _ hx74) ?_;refine go ?_;exact Yt 64 g9
  ·rw [if_neg (df q)] at g9;refine go ?_;exact Yt 64 g9
  refine go ?_;refine cdb H (fun h H=>?_) (fun h H=>?_)
  ·refine go ?_;exact wq (hR _ (pur H).symm _ (rt _))
  ·refine go ?_;exact IH  (i64.wrap (L4+1)) _ H _ rfl Q tt  hE hR _ _  S hF
 ·refine go ?_;exact wq (hE () (pur H).symm _ _  S hF)
theorem BZ:∀(a0:List Bnd) (Yo:Int) out,Vr a0 Yo=some out->∀c,Yh Tryz.f168 0=some c->∀(Q:QT) (tt:Sto),(∀(_u:Unit),out=Sum.inr ()->∀(T:TT) (ss:Sto),T 0=sf K1 a0->Fx tt ss [] []->Q (.ex 0) ⟨T,ss⟩)->(∀r,out=Sum.inl r->∀s',IP K0 [.tmp 2] (fun r' ss'=>r'=.bool r/\ss'=tt) s'->Q .ret s')->∀(T:TT) (ss:Sto),T 0=sf K1 a0/\T 3=i6 Yo->Fx tt ss [] []->aLp K0 c Q ⟨T,ss⟩:=by
 intro a0 Yo;revert Yo;refine Vr.partial_correctness a0 _ ?_;intro Vr IH Yo out H c hc Q tt  hE hR T ss tT hF;refine lpx tt hc rfl fun q hX=>go ?_;obtain ⟨x12,g1,H⟩:=bnd H;refine Yc 2 10 12 (.bool x12) (gi q (fun q=>?_) (fun q=>?_)) (fun J=>?_)
 ·refine go ?_;exact Yt 10 g1
 ·refine go ?_;exact Yt 10 g1
 refine go ?_;refine cdb H (fun h H=>?_) (fun h H=>?_)
 ·obtain ⟨x17,f1,H⟩:=bil (g:=K1) Bnd.X6 H;refine go1 ?_;refine bp H (Iq x17.name) fun x20 h H=>cl h ?_;refine go ?_;obtain ⟨x30,g3,H⟩:=bnd H;refine Yc 7 23 30 (.bool x30) (giN q (fun q=>?_) (fun q=>?_)) (fun J=>?_)
  ·rw [if_neg (dbf q)] at g3;obtain ⟨x25,f1,g3⟩:=bil (g:=K1) Bnd.X6 g3;refine go1 ?_;obtain ⟨x28,hx28,g3⟩:=bnd g3;refine cl (By x25.sc _ hx28) ?_;refine go ?_;exact Yt 23 g3
  ·rw [if_pos (dbt q)] at g3;refine go ?_;exact Yt 23 g3
  refine go ?_;obtain ⟨x38,g5,H⟩:=bnd H;refine Yc 6 32 38 (.bool x38) (giN q (fun q=>?_) (fun q=>?_)) (fun J=>?_)
  ·rw [if_neg (dbf q)] at g5;obtain ⟨x34,f1,g5⟩:=bil (g:=K1) Bnd.X6 g5;refine go1 ?_;refine go ?_;exact Yt 32 g5
  ·rw [if_pos (dbt q)] at g5;refine go ?_;exact Yt 32 g5
  refine go ?_;obtain ⟨x46,g7,H⟩:=bnd H;refine Yc 6 40 46 (.bool x46) (giN q (fun q=>?_) (fun q=>?_)) (fun J=>?_)
  ·rw [if_neg (dbf q)] at g7;obtain ⟨x42,f1,g7⟩:=bil (g:=K1) Bnd.X6 g7;refine go1 ?_;refine go ?_;exact Yt 40 g7
  ·rw [if_pos (dbt q)] at g7;refine go ?_;exact Yt 40 g7
  refine go ?_;refine cdb H (fun h H=>?_) (fun h H=>?_)
  ·refine go ?_;exact wq (hR _ (pur H).symm _ (rt _))
  ·refine go ?_;obtain ⟨o11,ho11,H⟩:=bnd H;refine B0 a0 Yo 0 _ ho11 _ rfl _ _  ?_ ?_ _ _  S hF
   ·intro _ he T13 s14 tT hF;have he:=he.symm;subst he
    try dsimp only at H
    refine go ?_;exact IH  (i64.wrap (Yo+1)) _ H _ rfl Q tt  hE hR _ _  S hF
   ·intro r hr s' hs;subst hr;exact wq (hR _ (pur H).symm _ hs)
 ·refine go ?_;exact wq (hE () (pur H).symm _ _  S hF)
theorem Ic:∀(a0:List Bnd) r,Jt a0=some r->Vb K0 168 [sf K1 a0] (.bool r):=by
 intro a0 r H;intro ss;unfold Jt at H;refine hdh mixed Tryz.func168 (rs:=[.tmp 2]) fun q tT hF hX=>?_;refine go ?_;obtain ⟨o16,ho16,H⟩:=bnd H;refine BZ a0 0 _ ho16 _ rfl _ _  ?_ ?_ _ _  S hF
 ·intro _ he T18 s19 tT hF;have he:=he.symm;subst he
  try dsimp only at H
  refine go ?_;have e:=pur H;subst e;exact rt _
 ·intro r hr s' hs;subst hr;have e:=pur H;subst e;exact hsq hs
theorem EY:∀(a0:Fm) r,Bd a0=some r->Vb K0 192 [.agg (KZ a0)] (.bool r):=by
 intro a0 r H;intro ss;unfold Bd at H;refine hdh mixed Tryz.func192 (rs:=[.tmp 2]) fun q tT hF hX=>?_;refine go ?_;refine X9 hF rfl fun b1 ss2 hF=>?_;refine go ?_;obtain ⟨x9,g3,H⟩:=bnd H;refine Yc 2 7 9 (.bool x9) (gi q (fun q=>?_) (fun q=>?_)) (fun J=>?_)
 ·rw [if_pos (dt q)] at g3;refine go ?_;obtain ⟨x8,hx8,g3⟩:=bnd g3;refine cl (Yv a0 _ hx8) ?_;refine go ?_;exact Yt 7 g3
 ·rw [if_neg (df q)] at g3;refine go ?_;exact Yt 7 g3
 refine go ?_;have e:=pur H;subst e;exact rt _
theorem CA:∀(a0 X8:List Bnd) (Yx:Int) out,Vp a0 X8 Yx=some out->∀c,Yh Tryz.f75 0=some c->∀(Q:QT) (tt0:Sto),(∀(YO:List Bnd),out=YO->∀(T:TT) (ss tt:Sto) (e0v0:AV),T 3=e0v0->Tau tt0 [] tt->Fx tt ss [] [⟨e0v0,53,3,rws K1 YO⟩]->Q (.ex 0) ⟨T,ss⟩)->True->∀(T:TT) (ss tt:Sto) (z0v0:AV),T 0=sf K1 a0/\T 3=z0v0/\T 4=i6 Yx->Tau tt0 [] tt->Fx tt ss [] [⟨z0v0,53,3,rws K1 X8⟩]->aLp K0 c Q ⟨T,ss⟩:=by
 intro a0 X8 Yx;revert X8 Yx;refine Vp.partial_correctness a0 _ ?_;intro Vp IH X8 Yx out H c hc Q tt0  hE hR T ss tt z0v0 tT hX hF;refine lpy hc rfl fun q=>go ?_;refine cdp H (fun h H=>?_) (fun h H=>?_)
 ·obtain ⟨x15,f1,H⟩:=bil (g:=K1) Bnd.X6 H;refine go1 ?_;refine X9 hF rfl fun b1 ss2 hF=>?_;refine go ?_;refine st hF 0 rfl fun ss3 hF=>?_;refine go ?_;refine apv (g:=cI) H (fun _=>rfl) (rdo (c:=false) (g:=cI) (fun _=>rfl)) fun x20 H=>?_;refine go ?_;refine st hF 0 rfl fun ss4 hF=>?_;refine go ?_;refine apd (g:=K1) hF 0 H (rdo (c:=true) (g:=K1) Bnd.X6) fun x25 H v5 ss6 hF=>?_;refine go ?_;exact IH  x25 (i64.wrap (Yx+1)) _ H _ rfl Q tt0  hE hR _ _ _ v5 S hX (hF.drop 1 0)
 ·refine go ?_;exact wq (hE _ (pur H).symm _ _ _ z0v0 S hX hF)
theorem Eo:∀(a0:List Bnd) r,HD a0=some r->∀   (ss:Sto),Pre ss [] []->Ctr K0 75 [sf K1 a0] ss (fun r' ss'=>∃(tt':Sto) (w0:AV),r'=w0/\Tau (strip ss []) [] tt'/\Fx tt' ss' [] [⟨w0,53,3,rws K1 r⟩]):=by
 intro a0 r H;intro   ss hP;unfold HD at H;refine hdg mixed Tryz.func75 (rs:=[.tmp 2]) fun q tT=>?_;obtain ⟨hF,hX⟩:=hP.start;generalize strip ss []=tt0 at hF hX ⊢;have hF:=hF.lit 53 3 (rws K1 []) rfl;refine go ?_;obtain ⟨o7,ho7,H⟩:=bnd H;refine CA a0 [] 0 _ ho7 _ rfl _ tt0  ?_ ?_ _ _ _ (.sl true (rws K1 [])) S hX hF
 ·intro Qaa he T9 s10 t11 e8v0 tT hX hF;have he:=he.symm;subst he;refine go ?_;have e:=pur H;subst e;exact rg _ ⟨_,_,rfl,hX,hF.pick [] [0] (by decide) (by decide)⟩
 ·trivial
theorem Lp:∀(a0:List Bnd) (a1:Fm) (a2:Int) r,IG a0 a1 a2=some r->Vb K0 180 [sf K1 a0,.agg (KZ a1),i6 a2] (.tup [sf K1 r.1,.bool r.2]):=by
 intro a0 a1 a2 r H;intro ss;unfold IG at H;refine hdh mixed Tryz.func180 (rs:=[.tmp 6,.tmp 7]) fun q tT hF hX=>?_;refine go ?_;refine X9 hF rfl fun b1 ss2 hF=>?_;refine go ?_;refine bp H (Ic a0) fun x10 h H=>cl h ?_;refine go ?_;obtain ⟨x16,g3,H⟩:=bnd H;refine Yc 3 13 16 (.bool x16) (giN q (fun q=>?_) (fun q=>?_)) (fun J=>?_)
 ·rw [if_neg (dbf q)] at g3;refine go ?_;obtain ⟨x14,hx14,g3⟩:=bnd g3;refine cl (EY a1 _ hx14) ?_;refine go ?_;exact Yt 13 g3
 ·rw [if_pos (dbt q)] at g3;refine go ?_;exact Yt 13 g3
 refine go ?_;refine cdb H (fun h H=>?_) (fun h H=>?_)
 ·refine go ?_;have e:=pur H;subst e;exact rt _
 ·refine go ?_;obtain ⟨E,hEq⟩:∃E,E=EE ss2 []:=⟨_,rfl⟩
  have n5:¬E b1:=by rw [hEq];exact K6 (hF.at 0 rfl) (by simp)
  refine FD E [.v,.v,.v,.v,.v,.v,.v,.x,.v,.v,.v,.x,.v] [0,2,3,4,5,6,8,1,7,9,10,11,12] (by kernel_rfl) ?_;have z:=X5 (hF.at 0 rfl) n5;refine gh ?_;obtain ⟨x19,hx19,H⟩:=bnd H;refine cx (Eo a0 _ hx19   _ (pre 0 0 0 hF hX)) ?_;rintro v6 s7 ⟨t8,_,rfl,hT,hG⟩
  refine V0 (Zb hT hG (by intro p hp;simp only [Kk,KE,or_false] at hp<;>first | (rcases hp with rfl<;>(rw [hEq];first | (refine Zf ?_;simp;done) | exact Zs rfl))| cases hp)) fun kp10=>?_
  have hF:=L6 0 0 hF hX hT hG;have z:=X5 (hF.at 0 rfl) n5;refine gh ?_;obtain ⟨x25,hx25,H⟩:=bnd H;refine MZ (g:=cI) (xs:=[]) (ys:=a1.sc) (fun _=>rfl) (by decide) (by decide) (.inr (by first | rfl | simp only [Y2,VJ,cI,cU,cS,cL])) (.inr ⟨_,by first | rfl | simp only [Y2,VJ,cI,cU,cS,cL]⟩) hx25 ?_;have z:=X5 (hF.at 0 rfl) n5;refine gh ?_;refine Pr (g:=K1) hF 0 H (rdo (c:=true) (g:=K1) Bnd.X6) fun x29 H v11 s12 hF=>?_;have z:=X5 (hF.at 0 rfl) n5;refine gh ?_;refine go ?_;obtain ⟨x31,hx31,H⟩:=bnd H;refine Cg (Ic x29 _ hx31) .bool (.cons ((hF.wk 0 rfl).trans (Wk.sub (Sub.zero _) _)) (fun _=>rfl) .nil) ?_;refine go ?_;refine cdb H (fun h H=>?_) (fun h H=>?_)
  ·refine go ?_;have e:=pur H;subst e;exact rt _
  ·refine go ?_;have e:=pur H;subst e;exact rt _
theorem CL:∀(a0:Xpn) (a1:Fm) r,Hb a0 a1=some r->Vb K0 164 [.agg (K8 a0),.agg (KZ a1)] (.tup [.agg (K8 r.1),i6 r.2]):=by
 intro a0 a1 r H;intro ss;unfold Hb at H;refine hdh mixed Tryz.func164 (rs:=[.cell 4 30,.tmp 5]) fun q tT hF hX=>?_;refine go ?_;refine X9 hF rfl fun b1 ss2 hF=>?_;refine go ?_;refine X9 hF rfl fun b3 ss4 hF=>?_;refine go ?_;refine X9 hF rfl fun b5 ss6 hF=>?_;refine go ?_;refine cdp H (fun h H=>?_) (fun h H=>?_)
 ·refine go ?_;refine st hF 0 rfl fun s7 hF=>?_;refine go ?_;have e:=pur H;subst e;exact rt _
 ·refine go ?_;obtain ⟨x20,hx20,H⟩:=bnd H;refine cl (Lp a0.binds a1 (i64.wrap (a0.id+1)) _ hx20) ?_;refine go ?_;refine cdb H (fun h H=>?_) (fun h H=>?_)
  ·refine go ?_;refine st hF 0 rfl fun s8 hF=>?_;refine go ?_;have e:=pur H;subst e;exact rt _
  ·refine go ?_;refine st hF 2 rfl fun s9 hF=>?_;refine go ?_;refine st hF 2 rfl fun s10 hF=>?_;refine go ?_;refine st hF 0 rfl fun s11 hF=>?_;refine go ?_;have e:=pur H;subst e;exact rt _
theorem DO:∀(a0:Fm) (X8 HU:List Fm) (Yq:Int) out,V8 a0 X8 HU Yq=some out->∀c,Yh Tryz.f141 0=some c->∀(Q:QT) (tt:Sto) (b1:Nat),(∀(YO U1:List Fm),out=Sum.inr (YO,U1)->∀(T:TT) (ss:Sto) (e0v0 e0v1:AV),T 1=.ptr b1 0/\T 5=e0v0/\T 6=e0v1->Fx tt ss [(b1,⟨34,5,[i6 a0.kind,.str a0.name,i6 a0.num,sf cI a0.sc,sf KZ a0.kids]⟩)] [⟨e0v1,34,5,rws KZ U1⟩,⟨e0v0,34,5,rws KZ YO⟩]->Q (.ex 0) ⟨T,ss⟩)->(∀r,out=Sum.inl r->∀s',IP K0 [.tmp 2,.tmp 3,.tmp 4] (fun r' ss'=>r'=.tup [sf KZ r.1,sf KZ r.2.1,.bool r.2.2]/\ss'=tt) s'->Q .ret s')->∀(T:TT) (ss:Sto) (z0v0 z0v1:AV),T 1=.ptr b1 0/\T 5=z0v0/\T 6=z0v1/\T 7=i6 Yq->Fx tt ss [(b1,⟨34,5,[i6 a0.kind,.str a0.name,i6 a0.num,sf cI a0.sc,sf KZ a0.kids]⟩)] [⟨z0v1,34,5,rws KZ HU⟩,⟨z0v0,34,5,rws KZ X8⟩]->aLp K0 c Q ⟨T,ss⟩:=by
 intro a0 X8 HU Yq;revert X8 HU Yq;refine V8.partial_correctness a0 _ ?_;intro V8 IH X8 HU Yq out H c hc Q tt b1 hE hR T ss z0v0 z0v1 tT hF;refine lpx tt hc rfl fun q hX=>go ?_;refine cdp H (fun h H=>?_) (fun h H=>?_)
 ·obtain ⟨x20,f1,H⟩:=bil (g:=KZ) Fm.X6 H;refine go1 ?_;obtain ⟨x33,g3,H⟩:=bnd H;refine Yc 8 25 33 (.bool x33) (giN q (fun q=>?_) (fun q=>?_)) (fun J=>?_)
  ·rw [if_pos (dnf q)] at g3;obtain ⟨x28,f1,g3⟩:=bil (g:=KZ) Fm.X6 g3;refine go1 ?_;refine go ?_;exact Yt 25 g3
  ·rw [if_neg (dnt q)] at g3;refine go ?_;exact Yt 25 g3
  refine go ?_;refine cdb H (fun h H=>?_) (fun h H=>?_)
  ·refine go ?_;exact wq (hR _ (pur H).symm _ (rt _))
  ·obtain ⟨x40,f1,H⟩:=bil (g:=KZ) Fm.X6 H;obtain ⟨x43,f2,H⟩:=bil (g:=KZ) Fm.X6 H;refine go2 ?_;refine apd (g:=KZ) hF 1 H (rdo (c:=true) (g:=KZ) Fm.X6) fun x46 H v5 ss6 hF=>?_;obtain ⟨x51,f1,H⟩:=bil (g:=KZ) Fm.X6 H;obtain ⟨x54,f2,H⟩:=bil (g:=KZ) Fm.X6 H;refine go2 ?_;refine apd (g:=KZ) hF 0 H (rdo (c:=true) (g:=KZ) Fm.X6) fun x57 H v7 s8 hF=>?_;refine go ?_;exact IH  x46 x57 (i64.wrap (Yq+1)) _ H _ rfl Q tt b1 hE hR _ _ v5 v7 S hF
 ·refine go ?_;exact wq (hE _ _ (pur H).symm _ _ z0v0 z0v1 S hF)
theorem Hc:∀(a0:Fm) r,JO a0=some r->Vb K0 141 [.agg (KZ a0)] (.tup [sf KZ r.1,sf KZ r.2.1,.bool r.2.2]):=by
 intro a0 r H;intro ss;unfold JO at H;refine hdh mixed Tryz.func141 (rs:=[.tmp 2,.tmp 3,.tmp 4]) fun q tT hF hX=>?_;refine go ?_;refine X9 hF rfl fun b1 ss2 hF=>?_;have hF:=hF.lit 34 5 (rws KZ []) rfl;have hF:=hF.lit 34 5 (rws KZ []) rfl;refine go ?_;obtain ⟨o9,ho9,H⟩:=bnd H;refine DO a0 [] [] 0 _ ho9 _ rfl _ _ b1 ?_ ?_ _ _ (.sl true (rws KZ [])) (.sl true (rws KZ [])) S hF
 ·intro Oq Qe1 he T11 s12 e10v0 e10v1 tT hF;have he:=he.symm;subst he
  try dsimp only at H
  refine go ?_;refine Yg E0 [.v,.v,.v,.v,.v,.v,.v,.v] (by kernel_rfl) ?_;refine go ?_;have e:=pur H;subst e;exact rt _
 ·intro r hr s' hs;subst hr;have e:=pur H;subst e;exact hsq hs
theorem JD:∀(a0 a1:Fm) r,YU a0 a1=some r->Vb K0 176 [.agg (KZ a0),.agg (KZ a1)] (.bool r):=by
 refine YU.partial_correctness _ (motive_2:=fun a0 a1 Yi out=>∀c,Yh Tryz.f176 0=some c->∀(Q:QT) (tt:Sto) (b1 b3:Nat),(∀(_u:Unit),out=Sum.inr ()->∀(T:TT) (ss:Sto),0+0=0->Fx tt ss [(b3,⟨34,5,[i6 a1.kind,.str a1.name,i6 a1.num,sf cI a1.sc,sf KZ a1.kids]⟩),(b1,⟨34,5,[i6 a0.kind,.str a0.name,i6 a0.num,sf cI a0.sc,sf KZ a0.kids]⟩)] []->Q (.ex 0) ⟨T,ss⟩)->(∀r,out=Sum.inl r->∀s',IP K0 [.tmp 4] (fun r' ss'=>r'=.bool r/\ss'=tt) s'->Q .ret s')->∀(T:TT) (ss:Sto),T 2=.ptr b1 0/\T 3=.ptr b3 0/\T 5=i6 Yi->Fx tt ss [(b3,⟨34,5,[i6 a1.kind,.str a1.name,i6 a1.num,sf cI a1.sc,sf KZ a1.kids]⟩),(b1,⟨34,5,[i6 a0.kind,.str a0.name,i6 a0.num,sf cI a0.sc,sf KZ a0.kids]⟩)] []->aLp K0 c Q ⟨T,ss⟩) ?_ ?_
 ·intro Wc L0 a0 a1 r H;intro ss;refine hdh mixed Tryz.func176 (rs:=[.tmp 4]) fun q tT hF hX=>?_;refine go ?_;refine X9 hF rfl fun b1 ss2 hF=>?_;refine go ?_;refine X9 hF rfl fun b3 ss4 hF=>?_;refine go ?_;obtain ⟨x17,g5,H⟩:=bnd H;refine Yc 5 12 17 (.bool x17) (giN q (fun q=>?_) (fun q=>?_)) (fun J=>?_)
  ·refine go ?_;exact Yt 12 g5
  ·refine go ?_;exact Yt 12 g5
  refine go ?_;obtain ⟨x24,g7,H⟩:=bnd H;refine Yc 5 19 24 (.bool x24) (giN q (fun q=>?_) (fun q=>?_)) (fun J=>?_)
  ·refine go ?_;exact Yt 19 g7
  ·refine go ?_;exact Yt 19 g7
  refine go ?_;obtain ⟨x32,g9,H⟩:=bnd H;refine Yc 6 26 32 (.bool x32) (giN q (fun q=>?_) (fun q=>?_)) (fun J=>?_)
  ·rw [if_neg (dbf q)] at g9;refine go ?_;obtain ⟨x30,hx30,g9⟩:=bnd g9;refine cl (CI a0.sc a1.sc _ hx30) ?_;refine go ?_;exact Yt 26 g9
  ·rw [if_pos (dbt q)] at g9;refine go ?_;exact Yt 26 g9
  refine go ?_;obtain ⟨x41,g11,H⟩:=bnd H;refine Yc 7 34 41 (.bool x41) (giN q (fun q=>?_) (fun q=>?_)) (fun J=>?_)
  ·refine go ?_;exact Yt 34 g11
  ·refine go ?_;exact Yt 34 g11
  refine go ?_;refine cdb H (fun h H=>?_) (fun h H=>?_)
  ·refine go ?_;have e:=pur H;subst e;exact rt _
  ·refine go ?_;obtain ⟨o13,ho13,H⟩:=bnd H;refine L0 a0 a1 0 _ ho13 _ rfl _ _ b1 b3 ?_ ?_ _ _  S hF
   ·intro _ he T15 s16 tT hF;have he:=he.symm;subst he
    try dsimp only at H
    refine go ?_;have e:=pur H;subst e;exact rt _
   ·intro r hr s' hs;subst hr;have e:=pur H;subst e;exact hsq hs
 ·intro YU Wc C0 L0 a0 a1 Yi out H c hc Q tt b1 b3 hE hR T ss tT hF;refine lpx tt hc rfl fun q hX=>go ?_;refine cdp H (fun h H=>?_) (fun h H=>?_)
  ·refine go ?_;refine Yg E0 [.v,.v,.v,.v,.v,.v,.v,.v,.v,.v,.v,.v] (by kernel_rfl) ?_;obtain ⟨x52,f1,H⟩:=bil (g:=KZ) Fm.X6 H;obtain ⟨x57,f2,H⟩:=bil (g:=KZ) Fm.X6 H;refine go2 ?_;refine bp H (C0 x52 x57) fun x59 h H=>cv h ?_;refine go ?_;refine cdb H (fun h H=>?_) (fun h H=>?_)
   ·refine go ?_;exact wq (hR _ (pur H).symm _ (rt _))
   ·refine go ?_;exact L0 a0 a1 (i64.wrap (Yi+1)) _ H _ rfl Q tt b1 b3 hE hR _ _  S hF
  ·refine go ?_;exact wq (hE () (pur H).symm _ _  S hF)
theorem Ls:∀(a0:List Fm) (a1:Fm) (Yi:Int) out,JH a0 a1 Yi=some out->∀c,Yh Tryz.f186 0=some c->∀(Q:QT) (tt:Sto) (b1:Nat),(∀(_u:Unit),out=Sum.inr ()->∀(T:TT) (ss:Sto),0+0=0->Fx tt ss [(b1,⟨34,5,[i6 a1.kind,.str a1.name,i6 a1.num,sf cI a1.sc,sf KZ a1.kids]⟩)] []->Q (.ex 0) ⟨T,ss⟩)->(∀r,out=Sum.inl r->∀s',IP K0 [.tmp 4] (fun r' ss'=>r'=.bool r/\ss'=tt) s'->Q .ret s')->∀(T:TT) (ss:Sto),T 0=sf KZ a0/\T 3=.ptr b1 0/\T 5=i6 Yi->Fx tt ss [(b1,⟨34,5,[i6 a1.kind,.str a1.name,i6 a1.num,sf cI a1.sc,sf KZ a1.kids]⟩)] []->aLp K0 c Q ⟨T,ss⟩:=by
 intro a0 a1 Yi;revert Yi;refine JH.partial_correctness a0 a1 _ ?_;intro JH IH Yi out H c hc Q tt b1 hE hR T ss tT hF;refine lpx tt hc rfl fun q hX=>go ?_;refine cdp H (fun h H=>?_) (fun h H=>?_)
 ·refine go ?_;refine Yg E0 [.v,.v,.v,.v,.v,.v] (by kernel_rfl) ?_;obtain ⟨x14,f1,H⟩:=bil (g:=KZ) Fm.X6 H;refine go1 ?_;refine bp H (JD x14 a1) fun x17 h H=>cv h ?_;refine go ?_;refine cdb H (fun h H=>?_) (fun h H=>?_)
  ·refine go ?_;exact wq (hR _ (pur H).symm _ (rt _))
  ·refine go ?_;exact IH  (i64.wrap (Yi+1)) _ H _ rfl Q tt b1 hE hR _ _  S hF
 ·refine go ?_;exact wq (hE () (pur H).symm _ _  S hF)
theorem AF:∀(a0:List Fm) (a1:Fm) r,Ih a0 a1=some r->Vb K0 186 [sf KZ a0,.agg (KZ a1)] (.bool r):=by
 intro a0 a1 r H;intro ss;unfold Ih at H;refine hdh mixed Tryz.func186 (rs:=[.tmp 4]) fun q tT hF hX=>?_;refine go ?_;refine X9 hF rfl fun b1 ss2 hF=>?_;refine go ?_;obtain ⟨o3,ho3,H⟩:=bnd H;refine Ls a0 a1 0 _ ho3 _ rfl _ _ b1 ?_ ?_ _ _  S hF
 ·intro _ he T5 ss6 tT hF;have he:=he.symm;subst he
  try dsimp only at H
  refine go ?_;have e:=pur H;subst e;exact rt _
 ·intro r hr s' hs;subst hr;have e:=pur H;subst e;exact hsq hs
theorem B7:∀(a0:List Fm) (Yo:Int) out,Vx a0 Yo=some out->∀c,Yh Tryz.f185 0=some c->∀(Q:QT) (tt:Sto),(∀(_u:Unit),out=Sum.inr ()->∀(T:TT) (ss:Sto),T 0=sf KZ a0->Fx tt ss [] []->Q (.ex 0) ⟨T,ss⟩)->(∀r,out=Sum.inl r->∀s',IP K0 [.tmp 2] (fun r' ss'=>r'=.bool r/\ss'=tt) s'->Q .ret s')->∀(T:TT) (ss:Sto),T 0=sf KZ a0/\T 3=i6 Yo->Fx tt ss [] []->aLp K0 c Q ⟨T,ss⟩:=by
 intro a0 Yo;revert Yo;refine Vx.partial_correctness a0 _ ?_;intro Vx IH Yo out H c hc Q tt  hE hR T ss tT hF;refine lpx tt hc rfl fun q hX=>go ?_;obtain ⟨x11,g1,H⟩:=bnd H;refine Yc 2 9 11 (.bool x11) (gi q (fun q=>?_) (fun q=>?_)) (fun J=>?_)
 ·refine go ?_;exact Yt 9 g1
 ·refine go ?_;exact Yt 9 g1
 refine go ?_;refine cdb H (fun h H=>?_) (fun h H=>?_)
 ·refine go ?_;refine Yg E0 [.v,.v,.v,.v,.v,.v,.v,.v,.v,.v,.v,.v,.v,.v,.v,.v,.v,.v,.v,.v,.v,.v,.v,.v,.v,.v,.v,.v,.v,.v,.v,.v] (by kernel_rfl) ?_;obtain ⟨x16,f1,H⟩:=bil (g:=KZ) Fm.X6 H;refine go1 ?_;refine bp H (EY x16) fun x18 h H=>cv h ?_;refine go ?_;obtain ⟨x27,g3,H⟩:=bnd H;refine W6 6 21 27 (.bool x27) (tiN q (fun q=>?_) (fun q=>?_)) (fun J=>?_)
  ·rw [if_neg (dbf q)] at g3;obtain ⟨x23,f1,g3⟩:=bil (g:=KZ) Fm.X6 g3;refine go1 ?_;refine go ?_;exact Yt 21 g3
  ·rw [if_pos (dbt q)] at g3;refine go ?_;exact Yt 21 g3
  refine go ?_;obtain ⟨x35,g5,H⟩:=bnd H;refine W6 6 29 35 (.bool x35) (tiN q (fun q=>?_) (fun q=>?_)) (fun J=>?_)
  ·rw [if_neg (dbf q)] at g5;obtain ⟨x31,f1,g5⟩:=bil (g:=KZ) Fm.X6 g5;refine go1 ?_;refine go ?_;exact Yt 29 g5
  ·rw [if_pos (dbt q)] at g5;refine go ?_;exact Yt 29 g5
  refine go ?_;obtain ⟨x45,g7,H⟩:=bnd H;refine W6 8 37 45 (.bool x45) (tiN q (fun q=>?_) (fun q=>?_)) (fun J=>?_)
  ·rw [if_neg (dbf q)] at g7;obtain ⟨x39,f1,g7⟩:=bls (g:=KZ) Fm.X6 (lo:=none) (hi:=some (i6 Yo)) rfl rfl g7;obtain ⟨x42,f2,g7⟩:=bil (g:=KZ) Fm.X6 g7;refine go2 ?_;obtain ⟨x44,hx44,g7⟩:=bnd g7;refine cv (AF x39 x42 _ hx44) ?_;refine go ?_;exact Yt 37 g7
  ·rw [if_pos (dbt q)] at g7;refine go ?_;exact Yt 37 g7
  refine go ?_;refine cdb H (fun h H=>?_) (fun h H=>?_)
  ·refine go ?_;exact wq (hR _ (pur H).symm _ (rt _))
  ·refine go ?_;exact IH  (i64.wrap (Yo+1)) _ H _ rfl Q tt  hE hR _ _  S hF
 ·refine go ?_;exact wq (hE () (pur H).symm _ _  S hF)
theorem AG:∀(a0:List Fm) r,J8 a0=some r->Vb K0 185 [sf KZ a0] (.bool r):=by
 intro a0 r H;intro ss;unfold J8 at H;refine hdh mixed Tryz.func185 (rs:=[.tmp 2]) fun q tT hF hX=>?_;refine go ?_;obtain ⟨o9,ho9,H⟩:=bnd H;refine B7 a0 0 _ ho9 _ rfl _ _  ?_ ?_ _ _  S hF
 ·intro _ he T11 s12 tT hF;have he:=he.symm;subst he
  try dsimp only at H
  refine go ?_;have e:=pur H;subst e;exact rt _
 ·intro r hr s' hs;subst hr;have e:=pur H;subst e;exact hsq hs
theorem Va:∀(a0:Fm) r,YF a0=some r->Vb K0 195 [.agg (KZ a0)] (.bool r):=by
 intro a0 r H;intro ss;unfold YF at H;refine hdh mixed Tryz.func195 (rs:=[.tmp 2]) fun q tT hF hX=>?_;refine go ?_;refine X9 hF rfl fun b1 ss2 hF=>?_;refine go ?_;obtain ⟨x10,g3,H⟩:=bnd H;refine Yc 3 7 10 (.bool x10) (gi q (fun q=>?_) (fun q=>?_)) (fun J=>?_)
 ·refine go ?_;exact Yt 7 g3
 ·refine go ?_;exact Yt 7 g3
 refine go ?_;have e:=pur H;subst e;exact rt _
theorem Lx:∀(a0:Fm) r,Gh a0=some r->Vb K0 204 [.agg (KZ a0)] (.bool r):=by
 refine Gh.partial_correctness _ (motive_2:=fun a0 Yo Yx out=>∀c,Yh Tryz.f204 0=some c->∀(Q:QT) (tt:Sto) (b1:Nat),(∀(A6:Int),out=Sum.inr A6->∀(T:TT) (ss:Sto),T 3=i6 A6->Fx tt ss [(b1,⟨34,5,[i6 a0.kind,.str a0.name,i6 a0.num,sf cI a0.sc,sf KZ a0.kids]⟩)] []->Q (.ex 0) ⟨T,ss⟩)->(∀r,out=Sum.inl r->∀s',IP K0 [.tmp 2] (fun r' ss'=>r'=.bool r/\ss'=tt) s'->Q .ret s')->∀(T:TT) (ss:Sto),T 1=.ptr b1 0/\T 3=i6 Yo/\T 4=i6 Yx->Fx tt ss [(b1,⟨34,5,[i6 a0.kind,.str a0.name,i6 a0.num,sf cI a0.sc,sf KZ a0.kids]⟩)] []->aLp K0 c Q ⟨T,ss⟩) ?_ ?_
 ·intro V5 L0 a0 r H;intro ss;refine hdh mixed Tryz.func204 (rs:=[.tmp 2]) fun q tT hF hX=>?_;refine go ?_;refine X9 hF rfl fun b1 ss2 hF=>?_;refine go ?_;refine bp H (Va a0) fun x6 h H=>cl h ?_;refine go ?_;refine cdb H (fun h H=>?_) (fun h H=>?_)
  ·refine go ?_;have e:=pur H;subst e;exact rt _
  ·refine go ?_;obtain ⟨o5,ho5,H⟩:=bnd H;refine L0 a0 0 0 _ ho5 _ rfl _ _ b1 ?_ ?_ _ _  S hF
   ·intro Qgh he T7 s8 tT hF;have he:=he.symm;subst he
    try dsimp only at H
    refine go ?_;have e:=pur H;subst e;exact rt _
   ·intro r hr s' hs;subst hr;have e:=pur H;subst e;exact hsq hs
 ·intro Gh V5 C0 L0 a0 Yo Yx out H c hc Q tt b1 hE hR T ss tT hF;refine lpx tt hc rfl fun q hX=>go ?_;refine cdp H (fun h H=>?_) (fun h H=>?_)
  ·obtain ⟨x17,f1,H⟩:=bil (g:=KZ) Fm.X6 H;refine go1 ?_;refine bp H (Va x17) fun x19 h H=>cl h ?_;refine go ?_;refine cdb H (fun h H=>?_) (fun h H=>?_)
   ·refine go ?_;obtain ⟨x32,g3,H⟩:=bnd H;refine Yc 7 25 32 (.bool x32) (giN q (fun q=>?_) (fun q=>?_)) (fun J=>?_)
    ·rw [if_neg (df q)] at g3;obtain ⟨x29,f1,g3⟩:=bil (g:=KZ) Fm.X6 g3;refine go1 ?_;obtain ⟨x31,hx31,g3⟩:=bnd g3;refine cl (Va x29 _ hx31) ?_;refine go ?_;exact Yt 25 g3
    ·rw [if_pos (dt q)] at g3;refine go ?_;exact Yt 25 g3
    refine go ?_;refine cdb H (fun h H=>?_) (fun h H=>?_)
    ·refine go ?_;exact wq (hR _ (pur H).symm _ (rt _))
    ·refine go ?_;exact L0 a0 (i64.wrap (Yo+1)) (i64.wrap (Yx+1)) _ H _ rfl Q tt b1 hE hR _ _  S hF
   ·obtain ⟨x36,f1,H⟩:=bil (g:=KZ) Fm.X6 H;refine go1 ?_;refine bp H (C0 x36) fun x38 h H=>cl h ?_;refine go ?_;refine cdb H (fun h H=>?_) (fun h H=>?_)
    ·refine go ?_;exact wq (hR _ (pur H).symm _ (rt _))
    ·refine go ?_;exact L0 a0 Yo (i64.wrap (Yx+1)) _ H _ rfl Q tt b1 hE hR _ _  S hF
  ·refine go ?_;exact wq (hE _ (pur H).symm _ _  S hF)
theorem IY:∀(a0:Fm) (a1:List Fm) r,HX a0 a1=some r->Vb K0 211 [.agg (KZ a0),sf KZ a1] (.bool r):=by
 intro a0 a1 r H;intro ss;unfold HX at H;refine hdh mixed Tryz.func211 (rs:=[.tmp 4]) fun q tT hF hX=>?_;refine go ?_;refine X9 hF rfl fun b1 ss2 hF=>?_;refine go ?_;obtain ⟨x12,g3,H⟩:=bnd H;refine Yc 3 9 12 (.bool x12) (gi q (fun q=>?_) (fun q=>?_)) (fun J=>?_)
 ·refine go ?_;exact Yt 9 g3
 ·refine go ?_;exact Yt 9 g3
 refine go ?_;obtain ⟨x17,g5,H⟩:=bnd H;refine Yc 3 14 17 (.bool x17) (gi q (fun q=>?_) (fun q=>?_)) (fun J=>?_)
 ·refine go ?_;exact Yt 14 g5
 ·refine go ?_;exact Yt 14 g5
 refine go ?_;obtain ⟨x23,g7,H⟩:=bnd H;refine Yc 4 19 23 (.bool x23) (gi q (fun q=>?_) (fun q=>?_)) (fun J=>?_)
 ·rw [if_pos (dbt q)] at g7;refine go ?_;obtain ⟨x21,hx21,g7⟩:=bnd g7;refine cl (AF a1 a0 _ hx21) ?_;refine go ?_;exact Yt 19 g7
 ·rw [if_neg (dbf q)] at g7;refine go ?_;exact Yt 19 g7
 refine go ?_;have e:=pur H;subst e;exact rt _
theorem Ex:∀(a0:List Fm) (a1:Fm) (a2:List Fm) r,Wx a0 a1 a2=some r->∀  (p0:AV) (ss:Sto),Pre ss [] [⟨p0,34,5,rws KZ a0⟩]->Ctr K0 205 [p0,.agg (KZ a1),sf KZ a2] ss (fun r' ss'=>∃(tt':Sto) (w0:AV),r'=w0/\Tau (strip ss [⟨p0,34,5,rws KZ a0⟩]) [] tt'/\Fx tt' ss' [] [⟨w0,34,5,rws KZ r⟩]):=by
 intro a0 a1 a2;revert a0 a1;refine Wx.partial_correctness a2 (motive_1:=fun a0 a1 r=>∀  (p0:AV) (ss:Sto),Pre ss [] [⟨p0,34,5,rws KZ a0⟩]->Ctr K0 205 [p0,.agg (KZ a1),sf KZ a2] ss (fun r' ss'=>∃(tt':Sto) (w0:AV),r'=w0/\Tau (strip ss [⟨p0,34,5,rws KZ a0⟩]) [] tt'/\Fx tt' ss' [] [⟨w0,34,5,rws KZ r⟩])) (motive_2:=fun a1 X8 Yq out=>∀c,Yh Tryz.f205 0=some c->∀(Q:QT) (tt0:Sto) (b1:Nat),(∀(YO:List Fm),out=YO->∀(T:TT) (ss tt:Sto) (e0v0:AV),T 0=e0v0->Tau tt0 [] tt->Fx tt ss [(b1,⟨34,5,[i6 a1.kind,.str a1.name,i6 a1.num,sf cI a1.sc,sf KZ a1.kids]⟩)] [⟨e0v0,34,5,rws KZ YO⟩]->Q (.ex 0) ⟨T,ss⟩)->True->∀(T:TT) (ss tt:Sto) (z0v0:AV),T 0=z0v0/\T 2=sf KZ a2/\T 4=.ptr b1 0/\T 7=i6 Yq->Tau tt0 [] tt->Fx tt ss [(b1,⟨34,5,[i6 a1.kind,.str a1.name,i6 a1.num,sf cI a1.sc,sf KZ a1.kids]⟩)] [⟨z0v0,34,5,rws KZ X8⟩]->aLp K0 c Q ⟨T,ss⟩) ?_ ?_
 ·intro VS L0 a0 a1 r H;intro  p0 ss hP;refine hdg mixed Tryz.func205 (rs:=[.tmp 6]) fun q tT=>?_;obtain ⟨hF,hX⟩:=hP.start;generalize strip ss [⟨p0,34,5,rws KZ a0⟩]=tt0 at hF hX ⊢;refine go ?_;refine X9 hF rfl fun b1 ss2 hF=>?_;refine go ?_;refine bp H (IY a1 a2) fun x10 h H=>cl h ?_;refine go ?_;obtain ⟨IU,j4,H⟩:=bnd H;refine Vy (fun s'=>∃(T:TT) (ss1 tt1:Sto) (y3v0:AV),s'=⟨T,ss1⟩/\(T 0=y3v0/\T 2=sf KZ a2/\T 4=.ptr b1 0)/\Tau tt0 [] tt1/\Fx tt1 ss1 [(b1,⟨34,5,[i6 a1.kind,.str a1.name,i6 a1.num,sf cI a1.sc,sf KZ a1.kids]⟩)] [⟨y3v0,34,5,rws KZ IU⟩]) (cdb j4 (fun h j4=>?_) (fun h j4=>?_)) ?_
  ·refine go ?_;refine apd (g:=KZ) hF 0 j4 (rdo (c:=true) (g:=KZ) Fm.X6) fun x14 j4 v5 ss6 hF=>?_;refine go ?_;have e:=pur j4;subst e;exact ⟨_,_,_,v5,rfl,S,hX,hF⟩
  ·refine go ?_;have e:=pur j4;subst e;exact ⟨_,_,_,p0,rfl,S,hX,hF⟩
  ·rintro s' ⟨T7,s8,tt9,y3v0,rfl,tT,hX,hF⟩;refine go ?_;obtain ⟨o14,ho14,H⟩:=bnd H;refine L0 a1 IU 0 _ ho14 _ rfl _ tt0 b1 ?_ ?_ _ _ _ y3v0 S hX hF
   ·intro BM he T16 s17 t18 e15v0 tT hX hF;have he:=he.symm;subst he;refine go ?_;have e:=pur H;subst e;exact rg _ ⟨_,_,rfl,hX,hF.pick [] [0] (by decide) (by decide)⟩
   ·trivial
 ·intro Wx VS C0 L0 a1 X8 Yq out H c hc Q tt0 b1 hE hR T ss tt z0v0 tT hX hF;refine lpy hc rfl fun q=>go ?_;refine cdp H (fun h H=>?_) (fun h H=>?_)
  ·obtain ⟨x26,f1,H⟩:=bil (g:=KZ) Fm.X6 H;refine go1 ?_;obtain ⟨x29,hx29,H⟩:=bnd H;refine cx (C0 X8 x26 _ hx29  z0v0 _ (pre 0 0 1 hF hX)) ?_;rintro v10 s11 ⟨t12,_,rfl,hT,hG⟩;obtain ⟨t13,hX,hF⟩:=aft 0 0 1 hF hX hT hG;refine go ?_;exact L0 a1 x29 (i64.wrap (Yq+1)) _ H _ rfl Q tt0 b1 hE hR _ _ _ v10 S hX hF
  ·refine go ?_;exact wq (hE _ (pur H).symm _ _ _ z0v0 S hX hF)
theorem Ew:∀(a1:Fm) (a2 X8:List Fm) (Yq:Int) out,Ww a1 a2 X8 Yq=some out->∀c,Yh Tryz.f205 0=some c->∀(Q:QT) (tt0:Sto) (b1:Nat),(∀(YO:List Fm),out=YO->∀(T:TT) (ss tt:Sto) (e0v0:AV),T 0=e0v0->Tau tt0 [] tt->Fx tt ss [(b1,⟨34,5,[i6 a1.kind,.str a1.name,i6 a1.num,sf cI a1.sc,sf KZ a1.kids]⟩)] [⟨e0v0,34,5,rws KZ YO⟩]->Q (.ex 0) ⟨T,ss⟩)->True->∀(T:TT) (ss tt:Sto) (z0v0:AV),T 0=z0v0/\T 2=sf KZ a2/\T 4=.ptr b1 0/\T 7=i6 Yq->Tau tt0 [] tt->Fx tt ss [(b1,⟨34,5,[i6 a1.kind,.str a1.name,i6 a1.num,sf cI a1.sc,sf KZ a1.kids]⟩)] [⟨z0v0,34,5,rws KZ X8⟩]->aLp K0 c Q ⟨T,ss⟩:=by
 intro a1 a2 X8 Yq;revert X8 Yq;refine Ww.partial_correctness a1 a2 _ ?_;intro Ww IH X8 Yq out H c hc Q tt0 b1 hE hR T ss tt z0v0 tT hX hF;refine lpy hc rfl fun q=>go ?_;refine cdp H (fun h H=>?_) (fun h H=>?_)
 ·obtain ⟨x26,f1,H⟩:=bil (g:=KZ) Fm.X6 H;refine go1 ?_;obtain ⟨x29,hx29,H⟩:=bnd H;refine cx (Ex X8 x26 a2 _ hx29  z0v0 _ (pre 0 0 1 hF hX)) ?_;rintro v10 s11 ⟨t12,_,rfl,hT,hG⟩;obtain ⟨t13,hX,hF⟩:=aft 0 0 1 hF hX hT hG;refine go ?_;exact IH  x29 (i64.wrap (Yq+1)) _ H _ rfl Q tt0 b1 hE hR _ _ _ v10 S hX hF
 ·refine go ?_;exact wq (hE _ (pur H).symm _ _ _ z0v0 S hX hF)
theorem AZ:∀(a0:List Fm) (a1:Fm) (a2:List Fm) r,HQ a0 a1 a2=some r->∀  (p0:AV) (ss:Sto),Pre ss [] [⟨p0,34,5,rws KZ a0⟩]->Ctr K0 205 [p0,.agg (KZ a1),sf KZ a2] ss (fun r' ss'=>∃(tt':Sto),r'=sf KZ r/\Tau (strip ss [⟨p0,34,5,rws KZ a0⟩]) [] tt'/\Fx tt' ss' [] []):=by
 intro a0 a1 a2 r H;intro  p0 ss hP;unfold HQ at H;refine hdg mixed Tryz.func205 (rs:=[.tmp 6]) fun q tT=>?_;obtain ⟨hF,hX⟩:=hP.start;generalize strip ss [⟨p0,34,5,rws KZ a0⟩]=tt0 at hF hX ⊢;refine go ?_;refine X9 hF rfl fun b1 ss2 hF=>?_;refine go ?_;refine bp H (IY a1 a2) fun x10 h H=>cl h ?_;refine go ?_;obtain ⟨IU,j4,H⟩:=bnd H;refine Vy (fun s'=>∃(T:TT) (ss1 tt1:Sto) (y3v0:AV),s'=⟨T,ss1⟩/\(T 0=y3v0/\T 2=sf KZ a2/\T 4=.ptr b1 0)/\Tau tt0 [] tt1/\Fx tt1 ss1 [(b1,⟨34,5,[i6 a1.kind,.str a1.name,i6 a1.num,sf cI a1.sc,sf KZ a1.kids]⟩)] [⟨y3v0,34,5,rws KZ IU⟩]) (cdb j4 (fun h j4=>?_) (fun h j4=>?_)) ?_
 ·refine go ?_;refine apd (g:=KZ) hF 0 j4 (rdo (c:=true) (g:=KZ) Fm.X6) fun x14 j4 v5 ss6 hF=>?_;refine go ?_;have e:=pur j4;subst e;exact ⟨_,_,_,v5,rfl,S,hX,hF⟩
 ·refine go ?_;have e:=pur j4;subst e;exact ⟨_,_,_,p0,rfl,S,hX,hF⟩
 ·rintro s' ⟨T7,s8,tt9,y3v0,rfl,tT,hX,hF⟩;refine go ?_;obtain ⟨o14,ho14,H⟩:=bnd H;refine Ew a1 a2 IU 0 _ ho14 _ rfl _ tt0 b1 ?_ ?_ _ _ _ y3v0 S hX hF
  ·intro BM he T16 s17 t18 e15v0 tT hX hF;have he:=he.symm;subst he;refine go ?_;have e:=pur H;subst e;exact rg _ ⟨_,rfl,hX,K4 _⟩
  ·trivial
theorem Dh:∀(a0:List Int) (a1:Fm) (a2:List Fm) (a3:Int) r,Y7 a0 a1 a2 a3=some r->∀  (p0:AV) (ss:Sto),Pre ss [] [⟨p0,3,1,rws cI a0⟩]->Ctr K0 206 [p0,.agg (KZ a1),sf KZ a2,i6 a3] ss (fun r' ss'=>∃(tt':Sto) (w0:AV),r'=w0/\Tau (strip ss [⟨p0,3,1,rws cI a0⟩]) [] tt'/\Fx tt' ss' [] [⟨w0,3,1,rws cI r⟩]):=by
 intro a0 a1 a2 a3;revert a0 a1 a3;refine Y7.partial_correctness a2 (motive_1:=fun a0 a1 a3 r=>∀  (p0:AV) (ss:Sto),Pre ss [] [⟨p0,3,1,rws cI a0⟩]->Ctr K0 206 [p0,.agg (KZ a1),sf KZ a2,i6 a3] ss (fun r' ss'=>∃(tt':Sto) (w0:AV),r'=w0/\Tau (strip ss [⟨p0,3,1,rws cI a0⟩]) [] tt'/\Fx tt' ss' [] [⟨w0,3,1,rws cI r⟩])) (motive_2:=fun a1 a3 X8 YC out=>∀c,Yh Tryz.f206 0=some c->∀(Q:QT) (tt0:Sto) (b1:Nat),(∀(YO:List Int),out=YO->∀(T:TT) (ss tt:Sto) (e0v0:AV),T 0=e0v0->Tau tt0 [] tt->Fx tt ss [(b1,⟨34,5,[i6 a1.kind,.str a1.name,i6 a1.num,sf cI a1.sc,sf KZ a1.kids]⟩)] [⟨e0v0,3,1,rws cI YO⟩]->Q (.ex 0) ⟨T,ss⟩)->True->∀(T:TT) (ss tt:Sto) (z0v0:AV),T 0=z0v0/\T 2=sf KZ a2/\T 3=i6 a3/\T 5=.ptr b1 0/\T 9=i6 YC->Tau tt0 [] tt->Fx tt ss [(b1,⟨34,5,[i6 a1.kind,.str a1.name,i6 a1.num,sf cI a1.sc,sf KZ a1.kids]⟩)] [⟨z0v0,3,1,rws cI X8⟩]->aLp K0 c Q ⟨T,ss⟩) ?_ ?_
 ·intro Vg L0 a0 a1 a3 r H;intro  p0 ss hP;refine hdg mixed Tryz.func206 (rs:=[.tmp 8]) fun q tT=>?_;obtain ⟨hF,hX⟩:=hP.start;generalize strip ss [⟨p0,3,1,rws cI a0⟩]=tt0 at hF hX ⊢;refine go ?_;refine X9 hF rfl fun b1 ss2 hF=>?_;refine go ?_;refine bp H (IY a1 a2) fun x13 h H=>cl h ?_;refine go ?_;obtain ⟨IU,j4,H⟩:=bnd H;refine Vy (fun s'=>∃(T:TT) (ss1 tt1:Sto) (y3v0:AV),s'=⟨T,ss1⟩/\(T 0=y3v0/\T 2=sf KZ a2/\T 3=i6 a3/\T 5=.ptr b1 0)/\Tau tt0 [] tt1/\Fx tt1 ss1 [(b1,⟨34,5,[i6 a1.kind,.str a1.name,i6 a1.num,sf cI a1.sc,sf KZ a1.kids]⟩)] [⟨y3v0,3,1,rws cI IU⟩]) (cdb j4 (fun h j4=>?_) (fun h j4=>?_)) ?_
  ·refine go ?_;refine apd (g:=cI) hF 0 j4 (rdo (c:=true) (g:=cI) (fun _=>rfl)) fun x17 j4 v5 ss6 hF=>?_;refine go ?_;have e:=pur j4;subst e;exact ⟨_,_,_,v5,rfl,S,hX,hF⟩
  ·refine go ?_;have e:=pur j4;subst e;exact ⟨_,_,_,p0,rfl,S,hX,hF⟩
  ·rintro s' ⟨T7,s8,tt9,y3v0,rfl,tT,hX,hF⟩;refine go ?_;obtain ⟨o21,ho21,H⟩:=bnd H;refine L0 a1 a3 IU 0 _ ho21 _ rfl _ tt0 b1 ?_ ?_ _ _ _ y3v0 S hX hF
   ·intro Bv he T23 s24 t25 e22v0 tT hX hF;have he:=he.symm;subst he;refine go ?_;have e:=pur H;subst e;exact rg _ ⟨_,_,rfl,hX,hF.pick [] [0] (by decide) (by decide)⟩
   ·trivial
 ·intro Y7 Vg C0 L0 a1 a3 X8 YC out H c hc Q tt0 b1 hE hR T ss tt z0v0 tT hX hF;refine lpy hc rfl fun q=>go ?_;refine cdp H (fun h H=>?_) (fun h H=>?_)
  ·refine go ?_;obtain ⟨x40,g10,H⟩:=bnd H;refine Yc 7 33 40 (.bool x40) (gi q (fun q=>?_) (fun q=>?_)) (fun J=>?_)
   ·rw [if_pos (dt q)] at g10;obtain ⟨x37,f1,g10⟩:=bil (g:=KZ) Fm.X6 g10;refine go1 ?_;obtain ⟨x39,hx39,g10⟩:=bnd g10;refine cl (Va x37 _ hx39) ?_;refine go ?_;exact Yt 33 g10
   ·rw [if_neg (df q)] at g10;refine go ?_;exact Yt 33 g10
   refine go ?_;obtain ⟨Ix,j13,H⟩:=bnd H;refine Vy (fun s'=>∃(T:TT) (ss1 tt1:Sto),s'=⟨T,ss1⟩/\(T 0=z0v0/\T 2=sf KZ a2/\T 3=i6 a3/\T 5=.ptr b1 0/\T 9=i6 YC/\T 10=i6 Ix)/\Tau tt0 [] tt1/\Fx tt1 ss1 [(b1,⟨34,5,[i6 a1.kind,.str a1.name,i6 a1.num,sf cI a1.sc,sf KZ a1.kids]⟩)] [⟨z0v0,3,1,rws cI X8⟩]) (cdb j13 (fun h j13=>?_) (fun h j13=>?_)) ?_
   ·refine go ?_;have e:=pur j13;subst e;exact ⟨_,_,_,rfl,S,hX,hF⟩
   ·refine go ?_;have e:=pur j13;subst e;exact ⟨_,_,_,rfl,S,hX,hF⟩
   ·rintro s' ⟨T14,s15,t16,rfl,tT,hX,hF⟩;obtain ⟨x47,f1,H⟩:=bil (g:=KZ) Fm.X6 H;refine go1 ?_;obtain ⟨x51,hx51,H⟩:=bnd H;refine cx (C0 X8 x47 Ix _ hx51  z0v0 _ (pre 0 0 1 hF hX)) ?_;rintro v17 s18 ⟨t19,_,rfl,hT,hG⟩;obtain ⟨tt20,hX,hF⟩:=aft 0 0 1 hF hX hT hG;refine go ?_;exact L0 a1 a3 x51 (i64.wrap (YC+1)) _ H _ rfl Q tt0 b1 hE hR _ _ _ v17 S hX hF
  ·refine go ?_;exact wq (hE _ (pur H).symm _ _ _ z0v0 S hX hF)
theorem Dg:∀(a1:Fm) (a2:List Fm) (a3:Int) (X8:List Int) (YC:Int) out,VG a1 a2 a3 X8 YC=some out->∀c,Yh Tryz.f206 0=some c->∀(Q:QT) (tt0:Sto) (b1:Nat),(∀(YO:List Int),out=YO->∀(T:TT) (ss tt:Sto) (e0v0:AV),T 0=e0v0->Tau tt0 [] tt->Fx tt ss [(b1,⟨34,5,[i6 a1.kind,.str a1.name,i6 a1.num,sf cI a1.sc,sf KZ a1.kids]⟩)] [⟨e0v0,3,1,rws cI YO⟩]->Q (.ex 0) ⟨T,ss⟩)->True->∀(T:TT) (ss tt:Sto) (z0v0:AV),T 0=z0v0/\T 2=sf KZ a2/\T 3=i6 a3/\T 5=.ptr b1 0/\T 9=i6 YC->Tau tt0 [] tt->Fx tt ss [(b1,⟨34,5,[i6 a1.kind,.str a1.name,i6 a1.num,sf cI a1.sc,sf KZ a1.kids]⟩)] [⟨z0v0,3,1,rws cI X8⟩]->aLp K0 c Q ⟨T,ss⟩:=by
 intro a1 a2 a3 X8 YC;revert X8 YC;refine VG.partial_correctness a1 a2 a3 _ ?_;intro VG IH X8 YC out H c hc Q tt0 b1 hE hR T ss tt z0v0 tT hX hF;refine lpy hc rfl fun q=>go ?_;refine cdp H (fun h H=>?_) (fun h H=>?_)
 ·refine go ?_;obtain ⟨x40,g10,H⟩:=bnd H;refine Yc 7 33 40 (.bool x40) (gi q (fun q=>?_) (fun q=>?_)) (fun J=>?_)
  ·rw [if_pos (dt q)] at g10;obtain ⟨x37,f1,g10⟩:=bil (g:=KZ) Fm.X6 g10;refine go1 ?_;obtain ⟨x39,hx39,g10⟩:=bnd g10;refine cl (Va x37 _ hx39) ?_;refine go ?_;exact Yt 33 g10
  ·rw [if_neg (df q)] at g10;refine go ?_;exact Yt 33 g10
  refine go ?_;obtain ⟨Ix,j13,H⟩:=bnd H;refine Vy (fun s'=>∃(T:TT) (ss1 tt1:Sto),s'=⟨T,ss1⟩/\(T 0=z0v0/\T 2=sf KZ a2/\T 3=i6 a3/\T 5=.ptr b1 0/\T 9=i6 YC/\T 10=i6 Ix)/\Tau tt0 [] tt1/\Fx tt1 ss1 [(b1,⟨34,5,[i6 a1.kind,.str a1.name,i6 a1.num,sf cI a1.sc,sf KZ a1.kids]⟩)] [⟨z0v0,3,1,rws cI X8⟩]) (cdb j13 (fun h j13=>?_) (fun h j13=>?_)) ?_
  ·refine go ?_;have e:=pur j13;subst e;exact ⟨_,_,_,rfl,S,hX,hF⟩
  ·refine go ?_;have e:=pur j13;subst e;exact ⟨_,_,_,rfl,S,hX,hF⟩
  ·rintro s' ⟨T14,s15,t16,rfl,tT,hX,hF⟩;obtain ⟨x47,f1,H⟩:=bil (g:=KZ) Fm.X6 H;refine go1 ?_;obtain ⟨x51,hx51,H⟩:=bnd H;refine cx (Dh X8 x47 a2 Ix _ hx51  z0v0 _ (pre 0 0 1 hF hX)) ?_;rintro v17 s18 ⟨t19,_,rfl,hT,hG⟩;obtain ⟨tt20,hX,hF⟩:=aft 0 0 1 hF hX hT hG;refine go ?_;exact IH  x51 (i64.wrap (YC+1)) _ H _ rfl Q tt0 b1 hE hR _ _ _ v17 S hX hF
 ·refine go ?_;exact wq (hE _ (pur H).symm _ _ _ z0v0 S hX hF)
theorem IS:∀(a0:List Int) (a1:Fm) (a2:List Fm) (a3:Int) r,Gr a0 a1 a2 a3=some r->∀  (p0:AV) (ss:Sto),Pre ss [] [⟨p0,3,1,rws cI a0⟩]->Ctr K0 206 [p0,.agg (KZ a1),sf KZ a2,i6 a3] ss (fun r' ss'=>∃(tt':Sto),r'=sf cI r/\Tau (strip ss [⟨p0,3,1,rws cI a0⟩]) [] tt'/\Fx tt' ss' [] []):=by
 intro a0 a1 a2 a3 r H;intro  p0 ss hP;unfold Gr at H;refine hdg mixed Tryz.func206 (rs:=[.tmp 8]) fun q tT=>?_;obtain ⟨hF,hX⟩:=hP.start;generalize strip ss [⟨p0,3,1,rws cI a0⟩]=tt0 at hF hX ⊢;refine go ?_;refine X9 hF rfl fun b1 ss2 hF=>?_;refine go ?_;refine bp H (IY a1 a2) fun x13 h H=>cl h ?_;refine go ?_;obtain ⟨IU,j4,H⟩:=bnd H;refine Vy (fun s'=>∃(T:TT) (ss1 tt1:Sto) (y3v0:AV),s'=⟨T,ss1⟩/\(T 0=y3v0/\T 2=sf KZ a2/\T 3=i6 a3/\T 5=.ptr b1 0)/\Tau tt0 [] tt1/\Fx tt1 ss1 [(b1,⟨34,5,[i6 a1.kind,.str a1.name,i6 a1.num,sf cI a1.sc,sf KZ a1.kids]⟩)] [⟨y3v0,3,1,rws cI IU⟩]) (cdb j4 (fun h j4=>?_) (fun h j4=>?_)) ?_
 ·refine go ?_;refine apd (g:=cI) hF 0 j4 (rdo (c:=true) (g:=cI) (fun _=>rfl)) fun x17 j4 v5 ss6 hF=>?_;refine go ?_;have e:=pur j4;subst e;exact ⟨_,_,_,v5,rfl,S,hX,hF⟩
 ·refine go ?_;have e:=pur j4;subst e;exact ⟨_,_,_,p0,rfl,S,hX,hF⟩
 ·rintro s' ⟨T7,s8,tt9,y3v0,rfl,tT,hX,hF⟩;refine go ?_;obtain ⟨o21,ho21,H⟩:=bnd H;refine Dg a1 a2 a3 IU 0 _ ho21 _ rfl _ tt0 b1 ?_ ?_ _ _ _ y3v0 S hX hF
  ·intro Bv he T23 s24 t25 e22v0 tT hX hF;have he:=he.symm;subst he;refine go ?_;have e:=pur H;subst e;exact rg _ ⟨_,rfl,hX,K4 _⟩
  ·trivial
theorem Lt:∀(a0:Fm) (a1 x25:List Fm) (Yy:Int) out,JI a0 a1 x25 Yy=some out->∀c,Yh Tryz.f198 0=some c->∀(Q:QT) (tt:Sto) (b1:Nat),(∀(_u:Unit),out=Sum.inr ()->∀(T:TT) (ss:Sto),T 1=sf KZ a1/\T 2=.ptr b1 0/\T 5=sf KZ x25->Fx tt ss [(b1,⟨34,5,[i6 a0.kind,.str a0.name,i6 a0.num,sf cI a0.sc,sf KZ a0.kids]⟩)] []->Q (.ex 0) ⟨T,ss⟩)->(∀r,out=Sum.inl r->∀s',IP K0 [.tmp 4] (fun r' ss'=>r'=.bool r/\ss'=tt) s'->Q .ret s')->∀(T:TT) (ss:Sto),T 1=sf KZ a1/\T 2=.ptr b1 0/\T 5=sf KZ x25/\T 6=i6 Yy->Fx tt ss [(b1,⟨34,5,[i6 a0.kind,.str a0.name,i6 a0.num,sf cI a0.sc,sf KZ a0.kids]⟩)] []->aLp K0 c Q ⟨T,ss⟩:=by
 intro a0 a1 x25 Yy;revert Yy;refine JI.partial_correctness a0 a1 x25 _ ?_;intro JI IH Yy out H c hc Q tt b1 hE hR T ss tT hF;refine lpx tt hc rfl fun q hX=>go ?_;refine cdp H (fun h H=>?_) (fun h H=>?_)
 ·refine go ?_;refine Yg E0 [.v,.v,.v,.v,.v,.v,.v,.v] (by kernel_rfl) ?_;obtain ⟨x34,f1,H⟩:=bls (g:=KZ) Fm.X6 (lo:=none) (hi:=some (i6 Yy)) rfl rfl H;obtain ⟨x37,f2,H⟩:=bil (g:=KZ) Fm.X6 H;refine go2 ?_;refine bp H (AF x34 x37) fun x39 h H=>cv h ?_;refine go ?_;refine cdb H (fun h H=>?_) (fun h H=>?_)
  ·refine go ?_;exact wq (hR _ (pur H).symm _ (rt _))
  ·refine go ?_;exact IH  (i64.wrap (Yy+1)) _ H _ rfl Q tt b1 hE hR _ _  S hF
 ·refine go ?_;exact wq (hE () (pur H).symm _ _  S hF)
theorem Lu:∀(a0:Fm) (x25:List Fm) (x43:List Int) (V9:Int) out,JJ a0 x25 x43 V9=some out->∀c,Yh Tryz.f198 1=some c->∀(Q:QT) (tt:Sto) (b1:Nat),(∀(_u:Unit),out=Sum.inr ()->∀(T:TT) (ss:Sto),T 5=sf KZ x25->Fx tt ss [(b1,⟨34,5,[i6 a0.kind,.str a0.name,i6 a0.num,sf cI a0.sc,sf KZ a0.kids]⟩)] []->Q (.ex 2) ⟨T,ss⟩)->(∀r,out=Sum.inl r->∀s',IP K0 [.tmp 4] (fun r' ss'=>r'=.bool r/\ss'=tt) s'->Q .ret s')->∀(T:TT) (ss:Sto),T 5=sf KZ x25/\T 7=sf cI x43/\T 8=i6 V9->Fx tt ss [(b1,⟨34,5,[i6 a0.kind,.str a0.name,i6 a0.num,sf cI a0.sc,sf KZ a0.kids]⟩)] []->aLp K0 c Q ⟨T,ss⟩:=by
 intro a0 x25 x43 V9;revert V9;refine JJ.partial_correctness a0 x25 x43 _ ?_;intro JJ IH V9 out H c hc Q tt b1 hE hR T ss tT hF;refine lpx tt hc rfl fun q hX=>go ?_;refine cdp H (fun h H=>?_) (fun h H=>?_)
 ·obtain ⟨x52,f1,H⟩:=bil (g:=cI) (fun _=>rfl) H;refine go1 ?_;refine go ?_;refine cdp H (fun h H=>?_) (fun h H=>?_)
  ·refine go ?_;exact wq (hR _ (pur H).symm _ (rt _))
  ·refine go ?_;exact IH  (i64.wrap (V9+1)) _ H _ rfl Q tt b1 hE hR _ _  S hF
 ·refine go ?_;exact wq (hE () (pur H).symm _ _  S hF)
theorem OT:∀(a0:Fm) (a1:List Fm) r,B6 a0 a1=some r->Vb K0 198 [.agg (KZ a0),sf KZ a1] (.bool r):=by
 intro a0 a1 r H;intro ss;unfold B6 at H;refine hdh mixed Tryz.func198 (rs:=[.tmp 4]) fun q tT hF hX=>?_;refine go ?_;refine X9 hF rfl fun b1 ss2 hF=>?_;refine go ?_;refine bp H (Yv a0) fun x10 h H=>cl h ?_;refine go ?_;obtain ⟨x16,g3,H⟩:=bnd H;refine Yc 3 13 16 (.bool x16) (giN q (fun q=>?_) (fun q=>?_)) (fun J=>?_)
 ·rw [if_neg (dbf q)] at g3;refine go ?_;obtain ⟨x14,hx14,g3⟩:=bnd g3;refine cl (AG a1 _ hx14) ?_;refine go ?_;exact Yt 13 g3
 ·rw [if_pos (dbt q)] at g3;refine go ?_;exact Yt 13 g3
 refine go ?_;obtain ⟨x21,g5,H⟩:=bnd H;refine Yc 3 18 21 (.bool x21) (giN q (fun q=>?_) (fun q=>?_)) (fun J=>?_)
 ·rw [if_neg (dbf q)] at g5;refine go ?_;obtain ⟨x19,hx19,g5⟩:=bnd g5;refine cl (Lx a0 _ hx19) ?_;refine go ?_;exact Yt 18 g5
 ·rw [if_pos (dbt q)] at g5;refine go ?_;exact Yt 18 g5
 refine go ?_;refine cdb H (fun h H=>?_) (fun h H=>?_)
 ·refine go ?_;have e:=pur H;subst e;exact rt _
 ·have hF:=hF.lit 34 5 (rws KZ []) rfl;refine go ?_;obtain ⟨x25,hx25,H⟩:=bnd H;refine cx (AZ [] a0 a1 _ hx25  (.sl true (rws KZ [])) _ (pre 0 0 1 hF hX)) ?_;rintro _ s7 ⟨t8,rfl,hT,hG⟩;have hF:=L6 0 1 hF hX hT hG;refine go ?_;obtain ⟨o10,ho10,H⟩:=bnd H;refine Lt a0 a1 x25 0 _ ho10 _ rfl _ _ b1 ?_ ?_ _ _  S hF
  ·intro _ he T12 s13 tT hF;have he:=he.symm;subst he
   try dsimp only at H
   have hF:=hF.lit 3 1 (rws cI []) rfl;refine go ?_;obtain ⟨x43,hx43,H⟩:=bnd H;refine cx (IS [] a0 a1 0 _ hx43  (.sl true (rws cI [])) _ (pre 0 0 1 hF hX)) ?_;rintro _ s15 ⟨t16,rfl,hT,hG⟩;have hF:=L6 0 1 hF hX hT hG;refine go ?_;obtain ⟨o18,ho18,H⟩:=bnd H;refine Lu a0 x25 x43 0 _ ho18 _ rfl _ _ b1 ?_ ?_ _ _  S hF
   ·intro _ he T20 s21 tT hF;have he:=he.symm;subst he
    try dsimp only at H
    refine go ?_;have e:=pur H;subst e;exact rt _
   ·intro r hr s' hs;subst hr;have e:=pur H;subst e;exact hsq hs
  ·intro r hr s' hs;subst hr;have e:=pur H;subst e;exact hsq hs
theorem DK:∀(a0:Fm) (x14:List Fm) (x18:List Int) (X8:List Hit) (YI:Int) out,VF a0 x14 x18 X8 YI=some out->∀c,Yh Tryz.f200 0=some c->∀(Q:QT) (tt:Sto) (b1:Nat),(∀(YO:List Hit),out=YO->∀(T:TT) (ss:Sto) (e0v0:AV),T 5=e0v0->Fx tt ss [(b1,⟨34,5,[i6 a0.kind,.str a0.name,i6 a0.num,sf cI a0.sc,sf KZ a0.kids]⟩)] [⟨e0v0,217,12,rws K2 YO⟩]->Q (.ex 0) ⟨T,ss⟩)->True->∀(T:TT) (ss:Sto) (z0v0:AV),T 5=z0v0/\T 6=sf KZ x14/\T 7=sf cI x18/\T 8=i6 YI->Fx tt ss [(b1,⟨34,5,[i6 a0.kind,.str a0.name,i6 a0.num,sf cI a0.sc,sf KZ a0.kids]⟩)] [⟨z0v0,217,12,rws K2 X8⟩]->aLp K0 c Q ⟨T,ss⟩:=by
 intro a0 x14 x18 X8 YI;revert X8 YI;refine VF.partial_correctness a0 x14 x18 _ ?_;intro VF IH X8 YI out H c hc Q tt b1 hE hR T ss z0v0 tT hF;refine lpx tt hc rfl fun q hX=>go ?_;refine cdp H (fun h H=>?_) (fun h H=>?_)
 ·refine go ?_;refine Yg E0 [.v,.v,.v,.v,.v,.v,.v,.v,.v,.x,.z] (by kernel_rfl) ?_;obtain ⟨x27,f1,H⟩:=bil (g:=KZ) Fm.X6 H;obtain ⟨x31,f2,H⟩:=bil (g:=cI) (fun _=>rfl) H;refine go2 ?_;refine WY hF rfl fun b9 s10 hF=>?_;refine go ?_;refine st hF 0 rfl fun s11 hF=>?_;refine go ?_;refine cdp H (fun h H=>?_) (fun h H=>?_)
  ·obtain ⟨x39,f1,H⟩:=bil (g:=KZ) Fm.X6 H;refine go1 ?_;refine st hF 0 rfl fun s12 hF=>?_;refine go ?_;refine apw (g:=K2) (rows:=[[i6 x27.kind,.str x27.name,i6 x27.num,sf cI x27.sc,sf KZ x27.kids,i6 x31,i6 x39.kind,.str x39.name,i6 x39.num,sf cI x39.sc,sf KZ x39.kids,.Yb]]) hF 0 H Hit.X6 true rfl (by simp only [sf,i6,zB,Y2,VJ,cI,cU,cS,cL,Hit.Ya,Fm.Ya,Zt,Zu,Fm.num,Fm.sc,Zv,Zk,Zc,Zw,Zl,Zm,ZC,Zn,Zx,Zy,Zo,Zp,Zq,Zz,Zr,Zd,ZD,ZA,ZE,ZB,Qt,K7,KJ,Ki,QU];exact (.cons (.refl _) id (.cons (.refl _) id (.cons (.refl _) id (.cons (.refl _) id (.cons (.refl _) id (.cons (.refl _) id (.cons (.refl _) id (.cons (.refl _) id (.cons (.refl _) id (.cons (.refl _) id (.cons (.refl _) id (.cons .Yb (fun _=>rfl) .nil))))))))))))) fun x45 H v13 s14 hF=>?_;refine go ?_;exact IH  x45 (i64.wrap (YI+1)) _ H _ rfl Q tt b1 hE hR _ _ v13 S (hF.drop 1 0)
  ·refine go ?_;refine apw (g:=K2) (rows:=[[i6 x27.kind,.str x27.name,i6 x27.num,sf cI x27.sc,sf KZ x27.kids,i6 x31,i6 0,.str zB,i6 0,.Yb,.Yb,.Yb]]) hF 0 H Hit.X6 true rfl (by simp only [sf,i6,zB,Y2,VJ,cI,cU,cS,cL,Hit.Ya,Fm.Ya,Zt,Zu,Fm.num,Fm.sc,Zv,Zk,Zc,Zw,Zl,Zm,ZC,Zn,Zx,Zy,Zo,Zp,Zq,Zz,Zr,Zd,ZD,ZA,ZE,ZB,Qt,K7,KJ,Ki,QU];exact (.cons (.refl _) id (.cons (.refl _) id (.cons (.refl _) id (.cons (.refl _) id (.cons (.refl _) id (.cons (.refl _) id (.cons (.refl _) id (.cons (.refl _) id (.cons (.refl _) id (.cons .Yb (fun _=>rfl) (.cons .Yb (fun _=>rfl) (.cons .Yb (fun _=>rfl) .nil))))))))))))) fun Qbl H v15 s16 hF=>?_;refine go ?_;exact IH  Qbl (i64.wrap (YI+1)) _ H _ rfl Q tt b1 hE hR _ _ v15 S (hF.drop 1 0)
 ·refine go ?_;exact wq (hE _ (pur H).symm _ _ z0v0 S hF)
theorem LA:∀(a0:Fm) (a1:List Fm) r,IL a0 a1=some r->Vb K0 200 [.agg (KZ a0),sf KZ a1] (sf K2 r):=by
 intro a0 a1 r H;intro ss;unfold IL at H;refine hdh mixed Tryz.func200 (rs:=[.tmp 4]) fun q tT hF hX=>?_;refine go ?_;refine X9 hF rfl fun b1 ss2 hF=>?_;have hF:=hF.lit 34 5 (rws KZ []) rfl;refine go ?_;obtain ⟨x14,hx14,H⟩:=bnd H;refine cx (AZ [] a0 a1 _ hx14  (.sl true (rws KZ [])) _ (pre 0 0 1 hF hX)) ?_;rintro _ ss3 ⟨tt4,rfl,hT,hG⟩;have hF:=L6 0 1 hF hX hT hG;have hF:=hF.lit 3 1 (rws cI []) rfl;refine go ?_;obtain ⟨x18,hx18,H⟩:=bnd H;refine cx (IS [] a0 a1 0 _ hx18  (.sl true (rws cI [])) _ (pre 0 0 1 hF hX)) ?_;rintro _ ss6 ⟨t7,rfl,hT,hG⟩;have hF:=L6 0 1 hF hX hT hG;have hF:=hF.lit 217 12 (rws K2 []) rfl;refine go ?_;obtain ⟨o17,ho17,H⟩:=bnd H;refine DK a0 x14 x18 [] 0 _ ho17 _ rfl _ _ b1 ?_ ?_ _ _ (.sl true (rws K2 [])) S hF
 ·intro Qe6 he T19 s20 e18v0 tT hF;have he:=he.symm;subst he;refine go ?_;have e:=pur H;subst e;exact rt _
 ·trivial
theorem Et:∀(a0:List Hit) (a1:Fm) (Yi:Int) out,Wt a0 a1 Yi=some out->∀c,Yh Tryz.f194 0=some c->∀(Q:QT) (tt:Sto) (b1:Nat),(∀(_u:Unit),out=Sum.inr ()->∀(T:TT) (ss:Sto),0+0=0->Fx tt ss [(b1,⟨34,5,[i6 a1.kind,.str a1.name,i6 a1.num,sf cI a1.sc,sf KZ a1.kids]⟩)] []->Q (.ex 0) ⟨T,ss⟩)->(∀r,out=Sum.inl r->∀s',IP K0 [.tmp 4] (fun r' ss'=>r'=i6 r/\ss'=tt) s'->Q .ret s')->∀(T:TT) (ss:Sto),T 0=sf K2 a0/\T 3=.ptr b1 0/\T 5=i6 Yi->Fx tt ss [(b1,⟨34,5,[i6 a1.kind,.str a1.name,i6 a1.num,sf cI a1.sc,sf KZ a1.kids]⟩)] []->aLp K0 c Q ⟨T,ss⟩:=by
 intro a0 a1 Yi;revert Yi;refine Wt.partial_correctness a0 a1 _ ?_;intro Wt IH Yi out H c hc Q tt b1 hE hR T ss tT hF;refine lpx tt hc rfl fun q hX=>go ?_;refine cdp H (fun h H=>?_) (fun h H=>?_)
 ·refine go ?_;refine Yg E0 [.v,.v,.v,.v,.v,.v,.v] (by kernel_rfl) ?_;obtain ⟨x14,f1,H⟩:=bil (g:=K2) Hit.X6 H;refine go1 ?_;refine bp H (JD x14.name a1) fun x18 h H=>cv h ?_;refine go ?_;refine cdb H (fun h H=>?_) (fun h H=>?_)
  ·refine go ?_;exact wq (hR _ (pur H).symm _ (rt _))
  ·refine go ?_;exact IH  (i64.wrap (Yi+1)) _ H _ rfl Q tt b1 hE hR _ _  S hF
 ·refine go ?_;exact wq (hE () (pur H).symm _ _  S hF)
theorem CJ:∀(a0:List Hit) (a1:Fm) r,HP a0 a1=some r->Vb K0 194 [sf K2 a0,.agg (KZ a1)] (i6 r):=by
 intro a0 a1 r H;intro ss;unfold HP at H;refine hdh mixed Tryz.func194 (rs:=[.tmp 4]) fun q tT hF hX=>?_;refine go ?_;refine X9 hF rfl fun b1 ss2 hF=>?_;refine go ?_;obtain ⟨o3,ho3,H⟩:=bnd H;refine Et a0 a1 0 _ ho3 _ rfl _ _ b1 ?_ ?_ _ _  S hF
 ·intro _ he T5 ss6 tT hF;have he:=he.symm;subst he
  try dsimp only at H
  refine go ?_;have e:=pur H;subst e;exact rt _
 ·intro r hr s' hs;subst hr;have e:=pur H;subst e;exact hsq hs
theorem B9:∀(a0:List Hit) (a1:Fm) r,HZ a0 a1=some r->Vb K0 207 [sf K2 a0,.agg (KZ a1)] (i6 r):=by
 intro a0 a1 r H;intro ss;unfold HZ at H;refine hdh mixed Tryz.func207 (rs:=[.tmp 4]) fun q tT hF hX=>?_;refine go ?_;refine X9 hF rfl fun b1 ss2 hF=>?_;refine go ?_;refine cdn H (fun h H=>?_) (fun h H=>?_)
 ·refine go ?_;have e:=pur H;subst e;exact rt _
 ·refine go ?_;refine bp H (CJ a0 a1) fun x11 h H=>cl h ?_;refine go ?_;refine cdp H (fun h H=>?_) (fun h H=>?_)
  ·refine go ?_;have e:=pur H;subst e;exact rt _
  ·obtain ⟨x16,f1,H⟩:=bil (g:=K2) Hit.X6 H;refine go1 ?_;refine go ?_;have e:=pur H;subst e;exact rt _
theorem My:∀(a0:List Hit) (a1:Fm) r,Gs a0 a1=some r->Vb K0 208 [sf K2 a0,.agg (KZ a1)] (.bool r):=by
 intro a0 a1;revert a1;refine Gs.partial_correctness a0 (motive_1:=fun a1 r=>Vb K0 208 [sf K2 a0,.agg (KZ a1)] (.bool r)) (motive_2:=fun a1 Yi out=>∀c,Yh Tryz.f208 0=some c->∀(Q:QT) (tt:Sto) (b1:Nat),(∀(_u:Unit),out=Sum.inr ()->∀(T:TT) (ss:Sto),0+0=0->Fx tt ss [(b1,⟨34,5,[i6 a1.kind,.str a1.name,i6 a1.num,sf cI a1.sc,sf KZ a1.kids]⟩)] []->Q (.ex 0) ⟨T,ss⟩)->(∀r,out=Sum.inl r->∀s',IP K0 [.tmp 4] (fun r' ss'=>r'=.bool r/\ss'=tt) s'->Q .ret s')->∀(T:TT) (ss:Sto),T 0=sf K2 a0/\T 3=.ptr b1 0/\T 5=i6 Yi->Fx tt ss [(b1,⟨34,5,[i6 a1.kind,.str a1.name,i6 a1.num,sf cI a1.sc,sf KZ a1.kids]⟩)] []->aLp K0 c Q ⟨T,ss⟩) ?_ ?_
 ·intro Jk L0 a1 r H;intro ss;refine hdh mixed Tryz.func208 (rs:=[.tmp 4]) fun q tT hF hX=>?_;refine go ?_;refine X9 hF rfl fun b1 ss2 hF=>?_;refine go ?_;refine bp H (B9 a0 a1) fun x8 h H=>cl h ?_;refine go ?_;refine cdp H (fun h H=>?_) (fun h H=>?_)
  ·refine go ?_;have e:=pur H;subst e;exact rt _
  ·refine go ?_;obtain ⟨o3,ho3,H⟩:=bnd H;refine L0 a1 0 _ ho3 _ rfl _ _ b1 ?_ ?_ _ _  S hF
   ·intro _ he T5 ss6 tT hF;have he:=he.symm;subst he
    try dsimp only at H
    refine go ?_;have e:=pur H;subst e;exact rt _
   ·intro r hr s' hs;subst hr;have e:=pur H;subst e;exact hsq hs
 ·intro Gs Jk C0 L0 a1 Yi out H c hc Q tt b1 hE hR T ss tT hF;refine lpx tt hc rfl fun q hX=>go ?_;refine cdp H (fun h H=>?_) (fun h H=>?_)
  ·obtain ⟨x21,f1,H⟩:=bil (g:=KZ) Fm.X6 H;refine go1 ?_;refine bp H (C0 x21) fun x23 h H=>cl h ?_;refine go ?_;refine cdb H (fun h H=>?_) (fun h H=>?_)
   ·refine go ?_;exact wq (hR _ (pur H).symm _ (rt _))
   ·refine go ?_;exact L0 a1 (i64.wrap (Yi+1)) _ H _ rfl Q tt b1 hE hR _ _  S hF
  ·refine go ?_;exact wq (hE () (pur H).symm _ _  S hF)
theorem Ez:∀(a0 X8:List Hit) (Yx:Int) out,Wy a0 X8 Yx=some out->∀c,Yh Tryz.f209 0=some c->∀(Q:QT) (tt:Sto),(∀(YO:List Hit),out=YO->∀(T:TT) (ss:Sto) (e0v0:AV),T 3=e0v0->Fx tt ss [] [⟨e0v0,217,12,rws K2 YO⟩]->Q (.ex 0) ⟨T,ss⟩)->True->∀(T:TT) (ss:Sto) (z0v0:AV),T 0=sf K2 a0/\T 3=z0v0/\T 4=i6 Yx->Fx tt ss [] [⟨z0v0,217,12,rws K2 X8⟩]->aLp K0 c Q ⟨T,ss⟩:=by
 intro a0 X8 Yx;revert X8 Yx;refine Wy.partial_correctness a0 _ ?_;intro Wy IH X8 Yx out H c hc Q tt  hE hR T ss z0v0 tT hF;refine lpx tt hc rfl fun q hX=>go ?_;refine cdp H (fun h H=>?_) (fun h H=>?_)
 ·refine go ?_;refine Yg E0 [.v,.v,.v,.v,.v,.v,.v,.v,.v,.v,.v,.v,.v,.v,.v,.v,.x,.z] (by kernel_rfl) ?_;obtain ⟨x15,f1,H⟩:=bil (g:=K2) Hit.X6 H;refine go1 ?_;refine WY hF rfl fun b1 ss2 hF=>?_;refine go ?_;refine st hF 0 rfl fun ss3 hF=>?_;refine go ?_;obtain ⟨EK,j5,H⟩:=bnd H;refine Vy (fun s'=>∃(T:TT) (ss1:Sto),s'=⟨T,ss1⟩/\(T 0=sf K2 a0/\T 3=z0v0/\T 4=i6 Yx/\T 5=.ptr b1 0)/\Fx tt ss1 [(b1,⟨217,12,[i6 x15.name.kind,.str x15.name.name,i6 x15.name.num,sf cI x15.name.sc,sf KZ x15.name.kids,i6 EK,i6 x15.one.kind,.str x15.one.name,i6 x15.one.num,sf cI x15.one.sc,sf KZ x15.one.kids,.Yb]⟩)] [⟨z0v0,217,12,rws K2 X8⟩]) (cdp j5 (fun h j5=>?_) (fun h j5=>?_)) ?_
  ·refine go ?_;refine st hF 0 rfl fun ss6 hF=>?_;refine go ?_;have e:=pur j5;subst e;exact ⟨_,_,rfl,S,hF⟩
  ·refine go ?_;have e:=pur j5;subst e;exact ⟨_,_,rfl,S,hF⟩
  ·rintro s' ⟨T7,s8,rfl,tT,hF⟩;refine go ?_;refine apw (g:=K2) (rows:=[[i6 x15.name.kind,.str x15.name.name,i6 x15.name.num,sf cI x15.name.sc,sf KZ x15.name.kids,i6 EK,i6 x15.one.kind,.str x15.one.name,i6 x15.one.num,sf cI x15.one.sc,sf KZ x15.one.kids,.Yb]]) hF 0 H Hit.X6 true rfl (by simp only [sf,i6,zB,Y2,VJ,cI,cU,cS,cL,Hit.Ya,Fm.Ya,Zt,Zu,Fm.num,Fm.sc,Zv,Zk,Zc,Zw,Zl,Zm,ZC,Zn,Zx,Zy,Zo,Zp,Zq,Zz,Zr,Zd,ZD,ZA,ZE,ZB,Qt,K7,KJ,Ki,QU];exact (.cons (.refl _) id (.cons (.refl _) id (.cons (.refl _) id (.cons (.refl _) id (.cons (.refl _) id (.cons (.refl _) id (.cons (.refl _) id (.cons (.refl _) id (.cons (.refl _) id (.cons (.refl _) id (.cons (.refl _) id (.cons .Yb (fun _=>rfl) .nil))))))))))))) fun x39 H v10 s11 hF=>?_;refine go ?_;exact IH  x39 (i64.wrap (Yx+1)) _ H _ rfl Q tt  hE hR _ _ v10 S (hF.drop 1 0)
 ·refine go ?_;exact wq (hE _ (pur H).symm _ _ z0v0 S hF)
theorem Mx:∀(a0:List Hit) r,Iv a0=some r->Vb K0 209 [sf K2 a0] (sf K2 r):=by
 intro a0 r H;intro ss;unfold Iv at H;refine hdh mixed Tryz.func209 (rs:=[.tmp 2]) fun q tT hF hX=>?_;have hF:=hF.lit 217 12 (rws K2 []) rfl;refine go ?_;obtain ⟨o12,ho12,H⟩:=bnd H;refine Ez a0 [] 0 _ ho12 _ rfl _ _  ?_ ?_ _ _ (.sl true (rws K2 [])) S hF
 ·intro MP he T14 s15 e13v0 tT hF;have he:=he.symm;subst he;refine go ?_;have e:=pur H;subst e;exact rt _
 ·trivial
theorem OU:∀(a0:Fm) (a1:List Hit) r,HF a0 a1=some r->Vb K0 199 [.agg (KZ a0),sf K2 a1] (.bool r):=by
 refine HF.partial_correctness _ (motive_2:=fun a0 a1 Yi out=>∀c,Yh Tryz.f199 0=some c->∀(Q:QT) (tt:Sto) (b1:Nat),(∀(_u:Unit),out=Sum.inr ()->∀(T:TT) (ss:Sto),0+0=0->Fx tt ss [(b1,⟨34,5,[i6 a0.kind,.str a0.name,i6 a0.num,sf cI a0.sc,sf KZ a0.kids]⟩)] []->Q (.ex 0) ⟨T,ss⟩)->(∀r,out=Sum.inl r->∀s',IP K0 [.tmp 4] (fun r' ss'=>r'=.bool r/\ss'=tt) s'->Q .ret s')->∀(T:TT) (ss:Sto),T 1=sf K2 a1/\T 2=.ptr b1 0/\T 5=i6 Yi->Fx tt ss [(b1,⟨34,5,[i6 a0.kind,.str a0.name,i6 a0.num,sf cI a0.sc,sf KZ a0.kids]⟩)] []->aLp K0 c Q ⟨T,ss⟩) ?_ ?_
 ·intro Ji L0 a0 a1 r H;intro ss;refine hdh mixed Tryz.func199 (rs:=[.tmp 4]) fun q tT hF hX=>?_;refine go ?_;refine X9 hF rfl fun b1 ss2 hF=>?_;refine go ?_;refine bp H (Va a0) fun x7 h H=>cl h ?_;refine go ?_;obtain ⟨x13,g3,H⟩:=bnd H;refine Yc 4 9 13 (.bool x13) (giN q (fun q=>?_) (fun q=>?_)) (fun J=>?_)
  ·rw [if_neg (dbf q)] at g3;refine go ?_;obtain ⟨x11,hx11,g3⟩:=bnd g3;refine cl (B9 a1 a0 _ hx11) ?_;refine go ?_;exact Yt 9 g3
  ·rw [if_pos (dbt q)] at g3;refine go ?_;exact Yt 9 g3
  refine go ?_;refine cdb H (fun h H=>?_) (fun h H=>?_)
  ·refine go ?_;have e:=pur H;subst e;exact rt _
  ·refine go ?_;obtain ⟨o11,ho11,H⟩:=bnd H;refine L0 a0 a1 0 _ ho11 _ rfl _ _ b1 ?_ ?_ _ _  S hF
   ·intro _ he T13 s14 tT hF;have he:=he.symm;subst he
    try dsimp only at H
    refine go ?_;have e:=pur H;subst e;exact rt _
   ·intro r hr s' hs;subst hr;have e:=pur H;subst e;exact hsq hs
 ·intro HF Ji C0 L0 a0 a1 Yi out H c hc Q tt b1 hE hR T ss tT hF;refine lpx tt hc rfl fun q hX=>go ?_;refine cdp H (fun h H=>?_) (fun h H=>?_)
  ·obtain ⟨x24,f1,H⟩:=bil (g:=KZ) Fm.X6 H;refine go1 ?_;refine bp H (Va x24) fun x26 h H=>cl h ?_;refine go ?_;refine cdb H (fun h H=>?_) (fun h H=>?_)
   ·refine go ?_;obtain ⟨x37,g5,H⟩:=bnd H;refine Yc 7 30 37 (.bool x37) (giN q (fun q=>?_) (fun q=>?_)) (fun J=>?_)
    ·rw [if_neg (df q)] at g5;obtain ⟨x34,f1,g5⟩:=bil (g:=KZ) Fm.X6 g5;refine go1 ?_;obtain ⟨x36,hx36,g5⟩:=bnd g5;refine cl (Va x34 _ hx36) ?_;refine go ?_;exact Yt 30 g5
    ·rw [if_pos (dt q)] at g5;refine go ?_;exact Yt 30 g5
    refine go ?_;refine cdb H (fun h H=>?_) (fun h H=>?_)
    ·refine go ?_;exact wq (hR _ (pur H).symm _ (rt _))
    ·refine go ?_;exact L0 a0 a1 (i64.wrap (Yi+1)) _ H _ rfl Q tt b1 hE hR _ _  S hF
   ·refine go ?_;obtain ⟨x52,g7,H⟩:=bnd H;refine Yc 7 45 52 (.bool x52) (gi q (fun q=>?_) (fun q=>?_)) (fun J=>?_)
    ·rw [if_pos (dt q)] at g7;obtain ⟨x49,f1,g7⟩:=bil (g:=KZ) Fm.X6 g7;refine go1 ?_;obtain ⟨x51,hx51,g7⟩:=bnd g7;refine cl (Va x49 _ hx51) ?_;refine go ?_;exact Yt 45 g7
    ·rw [if_neg (df q)] at g7;refine go ?_;exact Yt 45 g7
    refine go ?_;refine cdb H (fun h H=>?_) (fun h H=>?_)
    ·refine go ?_;refine Yg E0 [.v,.v,.v,.v,.v,.v,.v,.v,.v,.v,.v,.v,.v,.v,.v,.v,.v,.v,.v] (by kernel_rfl) ?_;obtain ⟨x57,f1,H⟩:=bil (g:=KZ) Fm.X6 H;refine go1 ?_;refine bp H (My a1 x57) fun x59 h H=>cv h ?_;refine go ?_;obtain ⟨x71,g9,H⟩:=bnd H;refine W6 9 62 71 (.bool x71) (tiN q (fun q=>?_) (fun q=>?_)) (fun J=>?_)
     ·rw [if_neg (dbf q)] at g9;obtain ⟨x65,f1,g9⟩:=bil (g:=KZ) Fm.X6 g9;refine go1 ?_;obtain ⟨x68,hx68,g9⟩:=bnd g9;refine cv (Mx a1 _ hx68) ?_;refine go ?_;obtain ⟨x69,hx69,g9⟩:=bnd g9;refine cv (C0 x65 x68 _ hx69) ?_;refine go ?_;exact Yt 62 g9
     ·rw [if_pos (dbt q)] at g9;refine go ?_;exact Yt 62 g9
     refine go ?_;refine cdb H (fun h H=>?_) (fun h H=>?_)
     ·refine go ?_;exact wq (hR _ (pur H).symm _ (rt _))
     ·refine go ?_;exact L0 a0 a1 (i64.wrap (Yi+1)) _ H _ rfl Q tt b1 hE hR _ _  S hF
    ·obtain ⟨x75,f1,H⟩:=bil (g:=KZ) Fm.X6 H;refine go1 ?_;refine bp H (C0 x75 a1) fun x78 h H=>cl h ?_;refine go ?_;refine cdb H (fun h H=>?_) (fun h H=>?_)
     ·refine go ?_;exact wq (hR _ (pur H).symm _ (rt _))
     ·refine go ?_;exact L0 a0 a1 (i64.wrap (Yi+1)) _ H _ rfl Q tt b1 hE hR _ _  S hF
  ·refine go ?_;exact wq (hE () (pur H).symm _ _  S hF)
theorem Mz:∀(a0:Rul) (a1:List Fm) r,Ai a0 a1=some r->Vb K0 184 [.agg (K5 a0),sf KZ a1] (.bool r):=by
 intro a0 a1 r H;intro ss;unfold Ai at H;refine hdh mixed Tryz.func184 (rs:=[.tmp 4]) fun q tT hF hX=>?_;refine go ?_;refine X9 hF rfl fun b1 ss2 hF=>?_;refine go ?_;refine Yg E0 [.v,.v,.v,.v,.v,.v,.v,.v,.v,.v,.v,.v,.v,.v,.v,.v,.v,.v,.v,.v,.v,.v,.v,.v,.v,.v,.v,.v,.v,.v,.v,.v] (by kernel_rfl) ?_;refine go ?_;refine bp H (OT a0.pat a1) fun x8 h H=>cv h ?_;refine go ?_;obtain ⟨x14,g3,H⟩:=bnd H;refine W6 4 10 14 (.bool x14) (ti q (fun q=>?_) (fun q=>?_)) (fun J=>?_)
 ·refine go ?_;exact Yt 10 g3
 ·refine go ?_;exact Yt 10 g3
 refine go ?_;obtain ⟨x21,g5,H⟩:=bnd H;refine W6 5 16 21 (.bool x21) (ti q (fun q=>?_) (fun q=>?_)) (fun J=>?_)
 ·refine go ?_;exact Yt 16 g5
 ·refine go ?_;exact Yt 16 g5
 refine go ?_;obtain ⟨x26,g7,H⟩:=bnd H;refine W6 3 23 26 (.bool x26) (ti q (fun q=>?_) (fun q=>?_)) (fun J=>?_)
 ·rw [if_pos (dbt q)] at g7;refine go ?_;obtain ⟨x25,hx25,g7⟩:=bnd g7;refine cv (Yv a0.tpl _ hx25) ?_;refine go ?_;exact Yt 23 g7
 ·rw [if_neg (dbf q)] at g7;refine go ?_;exact Yt 23 g7
 refine go ?_;obtain ⟨x35,g9,H⟩:=bnd H;refine W6 7 28 35 (.bool x35) (ti q (fun q=>?_) (fun q=>?_)) (fun J=>?_)
 ·rw [if_pos (dbt q)] at g9;refine go ?_;obtain ⟨x33,hx33,g9⟩:=bnd g9;refine cv (LA a0.pat a1 _ hx33) ?_;refine go ?_;obtain ⟨x34,hx34,g9⟩:=bnd g9;refine cv (OU a0.tpl x33 _ hx34) ?_;refine go ?_;exact Yt 28 g9
 ·rw [if_neg (dbf q)] at g9;refine go ?_;exact Yt 28 g9
 refine go ?_;have e:=pur H;subst e;exact rt _
theorem DJ:∀(a0:List Rul) (a1:List Fm) (Yi:Int) out,WI a0 a1 Yi=some out->∀c,Yh Tryz.f169 0=some c->∀(Q:QT) (tt:Sto),(∀(_u:Unit),out=Sum.inr ()->∀(T:TT) (ss:Sto),T 0=sf K5 a0/\T 1=sf KZ a1->Fx tt ss [] []->Q (.ex 0) ⟨T,ss⟩)->(∀r,out=Sum.inl r->∀s',IP K0 [.tmp 4] (fun r' ss'=>r'=.bool r/\ss'=tt) s'->Q .ret s')->∀(T:TT) (ss:Sto),T 0=sf K5 a0/\T 1=sf KZ a1/\T 5=i6 Yi->Fx tt ss [] []->aLp K0 c Q ⟨T,ss⟩:=by
 intro a0 a1 Yi;revert Yi;refine WI.partial_correctness a0 a1 _ ?_;intro WI IH Yi out H c hc Q tt  hE hR T ss tT hF;refine lpx tt hc rfl fun q hX=>go ?_;obtain ⟨x13,g1,H⟩:=bnd H;refine Yc 2 11 13 (.bool x13) (gi q (fun q=>?_) (fun q=>?_)) (fun J=>?_)
 ·refine go ?_;exact Yt 11 g1
 ·refine go ?_;exact Yt 11 g1
 refine go ?_;refine cdb H (fun h H=>?_) (fun h H=>?_)
 ·obtain ⟨x18,f1,H⟩:=bil (g:=K5) Rul.X6 H;refine go1 ?_;refine bp H (Mz x18 a1) fun x21 h H=>cl h ?_;refine go ?_;refine cdb H (fun h H=>?_) (fun h H=>?_)
  ·refine go ?_;exact wq (hR _ (pur H).symm _ (rt _))
  ·refine go ?_;exact IH  (i64.wrap (Yi+1)) _ H _ rfl Q tt  hE hR _ _  S hF
 ·refine go ?_;exact wq (hE () (pur H).symm _ _  S hF)
theorem Ca:∀(a0:List Rul) (a1:List Fm) r,H0 a0 a1=some r->Vb K0 169 [sf K5 a0,sf KZ a1] (.bool r):=by
 intro a0 a1 r H;intro ss;unfold H0 at H;refine hdh mixed Tryz.func169 (rs:=[.tmp 4]) fun q tT hF hX=>?_;refine go ?_;obtain ⟨o3,ho3,H⟩:=bnd H;refine DJ a0 a1 0 _ ho3 _ rfl _ _  ?_ ?_ _ _  S hF
 ·intro _ he T5 ss6 tT hF;have he:=he.symm;subst he
  try dsimp only at H
  refine go ?_;obtain ⟨x29,g8,H⟩:=bnd H;refine Yc 2 27 29 (.bool x29) (gi q (fun q=>?_) (fun q=>?_)) (fun J=>?_)
  ·rw [if_pos (dt q)] at g8;refine go ?_;obtain ⟨x28,hx28,g8⟩:=bnd g8;refine cl (AG a1 _ hx28) ?_;refine go ?_;exact Yt 27 g8
  ·rw [if_neg (df q)] at g8;refine go ?_;exact Yt 27 g8
  refine go ?_;have e:=pur H;subst e;exact rt _
 ·intro r hr s' hs;subst hr;have e:=pur H;subst e;exact hsq hs
theorem B2:∀(a0:Fm) (X8:List Fm) (Yq:Int) out,Vu a0 X8 Yq=some out->∀c,Yh Tryz.f163 0=some c->∀(Q:QT) (tt:Sto) (b1:Nat),(∀(YO:List Fm),out=YO->∀(T:TT) (ss:Sto) (e0v0:AV),T 1=.ptr b1 0/\T 5=e0v0/\T 6=.sl true (rws K5 [])->Fx tt ss [(b1,⟨34,5,[i6 a0.kind,.str a0.name,i6 a0.num,sf cI a0.sc,sf KZ a0.kids]⟩)] [⟨e0v0,34,5,rws KZ YO⟩]->Q (.ex 0) ⟨T,ss⟩)->True->∀(T:TT) (ss:Sto) (z0v0:AV),T 1=.ptr b1 0/\T 5=z0v0/\T 6=.sl true (rws K5 [])/\T 7=i6 Yq->Fx tt ss [(b1,⟨34,5,[i6 a0.kind,.str a0.name,i6 a0.num,sf cI a0.sc,sf KZ a0.kids]⟩)] [⟨z0v0,34,5,rws KZ X8⟩]->aLp K0 c Q ⟨T,ss⟩:=by
 intro a0 X8 Yq;revert X8 Yq;refine Vu.partial_correctness a0 _ ?_;intro Vu IH X8 Yq out H c hc Q tt b1 hE hR T ss z0v0 tT hF;obtain rfl:=lpe (rfl:Yh Tryz.f163 0=some _) hc;refine Yd ?_;have q:=dum;have hX:=Tau.none tt;obtain ⟨x46,f1,H⟩:=bil (g:=KZ) Fm.X6 H;refine go1 ?_;refine go ?_;refine cdp H (fun h H=>?_) (fun h H=>?_)
 ·obtain ⟨x56,f1,H⟩:=bil (g:=KZ) Fm.X6 H;obtain ⟨x60,f2,H⟩:=bil (g:=KZ) Fm.X6 H;refine go2 ?_;refine bp H (Ja x60) fun x62 h H=>cl h ?_;refine go ?_;refine apd (g:=KZ) hF 0 H (rdo (c:=true) (g:=KZ) Fm.X6) fun x64 H v11 s12 hF=>?_;refine go ?_;exact IH  x64 (i64.wrap (Yq+1)) _ H _ rfl Q tt b1 hE hR _ _ v11 S hF
 ·refine go ?_;exact wq (hE _ (pur H).symm _ _ z0v0 S hF)
theorem B3:∀(a0:Fm) (Au:List Fm) (Il:List Rul) (V9:Int) out,Vv a0 Au Il V9=some out->∀c,Yh Tryz.f163 1=some c->∀(Q:QT) (tt:Sto) (b1:Nat) (e14v0:AV),(∀(U6:List Rul),out=Sum.inr U6->∀(T:TT) (ss:Sto) (e1v1:AV),T 5=e14v0/\T 6=e1v1->Fx tt ss [(b1,⟨34,5,[i6 a0.kind,.str a0.name,i6 a0.num,sf cI a0.sc,sf KZ a0.kids]⟩)] [⟨e1v1,87,10,rws K5 U6⟩,⟨e14v0,34,5,rws KZ Au⟩]->Q (.ex 2) ⟨T,ss⟩)->(∀r,out=Sum.inl r->∀s',IP K0 [.tmp 2,.tmp 3,.tmp 4] (fun r' ss'=>r'=.tup [sf KZ r.1,sf K5 r.2.1,.bool r.2.2]/\ss'=tt) s'->Q .ret s')->∀(T:TT) (ss:Sto) (z1v1:AV),T 1=.ptr b1 0/\T 5=e14v0/\T 6=z1v1/\T 8=i6 V9->Fx tt ss [(b1,⟨34,5,[i6 a0.kind,.str a0.name,i6 a0.num,sf cI a0.sc,sf KZ a0.kids]⟩)] [⟨z1v1,87,10,rws K5 Il⟩,⟨e14v0,34,5,rws KZ Au⟩]->aLp K0 c Q ⟨T,ss⟩:=by
 intro a0 Au Il V9;revert Il V9;refine Vv.partial_correctness a0 Au _ ?_;intro Vv IH Il V9 out H c hc Q tt b1 e14v0 hE hR T ss z1v1 tT hF;refine lpx tt hc rfl fun q hX=>go ?_;refine cdp H (fun h H=>?_) (fun h H=>?_)
 ·obtain ⟨x75,f1,H⟩:=bil (g:=KZ) Fm.X6 H;refine go1 ?_;obtain ⟨x88,g18,H⟩:=bnd H;refine Yc 8 80 88 (.bool x88) (giN q (fun q=>?_) (fun q=>?_)) (fun J=>?_)
  ·rw [if_pos (dnf q)] at g18;obtain ⟨x83,f1,g18⟩:=bil (g:=KZ) Fm.X6 g18;refine go1 ?_;refine go ?_;exact Yt 80 g18
  ·rw [if_neg (dnt q)] at g18;refine go ?_;exact Yt 80 g18
  refine go ?_;refine cdb H (fun h H=>?_) (fun h H=>?_)
  ·refine go ?_;exact wq (hR _ (pur H).symm _ (rt _))
  ·refine go ?_;refine Yg E0 [.v,.v,.v,.v,.v,.v,.v,.v,.v,.v,.v,.v,.v,.v,.v,.v,.v,.v,.v,.v,.v,.x,.v] (by kernel_rfl) ?_;obtain ⟨x95,f1,H⟩:=bil (g:=KZ) Fm.X6 H;obtain ⟨x98,f2,H⟩:=bil (g:=KZ) Fm.X6 H;refine go2 ?_;refine bp H (Ja x98) fun x100 h H=>cv h ?_;obtain ⟨x104,f1,H⟩:=bil (g:=KZ) Fm.X6 H;obtain ⟨x107,f2,H⟩:=bil (g:=KZ) Fm.X6 H;refine go2 ?_;refine bp H (Ja x107) fun x109 h H=>cv h ?_;refine go ?_;refine Pr (g:=K5) hF 0 H (rdo (c:=true) (g:=K5) Rul.X6) fun x112 H v20 s21 hF=>?_;refine go ?_;exact IH  x112 (i64.wrap (V9+1)) _ H _ rfl Q tt b1 e14v0 hE hR _ _ v20 S hF
 ·refine go ?_;exact wq (hE _ (pur H).symm _ _ z1v1 S hF)
theorem DF:∀(a0:Fm) r,J2 a0=some r->Vb K0 163 [.agg (KZ a0)] (.tup [sf KZ r.1,sf K5 r.2.1,.bool r.2.2]):=by
 intro a0 r H;intro ss;unfold J2 at H;refine hdh mixed Tryz.func163 (rs:=[.tmp 2,.tmp 3,.tmp 4]) fun q tT hF hX=>?_;refine go ?_;refine X9 hF rfl fun b1 ss2 hF=>?_;refine go ?_;refine bp H (Yv a0) fun x12 h H=>cl h ?_;refine go ?_;obtain ⟨x18,g3,H⟩:=bnd H;refine Yc 3 15 18 (.bool x18) (giN q (fun q=>?_) (fun q=>?_)) (fun J=>?_)
 ·refine go ?_;exact Yt 15 g3
 ·refine go ?_;exact Yt 15 g3
 refine go ?_;obtain ⟨x24,g5,H⟩:=bnd H;refine Yc 4 20 24 (.bool x24) (giN q (fun q=>?_) (fun q=>?_)) (fun J=>?_)
 ·refine go ?_;exact Yt 20 g5
 ·refine go ?_;exact Yt 20 g5
 refine go ?_;obtain ⟨x32,g7,H⟩:=bnd H;refine Yc 6 26 32 (.bool x32) (giN q (fun q=>?_) (fun q=>?_)) (fun J=>?_)
 ·rw [if_neg (dbf q)] at g7;obtain ⟨x28,f1,g7⟩:=bil (g:=KZ) Fm.X6 g7;refine go1 ?_;refine go ?_;exact Yt 26 g7
 ·rw [if_pos (dbt q)] at g7;refine go ?_;exact Yt 26 g7
 refine go ?_;obtain ⟨x40,g9,H⟩:=bnd H;refine Yc 6 34 40 (.bool x40) (giN q (fun q=>?_) (fun q=>?_)) (fun J=>?_)
 ·rw [if_neg (dbf q)] at g9;obtain ⟨x36,f1,g9⟩:=bil (g:=KZ) Fm.X6 g9;refine go1 ?_;refine go ?_;exact Yt 34 g9
 ·rw [if_pos (dbt q)] at g9;refine go ?_;exact Yt 34 g9
 refine go ?_;refine cdb H (fun h H=>?_) (fun h H=>?_)
 ·refine go ?_;have e:=pur H;subst e;exact rt _
 ·have hF:=hF.lit 34 5 (rws KZ []) rfl;refine go ?_;obtain ⟨o13,ho13,H⟩:=bnd H;refine B2 a0 [] 0 _ ho13 _ rfl _ _ b1 ?_ ?_ _ _ (.sl true (rws KZ [])) S hF
  ·intro Au he T15 s16 e14v0 tT hF;have he:=he.symm;subst he;have hF:=hF.lit 87 10 (rws K5 []) rfl;refine go ?_;obtain ⟨o22,ho22,H⟩:=bnd H;refine B3 a0 Au [] 2 _ ho22 _ rfl _ _ b1 e14v0 ?_ ?_ _ _ (.sl true (rws K5 [])) S hF
   ·intro RG he T24 s25 e23v1 tT hF;have he:=he.symm;subst he
    try dsimp only at H
    refine go ?_;obtain ⟨x115,hx115,H⟩:=bnd H;refine Cg (Ca RG Au _ hx115) .bool (.cons ((hF.wk 0 rfl).trans (Wk.sub (Sub.zero _) _)) (fun _=>rfl) (.cons ((hF.wk 1 rfl).trans (Wk.sub (Sub.zero _) _)) (fun _=>rfl) .nil)) ?_;refine go ?_;refine cdb H (fun h H=>?_) (fun h H=>?_)
    ·refine go ?_;have e:=pur H;subst e;exact rt _
    ·refine go ?_;have e:=pur H;subst e;exact rt _
   ·intro r hr s' hs;subst hr;have e:=pur H;subst e;exact hsq hs
  ·trivial
theorem Mr:∀(a0:List Bnd) (a1 a2:Fm) r,Ag a0 a1 a2=some r->Vb K0 187 [sf K1 a0,.agg (KZ a1),.agg (KZ a2)] (.bool r):=by
 intro a0 a1 a2 r H;intro ss;unfold Ag at H;refine hdh mixed Tryz.func187 (rs:=[.tmp 6]) fun q tT hF hX=>?_;refine go ?_;refine X9 hF rfl fun b1 ss2 hF=>?_;refine go ?_;refine X9 hF rfl fun b3 ss4 hF=>?_;refine go ?_;refine bp H (AY a0 a1) fun x14 h H=>cl h ?_;refine go ?_;refine bp H (AY a0 a2) fun x20 h H=>cl h ?_;refine go ?_;obtain ⟨x29,g5,H⟩:=bnd H;refine Yc 2 27 29 (.bool x29) (giN q (fun q=>?_) (fun q=>?_)) (fun J=>?_)
 ·refine go ?_;exact Yt 27 g5
 ·refine go ?_;exact Yt 27 g5
 refine go ?_;refine cdb H (fun h H=>?_) (fun h H=>?_)
 ·refine go ?_;have e:=pur H;subst e;exact rt _
 ·refine go ?_;refine cdp H (fun h H=>?_) (fun h H=>?_)
  ·refine go ?_;have e:=pur H;subst e;exact rt _
  ·refine go ?_;refine Yg E0 [.v,.v,.v,.v,.v,.v,.v,.v,.v,.v,.v,.v] (by kernel_rfl) ?_;obtain ⟨x39,f1,H⟩:=bil (g:=K1) Bnd.X6 H;obtain ⟨x44,f2,H⟩:=bil (g:=K1) Bnd.X6 H;refine go2 ?_;refine go ?_;have e:=pur H;subst e;exact rt _
theorem Fq:∀(a0:Fm) (a2:List (List Hit)) (x17:List Fm) (x21:List Int) (X8:List Hit) (YJ:Int) (x30:Fm) (x34:Int) (Il:List Hit) (GL:Int) out,Wv a0 a2 x17 x21 X8 YJ x30 x34 Il GL=some out->∀c,Yh Tryz.f201 1=some c->∀(Q:QT) (tt:Sto) (b1 b9:Nat) (z0v0:AV),(∀(U6:List Hit),out=U6->∀(T:TT) (ss:Sto) (e1v1:AV),T 2=sf (cL K2) a2/\T 7=z0v0/\T 8=sf KZ x17/\T 9=sf cI x21/\T 10=i6 YJ/\T 11=.ptr b9 0->Fx tt ss [(b9,⟨217,12,[i6 x30.kind,.str x30.name,i6 x30.num,sf cI x30.sc,sf KZ x30.kids,i6 (i64.wrap (x34+1)),i6 0,.str zB,i6 0,.Yb,.Yb,e1v1]⟩),(b1,⟨34,5,[i6 a0.kind,.str a0.name,i6 a0.num,sf cI a0.sc,sf KZ a0.kids]⟩)] [⟨e1v1,217,12,rws K2 U6⟩,⟨z0v0,217,12,rws K2 X8⟩]->Q (.ex 2) ⟨T,ss⟩)->True->∀(T:TT) (ss:Sto) (z1v1:AV),T 2=sf (cL K2) a2/\T 7=z0v0/\T 8=sf KZ x17/\T 9=sf cI x21/\T 10=i6 YJ/\T 11=.ptr b9 0/\T 12=i6 GL->Fx tt ss [(b9,⟨217,12,[i6 x30.kind,.str x30.name,i6 x30.num,sf cI x30.sc,sf KZ x30.kids,i6 (i64.wrap (x34+1)),i6 0,.str zB,i6 0,.Yb,.Yb,z1v1]⟩),(b1,⟨34,5,[i6 a0.kind,.str a0.name,i6 a0.num,sf cI a0.sc,sf KZ a0.kids]⟩)] [⟨z1v1,217,12,rws K2 Il⟩,⟨z0v0,217,12,rws K2 X8⟩]->aLp K0 c Q ⟨T,ss⟩:=by
 intro a0 a2 x17 x21 X8 YJ x30 x34 Il GL;revert Il GL;refine Wv.partial_correctness a0 a2 x17 x21 X8 YJ x30 x34 _ ?_;intro Wv IH Il GL out H c hc Q tt b1 b9 z0v0 hE hR T ss z1v1 tT hF;refine lpx tt hc rfl fun q hX=>go ?_;refine cdp H (fun h H=>?_) (fun h H=>?_)
 ·refine go ?_;refine Yg E0 [.v,.v,.v,.v,.v,.v,.v,.v,.v,.v,.x,.v,.z] (by kernel_rfl) ?_;obtain ⟨x48,f1,H⟩:=bil (g:=(cL K2)) (fun _=>rfl) H;obtain ⟨x51,f2,H⟩:=bil (g:=K2) Hit.X6 H;refine go2 ?_;refine Pr (g:=K2) hF 0 H (rdo (c:=true) (g:=K2) Hit.X6) fun x54 H v12 s13 hF=>?_;refine go ?_;refine st hF 0 (hF.cells 0 rfl) fun s14 hF=>?_;refine go ?_;exact IH  x54 (i64.wrap (GL+1)) _ H _ rfl Q tt b1 b9 z0v0 hE hR _ _ v12 S hF
 ·refine go ?_;exact wq (hE _ (pur H).symm _ _ z1v1 S hF)
theorem Fp:∀(a0:Fm) (a2:List (List Hit)) (x17:List Fm) (x21:List Int) (X8:List Hit) (YJ:Int) out,W3 a0 a2 x17 x21 X8 YJ=some out->∀c,Yh Tryz.f201 0=some c->∀(Q:QT) (tt:Sto) (b1:Nat),(∀(YO:List Hit),out=YO->∀(T:TT) (ss:Sto) (e0v0:AV),T 7=e0v0->Fx tt ss [(b1,⟨34,5,[i6 a0.kind,.str a0.name,i6 a0.num,sf cI a0.sc,sf KZ a0.kids]⟩)] [⟨e0v0,217,12,rws K2 YO⟩]->Q (.ex 0) ⟨T,ss⟩)->True->∀(T:TT) (ss:Sto) (z0v0:AV),T 2=sf (cL K2) a2/\T 7=z0v0/\T 8=sf KZ x17/\T 9=sf cI x21/\T 10=i6 YJ->Fx tt ss [(b1,⟨34,5,[i6 a0.kind,.str a0.name,i6 a0.num,sf cI a0.sc,sf KZ a0.kids]⟩)] [⟨z0v0,217,12,rws K2 X8⟩]->aLp K0 c Q ⟨T,ss⟩:=by
 intro a0 a2 x17 x21 X8 YJ;revert X8 YJ;refine W3.partial_correctness a0 a2 x17 x21 _ ?_;intro W3 IH X8 YJ out H c hc Q tt b1 hE hR T ss z0v0 tT hF;refine lpx tt hc rfl fun q hX=>go ?_;refine cdp H (fun h H=>?_) (fun h H=>?_)
 ·refine go ?_;refine Yg E0 [.v,.v,.v,.v,.v,.v,.v,.v,.v,.v,.x,.z] (by kernel_rfl) ?_;obtain ⟨x30,f1,H⟩:=bil (g:=KZ) Fm.X6 H;obtain ⟨x34,f2,H⟩:=bil (g:=cI) (fun _=>rfl) H;refine go2 ?_;refine WY hF rfl fun b9 s10 hF=>?_;refine go ?_;refine st hF 0 rfl fun s11 hF=>?_;have hF:=hF.nil 217 12;refine go ?_;obtain ⟨o15,ho15,H⟩:=bnd H;refine Fq a0 a2 x17 x21 X8 YJ x30 x34 [] 0 _ ho15 _ rfl _ _ b1 b9 z0v0 ?_ ?_ _ _ .Yb S hF
  ·intro RF he T17 s18 e16v1 tT hF;have he:=he.symm;subst he;refine go ?_;refine Qnf (g:=K2) (rows:=[[i6 x30.kind,.str x30.name,i6 x30.num,sf cI x30.sc,sf KZ x30.kids,i6 (i64.wrap (x34+1)),i6 0,.str zB,i6 0,.Yb,.Yb,e16v1]]) hF 1 0 0 H Hit.X6 true rfl (by simp only [sf,i6,zB,Y2,VJ,cI,cU,cS,cL,Hit.Ya,Fm.Ya,Zt,Zu,Fm.num,Fm.sc,Zv,Zk,Zc,Zw,Zl,Zm,ZC,Zn,Zx,Zy,Zo,Zp,Zq,Zz,Zr,Zd,ZD,ZA,ZE,ZB,Qt,K7,KJ,Ki,QU];exact (.wk (.refl _) id (.wk (.refl _) id (.wk (.refl _) id (.wk (.refl _) id (.wk (.refl _) id (.wk (.refl _) id (.wk (.refl _) id (.wk (.refl _) id (.wk (.refl _) id (.wk .Yb (fun _=>rfl) (.wk .Yb (fun _=>rfl) (.own .nil))))))))))))) fun x59 H v20 s21 hF=>?_;refine go ?_;exact IH  x59 (i64.wrap (YJ+1)) _ H _ rfl Q tt b1 hE hR _ _ v20 S (hF.drop 1 0)
  ·trivial
 ·refine go ?_;exact wq (hE _ (pur H).symm _ _ z0v0 S hF)
theorem NM:∀(a0:Fm) (a1:List Fm) (a2:List (List Hit)) r,I3 a0 a1 a2=some r->Vb K0 201 [.agg (KZ a0),sf KZ a1,sf (cL K2) a2] (sf K2 r):=by
 intro a0 a1 a2 r H;intro ss;unfold I3 at H;refine hdh mixed Tryz.func201 (rs:=[.tmp 6]) fun q tT hF hX=>?_;refine go ?_;refine X9 hF rfl fun b1 ss2 hF=>?_;have hF:=hF.lit 34 5 (rws KZ []) rfl;refine go ?_;obtain ⟨x17,hx17,H⟩:=bnd H;refine cx (AZ [] a0 a1 _ hx17  (.sl true (rws KZ [])) _ (pre 0 0 1 hF hX)) ?_;rintro _ ss3 ⟨tt4,rfl,hT,hG⟩;have hF:=L6 0 1 hF hX hT hG;have hF:=hF.lit 3 1 (rws cI []) rfl;refine go ?_;obtain ⟨x21,hx21,H⟩:=bnd H;refine cx (IS [] a0 a1 0 _ hx21  (.sl true (rws cI [])) _ (pre 0 0 1 hF hX)) ?_;rintro _ ss6 ⟨t7,rfl,hT,hG⟩;have hF:=L6 0 1 hF hX hT hG;have hF:=hF.lit 217 12 (rws K2 []) rfl;refine go ?_;obtain ⟨o22,ho22,H⟩:=bnd H;refine Fp a0 a2 x17 x21 [] 0 _ ho22 _ rfl _ _ b1 ?_ ?_ _ _ (.sl true (rws K2 [])) S hF
 ·intro Ow he T24 s25 e23v0 tT hF;have he:=he.symm;subst he;refine go ?_;have e:=pur H;subst e;exact rt _
 ·trivial
theorem Eu:∀(a0:List Bnd) (a1 a2 a3:List Fm) (VT AL:Int) out,Wu a0 a1 a2 a3 VT AL=some out->∀c,Yh Tryz.f188 0=some c->∀(Q:QT) (tt:Sto),(∀(Qe0:Int),out=Qe0->∀(T:TT) (ss:Sto),T 0=sf K1 a0/\T 1=sf KZ a1/\T 2=sf KZ a2/\T 3=sf KZ a3/\T 10=.sl true (rws K2 [])/\T 11=i6 Qe0->Fx tt ss [] []->Q (.ex 0) ⟨T,ss⟩)->True->∀(T:TT) (ss:Sto),T 0=sf K1 a0/\T 1=sf KZ a1/\T 2=sf KZ a2/\T 3=sf KZ a3/\T 10=.sl true (rws K2 [])/\T 11=i6 VT/\T 12=i6 AL->Fx tt ss [] []->aLp K0 c Q ⟨T,ss⟩:=by
 intro a0 a1 a2 a3 VT AL;revert VT AL;refine Wu.partial_correctness a0 a1 a2 a3 _ ?_;intro Wu IH VT AL out H c hc Q tt  hE hR T ss tT hF;refine lpx tt hc rfl fun q hX=>go ?_;refine cdp H (fun h H=>?_) (fun h H=>?_)
 ·obtain ⟨x32,f1,H⟩:=bil (g:=KZ) Fm.X6 H;refine go1 ?_;refine bp H (Va x32) fun x34 h H=>cl h ?_;refine go ?_;refine cdb H (fun h H=>?_) (fun h H=>?_)
  ·refine go ?_;exact IH  AL (i64.wrap (AL+1)) _ H _ rfl Q tt  hE hR _ _  S hF
  ·refine go ?_;exact IH  VT (i64.wrap (AL+1)) _ H _ rfl Q tt  hE hR _ _  S hF
 ·refine go ?_;exact wq (hE _ (pur H).symm _ _  S hF)
end Go.Proofs.SA
