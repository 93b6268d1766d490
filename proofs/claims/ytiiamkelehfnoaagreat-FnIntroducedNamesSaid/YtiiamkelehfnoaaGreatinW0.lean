/- Printed by a program of mine: the plain functions that the code computes (D), and the walks that show it (W). -/
import Derived.Test.YtiiamkelehfnoaaGreatGx
import Derived.Test.YtiiamkelehfnoaaGreatSaTy
import Derived.Test.YtiiamkelehfnoaaGreatChecked
import Derived.Lib.Strings
import Derived.Lib.Slices
import Derived.Lib.Walk
import Derived.Lib.Bytealg
import Derived.Test.YtiiamkelehfnoaaGreatinD
set_option maxRecDepth 100000
set_option maxHeartbeats 2000000
set_option linter.unusedSimpArgs false
set_option linter.unusedVariables false
open Go Go.Proofs Go.Proofs.Shadow
open Fm renaming cells → KW, kind → Zq, name → Zr, kids → Zs
open Tryz renaming prog → KX
open _root_.ByteArray renaming mk → Qk
open Bnd renaming cells → KY
open Hit renaming cells → KZ, depth → K9, name → Zh, many → Zi, one → Zt
open _root_.And renaming intro → K0
open Fx renaming self → K1, kept → K8
open Rul renaming cells → K2
open _root_.List renaming not_mem_nil → KD, cons_append → Kh, nil_append → QS, mem_cons → Kj, flatten_cons → Qr, flatten_nil → K4, append_nil → KJ
open EE renaming not → K3, of → Zc, new → Zp
open Xpn renaming cells → K5
open _root_.Int renaming toNat_natCast → Kl, reduceEq → Zg
open _root_.Nat renaming reduceEqDiff → K6, reduceLeDiff → K7, reduceAdd → Zd, reduceMul → Ze, reduceLT → Zf
open Val renaming items → Za, kind → Zn, name → Zo, num → Zw, env → Zx, fn → ZA
open Mac renaming cells → Zb
open Cor renaming kind → Zj, name → Zk, data → Zl, kids → Zm, num → Zu, ids → Zv, id → Zz
open Slt renaming val → Zy, id → ZB
open Go.IntKind (i64)
namespace Go.Proofs.SA
theorem HC:∀(a0:List Int) r,J7 a0=some r->∀   (ss:Sto),Pre ss [] []->Ctr KX 22 [sf cU a0] ss (fun r' ss'=>∃(tt':Sto) (n0:Nat),r'=.ptr n0 0/\Tau (strip ss []) [] tt'/\Fx tt' ss' [(n0,⟨89,2,[sf cU r.b,i6 r.p]⟩)] []):=by
 intro a0 r H;intro   ss hP;unfold J7 at H;refine hdg mixed Tryz.func22 (rs:=[.tmp 2]) fun q tT=>?_;obtain ⟨hF,hX⟩:=hP.start;generalize strip ss []=tt0 at hF hX ⊢;refine go ?_;refine cdp H (fun h H=>?_) (fun h H=>?_)
 ·obtain ⟨x7,f1,H⟩:=bls (g:=cU) (fun _=>rfl) (lo:=none) (hi:=some (i6 2000)) rfl rfl H;refine go1 ?_;refine go ?_;refine X8 hF rfl fun b1 ss2 hF=>?_;refine go ?_;have e:=pur H;subst e;exact rg _ ⟨_,_,rfl,hX,hF.pick [0] [] (by decide) (by decide)⟩
 ·refine go ?_;refine X8 hF rfl fun b3 ss4 hF=>?_;refine go ?_;have e:=pur H;subst e;exact rg _ ⟨_,_,rfl,hX,hF.pick [0] [] (by decide) (by decide)⟩
theorem Ys:∀(a1:Int) (c0:Rdr) r,Yq a1 c0=some r->∀(e0:Nat)  (ss:Sto),Pre ss [(e0,⟨89,2,[sf cU c0.b,i6 c0.p]⟩)] []->Ctr KX 24 [.ptr e0 0,i6 a1] ss (fun r' ss'=>∃(tt':Sto),r'=i6 r.1/\Tau (strip ss []) [(e0,⟨89,2,[sf cU r.2.b,i6 r.2.p]⟩)] tt'/\Fx tt' ss' [] []):=by
 intro a1 c0 r H;intro e0  ss hP;unfold Yq at H;refine hdg mixed Tryz.func24 (rs:=[.tmp 4]) fun q tT=>?_;obtain ⟨hF,hX⟩:=hP.start;generalize strip ss []=tt0 at hF hX ⊢;refine go ?_;refine stT hF hX 0 rfl fun tt2 ss1 hF hX=>?_;refine go ?_;obtain ⟨x24,g3,H⟩:=bnd H;refine Ya 6 18 24 (.bool x24) (giN q (fun q=>?_) (fun q=>?_)) (fun J=>?_)
 ·refine go ?_;exact Yt 18 g3
 ·refine go ?_;exact Yt 18 g3
 refine go ?_;refine cdb H (fun h H=>?_) (fun h H=>?_)
 ·refine go ?_;have e:=pur H;subst e;exact rg _ ⟨_,rfl,hX,K1 _⟩
 ·refine go ?_;refine cdp H (fun h H=>?_) (fun h H=>?_)
  ·obtain ⟨x42,f1,H⟩:=bil (g:=cU) (fun _=>rfl) H;obtain ⟨x46,f2,H⟩:=brm H;refine go2 ?_;refine go ?_;have e:=pur H;subst e;exact rg _ ⟨_,rfl,hX,K1 _⟩
  ·refine go ?_;refine Yf E0 [.v,.v,.v,.v,.v,.v,.v,.v,.v,.v,.v,.v,.v,.v,.v,.v,.v,.v,.v,.v,.v,.v,.v,.v,.v,.v,.v,.v,.v,.v,.v,.v,.v,.v,.v,.v,.v,.v,.v,.v,.v,.v,.v,.v,.v,.v] (by kernel_rfl) ?_;obtain ⟨x57,f1,H⟩:=brm H;obtain ⟨x58,f2,H⟩:=bil (g:=cU) (fun _=>rfl) H;obtain ⟨x74,f3,H⟩:=brm H;obtain ⟨x75,f4,H⟩:=bil (g:=cU) (fun _=>rfl) H;obtain ⟨x89,f5,H⟩:=bqu H;refine go5 ?_;obtain ⟨x98,f1,H⟩:=brm H;refine go1 ?_;refine go ?_;have e:=pur H;subst e;exact rg _ ⟨_,rfl,hX,K1 _⟩
theorem EX:∀(a0:ByteArray) (HO:Int) out,JA a0 HO=some out->∀c,Yh Tryz.f178 0=some c->∀(Q:QT) (tt:Sto),(∀(O4:Int),out=O4->∀(T:TT) (ss:Sto),T 1=i6 O4->Fx tt ss [] []->Q (.ex 0) ⟨T,ss⟩)->True->∀(T:TT) (ss:Sto),T 0=.str a0/\T 1=i6 HO->Fx tt ss [] []->aLp KX c Q ⟨T,ss⟩:=by
 intro a0 HO;revert HO;refine JA.partial_correctness a0 _ ?_;intro JA IH HO out H c hc Q tt  hE hR T ss tT hF;refine lpx tt hc rfl fun q hX=>go ?_;obtain ⟨x14,g1,H⟩:=bnd H;refine Ya 4 10 14 (.bool x14) (gi q (fun q=>?_) (fun q=>?_)) (fun J=>?_)
 ·rw [if_pos (dt q)] at g1;obtain ⟨x12,f1,g1⟩:=bsx g1;refine go1 ?_;refine go ?_;exact Yt 10 g1
 ·rw [if_neg (df q)] at g1;refine go ?_;exact Yt 10 g1
 refine go ?_;refine cdb H (fun h H=>?_) (fun h H=>?_)
 ·refine go ?_;exact IH  (i64.wrap (HO+1)) _ H _ rfl Q tt  hE hR _ _  S hF
 ·refine go ?_;exact wq (hE _ (pur H).symm _ _  S hF)
theorem Ac:∀(a0:ByteArray) (a1:Int) r,HH a0 a1=some r->Vm KX 178 [.str a0,i6 a1] (i6 r):=by
 intro a0 a1 r H;intro ss;unfold HH at H;refine hdh mixed Tryz.func178 (rs:=[.tmp 4]) fun q tT hF hX=>?_;refine go ?_;obtain ⟨o3,ho3,H⟩:=bnd H;refine EX a0 a1 _ ho3 _ rfl _ _  ?_ ?_ _ _  S hF
 ·intro Qgw he T5 ss6 tT hF;have he:=he.symm;subst he;refine go ?_;have e:=pur H;subst e;exact rt _
 ·trivial
theorem EY:∀(a0:ByteArray) (HO:Int) out,JB a0 HO=some out->∀c,Yh Tryz.f206 0=some c->∀(Q:QT) (tt:Sto),(∀(O4:Int),out=O4->∀(T:TT) (ss:Sto),T 1=i6 O4->Fx tt ss [] []->Q (.ex 0) ⟨T,ss⟩)->True->∀(T:TT) (ss:Sto),T 0=.str a0/\T 1=i6 HO->Fx tt ss [] []->aLp KX c Q ⟨T,ss⟩:=by
 intro a0 HO;revert HO;refine JB.partial_correctness a0 _ ?_;intro JB IH HO out H c hc Q tt  hE hR T ss tT hF;refine lpx tt hc rfl fun q hX=>go ?_;obtain ⟨x14,g1,H⟩:=bnd H;refine Ya 4 10 14 (.bool x14) (gi q (fun q=>?_) (fun q=>?_)) (fun J=>?_)
 ·rw [if_pos (dt q)] at g1;obtain ⟨x12,f1,g1⟩:=bsx g1;refine go1 ?_;refine go ?_;exact Yt 10 g1
 ·rw [if_neg (df q)] at g1;refine go ?_;exact Yt 10 g1
 refine go ?_;obtain ⟨x20,g3,H⟩:=bnd H;refine Ya 4 16 20 (.bool x20) (gi q (fun q=>?_) (fun q=>?_)) (fun J=>?_)
 ·rw [if_pos (dbt q)] at g3;obtain ⟨x18,f1,g3⟩:=bsx g3;refine go1 ?_;refine go ?_;exact Yt 16 g3
 ·rw [if_neg (dbf q)] at g3;refine go ?_;exact Yt 16 g3
 refine go ?_;obtain ⟨x26,g5,H⟩:=bnd H;refine Ya 4 22 26 (.bool x26) (gi q (fun q=>?_) (fun q=>?_)) (fun J=>?_)
 ·rw [if_pos (dbt q)] at g5;obtain ⟨x24,f1,g5⟩:=bsx g5;refine go1 ?_;refine go ?_;exact Yt 22 g5
 ·rw [if_neg (dbf q)] at g5;refine go ?_;exact Yt 22 g5
 refine go ?_;obtain ⟨x32,g7,H⟩:=bnd H;refine Ya 4 28 32 (.bool x32) (gi q (fun q=>?_) (fun q=>?_)) (fun J=>?_)
 ·rw [if_pos (dbt q)] at g7;obtain ⟨x30,f1,g7⟩:=bsx g7;refine go1 ?_;refine go ?_;exact Yt 28 g7
 ·rw [if_neg (dbf q)] at g7;refine go ?_;exact Yt 28 g7
 refine go ?_;refine cdb H (fun h H=>?_) (fun h H=>?_)
 ·refine go ?_;exact IH  (i64.wrap (HO+1)) _ H _ rfl Q tt  hE hR _ _  S hF
 ·refine go ?_;exact wq (hE _ (pur H).symm _ _  S hF)
theorem M7:∀(a0:ByteArray) (a1:Int) r,AU a0 a1=some r->Vm KX 206 [.str a0,i6 a1] (i6 r):=by
 intro a0 a1 r H;intro ss;unfold AU at H;refine hdh mixed Tryz.func206 (rs:=[.tmp 4]) fun q tT hF hX=>?_;refine go ?_;obtain ⟨o9,ho9,H⟩:=bnd H;refine EY a0 a1 _ ho9 _ rfl _ _  ?_ ?_ _ _  S hF
 ·intro Qa0 he T11 s12 tT hF;have he:=he.symm;subst he;refine go ?_;have e:=pur H;subst e;exact rt _
 ·trivial
theorem ET:∀(x14:Bool) (Ch:ByteArray) (Yd YE:Int) out,Jv x14 Ch Yd YE=some out->∀c,Yh Tryz.f207 0=some c->∀(Q:QT) (tt:Sto),(∀(Qay:Int),out=Sum.inr Qay->∀(T:TT) (ss:Sto),T 4=.bool x14/\T 5=i6 Qay->Fx tt ss [] []->Q (.ex 0) ⟨T,ss⟩)->(∀r,out=Sum.inl r->∀s',IE KX [.tmp 2,.tmp 3] (fun r' ss'=>r'=.tup [i6 r.1,.bool r.2]/\ss'=tt) s'->Q .ret s')->∀(T:TT) (ss:Sto),T 0=.str Ch/\T 4=.bool x14/\T 5=i6 Yd/\T 6=i6 YE->Fx tt ss [] []->aLp KX c Q ⟨T,ss⟩:=by
 intro x14 Ch Yd YE;revert Yd YE;refine Jv.partial_correctness x14 Ch _ ?_;intro Jv IH Yd YE out H c hc Q tt  hE hR T ss tT hF;refine lpx tt hc rfl fun q hX=>go ?_;refine cdp H (fun h H=>?_) (fun h H=>?_)
 ·obtain ⟨x47,f1,H⟩:=bsx H;refine go1 ?_;obtain ⟨x54,g16,H⟩:=bnd H;refine Ya 4 50 54 (.bool x54) (giN q (fun q=>?_) (fun q=>?_)) (fun J=>?_)
  ·rw [if_neg (df q)] at g16;obtain ⟨x52,f1,g16⟩:=bsx g16;refine go1 ?_;refine go ?_;exact Yt 50 g16
  ·rw [if_pos (dt q)] at g16;refine go ?_;exact Yt 50 g16
  refine go ?_;refine cdb H (fun h H=>?_) (fun h H=>?_)
  ·refine go ?_;exact wq (hR _ (pur H).symm _ (rt _))
  ·obtain ⟨x59,f1,H⟩:=bsx H;refine go1 ?_;refine go ?_;exact IH  (i64.wrap ((i64.wrap (Yd * 10))+(i64.wrap (IntKind.u8.wrap (x59 - 48))))) (i64.wrap (YE+1)) _ H _ rfl Q tt  hE hR _ _  S hF
 ·refine go ?_;exact wq (hE _ (pur H).symm _ _  S hF)
theorem Dt:∀(a0:ByteArray) r,I4 a0=some r->Vm KX 207 [.str a0] (.tup [i6 r.1,.bool r.2]):=by
 intro a0 r H;intro ss;unfold I4 at H;refine hdh mixed Tryz.func207 (rs:=[.tmp 2,.tmp 3]) fun q tT hF hX=>?_;refine go ?_;obtain ⟨x14,g1,H⟩:=bnd H;refine Ya 3 11 14 (.bool x14) (gi q (fun q=>?_) (fun q=>?_)) (fun J=>?_)
 ·rw [if_pos (dt q)] at g1;obtain ⟨x12,f1,g1⟩:=bsx g1;refine go1 ?_;refine go ?_;exact Yt 11 g1
 ·rw [if_neg (df q)] at g1;refine go ?_;exact Yt 11 g1
 refine go ?_;obtain ⟨Ch,j4,H⟩:=bnd H;refine VG (fun s'=>∃(T:TT) (ss1:Sto),s'=⟨T,ss1⟩/\(T 0=.str Ch/\T 4=.bool x14)/\Fx ss ss1 [] []) (cdb j4 (fun h j4=>?_) (fun h j4=>?_)) ?_
 ·obtain ⟨x17,f1,j4⟩:=bss (lo:=some (i6 1)) (hi:=none) rfl rfl j4;refine go1 ?_;refine go ?_;have e:=pur j4;subst e;exact ⟨_,_,rfl,S,hF⟩
 ·refine go ?_;have e:=pur j4;subst e;exact ⟨_,_,rfl,S,hF⟩
 ·rintro s' ⟨T5,ss6,rfl,tT,hF⟩;refine go ?_;obtain ⟨x25,g8,H⟩:=bnd H;refine Ya 3 22 25 (.bool x25) (giN q (fun q=>?_) (fun q=>?_)) (fun J=>?_)
  ·refine go ?_;exact Yt 22 g8
  ·refine go ?_;exact Yt 22 g8
  refine go ?_;obtain ⟨x38,g10,H⟩:=bnd H;refine Ya 11 27 38 (.bool x38) (giN q (fun q=>?_) (fun q=>?_)) (fun J=>?_)
  ·rw [if_neg (dbf q)] at g10;obtain ⟨x28,f1,g10⟩:=bsx g10;refine go1 ?_;obtain ⟨x37,g12,g10⟩:=bnd g10;refine Ya 6 31 37 (.bool x37) (gi q (fun q=>?_) (fun q=>?_)) (fun J=>?_)
   ·rw [if_pos (dt q)] at g12;refine go ?_;obtain ⟨x36,g14,g12⟩:=bnd g12;refine Ya 1 35 36 (.bool x36) (giN q (fun q=>?_) (fun q=>?_)) (fun J=>?_)
    ·refine go ?_;exact Yt 35 g14
    ·refine go ?_;exact Yt 35 g14
    refine go ?_;exact Yt 31 g12
   ·rw [if_neg (df q)] at g12;refine go ?_;exact Yt 31 g12
   refine go ?_;exact Yt 27 g10
  ·rw [if_pos (dbt q)] at g10;refine go ?_;exact Yt 27 g10
  refine go ?_;refine cdb H (fun h H=>?_) (fun h H=>?_)
  ·refine go ?_;have e:=pur H;subst e;exact rt _
  ·refine go ?_;obtain ⟨o18,ho18,H⟩:=bnd H;refine ET x14 Ch 0 0 _ ho18 _ rfl _ _  ?_ ?_ _ _  S hF
   ·intro O9 he T20 s21 tT hF;have he:=he.symm;subst he
    try dsimp only at H
    refine go ?_;refine cdb H (fun h H=>?_) (fun h H=>?_)
    ·refine go ?_;have e:=pur H;subst e;exact rt _
    ·refine go ?_;have e:=pur H;subst e;exact rt _
   ·intro r hr s' hs;subst hr;have e:=pur H;subst e;exact hsq hs
theorem ES:∀(a0:ByteArray) (a1:Int) (X6:List ByteArray) (YE Yo:Int) out,WO a0 a1 X6 YE Yo=some out->∀c,Yh Tryz.f214 0=some c->∀(Q:QT) (tt:Sto),(∀(YS:List ByteArray),out=YS->∀(T:TT) (ss:Sto) (e0v0:AV),T 5=e0v0->Fx tt ss [] [⟨e0v0,9,1,rws cS YS⟩]->Q (.ex 0) ⟨T,ss⟩)->True->∀(T:TT) (ss:Sto) (z0v0:AV),T 0=.str a0/\T 1=.int .u8 a1/\T 5=z0v0/\T 6=i6 YE/\T 7=i6 Yo->Fx tt ss [] [⟨z0v0,9,1,rws cS X6⟩]->aLp KX c Q ⟨T,ss⟩:=by
 intro a0 a1 X6 YE Yo;revert X6 YE Yo;refine WO.partial_correctness a0 a1 _ ?_;intro WO IH X6 YE Yo out H c hc Q tt  hE hR T ss z0v0 tT hF;refine lpx tt hc rfl fun q hX=>go ?_;refine cdp H (fun h H=>?_) (fun h H=>?_)
 ·refine go ?_;obtain ⟨x25,g1,H⟩:=bnd H;refine Ya 5 20 25 (.bool x25) (giN q (fun q=>?_) (fun q=>?_)) (fun J=>?_)
  ·rw [if_neg (df q)] at g1;obtain ⟨x22,f1,g1⟩:=bsx g1;refine go1 ?_;refine go ?_;exact Yt 20 g1
  ·rw [if_pos (dt q)] at g1;refine go ?_;exact Yt 20 g1
  refine go ?_;refine cdb H (fun h H=>?_) (fun h H=>?_)
  ·obtain ⟨x30,f1,H⟩:=bss (lo:=some (i6 YE)) (hi:=some (i6 Yo)) rfl rfl H;refine go1 ?_;refine apd (g:=cS) hF 0 H (rdo (c:=true) (g:=cS) (fun _=>rfl)) fun x32 H v3 ss4 hF=>?_;refine go ?_;exact IH  x32 (i64.wrap (Yo+1)) (i64.wrap (Yo+1)) _ H _ rfl Q tt  hE hR _ _ v3 S hF
  ·refine go ?_;exact IH  X6 YE (i64.wrap (Yo+1)) _ H _ rfl Q tt  hE hR _ _ z0v0 S hF
 ·refine go ?_;exact wq (hE _ (pur H).symm _ _ z0v0 S hF)
theorem M3:∀(a0:ByteArray) (a1:Int) r,AP a0 a1=some r->Vm KX 214 [.str a0,.int .u8 a1] (sf cS r):=by
 intro a0 a1 r H;intro ss;unfold AP at H;refine hdh mixed Tryz.func214 (rs:=[.tmp 4]) fun q tT hF hX=>?_;have hF:=hF.lit 9 1 (rws cS []) rfl;refine go ?_;obtain ⟨o5,ho5,H⟩:=bnd H;refine ES a0 a1 [] 0 0 _ ho5 _ rfl _ _  ?_ ?_ _ _ (.sl true (rws cS [])) S hF
 ·intro Qju he T7 s8 e6v0 tT hF;have he:=he.symm;subst he;refine go ?_;have e:=pur H;subst e;exact rt _
 ·trivial
theorem EV:∀(a0:ByteArray) (a1 Yo:Int) out,We a0 a1 Yo=some out->∀c,Yh Tryz.f208 0=some c->∀(Q:QT) (tt:Sto),(∀(Qaz:Int),out=Qaz->∀(T:TT) (ss:Sto),T 0=.str a0/\T 1=i6 a1/\T 6=.sl true (rws cI [])/\T 7=i6 Qaz->Fx tt ss [] []->Q (.ex 0) ⟨T,ss⟩)->True->∀(T:TT) (ss:Sto),T 0=.str a0/\T 1=i6 a1/\T 6=.sl true (rws cI [])/\T 7=i6 Yo->Fx tt ss [] []->aLp KX c Q ⟨T,ss⟩:=by
 intro a0 a1 Yo;revert Yo;refine We.partial_correctness a0 a1 _ ?_;intro We IH Yo out H c hc Q tt  hE hR T ss tT hF;refine lpx tt hc rfl fun q hX=>go ?_;obtain ⟨x35,g3,H⟩:=bnd H;refine Ya 4 31 35 (.bool x35) (gi q (fun q=>?_) (fun q=>?_)) (fun J=>?_)
 ·rw [if_pos (dt q)] at g3;obtain ⟨x33,f1,g3⟩:=bsx g3;refine go1 ?_;refine go ?_;exact Yt 31 g3
 ·rw [if_neg (df q)] at g3;refine go ?_;exact Yt 31 g3
 refine go ?_;refine cdb H (fun h H=>?_) (fun h H=>?_)
 ·refine go ?_;exact IH  (i64.wrap (Yo+1)) _ H _ rfl Q tt  hE hR _ _  S hF
 ·refine go ?_;exact wq (hE _ (pur H).symm _ _  S hF)
theorem EW:∀(Df:Int) (x48:List ByteArray) (W8:List Int) (GV:Int) out,Jz Df x48 W8 GV=some out->∀c,Yh Tryz.f208 1=some c->∀(Q:QT) (tt:Sto),(∀(Pf:List Int),out=Sum.inr Pf->∀(T:TT) (ss:Sto) (e1v0:AV),T 6=e1v0/\T 7=i6 Df->Fx tt ss [] [⟨e1v0,3,1,rws cI Pf⟩]->Q (.ex 2) ⟨T,ss⟩)->(∀r,out=Sum.inl r->∀s',IE KX [.tmp 4,.tmp 5] (fun r' ss'=>r'=.tup [sf cI r.1,i6 r.2]/\ss'=tt) s'->Q .ret s')->∀(T:TT) (ss:Sto) (z1v0:AV),T 6=z1v0/\T 7=i6 Df/\T 8=sf cS x48/\T 9=i6 GV->Fx tt ss [] [⟨z1v0,3,1,rws cI W8⟩]->aLp KX c Q ⟨T,ss⟩:=by
 intro Df x48 W8 GV;revert W8 GV;refine Jz.partial_correctness Df x48 _ ?_;intro Jz IH W8 GV out H c hc Q tt  hE hR T ss z1v0 tT hF;refine lpx tt hc rfl fun q hX=>go ?_;obtain ⟨x56,g10,H⟩:=bnd H;refine Ya 2 54 56 (.bool x56) (gi q (fun q=>?_) (fun q=>?_)) (fun J=>?_)
 ·refine go ?_;exact Yt 54 g10
 ·refine go ?_;exact Yt 54 g10
 refine go ?_;refine cdb H (fun h H=>?_) (fun h H=>?_)
 ·obtain ⟨x62,f1,H⟩:=bil (g:=cS) (fun _=>rfl) H;refine go1 ?_;refine bp H (Dt x62) fun x64 h H=>cl h ?_;refine go ?_;refine cdb H (fun h H=>?_) (fun h H=>?_)
  ·refine go ?_;exact wq (hR _ (pur H).symm _ (rt _))
  ·refine go ?_;refine apd (g:=cI) hF 0 H (rdo (c:=true) (g:=cI) (fun _=>rfl)) fun x73 H v12 s13 hF=>?_;refine go ?_;exact IH  x73 (i64.wrap (GV+1)) _ H _ rfl Q tt  hE hR _ _ v12 S hF
 ·refine go ?_;exact wq (hE _ (pur H).symm _ _ z1v0 S hF)
theorem M6:∀(a0:ByteArray) (a1:Int) r,AT a0 a1=some r->Vm KX 208 [.str a0,i6 a1] (.tup [sf cI r.1,i6 r.2]):=by
 intro a0 a1 r H;intro ss;unfold AT at H;refine hdh mixed Tryz.func208 (rs:=[.tmp 4,.tmp 5]) fun q tT hF hX=>?_;refine go ?_;obtain ⟨x22,g1,H⟩:=bnd H;refine Ya 4 18 22 (.bool x22) (giN q (fun q=>?_) (fun q=>?_)) (fun J=>?_)
 ·rw [if_neg (df q)] at g1;obtain ⟨x20,f1,g1⟩:=bsx g1;refine go1 ?_;refine go ?_;exact Yt 18 g1
 ·rw [if_pos (dt q)] at g1;refine go ?_;exact Yt 18 g1
 refine go ?_;refine cdb H (fun h H=>?_) (fun h H=>?_)
 ·refine go ?_;have e:=pur H;subst e;exact rt _
 ·refine go ?_;obtain ⟨o5,ho5,H⟩:=bnd H;refine EV a0 a1 a1 _ ho5 _ rfl _ _  ?_ ?_ _ _  S hF
  ·intro Df he T7 s8 tT hF;have he:=he.symm;subst he;refine go ?_;refine cdp H (fun h H=>?_) (fun h H=>?_)
   ·refine go ?_;have e:=pur H;subst e;exact rt _
   ·obtain ⟨x47,f1,H⟩:=bss (lo:=some (i6 (i64.wrap (a1+1)))) (hi:=some (i6 Df)) rfl rfl H;refine go1 ?_;refine bp H (M3 x47 44) fun x48 h H=>cl h ?_;have hF:=hF.lit 3 1 (rws cI []) rfl;refine go ?_;obtain ⟨o14,ho14,H⟩:=bnd H;refine EW Df x48 [] 0 _ ho14 _ rfl _ _  ?_ ?_ _ _ (.sl true (rws cI [])) S hF
    ·intro Bi he T16 s17 e15v0 tT hF;have he:=he.symm;subst he
     try dsimp only at H
     refine go ?_;have e:=pur H;subst e;exact rt _
    ·intro r hr s' hs;subst hr;have e:=pur H;subst e;exact hsq hs
  ·trivial
theorem M4:∀(a0:ByteArray) (a1:Int) r,AQ a0 a1=some r->Vm KX 196 [.str a0,i6 a1] (.tup [.agg (KW r.1),i6 r.2]):=by
 intro a0 a1 r H;intro ss;unfold AQ at H;refine hdh mixed Tryz.func196 (rs:=[.cell 4 26,.tmp 5]) fun q tT hF hX=>?_;refine go ?_;refine X8 hF rfl fun b1 ss2 hF=>?_;refine go ?_;refine bp H (M7 a0 a1) fun x14 h H=>cl h ?_;obtain ⟨x18,f1,H⟩:=bss (lo:=some (i6 a1)) (hi:=some (i6 x14)) rfl rfl H;refine go1 ?_;refine go ?_;refine bp H (Dt x18) fun x21 h H=>cl h ?_;refine go ?_;refine cdb H (fun h H=>?_) (fun h H=>?_)
 ·refine go ?_;refine st hF 0 rfl fun ss3 hF=>?_;refine go ?_;have e:=pur H;subst e;exact rt _
 ·refine go ?_;refine cdp H (fun h H=>?_) (fun h H=>?_)
  ·refine go ?_;refine st hF 0 rfl fun ss4 hF=>?_;refine go ?_;have e:=pur H;subst e;exact rt _
  ·refine go ?_;refine bp H (M6 a0 x14) fun x34 h H=>cl h ?_;refine go ?_;refine st hF 0 rfl fun ss5 hF=>?_;refine go ?_;have e:=pur H;subst e;exact rt _
theorem M5:∀(a0:ByteArray) (a1 a2:Int) r,HG a0 a1 a2=some r->Vm KX 177 [.str a0,i6 a1,i6 a2] (.tup [.agg (KW r.1),i6 r.2]):=by
 intro a0 a1 a2;revert a1 a2;refine HG.partial_correctness a0 (motive_1:=fun a1 a2 r=>Vm KX 177 [.str a0,i6 a1,i6 a2] (.tup [.agg (KW r.1),i6 r.2])) (motive_2:=fun a2 X6 HO out=>∀c,Yh Tryz.f177 0=some c->∀(Q:QT) (tt:Sto) (b1 b7:Nat),(∀(YS:List Fm) (O4:Int),out=Sum.inr (YS,O4)->∀(T:TT) (ss:Sto) (e0v0:AV),T 0=.str a0/\T 1=i6 O4/\T 6=.ptr b1 0/\T 8=.ptr b7 0->Fx tt ss [(b7,⟨26,5,[i6 3,.str zB,i6 0,.Yb,e0v0]⟩),(b1,⟨26,5,[i6 0,.str zB,i6 0,.Yb,.Yb]⟩)] [⟨e0v0,26,5,rws KW YS⟩]->Q (.ex 0) ⟨T,ss⟩)->(∀r,out=Sum.inl r->∀s',IE KX [.cell 6 26,.tmp 7] (fun r' ss'=>r'=.tup [.agg (KW r.1),i6 r.2]/\ss'=tt) s'->Q .ret s')->∀(T:TT) (ss:Sto) (z0v0:AV),T 0=.str a0/\T 1=i6 HO/\T 2=i6 a2/\T 6=.ptr b1 0/\T 8=.ptr b7 0->Fx tt ss [(b7,⟨26,5,[i6 3,.str zB,i6 0,.Yb,z0v0]⟩),(b1,⟨26,5,[i6 0,.str zB,i6 0,.Yb,.Yb]⟩)] [⟨z0v0,26,5,rws KW X6⟩]->aLp KX c Q ⟨T,ss⟩) ?_ ?_
 ·intro Hk L0 a1 a2 r H;intro ss;refine hdh mixed Tryz.func177 (rs:=[.cell 6 26,.tmp 7]) fun q tT hF hX=>?_;refine go ?_;refine X8 hF rfl fun b1 ss2 hF=>?_;refine go ?_;refine bp H (Ac a0 a1) fun x13 h H=>cl h ?_;refine go ?_;obtain ⟨x21,g3,H⟩:=bnd H;refine Ya 2 19 21 (.bool x21) (giN q (fun q=>?_) (fun q=>?_)) (fun J=>?_)
  ·refine go ?_;exact Yt 19 g3
  ·refine go ?_;exact Yt 19 g3
  refine go ?_;refine cdb H (fun h H=>?_) (fun h H=>?_)
  ·refine go ?_;refine st hF 0 rfl fun ss5 hF=>?_;refine go ?_;have e:=pur H;subst e;exact rt _
  ·obtain ⟨x25,f1,H⟩:=bsx H;refine go1 ?_;refine go ?_;refine cdn H (fun h H=>?_) (fun h H=>?_)
   ·refine go ?_;refine bp H (M4 a0 x13) fun x29 h H=>cl h ?_;refine go ?_;refine st hF 0 rfl fun ss6 hF=>?_;refine go ?_;have e:=pur H;subst e;exact rt _
   ·refine go ?_;refine X8 hF rfl fun b7 s8 hF=>?_;refine go ?_;refine st hF 0 rfl fun s9 hF=>?_;refine go ?_;obtain ⟨x36,hx36,H⟩:=bnd H;refine cl (Ac a0 (i64.wrap (x13+1)) _ hx36) ?_;have hF:=hF.nil 26 5;refine go ?_;obtain ⟨o21,ho21,H⟩:=bnd H;refine L0 a2 [] x36 _ ho21 _ rfl _ _ b1 b7 ?_ ?_ _ _ .Yb S hF
    ·intro Cj Pg he T23 s24 e22v0 tT hF;have he:=he.symm;subst he
     try dsimp only at H
     refine go ?_;obtain ⟨x82,g26,H⟩:=bnd H;refine Ya 4 78 82 (.bool x82) (giN q (fun q=>?_) (fun q=>?_)) (fun J=>?_)
     ·rw [if_neg (df q)] at g26;obtain ⟨x80,f1,g26⟩:=bsx g26;refine go1 ?_;refine go ?_;exact Yt 78 g26
     ·rw [if_pos (dt q)] at g26;refine go ?_;exact Yt 78 g26
     refine go ?_;refine cdb H (fun h H=>?_) (fun h H=>?_)
     ·refine go ?_;refine st hF 1 rfl fun s28 hF=>?_;refine go ?_;have e:=pur H;subst e;exact rt _
     ·refine go ?_;refine st hF 1 rfl fun s29 hF=>?_;refine go ?_;have e:=pur H;subst e;exact rt _
    ·intro r hr s' hs;subst hr;have e:=pur H;subst e;exact hsq hs
 ·intro HG Hk C0 L0 a2 X6 HO out H c hc Q tt b1 b7 hE hR T ss z0v0 tT hF;refine lpx tt hc rfl fun q hX=>go ?_;obtain ⟨x46,g10,H⟩:=bnd H;refine Ya 4 42 46 (.bool x46) (gi q (fun q=>?_) (fun q=>?_)) (fun J=>?_)
  ·rw [if_pos (dt q)] at g10;obtain ⟨x44,f1,g10⟩:=bsx g10;refine go1 ?_;refine go ?_;exact Yt 42 g10
  ·rw [if_neg (df q)] at g10;refine go ?_;exact Yt 42 g10
  refine go ?_;obtain ⟨x52,g12,H⟩:=bnd H;refine Ya 4 48 52 (.bool x52) (gi q (fun q=>?_) (fun q=>?_)) (fun J=>?_)
  ·refine go ?_;exact Yt 48 g12
  ·refine go ?_;exact Yt 48 g12
  refine go ?_;refine cdb H (fun h H=>?_) (fun h H=>?_)
  ·refine go ?_;obtain ⟨x58,hx58,H⟩:=bnd H;refine cl (C0 HO (i64.wrap (a2 - 1)) _ hx58) ?_;refine go ?_;refine X8 hF rfl fun b14 s15 hF=>?_;refine go ?_;refine st hF 0 rfl fun s16 hF=>?_;refine go ?_;refine cdp H (fun h H=>?_) (fun h H=>?_)
   ·refine go ?_;refine st hF 2 rfl fun s17 hF=>?_;refine go ?_;exact wq (hR _ (pur H).symm _ (rt _))
   ·refine go ?_;refine apd (g:=KW) hF 0 H (rdo (c:=true) (g:=KW) Fm.X5) fun x68 H v18 s19 hF=>?_;refine go ?_;refine st hF 1 (hF.cells 0 rfl) fun s20 hF=>?_;refine go ?_;refine bp H (Ac a0 x58.2) fun x72 h H=>cl h ?_;refine go ?_;exact L0 a2 x68 x72 _ H _ rfl Q tt b1 b7 hE hR _ _ v18 S (hF.drop 1 0)
  ·refine go ?_;exact wq (hE _ _ (pur H).symm _ _ z0v0 S hF)
theorem FO:∀(a0:Int) (a1:Bool) r,G6 a0 a1=some r->Vm KX 132 [.int .u8 a0,.bool a1] (.bool r):=by
 intro a0 a1 r H;intro ss;unfold G6 at H;refine hdh mixed Tryz.func132 (rs:=[.tmp 4]) fun q tT hF hX=>?_;refine go ?_;obtain ⟨x10,g1,H⟩:=bnd H;refine Ya 2 8 10 (.bool x10) (gi q (fun q=>?_) (fun q=>?_)) (fun J=>?_)
 ·refine go ?_;exact Yt 8 g1
 ·refine go ?_;exact Yt 8 g1
 refine go ?_;obtain ⟨x14,g3,H⟩:=bnd H;refine Ya 2 12 14 (.bool x14) (giN q (fun q=>?_) (fun q=>?_)) (fun J=>?_)
 ·refine go ?_;exact Yt 12 g3
 ·refine go ?_;exact Yt 12 g3
 refine go ?_;obtain ⟨x18,g5,H⟩:=bnd H;refine Ya 2 16 18 (.bool x18) (giN q (fun q=>?_) (fun q=>?_)) (fun J=>?_)
 ·refine go ?_;exact Yt 16 g5
 ·refine go ?_;exact Yt 16 g5
 refine go ?_;obtain ⟨x22,g7,H⟩:=bnd H;refine Ya 2 20 22 (.bool x22) (giN q (fun q=>?_) (fun q=>?_)) (fun J=>?_)
 ·refine go ?_;exact Yt 20 g7
 ·refine go ?_;exact Yt 20 g7
 refine go ?_;obtain ⟨x26,g9,H⟩:=bnd H;refine Ya 2 24 26 (.bool x26) (giN q (fun q=>?_) (fun q=>?_)) (fun J=>?_)
 ·refine go ?_;exact Yt 24 g9
 ·refine go ?_;exact Yt 24 g9
 refine go ?_;obtain ⟨x30,g11,H⟩:=bnd H;refine Ya 2 28 30 (.bool x30) (giN q (fun q=>?_) (fun q=>?_)) (fun J=>?_)
 ·refine go ?_;exact Yt 28 g11
 ·refine go ?_;exact Yt 28 g11
 refine go ?_;refine cdb H (fun h H=>?_) (fun h H=>?_)
 ·refine go ?_;have e:=pur H;subst e;exact rt _
 ·refine go ?_;obtain ⟨x44,g13,H⟩:=bnd H;refine Ya 10 34 44 (.bool x44) (gi q (fun q=>?_) (fun q=>?_)) (fun J=>?_)
  ·rw [if_pos (dbt q)] at g13;refine go ?_;obtain ⟨x39,g15,g13⟩:=bnd g13;refine Ya 2 37 39 (.bool x39) (gi q (fun q=>?_) (fun q=>?_)) (fun J=>?_)
   ·refine go ?_;exact Yt 37 g15
   ·refine go ?_;exact Yt 37 g15
   refine go ?_;obtain ⟨x43,g17,g13⟩:=bnd g13;refine Ya 2 41 43 (.bool x43) (giN q (fun q=>?_) (fun q=>?_)) (fun J=>?_)
   ·refine go ?_;exact Yt 41 g17
   ·refine go ?_;exact Yt 41 g17
   refine go ?_;exact Yt 34 g13
  ·rw [if_neg (dbf q)] at g13;refine go ?_;exact Yt 34 g13
  refine go ?_;have e:=pur H;subst e;exact rt _
theorem Dj:∀(a0:ByteArray) (YB:Int) out,Vh a0 YB=some out->∀c,Yh Tryz.f93 0=some c->∀(Q:QT) (tt:Sto),(∀(_u:Unit),out=Sum.inr ()->∀(T:TT) (ss:Sto),T 0=.str a0->Fx tt ss [] []->Q (.ex 0) ⟨T,ss⟩)->(∀r,out=Sum.inl r->∀s',IE KX [.tmp 2] (fun r' ss'=>r'=.bool r/\ss'=tt) s'->Q .ret s')->∀(T:TT) (ss:Sto),T 0=.str a0/\T 3=i6 YB->Fx tt ss [] []->aLp KX c Q ⟨T,ss⟩:=by
 intro a0 YB;revert YB;refine Vh.partial_correctness a0 _ ?_;intro Vh IH YB out H c hc Q tt  hE hR T ss tT hF;refine lpx tt hc rfl fun q hX=>go ?_;obtain ⟨x17,g3,H⟩:=bnd H;refine Ya 2 15 17 (.bool x17) (gi q (fun q=>?_) (fun q=>?_)) (fun J=>?_)
 ·refine go ?_;exact Yt 15 g3
 ·refine go ?_;exact Yt 15 g3
 refine go ?_;refine cdb H (fun h H=>?_) (fun h H=>?_)
 ·obtain ⟨x22,f1,H⟩:=bsx H;refine go1 ?_;obtain ⟨x25,hx25,H⟩:=bnd H;refine cl (FO x22 (decide (YB=0)) _ hx25) ?_;refine go ?_;refine cdb H (fun h H=>?_) (fun h H=>?_)
  ·refine go ?_;exact wq (hR _ (pur H).symm _ (rt _))
  ·refine go ?_;exact IH  (i64.wrap (YB+1)) _ H _ rfl Q tt  hE hR _ _  S hF
 ·refine go ?_;exact wq (hE () (pur H).symm _ _  S hF)
theorem I2:∀(a0:ByteArray) r,WM a0=some r->Vm KX 93 [.str a0] (.bool r):=by
 intro a0 r H;intro ss;unfold WM at H;refine hdh mixed Tryz.func93 (rs:=[.tmp 2]) fun q tT hF hX=>?_;refine go ?_;obtain ⟨x9,g1,H⟩:=bnd H;refine Ya 2 7 9 (.bool x9) (giN q (fun q=>?_) (fun q=>?_)) (fun J=>?_)
 ·refine go ?_;exact Yt 7 g1
 ·refine go ?_;exact Yt 7 g1
 refine go ?_;refine cdb H (fun h H=>?_) (fun h H=>?_)
 ·refine go ?_;have e:=pur H;subst e;exact rt _
 ·refine go ?_;obtain ⟨o5,ho5,H⟩:=bnd H;refine Dj a0 0 _ ho5 _ rfl _ _  ?_ ?_ _ _  S hF
  ·intro _ he T7 s8 tT hF;have he:=he.symm;subst he
   try dsimp only at H
   refine go ?_;obtain ⟨x34,g10,H⟩:=bnd H;refine Ya 3 31 34 (.bool x34) (gi q (fun q=>?_) (fun q=>?_)) (fun J=>?_)
   ·refine go ?_;exact Yt 31 g10
   ·refine go ?_;exact Yt 31 g10
   refine go ?_;have e:=pur H;subst e;exact rt _
  ·intro r hr s' hs;subst hr;have e:=pur H;subst e;exact hsq hs
theorem DR:∀(a0:List Int) (YB:Int) out,Vn a0 YB=some out->∀c,Yh Tryz.f94 0=some c->∀(Q:QT) (tt:Sto),(∀(_u:Unit),out=Sum.inr ()->∀(T:TT) (ss:Sto),T 0=sf cI a0->Fx tt ss [] []->Q (.ex 0) ⟨T,ss⟩)->(∀r,out=Sum.inl r->∀s',IE KX [.tmp 2] (fun r' ss'=>r'=.bool r/\ss'=tt) s'->Q .ret s')->∀(T:TT) (ss:Sto),T 0=sf cI a0/\T 3=i6 YB->Fx tt ss [] []->aLp KX c Q ⟨T,ss⟩:=by
 intro a0 YB;revert YB;refine Vn.partial_correctness a0 _ ?_;intro Vn IH YB out H c hc Q tt  hE hR T ss tT hF;refine lpx tt hc rfl fun q hX=>go ?_;obtain ⟨x11,g1,H⟩:=bnd H;refine Ya 2 9 11 (.bool x11) (gi q (fun q=>?_) (fun q=>?_)) (fun J=>?_)
 ·refine go ?_;exact Yt 9 g1
 ·refine go ?_;exact Yt 9 g1
 refine go ?_;refine cdb H (fun h H=>?_) (fun h H=>?_)
 ·refine go ?_;refine Yf E0 [.v,.v,.v,.v,.v,.v,.v,.v,.v,.v,.v,.v,.v,.v,.v,.v,.v,.v,.v,.v,.v,.v,.v,.v,.v,.v,.v,.v] (by kernel_rfl) ?_;obtain ⟨x16,f1,H⟩:=bil (g:=cI) (fun _=>rfl) H;refine go1 ?_;obtain ⟨x25,g3,H⟩:=bnd H;refine Jb 5 20 25 (.bool x25) (tiN q (fun q=>?_) (fun q=>?_)) (fun J=>?_)
  ·rw [if_neg (df q)] at g3;obtain ⟨x22,f1,g3⟩:=bil (g:=cI) (fun _=>rfl) g3;refine go1 ?_;refine go ?_;exact Yt 20 g3
  ·rw [if_pos (dt q)] at g3;refine go ?_;exact Yt 20 g3
  refine go ?_;obtain ⟨x41,g5,H⟩:=bnd H;refine Jb 14 27 41 (.bool x41) (tiN q (fun q=>?_) (fun q=>?_)) (fun J=>?_)
  ·rw [if_neg (dbf q)] at g5;refine go ?_;obtain ⟨x40,g7,g5⟩:=bnd g5;refine Jb 10 30 40 (.bool x40) (ti q (fun q=>?_) (fun q=>?_)) (fun J=>?_)
   ·rw [if_pos (dt q)] at g7;obtain ⟨x32,f1,g7⟩:=bil (g:=cI) (fun _=>rfl) g7;obtain ⟨x37,f2,g7⟩:=bil (g:=cI) (fun _=>rfl) g7;refine go2 ?_;refine go ?_;exact Yt 30 g7
   ·rw [if_neg (df q)] at g7;refine go ?_;exact Yt 30 g7
   refine go ?_;exact Yt 27 g5
  ·rw [if_pos (dbt q)] at g5;refine go ?_;exact Yt 27 g5
  refine go ?_;refine cdb H (fun h H=>?_) (fun h H=>?_)
  ·refine go ?_;exact wq (hR _ (pur H).symm _ (rt _))
  ·refine go ?_;exact IH  (i64.wrap (YB+1)) _ H _ rfl Q tt  hE hR _ _  S hF
 ·refine go ?_;exact wq (hE () (pur H).symm _ _  S hF)
theorem Cm:∀(a0:List Int) r,J8 a0=some r->Vm KX 94 [sf cI a0] (.bool r):=by
 intro a0 r H;intro ss;unfold J8 at H;refine hdh mixed Tryz.func94 (rs:=[.tmp 2]) fun q tT hF hX=>?_;refine go ?_;obtain ⟨o9,ho9,H⟩:=bnd H;refine DR a0 0 _ ho9 _ rfl _ _  ?_ ?_ _ _  S hF
 ·intro _ he T11 s12 tT hF;have he:=he.symm;subst he
  try dsimp only at H
  refine go ?_;have e:=pur H;subst e;exact rt _
 ·intro r hr s' hs;subst hr;have e:=pur H;subst e;exact hsq hs
theorem PB:∀(a0:Fm) (a1:Int) r,Hg a0 a1=some r->Vm KX 63 [.agg (KW a0),i6 a1] (.bool r):=by
 refine Hg.partial_correctness _ (motive_2:=fun a0 a1 Yd out=>∀c,Yh Tryz.f63 0=some c->∀(Q:QT) (tt:Sto) (b1:Nat),(∀(_u:Unit),out=Sum.inr ()->∀(T:TT) (ss:Sto),0+0=0->Fx tt ss [(b1,⟨26,5,[i6 a0.kind,.str a0.name,i6 a0.num,sf cI a0.sc,sf KW a0.kids]⟩)] []->Q (.ex 1) ⟨T,ss⟩)->(∀r,out=Sum.inl r->∀s',IE KX [.tmp 4] (fun r' ss'=>r'=.bool r/\ss'=tt) s'->Q .ret s')->∀(T:TT) (ss:Sto),T 1=i6 a1/\T 2=.ptr b1 0/\T 5=i6 Yd->Fx tt ss [(b1,⟨26,5,[i6 a0.kind,.str a0.name,i6 a0.num,sf cI a0.sc,sf KW a0.kids]⟩)] []->aLp KX c Q ⟨T,ss⟩) ?_ ?_
 ·intro Jy L0 a0 a1 r H;intro ss;refine hdh mixed Tryz.func63 (rs:=[.tmp 4]) fun q tT hF hX=>?_;refine go ?_;refine X8 hF rfl fun b1 ss2 hF=>?_;refine go ?_;refine cdp H (fun h H=>?_) (fun h H=>?_)
  ·refine go ?_;have e:=pur H;subst e;exact rt _
  ·refine go ?_;refine cdp H (fun h H=>?_) (fun h H=>?_)
   ·refine go ?_;refine bp H (I2 a0.name) fun x14 h H=>cl h ?_;refine go ?_;obtain ⟨x19,g3,H⟩:=bnd H;refine Ya 3 16 19 (.bool x19) (gi q (fun q=>?_) (fun q=>?_)) (fun J=>?_)
    ·refine go ?_;exact Yt 16 g3
    ·refine go ?_;exact Yt 16 g3
    refine go ?_;obtain ⟨x24,g5,H⟩:=bnd H;refine Ya 3 21 24 (.bool x24) (gi q (fun q=>?_) (fun q=>?_)) (fun J=>?_)
    ·rw [if_pos (dbt q)] at g5;refine go ?_;obtain ⟨x23,hx23,g5⟩:=bnd g5;refine cl (Cm a0.sc _ hx23) ?_;refine go ?_;exact Yt 21 g5
    ·rw [if_neg (dbf q)] at g5;refine go ?_;exact Yt 21 g5
    refine go ?_;obtain ⟨x30,g7,H⟩:=bnd H;refine Ya 4 26 30 (.bool x30) (gi q (fun q=>?_) (fun q=>?_)) (fun J=>?_)
    ·refine go ?_;exact Yt 26 g7
    ·refine go ?_;exact Yt 26 g7
    refine go ?_;have e:=pur H;subst e;exact rt _
   ·refine go ?_;refine cdp H (fun h H=>?_) (fun h H=>?_)
    ·refine go ?_;obtain ⟨x40,g9,H⟩:=bnd H;refine Ya 3 37 40 (.bool x40) (gi q (fun q=>?_) (fun q=>?_)) (fun J=>?_)
     ·refine go ?_;exact Yt 37 g9
     ·refine go ?_;exact Yt 37 g9
     refine go ?_;obtain ⟨x45,g11,H⟩:=bnd H;refine Ya 3 42 45 (.bool x45) (gi q (fun q=>?_) (fun q=>?_)) (fun J=>?_)
     ·refine go ?_;exact Yt 42 g11
     ·refine go ?_;exact Yt 42 g11
     refine go ?_;obtain ⟨x51,g13,H⟩:=bnd H;refine Ya 4 47 51 (.bool x51) (gi q (fun q=>?_) (fun q=>?_)) (fun J=>?_)
     ·refine go ?_;exact Yt 47 g13
     ·refine go ?_;exact Yt 47 g13
     refine go ?_;obtain ⟨x57,g15,H⟩:=bnd H;refine Ya 4 53 57 (.bool x57) (gi q (fun q=>?_) (fun q=>?_)) (fun J=>?_)
     ·refine go ?_;exact Yt 53 g15
     ·refine go ?_;exact Yt 53 g15
     refine go ?_;have e:=pur H;subst e;exact rt _
    ·refine go ?_;obtain ⟨x65,g17,H⟩:=bnd H;refine Ya 3 62 65 (.bool x65) (giN q (fun q=>?_) (fun q=>?_)) (fun J=>?_)
     ·refine go ?_;exact Yt 62 g17
     ·refine go ?_;exact Yt 62 g17
     refine go ?_;obtain ⟨x70,g19,H⟩:=bnd H;refine Ya 3 67 70 (.bool x70) (giN q (fun q=>?_) (fun q=>?_)) (fun J=>?_)
     ·refine go ?_;exact Yt 67 g19
     ·refine go ?_;exact Yt 67 g19
     refine go ?_;obtain ⟨x76,g21,H⟩:=bnd H;refine Ya 4 72 76 (.bool x76) (giN q (fun q=>?_) (fun q=>?_)) (fun J=>?_)
     ·refine go ?_;exact Yt 72 g21
     ·refine go ?_;exact Yt 72 g21
     refine go ?_;refine cdb H (fun h H=>?_) (fun h H=>?_)
     ·refine go ?_;have e:=pur H;subst e;exact rt _
     ·refine go ?_;obtain ⟨o23,ho23,H⟩:=bnd H;refine L0 a0 a1 0 _ ho23 _ rfl _ _ b1 ?_ ?_ _ _  S hF
      ·intro _ he T25 s26 tT hF;have he:=he.symm;subst he
       try dsimp only at H
       refine go ?_;have e:=pur H;subst e;exact rt _
      ·intro r hr s' hs;subst hr;have e:=pur H;subst e;exact hsq hs
 ·intro Hg Jy C0 L0 a0 a1 Yd out H c hc Q tt b1 hE hR T ss tT hF;refine lpx tt hc rfl fun q hX=>go ?_;refine cdp H (fun h H=>?_) (fun h H=>?_)
  ·obtain ⟨x87,f1,H⟩:=bil (g:=KW) Fm.X5 H;refine go1 ?_;obtain ⟨x91,hx91,H⟩:=bnd H;refine cl (C0 x87 (i64.wrap (a1 - 1)) _ hx91) ?_;refine go ?_;refine cdb H (fun h H=>?_) (fun h H=>?_)
   ·refine go ?_;exact wq (hR _ (pur H).symm _ (rt _))
   ·refine go ?_;exact L0 a0 a1 (i64.wrap (Yd+1)) _ H _ rfl Q tt b1 hE hR _ _  S hF
  ·refine go ?_;exact wq (hE () (pur H).symm _ _  S hF)
theorem CO:∀(a0:Fm) r,Jx a0=some r->Vm KX 64 [.agg (KW a0)] (i6 r):=by
 refine Jx.partial_correctness _ (motive_2:=fun a0 YB YD out=>∀c,Yh Tryz.f64 0=some c->∀(Q:QT) (tt:Sto) (b1:Nat),(∀(O5:Int),out=O5->∀(T:TT) (ss:Sto),T 3=i6 O5->Fx tt ss [(b1,⟨26,5,[i6 a0.kind,.str a0.name,i6 a0.num,sf cI a0.sc,sf KW a0.kids]⟩)] []->Q (.ex 0) ⟨T,ss⟩)->True->∀(T:TT) (ss:Sto),T 1=.ptr b1 0/\T 3=i6 YB/\T 4=i6 YD->Fx tt ss [(b1,⟨26,5,[i6 a0.kind,.str a0.name,i6 a0.num,sf cI a0.sc,sf KW a0.kids]⟩)] []->aLp KX c Q ⟨T,ss⟩) ?_ ?_
 ·intro VR L0 a0 r H;intro ss;refine hdh mixed Tryz.func64 (rs:=[.tmp 2]) fun q tT hF hX=>?_;refine go ?_;refine X8 hF rfl fun b1 ss2 hF=>?_;refine go ?_;obtain ⟨o3,ho3,H⟩:=bnd H;refine L0 a0 1 0 _ ho3 _ rfl _ _ b1 ?_ ?_ _ _  S hF
  ·intro Ry he T5 ss6 tT hF;have he:=he.symm;subst he;refine go ?_;have e:=pur H;subst e;exact rt _
  ·trivial
 ·intro Jx VR C0 L0 a0 YB YD out H c hc Q tt b1 hE hR T ss tT hF;refine lpx tt hc rfl fun q hX=>go ?_;refine cdp H (fun h H=>?_) (fun h H=>?_)
  ·obtain ⟨x16,f1,H⟩:=bil (g:=KW) Fm.X5 H;refine go1 ?_;refine bp H (C0 x16) fun x18 h H=>cl h ?_;refine go ?_;exact L0 a0 (i64.wrap (YB+x18)) (i64.wrap (YD+1)) _ H _ rfl Q tt b1 hE hR _ _  S hF
  ·refine go ?_;exact wq (hE _ (pur H).symm _ _  S hF)
theorem Yz:∀(a0:Fm) r,Yu a0=some r->Vm KX 31 [.agg (KW a0)] (.bool r):=by
 intro a0 r H;intro ss;unfold Yu at H;refine hdh mixed Tryz.func31 (rs:=[.tmp 2]) fun q tT hF hX=>?_;refine go ?_;refine X8 hF rfl fun b1 ss2 hF=>?_;refine go ?_;refine bp H (PB a0 40) fun x4 h H=>cl h ?_;refine go ?_;obtain ⟨x9,g3,H⟩:=bnd H;refine Ya 3 6 9 (.bool x9) (gi q (fun q=>?_) (fun q=>?_)) (fun J=>?_)
 ·rw [if_pos (dbt q)] at g3;refine go ?_;obtain ⟨x7,hx7,g3⟩:=bnd g3;refine cl (CO a0 _ hx7) ?_;refine go ?_;exact Yt 6 g3
 ·rw [if_neg (dbf q)] at g3;refine go ?_;exact Yt 6 g3
 refine go ?_;have e:=pur H;subst e;exact rt _
theorem EO:∀(a0:ByteArray) r,Ic a0=some r->Vm KX 153 [.str a0] (.tup [.agg (KW r.1),.bool r.2]):=by
 intro a0 r H;intro ss;unfold Ic at H;refine hdh mixed Tryz.func153 (rs:=[.cell 2 26,.tmp 3]) fun q tT hF hX=>?_;refine go ?_;refine X8 hF rfl fun b1 ss2 hF=>?_;refine go ?_;refine bp H (M5 a0 0 40) fun x8 h H=>cl h ?_;refine go ?_;refine X8 hF rfl fun b3 ss4 hF=>?_;refine go ?_;refine st hF 0 rfl fun ss5 hF=>?_;refine go ?_;obtain ⟨x20,g6,H⟩:=bnd H;refine Ya 6 14 20 (.bool x20) (giN q (fun q=>?_) (fun q=>?_)) (fun J=>?_)
 ·rw [if_neg (df q)] at g6;refine go ?_;obtain ⟨x16,hx16,g6⟩:=bnd g6;refine cl (Ac a0 x8.2 _ hx16) ?_;refine go ?_;exact Yt 14 g6
 ·rw [if_pos (dt q)] at g6;refine go ?_;exact Yt 14 g6
 refine go ?_;obtain ⟨x25,g8,H⟩:=bnd H;refine Ya 3 22 25 (.bool x25) (giN q (fun q=>?_) (fun q=>?_)) (fun J=>?_)
 ·rw [if_neg (dbf q)] at g8;refine go ?_;obtain ⟨x23,hx23,g8⟩:=bnd g8;refine cl (Yz x8.1 _ hx23) ?_;refine go ?_;exact Yt 22 g8
 ·rw [if_pos (dbt q)] at g8;refine go ?_;exact Yt 22 g8
 refine go ?_;refine cdb H (fun h H=>?_) (fun h H=>?_)
 ·refine go ?_;refine st hF 1 rfl fun s10 hF=>?_;refine go ?_;have e:=pur H;subst e;exact rt _
 ·refine go ?_;refine st hF 1 rfl fun s11 hF=>?_;refine go ?_;have e:=pur H;subst e;exact rt _
theorem AR:∀(a0:ByteArray) r,HF a0=some r->Vm KX 129 [.str a0] (.agg (KW r)):=by
 intro a0 r H;intro ss;unfold HF at H;refine hdh mixed Tryz.func129 (rs:=[.cell 2 26]) fun q tT hF hX=>?_;refine go ?_;refine X8 hF rfl fun b1 ss2 hF=>?_;refine go ?_;refine bp H (EO a0) fun x7 h H=>cl h ?_;refine go ?_;refine X8 hF rfl fun b3 ss4 hF=>?_;refine go ?_;refine st hF 0 rfl fun ss5 hF=>?_;refine go ?_;refine st hF 1 rfl fun ss6 hF=>?_;refine go ?_;have e:=pur H;subst e;exact rt _
theorem Mq:∀  r,Bt  = some r->Vm KX 140 [] (sf cS r):=by
 intro  r H;intro ss;unfold Bt at H;refine hdh mixed Tryz.func140 (rs:=[.tmp 0]) fun q tT hF hX=>?_;refine goL ?_;have e:=pur H;subst e;exact rt _
theorem Y0:∀(a1:List Int) (c0:Rdr) r,YI a1 c0=some r->∀(e0:Nat)  (ss:Sto),Pre ss [(e0,⟨89,2,[sf cU c0.b,i6 c0.p]⟩)] []->Ctr KX 57 [.ptr e0 0,sf cI a1] ss (fun r' ss'=>∃(tt':Sto),r'=i6 r.1/\Tau (strip ss []) [(e0,⟨89,2,[sf cU r.2.b,i6 r.2.p]⟩)] tt'/\Fx tt' ss' [] []):=by
 intro a1 c0 r H;intro e0  ss hP;unfold YI at H;refine hdg mixed Tryz.func57 (rs:=[.tmp 4]) fun q tT=>?_;obtain ⟨hF,hX⟩:=hP.start;generalize strip ss []=tt0 at hF hX ⊢;refine go ?_;obtain ⟨x9,hx9,H⟩:=bnd H;refine cx (Ys (a1.length:Int) c0 _ hx9 e0  _ (pre 0 1 0 hF hX)) ?_;rintro _ ss1 ⟨tt2,rfl,hT,hG⟩;obtain ⟨t3,hX,hF⟩:=aft 0 1 0 hF hX hT hG;obtain ⟨x10,f1,H⟩:=bil (g:=cI) (fun _=>rfl) H;refine go1 ?_;refine go ?_;have e:=pur H;subst e;exact rg _ ⟨_,rfl,hX,K1 _⟩
theorem VA:∀(a0:ByteArray) r,Vx a0=some r->Vm KX 44 [.str a0] (.agg (KW r)):=by
 intro a0 r H;intro ss;unfold Vx at H;refine hdh mixed Tryz.func44 (rs:=[.cell 2 26]) fun q tT hF hX=>?_;refine go ?_;refine X8 hF rfl fun b1 ss2 hF=>?_;refine go ?_;refine st hF 0 rfl fun ss3 hF=>?_;refine go ?_;have e:=pur H;subst e;exact rt _
theorem He:∀(a1:List ByteArray) (c0:Rdr) r,Wp a1 c0=some r->∀(e0:Nat)  (ss:Sto),Pre ss [(e0,⟨89,2,[sf cU c0.b,i6 c0.p]⟩)] []->Ctr KX 45 [.ptr e0 0,sf cS a1] ss (fun r' ss'=>∃(tt':Sto),r'=.str r.1/\Tau (strip ss []) [(e0,⟨89,2,[sf cU r.2.b,i6 r.2.p]⟩)] tt'/\Fx tt' ss' [] []):=by
 intro a1 c0 r H;intro e0  ss hP;unfold Wp at H;refine hdg mixed Tryz.func45 (rs:=[.tmp 4]) fun q tT=>?_;obtain ⟨hF,hX⟩:=hP.start;generalize strip ss []=tt0 at hF hX ⊢;refine go ?_;obtain ⟨x9,hx9,H⟩:=bnd H;refine cx (Ys (a1.length:Int) c0 _ hx9 e0  _ (pre 0 1 0 hF hX)) ?_;rintro _ ss1 ⟨tt2,rfl,hT,hG⟩;obtain ⟨t3,hX,hF⟩:=aft 0 1 0 hF hX hT hG;obtain ⟨x10,f1,H⟩:=bil (g:=cS) (fun _=>rfl) H;refine go1 ?_;refine go ?_;have e:=pur H;subst e;exact rg _ ⟨_,rfl,hX,K1 _⟩
theorem VS:∀(a0:List Fm) r,Wq a0=some r->Vm KX 142 [sf KW a0] (.agg (KW r)):=by
 intro a0 r H;intro ss;unfold Wq at H;refine hdh mixed Tryz.func142 (rs:=[.cell 2 26]) fun q tT hF hX=>?_;refine go ?_;refine X8 hF rfl fun b1 ss2 hF=>?_;refine go ?_;refine st hF 0 rfl fun ss3 hF=>?_;refine go ?_;have e:=pur H;subst e;exact rt _
theorem Dv:∀(a1:Int) (c0:Rdr) r,Gl a1 c0=some r->∀(e0:Nat)  (ss:Sto),Pre ss [(e0,⟨89,2,[sf cU c0.b,i6 c0.p]⟩)] []->Ctr KX 23 [.ptr e0 0,i6 a1] ss (fun r' ss'=>∃(tt':Sto),r'=.agg (KW r.1)/\Tau (strip ss []) [(e0,⟨89,2,[sf cU r.2.b,i6 r.2.p]⟩)] tt'/\Fx tt' ss' [] []):=by
 refine Gl.partial_correctness _ (motive_2:=fun a1 X6 YE GU I9 out=>∀c,Yh Tryz.f23 0=some c->∀(Q:QT) (tt0:Sto) (e0 b1 b22:Nat),(∀(YS:List Fm) (Cz:List Int) (LH:Int),out=(YS,Cz,LH)->∀(T:TT) (ss tt:Sto) (e0v0:AV),T 4=.ptr b1 0/\T 5=.ptr b22 0->Tau tt0 [(e0,⟨89,2,[sf cU Cz,i6 LH]⟩)] tt->Fx tt ss [(b22,⟨26,5,[i6 3,.str zB,i6 0,.Yb,e0v0]⟩),(b1,⟨26,5,[i6 0,.str zB,i6 0,.Yb,.Yb]⟩)] [⟨e0v0,26,5,rws KW YS⟩]->Q (.ex 0) ⟨T,ss⟩)->True->∀(T:TT) (ss tt:Sto) (z0v0:AV),T 0=.ptr e0 0/\T 1=i6 a1/\T 4=.ptr b1 0/\T 5=.ptr b22 0/\T 6=i6 YE->Tau tt0 [(e0,⟨89,2,[sf cU GU,i6 I9]⟩)] tt->Fx tt ss [(b22,⟨26,5,[i6 3,.str zB,i6 0,.Yb,z0v0]⟩),(b1,⟨26,5,[i6 0,.str zB,i6 0,.Yb,.Yb]⟩)] [⟨z0v0,26,5,rws KW X6⟩]->aLp KX c Q ⟨T,ss⟩) ?_ ?_
 ·intro Gm L0 a1 c0 r H;intro e0  ss hP;refine hdg mixed Tryz.func23 (rs:=[.cell 4 26]) fun q tT=>?_;obtain ⟨hF,hX⟩:=hP.start;generalize strip ss []=tt0 at hF hX ⊢;refine go ?_;refine X8 hF rfl fun b1 ss2 hF=>?_;refine go ?_;refine giN q (fun q=>?_) (fun q=>?_)
  ·rw [if_neg (df q)] at H;refine go ?_;obtain ⟨Ui,hx11_1,H⟩:=bnd H;refine cx (Ys 3 c0 _ hx11_1 e0  _ (pre 0 1 0 hF hX)) ?_;rintro _ s8 ⟨t9,rfl,hT,hG⟩;obtain ⟨t10,hX,hF⟩:=aft 0 1 0 hF hX hT hG;refine go ?_;refine cdp H (fun h H=>?_) (fun h H=>?_)
   ·refine go ?_;obtain ⟨x15,hx15,H⟩:=bnd H;refine cx (Ys 4 Ui.2 _ hx15 e0  _ (pre 0 1 0 hF hX)) ?_;rintro _ s11 ⟨t12,rfl,hT,hG⟩;obtain ⟨t13,hX,hF⟩:=aft 0 1 0 hF hX hT hG;refine go ?_;refine cdp H (fun h H=>?_) (fun h H=>?_)
    ·refine go ?_;obtain ⟨x19,hx19,H⟩:=bnd H;refine cx (Y0 [0,1,2,7,42,999] x15.2 _ hx19 e0  _ (pre 0 1 0 hF hX)) ?_;rintro _ s14 ⟨t15,rfl,hT,hG⟩;obtain ⟨t16,hX,hF⟩:=aft 0 1 0 hF hX hT hG;refine go ?_;refine st hF 0 rfl fun s17 hF=>?_;refine go ?_;have e:=pur H;subst e;exact rg _ ⟨_,rfl,hX,K1 _⟩
    ·refine go ?_;obtain ⟨x23,hx23,H⟩:=bnd H;refine cx (He [(Qk #[97]),(Qk #[98]),(Qk #[120]),(Qk #[121]),(Qk #[102]),(Qk #[105,102]),(Qk #[108,101,116]),(Qk #[43])] x15.2 _ hx23 e0  _ (pre 0 1 0 hF hX)) ?_;rintro _ s18 ⟨t19,rfl,hT,hG⟩;obtain ⟨t20,hX,hF⟩:=aft 0 1 0 hF hX hT hG;refine go ?_;refine bp H (VA x23.1) fun x24 h H=>cl h ?_;refine go ?_;refine st hF 0 rfl fun s21 hF=>?_;refine go ?_;have e:=pur H;subst e;exact rg _ ⟨_,rfl,hX,K1 _⟩
   ·refine go ?_;refine X8 hF rfl fun b22 s23 hF=>?_;refine go ?_;refine st hF 0 rfl fun s24 hF=>?_;refine go ?_;obtain ⟨x27,hx27,H⟩:=bnd H;refine cx (Ys 4 Ui.2 _ hx27 e0  _ (pre 0 1 0 hF hX)) ?_;rintro _ s25 ⟨t26,rfl,hT,hG⟩;obtain ⟨t27,hX,hF⟩:=aft 0 1 0 hF hX hT hG;have hF:=hF.nil 26 5;refine go ?_;obtain ⟨o37,ho37,H⟩:=bnd H;refine L0 a1 [] x27.1 x27.2.b x27.2.p _ ho37 _ rfl _ tt0 e0 b1 b22 ?_ ?_ _ _ _ .Yb S hX hF
    ·intro Dp Sp Sq he T39 s40 t41 e38v0 tT hX hF;have he:=he.symm;subst he
     try dsimp only at H
     refine go ?_;refine st hF 1 rfl fun s42 hF=>?_;refine go ?_;have e:=pur H;subst e;exact rg _ ⟨_,rfl,hX,K1 _⟩
    ·trivial
  ·rw [if_pos (dt q)] at H;refine go ?_;obtain ⟨Fl,hx15_1,H⟩:=bnd H;refine cx (Ys 4 c0 _ hx15_1 e0  _ (pre 0 1 0 hF hX)) ?_;rintro _ s43 ⟨t44,rfl,hT,hG⟩;obtain ⟨t45,hX,hF⟩:=aft 0 1 0 hF hX hT hG;refine go ?_;refine cdp H (fun h H=>?_) (fun h H=>?_)
   ·refine go ?_;obtain ⟨Qe7,hx19_1,H⟩:=bnd H;refine cx (Y0 [0,1,2,7,42,999] Fl.2 _ hx19_1 e0  _ (pre 0 1 0 hF hX)) ?_;rintro _ s46 ⟨t47,rfl,hT,hG⟩;obtain ⟨t48,hX,hF⟩:=aft 0 1 0 hF hX hT hG;refine go ?_;refine st hF 0 rfl fun s49 hF=>?_;refine go ?_;have e:=pur H;subst e;exact rg _ ⟨_,rfl,hX,K1 _⟩
   ·refine go ?_;obtain ⟨Qe9,hx23_1,H⟩:=bnd H;refine cx (He [(Qk #[97]),(Qk #[98]),(Qk #[120]),(Qk #[121]),(Qk #[102]),(Qk #[105,102]),(Qk #[108,101,116]),(Qk #[43])] Fl.2 _ hx23_1 e0  _ (pre 0 1 0 hF hX)) ?_;rintro _ s50 ⟨t51,rfl,hT,hG⟩;obtain ⟨t52,hX,hF⟩:=aft 0 1 0 hF hX hT hG;refine go ?_;obtain ⟨RZ,hx24_1,H⟩:=bnd H;refine cl (VA Qe9.1 _ hx24_1) ?_;refine go ?_;refine st hF 0 rfl fun s53 hF=>?_;refine go ?_;have e:=pur H;subst e;exact rg _ ⟨_,rfl,hX,K1 _⟩
 ·intro Gl Gm C0 L0 a1 X6 YE GU I9 out H c hc Q tt0 e0 b1 b22 hE hR T ss tt z0v0 tT hX hF;refine lpy hc rfl fun q=>go ?_;refine cdp H (fun h H=>?_) (fun h H=>?_)
  ·refine go ?_;obtain ⟨E,hEq⟩:∃E,E=EE ss [e0]:=⟨_,rfl⟩
   have n28:¬E b22:=by rw [hEq];exact K3 (hF.at 0 rfl) (nm1 (neX hF 0 rfl hX 0 rfl))
   have n29:¬E b1:=by rw [hEq];exact K3 (hF.at 1 rfl) (nm1 (neX hF 1 rfl hX 0 rfl))
   refine Yf E [.v,.v,.v,.v,.v,.x,.v,.x,.v,.z] (by kernel_rfl) ?_;have z:=K0 (X4 (hF.at 0 rfl) n28) (X4 (hF.at 1 rfl) n29);refine gh ?_;obtain ⟨x37,hx37,H⟩:=bnd H;refine cx (C0 (i64.wrap (a1 - 1)) (Rdr.mk GU I9) _ hx37 e0  _ (pre 0 1 0 hF hX)) ?_;rintro _ s30 ⟨t31,rfl,hT,hG⟩
   refine V0 (K8 hT hG (by intro p hp;simp only [Kj,KD,or_false] at hp<;>first | (rcases hp with rfl<;>(rw [hEq];first | (refine Zc ?_;simp;done) | exact Zp rfl))| cases hp)) fun kp33=>?_
   obtain ⟨t32,hX,hF⟩:=aft 0 1 0 hF hX hT hG;have z:=K0 (X4 (hF.at 0 rfl) n28) (X4 (hF.at 1 rfl) n29);refine gh ?_;refine PT (g:=KW) hF 0 H (rdo (c:=true) (g:=KW) Fm.X5) fun x39 H v34 s35 hF=>?_;have z:=K0 (X4 (hF.at 0 rfl) n28) (X4 (hF.at 1 rfl) n29);refine gh ?_;refine st hF 0 (hF.cells 0 rfl) fun s36 hF=>?_;have z:=K0 (X4 (hF.at 0 rfl) n28) (X4 (hF.at 1 rfl) n29);refine gh ?_;refine go ?_;exact L0 a1 x39 (i64.wrap (YE - 1)) x37.2.b x37.2.p _ H _ rfl Q tt0 e0 b1 b22 hE hR _ _ _ v34 S hX hF
  ·refine go ?_;exact wq (hE _ _ _ (pur H).symm _ _ _ z0v0 S hX hF)
theorem Nq:∀(a1:List ByteArray) (a2:Int) (c0:Rdr) r,Vz a1 a2 c0=some r->∀(e0:Nat)  (ss:Sto),Pre ss [(e0,⟨89,2,[sf cU c0.b,i6 c0.p]⟩)] []->Ctr KX 141 [.ptr e0 0,sf cS a1,i6 a2] ss (fun r' ss'=>∃(tt':Sto),r'=.agg (KW r.1)/\Tau (strip ss []) [(e0,⟨89,2,[sf cU r.2.b,i6 r.2.p]⟩)] tt'/\Fx tt' ss' [] []):=by
 refine Vz.partial_correctness  (motive:=fun a1 a2 c0 r=>∀(e0:Nat)  (ss:Sto),Pre ss [(e0,⟨89,2,[sf cU c0.b,i6 c0.p]⟩)] []->Ctr KX 141 [.ptr e0 0,sf cS a1,i6 a2] ss (fun r' ss'=>∃(tt':Sto),r'=.agg (KW r.1)/\Tau (strip ss []) [(e0,⟨89,2,[sf cU r.2.b,i6 r.2.p]⟩)] tt'/\Fx tt' ss' [] [])) ?_
 ·intro Vz C0 a1 a2 c0 r H;intro e0  ss hP;refine hdg mixed Tryz.func141 (rs:=[.cell 6 26]) fun q tT=>?_;obtain ⟨hF,hX⟩:=hP.start;generalize strip ss []=tt0 at hF hX ⊢;refine go ?_;refine X8 hF rfl fun b1 ss2 hF=>?_;refine go ?_;refine giN q (fun q=>?_) (fun q=>?_)
  ·rw [if_neg (df q)] at H;refine go ?_;obtain ⟨Uj,hx14_1,H⟩:=bnd H;refine cx (Ys 5 c0 _ hx14_1 e0  _ (pre 0 1 0 hF hX)) ?_;rintro _ s8 ⟨t9,rfl,hT,hG⟩;obtain ⟨t10,hX,hF⟩:=aft 0 1 0 hF hX hT hG;refine go ?_;refine cdp H (fun h H=>?_) (fun h H=>?_)
   ·refine go ?_;obtain ⟨x18,hx18,H⟩:=bnd H;refine cx (Ys 3 Uj.2 _ hx18 e0  _ (pre 0 1 0 hF hX)) ?_;rintro _ s11 ⟨t12,rfl,hT,hG⟩;obtain ⟨t13,hX,hF⟩:=aft 0 1 0 hF hX hT hG;refine go ?_;refine cdp H (fun h H=>?_) (fun h H=>?_)
    ·refine go ?_;obtain ⟨x22,hx22,H⟩:=bnd H;refine cx (Y0 [0,1,2,7] x18.2 _ hx22 e0  _ (pre 0 1 0 hF hX)) ?_;rintro _ s14 ⟨t15,rfl,hT,hG⟩;obtain ⟨t16,hX,hF⟩:=aft 0 1 0 hF hX hT hG;refine go ?_;refine st hF 0 rfl fun s17 hF=>?_;refine go ?_;have e:=pur H;subst e;exact rg _ ⟨_,rfl,hX,K1 _⟩
    ·refine go ?_;obtain ⟨x28,hx28,H⟩:=bnd H;refine cx (Ys (a1.length:Int) x18.2 _ hx28 e0  _ (pre 0 1 0 hF hX)) ?_;rintro _ s18 ⟨t19,rfl,hT,hG⟩;obtain ⟨t20,hX,hF⟩:=aft 0 1 0 hF hX hT hG;obtain ⟨x29,f1,H⟩:=bil (g:=cS) (fun _=>rfl) H;refine go1 ?_;refine bp H (VA x29) fun x31 h H=>cl h ?_;refine go ?_;refine st hF 0 rfl fun s21 hF=>?_;refine go ?_;have e:=pur H;subst e;exact rg _ ⟨_,rfl,hX,K1 _⟩
   ·refine go ?_;obtain ⟨x34,hx34,H⟩:=bnd H;refine cx (He [(Qk #[120]),(Qk #[121]),(Qk #[116])] Uj.2 _ hx34 e0  _ (pre 0 1 0 hF hX)) ?_;rintro _ s22 ⟨t23,rfl,hT,hG⟩;obtain ⟨t24,hX,hF⟩:=aft 0 1 0 hF hX hT hG;refine go ?_;have hF:=hF.lit 9 1 (rws cS []) rfl;refine apd (g:=cS) hF 0 H (rdo (c:=false) (g:=cS) (fun _=>rfl)) fun x37 H v25 s26 hF=>?_;refine go ?_;refine apf (g:=cS) hF 0 H (rdo (c:=true) (g:=cS) (fun _=>rfl)) fun x40 H s28 hF=>?_;refine go ?_;obtain ⟨x42,hx42,H⟩:=bnd H;refine cx (Ys 8 x34.2 _ hx42 e0  _ (pre 0 1 0 hF hX)) ?_;rintro _ s29 ⟨t30,rfl,hT,hG⟩;obtain ⟨t31,hX,hF⟩:=aft 0 1 0 hF hX hT hG;refine go ?_;obtain ⟨R3,j33,H⟩:=bnd H;refine VG (fun s'=>∃(T:TT) (ss1 tt1:Sto),s'=⟨T,ss1⟩/\(T 0=.ptr e0 0/\T 1=sf cS a1/\T 2=i6 a2/\T 6=.ptr b1 0/\T 7=.str x34.1/\T 8=sf cS x40/\T 42=i6 x42.1/\T 43=.bool R3)/\Tau tt0 [(e0,⟨89,2,[sf cU x42.2.b,i6 x42.2.p]⟩)] tt1/\Fx tt1 ss1 [(b1,⟨26,5,[i6 0,.str zB,i6 0,.Yb,.Yb]⟩)] []) (cdp j33 (fun h j33=>?_) (fun h j33=>?_)) ?_
    ·refine go ?_;have e:=pur j33;subst e;exact ⟨_,_,_,rfl,S,hX,hF⟩
    ·refine go ?_;have e:=pur j33;subst e;exact ⟨_,_,_,rfl,S,hX,hF⟩
    ·rintro s' ⟨T34,s35,t36,rfl,tT,hX,hF⟩;refine go ?_;refine cdb H (fun h H=>?_) (fun h H=>?_)
     ·refine go ?_;refine bp H (VA (Qk #[108,97,109,98,100,97])) fun x46 h H=>cl h ?_;refine go ?_;refine bp H (VA x34.1) fun x48 h H=>cl h ?_;refine go ?_;refine bp H (VS [x48]) fun x50 h H=>cl h ?_;refine go ?_;obtain ⟨x55,hx55,H⟩:=bnd H;refine cx (C0 x40 (i64.wrap (a2 - 1)) x42.2 _ hx55 e0  _ (pre 0 1 0 hF hX)) ?_;rintro _ s37 ⟨t38,rfl,hT,hG⟩;obtain ⟨t39,hX,hF⟩:=aft 0 1 0 hF hX hT hG;refine go ?_;refine bp H (VS [x46,x50,x55.1]) fun x57 h H=>cl h ?_;refine go ?_;refine st hF 0 rfl fun s40 hF=>?_;refine go ?_;have e:=pur H;subst e;exact rg _ ⟨_,rfl,hX,K1 _⟩
     ·refine go ?_;obtain ⟨R4,j42,H⟩:=bnd H;refine VG (fun s'=>∃(T:TT) (ss1 tt1:Sto),s'=⟨T,ss1⟩/\(T 0=.ptr e0 0/\T 1=sf cS a1/\T 2=i6 a2/\T 6=.ptr b1 0/\T 7=.str x34.1/\T 8=sf cS x40/\T 42=i6 x42.1/\T 58=.bool R4)/\Tau tt0 [(e0,⟨89,2,[sf cU x42.2.b,i6 x42.2.p]⟩)] tt1/\Fx tt1 ss1 [(b1,⟨26,5,[i6 0,.str zB,i6 0,.Yb,.Yb]⟩)] []) (cdp j42 (fun h j42=>?_) (fun h j42=>?_)) ?_
      ·refine go ?_;have e:=pur j42;subst e;exact ⟨_,_,_,rfl,S,hX,hF⟩
      ·refine go ?_;have e:=pur j42;subst e;exact ⟨_,_,_,rfl,S,hX,hF⟩
      ·rintro s' ⟨T43,s44,t45,rfl,tT,hX,hF⟩;refine go ?_;refine cdb H (fun h H=>?_) (fun h H=>?_)
       ·refine go ?_;refine bp H (VA x34.1) fun x62 h H=>cl h ?_;refine go ?_;obtain ⟨x67,hx67,H⟩:=bnd H;refine cx (C0 a1 (i64.wrap (a2 - 1)) x42.2 _ hx67 e0  _ (pre 0 1 0 hF hX)) ?_;rintro _ s46 ⟨t47,rfl,hT,hG⟩;obtain ⟨t48,hX,hF⟩:=aft 0 1 0 hF hX hT hG;refine go ?_;refine bp H (VS [x62,x67.1]) fun x69 h H=>cl h ?_;refine go ?_;refine X8 hF rfl fun b49 s50 hF=>?_;refine go ?_;refine st hF 0 rfl fun s51 hF=>?_;refine go ?_;obtain ⟨E,hEq⟩:∃E,E=EE s51 [e0]:=⟨_,rfl⟩
        have n52:¬E b49:=by rw [hEq];exact K3 (hF.at 0 rfl) (nm1 (neX hF 0 rfl hX 0 rfl))
        have n53:¬E b1:=by rw [hEq];exact K3 (hF.at 1 rfl) (nm1 (neX hF 1 rfl hX 0 rfl))
        refine Yf E [.v,.v,.v,.v,.v,.v,.v,.v,.x,.v,.v,.z] (by kernel_rfl) ?_;have z:=K0 (X4 (hF.at 0 rfl) n52) (X4 (hF.at 1 rfl) n53);refine gh ?_;refine bp H (VA (Qk #[108,101,116])) fun x70 h H=>cv h ?_;have z:=K0 (X4 (hF.at 0 rfl) n52) (X4 (hF.at 1 rfl) n53);refine gh ?_;refine bp H (VS [x69]) fun x73 h H=>cv h ?_;have z:=K0 (X4 (hF.at 0 rfl) n52) (X4 (hF.at 1 rfl) n53);refine gh ?_;obtain ⟨x78,hx78,H⟩:=bnd H;refine cx (C0 x40 (i64.wrap (a2 - 1)) x67.2 _ hx78 e0  _ (pre 0 1 0 hF hX)) ?_;rintro _ s54 ⟨t55,rfl,hT,hG⟩
        refine V0 (K8 hT hG (by intro p hp;simp only [Kj,KD,or_false] at hp<;>first | (rcases hp with rfl<;>(rw [hEq];first | (refine Zc ?_;simp;done) | exact Zp rfl))| cases hp)) fun kp57=>?_
        obtain ⟨t56,hX,hF⟩:=aft 0 1 0 hF hX hT hG;have z:=K0 (X4 (hF.at 0 rfl) n52) (X4 (hF.at 1 rfl) n53);refine gh ?_;refine bp H (VS [x70,x73,x78.1]) fun x80 h H=>cv h ?_;have z:=K0 (X4 (hF.at 0 rfl) n52) (X4 (hF.at 1 rfl) n53);refine gh ?_;refine st hF 1 rfl fun s58 hF=>?_;have z:=K0 (X4 (hF.at 0 rfl) n52) (X4 (hF.at 1 rfl) n53);refine gh ?_;refine go ?_;have e:=pur H;subst e;exact rg [.agg [i6 x80.kind,.str x80.name,i6 x80.num,sf cI x80.sc,sf KW x80.kids]] ⟨_,rfl,hX,K1 _⟩
       ·refine go ?_;refine cdp H (fun h H=>?_) (fun h H=>?_)
        ·refine go ?_;refine bp H (VA (Qk #[105,102])) fun x83 h H=>cl h ?_;refine go ?_;obtain ⟨x88,hx88,H⟩:=bnd H;refine cx (C0 a1 (i64.wrap (a2 - 1)) x42.2 _ hx88 e0  _ (pre 0 1 0 hF hX)) ?_;rintro _ s59 ⟨t60,rfl,hT,hG⟩;obtain ⟨t61,hX,hF⟩:=aft 0 1 0 hF hX hT hG;refine go ?_;obtain ⟨x93,hx93,H⟩:=bnd H;refine cx (C0 a1 (i64.wrap (a2 - 1)) x88.2 _ hx93 e0  _ (pre 0 1 0 hF hX)) ?_;rintro _ s62 ⟨t63,rfl,hT,hG⟩;obtain ⟨t64,hX,hF⟩:=aft 0 1 0 hF hX hT hG;refine go ?_;obtain ⟨x96,hx96,H⟩:=bnd H;refine cx (C0 a1 0 x93.2 _ hx96 e0  _ (pre 0 1 0 hF hX)) ?_;rintro _ s65 ⟨t66,rfl,hT,hG⟩;obtain ⟨t67,hX,hF⟩:=aft 0 1 0 hF hX hT hG;refine go ?_;refine bp H (VS [x83,x88.1,x93.1,x96.1]) fun x98 h H=>cl h ?_;refine go ?_;refine st hF 0 rfl fun s68 hF=>?_;refine go ?_;have e:=pur H;subst e;exact rg _ ⟨_,rfl,hX,K1 _⟩
        ·refine go ?_;refine cdp H (fun h H=>?_) (fun h H=>?_)
         ·refine go ?_;refine bp H (VA (Qk #[113,117,111,116,101])) fun x101 h H=>cl h ?_;refine go ?_;obtain ⟨x103,hx103,H⟩:=bnd H;refine cx (Dv 1 x42.2 _ hx103 e0  _ (pre 0 1 0 hF hX)) ?_;rintro _ s69 ⟨t70,rfl,hT,hG⟩;obtain ⟨t71,hX,hF⟩:=aft 0 1 0 hF hX hT hG;refine go ?_;refine bp H (VS [x101,x103.1]) fun x105 h H=>cl h ?_;refine go ?_;refine st hF 0 rfl fun s72 hF=>?_;refine go ?_;have e:=pur H;subst e;exact rg _ ⟨_,rfl,hX,K1 _⟩
         ·refine go ?_;obtain ⟨x110,hx110,H⟩:=bnd H;refine cx (C0 a1 (i64.wrap (a2 - 1)) x42.2 _ hx110 e0  _ (pre 0 1 0 hF hX)) ?_;rintro _ s73 ⟨t74,rfl,hT,hG⟩;obtain ⟨t75,hX,hF⟩:=aft 0 1 0 hF hX hT hG;refine go ?_;obtain ⟨x115,hx115,H⟩:=bnd H;refine cx (C0 a1 (i64.wrap (a2 - 1)) x110.2 _ hx115 e0  _ (pre 0 1 0 hF hX)) ?_;rintro _ s76 ⟨t77,rfl,hT,hG⟩;obtain ⟨t78,hX,hF⟩:=aft 0 1 0 hF hX hT hG;refine go ?_;refine bp H (VS [x110.1,x115.1]) fun x117 h H=>cl h ?_;refine go ?_;refine st hF 0 rfl fun s79 hF=>?_;refine go ?_;have e:=pur H;subst e;exact rg _ ⟨_,rfl,hX,K1 _⟩
  ·rw [if_pos (dt q)] at H;refine go ?_;obtain ⟨Uk,hx18_1,H⟩:=bnd H;refine cx (Ys 3 c0 _ hx18_1 e0  _ (pre 0 1 0 hF hX)) ?_;rintro _ s80 ⟨t81,rfl,hT,hG⟩;obtain ⟨t82,hX,hF⟩:=aft 0 1 0 hF hX hT hG;refine go ?_;refine cdp H (fun h H=>?_) (fun h H=>?_)
   ·refine go ?_;obtain ⟨Qe8,hx22_1,H⟩:=bnd H;refine cx (Y0 [0,1,2,7] Uk.2 _ hx22_1 e0  _ (pre 0 1 0 hF hX)) ?_;rintro _ s83 ⟨t84,rfl,hT,hG⟩;obtain ⟨t85,hX,hF⟩:=aft 0 1 0 hF hX hT hG;refine go ?_;refine st hF 0 rfl fun s86 hF=>?_;refine go ?_;have e:=pur H;subst e;exact rg _ ⟨_,rfl,hX,K1 _⟩
   ·refine go ?_;obtain ⟨Qi1,hx28_1,H⟩:=bnd H;refine cx (Ys (a1.length:Int) Uk.2 _ hx28_1 e0  _ (pre 0 1 0 hF hX)) ?_;rintro _ s87 ⟨t88,rfl,hT,hG⟩;obtain ⟨t89,hX,hF⟩:=aft 0 1 0 hF hX hT hG;obtain ⟨Qi2,f1,H⟩:=bil (g:=cS) (fun _=>rfl) H;refine go1 ?_;obtain ⟨R0,hx31_1,H⟩:=bnd H;refine cl (VA Qi2 _ hx31_1) ?_;refine go ?_;refine st hF 0 rfl fun s90 hF=>?_;refine go ?_;have e:=pur H;subst e;exact rg _ ⟨_,rfl,hX,K1 _⟩
theorem Nn:∀(c0:Rdr) r,A1 c0=some r->∀(e0:Nat)  (ss:Sto),Pre ss [(e0,⟨89,2,[sf cU c0.b,i6 c0.p]⟩)] []->Ctr KX 109 [.ptr e0 0] ss (fun r' ss'=>∃(tt':Sto),r'=.agg (KW r.1)/\Tau (strip ss []) [(e0,⟨89,2,[sf cU r.2.b,i6 r.2.p]⟩)] tt'/\Fx tt' ss' [] []):=by
 intro c0 r H;intro e0  ss hP;unfold A1 at H;refine hdg mixed Tryz.func109 (rs:=[.cell 2 26]) fun q tT=>?_;obtain ⟨hF,hX⟩:=hP.start;generalize strip ss []=tt0 at hF hX ⊢;refine go ?_;refine X8 hF rfl fun b1 ss2 hF=>?_;refine go ?_;refine bp H (Mq ) fun x6 h H=>cl h ?_;refine go ?_;obtain ⟨x8,hx8,H⟩:=bnd H;refine cx (Ys 3 c0 _ hx8 e0  _ (pre 0 1 0 hF hX)) ?_;rintro _ ss3 ⟨t4,rfl,hT,hG⟩;obtain ⟨t5,hX,hF⟩:=aft 0 1 0 hF hX hT hG;refine goL ?_;refine cdp H (fun h H=>?_) (fun h H=>?_)
 ·refine go ?_;obtain ⟨x14,hx14,H⟩:=bnd H;refine cx (Ys (x6.length:Int) x8.2 _ hx14 e0  _ (pre 0 1 0 hF hX)) ?_;rintro _ ss6 ⟨t7,rfl,hT,hG⟩;obtain ⟨t8,hX,hF⟩:=aft 0 1 0 hF hX hT hG;obtain ⟨x15,f1,H⟩:=bil (g:=cS) (fun _=>rfl) H;refine go1 ?_;refine bp H (AR x15) fun x17 h H=>cl h ?_;refine go ?_;refine st hF 0 rfl fun s9 hF=>?_;refine go ?_;have e:=pur H;subst e;exact rg _ ⟨_,rfl,hX,K1 _⟩
 ·refine go ?_;obtain ⟨x22,hx22,H⟩:=bnd H;refine cx (Y0 [4,3,2] x8.2 _ hx22 e0  _ (pre 0 1 0 hF hX)) ?_;rintro _ s10 ⟨t11,rfl,hT,hG⟩;obtain ⟨t12,hX,hF⟩:=aft 0 1 0 hF hX hT hG;refine go ?_;obtain ⟨x23,hx23,H⟩:=bnd H;refine cx (Nq [(Qk #[43]),(Qk #[108,105,115,116]),(Qk #[103])] x22.1 x22.2 _ hx23 e0  _ (pre 0 1 0 hF hX)) ?_;rintro _ s13 ⟨t14,rfl,hT,hG⟩;obtain ⟨t15,hX,hF⟩:=aft 0 1 0 hF hX hT hG;refine go ?_;refine X8 hF rfl fun b16 s17 hF=>?_;refine go ?_;refine st hF 0 rfl fun s18 hF=>?_;refine go ?_;obtain ⟨x25,hx25,H⟩:=bnd H;refine cx (Ys 2 x23.2 _ hx25 e0  _ (pre 0 1 0 hF hX)) ?_;rintro _ s19 ⟨t20,rfl,hT,hG⟩;obtain ⟨t21,hX,hF⟩:=aft 0 1 0 hF hX hT hG;refine goL ?_;refine cdp H (fun h H=>?_) (fun h H=>?_)
  ·refine goL ?_;refine bp H (AR (Qk #[40,114,117,108,101,115,32,40,41,32,40,40,95,32,97,32,98,41,32,40,108,101,116,32,40,40,116,32,97,41,41,32,40,108,105,115,116,32,98,32,116,41,41,41,32,40,40,95,32,97,41,32,40,108,101,116,32,40,40,120,32,97,41,41,32,40,108,105,115,116,32,120,32,97,41,41,41,41])) fun x27 h H=>cl h ?_;refine goL ?_;refine X8 hF rfl fun b22 s23 hF=>?_;refine goL ?_;refine st hF 0 rfl fun s24 hF=>?_;refine goL ?_;refine Yf E0 [.v,.v,.v,.v,.v,.v,.v,.v,.v,.v,.z] (by kernel_rfl) ?_;refine goL ?_;refine bp H (VA (Qk #[108,101,116,45,115,121,110,116,97,120])) fun x28 h H=>cv h ?_;refine goL ?_;refine bp H (VA (Qk #[103])) fun x29 h H=>cv h ?_;refine goL ?_;refine bp H (VS [x29,x27]) fun x32 h H=>cv h ?_;refine goL ?_;refine bp H (VS [x32]) fun x34 h H=>cv h ?_;refine goL ?_;refine bp H (VS [x28,x34,x23.1]) fun x37 h H=>cv h ?_;refine goL ?_;refine st hF 1 rfl fun s25 hF=>?_;refine goL ?_;refine st hF 2 rfl fun s26 hF=>?_;refine goL ?_;have e:=pur H;subst e;exact rg _ ⟨_,rfl,hX,K1 _⟩
  ·refine goL ?_;refine st hF 1 rfl fun s27 hF=>?_;refine goL ?_;have e:=pur H;subst e;exact rg _ ⟨_,rfl,hX,K1 _⟩
theorem Ns:∀(c0:Rdr) r,A5 c0=some r->∀(e0:Nat)  (ss:Sto),Pre ss [(e0,⟨89,2,[sf cU c0.b,i6 c0.p]⟩)] []->Ctr KX 90 [.ptr e0 0] ss (fun r' ss'=>∃(tt':Sto),r'=.agg (KW r.1)/\Tau (strip ss []) [(e0,⟨89,2,[sf cU r.2.b,i6 r.2.p]⟩)] tt'/\Fx tt' ss' [] []):=by
 intro c0 r H;intro e0  ss hP;unfold A5 at H;refine hdg mixed Tryz.func90 (rs:=[.cell 2 26]) fun q tT=>?_;obtain ⟨hF,hX⟩:=hP.start;generalize strip ss []=tt0 at hF hX ⊢;refine go ?_;refine X8 hF rfl fun b1 ss2 hF=>?_;refine goL ?_;obtain ⟨x6,hx6,H⟩:=bnd H;refine cx (Ys 2 c0 _ hx6 e0  _ (pre 0 1 0 hF hX)) ?_;rintro _ ss3 ⟨t4,rfl,hT,hG⟩;obtain ⟨t5,hX,hF⟩:=aft 0 1 0 hF hX hT hG;refine goL ?_;refine cdp H (fun h H=>?_) (fun h H=>?_)
 ·refine goL ?_;obtain ⟨x12,hx12,H⟩:=bnd H;refine cx (Ys 4 x6.2 _ hx12 e0  _ (pre 0 1 0 hF hX)) ?_;rintro _ ss6 ⟨t7,rfl,hT,hG⟩;obtain ⟨t8,hX,hF⟩:=aft 0 1 0 hF hX hT hG;obtain ⟨x13,hx13,H⟩:=bnd H;have f1:=fun (ss:Sto)=>NQ (g:=cS) (ss:=ss) (c:=true) (k:=.i64) (e:=9) (sz:=1) (by_:=16) (fun _=>rfl) hx13;simp only [Y8,Vu,cI,cU,cS,cL,cB] at f1
  try simp only [go_sem,↓reduceIte,K6,Zd,Ze,K7,Zf,Zg,Kl,q,tT,hF.f,hF.m,hF.x hX,f1,List.append_eq,Kh,QS]
  refine bp H (AR x13) fun x15 h H=>cl h ?_;refine goL ?_;refine st hF 0 rfl fun s9 hF=>?_;refine goL ?_;have e:=pur H;subst e;exact rg _ ⟨_,rfl,hX,K1 _⟩
 ·refine goL ?_;obtain ⟨x17,hx17,H⟩:=bnd H;refine cx (Nn x6.2 _ hx17 e0  _ (pre 0 1 0 hF hX)) ?_;rintro _ s10 ⟨t11,rfl,hT,hG⟩;obtain ⟨t12,hX,hF⟩:=aft 0 1 0 hF hX hT hG;refine goL ?_;refine st hF 0 rfl fun s13 hF=>?_;refine goL ?_;have e:=pur H;subst e;exact rg _ ⟨_,rfl,hX,K1 _⟩
theorem VQ:∀(a0:Fm) r,Vb a0=some r->Vm KX 58 [.agg (KW a0)] (.agg (KW r)):=by
 refine Vb.partial_correctness _ (motive_2:=fun a0 x14 X6 YD out=>∀c,Yh Tryz.f58 0=some c->∀(Q:QT) (tt:Sto) (b1 b3 b5:Nat),(∀(YS:List Fm),out=YS->∀(T:TT) (ss:Sto) (e0v0:AV),T 2=.ptr b3 0/\T 3=.ptr b5 0->Fx tt ss [(b5,⟨26,5,[i6 a0.kind,.str a0.name,i6 a0.num,sf cI x14,e0v0]⟩),(b3,⟨26,5,[i6 0,.str zB,i6 0,.Yb,.Yb]⟩),(b1,⟨26,5,[i6 a0.kind,.str a0.name,i6 a0.num,sf cI a0.sc,sf KW a0.kids]⟩)] [⟨e0v0,26,5,rws KW YS⟩]->Q (.ex 0) ⟨T,ss⟩)->True->∀(T:TT) (ss:Sto) (z0v0:AV),T 1=.ptr b1 0/\T 2=.ptr b3 0/\T 3=.ptr b5 0/\T 4=i6 YD->Fx tt ss [(b5,⟨26,5,[i6 a0.kind,.str a0.name,i6 a0.num,sf cI x14,z0v0]⟩),(b3,⟨26,5,[i6 0,.str zB,i6 0,.Yb,.Yb]⟩),(b1,⟨26,5,[i6 a0.kind,.str a0.name,i6 a0.num,sf cI a0.sc,sf KW a0.kids]⟩)] [⟨z0v0,26,5,rws KW X6⟩]->aLp KX c Q ⟨T,ss⟩) ?_ ?_
 ·intro Jw L0 a0 r H;intro ss;refine hdh mixed Tryz.func58 (rs:=[.cell 2 26]) fun q tT hF hX=>?_;refine go ?_;refine X8 hF rfl fun b1 ss2 hF=>?_;refine go ?_;refine X8 hF rfl fun b3 ss4 hF=>?_;refine go ?_;refine Yf E0 [.v,.v,.v,.v,.v,.v,.v,.v,.v,.v,.v,.x,.z] (by kernel_rfl) ?_;refine go ?_;obtain ⟨x14,hx14,H⟩:=bnd H;refine Mu (g:=cI) (xs:=[]) (ys:=a0.sc) (fun _=>rfl) (by decide) (by decide) (.inr (by first | rfl | simp only [Y8,Vu,cI,cU,cS,cL])) (.inr ⟨_,by first | rfl | simp only [Y8,Vu,cI,cU,cS,cL]⟩) hx14 ?_;refine go ?_;refine WH hF rfl fun b5 ss6 hF=>?_;refine go ?_;refine st hF 0 rfl fun s7 hF=>?_;have hF:=hF.nil 26 5;refine go ?_;obtain ⟨o11,ho11,H⟩:=bnd H;refine L0 a0 x14 [] 0 _ ho11 _ rfl _ _ b1 b3 b5 ?_ ?_ _ _ .Yb S hF
  ·intro CA he T13 s14 e12v0 tT hF;have he:=he.symm;subst he;refine go ?_;refine st hF 1 rfl fun s16 hF=>?_;refine go ?_;have e:=pur H;subst e;exact rt _
  ·trivial
 ·intro Vb Jw C0 L0 a0 x14 X6 YD out H c hc Q tt b1 b3 b5 hE hR T ss z0v0 tT hF;refine lpx tt hc rfl fun q hX=>go ?_;refine cdp H (fun h H=>?_) (fun h H=>?_)
  ·refine go ?_;refine Yf E0 [.v,.v,.v,.v,.v,.v,.v,.v,.v,.x,.v,.z] (by kernel_rfl) ?_;obtain ⟨x28,f1,H⟩:=bil (g:=KW) Fm.X5 H;refine go1 ?_;refine bp H (C0 x28) fun x30 h H=>cv h ?_;refine go ?_;refine PT (g:=KW) hF 0 H (rdo (c:=true) (g:=KW) Fm.X5) fun x32 H v8 s9 hF=>?_;refine go ?_;refine st hF 0 (hF.cells 0 rfl) fun s10 hF=>?_;refine go ?_;exact L0 a0 x14 x32 (i64.wrap (YD+1)) _ H _ rfl Q tt b1 b3 b5 hE hR _ _ v8 S hF
  ·refine go ?_;exact wq (hE _ (pur H).symm _ _ z0v0 S hF)
theorem BE:∀(a0:Fm) (x14:List Int) (Iw:List Fm) (YD:Int) out,Vd a0 x14 Iw YD=some out->∀c,Yh Tryz.f58 0=some c->∀(Q:QT) (tt0:Sto) (b1 b3:Nat) (v5:AV) (b7:Nat),(∀(Qax:List Fm),out=Qax->∀(T:TT) (ss tt:Sto) (e0v1:AV),T 2=.ptr b3 0/\T 3=.ptr b7 0->Tau tt0 [] tt->Fx tt ss [(b7,⟨26,5,[i6 a0.kind,.str a0.name,i6 a0.num,v5,e0v1]⟩),(b3,⟨26,5,[i6 0,.str zB,i6 0,.Yb,.Yb]⟩),(b1,⟨26,5,[i6 a0.kind,.str a0.name,i6 a0.num,sf cI a0.sc,sf KW a0.kids]⟩)] [⟨e0v1,26,5,rws KW Qax⟩,⟨v5,3,1,rws cI x14⟩]->Q (.ex 0) ⟨T,ss⟩)->True->∀(T:TT) (ss tt:Sto) (z0v1:AV),T 1=.ptr b1 0/\T 2=.ptr b3 0/\T 3=.ptr b7 0/\T 4=i6 YD->Tau tt0 [] tt->Fx tt ss [(b7,⟨26,5,[i6 a0.kind,.str a0.name,i6 a0.num,v5,z0v1]⟩),(b3,⟨26,5,[i6 0,.str zB,i6 0,.Yb,.Yb]⟩),(b1,⟨26,5,[i6 a0.kind,.str a0.name,i6 a0.num,sf cI a0.sc,sf KW a0.kids]⟩)] [⟨z0v1,26,5,rws KW Iw⟩,⟨v5,3,1,rws cI x14⟩]->aLp KX c Q ⟨T,ss⟩:=by
 intro a0 x14 Iw YD;revert Iw YD;refine Vd.partial_correctness a0 x14 _ ?_;intro Vd IH Iw YD out H c hc Q tt0 b1 b3 v5 b7 hE hR T ss tt z0v1 tT hX hF;refine lpy hc rfl fun q=>go ?_;refine cdp H (fun h H=>?_) (fun h H=>?_)
 ·refine go ?_;refine Yf E0 [.v,.v,.v,.v,.v,.v,.v,.v,.v,.x,.v,.z] (by kernel_rfl) ?_;obtain ⟨x28,f1,H⟩:=bil (g:=KW) Fm.X5 H;refine go1 ?_;refine bp H (VQ x28) fun x30 h H=>cv h ?_;refine go ?_;refine PT (g:=KW) hF 0 H (rdo (c:=true) (g:=KW) Fm.X5) fun x32 H v10 s11 hF=>?_;refine go ?_;refine st hF 0 (hF.cells 0 rfl) fun s12 hF=>?_;refine go ?_;exact IH  x32 (i64.wrap (YD+1)) _ H _ rfl Q tt0 b1 b3 v5 b7 hE hR _ _ _ v10 S hX hF
 ·refine go ?_;exact wq (hE _ (pur H).symm _ _ _ z0v1 S hX hF)
theorem Cv:∀(a0:Fm) r,JT a0=some r->∀   (ss:Sto),Pre ss [] []->Ctr KX 58 [.agg (KW a0)] ss (fun r' ss'=>∃(tt':Sto) (Qnp Qli:AV),r'=.agg [i6 r.kind,.str r.name,i6 r.num,Qnp,Qli]/\Tau (strip ss []) [] tt'/\Fx tt' ss' [] [⟨Qnp,3,1,rws cI r.sc⟩,⟨Qli,26,5,rws KW r.kids⟩]):=by
 intro a0 r H;intro   ss hP;unfold JT at H;refine hdg mixed Tryz.func58 (rs:=[.cell 2 26]) fun q tT=>?_;obtain ⟨hF,hX⟩:=hP.start;generalize strip ss []=tt0 at hF hX ⊢;refine go ?_;refine X8 hF rfl fun b1 ss2 hF=>?_;refine go ?_;refine X8 hF rfl fun b3 ss4 hF=>?_;refine go ?_;refine Yf E0 [.v,.v,.v,.v,.v,.v,.v,.v,.v,.x,.v,.x,.z] (by kernel_rfl) ?_;refine go ?_;have hF:=hF.lit 3 1 (rws cI []) rfl;refine PT (g:=cI) hF 0 H (rdo (c:=false) (g:=cI) (fun _=>rfl)) fun x14 H v5 ss6 hF=>?_;refine go ?_;refine WH hF rfl fun b7 s8 hF=>?_;refine go ?_;refine st hF 0 rfl fun s9 hF=>?_;have hF:=hF.nil 26 5;refine go ?_;obtain ⟨o13,ho13,H⟩:=bnd H;refine BE a0 x14 [] 0 _ ho13 _ rfl _ tt0 b1 b3 v5 b7 ?_ ?_ _ _ _ .Yb S hX hF
 ·intro Qfk he T15 s16 t17 e14v1 tT hX hF;have he:=he.symm;subst he;refine go ?_;refine st hF 1 rfl fun s18 hF=>?_;refine go ?_;have e:=pur H;subst e;exact rg _ ⟨_,_,_,rfl,hX,hF.pick [] [1,0] (by decide) (by decide)⟩
 ·trivial
theorem Ij:∀(a1:Fm) (c0:Rdr) r,WR a1 c0=some r->∀(e0:Nat)  (ss:Sto),Pre ss [(e0,⟨89,2,[sf cU c0.b,i6 c0.p]⟩)] []->Ctr KX 56 [.ptr e0 0,.agg (KW a1)] ss (fun r' ss'=>∃(tt':Sto),r'=.agg (KW r.1)/\Tau (strip ss []) [(e0,⟨89,2,[sf cU r.2.b,i6 r.2.p]⟩)] tt'/\Fx tt' ss' [] []):=by
 refine WR.partial_correctness  (motive:=fun a1 c0 r=>∀(e0:Nat)  (ss:Sto),Pre ss [(e0,⟨89,2,[sf cU c0.b,i6 c0.p]⟩)] []->Ctr KX 56 [.ptr e0 0,.agg (KW a1)] ss (fun r' ss'=>∃(tt':Sto),r'=.agg (KW r.1)/\Tau (strip ss []) [(e0,⟨89,2,[sf cU r.2.b,i6 r.2.p]⟩)] tt'/\Fx tt' ss' [] [])) ?_
 ·intro WR C0 a1 c0 r H;intro e0  ss hP;refine hdg mixed Tryz.func56 (rs:=[.cell 4 26]) fun q tT=>?_;obtain ⟨hF,hX⟩:=hP.start;generalize strip ss []=tt0 at hF hX ⊢;refine go ?_;refine X8 hF rfl fun b1 ss2 hF=>?_;refine go ?_;refine X8 hF rfl fun b3 ss4 hF=>?_;refine go ?_;obtain ⟨x8,hx8,H⟩:=bnd H;refine cx (Cv a1 _ hx8   _ (pre 0 0 0 hF hX)) ?_;rintro _ s7 ⟨t8,v5,v6,rfl,hT,hG⟩;obtain ⟨t9,hX,hF⟩:=aft 0 0 0 hF hX hT hG;refine go ?_;refine X8 hF rfl fun b10 s11 hF=>?_;refine go ?_;refine st hF 0 rfl fun s12 hF=>?_;refine go ?_;refine gi q (fun q=>?_) (fun q=>?_)
  ·rw [if_pos (dt q)] at H;refine go ?_;obtain ⟨Fl,hx15_1,H⟩:=bnd H;refine cx (Ys 2 c0 _ hx15_1 e0  _ (pre 0 1 0 hF hX)) ?_;rintro _ s18 ⟨t19,rfl,hT,hG⟩;obtain ⟨t20,hX,hF⟩:=aft 0 1 0 hF hX hT hG;refine go ?_;refine cdp H (fun h H=>?_) (fun h H=>?_)
   ·refine go ?_;obtain ⟨x22,hx22,H⟩:=bnd H;refine cx (Ys (x8.kids.length:Int) Fl.2 _ hx22 e0  _ (pre 0 1 0 hF hX)) ?_;rintro _ s21 ⟨t22,rfl,hT,hG⟩;obtain ⟨t23,hX,hF⟩:=aft 0 1 0 hF hX hT hG;refine go ?_;obtain ⟨E,hEq⟩:∃E,E=EE s21 [e0]:=⟨_,rfl⟩
    have n24:¬E b10:=by rw [hEq];exact K3 (hF.at 0 rfl) (nm1 (neX hF 0 rfl hX 0 rfl))
    have n25:¬E b3:=by rw [hEq];exact K3 (hF.at 1 rfl) (nm1 (neX hF 1 rfl hX 0 rfl))
    have n26:¬E b1:=by rw [hEq];exact K3 (hF.at 2 rfl) (nm1 (neX hF 2 rfl hX 0 rfl))
    refine Yf E [.v,.v,.v,.v,.v,.v,.v,.v,.x,.x,.v,.z] (by kernel_rfl) ?_;have z:=K0 (X4 (hF.at 0 rfl) n24) (K0 (X4 (hF.at 1 rfl) n25) (X4 (hF.at 2 rfl) n26));refine gh ?_;obtain ⟨x30,hx30,H⟩:=bnd H;obtain ⟨b27,k28,hv⟩:=hF.ref 1 rfl hx30;subst hv
    try simp only [go_sem,↓reduceIte,K6,Zd,Ze,K7,Zf,Zg,Kl,q,tT,hF.f,hF.m,hF.x hX,X4 (hF.at 0 rfl) n24,X4 (hF.at 1 rfl) n25,X4 (hF.at 2 rfl) n26,Bg (l:=x8.kids) rfl hx30,Lz hF 1 (p:=x22.1.toNat * 5) (sz:=5) (ag:=true) (k:=5) (o:=0) (g:=KW) (x:=x30) (i:=x22.1) (v:=(.agg [i6 x30.kind,.str x30.name,i6 x30.num,sf cI x30.sc,sf KW x30.kids])) (by first | rfl | simp) Fm.X5 rfl hx30 (by decide) (by first | rfl | (simp only [sf,i6,zB,cI,cU,cS,cL,cB,Fm.X9];rfl))]
    obtain ⟨x32,hx32,H⟩:=bnd H;refine cx (C0 x30 x22.2 _ hx32 e0  _ (pre 0 1 0 hF hX)) ?_;rintro _ s29 ⟨t30,rfl,hT,hG⟩
    refine V0 (K8 hT hG (by intro p hp;simp only [Kj,KD,or_false] at hp<;>first | (rcases hp with rfl<;>(rw [hEq];first | (refine Zc ?_;simp;done) | exact Zp rfl))| cases hp)) fun kp32=>?_
    obtain ⟨t31,hX,hF⟩:=aft 0 1 0 hF hX hT hG;obtain ⟨x33,hx33,H⟩:=bnd H
    try simp only [go_sem,↓reduceIte,K6,Zd,Ze,K7,Zf,Zg,Kl,q,tT,hF.f,hF.m,hF.x hX,X4 (hF.at 0 rfl) n24,X4 (hF.at 1 rfl) n25,X4 (hF.at 2 rfl) n26,Bg (l:=x8.kids) ((Dq hF 1 rfl).1.trans (WD _)) hx33]
    refine N9 hF 1 (o:=0) (sz:=5) (k:=5) (v:=(.agg [i6 x32.1.kind,.str x32.1.name,i6 x32.1.num,sf cI x32.1.sc,sf KW x32.1.kids])) (cs:=[i6 x32.1.kind,.str x32.1.name,i6 x32.1.num,sf cI x32.1.sc,sf KW x32.1.kids]) (g:=KW) (i:=x22.1) x32.1 Fm.X5 (by first | rfl | simp) rfl hx33 rfl rfl (by decide) (by first | rfl | simp [Hh,cI,cU,cS,cL,cB,Fm.X9]) fun s33 hF=>?_;have hF:Fx t31 s33 [(b10,⟨26,5,[i6 x8.kind,.str x8.name,i6 x8.num,v5,.ref b27 x8.kids.length k28]⟩),(b3,⟨26,5,[i6 0,.str zB,i6 0,.Yb,.Yb]⟩),(b1,⟨26,5,[i6 a1.kind,.str a1.name,i6 a1.num,sf cI a1.sc,sf KW a1.kids]⟩)] [⟨v5,3,1,rws cI x8.sc⟩,⟨.ref b27 x8.kids.length k28,26,5,rws KW (x8.kids.set x22.1.toNat x32.1)⟩]:=hF;have z:=K0 (X4 (hF.at 0 rfl) n24) (K0 (X4 (hF.at 1 rfl) n25) (X4 (hF.at 2 rfl) n26));refine gh ?_;refine go ?_;refine st hF 1 rfl fun s34 hF=>?_;refine go ?_;have e:=pur H;subst e;exact rg _ ⟨_,rfl,hX,K1 _⟩
   ·refine go ?_;obtain ⟨x36,hx36,H⟩:=bnd H;refine cx (Ys 14 Fl.2 _ hx36 e0  _ (pre 0 1 0 hF hX)) ?_;rintro _ s35 ⟨t36,rfl,hT,hG⟩;obtain ⟨t37,hX,hF⟩:=aft 0 1 0 hF hX hT hG;refine go ?_;refine cdp H (fun h H=>?_) (fun h H=>?_)
    ·refine go ?_;obtain ⟨x41,hx41,H⟩:=bnd H;refine cx (Y0 [0,4,1,3] x36.2 _ hx41 e0  _ (pre 0 1 0 hF hX)) ?_;rintro _ s38 ⟨t39,rfl,hT,hG⟩;obtain ⟨t40,hX,hF⟩:=aft 0 1 0 hF hX hT hG;refine go ?_;refine st hF 0 rfl fun s41 hF=>?_;refine go ?_;refine st hF 1 rfl fun s42 hF=>?_;refine go ?_;have e:=pur H;subst e;exact rg _ ⟨_,rfl,hX,K1 _⟩
    ·refine go ?_;refine cdp H (fun h H=>?_) (fun h H=>?_)
     ·refine go ?_;obtain ⟨x47,hx47,H⟩:=bnd H;refine cx (He [zB,(Qk #[65]),(Qk #[116,111,111,108,111,110,103,97,110,97,109,101,49]),(Qk #[122]),(Qk #[120,32,121])] x36.2 _ hx47 e0  _ (pre 0 1 0 hF hX)) ?_;rintro _ s43 ⟨t44,rfl,hT,hG⟩;obtain ⟨t45,hX,hF⟩:=aft 0 1 0 hF hX hT hG;refine go ?_;refine st hF 0 rfl fun s46 hF=>?_;refine go ?_;refine st hF 1 rfl fun s47 hF=>?_;refine go ?_;have e:=pur H;subst e;exact rg _ ⟨_,rfl,hX,K1 _⟩
     ·refine go ?_;refine cdp H (fun h H=>?_) (fun h H=>?_)
      ·refine go ?_;obtain ⟨x53,hx53,H⟩:=bnd H;refine cx (Y0 [1000,-1,5] x36.2 _ hx53 e0  _ (pre 0 1 0 hF hX)) ?_;rintro _ s48 ⟨t49,rfl,hT,hG⟩;obtain ⟨t50,hX,hF⟩:=aft 0 1 0 hF hX hT hG;refine go ?_;refine st hF 0 rfl fun s51 hF=>?_;refine go ?_;refine st hF 1 rfl fun s52 hF=>?_;refine go ?_;have e:=pur H;subst e;exact rg _ ⟨_,rfl,hX,K1 _⟩
      ·refine go ?_;refine cdp H (fun h H=>?_) (fun h H=>?_)
       ·refine go ?_;obtain ⟨E,hEq⟩:∃E,E=EE s35 [e0]:=⟨_,rfl⟩
        have n53:¬E b10:=by rw [hEq];exact K3 (hF.at 0 rfl) (nm1 (neX hF 0 rfl hX 0 rfl))
        have n54:¬E b3:=by rw [hEq];exact K3 (hF.at 1 rfl) (nm1 (neX hF 1 rfl hX 0 rfl))
        have n55:¬E b1:=by rw [hEq];exact K3 (hF.at 2 rfl) (nm1 (neX hF 2 rfl hX 0 rfl))
        refine Yf E [.v,.v,.v,.v,.x,.v,.x,.v,.z] (by kernel_rfl) ?_;have z:=K0 (X4 (hF.at 0 rfl) n53) (K0 (X4 (hF.at 1 rfl) n54) (X4 (hF.at 2 rfl) n55));refine gh ?_;obtain ⟨x61,hx61,H⟩:=bnd H;refine cx (Y0 [0,100,1,50] x36.2 _ hx61 e0  _ (pre 0 1 0 hF hX)) ?_;rintro _ s56 ⟨t57,rfl,hT,hG⟩
        refine V0 (K8 hT hG (by intro p hp;simp only [Kj,KD,or_false] at hp<;>first | (rcases hp with rfl<;>(rw [hEq];first | (refine Zc ?_;simp;done) | exact Zp rfl))| cases hp)) fun kp59=>?_
        obtain ⟨t58,hX,hF⟩:=aft 0 1 0 hF hX hT hG;have z:=K0 (X4 (hF.at 0 rfl) n53) (K0 (X4 (hF.at 1 rfl) n54) (X4 (hF.at 2 rfl) n55));refine gh ?_;refine PT (g:=cI) hF 0 H (rdo (c:=true) (g:=cI) (fun _=>rfl)) fun x63 H v60 s61 hF=>?_;have z:=K0 (X4 (hF.at 0 rfl) n53) (K0 (X4 (hF.at 1 rfl) n54) (X4 (hF.at 2 rfl) n55));refine gh ?_;refine st hF 0 (hF.cells 0 rfl) fun s62 hF=>?_;have z:=K0 (X4 (hF.at 0 rfl) n53) (K0 (X4 (hF.at 1 rfl) n54) (X4 (hF.at 2 rfl) n55));refine gh ?_;refine go ?_;refine st hF 1 rfl fun s63 hF=>?_;refine go ?_;have e:=pur H;subst e;exact rg _ ⟨_,rfl,hX,K1 _⟩
       ·refine go ?_;refine st hF 1 rfl fun s64 hF=>?_;refine go ?_;have e:=pur H;subst e;exact rg _ ⟨_,rfl,hX,K1 _⟩
  ·rw [if_neg (df q)] at H;refine go ?_;obtain ⟨Ew,hx36_1,H⟩:=bnd H;refine cx (Ys 14 c0 _ hx36_1 e0  _ (pre 0 1 0 hF hX)) ?_;rintro _ s65 ⟨t66,rfl,hT,hG⟩;obtain ⟨t67,hX,hF⟩:=aft 0 1 0 hF hX hT hG;refine go ?_;refine cdp H (fun h H=>?_) (fun h H=>?_)
   ·refine go ?_;obtain ⟨Qfb,hx41_1,H⟩:=bnd H;refine cx (Y0 [0,4,1,3] Ew.2 _ hx41_1 e0  _ (pre 0 1 0 hF hX)) ?_;rintro _ s68 ⟨t69,rfl,hT,hG⟩;obtain ⟨t70,hX,hF⟩:=aft 0 1 0 hF hX hT hG;refine go ?_;refine st hF 0 rfl fun s71 hF=>?_;refine go ?_;refine st hF 1 rfl fun s72 hF=>?_;refine go ?_;have e:=pur H;subst e;exact rg _ ⟨_,rfl,hX,K1 _⟩
   ·refine go ?_;refine cdp H (fun h H=>?_) (fun h H=>?_)
    ·refine go ?_;obtain ⟨Qfc,hx47_1,H⟩:=bnd H;refine cx (He [zB,(Qk #[65]),(Qk #[116,111,111,108,111,110,103,97,110,97,109,101,49]),(Qk #[122]),(Qk #[120,32,121])] Ew.2 _ hx47_1 e0  _ (pre 0 1 0 hF hX)) ?_;rintro _ s73 ⟨t74,rfl,hT,hG⟩;obtain ⟨t75,hX,hF⟩:=aft 0 1 0 hF hX hT hG;refine go ?_;refine st hF 0 rfl fun s76 hF=>?_;refine go ?_;refine st hF 1 rfl fun s77 hF=>?_;refine go ?_;have e:=pur H;subst e;exact rg _ ⟨_,rfl,hX,K1 _⟩
    ·refine go ?_;refine cdp H (fun h H=>?_) (fun h H=>?_)
     ·refine go ?_;obtain ⟨Qfd,hx53_1,H⟩:=bnd H;refine cx (Y0 [1000,-1,5] Ew.2 _ hx53_1 e0  _ (pre 0 1 0 hF hX)) ?_;rintro _ s78 ⟨t79,rfl,hT,hG⟩;obtain ⟨t80,hX,hF⟩:=aft 0 1 0 hF hX hT hG;refine go ?_;refine st hF 0 rfl fun s81 hF=>?_;refine go ?_;refine st hF 1 rfl fun s82 hF=>?_;refine go ?_;have e:=pur H;subst e;exact rg _ ⟨_,rfl,hX,K1 _⟩
     ·refine go ?_;refine cdp H (fun h H=>?_) (fun h H=>?_)
      ·refine go ?_;obtain ⟨E,hEq⟩:∃E,E=EE s65 [e0]:=⟨_,rfl⟩
       have n83:¬E b10:=by rw [hEq];exact K3 (hF.at 0 rfl) (nm1 (neX hF 0 rfl hX 0 rfl))
       have n84:¬E b3:=by rw [hEq];exact K3 (hF.at 1 rfl) (nm1 (neX hF 1 rfl hX 0 rfl))
       have n85:¬E b1:=by rw [hEq];exact K3 (hF.at 2 rfl) (nm1 (neX hF 2 rfl hX 0 rfl))
       refine Yf E [.v,.v,.v,.v,.x,.v,.x,.v,.z] (by kernel_rfl) ?_;have z:=K0 (X4 (hF.at 0 rfl) n83) (K0 (X4 (hF.at 1 rfl) n84) (X4 (hF.at 2 rfl) n85));refine gh ?_;obtain ⟨Qi3,hx61_1,H⟩:=bnd H;refine cx (Y0 [0,100,1,50] Ew.2 _ hx61_1 e0  _ (pre 0 1 0 hF hX)) ?_;rintro _ s86 ⟨t87,rfl,hT,hG⟩
       refine V0 (K8 hT hG (by intro p hp;simp only [Kj,KD,or_false] at hp<;>first | (rcases hp with rfl<;>(rw [hEq];first | (refine Zc ?_;simp;done) | exact Zp rfl))| cases hp)) fun kp89=>?_
       obtain ⟨t88,hX,hF⟩:=aft 0 1 0 hF hX hT hG;have z:=K0 (X4 (hF.at 0 rfl) n83) (K0 (X4 (hF.at 1 rfl) n84) (X4 (hF.at 2 rfl) n85));refine gh ?_;refine PT (g:=cI) hF 0 H (rdo (c:=true) (g:=cI) (fun _=>rfl)) fun Qlj H v90 s91 hF=>?_;have z:=K0 (X4 (hF.at 0 rfl) n83) (K0 (X4 (hF.at 1 rfl) n84) (X4 (hF.at 2 rfl) n85));refine gh ?_;refine st hF 0 (hF.cells 0 rfl) fun s92 hF=>?_;have z:=K0 (X4 (hF.at 0 rfl) n83) (K0 (X4 (hF.at 1 rfl) n84) (X4 (hF.at 2 rfl) n85));refine gh ?_;refine go ?_;refine st hF 1 rfl fun s93 hF=>?_;refine go ?_;have e:=pur H;subst e;exact rg _ ⟨_,rfl,hX,K1 _⟩
      ·refine go ?_;refine st hF 1 rfl fun s94 hF=>?_;refine go ?_;have e:=pur H;subst e;exact rg _ ⟨_,rfl,hX,K1 _⟩
theorem Nr:∀(a0:List Int) r,A4 a0=some r->Vm KX 54 [sf cU a0] (.tup [.agg (KW r.1),i6 r.2]):=by
 intro a0 r H;intro ss;unfold A4 at H;refine hdh mixed Tryz.func54 (rs:=[.cell 2 26,.tmp 3]) fun q tT hF hX=>?_;refine go ?_;refine X8 hF rfl fun b1 ss2 hF=>?_;refine go ?_;obtain ⟨x7,hx7,H⟩:=bnd H;refine cx (HC a0 _ hx7   _ (pre 0 0 0 hF hX)) ?_;rintro _ ss4 ⟨t5,b3,rfl,hT,hG⟩;have nw7:ss2.var b3=none:=(hT.off b3 (by simp)).symm.trans (hG.var _ (List.mem_cons_self ..)).2.1;have hF:=DC 0 0 hF hX hT hG;refine go ?_;obtain ⟨x9,hx9,H⟩:=bnd H;refine cx (Ns x7 _ hx9 b3  _ (pre 1 0 0 hF hX)) ?_;rintro _ s8 ⟨t9,rfl,hT,hG⟩;have hF:=DC 1 0 hF hX hT hG;refine go ?_;refine X8 hF rfl fun b11 s12 hF=>?_;refine go ?_;refine st hF 0 rfl fun s13 hF=>?_;refine go ?_;have hF:=pck hF [1,0,2] [];obtain ⟨x11,hx11,H⟩:=bnd H;refine cx (Ys 16 x9.2 _ hx11 b3  _ (pre 1 0 0 hF hX)) ?_;rintro _ s14 ⟨t15,rfl,hT,hG⟩;have hF:=DC 1 0 hF hX hT hG;refine go ?_;obtain ⟨⟨Lp,Lq,Lr,Ls,Lt,Lu,Lv⟩,j18,H⟩:=bnd H;refine VG (fun s'=>∃(T:TT) (ss1:Sto),s'=⟨T,ss1⟩/\(T 2=.ptr b1 0/\T 4=.ptr b3 0/\T 5=.ptr b11 0)/\Fx ss ss1 [(b3,⟨89,2,[sf cU Lu,i6 Lv]⟩),(b11,⟨26,5,[i6 Lp,.str Lq,i6 Lr,sf cI Ls,sf KW Lt]⟩),(b1,⟨26,5,[i6 0,.str zB,i6 0,.Yb,.Yb]⟩)] []) (cdp j18 (fun h j18=>?_) (fun h j18=>?_)) ?_
 ·refine go ?_;obtain ⟨x16,hx16,j18⟩:=bnd j18;refine cx (Ij x9.1 x11.2 _ hx16 b3  _ (pre 1 0 0 hF hX)) ?_;rintro _ s19 ⟨t20,rfl,hT,hG⟩;have hF:=DC 1 0 hF hX hT hG;refine go ?_;obtain ⟨x17,hx17,j18⟩:=bnd j18;refine cx (Ij x16.1 x16.2 _ hx17 b3  _ (pre 1 0 0 hF hX)) ?_;rintro _ s22 ⟨t23,rfl,hT,hG⟩;have hF:=DC 1 0 hF hX hT hG;refine go ?_;refine st hF 1 rfl fun s25 hF=>?_;refine go ?_;have e:=pur j18
  injection e with e0 e
  injection e with e1 e
  injection e with e2 e
  injection e with e3 e
  injection e with e4 e
  injection e with e5 e
  subst e0;subst e1;subst e2;subst e3;subst e4;subst e5;subst e;exact ⟨_,_,rfl,S,hF⟩
 ·refine go ?_;have e:=pur j18
  injection e with e0 e
  injection e with e1 e
  injection e with e2 e
  injection e with e3 e
  injection e with e4 e
  injection e with e5 e
  subst e0;subst e1;subst e2;subst e3;subst e4;subst e5;subst e;exact ⟨_,_,rfl,S,hF⟩
 ·rintro s' ⟨T26,s27,rfl,tT,hF⟩;refine go ?_;obtain ⟨E,hEq⟩:∃E,E=EE s27 [b3,b1]:=⟨_,rfl⟩
  have n29:¬E b11:=by rw [hEq];exact K3 (hF.at 1 rfl) (nm2 ⟨neL hF 1 0 rfl rfl (by decide),neL hF 1 2 rfl rfl (by decide)⟩)
  refine Yf E [.v,.v,.v,.x,.x,.v] (by kernel_rfl) ?_;have z:=X4 (hF.at 1 rfl) n29;refine gh ?_;obtain ⟨x21,hx21,H⟩:=bnd H;refine cx (Y0 [20,10,60,3,0,61] (Rdr.mk Lu Lv) _ hx21 b3  _ (pre 1 0 0 hF hX)) ?_;rintro _ s30 ⟨t31,rfl,hT,hG⟩
  refine V0 (K8 hT hG (by intro p hp;simp only [Kj,KD,or_false] at hp<;>first | (rcases hp with rfl<;>(rw [hEq];first | (refine Zc ?_;simp;done) | exact Zp nw7))| cases hp)) fun kp33=>?_
  have hF:=DC 1 0 hF hX hT hG;have z:=X4 (hF.at 1 rfl) n29;refine gh ?_;refine stK hF 2 (by rw [hEq];exact Zc (by simp)) rfl fun s34 hF=>?_;have z:=X4 (hF.at 1 rfl) n29;refine gh ?_;refine go ?_;have e:=pur H;subst e;exact rt [.agg [i6 Lp,.str Lq,i6 Lr,sf cI Ls,sf KW Lt],i6 x21.1]
theorem Mp:∀  r,Bs  = some r->Vm KX 112 [] (sf cS r):=by
 intro  r H;intro ss;unfold Bs at H;refine hdh mixed Tryz.func112 (rs:=[.tmp 0]) fun q tT hF hX=>?_;refine go ?_;have e:=pur H;subst e;exact rt _
theorem BC:∀(x5:List ByteArray) (X6:List Bnd) (YB:Int) out,Y1 x5 X6 YB=some out->∀c,Yh Tryz.f77 0=some c->∀(Q:QT) (tt:Sto) (b1 b3:Nat),(∀(YS:List Bnd),out=YS->∀(T:TT) (ss:Sto) (e0v0:AV),T 0=.ptr b1 0/\T 1=.ptr b3 0->Fx tt ss [(b3,⟨42,5,[e0v0,.Yb,i6 0,i6 10,i6 0]⟩),(b1,⟨42,5,[.Yb,.Yb,i6 0,i6 0,i6 0]⟩)] [⟨e0v0,75,3,rws KY YS⟩]->Q (.ex 0) ⟨T,ss⟩)->True->∀(T:TT) (ss:Sto) (z0v0:AV),T 0=.ptr b1 0/\T 1=.ptr b3 0/\T 2=sf cS x5/\T 3=i6 YB->Fx tt ss [(b3,⟨42,5,[z0v0,.Yb,i6 0,i6 10,i6 0]⟩),(b1,⟨42,5,[.Yb,.Yb,i6 0,i6 0,i6 0]⟩)] [⟨z0v0,75,3,rws KY X6⟩]->aLp KX c Q ⟨T,ss⟩:=by
 intro x5 X6 YB;revert X6 YB;refine Y1.partial_correctness x5 _ ?_;intro Y1 IH X6 YB out H c hc Q tt b1 b3 hE hR T ss z0v0 tT hF;refine lpx tt hc rfl fun q hX=>go ?_;refine cdp H (fun h H=>?_) (fun h H=>?_)
 ·refine go ?_;refine Yf E0 [.v,.v,.v,.v,.v,.v,.v,.v,.v,.x,.v,.z] (by kernel_rfl) ?_;obtain ⟨x16,f1,H⟩:=bil (g:=cS) (fun _=>rfl) H;refine go1 ?_;refine Qnl (g:=KY) (rows:=[[.str x16,.Yb,i6 YB]]) hF 0 H Bnd.X5 true rfl (by simp only [sf,i6,zB,Y8,Vu,cI,cU,cS,cL,Bnd.X9,Zq,Zr,Fm.num,Fm.sc,Zs,Zh,K9,Zt,Zi,Zj,Zz,Zk,Zu,Zv,Zl,Zm,Zn,Zw,Zo,Za,ZA,Zx,ZB,Zy,Qr,K4,KJ,Kh,QS];exact (.cons (.refl _) id (.cons .Yb (fun _=>rfl) (.cons (.refl _) id .nil)))) fun x21 H v6 s7 hF=>?_;refine go ?_;refine st hF 0 (hF.cells 0 rfl) fun s8 hF=>?_;refine go ?_;exact IH  x21 (i64.wrap (YB+1)) _ H _ rfl Q tt b1 b3 hE hR _ _ v6 S hF
 ·refine go ?_;exact wq (hE _ (pur H).symm _ _ z0v0 S hF)
theorem I0:∀  r,Va  = some r->Vm KX 77 [] (.agg (K5 r)):=by
 intro  r H;intro ss;unfold Va at H;refine hdh mixed Tryz.func77 (rs:=[.cell 0 42]) fun q tT hF hX=>?_;refine go ?_;refine X8 hF rfl fun b1 ss2 hF=>?_;refine go ?_;refine X8 hF rfl fun b3 ss4 hF=>?_;refine go ?_;refine st hF 0 rfl fun ss5 hF=>?_;refine go ?_;refine bp H (Mp ) fun x5 h H=>cl h ?_;have hF:=hF.nil 75 3;refine go ?_;obtain ⟨o9,ho9,H⟩:=bnd H;refine BC x5 [] 1 _ ho9 _ rfl _ _ b1 b3 ?_ ?_ _ _ .Yb S hF
 ·intro O6 he T11 s12 e10v0 tT hF;have he:=he.symm;subst he;refine go ?_;refine st hF 1 rfl fun s14 hF=>?_;refine go ?_;have e:=pur H;subst e;exact rt _
 ·trivial
theorem FP:∀(a0:List Int) (a1 Yd:Int) out,Jo a0 a1 Yd=some out->∀c,Yh Tryz.f65 0=some c->∀(Q:QT) (tt:Sto),(∀(_u:Unit),out=Sum.inr ()->∀(T:TT) (ss:Sto),0+0=0->Fx tt ss [] []->Q (.ex 0) ⟨T,ss⟩)->(∀r,out=Sum.inl r->∀s',IE KX [.tmp 4] (fun r' ss'=>r'=.bool r/\ss'=tt) s'->Q .ret s')->∀(T:TT) (ss:Sto),T 0=sf cI a0/\T 1=i6 a1/\T 5=i6 Yd->Fx tt ss [] []->aLp KX c Q ⟨T,ss⟩:=by
 intro a0 a1 Yd;revert Yd;refine Jo.partial_correctness a0 a1 _ ?_;intro Jo IH Yd out H c hc Q tt  hE hR T ss tT hF;refine lpx tt hc rfl fun q hX=>go ?_;refine cdp H (fun h H=>?_) (fun h H=>?_)
 ·obtain ⟨x14,f1,H⟩:=bil (g:=cI) (fun _=>rfl) H;refine go1 ?_;refine go ?_;refine cdp H (fun h H=>?_) (fun h H=>?_)
  ·refine go ?_;exact wq (hR _ (pur H).symm _ (rt _))
  ·refine go ?_;exact IH  (i64.wrap (Yd+1)) _ H _ rfl Q tt  hE hR _ _  S hF
 ·refine go ?_;exact wq (hE () (pur H).symm _ _  S hF)
theorem G7:∀(a0:List Int) (a1:Int) r,WI a0 a1=some r->Vm KX 65 [sf cI a0,i6 a1] (.bool r):=by
 intro a0 a1 r H;intro ss;unfold WI at H;refine hdh mixed Tryz.func65 (rs:=[.tmp 4]) fun q tT hF hX=>?_;refine go ?_;obtain ⟨o1,ho1,H⟩:=bnd H;refine FP a0 a1 0 _ ho1 _ rfl _ _  ?_ ?_ _ _  S hF
 ·intro _ he T3 ss4 tT hF;have he:=he.symm;subst he
  try dsimp only at H
  refine go ?_;have e:=pur H;subst e;exact rt _
 ·intro r hr s' hs;subst hr;have e:=pur H;subst e;exact hsq hs
theorem Ce:∀(a0 a1:List Int) (Yd:Int) out,Ve a0 a1 Yd=some out->∀c,Yh Tryz.f128 0=some c->∀(Q:QT) (tt:Sto),(∀(_u:Unit),out=Sum.inr ()->∀(T:TT) (ss:Sto),0+0=0->Fx tt ss [] []->Q (.ex 0) ⟨T,ss⟩)->(∀r,out=Sum.inl r->∀s',IE KX [.tmp 4] (fun r' ss'=>r'=.bool r/\ss'=tt) s'->Q .ret s')->∀(T:TT) (ss:Sto),T 0=sf cI a0/\T 1=sf cI a1/\T 5=i6 Yd->Fx tt ss [] []->aLp KX c Q ⟨T,ss⟩:=by
 intro a0 a1 Yd;revert Yd;refine Ve.partial_correctness a0 a1 _ ?_;intro Ve IH Yd out H c hc Q tt  hE hR T ss tT hF;refine lpx tt hc rfl fun q hX=>go ?_;refine cdp H (fun h H=>?_) (fun h H=>?_)
 ·obtain ⟨x15,f1,H⟩:=bil (g:=cI) (fun _=>rfl) H;refine go1 ?_;refine bp H (G7 a1 x15) fun x17 h H=>cl h ?_;refine go ?_;refine cdb H (fun h H=>?_) (fun h H=>?_)
  ·refine go ?_;exact wq (hR _ (pur H).symm _ (rt _))
  ·refine go ?_;exact IH  (i64.wrap (Yd+1)) _ H _ rfl Q tt  hE hR _ _  S hF
 ·refine go ?_;exact wq (hE () (pur H).symm _ _  S hF)
theorem Au:∀(a0 a1:List Int) r,V3 a0 a1=some r->Vm KX 128 [sf cI a0,sf cI a1] (.bool r):=by
 intro a0 a1 r H;intro ss;unfold V3 at H;refine hdh mixed Tryz.func128 (rs:=[.tmp 4]) fun q tT hF hX=>?_;refine go ?_;obtain ⟨o1,ho1,H⟩:=bnd H;refine Ce a0 a1 0 _ ho1 _ rfl _ _  ?_ ?_ _ _  S hF
 ·intro _ he T3 ss4 tT hF;have he:=he.symm;subst he
  try dsimp only at H
  refine go ?_;have e:=pur H;subst e;exact rt _
 ·intro r hr s' hs;subst hr;have e:=pur H;subst e;exact hsq hs
theorem Dm:∀(a0:List Bnd) (a1:Fm) (X6:List Int) (YE:Int) out,Vq a0 a1 X6 YE=some out->∀c,Yh Tryz.f127 0=some c->∀(Q:QT) (tt:Sto) (b1:Nat),(∀(YS:List Int),out=YS->∀(T:TT) (ss:Sto) (e0v0:AV),T 5=e0v0->Fx tt ss [(b1,⟨26,5,[i6 a1.kind,.str a1.name,i6 a1.num,sf cI a1.sc,sf KW a1.kids]⟩)] [⟨e0v0,3,1,rws cI YS⟩]->Q (.ex 0) ⟨T,ss⟩)->True->∀(T:TT) (ss:Sto) (z0v0:AV),T 0=sf KY a0/\T 3=.ptr b1 0/\T 5=z0v0/\T 6=i6 YE->Fx tt ss [(b1,⟨26,5,[i6 a1.kind,.str a1.name,i6 a1.num,sf cI a1.sc,sf KW a1.kids]⟩)] [⟨z0v0,3,1,rws cI X6⟩]->aLp KX c Q ⟨T,ss⟩:=by
 intro a0 a1 X6 YE;revert X6 YE;refine Vq.partial_correctness a0 a1 _ ?_;intro Vq IH X6 YE out H c hc Q tt b1 hE hR T ss z0v0 tT hF;refine lpx tt hc rfl fun q hX=>go ?_;refine cdp H (fun h H=>?_) (fun h H=>?_)
 ·refine go ?_;refine Yf E0 [.v,.v,.v,.v,.v,.v,.v,.v,.v,.v,.v,.v,.v,.v,.v,.v,.v,.v] (by kernel_rfl) ?_;obtain ⟨x16,f1,H⟩:=bil (g:=KY) Bnd.X5 H;refine go1 ?_;obtain ⟨x31,g3,H⟩:=bnd H;refine Jb 8 23 31 (.bool x31) (ti q (fun q=>?_) (fun q=>?_)) (fun J=>?_)
  ·rw [if_pos (dt q)] at g3;obtain ⟨x25,f1,g3⟩:=bil (g:=KY) Bnd.X5 g3;refine go1 ?_;obtain ⟨x30,hx30,g3⟩:=bnd g3;refine cv (Au x25.sc a1.sc _ hx30) ?_;refine go ?_;exact Yt 23 g3
  ·rw [if_neg (df q)] at g3;refine go ?_;exact Yt 23 g3
  refine go ?_;refine cdb H (fun h H=>?_) (fun h H=>?_)
  ·refine go ?_;refine apd (g:=cI) hF 0 H (rdo (c:=true) (g:=cI) (fun _=>rfl)) fun x35 H v5 ss6 hF=>?_;refine go ?_;exact IH  x35 (i64.wrap (YE+1)) _ H _ rfl Q tt b1 hE hR _ _ v5 S hF
  ·refine go ?_;exact IH  X6 (i64.wrap (YE+1)) _ H _ rfl Q tt b1 hE hR _ _ z0v0 S hF
 ·refine go ?_;exact wq (hE _ (pur H).symm _ _ z0v0 S hF)
theorem E4:∀(a0:List Bnd) (a1:Fm) r,Ig a0 a1=some r->Vm KX 127 [sf KY a0,.agg (KW a1)] (sf cI r):=by
 intro a0 a1 r H;intro ss;unfold Ig at H;refine hdh mixed Tryz.func127 (rs:=[.tmp 4]) fun q tT hF hX=>?_;refine go ?_;refine X8 hF rfl fun b1 ss2 hF=>?_;have hF:=hF.lit 3 1 (rws cI []) rfl;refine go ?_;obtain ⟨o7,ho7,H⟩:=bnd H;refine Dm a0 a1 [] 0 _ ho7 _ rfl _ _ b1 ?_ ?_ _ _ (.sl true (rws cI [])) S hF
 ·intro Qa4 he T9 s10 e8v0 tT hF;have he:=he.symm;subst he;refine go ?_;have e:=pur H;subst e;exact rt _
 ·trivial
theorem E3:∀(a0:List Bnd) (a1:Fm) (x12:List Int) (Yo:Int) (Ww:Bool) (GV:Int) out,Wg a0 a1 x12 Yo Ww GV=some out->∀c,Yh Tryz.f87 1=some c->∀(Q:QT) (tt:Sto) (b1:Nat),(∀(Qa2:Bool),out=Qa2->∀(T:TT) (ss:Sto),T 0=sf KY a0/\T 6=sf cI x12/\T 7=i6 Yo/\T 8=.bool Qa2->Fx tt ss [(b1,⟨26,5,[i6 a1.kind,.str a1.name,i6 a1.num,sf cI a1.sc,sf KW a1.kids]⟩)] []->Q (.ex 2) ⟨T,ss⟩)->True->∀(T:TT) (ss:Sto),T 0=sf KY a0/\T 6=sf cI x12/\T 7=i6 Yo/\T 8=.bool Ww/\T 9=i6 GV->Fx tt ss [(b1,⟨26,5,[i6 a1.kind,.str a1.name,i6 a1.num,sf cI a1.sc,sf KW a1.kids]⟩)] []->aLp KX c Q ⟨T,ss⟩:=by
 intro a0 a1 x12 Yo Ww GV;revert Ww GV;refine Wg.partial_correctness a0 a1 x12 Yo _ ?_;intro Wg IH Ww GV out H c hc Q tt b1 hE hR T ss tT hF;refine lpx tt hc rfl fun q hX=>go ?_;refine cdp H (fun h H=>?_) (fun h H=>?_)
 ·refine go ?_;refine Yf E0 [.v,.v,.v,.v,.v,.v,.v,.v,.v,.v,.v,.v,.v,.v,.v,.v,.v,.v,.v,.v,.v] (by kernel_rfl) ?_;refine go ?_;obtain ⟨x44,g3,H⟩:=bnd H;refine Jb 17 27 44 (.bool x44) (ti q (fun q=>?_) (fun q=>?_)) (fun J=>?_)
  ·rw [if_pos (dbt q)] at g3;obtain ⟨x30,f1,g3⟩:=bil (g:=cI) (fun _=>rfl) g3;obtain ⟨x32,f2,g3⟩:=bil (g:=KY) Bnd.X5 g3;obtain ⟨x38,f3,g3⟩:=bil (g:=cI) (fun _=>rfl) g3;obtain ⟨x40,f4,g3⟩:=bil (g:=KY) Bnd.X5 g3;refine go4 ?_;obtain ⟨x43,hx43,g3⟩:=bnd g3;refine cv (Au x32.sc x40.sc _ hx43) ?_;refine go ?_;exact Yt 27 g3
  ·rw [if_neg (dbf q)] at g3;refine go ?_;exact Yt 27 g3
  refine go ?_;exact IH  x44 (i64.wrap (GV+1)) _ H _ rfl Q tt b1 hE hR _ _  S hF
 ·refine go ?_;exact wq (hE _ (pur H).symm _ _  S hF)
theorem E2:∀(a0:List Bnd) (a1:Fm) (x12:List Int) (Yo:Int) out,WS a0 a1 x12 Yo=some out->∀c,Yh Tryz.f87 0=some c->∀(Q:QT) (tt:Sto) (b1:Nat),(∀(_u:Unit),out=Sum.inr ()->∀(T:TT) (ss:Sto),T 6=sf cI x12->Fx tt ss [(b1,⟨26,5,[i6 a1.kind,.str a1.name,i6 a1.num,sf cI a1.sc,sf KW a1.kids]⟩)] []->Q (.ex 0) ⟨T,ss⟩)->(∀r,out=Sum.inl r->∀s',IE KX [.tmp 4,.tmp 5] (fun r' ss'=>r'=.tup [i6 r.1,i6 r.2]/\ss'=tt) s'->Q .ret s')->∀(T:TT) (ss:Sto),T 0=sf KY a0/\T 6=sf cI x12/\T 7=i6 Yo->Fx tt ss [(b1,⟨26,5,[i6 a1.kind,.str a1.name,i6 a1.num,sf cI a1.sc,sf KW a1.kids]⟩)] []->aLp KX c Q ⟨T,ss⟩:=by
 intro a0 a1 x12 Yo;revert Yo;refine WS.partial_correctness a0 a1 x12 _ ?_;intro WS IH Yo out H c hc Q tt b1 hE hR T ss tT hF;refine lpx tt hc rfl fun q hX=>go ?_;refine cdp H (fun h H=>?_) (fun h H=>?_)
 ·refine go ?_;obtain ⟨o5,ho5,H⟩:=bnd H;refine E3 a0 a1 x12 Yo true 0 _ ho5 _ rfl _ _ b1 ?_ ?_ _ _  S hF
  ·intro Qdi he T7 s8 tT hF;have he:=he.symm;subst he;refine go ?_;refine cdb H (fun h H=>?_) (fun h H=>?_)
   ·obtain ⟨x48,f1,H⟩:=bil (g:=cI) (fun _=>rfl) H;refine go1 ?_;refine go ?_;exact wq (hR _ (pur H).symm _ (rt _))
   ·refine go ?_;exact IH  (i64.wrap (Yo+1)) _ H _ rfl Q tt b1 hE hR _ _  S hF
  ·trivial
 ·refine go ?_;exact wq (hE () (pur H).symm _ _  S hF)
theorem BF:∀(a0:List Bnd) (a1:Fm) r,Ir a0 a1=some r->Vm KX 87 [sf KY a0,.agg (KW a1)] (.tup [i6 r.1,i6 r.2]):=by
 intro a0 a1 r H;intro ss;unfold Ir at H;refine hdh mixed Tryz.func87 (rs:=[.tmp 4,.tmp 5]) fun q tT hF hX=>?_;refine go ?_;refine X8 hF rfl fun b1 ss2 hF=>?_;refine go ?_;refine bp H (E4 a0 a1) fun x12 h H=>cl h ?_;refine go ?_;obtain ⟨o10,ho10,H⟩:=bnd H;refine E2 a0 a1 x12 0 _ ho10 _ rfl _ _ b1 ?_ ?_ _ _  S hF
 ·intro _ he T12 s13 tT hF;have he:=he.symm;subst he
  try dsimp only at H
  refine go ?_;refine cdp H (fun h H=>?_) (fun h H=>?_)
  ·refine go ?_;have e:=pur H;subst e;exact rt _
  ·refine go ?_;have e:=pur H;subst e;exact rt _
 ·intro r hr s' hs;subst hr;have e:=pur H;subst e;exact hsq hs
theorem Eo:∀(a0:Xpn) (a1 Yd:Int) out,Wu a0 a1 Yd=some out->∀c,Yh Tryz.f85 0=some c->∀(Q:QT) (tt:Sto) (b1:Nat),(∀(_u:Unit),out=Sum.inr ()->∀(T:TT) (ss:Sto),0+0=0->Fx tt ss [(b1,⟨42,5,[sf KY a0.binds,sf Zb a0.macs,i6 a0.scope,i6 a0.id,i6 a0.steps]⟩)] []->Q (.ex 0) ⟨T,ss⟩)->(∀r,out=Sum.inl r->∀s',IE KX [.tmp 4] (fun r' ss'=>r'=i6 r/\ss'=tt) s'->Q .ret s')->∀(T:TT) (ss:Sto),T 1=i6 a1/\T 2=.ptr b1 0/\T 5=i6 Yd->Fx tt ss [(b1,⟨42,5,[sf KY a0.binds,sf Zb a0.macs,i6 a0.scope,i6 a0.id,i6 a0.steps]⟩)] []->aLp KX c Q ⟨T,ss⟩:=by
 intro a0 a1 Yd;revert Yd;refine Wu.partial_correctness a0 a1 _ ?_;intro Wu IH Yd out H c hc Q tt b1 hE hR T ss tT hF;refine lpx tt hc rfl fun q hX=>go ?_;refine cdp H (fun h H=>?_) (fun h H=>?_)
 ·obtain ⟨x16,f1,H⟩:=bil (g:=Zb) Mac.X5 H;refine go1 ?_;refine go ?_;refine cdp H (fun h H=>?_) (fun h H=>?_)
  ·refine go ?_;exact wq (hR _ (pur H).symm _ (rt _))
  ·refine go ?_;exact IH  (i64.wrap (Yd+1)) _ H _ rfl Q tt b1 hE hR _ _  S hF
 ·refine go ?_;exact wq (hE () (pur H).symm _ _  S hF)
theorem IX:∀(a0:Xpn) (a1:Int) r,GZ a0 a1=some r->Vm KX 85 [.agg (K5 a0),i6 a1] (i6 r):=by
 intro a0 a1 r H;intro ss;unfold GZ at H;refine hdh mixed Tryz.func85 (rs:=[.tmp 4]) fun q tT hF hX=>?_;refine go ?_;refine X8 hF rfl fun b1 ss2 hF=>?_;refine go ?_;obtain ⟨o3,ho3,H⟩:=bnd H;refine Eo a0 a1 0 _ ho3 _ rfl _ _ b1 ?_ ?_ _ _  S hF
 ·intro _ he T5 ss6 tT hF;have he:=he.symm;subst he
  try dsimp only at H
  refine go ?_;have e:=pur H;subst e;exact rt _
 ·intro r hr s' hs;subst hr;have e:=pur H;subst e;exact hsq hs
theorem H3:∀(a0:Xpn) (a1:Fm) r,JH a0 a1=some r->Vm KX 51 [.agg (K5 a0),.agg (KW a1)] (.tup [i6 r.1,i6 r.2]):=by
 intro a0 a1 r H;intro ss;unfold JH at H;refine hdh mixed Tryz.func51 (rs:=[.tmp 4,.tmp 5]) fun q tT hF hX=>?_;refine go ?_;refine X8 hF rfl fun b1 ss2 hF=>?_;refine go ?_;refine X8 hF rfl fun b3 ss4 hF=>?_;refine go ?_;refine bp H (BF a0.binds a1) fun x13 h H=>cl h ?_;refine go ?_;refine cdp H (fun h H=>?_) (fun h H=>?_)
 ·refine go ?_;have e:=pur H;subst e;exact rt _
 ·refine go ?_;refine cdp H (fun h H=>?_) (fun h H=>?_)
  ·refine go ?_;have e:=pur H;subst e;exact rt _
  ·obtain ⟨x24,f1,H⟩:=bil (g:=KY) Bnd.X5 H;refine go1 ?_;refine go ?_;refine cdp H (fun h H=>?_) (fun h H=>?_)
   ·refine go ?_;have e:=pur H;subst e;exact rt _
   ·refine go ?_;refine bp H (IX a0 x24.id) fun x34 h H=>cl h ?_;refine go ?_;refine cdp H (fun h H=>?_) (fun h H=>?_)
    ·refine go ?_;have e:=pur H;subst e;exact rt _
    ·refine go ?_;have e:=pur H;subst e;exact rt _
theorem Np:∀(a0:Xpn) (a1:Fm) r,A2 a0 a1=some r->Vm KX 160 [.agg (K5 a0),.agg (KW a1)] (.tup [.agg (K5 r.1),.agg (Cor.cells r.2.1),i6 r.2.2]):=by
 intro a0 a1 r H;intro ss;unfold A2 at H;refine hdh mixed Tryz.func160 (rs:=[.cell 4 42,.cell 5 136,.tmp 6]) fun q tT hF hX=>?_;refine go ?_;refine X8 hF rfl fun b1 ss2 hF=>?_;refine go ?_;refine X8 hF rfl fun b3 ss4 hF=>?_;refine go ?_;refine X8 hF rfl fun b5 ss6 hF=>?_;refine go ?_;refine X8 hF rfl fun b7 s8 hF=>?_;refine go ?_;refine bp H (H3 a0 a1) fun x12 h H=>cl h ?_;refine go ?_;refine cdp H (fun h H=>?_) (fun h H=>?_)
 ·refine go ?_;obtain ⟨E,hEq⟩:∃E,E=EE s8 [b5,b7]:=⟨_,rfl⟩
  have n9:¬E b3:=by rw [hEq];exact K3 (hF.at 2 rfl) (nm2 ⟨neL hF 2 1 rfl rfl (by decide),neL hF 2 0 rfl rfl (by decide)⟩)
  have n10:¬E b1:=by rw [hEq];exact K3 (hF.at 3 rfl) (nm2 ⟨neL hF 3 1 rfl rfl (by decide),neL hF 3 0 rfl rfl (by decide)⟩)
  refine Yf E [.v,.v,.v,.v,.x,.x,.v] (by kernel_rfl) ?_;have z:=K0 (X4 (hF.at 2 rfl) n9) (X4 (hF.at 3 rfl) n10);refine gh ?_;refine stK hF 1 (by rw [hEq];exact Zc (by simp)) rfl fun s11 hF=>?_;have z:=K0 (X4 (hF.at 2 rfl) n9) (X4 (hF.at 3 rfl) n10);refine gh ?_;refine stK hF 0 (by rw [hEq];exact Zc (by simp)) rfl fun s12 hF=>?_;have z:=K0 (X4 (hF.at 2 rfl) n9) (X4 (hF.at 3 rfl) n10);refine gh ?_;refine go ?_;have e:=pur H;subst e;exact rt [.agg [sf KY a0.binds,sf Zb a0.macs,i6 a0.scope,i6 a0.id,i6 a0.steps],.agg [i6 2,i6 0,.str a1.name,i6 0,.Yb,i6 0,.str zB,i6 0,.Yb,.Yb,.Yb],i6 0]
 ·refine go ?_;refine cdp H (fun h H=>?_) (fun h H=>?_)
  ·refine go ?_;refine st hF 1 rfl fun s13 hF=>?_;refine go ?_;refine st hF 0 rfl fun s14 hF=>?_;refine go ?_;have e:=pur H;subst e;exact rt _
  ·refine go ?_;refine cdp H (fun h H=>?_) (fun h H=>?_)
   ·refine go ?_;refine st hF 1 rfl fun s15 hF=>?_;refine go ?_;refine st hF 0 rfl fun s16 hF=>?_;refine go ?_;have e:=pur H;subst e;exact rt _
   ·refine go ?_;refine st hF 1 rfl fun s17 hF=>?_;refine go ?_;refine st hF 0 rfl fun s18 hF=>?_;refine go ?_;have e:=pur H;subst e;exact rt _
theorem BP:∀(a0:Fm) r,Wd a0=some r->Vm KX 186 [.agg (KW a0)] (.agg (KW r)):=by
 refine Wd.partial_correctness _ (motive_2:=fun a0 X6 YD out=>∀c,Yh Tryz.f186 0=some c->∀(Q:QT) (tt:Sto) (b1 b3 b5:Nat),(∀(YS:List Fm),out=YS->∀(T:TT) (ss:Sto) (e0v0:AV),T 2=.ptr b3 0/\T 3=.ptr b5 0->Fx tt ss [(b5,⟨26,5,[i6 a0.kind,.str a0.name,i6 a0.num,.Yb,e0v0]⟩),(b3,⟨26,5,[i6 0,.str zB,i6 0,.Yb,.Yb]⟩),(b1,⟨26,5,[i6 a0.kind,.str a0.name,i6 a0.num,sf cI a0.sc,sf KW a0.kids]⟩)] [⟨e0v0,26,5,rws KW YS⟩]->Q (.ex 0) ⟨T,ss⟩)->True->∀(T:TT) (ss:Sto) (z0v0:AV),T 1=.ptr b1 0/\T 2=.ptr b3 0/\T 3=.ptr b5 0/\T 4=i6 YD->Fx tt ss [(b5,⟨26,5,[i6 a0.kind,.str a0.name,i6 a0.num,.Yb,z0v0]⟩),(b3,⟨26,5,[i6 0,.str zB,i6 0,.Yb,.Yb]⟩),(b1,⟨26,5,[i6 a0.kind,.str a0.name,i6 a0.num,sf cI a0.sc,sf KW a0.kids]⟩)] [⟨z0v0,26,5,rws KW X6⟩]->aLp KX c Q ⟨T,ss⟩) ?_ ?_
 ·intro V5 L0 a0 r H;intro ss;refine hdh mixed Tryz.func186 (rs:=[.cell 2 26]) fun q tT hF hX=>?_;refine go ?_;refine X8 hF rfl fun b1 ss2 hF=>?_;refine go ?_;refine X8 hF rfl fun b3 ss4 hF=>?_;refine go ?_;refine X8 hF rfl fun b5 ss6 hF=>?_;refine go ?_;refine st hF 0 rfl fun s7 hF=>?_;have hF:=hF.nil 26 5;refine go ?_;obtain ⟨o11,ho11,H⟩:=bnd H;refine L0 a0 [] 0 _ ho11 _ rfl _ _ b1 b3 b5 ?_ ?_ _ _ .Yb S hF
  ·intro CA he T13 s14 e12v0 tT hF;have he:=he.symm;subst he;refine go ?_;refine st hF 1 rfl fun s16 hF=>?_;refine go ?_;have e:=pur H;subst e;exact rt _
  ·trivial
 ·intro Wd V5 C0 L0 a0 X6 YD out H c hc Q tt b1 b3 b5 hE hR T ss z0v0 tT hF;refine lpx tt hc rfl fun q hX=>go ?_;refine cdp H (fun h H=>?_) (fun h H=>?_)
  ·refine go ?_;refine Yf E0 [.v,.v,.v,.v,.v,.v,.v,.v,.v,.x,.v,.z] (by kernel_rfl) ?_;obtain ⟨x24,f1,H⟩:=bil (g:=KW) Fm.X5 H;refine go1 ?_;refine bp H (C0 x24) fun x26 h H=>cv h ?_;refine go ?_;refine PT (g:=KW) hF 0 H (rdo (c:=true) (g:=KW) Fm.X5) fun x28 H v8 s9 hF=>?_;refine go ?_;refine st hF 0 (hF.cells 0 rfl) fun s10 hF=>?_;refine go ?_;exact L0 a0 x28 (i64.wrap (YD+1)) _ H _ rfl Q tt b1 b3 b5 hE hR _ _ v8 S hF
  ·refine go ?_;exact wq (hE _ (pur H).symm _ _ z0v0 S hF)
theorem A3:∀(a0:Xpn) r,HN a0=some r->Vm KX 197 [.agg (K5 a0)] (.tup [.agg (K5 r.1),.bool r.2]):=by
 intro a0 r H;intro ss;unfold HN at H;refine hdh mixed Tryz.func197 (rs:=[.cell 2 42,.tmp 3]) fun q tT hF hX=>?_;refine go ?_;refine X8 hF rfl fun b1 ss2 hF=>?_;refine go ?_;refine X8 hF rfl fun b3 ss4 hF=>?_;refine go ?_;refine st hF 1 rfl fun ss5 hF=>?_;refine go ?_;obtain ⟨E,hEq⟩:∃E,E=EE ss5 [b3]:=⟨_,rfl⟩
 have n6:¬E b1:=by rw [hEq];exact K3 (hF.at 1 rfl) (nm1 (neL hF 1 0 rfl rfl (by decide)))
 refine Yf E [.v,.v,.v,.v,.x,.v] (by kernel_rfl) ?_;have z:=X4 (hF.at 1 rfl) n6;refine gh ?_;refine stK hF 0 (by rw [hEq];exact Zc (by simp)) rfl fun s7 hF=>?_;have z:=X4 (hF.at 1 rfl) n6;refine gh ?_;refine go ?_;have e:=pur H;subst e;exact rt [.agg [sf KY a0.binds,sf Zb a0.macs,i6 (i64.wrap (a0.scope+1)),i6 a0.id,i6 a0.steps],.bool (decide ((i64.wrap (a0.scope+1))<=99))]
theorem EZ:∀(a0:List Int) (a1:Int) (X6:List Int) (YE:Int) out,Wf a0 a1 X6 YE=some out->∀c,Yh Tryz.f200 0=some c->∀(Q:QT) (tt:Sto),(∀(YS:List Int),out=YS->∀(T:TT) (ss:Sto) (e0v0:AV),T 5=e0v0->Fx tt ss [] [⟨e0v0,3,1,rws cI YS⟩]->Q (.ex 0) ⟨T,ss⟩)->True->∀(T:TT) (ss:Sto) (z0v0:AV),T 0=sf cI a0/\T 1=i6 a1/\T 5=z0v0/\T 6=i6 YE->Fx tt ss [] [⟨z0v0,3,1,rws cI X6⟩]->aLp KX c Q ⟨T,ss⟩:=by
 intro a0 a1 X6 YE;revert X6 YE;refine Wf.partial_correctness a0 a1 _ ?_;intro Wf IH X6 YE out H c hc Q tt  hE hR T ss z0v0 tT hF;refine lpx tt hc rfl fun q hX=>go ?_;refine cdp H (fun h H=>?_) (fun h H=>?_)
 ·obtain ⟨x16,f1,H⟩:=bil (g:=cI) (fun _=>rfl) H;refine go1 ?_;refine go ?_;refine cdn H (fun h H=>?_) (fun h H=>?_)
  ·obtain ⟨x23,f1,H⟩:=bil (g:=cI) (fun _=>rfl) H;refine go1 ?_;refine apd (g:=cI) hF 0 H (rdo (c:=true) (g:=cI) (fun _=>rfl)) fun x26 H v1 ss2 hF=>?_;refine go ?_;exact IH  x26 (i64.wrap (YE+1)) _ H _ rfl Q tt  hE hR _ _ v1 S hF
  ·refine go ?_;exact IH  X6 (i64.wrap (YE+1)) _ H _ rfl Q tt  hE hR _ _ z0v0 S hF
 ·refine go ?_;exact wq (hE _ (pur H).symm _ _ z0v0 S hF)
theorem M8:∀(a0:List Int) (a1:Int) r,I6 a0 a1=some r->Vm KX 200 [sf cI a0,i6 a1] (sf cI r):=by
 intro a0 a1 r H;intro ss;unfold I6 at H;refine hdh mixed Tryz.func200 (rs:=[.tmp 4]) fun q tT hF hX=>?_;have hF:=hF.lit 3 1 (rws cI []) rfl;refine go ?_;obtain ⟨o3,ho3,H⟩:=bnd H;refine EZ a0 a1 [] 0 _ ho3 _ rfl _ _  ?_ ?_ _ _ (.sl true (rws cI [])) S hF
 ·intro Qjt he T5 ss6 e4v0 tT hF;have he:=he.symm;subst he;refine go ?_;have e:=pur H;subst e;exact rt _
 ·trivial
theorem FQ:∀(a0:List Int) (a1:Int) (X6:List Int) (YE:Bool) (Yo:Int) out,Jp a0 a1 X6 YE Yo=some out->∀c,Yh Tryz.f201 0=some c->∀(Q:QT) (tt:Sto),(∀(YS:List Int) (Qjr:Bool),out=(YS,Qjr)->∀(T:TT) (ss:Sto) (e0v0:AV),T 1=i6 a1/\T 5=e0v0/\T 6=.bool Qjr->Fx tt ss [] [⟨e0v0,3,1,rws cI YS⟩]->Q (.ex 0) ⟨T,ss⟩)->True->∀(T:TT) (ss:Sto) (z0v0:AV),T 0=sf cI a0/\T 1=i6 a1/\T 5=z0v0/\T 6=.bool YE/\T 7=i6 Yo->Fx tt ss [] [⟨z0v0,3,1,rws cI X6⟩]->aLp KX c Q ⟨T,ss⟩:=by
 intro a0 a1 X6 YE Yo;revert X6 YE Yo;refine Jp.partial_correctness a0 a1 _ ?_;intro Jp IH X6 YE Yo out H c hc Q tt  hE hR T ss z0v0 tT hF;refine lpx tt hc rfl fun q hX=>go ?_;refine cdp H (fun h H=>?_) (fun h H=>?_)
 ·refine go ?_;obtain ⟨x27,g1,H⟩:=bnd H;refine Ya 6 21 27 (.bool x27) (gi q (fun q=>?_) (fun q=>?_)) (fun J=>?_)
  ·rw [if_pos (dbt q)] at g1;obtain ⟨x23,f1,g1⟩:=bil (g:=cI) (fun _=>rfl) g1;refine go1 ?_;refine go ?_;exact Yt 21 g1
  ·rw [if_neg (dbf q)] at g1;refine go ?_;exact Yt 21 g1
  refine go ?_;obtain ⟨⟨As,Ul⟩,j4,H⟩:=bnd H;refine VG (fun s'=>∃(T:TT) (ss1:Sto) (y3v0:AV),s'=⟨T,ss1⟩/\(T 0=sf cI a0/\T 1=i6 a1/\T 5=y3v0/\T 6=.bool Ul/\T 7=i6 Yo)/\Fx tt ss1 [] [⟨y3v0,3,1,rws cI As⟩]) (cdb j4 (fun h j4=>?_) (fun h j4=>?_)) ?_
  ·refine go ?_;refine apd (g:=cI) hF 0 j4 (rdo (c:=true) (g:=cI) (fun _=>rfl)) fun x31 j4 v5 ss6 hF=>?_;refine go ?_;have e:=pur j4
   injection e with e0 e
   subst e0;subst e;exact ⟨_,_,v5,rfl,S,hF⟩
  ·refine go ?_;have e:=pur j4
   injection e with e0 e
   subst e0;subst e;exact ⟨_,_,z0v0,rfl,S,hF⟩
  ·rintro s' ⟨T7,s8,y3v0,rfl,tT,hF⟩;obtain ⟨x35,f1,H⟩:=bil (g:=cI) (fun _=>rfl) H;refine go1 ?_;refine apd (g:=cI) hF 0 H (rdo (c:=true) (g:=cI) (fun _=>rfl)) fun x38 H v10 s11 hF=>?_;refine go ?_;exact IH  x38 Ul (i64.wrap (Yo+1)) _ H _ rfl Q tt  hE hR _ _ v10 S hF
 ·refine go ?_;exact wq (hE _ _ (pur H).symm _ _ z0v0 S hF)
theorem Ow:∀(a0:List Int) (a1:Int) r,AD a0 a1=some r->Vm KX 201 [sf cI a0,i6 a1] (sf cI r):=by
 intro a0 a1 r H;intro ss;unfold AD at H;refine hdh mixed Tryz.func201 (rs:=[.tmp 4]) fun q tT hF hX=>?_;refine go ?_;refine bp H (G7 a0 a1) fun x11 h H=>cl h ?_;have hF:=hF.lit 3 1 (rws cI []) rfl;refine go ?_;obtain ⟨o12,ho12,H⟩:=bnd H;refine FQ a0 a1 [] x11 0 _ ho12 _ rfl _ _  ?_ ?_ _ _ (.sl true (rws cI [])) S hF
 ·intro NA Qfj he T14 s15 e13v0 tT hF;have he:=he.symm;subst he
  try dsimp only at H
  refine go ?_;refine cdb H (fun h H=>?_) (fun h H=>?_)
  ·refine go ?_;refine apd (g:=cI) hF 0 H (rdo (c:=true) (g:=cI) (fun _=>rfl)) fun x44 H v17 s18 hF=>?_;refine go ?_;have e:=pur H;subst e;exact rt _
  ·refine go ?_;have e:=pur H;subst e;exact rt _
 ·trivial
theorem Y7:∀(a0:Fm) (a1 a2:Int) r,YL a0 a1 a2=some r->Vm KX 182 [.agg (KW a0),i6 a1,i6 a2] (.agg (KW r)):=by
 intro a0 a1 a2;revert a0;refine YL.partial_correctness a1 a2 (motive_1:=fun a0 r=>Vm KX 182 [.agg (KW a0),i6 a1,i6 a2] (.agg (KW r))) (motive_2:=fun a0 Gr X6 YG out=>∀c,Yh Tryz.f182 0=some c->∀(Q:QT) (tt:Sto) (b1 b3 b5:Nat),(∀(YS:List Fm),out=YS->∀(T:TT) (ss:Sto) (e0v0:AV),T 6=.ptr b3 0/\T 7=.ptr b5 0->Fx tt ss [(b5,⟨26,5,[i6 a0.kind,.str a0.name,i6 a0.num,sf cI Gr,e0v0]⟩),(b3,⟨26,5,[i6 0,.str zB,i6 0,.Yb,.Yb]⟩),(b1,⟨26,5,[i6 a0.kind,.str a0.name,i6 a0.num,sf cI a0.sc,sf KW a0.kids]⟩)] [⟨e0v0,26,5,rws KW YS⟩]->Q (.ex 0) ⟨T,ss⟩)->True->∀(T:TT) (ss:Sto) (z0v0:AV),T 1=i6 a1/\T 2=i6 a2/\T 3=.ptr b1 0/\T 6=.ptr b3 0/\T 7=.ptr b5 0/\T 8=i6 YG->Fx tt ss [(b5,⟨26,5,[i6 a0.kind,.str a0.name,i6 a0.num,sf cI Gr,z0v0]⟩),(b3,⟨26,5,[i6 0,.str zB,i6 0,.Yb,.Yb]⟩),(b1,⟨26,5,[i6 a0.kind,.str a0.name,i6 a0.num,sf cI a0.sc,sf KW a0.kids]⟩)] [⟨z0v0,26,5,rws KW X6⟩]->aLp KX c Q ⟨T,ss⟩) ?_ ?_
 ·intro WC L0 a0 r H;intro ss;refine hdh mixed Tryz.func182 (rs:=[.cell 6 26]) fun q tT hF hX=>?_;refine go ?_;refine X8 hF rfl fun b1 ss2 hF=>?_;refine go ?_;refine X8 hF rfl fun b3 ss4 hF=>?_;refine go ?_;refine Yf E0 [.v,.v,.v,.v,.v,.v,.v,.v,.v,.v,.v,.x,.z] (by kernel_rfl) ?_;refine go ?_;obtain ⟨x18,hx18,H⟩:=bnd H;refine Mu (g:=cI) (xs:=[]) (ys:=a0.sc) (fun _=>rfl) (by decide) (by decide) (.inr (by first | rfl | simp only [Y8,Vu,cI,cU,cS,cL])) (.inr ⟨_,by first | rfl | simp only [Y8,Vu,cI,cU,cS,cL]⟩) hx18 ?_;refine go ?_;refine WH hF rfl fun b5 ss6 hF=>?_;refine go ?_;refine st hF 0 rfl fun s7 hF=>?_;refine go ?_;obtain ⟨Gr,j9,H⟩:=bnd H;refine VG (fun s'=>∃(T:TT) (ss1:Sto),s'=⟨T,ss1⟩/\(T 1=i6 a1/\T 2=i6 a2/\T 3=.ptr b1 0/\T 6=.ptr b3 0/\T 7=.ptr b5 0)/\Fx ss ss1 [(b5,⟨26,5,[i6 a0.kind,.str a0.name,i6 a0.num,sf cI Gr,.Yb]⟩),(b3,⟨26,5,[i6 0,.str zB,i6 0,.Yb,.Yb]⟩),(b1,⟨26,5,[i6 a0.kind,.str a0.name,i6 a0.num,sf cI a0.sc,sf KW a0.kids]⟩)] []) (cdp j9 (fun h j9=>?_) (fun h j9=>?_)) ?_
  ·refine go ?_;obtain ⟨x34,g10,j9⟩:=bnd j9;refine Ya 8 26 34 (.bool x34) (giN q (fun q=>?_) (fun q=>?_)) (fun J=>?_)
   ·rw [if_neg (df q)] at g10;refine go ?_;obtain ⟨x33,g12,g10⟩:=bnd g10;refine Ya 4 29 33 (.bool x33) (gi q (fun q=>?_) (fun q=>?_)) (fun J=>?_)
    ·rw [if_pos (dt q)] at g12;refine go ?_;obtain ⟨x32,hx32,g12⟩:=bnd g12;refine cl (G7 a0.sc a1 _ hx32) ?_;refine go ?_;exact Yt 29 g12
    ·rw [if_neg (df q)] at g12;refine go ?_;exact Yt 29 g12
    refine go ?_;exact Yt 26 g10
   ·rw [if_pos (dt q)] at g10;refine go ?_;exact Yt 26 g10
   refine go ?_;refine cdb j9 (fun h j9=>?_) (fun h j9=>?_)
   ·refine go ?_;obtain ⟨x38,hx38,j9⟩:=bnd j9;refine cl (M8 a0.sc a1 _ hx38) ?_;refine go ?_;refine st hF 0 rfl fun s14 hF=>?_;refine go ?_;have e:=pur j9;subst e;exact ⟨_,_,rfl,S,hF⟩
   ·refine go ?_;obtain ⟨x43,hx43,j9⟩:=bnd j9;refine cl (Ow a0.sc a1 _ hx43) ?_;refine go ?_;refine st hF 0 rfl fun s15 hF=>?_;refine go ?_;have e:=pur j9;subst e;exact ⟨_,_,rfl,S,hF⟩
  ·refine go ?_;have e:=pur j9;subst e;exact ⟨_,_,rfl,S,hF⟩
  ·rintro s' ⟨T16,s17,rfl,tT,hF⟩;have hF:=hF.nil 26 5;refine go ?_;obtain ⟨o22,ho22,H⟩:=bnd H;refine L0 a0 Gr [] 0 _ ho22 _ rfl _ _ b1 b3 b5 ?_ ?_ _ _ .Yb S hF
   ·intro Ph he T24 s25 e23v0 tT hF;have he:=he.symm;subst he;refine go ?_;refine st hF 1 rfl fun s27 hF=>?_;refine go ?_;have e:=pur H;subst e;exact rt _
   ·trivial
 ·intro YL WC C0 L0 a0 Gr X6 YG out H c hc Q tt b1 b3 b5 hE hR T ss z0v0 tT hF;refine lpx tt hc rfl fun q hX=>go ?_;refine cdp H (fun h H=>?_) (fun h H=>?_)
  ·refine go ?_;refine Yf E0 [.v,.v,.v,.v,.v,.v,.v,.v,.v,.v,.v,.x,.v,.z] (by kernel_rfl) ?_;obtain ⟨x57,f1,H⟩:=bil (g:=KW) Fm.X5 H;refine go1 ?_;refine bp H (C0 x57) fun x61 h H=>cv h ?_;refine go ?_;refine PT (g:=KW) hF 0 H (rdo (c:=true) (g:=KW) Fm.X5) fun x63 H v19 s20 hF=>?_;refine go ?_;refine st hF 0 (hF.cells 0 rfl) fun s21 hF=>?_;refine go ?_;exact L0 a0 Gr x63 (i64.wrap (YG+1)) _ H _ rfl Q tt b1 b3 b5 hE hR _ _ v19 S hF
  ·refine go ?_;exact wq (hE _ (pur H).symm _ _ z0v0 S hF)
theorem EU:∀(a0 a1:List Int) (Yd:Int) out,WQ a0 a1 Yd=some out->∀c,Yh Tryz.f124 0=some c->∀(Q:QT) (tt:Sto),(∀(_u:Unit),out=Sum.inr ()->∀(T:TT) (ss:Sto),0+0=0->Fx tt ss [] []->Q (.ex 0) ⟨T,ss⟩)->(∀r,out=Sum.inl r->∀s',IE KX [.tmp 4] (fun r' ss'=>r'=.bool r/\ss'=tt) s'->Q .ret s')->∀(T:TT) (ss:Sto),T 0=sf cI a0/\T 1=sf cI a1/\T 5=i6 Yd->Fx tt ss [] []->aLp KX c Q ⟨T,ss⟩:=by
 intro a0 a1 Yd;revert Yd;refine WQ.partial_correctness a0 a1 _ ?_;intro WQ IH Yd out H c hc Q tt  hE hR T ss tT hF;refine lpx tt hc rfl fun q hX=>go ?_;refine cdp H (fun h H=>?_) (fun h H=>?_)
 ·refine go ?_;refine Yf E0 [.v,.v,.v,.v,.v,.v,.v,.v,.v] (by kernel_rfl) ?_;obtain ⟨x19,f1,H⟩:=bil (g:=cI) (fun _=>rfl) H;obtain ⟨x23,f2,H⟩:=bil (g:=cI) (fun _=>rfl) H;refine go2 ?_;refine go ?_;refine cdn H (fun h H=>?_) (fun h H=>?_)
  ·refine go ?_;exact wq (hR _ (pur H).symm _ (rt _))
  ·refine go ?_;exact IH  (i64.wrap (Yd+1)) _ H _ rfl Q tt  hE hR _ _  S hF
 ·refine go ?_;exact wq (hE () (pur H).symm _ _  S hF)
theorem Du:∀(a0 a1:List Int) r,I5 a0 a1=some r->Vm KX 124 [sf cI a0,sf cI a1] (.bool r):=by
 intro a0 a1 r H;intro ss;unfold I5 at H;refine hdh mixed Tryz.func124 (rs:=[.tmp 4]) fun q tT hF hX=>?_;refine go ?_;refine cdn H (fun h H=>?_) (fun h H=>?_)
 ·refine go ?_;have e:=pur H;subst e;exact rt _
 ·refine go ?_;obtain ⟨o1,ho1,H⟩:=bnd H;refine EU a0 a1 0 _ ho1 _ rfl _ _  ?_ ?_ _ _  S hF
  ·intro _ he T3 ss4 tT hF;have he:=he.symm;subst he
   try dsimp only at H
   refine go ?_;have e:=pur H;subst e;exact rt _
  ·intro r hr s' hs;subst hr;have e:=pur H;subst e;exact hsq hs
theorem CK:∀(a0:List Bnd) (YB MK:Int) out,VI a0 YB MK=some out->∀c,Yh Tryz.f84 1=some c->∀(Q:QT) (tt:Sto),(∀(_u:Unit),out=Sum.inr ()->∀(T:TT) (ss:Sto),T 0=sf KY a0/\T 3=i6 YB->Fx tt ss [] []->Q (.ex 2) ⟨T,ss⟩)->(∀r,out=Sum.inl r->∀s',IE KX [.tmp 2] (fun r' ss'=>r'=.bool r/\ss'=tt) s'->Q .ret s')->∀(T:TT) (ss:Sto),T 0=sf KY a0/\T 3=i6 YB/\T 4=i6 MK->Fx tt ss [] []->aLp KX c Q ⟨T,ss⟩:=by
 intro a0 YB MK;revert MK;refine VI.partial_correctness a0 YB _ ?_;intro VI IH MK out H c hc Q tt  hE hR T ss tT hF;refine lpx tt hc rfl fun q hX=>go ?_;refine cdp H (fun h H=>?_) (fun h H=>?_)
 ·refine go ?_;refine Yf E0 [.v,.v,.v,.v,.v,.v,.v,.v,.v,.v,.v,.v,.v,.v,.v,.v,.v,.v,.v,.v,.v,.v,.v,.v] (by kernel_rfl) ?_;obtain ⟨x54,f1,H⟩:=bil (g:=KY) Bnd.X5 H;obtain ⟨x59,f2,H⟩:=bil (g:=KY) Bnd.X5 H;refine go2 ?_;obtain ⟨x75,g9,H⟩:=bnd H;refine Jb 11 64 75 (.bool x75) (ti q (fun q=>?_) (fun q=>?_)) (fun J=>?_)
  ·rw [if_pos (dt q)] at g9;obtain ⟨x66,f1,g9⟩:=bil (g:=KY) Bnd.X5 g9;obtain ⟨x71,f2,g9⟩:=bil (g:=KY) Bnd.X5 g9;refine go2 ?_;obtain ⟨x74,hx74,g9⟩:=bnd g9;refine cv (Du x66.sc x71.sc _ hx74) ?_;refine go ?_;exact Yt 64 g9
  ·rw [if_neg (df q)] at g9;refine go ?_;exact Yt 64 g9
  refine go ?_;refine cdb H (fun h H=>?_) (fun h H=>?_)
  ·refine go ?_;exact wq (hR _ (pur H).symm _ (rt _))
  ·refine go ?_;exact IH  (i64.wrap (MK+1)) _ H _ rfl Q tt  hE hR _ _  S hF
 ·refine go ?_;exact wq (hE () (pur H).symm _ _  S hF)
theorem CJ:∀(a0:List Bnd) (YB:Int) out,VH a0 YB=some out->∀c,Yh Tryz.f84 0=some c->∀(Q:QT) (tt:Sto),(∀(_u:Unit),out=Sum.inr ()->∀(T:TT) (ss:Sto),T 0=sf KY a0->Fx tt ss [] []->Q (.ex 0) ⟨T,ss⟩)->(∀r,out=Sum.inl r->∀s',IE KX [.tmp 2] (fun r' ss'=>r'=.bool r/\ss'=tt) s'->Q .ret s')->∀(T:TT) (ss:Sto),T 0=sf KY a0/\T 3=i6 YB->Fx tt ss [] []->aLp KX c Q ⟨T,ss⟩:=by
 intro a0 YB;revert YB;refine VH.partial_correctness a0 _ ?_;intro VH IH YB out H c hc Q tt  hE hR T ss tT hF;refine lpx tt hc rfl fun q hX=>go ?_;obtain ⟨x12,g1,H⟩:=bnd H;refine Ya 2 10 12 (.bool x12) (gi q (fun q=>?_) (fun q=>?_)) (fun J=>?_)
 ·refine go ?_;exact Yt 10 g1
 ·refine go ?_;exact Yt 10 g1
 refine go ?_;refine cdb H (fun h H=>?_) (fun h H=>?_)
 ·obtain ⟨x17,f1,H⟩:=bil (g:=KY) Bnd.X5 H;refine go1 ?_;refine bp H (I2 x17.name) fun x20 h H=>cl h ?_;refine go ?_;obtain ⟨x30,g3,H⟩:=bnd H;refine Ya 7 23 30 (.bool x30) (giN q (fun q=>?_) (fun q=>?_)) (fun J=>?_)
  ·rw [if_neg (dbf q)] at g3;obtain ⟨x25,f1,g3⟩:=bil (g:=KY) Bnd.X5 g3;refine go1 ?_;obtain ⟨x28,hx28,g3⟩:=bnd g3;refine cl (Cm x25.sc _ hx28) ?_;refine go ?_;exact Yt 23 g3
  ·rw [if_pos (dbt q)] at g3;refine go ?_;exact Yt 23 g3
  refine go ?_;obtain ⟨x38,g5,H⟩:=bnd H;refine Ya 6 32 38 (.bool x38) (giN q (fun q=>?_) (fun q=>?_)) (fun J=>?_)
  ·rw [if_neg (dbf q)] at g5;obtain ⟨x34,f1,g5⟩:=bil (g:=KY) Bnd.X5 g5;refine go1 ?_;refine go ?_;exact Yt 32 g5
  ·rw [if_pos (dbt q)] at g5;refine go ?_;exact Yt 32 g5
  refine go ?_;obtain ⟨x46,g7,H⟩:=bnd H;refine Ya 6 40 46 (.bool x46) (giN q (fun q=>?_) (fun q=>?_)) (fun J=>?_)
  ·rw [if_neg (dbf q)] at g7;obtain ⟨x42,f1,g7⟩:=bil (g:=KY) Bnd.X5 g7;refine go1 ?_;refine go ?_;exact Yt 40 g7
  ·rw [if_pos (dbt q)] at g7;refine go ?_;exact Yt 40 g7
  refine go ?_;refine cdb H (fun h H=>?_) (fun h H=>?_)
  ·refine go ?_;exact wq (hR _ (pur H).symm _ (rt _))
  ·refine go ?_;obtain ⟨o11,ho11,H⟩:=bnd H;refine CK a0 YB 0 _ ho11 _ rfl _ _  ?_ ?_ _ _  S hF
   ·intro _ he T13 s14 tT hF;have he:=he.symm;subst he
    try dsimp only at H
    refine go ?_;exact IH  (i64.wrap (YB+1)) _ H _ rfl Q tt  hE hR _ _  S hF
   ·intro r hr s' hs;subst hr;exact wq (hR _ (pur H).symm _ hs)
 ·refine go ?_;exact wq (hE () (pur H).symm _ _  S hF)
theorem IT:∀(a0:List Bnd) r,JQ a0=some r->Vm KX 84 [sf KY a0] (.bool r):=by
 intro a0 r H;intro ss;unfold JQ at H;refine hdh mixed Tryz.func84 (rs:=[.tmp 2]) fun q tT hF hX=>?_;refine go ?_;obtain ⟨o16,ho16,H⟩:=bnd H;refine CJ a0 0 _ ho16 _ rfl _ _  ?_ ?_ _ _  S hF
 ·intro _ he T18 s19 tT hF;have he:=he.symm;subst he
  try dsimp only at H
  refine go ?_;have e:=pur H;subst e;exact rt _
 ·intro r hr s' hs;subst hr;have e:=pur H;subst e;exact hsq hs
theorem Fz:∀(a0:Fm) r,BU a0=some r->Vm KX 50 [.agg (KW a0)] (.bool r):=by
 intro a0 r H;intro ss;unfold BU at H;refine hdh mixed Tryz.func50 (rs:=[.tmp 2]) fun q tT hF hX=>?_;refine go ?_;refine X8 hF rfl fun b1 ss2 hF=>?_;refine go ?_;obtain ⟨x9,g3,H⟩:=bnd H;refine Ya 2 7 9 (.bool x9) (gi q (fun q=>?_) (fun q=>?_)) (fun J=>?_)
 ·rw [if_pos (dt q)] at g3;refine go ?_;obtain ⟨x8,hx8,g3⟩:=bnd g3;refine cl (Yz a0 _ hx8) ?_;refine go ?_;exact Yt 7 g3
 ·rw [if_neg (df q)] at g3;refine go ?_;exact Yt 7 g3
 refine go ?_;have e:=pur H;subst e;exact rt _
theorem Dl:∀(a0 X6:List Bnd) (YD:Int) out,VF a0 X6 YD=some out->∀c,Yh Tryz.f113 0=some c->∀(Q:QT) (tt0:Sto),(∀(YS:List Bnd),out=YS->∀(T:TT) (ss tt:Sto) (e0v0:AV),T 3=e0v0->Tau tt0 [] tt->Fx tt ss [] [⟨e0v0,75,3,rws KY YS⟩]->Q (.ex 0) ⟨T,ss⟩)->True->∀(T:TT) (ss tt:Sto) (z0v0:AV),T 0=sf KY a0/\T 3=z0v0/\T 4=i6 YD->Tau tt0 [] tt->Fx tt ss [] [⟨z0v0,75,3,rws KY X6⟩]->aLp KX c Q ⟨T,ss⟩:=by
 intro a0 X6 YD;revert X6 YD;refine VF.partial_correctness a0 _ ?_;intro VF IH X6 YD out H c hc Q tt0  hE hR T ss tt z0v0 tT hX hF;refine lpy hc rfl fun q=>go ?_;refine cdp H (fun h H=>?_) (fun h H=>?_)
 ·obtain ⟨x15,f1,H⟩:=bil (g:=KY) Bnd.X5 H;refine go1 ?_;refine X8 hF rfl fun b1 ss2 hF=>?_;refine go ?_;refine st hF 0 rfl fun ss3 hF=>?_;refine go ?_;refine apv (g:=cI) H (fun _=>rfl) (rdo (c:=false) (g:=cI) (fun _=>rfl)) fun x20 H=>?_;refine go ?_;refine st hF 0 rfl fun ss4 hF=>?_;refine go ?_;refine apd (g:=KY) hF 0 H (rdo (c:=true) (g:=KY) Bnd.X5) fun x25 H v5 ss6 hF=>?_;refine go ?_;exact IH  x25 (i64.wrap (YD+1)) _ H _ rfl Q tt0  hE hR _ _ _ v5 S hX (hF.drop 1 0)
 ·refine go ?_;exact wq (hE _ (pur H).symm _ _ _ z0v0 S hX hF)
theorem E1:∀(a0:List Bnd) r,Ie a0=some r->∀   (ss:Sto),Pre ss [] []->Ctr KX 113 [sf KY a0] ss (fun r' ss'=>∃(tt':Sto) (w0:AV),r'=w0/\Tau (strip ss []) [] tt'/\Fx tt' ss' [] [⟨w0,75,3,rws KY r⟩]):=by
 intro a0 r H;intro   ss hP;unfold Ie at H;refine hdg mixed Tryz.func113 (rs:=[.tmp 2]) fun q tT=>?_;obtain ⟨hF,hX⟩:=hP.start;generalize strip ss []=tt0 at hF hX ⊢;have hF:=hF.lit 75 3 (rws KY []) rfl;refine go ?_;obtain ⟨o7,ho7,H⟩:=bnd H;refine Dl a0 [] 0 _ ho7 _ rfl _ tt0  ?_ ?_ _ _ _ (.sl true (rws KY [])) S hX hF
 ·intro Qa4 he T9 s10 t11 e8v0 tT hX hF;have he:=he.symm;subst he;refine go ?_;have e:=pur H;subst e;exact rg _ ⟨_,_,rfl,hX,hF.pick [] [0] (by decide) (by decide)⟩
 ·trivial
theorem L7:∀(a0:List Bnd) (a1:Fm) (a2:Int) r,Aj a0 a1 a2=some r->Vm KX 209 [sf KY a0,.agg (KW a1),i6 a2] (.tup [sf KY r.1,.bool r.2]):=by
 intro a0 a1 a2 r H;intro ss;unfold Aj at H;refine hdh mixed Tryz.func209 (rs:=[.tmp 6,.tmp 7]) fun q tT hF hX=>?_;refine go ?_;refine X8 hF rfl fun b1 ss2 hF=>?_;refine go ?_;refine bp H (IT a0) fun x10 h H=>cl h ?_;refine go ?_;obtain ⟨x16,g3,H⟩:=bnd H;refine Ya 3 13 16 (.bool x16) (giN q (fun q=>?_) (fun q=>?_)) (fun J=>?_)
 ·rw [if_neg (dbf q)] at g3;refine go ?_;obtain ⟨x14,hx14,g3⟩:=bnd g3;refine cl (Fz a1 _ hx14) ?_;refine go ?_;exact Yt 13 g3
 ·rw [if_pos (dbt q)] at g3;refine go ?_;exact Yt 13 g3
 refine go ?_;refine cdb H (fun h H=>?_) (fun h H=>?_)
 ·refine go ?_;have e:=pur H;subst e;exact rt _
 ·refine go ?_;obtain ⟨E,hEq⟩:∃E,E=EE ss2 []:=⟨_,rfl⟩
  have n5:¬E b1:=by rw [hEq];exact K3 (hF.at 0 rfl) (by simp)
  refine Le E [.v,.v,.v,.v,.v,.v,.v,.x,.v,.v,.v,.x,.v] [0,2,3,4,5,6,8,1,7,9,10,11,12] (by kernel_rfl) ?_;have z:=X4 (hF.at 0 rfl) n5;refine gh ?_;obtain ⟨x19,hx19,H⟩:=bnd H;refine cx (E1 a0 _ hx19   _ (pre 0 0 0 hF hX)) ?_;rintro v6 s7 ⟨t8,_,rfl,hT,hG⟩
  refine V0 (K8 hT hG (by intro p hp;simp only [Kj,KD,or_false] at hp<;>first | (rcases hp with rfl<;>(rw [hEq];first | (refine Zc ?_;simp;done) | exact Zp rfl))| cases hp)) fun kp10=>?_
  have hF:=DC 0 0 hF hX hT hG;have z:=X4 (hF.at 0 rfl) n5;refine gh ?_;obtain ⟨x25,hx25,H⟩:=bnd H;refine Mu (g:=cI) (xs:=[]) (ys:=a1.sc) (fun _=>rfl) (by decide) (by decide) (.inr (by first | rfl | simp only [Y8,Vu,cI,cU,cS,cL])) (.inr ⟨_,by first | rfl | simp only [Y8,Vu,cI,cU,cS,cL]⟩) hx25 ?_;have z:=X4 (hF.at 0 rfl) n5;refine gh ?_;refine PT (g:=KY) hF 0 H (rdo (c:=true) (g:=KY) Bnd.X5) fun x29 H v11 s12 hF=>?_;have z:=X4 (hF.at 0 rfl) n5;refine gh ?_;refine go ?_;obtain ⟨x31,hx31,H⟩:=bnd H;refine BJ (IT x29 _ hx31) .bool (.cons ((hF.wk 0 rfl).trans (Wk.sub (Sub.zero _) _)) (fun _=>rfl) .nil) ?_;refine go ?_;refine cdb H (fun h H=>?_) (fun h H=>?_)
  ·refine go ?_;have e:=pur H;subst e;exact rt _
  ·refine go ?_;have e:=pur H;subst e;exact rt _
theorem Dy:∀(a0:Xpn) (a1:Fm) r,HK a0 a1=some r->Vm KX 199 [.agg (K5 a0),.agg (KW a1)] (.tup [.agg (K5 r.1),i6 r.2]):=by
 intro a0 a1 r H;intro ss;unfold HK at H;refine hdh mixed Tryz.func199 (rs:=[.cell 4 42,.tmp 5]) fun q tT hF hX=>?_;refine go ?_;refine X8 hF rfl fun b1 ss2 hF=>?_;refine go ?_;refine X8 hF rfl fun b3 ss4 hF=>?_;refine go ?_;refine X8 hF rfl fun b5 ss6 hF=>?_;refine go ?_;refine cdp H (fun h H=>?_) (fun h H=>?_)
 ·refine go ?_;refine st hF 0 rfl fun s7 hF=>?_;refine go ?_;have e:=pur H;subst e;exact rt _
 ·refine go ?_;obtain ⟨x20,hx20,H⟩:=bnd H;refine cl (L7 a0.binds a1 (i64.wrap (a0.id+1)) _ hx20) ?_;refine go ?_;refine cdb H (fun h H=>?_) (fun h H=>?_)
  ·refine go ?_;refine st hF 0 rfl fun s8 hF=>?_;refine go ?_;have e:=pur H;subst e;exact rt _
  ·refine go ?_;refine st hF 2 rfl fun s9 hF=>?_;refine go ?_;refine st hF 2 rfl fun s10 hF=>?_;refine go ?_;refine st hF 0 rfl fun s11 hF=>?_;refine go ?_;have e:=pur H;subst e;exact rt _
theorem Er:∀(a0:Fm) (X6 Iw:List Fm) (Yo:Int) out,Wv a0 X6 Iw Yo=some out->∀c,Yh Tryz.f180 0=some c->∀(Q:QT) (tt:Sto) (b1:Nat),(∀(YS Qax:List Fm),out=Sum.inr (YS,Qax)->∀(T:TT) (ss:Sto) (e0v0 e0v1:AV),T 1=.ptr b1 0/\T 5=e0v0/\T 6=e0v1->Fx tt ss [(b1,⟨26,5,[i6 a0.kind,.str a0.name,i6 a0.num,sf cI a0.sc,sf KW a0.kids]⟩)] [⟨e0v1,26,5,rws KW Qax⟩,⟨e0v0,26,5,rws KW YS⟩]->Q (.ex 0) ⟨T,ss⟩)->(∀r,out=Sum.inl r->∀s',IE KX [.tmp 2,.tmp 3,.tmp 4] (fun r' ss'=>r'=.tup [sf KW r.1,sf KW r.2.1,.bool r.2.2]/\ss'=tt) s'->Q .ret s')->∀(T:TT) (ss:Sto) (z0v0 z0v1:AV),T 1=.ptr b1 0/\T 5=z0v0/\T 6=z0v1/\T 7=i6 Yo->Fx tt ss [(b1,⟨26,5,[i6 a0.kind,.str a0.name,i6 a0.num,sf cI a0.sc,sf KW a0.kids]⟩)] [⟨z0v1,26,5,rws KW Iw⟩,⟨z0v0,26,5,rws KW X6⟩]->aLp KX c Q ⟨T,ss⟩:=by
 intro a0 X6 Iw Yo;revert X6 Iw Yo;refine Wv.partial_correctness a0 _ ?_;intro Wv IH X6 Iw Yo out H c hc Q tt b1 hE hR T ss z0v0 z0v1 tT hF;refine lpx tt hc rfl fun q hX=>go ?_;refine cdp H (fun h H=>?_) (fun h H=>?_)
 ·obtain ⟨x20,f1,H⟩:=bil (g:=KW) Fm.X5 H;refine go1 ?_;obtain ⟨x33,g3,H⟩:=bnd H;refine Ya 8 25 33 (.bool x33) (giN q (fun q=>?_) (fun q=>?_)) (fun J=>?_)
  ·rw [if_pos (dnf q)] at g3;obtain ⟨x28,f1,g3⟩:=bil (g:=KW) Fm.X5 g3;refine go1 ?_;refine go ?_;exact Yt 25 g3
  ·rw [if_neg (dnt q)] at g3;refine go ?_;exact Yt 25 g3
  refine go ?_;refine cdb H (fun h H=>?_) (fun h H=>?_)
  ·refine go ?_;exact wq (hR _ (pur H).symm _ (rt _))
  ·obtain ⟨x40,f1,H⟩:=bil (g:=KW) Fm.X5 H;obtain ⟨x43,f2,H⟩:=bil (g:=KW) Fm.X5 H;refine go2 ?_;refine apd (g:=KW) hF 1 H (rdo (c:=true) (g:=KW) Fm.X5) fun x46 H v5 ss6 hF=>?_;obtain ⟨x51,f1,H⟩:=bil (g:=KW) Fm.X5 H;obtain ⟨x54,f2,H⟩:=bil (g:=KW) Fm.X5 H;refine go2 ?_;refine apd (g:=KW) hF 0 H (rdo (c:=true) (g:=KW) Fm.X5) fun x57 H v7 s8 hF=>?_;refine go ?_;exact IH  x46 x57 (i64.wrap (Yo+1)) _ H _ rfl Q tt b1 hE hR _ _ v5 v7 S hF
 ·refine go ?_;exact wq (hE _ _ (pur H).symm _ _ z0v0 z0v1 S hF)
theorem HM:∀(a0:Fm) r,Gg a0=some r->Vm KX 180 [.agg (KW a0)] (.tup [sf KW r.1,sf KW r.2.1,.bool r.2.2]):=by
 intro a0 r H;intro ss;unfold Gg at H;refine hdh mixed Tryz.func180 (rs:=[.tmp 2,.tmp 3,.tmp 4]) fun q tT hF hX=>?_;refine go ?_;refine X8 hF rfl fun b1 ss2 hF=>?_;have hF:=hF.lit 26 5 (rws KW []) rfl;have hF:=hF.lit 26 5 (rws KW []) rfl;refine go ?_;obtain ⟨o9,ho9,H⟩:=bnd H;refine Er a0 [] [] 0 _ ho9 _ rfl _ _ b1 ?_ ?_ _ _ (.sl true (rws KW [])) (.sl true (rws KW [])) S hF
 ·intro O6 Qfh he T11 s12 e10v0 e10v1 tT hF;have he:=he.symm;subst he
  try dsimp only at H
  refine go ?_;refine Yf E0 [.v,.v,.v,.v,.v,.v,.v,.v] (by kernel_rfl) ?_;refine go ?_;have e:=pur H;subst e;exact rt _
 ·intro r hr s' hs;subst hr;have e:=pur H;subst e;exact hsq hs
theorem J2:∀(a0 a1:Fm) r,Y9 a0 a1=some r->Vm KX 95 [.agg (KW a0),.agg (KW a1)] (.bool r):=by
 refine Y9.partial_correctness _ (motive_2:=fun a0 a1 Yd out=>∀c,Yh Tryz.f95 0=some c->∀(Q:QT) (tt:Sto) (b1 b3:Nat),(∀(_u:Unit),out=Sum.inr ()->∀(T:TT) (ss:Sto),0+0=0->Fx tt ss [(b3,⟨26,5,[i6 a1.kind,.str a1.name,i6 a1.num,sf cI a1.sc,sf KW a1.kids]⟩),(b1,⟨26,5,[i6 a0.kind,.str a0.name,i6 a0.num,sf cI a0.sc,sf KW a0.kids]⟩)] []->Q (.ex 0) ⟨T,ss⟩)->(∀r,out=Sum.inl r->∀s',IE KX [.tmp 4] (fun r' ss'=>r'=.bool r/\ss'=tt) s'->Q .ret s')->∀(T:TT) (ss:Sto),T 2=.ptr b1 0/\T 3=.ptr b3 0/\T 5=i6 Yd->Fx tt ss [(b3,⟨26,5,[i6 a1.kind,.str a1.name,i6 a1.num,sf cI a1.sc,sf KW a1.kids]⟩),(b1,⟨26,5,[i6 a0.kind,.str a0.name,i6 a0.num,sf cI a0.sc,sf KW a0.kids]⟩)] []->aLp KX c Q ⟨T,ss⟩) ?_ ?_
 ·intro WB L0 a0 a1 r H;intro ss;refine hdh mixed Tryz.func95 (rs:=[.tmp 4]) fun q tT hF hX=>?_;refine go ?_;refine X8 hF rfl fun b1 ss2 hF=>?_;refine go ?_;refine X8 hF rfl fun b3 ss4 hF=>?_;refine go ?_;obtain ⟨x17,g5,H⟩:=bnd H;refine Ya 5 12 17 (.bool x17) (giN q (fun q=>?_) (fun q=>?_)) (fun J=>?_)
  ·refine go ?_;exact Yt 12 g5
  ·refine go ?_;exact Yt 12 g5
  refine go ?_;obtain ⟨x24,g7,H⟩:=bnd H;refine Ya 5 19 24 (.bool x24) (giN q (fun q=>?_) (fun q=>?_)) (fun J=>?_)
  ·refine go ?_;exact Yt 19 g7
  ·refine go ?_;exact Yt 19 g7
  refine go ?_;obtain ⟨x32,g9,H⟩:=bnd H;refine Ya 6 26 32 (.bool x32) (giN q (fun q=>?_) (fun q=>?_)) (fun J=>?_)
  ·rw [if_neg (dbf q)] at g9;refine go ?_;obtain ⟨x30,hx30,g9⟩:=bnd g9;refine cl (Du a0.sc a1.sc _ hx30) ?_;refine go ?_;exact Yt 26 g9
  ·rw [if_pos (dbt q)] at g9;refine go ?_;exact Yt 26 g9
  refine go ?_;obtain ⟨x41,g11,H⟩:=bnd H;refine Ya 7 34 41 (.bool x41) (giN q (fun q=>?_) (fun q=>?_)) (fun J=>?_)
  ·refine go ?_;exact Yt 34 g11
  ·refine go ?_;exact Yt 34 g11
  refine go ?_;refine cdb H (fun h H=>?_) (fun h H=>?_)
  ·refine go ?_;have e:=pur H;subst e;exact rt _
  ·refine go ?_;obtain ⟨o13,ho13,H⟩:=bnd H;refine L0 a0 a1 0 _ ho13 _ rfl _ _ b1 b3 ?_ ?_ _ _  S hF
   ·intro _ he T15 s16 tT hF;have he:=he.symm;subst he
    try dsimp only at H
    refine go ?_;have e:=pur H;subst e;exact rt _
   ·intro r hr s' hs;subst hr;have e:=pur H;subst e;exact hsq hs
 ·intro Y9 WB C0 L0 a0 a1 Yd out H c hc Q tt b1 b3 hE hR T ss tT hF;refine lpx tt hc rfl fun q hX=>go ?_;refine cdp H (fun h H=>?_) (fun h H=>?_)
  ·refine go ?_;refine Yf E0 [.v,.v,.v,.v,.v,.v,.v,.v,.v,.v,.v,.v] (by kernel_rfl) ?_;obtain ⟨x52,f1,H⟩:=bil (g:=KW) Fm.X5 H;obtain ⟨x57,f2,H⟩:=bil (g:=KW) Fm.X5 H;refine go2 ?_;refine bp H (C0 x52 x57) fun x59 h H=>cv h ?_;refine go ?_;refine cdb H (fun h H=>?_) (fun h H=>?_)
   ·refine go ?_;exact wq (hR _ (pur H).symm _ (rt _))
   ·refine go ?_;exact L0 a0 a1 (i64.wrap (Yd+1)) _ H _ rfl Q tt b1 b3 hE hR _ _  S hF
  ·refine go ?_;exact wq (hE () (pur H).symm _ _  S hF)
theorem Mc:∀(a0:List Fm) (a1:Fm) (Yd:Int) out,J9 a0 a1 Yd=some out->∀c,Yh Tryz.f66 0=some c->∀(Q:QT) (tt:Sto) (b1:Nat),(∀(_u:Unit),out=Sum.inr ()->∀(T:TT) (ss:Sto),0+0=0->Fx tt ss [(b1,⟨26,5,[i6 a1.kind,.str a1.name,i6 a1.num,sf cI a1.sc,sf KW a1.kids]⟩)] []->Q (.ex 0) ⟨T,ss⟩)->(∀r,out=Sum.inl r->∀s',IE KX [.tmp 4] (fun r' ss'=>r'=.bool r/\ss'=tt) s'->Q .ret s')->∀(T:TT) (ss:Sto),T 0=sf KW a0/\T 3=.ptr b1 0/\T 5=i6 Yd->Fx tt ss [(b1,⟨26,5,[i6 a1.kind,.str a1.name,i6 a1.num,sf cI a1.sc,sf KW a1.kids]⟩)] []->aLp KX c Q ⟨T,ss⟩:=by
 intro a0 a1 Yd;revert Yd;refine J9.partial_correctness a0 a1 _ ?_;intro J9 IH Yd out H c hc Q tt b1 hE hR T ss tT hF;refine lpx tt hc rfl fun q hX=>go ?_;refine cdp H (fun h H=>?_) (fun h H=>?_)
 ·refine go ?_;refine Yf E0 [.v,.v,.v,.v,.v,.v] (by kernel_rfl) ?_;obtain ⟨x14,f1,H⟩:=bil (g:=KW) Fm.X5 H;refine go1 ?_;refine bp H (J2 x14 a1) fun x17 h H=>cv h ?_;refine go ?_;refine cdb H (fun h H=>?_) (fun h H=>?_)
  ·refine go ?_;exact wq (hR _ (pur H).symm _ (rt _))
  ·refine go ?_;exact IH  (i64.wrap (Yd+1)) _ H _ rfl Q tt b1 hE hR _ _  S hF
 ·refine go ?_;exact wq (hE () (pur H).symm _ _  S hF)
theorem Iz:∀(a0:List Fm) (a1:Fm) r,HI a0 a1=some r->Vm KX 66 [sf KW a0,.agg (KW a1)] (.bool r):=by
 intro a0 a1 r H;intro ss;unfold HI at H;refine hdh mixed Tryz.func66 (rs:=[.tmp 4]) fun q tT hF hX=>?_;refine go ?_;refine X8 hF rfl fun b1 ss2 hF=>?_;refine go ?_;obtain ⟨o3,ho3,H⟩:=bnd H;refine Mc a0 a1 0 _ ho3 _ rfl _ _ b1 ?_ ?_ _ _  S hF
 ·intro _ he T5 ss6 tT hF;have he:=he.symm;subst he
  try dsimp only at H
  refine go ?_;have e:=pur H;subst e;exact rt _
 ·intro r hr s' hs;subst hr;have e:=pur H;subst e;exact hsq hs
theorem CQ:∀(a0:List Fm) (YB:Int) out,VN a0 YB=some out->∀c,Yh Tryz.f126 0=some c->∀(Q:QT) (tt:Sto),(∀(_u:Unit),out=Sum.inr ()->∀(T:TT) (ss:Sto),T 0=sf KW a0->Fx tt ss [] []->Q (.ex 0) ⟨T,ss⟩)->(∀r,out=Sum.inl r->∀s',IE KX [.tmp 2] (fun r' ss'=>r'=.bool r/\ss'=tt) s'->Q .ret s')->∀(T:TT) (ss:Sto),T 0=sf KW a0/\T 3=i6 YB->Fx tt ss [] []->aLp KX c Q ⟨T,ss⟩:=by
 intro a0 YB;revert YB;refine VN.partial_correctness a0 _ ?_;intro VN IH YB out H c hc Q tt  hE hR T ss tT hF;refine lpx tt hc rfl fun q hX=>go ?_;obtain ⟨x11,g1,H⟩:=bnd H;refine Ya 2 9 11 (.bool x11) (gi q (fun q=>?_) (fun q=>?_)) (fun J=>?_)
 ·refine go ?_;exact Yt 9 g1
 ·refine go ?_;exact Yt 9 g1
 refine go ?_;refine cdb H (fun h H=>?_) (fun h H=>?_)
 ·refine go ?_;refine Yf E0 [.v,.v,.v,.v,.v,.v,.v,.v,.v,.v,.v,.v,.v,.v,.v,.v,.v,.v,.v,.v,.v,.v,.v,.v,.v,.v,.v,.v,.v,.v,.v,.v] (by kernel_rfl) ?_;obtain ⟨x16,f1,H⟩:=bil (g:=KW) Fm.X5 H;refine go1 ?_;refine bp H (Fz x16) fun x18 h H=>cv h ?_;refine go ?_;obtain ⟨x27,g3,H⟩:=bnd H;refine Jb 6 21 27 (.bool x27) (tiN q (fun q=>?_) (fun q=>?_)) (fun J=>?_)
  ·rw [if_neg (dbf q)] at g3;obtain ⟨x23,f1,g3⟩:=bil (g:=KW) Fm.X5 g3;refine go1 ?_;refine go ?_;exact Yt 21 g3
  ·rw [if_pos (dbt q)] at g3;refine go ?_;exact Yt 21 g3
  refine go ?_;obtain ⟨x35,g5,H⟩:=bnd H;refine Jb 6 29 35 (.bool x35) (tiN q (fun q=>?_) (fun q=>?_)) (fun J=>?_)
  ·rw [if_neg (dbf q)] at g5;obtain ⟨x31,f1,g5⟩:=bil (g:=KW) Fm.X5 g5;refine go1 ?_;refine go ?_;exact Yt 29 g5
  ·rw [if_pos (dbt q)] at g5;refine go ?_;exact Yt 29 g5
  refine go ?_;obtain ⟨x45,g7,H⟩:=bnd H;refine Jb 8 37 45 (.bool x45) (tiN q (fun q=>?_) (fun q=>?_)) (fun J=>?_)
  ·rw [if_neg (dbf q)] at g7;obtain ⟨x39,f1,g7⟩:=bls (g:=KW) Fm.X5 (lo:=none) (hi:=some (i6 YB)) rfl rfl g7;obtain ⟨x42,f2,g7⟩:=bil (g:=KW) Fm.X5 g7;refine go2 ?_;obtain ⟨x44,hx44,g7⟩:=bnd g7;refine cv (Iz x39 x42 _ hx44) ?_;refine go ?_;exact Yt 37 g7
  ·rw [if_pos (dbt q)] at g7;refine go ?_;exact Yt 37 g7
  refine go ?_;refine cdb H (fun h H=>?_) (fun h H=>?_)
  ·refine go ?_;exact wq (hR _ (pur H).symm _ (rt _))
  ·refine go ?_;exact IH  (i64.wrap (YB+1)) _ H _ rfl Q tt  hE hR _ _  S hF
 ·refine go ?_;exact wq (hE () (pur H).symm _ _  S hF)
theorem Bq:∀(a0:List Fm) r,GM a0=some r->Vm KX 126 [sf KW a0] (.bool r):=by
 intro a0 r H;intro ss;unfold GM at H;refine hdh mixed Tryz.func126 (rs:=[.tmp 2]) fun q tT hF hX=>?_;refine go ?_;obtain ⟨o9,ho9,H⟩:=bnd H;refine CQ a0 0 _ ho9 _ rfl _ _  ?_ ?_ _ _  S hF
 ·intro _ he T11 s12 tT hF;have he:=he.symm;subst he
  try dsimp only at H
  refine go ?_;have e:=pur H;subst e;exact rt _
 ·intro r hr s' hs;subst hr;have e:=pur H;subst e;exact hsq hs
theorem Vr:∀(a0:Fm) r,YO a0=some r->Vm KX 173 [.agg (KW a0)] (.bool r):=by
 intro a0 r H;intro ss;unfold YO at H;refine hdh mixed Tryz.func173 (rs:=[.tmp 2]) fun q tT hF hX=>?_;refine go ?_;refine X8 hF rfl fun b1 ss2 hF=>?_;refine go ?_;obtain ⟨x10,g3,H⟩:=bnd H;refine Ya 3 7 10 (.bool x10) (gi q (fun q=>?_) (fun q=>?_)) (fun J=>?_)
 ·refine go ?_;exact Yt 7 g3
 ·refine go ?_;exact Yt 7 g3
 refine go ?_;have e:=pur H;subst e;exact rt _
theorem Mh:∀(a0:Fm) r,GW a0=some r->Vm KX 170 [.agg (KW a0)] (.bool r):=by
 refine GW.partial_correctness _ (motive_2:=fun a0 YB YD out=>∀c,Yh Tryz.f170 0=some c->∀(Q:QT) (tt:Sto) (b1:Nat),(∀(O5:Int),out=Sum.inr O5->∀(T:TT) (ss:Sto),T 3=i6 O5->Fx tt ss [(b1,⟨26,5,[i6 a0.kind,.str a0.name,i6 a0.num,sf cI a0.sc,sf KW a0.kids]⟩)] []->Q (.ex 0) ⟨T,ss⟩)->(∀r,out=Sum.inl r->∀s',IE KX [.tmp 2] (fun r' ss'=>r'=.bool r/\ss'=tt) s'->Q .ret s')->∀(T:TT) (ss:Sto),T 1=.ptr b1 0/\T 3=i6 YB/\T 4=i6 YD->Fx tt ss [(b1,⟨26,5,[i6 a0.kind,.str a0.name,i6 a0.num,sf cI a0.sc,sf KW a0.kids]⟩)] []->aLp KX c Q ⟨T,ss⟩) ?_ ?_
 ·intro Ws L0 a0 r H;intro ss;refine hdh mixed Tryz.func170 (rs:=[.tmp 2]) fun q tT hF hX=>?_;refine go ?_;refine X8 hF rfl fun b1 ss2 hF=>?_;refine go ?_;refine bp H (Vr a0) fun x6 h H=>cl h ?_;refine go ?_;refine cdb H (fun h H=>?_) (fun h H=>?_)
  ·refine go ?_;have e:=pur H;subst e;exact rt _
  ·refine go ?_;obtain ⟨o5,ho5,H⟩:=bnd H;refine L0 a0 0 0 _ ho5 _ rfl _ _ b1 ?_ ?_ _ _  S hF
   ·intro Qgx he T7 s8 tT hF;have he:=he.symm;subst he
    try dsimp only at H
    refine go ?_;have e:=pur H;subst e;exact rt _
   ·intro r hr s' hs;subst hr;have e:=pur H;subst e;exact hsq hs
 ·intro GW Ws C0 L0 a0 YB YD out H c hc Q tt b1 hE hR T ss tT hF;refine lpx tt hc rfl fun q hX=>go ?_;refine cdp H (fun h H=>?_) (fun h H=>?_)
  ·obtain ⟨x17,f1,H⟩:=bil (g:=KW) Fm.X5 H;refine go1 ?_;refine bp H (Vr x17) fun x19 h H=>cl h ?_;refine go ?_;refine cdb H (fun h H=>?_) (fun h H=>?_)
   ·refine go ?_;obtain ⟨x32,g3,H⟩:=bnd H;refine Ya 7 25 32 (.bool x32) (giN q (fun q=>?_) (fun q=>?_)) (fun J=>?_)
    ·rw [if_neg (df q)] at g3;obtain ⟨x29,f1,g3⟩:=bil (g:=KW) Fm.X5 g3;refine go1 ?_;obtain ⟨x31,hx31,g3⟩:=bnd g3;refine cl (Vr x29 _ hx31) ?_;refine go ?_;exact Yt 25 g3
    ·rw [if_pos (dt q)] at g3;refine go ?_;exact Yt 25 g3
    refine go ?_;refine cdb H (fun h H=>?_) (fun h H=>?_)
    ·refine go ?_;exact wq (hR _ (pur H).symm _ (rt _))
    ·refine go ?_;exact L0 a0 (i64.wrap (YB+1)) (i64.wrap (YD+1)) _ H _ rfl Q tt b1 hE hR _ _  S hF
   ·obtain ⟨x36,f1,H⟩:=bil (g:=KW) Fm.X5 H;refine go1 ?_;refine bp H (C0 x36) fun x38 h H=>cl h ?_;refine go ?_;refine cdb H (fun h H=>?_) (fun h H=>?_)
    ·refine go ?_;exact wq (hR _ (pur H).symm _ (rt _))
    ·refine go ?_;exact L0 a0 YB (i64.wrap (YD+1)) _ H _ rfl Q tt b1 hE hR _ _  S hF
  ·refine go ?_;exact wq (hE _ (pur H).symm _ _  S hF)
theorem Ay:∀(a0:Fm) (a1:List Fm) r,IA a0 a1=some r->Vm KX 194 [.agg (KW a0),sf KW a1] (.bool r):=by
 intro a0 a1 r H;intro ss;unfold IA at H;refine hdh mixed Tryz.func194 (rs:=[.tmp 4]) fun q tT hF hX=>?_;refine go ?_;refine X8 hF rfl fun b1 ss2 hF=>?_;refine go ?_;obtain ⟨x12,g3,H⟩:=bnd H;refine Ya 3 9 12 (.bool x12) (gi q (fun q=>?_) (fun q=>?_)) (fun J=>?_)
 ·refine go ?_;exact Yt 9 g3
 ·refine go ?_;exact Yt 9 g3
 refine go ?_;obtain ⟨x17,g5,H⟩:=bnd H;refine Ya 3 14 17 (.bool x17) (gi q (fun q=>?_) (fun q=>?_)) (fun J=>?_)
 ·refine go ?_;exact Yt 14 g5
 ·refine go ?_;exact Yt 14 g5
 refine go ?_;obtain ⟨x23,g7,H⟩:=bnd H;refine Ya 4 19 23 (.bool x23) (gi q (fun q=>?_) (fun q=>?_)) (fun J=>?_)
 ·rw [if_pos (dbt q)] at g7;refine go ?_;obtain ⟨x21,hx21,g7⟩:=bnd g7;refine cl (Iz a1 a0 _ hx21) ?_;refine go ?_;exact Yt 19 g7
 ·rw [if_neg (dbf q)] at g7;refine go ?_;exact Yt 19 g7
 refine go ?_;have e:=pur H;subst e;exact rt _
theorem E9:∀(a0:List Fm) (a1:Fm) (a2:List Fm) r,WX a0 a1 a2=some r->∀  (p0:AV) (ss:Sto),Pre ss [] [⟨p0,26,5,rws KW a0⟩]->Ctr KX 171 [p0,.agg (KW a1),sf KW a2] ss (fun r' ss'=>∃(tt':Sto) (w0:AV),r'=w0/\Tau (strip ss [⟨p0,26,5,rws KW a0⟩]) [] tt'/\Fx tt' ss' [] [⟨w0,26,5,rws KW r⟩]):=by
 intro a0 a1 a2;revert a0 a1;refine WX.partial_correctness a2 (motive_1:=fun a0 a1 r=>∀  (p0:AV) (ss:Sto),Pre ss [] [⟨p0,26,5,rws KW a0⟩]->Ctr KX 171 [p0,.agg (KW a1),sf KW a2] ss (fun r' ss'=>∃(tt':Sto) (w0:AV),r'=w0/\Tau (strip ss [⟨p0,26,5,rws KW a0⟩]) [] tt'/\Fx tt' ss' [] [⟨w0,26,5,rws KW r⟩])) (motive_2:=fun a1 X6 Yo out=>∀c,Yh Tryz.f171 0=some c->∀(Q:QT) (tt0:Sto) (b1:Nat),(∀(YS:List Fm),out=YS->∀(T:TT) (ss tt:Sto) (e0v0:AV),T 0=e0v0->Tau tt0 [] tt->Fx tt ss [(b1,⟨26,5,[i6 a1.kind,.str a1.name,i6 a1.num,sf cI a1.sc,sf KW a1.kids]⟩)] [⟨e0v0,26,5,rws KW YS⟩]->Q (.ex 0) ⟨T,ss⟩)->True->∀(T:TT) (ss tt:Sto) (z0v0:AV),T 0=z0v0/\T 2=sf KW a2/\T 4=.ptr b1 0/\T 7=i6 Yo->Tau tt0 [] tt->Fx tt ss [(b1,⟨26,5,[i6 a1.kind,.str a1.name,i6 a1.num,sf cI a1.sc,sf KW a1.kids]⟩)] [⟨z0v0,26,5,rws KW X6⟩]->aLp KX c Q ⟨T,ss⟩) ?_ ?_
 ·intro V9 L0 a0 a1 r H;intro  p0 ss hP;refine hdg mixed Tryz.func171 (rs:=[.tmp 6]) fun q tT=>?_;obtain ⟨hF,hX⟩:=hP.start;generalize strip ss [⟨p0,26,5,rws KW a0⟩]=tt0 at hF hX ⊢;refine go ?_;refine X8 hF rfl fun b1 ss2 hF=>?_;refine go ?_;refine bp H (Ay a1 a2) fun x10 h H=>cl h ?_;refine go ?_;obtain ⟨As,j4,H⟩:=bnd H;refine VG (fun s'=>∃(T:TT) (ss1 tt1:Sto) (y3v0:AV),s'=⟨T,ss1⟩/\(T 0=y3v0/\T 2=sf KW a2/\T 4=.ptr b1 0)/\Tau tt0 [] tt1/\Fx tt1 ss1 [(b1,⟨26,5,[i6 a1.kind,.str a1.name,i6 a1.num,sf cI a1.sc,sf KW a1.kids]⟩)] [⟨y3v0,26,5,rws KW As⟩]) (cdb j4 (fun h j4=>?_) (fun h j4=>?_)) ?_
  ·refine go ?_;refine apd (g:=KW) hF 0 j4 (rdo (c:=true) (g:=KW) Fm.X5) fun x14 j4 v5 ss6 hF=>?_;refine go ?_;have e:=pur j4;subst e;exact ⟨_,_,_,v5,rfl,S,hX,hF⟩
  ·refine go ?_;have e:=pur j4;subst e;exact ⟨_,_,_,p0,rfl,S,hX,hF⟩
  ·rintro s' ⟨T7,s8,t9,y3v0,rfl,tT,hX,hF⟩;refine go ?_;obtain ⟨o14,ho14,H⟩:=bnd H;refine L0 a1 As 0 _ ho14 _ rfl _ tt0 b1 ?_ ?_ _ _ _ y3v0 S hX hF
   ·intro Bi he T16 s17 t18 e15v0 tT hX hF;have he:=he.symm;subst he;refine go ?_;have e:=pur H;subst e;exact rg _ ⟨_,_,rfl,hX,hF.pick [] [0] (by decide) (by decide)⟩
   ·trivial
 ·intro WX V9 C0 L0 a1 X6 Yo out H c hc Q tt0 b1 hE hR T ss tt z0v0 tT hX hF;refine lpy hc rfl fun q=>go ?_;refine cdp H (fun h H=>?_) (fun h H=>?_)
  ·obtain ⟨x26,f1,H⟩:=bil (g:=KW) Fm.X5 H;refine go1 ?_;obtain ⟨x29,hx29,H⟩:=bnd H;refine cx (C0 X6 x26 _ hx29  z0v0 _ (pre 0 0 1 hF hX)) ?_;rintro v10 s11 ⟨t12,_,rfl,hT,hG⟩;obtain ⟨t13,hX,hF⟩:=aft 0 0 1 hF hX hT hG;refine go ?_;exact L0 a1 x29 (i64.wrap (Yo+1)) _ H _ rfl Q tt0 b1 hE hR _ _ _ v10 S hX hF
  ·refine go ?_;exact wq (hE _ (pur H).symm _ _ _ z0v0 S hX hF)
theorem E8:∀(a1:Fm) (a2 X6:List Fm) (Yo:Int) out,WW a1 a2 X6 Yo=some out->∀c,Yh Tryz.f171 0=some c->∀(Q:QT) (tt0:Sto) (b1:Nat),(∀(YS:List Fm),out=YS->∀(T:TT) (ss tt:Sto) (e0v0:AV),T 0=e0v0->Tau tt0 [] tt->Fx tt ss [(b1,⟨26,5,[i6 a1.kind,.str a1.name,i6 a1.num,sf cI a1.sc,sf KW a1.kids]⟩)] [⟨e0v0,26,5,rws KW YS⟩]->Q (.ex 0) ⟨T,ss⟩)->True->∀(T:TT) (ss tt:Sto) (z0v0:AV),T 0=z0v0/\T 2=sf KW a2/\T 4=.ptr b1 0/\T 7=i6 Yo->Tau tt0 [] tt->Fx tt ss [(b1,⟨26,5,[i6 a1.kind,.str a1.name,i6 a1.num,sf cI a1.sc,sf KW a1.kids]⟩)] [⟨z0v0,26,5,rws KW X6⟩]->aLp KX c Q ⟨T,ss⟩:=by
 intro a1 a2 X6 Yo;revert X6 Yo;refine WW.partial_correctness a1 a2 _ ?_;intro WW IH X6 Yo out H c hc Q tt0 b1 hE hR T ss tt z0v0 tT hX hF;refine lpy hc rfl fun q=>go ?_;refine cdp H (fun h H=>?_) (fun h H=>?_)
 ·obtain ⟨x26,f1,H⟩:=bil (g:=KW) Fm.X5 H;refine go1 ?_;obtain ⟨x29,hx29,H⟩:=bnd H;refine cx (E9 X6 x26 a2 _ hx29  z0v0 _ (pre 0 0 1 hF hX)) ?_;rintro v10 s11 ⟨t12,_,rfl,hT,hG⟩;obtain ⟨t13,hX,hF⟩:=aft 0 0 1 hF hX hT hG;refine go ?_;exact IH  x29 (i64.wrap (Yo+1)) _ H _ rfl Q tt0 b1 hE hR _ _ _ v10 S hX hF
 ·refine go ?_;exact wq (hE _ (pur H).symm _ _ _ z0v0 S hX hF)
theorem BG:∀(a0:List Fm) (a1:Fm) (a2:List Fm) r,It a0 a1 a2=some r->∀  (p0:AV) (ss:Sto),Pre ss [] [⟨p0,26,5,rws KW a0⟩]->Ctr KX 171 [p0,.agg (KW a1),sf KW a2] ss (fun r' ss'=>∃(tt':Sto),r'=sf KW r/\Tau (strip ss [⟨p0,26,5,rws KW a0⟩]) [] tt'/\Fx tt' ss' [] []):=by
 intro a0 a1 a2 r H;intro  p0 ss hP;unfold It at H;refine hdg mixed Tryz.func171 (rs:=[.tmp 6]) fun q tT=>?_;obtain ⟨hF,hX⟩:=hP.start;generalize strip ss [⟨p0,26,5,rws KW a0⟩]=tt0 at hF hX ⊢;refine go ?_;refine X8 hF rfl fun b1 ss2 hF=>?_;refine go ?_;refine bp H (Ay a1 a2) fun x10 h H=>cl h ?_;refine go ?_;obtain ⟨As,j4,H⟩:=bnd H;refine VG (fun s'=>∃(T:TT) (ss1 tt1:Sto) (y3v0:AV),s'=⟨T,ss1⟩/\(T 0=y3v0/\T 2=sf KW a2/\T 4=.ptr b1 0)/\Tau tt0 [] tt1/\Fx tt1 ss1 [(b1,⟨26,5,[i6 a1.kind,.str a1.name,i6 a1.num,sf cI a1.sc,sf KW a1.kids]⟩)] [⟨y3v0,26,5,rws KW As⟩]) (cdb j4 (fun h j4=>?_) (fun h j4=>?_)) ?_
 ·refine go ?_;refine apd (g:=KW) hF 0 j4 (rdo (c:=true) (g:=KW) Fm.X5) fun x14 j4 v5 ss6 hF=>?_;refine go ?_;have e:=pur j4;subst e;exact ⟨_,_,_,v5,rfl,S,hX,hF⟩
 ·refine go ?_;have e:=pur j4;subst e;exact ⟨_,_,_,p0,rfl,S,hX,hF⟩
 ·rintro s' ⟨T7,s8,t9,y3v0,rfl,tT,hX,hF⟩;refine go ?_;obtain ⟨o14,ho14,H⟩:=bnd H;refine E8 a1 a2 As 0 _ ho14 _ rfl _ tt0 b1 ?_ ?_ _ _ _ y3v0 S hX hF
  ·intro Bi he T16 s17 t18 e15v0 tT hX hF;have he:=he.symm;subst he;refine go ?_;have e:=pur H;subst e;exact rg _ ⟨_,rfl,hX,K1 _⟩
  ·trivial
theorem DV:∀(a0:List Int) (a1:Fm) (a2:List Fm) (a3:Int) r,Vo a0 a1 a2 a3=some r->∀  (p0:AV) (ss:Sto),Pre ss [] [⟨p0,3,1,rws cI a0⟩]->Ctr KX 172 [p0,.agg (KW a1),sf KW a2,i6 a3] ss (fun r' ss'=>∃(tt':Sto) (w0:AV),r'=w0/\Tau (strip ss [⟨p0,3,1,rws cI a0⟩]) [] tt'/\Fx tt' ss' [] [⟨w0,3,1,rws cI r⟩]):=by
 intro a0 a1 a2 a3;revert a0 a1 a3;refine Vo.partial_correctness a2 (motive_1:=fun a0 a1 a3 r=>∀  (p0:AV) (ss:Sto),Pre ss [] [⟨p0,3,1,rws cI a0⟩]->Ctr KX 172 [p0,.agg (KW a1),sf KW a2,i6 a3] ss (fun r' ss'=>∃(tt':Sto) (w0:AV),r'=w0/\Tau (strip ss [⟨p0,3,1,rws cI a0⟩]) [] tt'/\Fx tt' ss' [] [⟨w0,3,1,rws cI r⟩])) (motive_2:=fun a1 a3 X6 YM out=>∀c,Yh Tryz.f172 0=some c->∀(Q:QT) (tt0:Sto) (b1:Nat),(∀(YS:List Int),out=YS->∀(T:TT) (ss tt:Sto) (e0v0:AV),T 0=e0v0->Tau tt0 [] tt->Fx tt ss [(b1,⟨26,5,[i6 a1.kind,.str a1.name,i6 a1.num,sf cI a1.sc,sf KW a1.kids]⟩)] [⟨e0v0,3,1,rws cI YS⟩]->Q (.ex 0) ⟨T,ss⟩)->True->∀(T:TT) (ss tt:Sto) (z0v0:AV),T 0=z0v0/\T 2=sf KW a2/\T 3=i6 a3/\T 5=.ptr b1 0/\T 9=i6 YM->Tau tt0 [] tt->Fx tt ss [(b1,⟨26,5,[i6 a1.kind,.str a1.name,i6 a1.num,sf cI a1.sc,sf KW a1.kids]⟩)] [⟨z0v0,3,1,rws cI X6⟩]->aLp KX c Q ⟨T,ss⟩) ?_ ?_
 ·intro Vy L0 a0 a1 a3 r H;intro  p0 ss hP;refine hdg mixed Tryz.func172 (rs:=[.tmp 8]) fun q tT=>?_;obtain ⟨hF,hX⟩:=hP.start;generalize strip ss [⟨p0,3,1,rws cI a0⟩]=tt0 at hF hX ⊢;refine go ?_;refine X8 hF rfl fun b1 ss2 hF=>?_;refine go ?_;refine bp H (Ay a1 a2) fun x13 h H=>cl h ?_;refine go ?_;obtain ⟨As,j4,H⟩:=bnd H;refine VG (fun s'=>∃(T:TT) (ss1 tt1:Sto) (y3v0:AV),s'=⟨T,ss1⟩/\(T 0=y3v0/\T 2=sf KW a2/\T 3=i6 a3/\T 5=.ptr b1 0)/\Tau tt0 [] tt1/\Fx tt1 ss1 [(b1,⟨26,5,[i6 a1.kind,.str a1.name,i6 a1.num,sf cI a1.sc,sf KW a1.kids]⟩)] [⟨y3v0,3,1,rws cI As⟩]) (cdb j4 (fun h j4=>?_) (fun h j4=>?_)) ?_
  ·refine go ?_;refine apd (g:=cI) hF 0 j4 (rdo (c:=true) (g:=cI) (fun _=>rfl)) fun x17 j4 v5 ss6 hF=>?_;refine go ?_;have e:=pur j4;subst e;exact ⟨_,_,_,v5,rfl,S,hX,hF⟩
  ·refine go ?_;have e:=pur j4;subst e;exact ⟨_,_,_,p0,rfl,S,hX,hF⟩
  ·rintro s' ⟨T7,s8,t9,y3v0,rfl,tT,hX,hF⟩;refine go ?_;obtain ⟨o21,ho21,H⟩:=bnd H;refine L0 a1 a3 As 0 _ ho21 _ rfl _ tt0 b1 ?_ ?_ _ _ _ y3v0 S hX hF
   ·intro Cj he T23 s24 t25 e22v0 tT hX hF;have he:=he.symm;subst he;refine go ?_;have e:=pur H;subst e;exact rg _ ⟨_,_,rfl,hX,hF.pick [] [0] (by decide) (by decide)⟩
   ·trivial
 ·intro Vo Vy C0 L0 a1 a3 X6 YM out H c hc Q tt0 b1 hE hR T ss tt z0v0 tT hX hF;refine lpy hc rfl fun q=>go ?_;refine cdp H (fun h H=>?_) (fun h H=>?_)
  ·refine go ?_;obtain ⟨x40,g10,H⟩:=bnd H;refine Ya 7 33 40 (.bool x40) (gi q (fun q=>?_) (fun q=>?_)) (fun J=>?_)
   ·rw [if_pos (dt q)] at g10;obtain ⟨x37,f1,g10⟩:=bil (g:=KW) Fm.X5 g10;refine go1 ?_;obtain ⟨x39,hx39,g10⟩:=bnd g10;refine cl (Vr x37 _ hx39) ?_;refine go ?_;exact Yt 33 g10
   ·rw [if_neg (df q)] at g10;refine go ?_;exact Yt 33 g10
   refine go ?_;obtain ⟨I8,j13,H⟩:=bnd H;refine VG (fun s'=>∃(T:TT) (ss1 tt1:Sto),s'=⟨T,ss1⟩/\(T 0=z0v0/\T 2=sf KW a2/\T 3=i6 a3/\T 5=.ptr b1 0/\T 9=i6 YM/\T 10=i6 I8)/\Tau tt0 [] tt1/\Fx tt1 ss1 [(b1,⟨26,5,[i6 a1.kind,.str a1.name,i6 a1.num,sf cI a1.sc,sf KW a1.kids]⟩)] [⟨z0v0,3,1,rws cI X6⟩]) (cdb j13 (fun h j13=>?_) (fun h j13=>?_)) ?_
   ·refine go ?_;have e:=pur j13;subst e;exact ⟨_,_,_,rfl,S,hX,hF⟩
   ·refine go ?_;have e:=pur j13;subst e;exact ⟨_,_,_,rfl,S,hX,hF⟩
   ·rintro s' ⟨T14,s15,t16,rfl,tT,hX,hF⟩;obtain ⟨x47,f1,H⟩:=bil (g:=KW) Fm.X5 H;refine go1 ?_;obtain ⟨x51,hx51,H⟩:=bnd H;refine cx (C0 X6 x47 I8 _ hx51  z0v0 _ (pre 0 0 1 hF hX)) ?_;rintro v17 s18 ⟨t19,_,rfl,hT,hG⟩;obtain ⟨t20,hX,hF⟩:=aft 0 0 1 hF hX hT hG;refine go ?_;exact L0 a1 a3 x51 (i64.wrap (YM+1)) _ H _ rfl Q tt0 b1 hE hR _ _ _ v17 S hX hF
  ·refine go ?_;exact wq (hE _ (pur H).symm _ _ _ z0v0 S hX hF)
theorem DU:∀(a1:Fm) (a2:List Fm) (a3:Int) (X6:List Int) (YM:Int) out,VY a1 a2 a3 X6 YM=some out->∀c,Yh Tryz.f172 0=some c->∀(Q:QT) (tt0:Sto) (b1:Nat),(∀(YS:List Int),out=YS->∀(T:TT) (ss tt:Sto) (e0v0:AV),T 0=e0v0->Tau tt0 [] tt->Fx tt ss [(b1,⟨26,5,[i6 a1.kind,.str a1.name,i6 a1.num,sf cI a1.sc,sf KW a1.kids]⟩)] [⟨e0v0,3,1,rws cI YS⟩]->Q (.ex 0) ⟨T,ss⟩)->True->∀(T:TT) (ss tt:Sto) (z0v0:AV),T 0=z0v0/\T 2=sf KW a2/\T 3=i6 a3/\T 5=.ptr b1 0/\T 9=i6 YM->Tau tt0 [] tt->Fx tt ss [(b1,⟨26,5,[i6 a1.kind,.str a1.name,i6 a1.num,sf cI a1.sc,sf KW a1.kids]⟩)] [⟨z0v0,3,1,rws cI X6⟩]->aLp KX c Q ⟨T,ss⟩:=by
 intro a1 a2 a3 X6 YM;revert X6 YM;refine VY.partial_correctness a1 a2 a3 _ ?_;intro VY IH X6 YM out H c hc Q tt0 b1 hE hR T ss tt z0v0 tT hX hF;refine lpy hc rfl fun q=>go ?_;refine cdp H (fun h H=>?_) (fun h H=>?_)
 ·refine go ?_;obtain ⟨x40,g10,H⟩:=bnd H;refine Ya 7 33 40 (.bool x40) (gi q (fun q=>?_) (fun q=>?_)) (fun J=>?_)
  ·rw [if_pos (dt q)] at g10;obtain ⟨x37,f1,g10⟩:=bil (g:=KW) Fm.X5 g10;refine go1 ?_;obtain ⟨x39,hx39,g10⟩:=bnd g10;refine cl (Vr x37 _ hx39) ?_;refine go ?_;exact Yt 33 g10
  ·rw [if_neg (df q)] at g10;refine go ?_;exact Yt 33 g10
  refine go ?_;obtain ⟨I8,j13,H⟩:=bnd H;refine VG (fun s'=>∃(T:TT) (ss1 tt1:Sto),s'=⟨T,ss1⟩/\(T 0=z0v0/\T 2=sf KW a2/\T 3=i6 a3/\T 5=.ptr b1 0/\T 9=i6 YM/\T 10=i6 I8)/\Tau tt0 [] tt1/\Fx tt1 ss1 [(b1,⟨26,5,[i6 a1.kind,.str a1.name,i6 a1.num,sf cI a1.sc,sf KW a1.kids]⟩)] [⟨z0v0,3,1,rws cI X6⟩]) (cdb j13 (fun h j13=>?_) (fun h j13=>?_)) ?_
  ·refine go ?_;have e:=pur j13;subst e;exact ⟨_,_,_,rfl,S,hX,hF⟩
  ·refine go ?_;have e:=pur j13;subst e;exact ⟨_,_,_,rfl,S,hX,hF⟩
  ·rintro s' ⟨T14,s15,t16,rfl,tT,hX,hF⟩;obtain ⟨x47,f1,H⟩:=bil (g:=KW) Fm.X5 H;refine go1 ?_;obtain ⟨x51,hx51,H⟩:=bnd H;refine cx (DV X6 x47 a2 I8 _ hx51  z0v0 _ (pre 0 0 1 hF hX)) ?_;rintro v17 s18 ⟨t19,_,rfl,hT,hG⟩;obtain ⟨t20,hX,hF⟩:=aft 0 0 1 hF hX hT hG;refine go ?_;exact IH  x51 (i64.wrap (YM+1)) _ H _ rfl Q tt0 b1 hE hR _ _ _ v17 S hX hF
 ·refine go ?_;exact wq (hE _ (pur H).symm _ _ _ z0v0 S hX hF)
theorem Aq:∀(a0:List Int) (a1:Fm) (a2:List Fm) (a3:Int) r,G8 a0 a1 a2 a3=some r->∀  (p0:AV) (ss:Sto),Pre ss [] [⟨p0,3,1,rws cI a0⟩]->Ctr KX 172 [p0,.agg (KW a1),sf KW a2,i6 a3] ss (fun r' ss'=>∃(tt':Sto),r'=sf cI r/\Tau (strip ss [⟨p0,3,1,rws cI a0⟩]) [] tt'/\Fx tt' ss' [] []):=by
 intro a0 a1 a2 a3 r H;intro  p0 ss hP;unfold G8 at H;refine hdg mixed Tryz.func172 (rs:=[.tmp 8]) fun q tT=>?_;obtain ⟨hF,hX⟩:=hP.start;generalize strip ss [⟨p0,3,1,rws cI a0⟩]=tt0 at hF hX ⊢;refine go ?_;refine X8 hF rfl fun b1 ss2 hF=>?_;refine go ?_;refine bp H (Ay a1 a2) fun x13 h H=>cl h ?_;refine go ?_;obtain ⟨As,j4,H⟩:=bnd H;refine VG (fun s'=>∃(T:TT) (ss1 tt1:Sto) (y3v0:AV),s'=⟨T,ss1⟩/\(T 0=y3v0/\T 2=sf KW a2/\T 3=i6 a3/\T 5=.ptr b1 0)/\Tau tt0 [] tt1/\Fx tt1 ss1 [(b1,⟨26,5,[i6 a1.kind,.str a1.name,i6 a1.num,sf cI a1.sc,sf KW a1.kids]⟩)] [⟨y3v0,3,1,rws cI As⟩]) (cdb j4 (fun h j4=>?_) (fun h j4=>?_)) ?_
 ·refine go ?_;refine apd (g:=cI) hF 0 j4 (rdo (c:=true) (g:=cI) (fun _=>rfl)) fun x17 j4 v5 ss6 hF=>?_;refine go ?_;have e:=pur j4;subst e;exact ⟨_,_,_,v5,rfl,S,hX,hF⟩
 ·refine go ?_;have e:=pur j4;subst e;exact ⟨_,_,_,p0,rfl,S,hX,hF⟩
 ·rintro s' ⟨T7,s8,t9,y3v0,rfl,tT,hX,hF⟩;refine go ?_;obtain ⟨o21,ho21,H⟩:=bnd H;refine DU a1 a2 a3 As 0 _ ho21 _ rfl _ tt0 b1 ?_ ?_ _ _ _ y3v0 S hX hF
  ·intro Cj he T23 s24 t25 e22v0 tT hX hF;have he:=he.symm;subst he;refine go ?_;have e:=pur H;subst e;exact rg _ ⟨_,rfl,hX,K1 _⟩
  ·trivial
theorem Md:∀(a0:Fm) (a1 x25:List Fm) (YE:Int) out,Ga a0 a1 x25 YE=some out->∀c,Yh Tryz.f150 0=some c->∀(Q:QT) (tt:Sto) (b1:Nat),(∀(_u:Unit),out=Sum.inr ()->∀(T:TT) (ss:Sto),T 1=sf KW a1/\T 2=.ptr b1 0/\T 5=sf KW x25->Fx tt ss [(b1,⟨26,5,[i6 a0.kind,.str a0.name,i6 a0.num,sf cI a0.sc,sf KW a0.kids]⟩)] []->Q (.ex 0) ⟨T,ss⟩)->(∀r,out=Sum.inl r->∀s',IE KX [.tmp 4] (fun r' ss'=>r'=.bool r/\ss'=tt) s'->Q .ret s')->∀(T:TT) (ss:Sto),T 1=sf KW a1/\T 2=.ptr b1 0/\T 5=sf KW x25/\T 6=i6 YE->Fx tt ss [(b1,⟨26,5,[i6 a0.kind,.str a0.name,i6 a0.num,sf cI a0.sc,sf KW a0.kids]⟩)] []->aLp KX c Q ⟨T,ss⟩:=by
 intro a0 a1 x25 YE;revert YE;refine Ga.partial_correctness a0 a1 x25 _ ?_;intro Ga IH YE out H c hc Q tt b1 hE hR T ss tT hF;refine lpx tt hc rfl fun q hX=>go ?_;refine cdp H (fun h H=>?_) (fun h H=>?_)
 ·refine go ?_;refine Yf E0 [.v,.v,.v,.v,.v,.v,.v,.v] (by kernel_rfl) ?_;obtain ⟨x34,f1,H⟩:=bls (g:=KW) Fm.X5 (lo:=none) (hi:=some (i6 YE)) rfl rfl H;obtain ⟨x37,f2,H⟩:=bil (g:=KW) Fm.X5 H;refine go2 ?_;refine bp H (Iz x34 x37) fun x39 h H=>cv h ?_;refine go ?_;refine cdb H (fun h H=>?_) (fun h H=>?_)
  ·refine go ?_;exact wq (hR _ (pur H).symm _ (rt _))
  ·refine go ?_;exact IH  (i64.wrap (YE+1)) _ H _ rfl Q tt b1 hE hR _ _  S hF
 ·refine go ?_;exact wq (hE () (pur H).symm _ _  S hF)
theorem Me:∀(a0:Fm) (x25:List Fm) (x43:List Int) (Ww:Int) out,Gb a0 x25 x43 Ww=some out->∀c,Yh Tryz.f150 1=some c->∀(Q:QT) (tt:Sto) (b1:Nat),(∀(_u:Unit),out=Sum.inr ()->∀(T:TT) (ss:Sto),T 5=sf KW x25->Fx tt ss [(b1,⟨26,5,[i6 a0.kind,.str a0.name,i6 a0.num,sf cI a0.sc,sf KW a0.kids]⟩)] []->Q (.ex 2) ⟨T,ss⟩)->(∀r,out=Sum.inl r->∀s',IE KX [.tmp 4] (fun r' ss'=>r'=.bool r/\ss'=tt) s'->Q .ret s')->∀(T:TT) (ss:Sto),T 5=sf KW x25/\T 7=sf cI x43/\T 8=i6 Ww->Fx tt ss [(b1,⟨26,5,[i6 a0.kind,.str a0.name,i6 a0.num,sf cI a0.sc,sf KW a0.kids]⟩)] []->aLp KX c Q ⟨T,ss⟩:=by
 intro a0 x25 x43 Ww;revert Ww;refine Gb.partial_correctness a0 x25 x43 _ ?_;intro Gb IH Ww out H c hc Q tt b1 hE hR T ss tT hF;refine lpx tt hc rfl fun q hX=>go ?_;refine cdp H (fun h H=>?_) (fun h H=>?_)
 ·obtain ⟨x52,f1,H⟩:=bil (g:=cI) (fun _=>rfl) H;refine go1 ?_;refine go ?_;refine cdp H (fun h H=>?_) (fun h H=>?_)
  ·refine go ?_;exact wq (hR _ (pur H).symm _ (rt _))
  ·refine go ?_;exact IH  (i64.wrap (Ww+1)) _ H _ rfl Q tt b1 hE hR _ _  S hF
 ·refine go ?_;exact wq (hE () (pur H).symm _ _  S hF)
theorem PC:∀(a0:Fm) (a1:List Fm) r,CP a0 a1=some r->Vm KX 150 [.agg (KW a0),sf KW a1] (.bool r):=by
 intro a0 a1 r H;intro ss;unfold CP at H;refine hdh mixed Tryz.func150 (rs:=[.tmp 4]) fun q tT hF hX=>?_;refine go ?_;refine X8 hF rfl fun b1 ss2 hF=>?_;refine go ?_;refine bp H (Yz a0) fun x10 h H=>cl h ?_;refine go ?_;obtain ⟨x16,g3,H⟩:=bnd H;refine Ya 3 13 16 (.bool x16) (giN q (fun q=>?_) (fun q=>?_)) (fun J=>?_)
 ·rw [if_neg (dbf q)] at g3;refine go ?_;obtain ⟨x14,hx14,g3⟩:=bnd g3;refine cl (Bq a1 _ hx14) ?_;refine go ?_;exact Yt 13 g3
 ·rw [if_pos (dbt q)] at g3;refine go ?_;exact Yt 13 g3
 refine go ?_;obtain ⟨x21,g5,H⟩:=bnd H;refine Ya 3 18 21 (.bool x21) (giN q (fun q=>?_) (fun q=>?_)) (fun J=>?_)
 ·rw [if_neg (dbf q)] at g5;refine go ?_;obtain ⟨x19,hx19,g5⟩:=bnd g5;refine cl (Mh a0 _ hx19) ?_;refine go ?_;exact Yt 18 g5
 ·rw [if_pos (dbt q)] at g5;refine go ?_;exact Yt 18 g5
 refine go ?_;refine cdb H (fun h H=>?_) (fun h H=>?_)
 ·refine go ?_;have e:=pur H;subst e;exact rt _
 ·have hF:=hF.lit 26 5 (rws KW []) rfl;refine go ?_;obtain ⟨x25,hx25,H⟩:=bnd H;refine cx (BG [] a0 a1 _ hx25  (.sl true (rws KW [])) _ (pre 0 0 1 hF hX)) ?_;rintro _ s7 ⟨t8,rfl,hT,hG⟩;have hF:=DC 0 1 hF hX hT hG;refine go ?_;obtain ⟨o10,ho10,H⟩:=bnd H;refine Md a0 a1 x25 0 _ ho10 _ rfl _ _ b1 ?_ ?_ _ _  S hF
  ·intro _ he T12 s13 tT hF;have he:=he.symm;subst he
   try dsimp only at H
   have hF:=hF.lit 3 1 (rws cI []) rfl;refine go ?_;obtain ⟨x43,hx43,H⟩:=bnd H;refine cx (Aq [] a0 a1 0 _ hx43  (.sl true (rws cI [])) _ (pre 0 0 1 hF hX)) ?_;rintro _ s15 ⟨t16,rfl,hT,hG⟩;have hF:=DC 0 1 hF hX hT hG;refine go ?_;obtain ⟨o18,ho18,H⟩:=bnd H;refine Me a0 x25 x43 0 _ ho18 _ rfl _ _ b1 ?_ ?_ _ _  S hF
   ·intro _ he T20 s21 tT hF;have he:=he.symm;subst he
    try dsimp only at H
    refine go ?_;have e:=pur H;subst e;exact rt _
   ·intro r hr s' hs;subst hr;have e:=pur H;subst e;exact hsq hs
  ·intro r hr s' hs;subst hr;have e:=pur H;subst e;exact hsq hs
theorem El:∀(a0:Fm) (x14:List Fm) (x18:List Int) (X6:List Hit) (YG:Int) out,VV a0 x14 x18 X6 YG=some out->∀c,Yh Tryz.f152 0=some c->∀(Q:QT) (tt:Sto) (b1:Nat),(∀(YS:List Hit),out=YS->∀(T:TT) (ss:Sto) (e0v0:AV),T 5=e0v0->Fx tt ss [(b1,⟨26,5,[i6 a0.kind,.str a0.name,i6 a0.num,sf cI a0.sc,sf KW a0.kids]⟩)] [⟨e0v0,195,12,rws KZ YS⟩]->Q (.ex 0) ⟨T,ss⟩)->True->∀(T:TT) (ss:Sto) (z0v0:AV),T 5=z0v0/\T 6=sf KW x14/\T 7=sf cI x18/\T 8=i6 YG->Fx tt ss [(b1,⟨26,5,[i6 a0.kind,.str a0.name,i6 a0.num,sf cI a0.sc,sf KW a0.kids]⟩)] [⟨z0v0,195,12,rws KZ X6⟩]->aLp KX c Q ⟨T,ss⟩:=by
 intro a0 x14 x18 X6 YG;revert X6 YG;refine VV.partial_correctness a0 x14 x18 _ ?_;intro VV IH X6 YG out H c hc Q tt b1 hE hR T ss z0v0 tT hF;refine lpx tt hc rfl fun q hX=>go ?_;refine cdp H (fun h H=>?_) (fun h H=>?_)
 ·refine go ?_;refine Yf E0 [.v,.v,.v,.v,.v,.v,.v,.v,.v,.x,.z] (by kernel_rfl) ?_;obtain ⟨x27,f1,H⟩:=bil (g:=KW) Fm.X5 H;obtain ⟨x31,f2,H⟩:=bil (g:=cI) (fun _=>rfl) H;refine go2 ?_;refine WH hF rfl fun b9 s10 hF=>?_;refine go ?_;refine st hF 0 rfl fun s11 hF=>?_;refine go ?_;refine cdp H (fun h H=>?_) (fun h H=>?_)
  ·obtain ⟨x39,f1,H⟩:=bil (g:=KW) Fm.X5 H;refine go1 ?_;refine st hF 0 rfl fun s12 hF=>?_;refine go ?_;refine apw (g:=KZ) (rows:=[[i6 x27.kind,.str x27.name,i6 x27.num,sf cI x27.sc,sf KW x27.kids,i6 x31,i6 x39.kind,.str x39.name,i6 x39.num,sf cI x39.sc,sf KW x39.kids,.Yb]]) hF 0 H Hit.X5 true rfl (by simp only [sf,i6,zB,Y8,Vu,cI,cU,cS,cL,Hit.X9,Fm.X9,Zq,Zr,Fm.num,Fm.sc,Zs,Zh,K9,Zt,Zi,Zj,Zz,Zk,Zu,Zv,Zl,Zm,Zn,Zw,Zo,Za,ZA,Zx,ZB,Zy,Qr,K4,KJ,Kh,QS];exact (.cons (.refl _) id (.cons (.refl _) id (.cons (.refl _) id (.cons (.refl _) id (.cons (.refl _) id (.cons (.refl _) id (.cons (.refl _) id (.cons (.refl _) id (.cons (.refl _) id (.cons (.refl _) id (.cons (.refl _) id (.cons .Yb (fun _=>rfl) .nil))))))))))))) fun x45 H v13 s14 hF=>?_;refine go ?_;exact IH  x45 (i64.wrap (YG+1)) _ H _ rfl Q tt b1 hE hR _ _ v13 S (hF.drop 1 0)
  ·refine go ?_;refine apw (g:=KZ) (rows:=[[i6 x27.kind,.str x27.name,i6 x27.num,sf cI x27.sc,sf KW x27.kids,i6 x31,i6 0,.str zB,i6 0,.Yb,.Yb,.Yb]]) hF 0 H Hit.X5 true rfl (by simp only [sf,i6,zB,Y8,Vu,cI,cU,cS,cL,Hit.X9,Fm.X9,Zq,Zr,Fm.num,Fm.sc,Zs,Zh,K9,Zt,Zi,Zj,Zz,Zk,Zu,Zv,Zl,Zm,Zn,Zw,Zo,Za,ZA,Zx,ZB,Zy,Qr,K4,KJ,Kh,QS];exact (.cons (.refl _) id (.cons (.refl _) id (.cons (.refl _) id (.cons (.refl _) id (.cons (.refl _) id (.cons (.refl _) id (.cons (.refl _) id (.cons (.refl _) id (.cons (.refl _) id (.cons .Yb (fun _=>rfl) (.cons .Yb (fun _=>rfl) (.cons .Yb (fun _=>rfl) .nil))))))))))))) fun Qcb H v15 s16 hF=>?_;refine go ?_;exact IH  Qcb (i64.wrap (YG+1)) _ H _ rfl Q tt b1 hE hR _ _ v15 S (hF.drop 1 0)
 ·refine go ?_;exact wq (hE _ (pur H).symm _ _ z0v0 S hF)
theorem Mk:∀(a0:Fm) (a1:List Fm) r,An a0 a1=some r->Vm KX 152 [.agg (KW a0),sf KW a1] (sf KZ r):=by
 intro a0 a1 r H;intro ss;unfold An at H;refine hdh mixed Tryz.func152 (rs:=[.tmp 4]) fun q tT hF hX=>?_;refine go ?_;refine X8 hF rfl fun b1 ss2 hF=>?_;have hF:=hF.lit 26 5 (rws KW []) rfl;refine go ?_;obtain ⟨x14,hx14,H⟩:=bnd H;refine cx (BG [] a0 a1 _ hx14  (.sl true (rws KW [])) _ (pre 0 0 1 hF hX)) ?_;rintro _ ss3 ⟨t4,rfl,hT,hG⟩;have hF:=DC 0 1 hF hX hT hG;have hF:=hF.lit 3 1 (rws cI []) rfl;refine go ?_;obtain ⟨x18,hx18,H⟩:=bnd H;refine cx (Aq [] a0 a1 0 _ hx18  (.sl true (rws cI [])) _ (pre 0 0 1 hF hX)) ?_;rintro _ ss6 ⟨t7,rfl,hT,hG⟩;have hF:=DC 0 1 hF hX hT hG;have hF:=hF.lit 195 12 (rws KZ []) rfl;refine go ?_;obtain ⟨o17,ho17,H⟩:=bnd H;refine El a0 x14 x18 [] 0 _ ho17 _ rfl _ _ b1 ?_ ?_ _ _ (.sl true (rws KZ [])) S hF
 ·intro Qfm he T19 s20 e18v0 tT hF;have he:=he.symm;subst he;refine go ?_;have e:=pur H;subst e;exact rt _
 ·trivial
theorem E5:∀(a0:List Hit) (a1:Fm) (Yd:Int) out,WT a0 a1 Yd=some out->∀c,Yh Tryz.f195 0=some c->∀(Q:QT) (tt:Sto) (b1:Nat),(∀(_u:Unit),out=Sum.inr ()->∀(T:TT) (ss:Sto),0+0=0->Fx tt ss [(b1,⟨26,5,[i6 a1.kind,.str a1.name,i6 a1.num,sf cI a1.sc,sf KW a1.kids]⟩)] []->Q (.ex 0) ⟨T,ss⟩)->(∀r,out=Sum.inl r->∀s',IE KX [.tmp 4] (fun r' ss'=>r'=i6 r/\ss'=tt) s'->Q .ret s')->∀(T:TT) (ss:Sto),T 0=sf KZ a0/\T 3=.ptr b1 0/\T 5=i6 Yd->Fx tt ss [(b1,⟨26,5,[i6 a1.kind,.str a1.name,i6 a1.num,sf cI a1.sc,sf KW a1.kids]⟩)] []->aLp KX c Q ⟨T,ss⟩:=by
 intro a0 a1 Yd;revert Yd;refine WT.partial_correctness a0 a1 _ ?_;intro WT IH Yd out H c hc Q tt b1 hE hR T ss tT hF;refine lpx tt hc rfl fun q hX=>go ?_;refine cdp H (fun h H=>?_) (fun h H=>?_)
 ·refine go ?_;refine Yf E0 [.v,.v,.v,.v,.v,.v,.v] (by kernel_rfl) ?_;obtain ⟨x14,f1,H⟩:=bil (g:=KZ) Hit.X5 H;refine go1 ?_;refine bp H (J2 x14.name a1) fun x18 h H=>cv h ?_;refine go ?_;refine cdb H (fun h H=>?_) (fun h H=>?_)
  ·refine go ?_;exact wq (hR _ (pur H).symm _ (rt _))
  ·refine go ?_;exact IH  (i64.wrap (Yd+1)) _ H _ rfl Q tt b1 hE hR _ _  S hF
 ·refine go ?_;exact wq (hE () (pur H).symm _ _  S hF)
theorem Dw:∀(a0:List Hit) (a1:Fm) r,Is a0 a1=some r->Vm KX 195 [sf KZ a0,.agg (KW a1)] (i6 r):=by
 intro a0 a1 r H;intro ss;unfold Is at H;refine hdh mixed Tryz.func195 (rs:=[.tmp 4]) fun q tT hF hX=>?_;refine go ?_;refine X8 hF rfl fun b1 ss2 hF=>?_;refine go ?_;obtain ⟨o3,ho3,H⟩:=bnd H;refine E5 a0 a1 0 _ ho3 _ rfl _ _ b1 ?_ ?_ _ _  S hF
 ·intro _ he T5 ss6 tT hF;have he:=he.symm;subst he
  try dsimp only at H
  refine go ?_;have e:=pur H;subst e;exact rt _
 ·intro r hr s' hs;subst hr;have e:=pur H;subst e;exact hsq hs
theorem CS:∀(a0:List Hit) (a1:Fm) r,IC a0 a1=some r->Vm KX 174 [sf KZ a0,.agg (KW a1)] (i6 r):=by
 intro a0 a1 r H;intro ss;unfold IC at H;refine hdh mixed Tryz.func174 (rs:=[.tmp 4]) fun q tT hF hX=>?_;refine go ?_;refine X8 hF rfl fun b1 ss2 hF=>?_;refine go ?_;refine cdn H (fun h H=>?_) (fun h H=>?_)
 ·refine go ?_;have e:=pur H;subst e;exact rt _
 ·refine go ?_;refine bp H (Dw a0 a1) fun x11 h H=>cl h ?_;refine go ?_;refine cdp H (fun h H=>?_) (fun h H=>?_)
  ·refine go ?_;have e:=pur H;subst e;exact rt _
  ·obtain ⟨x16,f1,H⟩:=bil (g:=KZ) Hit.X5 H;refine go1 ?_;refine go ?_;have e:=pur H;subst e;exact rt _
theorem Nh:∀(a0:List Hit) (a1:Fm) r,G9 a0 a1=some r->Vm KX 175 [sf KZ a0,.agg (KW a1)] (.bool r):=by
 intro a0 a1;revert a1;refine G9.partial_correctness a0 (motive_1:=fun a1 r=>Vm KX 175 [sf KZ a0,.agg (KW a1)] (.bool r)) (motive_2:=fun a1 Yd out=>∀c,Yh Tryz.f175 0=some c->∀(Q:QT) (tt:Sto) (b1:Nat),(∀(_u:Unit),out=Sum.inr ()->∀(T:TT) (ss:Sto),0+0=0->Fx tt ss [(b1,⟨26,5,[i6 a1.kind,.str a1.name,i6 a1.num,sf cI a1.sc,sf KW a1.kids]⟩)] []->Q (.ex 0) ⟨T,ss⟩)->(∀r,out=Sum.inl r->∀s',IE KX [.tmp 4] (fun r' ss'=>r'=.bool r/\ss'=tt) s'->Q .ret s')->∀(T:TT) (ss:Sto),T 0=sf KZ a0/\T 3=.ptr b1 0/\T 5=i6 Yd->Fx tt ss [(b1,⟨26,5,[i6 a1.kind,.str a1.name,i6 a1.num,sf cI a1.sc,sf KW a1.kids]⟩)] []->aLp KX c Q ⟨T,ss⟩) ?_ ?_
 ·intro JF L0 a1 r H;intro ss;refine hdh mixed Tryz.func175 (rs:=[.tmp 4]) fun q tT hF hX=>?_;refine go ?_;refine X8 hF rfl fun b1 ss2 hF=>?_;refine go ?_;refine bp H (CS a0 a1) fun x8 h H=>cl h ?_;refine go ?_;refine cdp H (fun h H=>?_) (fun h H=>?_)
  ·refine go ?_;have e:=pur H;subst e;exact rt _
  ·refine go ?_;obtain ⟨o3,ho3,H⟩:=bnd H;refine L0 a1 0 _ ho3 _ rfl _ _ b1 ?_ ?_ _ _  S hF
   ·intro _ he T5 ss6 tT hF;have he:=he.symm;subst he
    try dsimp only at H
    refine go ?_;have e:=pur H;subst e;exact rt _
   ·intro r hr s' hs;subst hr;have e:=pur H;subst e;exact hsq hs
 ·intro G9 JF C0 L0 a1 Yd out H c hc Q tt b1 hE hR T ss tT hF;refine lpx tt hc rfl fun q hX=>go ?_;refine cdp H (fun h H=>?_) (fun h H=>?_)
  ·obtain ⟨x21,f1,H⟩:=bil (g:=KW) Fm.X5 H;refine go1 ?_;refine bp H (C0 x21) fun x23 h H=>cl h ?_;refine go ?_;refine cdb H (fun h H=>?_) (fun h H=>?_)
   ·refine go ?_;exact wq (hR _ (pur H).symm _ (rt _))
   ·refine go ?_;exact L0 a1 (i64.wrap (Yd+1)) _ H _ rfl Q tt b1 hE hR _ _  S hF
  ·refine go ?_;exact wq (hE () (pur H).symm _ _  S hF)
theorem Fb:∀(a0 X6:List Hit) (YD:Int) out,WY a0 X6 YD=some out->∀c,Yh Tryz.f176 0=some c->∀(Q:QT) (tt:Sto),(∀(YS:List Hit),out=YS->∀(T:TT) (ss:Sto) (e0v0:AV),T 3=e0v0->Fx tt ss [] [⟨e0v0,195,12,rws KZ YS⟩]->Q (.ex 0) ⟨T,ss⟩)->True->∀(T:TT) (ss:Sto) (z0v0:AV),T 0=sf KZ a0/\T 3=z0v0/\T 4=i6 YD->Fx tt ss [] [⟨z0v0,195,12,rws KZ X6⟩]->aLp KX c Q ⟨T,ss⟩:=by
 intro a0 X6 YD;revert X6 YD;refine WY.partial_correctness a0 _ ?_;intro WY IH X6 YD out H c hc Q tt  hE hR T ss z0v0 tT hF;refine lpx tt hc rfl fun q hX=>go ?_;refine cdp H (fun h H=>?_) (fun h H=>?_)
 ·refine go ?_;refine Yf E0 [.v,.v,.v,.v,.v,.v,.v,.v,.v,.v,.v,.v,.v,.v,.v,.v,.x,.z] (by kernel_rfl) ?_;obtain ⟨x15,f1,H⟩:=bil (g:=KZ) Hit.X5 H;refine go1 ?_;refine WH hF rfl fun b1 ss2 hF=>?_;refine go ?_;refine st hF 0 rfl fun ss3 hF=>?_;refine go ?_;obtain ⟨Fo,j5,H⟩:=bnd H;refine VG (fun s'=>∃(T:TT) (ss1:Sto),s'=⟨T,ss1⟩/\(T 0=sf KZ a0/\T 3=z0v0/\T 4=i6 YD/\T 5=.ptr b1 0)/\Fx tt ss1 [(b1,⟨195,12,[i6 x15.name.kind,.str x15.name.name,i6 x15.name.num,sf cI x15.name.sc,sf KW x15.name.kids,i6 Fo,i6 x15.one.kind,.str x15.one.name,i6 x15.one.num,sf cI x15.one.sc,sf KW x15.one.kids,.Yb]⟩)] [⟨z0v0,195,12,rws KZ X6⟩]) (cdp j5 (fun h j5=>?_) (fun h j5=>?_)) ?_
  ·refine go ?_;refine st hF 0 rfl fun ss6 hF=>?_;refine go ?_;have e:=pur j5;subst e;exact ⟨_,_,rfl,S,hF⟩
  ·refine go ?_;have e:=pur j5;subst e;exact ⟨_,_,rfl,S,hF⟩
  ·rintro s' ⟨T7,s8,rfl,tT,hF⟩;refine go ?_;refine apw (g:=KZ) (rows:=[[i6 x15.name.kind,.str x15.name.name,i6 x15.name.num,sf cI x15.name.sc,sf KW x15.name.kids,i6 Fo,i6 x15.one.kind,.str x15.one.name,i6 x15.one.num,sf cI x15.one.sc,sf KW x15.one.kids,.Yb]]) hF 0 H Hit.X5 true rfl (by simp only [sf,i6,zB,Y8,Vu,cI,cU,cS,cL,Hit.X9,Fm.X9,Zq,Zr,Fm.num,Fm.sc,Zs,Zh,K9,Zt,Zi,Zj,Zz,Zk,Zu,Zv,Zl,Zm,Zn,Zw,Zo,Za,ZA,Zx,ZB,Zy,Qr,K4,KJ,Kh,QS];exact (.cons (.refl _) id (.cons (.refl _) id (.cons (.refl _) id (.cons (.refl _) id (.cons (.refl _) id (.cons (.refl _) id (.cons (.refl _) id (.cons (.refl _) id (.cons (.refl _) id (.cons (.refl _) id (.cons (.refl _) id (.cons .Yb (fun _=>rfl) .nil))))))))))))) fun x39 H v10 s11 hF=>?_;refine go ?_;exact IH  x39 (i64.wrap (YD+1)) _ H _ rfl Q tt  hE hR _ _ v10 S (hF.drop 1 0)
 ·refine go ?_;exact wq (hE _ (pur H).symm _ _ z0v0 S hF)
theorem Ng:∀(a0:List Hit) r,I7 a0=some r->Vm KX 176 [sf KZ a0] (sf KZ r):=by
 intro a0 r H;intro ss;unfold I7 at H;refine hdh mixed Tryz.func176 (rs:=[.tmp 2]) fun q tT hF hX=>?_;have hF:=hF.lit 195 12 (rws KZ []) rfl;refine go ?_;obtain ⟨o12,ho12,H⟩:=bnd H;refine Fb a0 [] 0 _ ho12 _ rfl _ _  ?_ ?_ _ _ (.sl true (rws KZ [])) S hF
 ·intro NA he T14 s15 e13v0 tT hF;have he:=he.symm;subst he;refine go ?_;have e:=pur H;subst e;exact rt _
 ·trivial
theorem PD:∀(a0:Fm) (a1:List Hit) r,Ih a0 a1=some r->Vm KX 151 [.agg (KW a0),sf KZ a1] (.bool r):=by
 refine Ih.partial_correctness _ (motive_2:=fun a0 a1 Yd out=>∀c,Yh Tryz.f151 0=some c->∀(Q:QT) (tt:Sto) (b1:Nat),(∀(_u:Unit),out=Sum.inr ()->∀(T:TT) (ss:Sto),0+0=0->Fx tt ss [(b1,⟨26,5,[i6 a0.kind,.str a0.name,i6 a0.num,sf cI a0.sc,sf KW a0.kids]⟩)] []->Q (.ex 0) ⟨T,ss⟩)->(∀r,out=Sum.inl r->∀s',IE KX [.tmp 4] (fun r' ss'=>r'=.bool r/\ss'=tt) s'->Q .ret s')->∀(T:TT) (ss:Sto),T 1=sf KZ a1/\T 2=.ptr b1 0/\T 5=i6 Yd->Fx tt ss [(b1,⟨26,5,[i6 a0.kind,.str a0.name,i6 a0.num,sf cI a0.sc,sf KW a0.kids]⟩)] []->aLp KX c Q ⟨T,ss⟩) ?_ ?_
 ·intro JD L0 a0 a1 r H;intro ss;refine hdh mixed Tryz.func151 (rs:=[.tmp 4]) fun q tT hF hX=>?_;refine go ?_;refine X8 hF rfl fun b1 ss2 hF=>?_;refine go ?_;refine bp H (Vr a0) fun x7 h H=>cl h ?_;refine go ?_;obtain ⟨x13,g3,H⟩:=bnd H;refine Ya 4 9 13 (.bool x13) (giN q (fun q=>?_) (fun q=>?_)) (fun J=>?_)
  ·rw [if_neg (dbf q)] at g3;refine go ?_;obtain ⟨x11,hx11,g3⟩:=bnd g3;refine cl (CS a1 a0 _ hx11) ?_;refine go ?_;exact Yt 9 g3
  ·rw [if_pos (dbt q)] at g3;refine go ?_;exact Yt 9 g3
  refine go ?_;refine cdb H (fun h H=>?_) (fun h H=>?_)
  ·refine go ?_;have e:=pur H;subst e;exact rt _
  ·refine go ?_;obtain ⟨o11,ho11,H⟩:=bnd H;refine L0 a0 a1 0 _ ho11 _ rfl _ _ b1 ?_ ?_ _ _  S hF
   ·intro _ he T13 s14 tT hF;have he:=he.symm;subst he
    try dsimp only at H
    refine go ?_;have e:=pur H;subst e;exact rt _
   ·intro r hr s' hs;subst hr;have e:=pur H;subst e;exact hsq hs
 ·intro Ih JD C0 L0 a0 a1 Yd out H c hc Q tt b1 hE hR T ss tT hF;refine lpx tt hc rfl fun q hX=>go ?_;refine cdp H (fun h H=>?_) (fun h H=>?_)
  ·obtain ⟨x24,f1,H⟩:=bil (g:=KW) Fm.X5 H;refine go1 ?_;refine bp H (Vr x24) fun x26 h H=>cl h ?_;refine go ?_;refine cdb H (fun h H=>?_) (fun h H=>?_)
   ·refine go ?_;obtain ⟨x37,g5,H⟩:=bnd H;refine Ya 7 30 37 (.bool x37) (giN q (fun q=>?_) (fun q=>?_)) (fun J=>?_)
    ·rw [if_neg (df q)] at g5;obtain ⟨x34,f1,g5⟩:=bil (g:=KW) Fm.X5 g5;refine go1 ?_;obtain ⟨x36,hx36,g5⟩:=bnd g5;refine cl (Vr x34 _ hx36) ?_;refine go ?_;exact Yt 30 g5
    ·rw [if_pos (dt q)] at g5;refine go ?_;exact Yt 30 g5
    refine go ?_;refine cdb H (fun h H=>?_) (fun h H=>?_)
    ·refine go ?_;exact wq (hR _ (pur H).symm _ (rt _))
    ·refine go ?_;exact L0 a0 a1 (i64.wrap (Yd+1)) _ H _ rfl Q tt b1 hE hR _ _  S hF
   ·refine go ?_;obtain ⟨x52,g7,H⟩:=bnd H;refine Ya 7 45 52 (.bool x52) (gi q (fun q=>?_) (fun q=>?_)) (fun J=>?_)
    ·rw [if_pos (dt q)] at g7;obtain ⟨x49,f1,g7⟩:=bil (g:=KW) Fm.X5 g7;refine go1 ?_;obtain ⟨x51,hx51,g7⟩:=bnd g7;refine cl (Vr x49 _ hx51) ?_;refine go ?_;exact Yt 45 g7
    ·rw [if_neg (df q)] at g7;refine go ?_;exact Yt 45 g7
    refine go ?_;refine cdb H (fun h H=>?_) (fun h H=>?_)
    ·refine go ?_;refine Yf E0 [.v,.v,.v,.v,.v,.v,.v,.v,.v,.v,.v,.v,.v,.v,.v,.v,.v,.v,.v] (by kernel_rfl) ?_;obtain ⟨x57,f1,H⟩:=bil (g:=KW) Fm.X5 H;refine go1 ?_;refine bp H (Nh a1 x57) fun x59 h H=>cv h ?_;refine go ?_;obtain ⟨x71,g9,H⟩:=bnd H;refine Jb 9 62 71 (.bool x71) (tiN q (fun q=>?_) (fun q=>?_)) (fun J=>?_)
     ·rw [if_neg (dbf q)] at g9;obtain ⟨x65,f1,g9⟩:=bil (g:=KW) Fm.X5 g9;refine go1 ?_;obtain ⟨x68,hx68,g9⟩:=bnd g9;refine cv (Ng a1 _ hx68) ?_;refine go ?_;obtain ⟨x69,hx69,g9⟩:=bnd g9;refine cv (C0 x65 x68 _ hx69) ?_;refine go ?_;exact Yt 62 g9
     ·rw [if_pos (dbt q)] at g9;refine go ?_;exact Yt 62 g9
     refine go ?_;refine cdb H (fun h H=>?_) (fun h H=>?_)
     ·refine go ?_;exact wq (hR _ (pur H).symm _ (rt _))
     ·refine go ?_;exact L0 a0 a1 (i64.wrap (Yd+1)) _ H _ rfl Q tt b1 hE hR _ _  S hF
    ·obtain ⟨x75,f1,H⟩:=bil (g:=KW) Fm.X5 H;refine go1 ?_;refine bp H (C0 x75 a1) fun x78 h H=>cl h ?_;refine go ?_;refine cdb H (fun h H=>?_) (fun h H=>?_)
     ·refine go ?_;exact wq (hR _ (pur H).symm _ (rt _))
     ·refine go ?_;exact L0 a0 a1 (i64.wrap (Yd+1)) _ H _ rfl Q tt b1 hE hR _ _  S hF
  ·refine go ?_;exact wq (hE () (pur H).symm _ _  S hF)
theorem Ni:∀(a0:Rul) (a1:List Fm) r,AZ a0 a1=some r->Vm KX 125 [.agg (K2 a0),sf KW a1] (.bool r):=by
 intro a0 a1 r H;intro ss;unfold AZ at H;refine hdh mixed Tryz.func125 (rs:=[.tmp 4]) fun q tT hF hX=>?_;refine go ?_;refine X8 hF rfl fun b1 ss2 hF=>?_;refine go ?_;refine Yf E0 [.v,.v,.v,.v,.v,.v,.v,.v,.v,.v,.v,.v,.v,.v,.v,.v,.v,.v,.v,.v,.v,.v,.v,.v,.v,.v,.v,.v,.v,.v,.v,.v] (by kernel_rfl) ?_;refine go ?_;refine bp H (PC a0.pat a1) fun x8 h H=>cv h ?_;refine go ?_;obtain ⟨x14,g3,H⟩:=bnd H;refine Jb 4 10 14 (.bool x14) (ti q (fun q=>?_) (fun q=>?_)) (fun J=>?_)
 ·refine go ?_;exact Yt 10 g3
 ·refine go ?_;exact Yt 10 g3
 refine go ?_;obtain ⟨x21,g5,H⟩:=bnd H;refine Jb 5 16 21 (.bool x21) (ti q (fun q=>?_) (fun q=>?_)) (fun J=>?_)
 ·refine go ?_;exact Yt 16 g5
 ·refine go ?_;exact Yt 16 g5
 refine go ?_;obtain ⟨x26,g7,H⟩:=bnd H;refine Jb 3 23 26 (.bool x26) (ti q (fun q=>?_) (fun q=>?_)) (fun J=>?_)
 ·rw [if_pos (dbt q)] at g7;refine go ?_;obtain ⟨x25,hx25,g7⟩:=bnd g7;refine cv (Yz a0.tpl _ hx25) ?_;refine go ?_;exact Yt 23 g7
 ·rw [if_neg (dbf q)] at g7;refine go ?_;exact Yt 23 g7
 refine go ?_;obtain ⟨x35,g9,H⟩:=bnd H;refine Jb 7 28 35 (.bool x35) (ti q (fun q=>?_) (fun q=>?_)) (fun J=>?_)
 ·rw [if_pos (dbt q)] at g9;refine go ?_;obtain ⟨x33,hx33,g9⟩:=bnd g9;refine cv (Mk a0.pat a1 _ hx33) ?_;refine go ?_;obtain ⟨x34,hx34,g9⟩:=bnd g9;refine cv (PD a0.tpl x33 _ hx34) ?_;refine go ?_;exact Yt 28 g9
 ·rw [if_neg (dbf q)] at g9;refine go ?_;exact Yt 28 g9
 refine go ?_;have e:=pur H;subst e;exact rt _
theorem Ek:∀(a0:List Rul) (a1:List Fm) (Yd:Int) out,W5 a0 a1 Yd=some out->∀c,Yh Tryz.f86 0=some c->∀(Q:QT) (tt:Sto),(∀(_u:Unit),out=Sum.inr ()->∀(T:TT) (ss:Sto),T 0=sf K2 a0/\T 1=sf KW a1->Fx tt ss [] []->Q (.ex 0) ⟨T,ss⟩)->(∀r,out=Sum.inl r->∀s',IE KX [.tmp 4] (fun r' ss'=>r'=.bool r/\ss'=tt) s'->Q .ret s')->∀(T:TT) (ss:Sto),T 0=sf K2 a0/\T 1=sf KW a1/\T 5=i6 Yd->Fx tt ss [] []->aLp KX c Q ⟨T,ss⟩:=by
 intro a0 a1 Yd;revert Yd;refine W5.partial_correctness a0 a1 _ ?_;intro W5 IH Yd out H c hc Q tt  hE hR T ss tT hF;refine lpx tt hc rfl fun q hX=>go ?_;obtain ⟨x13,g1,H⟩:=bnd H;refine Ya 2 11 13 (.bool x13) (gi q (fun q=>?_) (fun q=>?_)) (fun J=>?_)
 ·refine go ?_;exact Yt 11 g1
 ·refine go ?_;exact Yt 11 g1
 refine go ?_;refine cdb H (fun h H=>?_) (fun h H=>?_)
 ·obtain ⟨x18,f1,H⟩:=bil (g:=K2) Rul.X5 H;refine go1 ?_;refine bp H (Ni x18 a1) fun x21 h H=>cl h ?_;refine go ?_;refine cdb H (fun h H=>?_) (fun h H=>?_)
  ·refine go ?_;exact wq (hR _ (pur H).symm _ (rt _))
  ·refine go ?_;exact IH  (i64.wrap (Yd+1)) _ H _ rfl Q tt  hE hR _ _  S hF
 ·refine go ?_;exact wq (hE () (pur H).symm _ _  S hF)
theorem CT:∀(a0:List Rul) (a1:List Fm) r,ID a0 a1=some r->Vm KX 86 [sf K2 a0,sf KW a1] (.bool r):=by
 intro a0 a1 r H;intro ss;unfold ID at H;refine hdh mixed Tryz.func86 (rs:=[.tmp 4]) fun q tT hF hX=>?_;refine go ?_;obtain ⟨o3,ho3,H⟩:=bnd H;refine Ek a0 a1 0 _ ho3 _ rfl _ _  ?_ ?_ _ _  S hF
 ·intro _ he T5 ss6 tT hF;have he:=he.symm;subst he
  try dsimp only at H
  refine go ?_;obtain ⟨x29,g8,H⟩:=bnd H;refine Ya 2 27 29 (.bool x29) (gi q (fun q=>?_) (fun q=>?_)) (fun J=>?_)
  ·rw [if_pos (dt q)] at g8;refine go ?_;obtain ⟨x28,hx28,g8⟩:=bnd g8;refine cl (Bq a1 _ hx28) ?_;refine go ?_;exact Yt 27 g8
  ·rw [if_neg (df q)] at g8;refine go ?_;exact Yt 27 g8
  refine go ?_;have e:=pur H;subst e;exact rt _
 ·intro r hr s' hs;subst hr;have e:=pur H;subst e;exact hsq hs
theorem CL:∀(a0:Fm) (X6:List Fm) (Yo:Int) out,VK a0 X6 Yo=some out->∀c,Yh Tryz.f198 0=some c->∀(Q:QT) (tt:Sto) (b1:Nat),(∀(YS:List Fm),out=YS->∀(T:TT) (ss:Sto) (e0v0:AV),T 1=.ptr b1 0/\T 5=e0v0/\T 6=.sl true (rws K2 [])->Fx tt ss [(b1,⟨26,5,[i6 a0.kind,.str a0.name,i6 a0.num,sf cI a0.sc,sf KW a0.kids]⟩)] [⟨e0v0,26,5,rws KW YS⟩]->Q (.ex 0) ⟨T,ss⟩)->True->∀(T:TT) (ss:Sto) (z0v0:AV),T 1=.ptr b1 0/\T 5=z0v0/\T 6=.sl true (rws K2 [])/\T 7=i6 Yo->Fx tt ss [(b1,⟨26,5,[i6 a0.kind,.str a0.name,i6 a0.num,sf cI a0.sc,sf KW a0.kids]⟩)] [⟨z0v0,26,5,rws KW X6⟩]->aLp KX c Q ⟨T,ss⟩:=by
 intro a0 X6 Yo;revert X6 Yo;refine VK.partial_correctness a0 _ ?_;intro VK IH X6 Yo out H c hc Q tt b1 hE hR T ss z0v0 tT hF;obtain rfl:=lpe (rfl:Yh Tryz.f198 0=some _) hc;refine Yc ?_;have q:=dum;have hX:=Tau.none tt;obtain ⟨x46,f1,H⟩:=bil (g:=KW) Fm.X5 H;refine go1 ?_;refine go ?_;refine cdp H (fun h H=>?_) (fun h H=>?_)
 ·obtain ⟨x56,f1,H⟩:=bil (g:=KW) Fm.X5 H;obtain ⟨x60,f2,H⟩:=bil (g:=KW) Fm.X5 H;refine go2 ?_;refine bp H (VQ x60) fun x62 h H=>cl h ?_;refine go ?_;refine apd (g:=KW) hF 0 H (rdo (c:=true) (g:=KW) Fm.X5) fun x64 H v11 s12 hF=>?_;refine go ?_;exact IH  x64 (i64.wrap (Yo+1)) _ H _ rfl Q tt b1 hE hR _ _ v11 S hF
 ·refine go ?_;exact wq (hE _ (pur H).symm _ _ z0v0 S hF)
theorem CM:∀(a0:Fm) (Bh:List Fm) (IZ:List Rul) (Ww:Int) out,VL a0 Bh IZ Ww=some out->∀c,Yh Tryz.f198 1=some c->∀(Q:QT) (tt:Sto) (b1:Nat) (e14v0:AV),(∀(Qa1:List Rul),out=Sum.inr Qa1->∀(T:TT) (ss:Sto) (e1v1:AV),T 5=e14v0/\T 6=e1v1->Fx tt ss [(b1,⟨26,5,[i6 a0.kind,.str a0.name,i6 a0.num,sf cI a0.sc,sf KW a0.kids]⟩)] [⟨e1v1,116,10,rws K2 Qa1⟩,⟨e14v0,26,5,rws KW Bh⟩]->Q (.ex 2) ⟨T,ss⟩)->(∀r,out=Sum.inl r->∀s',IE KX [.tmp 2,.tmp 3,.tmp 4] (fun r' ss'=>r'=.tup [sf KW r.1,sf K2 r.2.1,.bool r.2.2]/\ss'=tt) s'->Q .ret s')->∀(T:TT) (ss:Sto) (z1v1:AV),T 1=.ptr b1 0/\T 5=e14v0/\T 6=z1v1/\T 8=i6 Ww->Fx tt ss [(b1,⟨26,5,[i6 a0.kind,.str a0.name,i6 a0.num,sf cI a0.sc,sf KW a0.kids]⟩)] [⟨z1v1,116,10,rws K2 IZ⟩,⟨e14v0,26,5,rws KW Bh⟩]->aLp KX c Q ⟨T,ss⟩:=by
 intro a0 Bh IZ Ww;revert IZ Ww;refine VL.partial_correctness a0 Bh _ ?_;intro VL IH IZ Ww out H c hc Q tt b1 e14v0 hE hR T ss z1v1 tT hF;refine lpx tt hc rfl fun q hX=>go ?_;refine cdp H (fun h H=>?_) (fun h H=>?_)
 ·obtain ⟨x75,f1,H⟩:=bil (g:=KW) Fm.X5 H;refine go1 ?_;obtain ⟨x88,g18,H⟩:=bnd H;refine Ya 8 80 88 (.bool x88) (giN q (fun q=>?_) (fun q=>?_)) (fun J=>?_)
  ·rw [if_pos (dnf q)] at g18;obtain ⟨x83,f1,g18⟩:=bil (g:=KW) Fm.X5 g18;refine go1 ?_;refine go ?_;exact Yt 80 g18
  ·rw [if_neg (dnt q)] at g18;refine go ?_;exact Yt 80 g18
  refine go ?_;refine cdb H (fun h H=>?_) (fun h H=>?_)
  ·refine go ?_;exact wq (hR _ (pur H).symm _ (rt _))
  ·refine go ?_;refine Yf E0 [.v,.v,.v,.v,.v,.v,.v,.v,.v,.v,.v,.v,.v,.v,.v,.v,.v,.v,.v,.v,.v,.x,.v] (by kernel_rfl) ?_;obtain ⟨x95,f1,H⟩:=bil (g:=KW) Fm.X5 H;obtain ⟨x98,f2,H⟩:=bil (g:=KW) Fm.X5 H;refine go2 ?_;refine bp H (VQ x98) fun x100 h H=>cv h ?_;obtain ⟨x104,f1,H⟩:=bil (g:=KW) Fm.X5 H;obtain ⟨x107,f2,H⟩:=bil (g:=KW) Fm.X5 H;refine go2 ?_;refine bp H (VQ x107) fun x109 h H=>cv h ?_;refine go ?_;refine PT (g:=K2) hF 0 H (rdo (c:=true) (g:=K2) Rul.X5) fun x112 H v20 s21 hF=>?_;refine go ?_;exact IH  x112 (i64.wrap (Ww+1)) _ H _ rfl Q tt b1 e14v0 hE hR _ _ v20 S hF
 ·refine go ?_;exact wq (hE _ (pur H).symm _ _ z1v1 S hF)
theorem Eg:∀(a0:Fm) r,GH a0=some r->Vm KX 198 [.agg (KW a0)] (.tup [sf KW r.1,sf K2 r.2.1,.bool r.2.2]):=by
 intro a0 r H;intro ss;unfold GH at H;refine hdh mixed Tryz.func198 (rs:=[.tmp 2,.tmp 3,.tmp 4]) fun q tT hF hX=>?_;refine go ?_;refine X8 hF rfl fun b1 ss2 hF=>?_;refine go ?_;refine bp H (Yz a0) fun x12 h H=>cl h ?_;refine go ?_;obtain ⟨x18,g3,H⟩:=bnd H;refine Ya 3 15 18 (.bool x18) (giN q (fun q=>?_) (fun q=>?_)) (fun J=>?_)
 ·refine go ?_;exact Yt 15 g3
 ·refine go ?_;exact Yt 15 g3
 refine go ?_;obtain ⟨x24,g5,H⟩:=bnd H;refine Ya 4 20 24 (.bool x24) (giN q (fun q=>?_) (fun q=>?_)) (fun J=>?_)
 ·refine go ?_;exact Yt 20 g5
 ·refine go ?_;exact Yt 20 g5
 refine go ?_;obtain ⟨x32,g7,H⟩:=bnd H;refine Ya 6 26 32 (.bool x32) (giN q (fun q=>?_) (fun q=>?_)) (fun J=>?_)
 ·rw [if_neg (dbf q)] at g7;obtain ⟨x28,f1,g7⟩:=bil (g:=KW) Fm.X5 g7;refine go1 ?_;refine go ?_;exact Yt 26 g7
 ·rw [if_pos (dbt q)] at g7;refine go ?_;exact Yt 26 g7
 refine go ?_;obtain ⟨x40,g9,H⟩:=bnd H;refine Ya 6 34 40 (.bool x40) (giN q (fun q=>?_) (fun q=>?_)) (fun J=>?_)
 ·rw [if_neg (dbf q)] at g9;obtain ⟨x36,f1,g9⟩:=bil (g:=KW) Fm.X5 g9;refine go1 ?_;refine go ?_;exact Yt 34 g9
 ·rw [if_pos (dbt q)] at g9;refine go ?_;exact Yt 34 g9
 refine go ?_;refine cdb H (fun h H=>?_) (fun h H=>?_)
 ·refine go ?_;have e:=pur H;subst e;exact rt _
 ·have hF:=hF.lit 26 5 (rws KW []) rfl;refine go ?_;obtain ⟨o13,ho13,H⟩:=bnd H;refine CL a0 [] 0 _ ho13 _ rfl _ _ b1 ?_ ?_ _ _ (.sl true (rws KW [])) S hF
  ·intro Bh he T15 s16 e14v0 tT hF;have he:=he.symm;subst he;have hF:=hF.lit 116 10 (rws K2 []) rfl;refine go ?_;obtain ⟨o22,ho22,H⟩:=bnd H;refine CM a0 Bh [] 2 _ ho22 _ rfl _ _ b1 e14v0 ?_ ?_ _ _ (.sl true (rws K2 [])) S hF
   ·intro Sj he T24 s25 e23v1 tT hF;have he:=he.symm;subst he
    try dsimp only at H
    refine go ?_;obtain ⟨x115,hx115,H⟩:=bnd H;refine BJ (CT Sj Bh _ hx115) .bool (.cons ((hF.wk 0 rfl).trans (Wk.sub (Sub.zero _) _)) (fun _=>rfl) (.cons ((hF.wk 1 rfl).trans (Wk.sub (Sub.zero _) _)) (fun _=>rfl) .nil)) ?_;refine go ?_;refine cdb H (fun h H=>?_) (fun h H=>?_)
    ·refine go ?_;have e:=pur H;subst e;exact rt _
    ·refine go ?_;have e:=pur H;subst e;exact rt _
   ·intro r hr s' hs;subst hr;have e:=pur H;subst e;exact hsq hs
  ·trivial
theorem M9:∀(a0:List Bnd) (a1 a2:Fm) r,AW a0 a1 a2=some r->Vm KX 212 [sf KY a0,.agg (KW a1),.agg (KW a2)] (.bool r):=by
 intro a0 a1 a2 r H;intro ss;unfold AW at H;refine hdh mixed Tryz.func212 (rs:=[.tmp 6]) fun q tT hF hX=>?_;refine go ?_;refine X8 hF rfl fun b1 ss2 hF=>?_;refine go ?_;refine X8 hF rfl fun b3 ss4 hF=>?_;refine go ?_;refine bp H (BF a0 a1) fun x14 h H=>cl h ?_;refine go ?_;refine bp H (BF a0 a2) fun x20 h H=>cl h ?_;refine go ?_;obtain ⟨x29,g5,H⟩:=bnd H;refine Ya 2 27 29 (.bool x29) (giN q (fun q=>?_) (fun q=>?_)) (fun J=>?_)
 ·refine go ?_;exact Yt 27 g5
 ·refine go ?_;exact Yt 27 g5
 refine go ?_;refine cdb H (fun h H=>?_) (fun h H=>?_)
 ·refine go ?_;have e:=pur H;subst e;exact rt _
 ·refine go ?_;refine cdp H (fun h H=>?_) (fun h H=>?_)
  ·refine go ?_;have e:=pur H;subst e;exact rt _
  ·refine go ?_;refine Yf E0 [.v,.v,.v,.v,.v,.v,.v,.v,.v,.v,.v,.v] (by kernel_rfl) ?_;obtain ⟨x39,f1,H⟩:=bil (g:=KY) Bnd.X5 H;obtain ⟨x44,f2,H⟩:=bil (g:=KY) Bnd.X5 H;refine go2 ?_;refine go ?_;have e:=pur H;subst e;exact rt _
theorem F2:∀(a0:Fm) (a2:List (List Hit)) (x17:List Fm) (x21:List Int) (X6:List Hit) (YU:Int) (x30:Fm) (x34:Int) (IZ:List Hit) (Hj:Int) out,WV a0 a2 x17 x21 X6 YU x30 x34 IZ Hj=some out->∀c,Yh Tryz.f218 1=some c->∀(Q:QT) (tt:Sto) (b1 b9:Nat) (z0v0:AV),(∀(Qa1:List Hit),out=Qa1->∀(T:TT) (ss:Sto) (e1v1:AV),T 2=sf (cL KZ) a2/\T 7=z0v0/\T 8=sf KW x17/\T 9=sf cI x21/\T 10=i6 YU/\T 11=.ptr b9 0->Fx tt ss [(b9,⟨195,12,[i6 x30.kind,.str x30.name,i6 x30.num,sf cI x30.sc,sf KW x30.kids,i6 (i64.wrap (x34+1)),i6 0,.str zB,i6 0,.Yb,.Yb,e1v1]⟩),(b1,⟨26,5,[i6 a0.kind,.str a0.name,i6 a0.num,sf cI a0.sc,sf KW a0.kids]⟩)] [⟨e1v1,195,12,rws KZ Qa1⟩,⟨z0v0,195,12,rws KZ X6⟩]->Q (.ex 2) ⟨T,ss⟩)->True->∀(T:TT) (ss:Sto) (z1v1:AV),T 2=sf (cL KZ) a2/\T 7=z0v0/\T 8=sf KW x17/\T 9=sf cI x21/\T 10=i6 YU/\T 11=.ptr b9 0/\T 12=i6 Hj->Fx tt ss [(b9,⟨195,12,[i6 x30.kind,.str x30.name,i6 x30.num,sf cI x30.sc,sf KW x30.kids,i6 (i64.wrap (x34+1)),i6 0,.str zB,i6 0,.Yb,.Yb,z1v1]⟩),(b1,⟨26,5,[i6 a0.kind,.str a0.name,i6 a0.num,sf cI a0.sc,sf KW a0.kids]⟩)] [⟨z1v1,195,12,rws KZ IZ⟩,⟨z0v0,195,12,rws KZ X6⟩]->aLp KX c Q ⟨T,ss⟩:=by
 intro a0 a2 x17 x21 X6 YU x30 x34 IZ Hj;revert IZ Hj;refine WV.partial_correctness a0 a2 x17 x21 X6 YU x30 x34 _ ?_;intro WV IH IZ Hj out H c hc Q tt b1 b9 z0v0 hE hR T ss z1v1 tT hF;refine lpx tt hc rfl fun q hX=>go ?_;refine cdp H (fun h H=>?_) (fun h H=>?_)
 ·refine go ?_;refine Yf E0 [.v,.v,.v,.v,.v,.v,.v,.v,.v,.v,.x,.v,.z] (by kernel_rfl) ?_;obtain ⟨x48,f1,H⟩:=bil (g:=(cL KZ)) (fun _=>rfl) H;obtain ⟨x51,f2,H⟩:=bil (g:=KZ) Hit.X5 H;refine go2 ?_;refine PT (g:=KZ) hF 0 H (rdo (c:=true) (g:=KZ) Hit.X5) fun x54 H v12 s13 hF=>?_;refine go ?_;refine st hF 0 (hF.cells 0 rfl) fun s14 hF=>?_;refine go ?_;exact IH  x54 (i64.wrap (Hj+1)) _ H _ rfl Q tt b1 b9 z0v0 hE hR _ _ v12 S hF
 ·refine go ?_;exact wq (hE _ (pur H).symm _ _ z1v1 S hF)
theorem F1:∀(a0:Fm) (a2:List (List Hit)) (x17:List Fm) (x21:List Int) (X6:List Hit) (YU:Int) out,Jq a0 a2 x17 x21 X6 YU=some out->∀c,Yh Tryz.f218 0=some c->∀(Q:QT) (tt:Sto) (b1:Nat),(∀(YS:List Hit),out=YS->∀(T:TT) (ss:Sto) (e0v0:AV),T 7=e0v0->Fx tt ss [(b1,⟨26,5,[i6 a0.kind,.str a0.name,i6 a0.num,sf cI a0.sc,sf KW a0.kids]⟩)] [⟨e0v0,195,12,rws KZ YS⟩]->Q (.ex 0) ⟨T,ss⟩)->True->∀(T:TT) (ss:Sto) (z0v0:AV),T 2=sf (cL KZ) a2/\T 7=z0v0/\T 8=sf KW x17/\T 9=sf cI x21/\T 10=i6 YU->Fx tt ss [(b1,⟨26,5,[i6 a0.kind,.str a0.name,i6 a0.num,sf cI a0.sc,sf KW a0.kids]⟩)] [⟨z0v0,195,12,rws KZ X6⟩]->aLp KX c Q ⟨T,ss⟩:=by
 intro a0 a2 x17 x21 X6 YU;revert X6 YU;refine Jq.partial_correctness a0 a2 x17 x21 _ ?_;intro Jq IH X6 YU out H c hc Q tt b1 hE hR T ss z0v0 tT hF;refine lpx tt hc rfl fun q hX=>go ?_;refine cdp H (fun h H=>?_) (fun h H=>?_)
 ·refine go ?_;refine Yf E0 [.v,.v,.v,.v,.v,.v,.v,.v,.v,.v,.x,.z] (by kernel_rfl) ?_;obtain ⟨x30,f1,H⟩:=bil (g:=KW) Fm.X5 H;obtain ⟨x34,f2,H⟩:=bil (g:=cI) (fun _=>rfl) H;refine go2 ?_;refine WH hF rfl fun b9 s10 hF=>?_;refine go ?_;refine st hF 0 rfl fun s11 hF=>?_;have hF:=hF.nil 195 12;refine go ?_;obtain ⟨o15,ho15,H⟩:=bnd H;refine F2 a0 a2 x17 x21 X6 YU x30 x34 [] 0 _ ho15 _ rfl _ _ b1 b9 z0v0 ?_ ?_ _ _ .Yb S hF
  ·intro Si he T17 s18 e16v1 tT hF;have he:=he.symm;subst he;refine go ?_;refine Qnr (g:=KZ) (rows:=[[i6 x30.kind,.str x30.name,i6 x30.num,sf cI x30.sc,sf KW x30.kids,i6 (i64.wrap (x34+1)),i6 0,.str zB,i6 0,.Yb,.Yb,e16v1]]) hF 1 0 0 H Hit.X5 true rfl (by simp only [sf,i6,zB,Y8,Vu,cI,cU,cS,cL,Hit.X9,Fm.X9,Zq,Zr,Fm.num,Fm.sc,Zs,Zh,K9,Zt,Zi,Zj,Zz,Zk,Zu,Zv,Zl,Zm,Zn,Zw,Zo,Za,ZA,Zx,ZB,Zy,Qr,K4,KJ,Kh,QS];exact (.wk (.refl _) id (.wk (.refl _) id (.wk (.refl _) id (.wk (.refl _) id (.wk (.refl _) id (.wk (.refl _) id (.wk (.refl _) id (.wk (.refl _) id (.wk (.refl _) id (.wk .Yb (fun _=>rfl) (.wk .Yb (fun _=>rfl) (.own .nil))))))))))))) fun x59 H v20 s21 hF=>?_;refine go ?_;exact IH  x59 (i64.wrap (YU+1)) _ H _ rfl Q tt b1 hE hR _ _ v20 S (hF.drop 1 0)
  ·trivial
 ·refine go ?_;exact wq (hE _ (pur H).symm _ _ z0v0 S hF)
theorem Ox:∀(a0:Fm) (a1:List Fm) (a2:List (List Hit)) r,AE a0 a1 a2=some r->Vm KX 218 [.agg (KW a0),sf KW a1,sf (cL KZ) a2] (sf KZ r):=by
 intro a0 a1 a2 r H;intro ss;unfold AE at H;refine hdh mixed Tryz.func218 (rs:=[.tmp 6]) fun q tT hF hX=>?_;refine go ?_;refine X8 hF rfl fun b1 ss2 hF=>?_;have hF:=hF.lit 26 5 (rws KW []) rfl;refine go ?_;obtain ⟨x17,hx17,H⟩:=bnd H;refine cx (BG [] a0 a1 _ hx17  (.sl true (rws KW [])) _ (pre 0 0 1 hF hX)) ?_;rintro _ ss3 ⟨t4,rfl,hT,hG⟩;have hF:=DC 0 1 hF hX hT hG;have hF:=hF.lit 3 1 (rws cI []) rfl;refine go ?_;obtain ⟨x21,hx21,H⟩:=bnd H;refine cx (Aq [] a0 a1 0 _ hx21  (.sl true (rws cI [])) _ (pre 0 0 1 hF hX)) ?_;rintro _ ss6 ⟨t7,rfl,hT,hG⟩;have hF:=DC 0 1 hF hX hT hG;have hF:=hF.lit 195 12 (rws KZ []) rfl;refine go ?_;obtain ⟨o22,ho22,H⟩:=bnd H;refine F1 a0 a2 x17 x21 [] 0 _ ho22 _ rfl _ _ b1 ?_ ?_ _ _ (.sl true (rws KZ [])) S hF
 ·intro Ph he T24 s25 e23v0 tT hF;have he:=he.symm;subst he;refine go ?_;have e:=pur H;subst e;exact rt _
 ·trivial
theorem E6:∀(a0:List Bnd) (a1 a2 a3:List Fm) (Wc GS:Int) out,WU a0 a1 a2 a3 Wc GS=some out->∀c,Yh Tryz.f213 0=some c->∀(Q:QT) (tt:Sto),(∀(Qfg:Int),out=Qfg->∀(T:TT) (ss:Sto),T 0=sf KY a0/\T 1=sf KW a1/\T 2=sf KW a2/\T 3=sf KW a3/\T 10=.sl true (rws KZ [])/\T 11=i6 Qfg->Fx tt ss [] []->Q (.ex 0) ⟨T,ss⟩)->True->∀(T:TT) (ss:Sto),T 0=sf KY a0/\T 1=sf KW a1/\T 2=sf KW a2/\T 3=sf KW a3/\T 10=.sl true (rws KZ [])/\T 11=i6 Wc/\T 12=i6 GS->Fx tt ss [] []->aLp KX c Q ⟨T,ss⟩:=by
 intro a0 a1 a2 a3 Wc GS;revert Wc GS;refine WU.partial_correctness a0 a1 a2 a3 _ ?_;intro WU IH Wc GS out H c hc Q tt  hE hR T ss tT hF;refine lpx tt hc rfl fun q hX=>go ?_;refine cdp H (fun h H=>?_) (fun h H=>?_)
 ·obtain ⟨x32,f1,H⟩:=bil (g:=KW) Fm.X5 H;refine go1 ?_;refine bp H (Vr x32) fun x34 h H=>cl h ?_;refine go ?_;refine cdb H (fun h H=>?_) (fun h H=>?_)
  ·refine go ?_;exact IH  GS (i64.wrap (GS+1)) _ H _ rfl Q tt  hE hR _ _  S hF
  ·refine go ?_;exact IH  Wc (i64.wrap (GS+1)) _ H _ rfl Q tt  hE hR _ _  S hF
 ·refine go ?_;exact wq (hE _ (pur H).symm _ _  S hF)
end Go.Proofs.SA
