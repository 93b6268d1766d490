/- Printed by a program of mine: the plain functions that the code computes (D), and the walks that show it (W). -/
import Derived.Test.YtiiamkelehfnoaaGreatGx
import Derived.Test.YtiiamkelehfnoaaGreatSaTy
import Derived.Test.YtiiamkelehfnoaaGreatLg
import Derived.Test.YtiiamkelehfnoaaGreatChecked
import Derived.Lib.Strings
import Derived.Lib.Slices
import Derived.Lib.Walk
import Derived.Lib.Bytealg
import Derived.Test.YtiiamkelehfnoaaGreatmeD
set_option maxRecDepth 100000
set_option maxHeartbeats 2000000
set_option linter.unusedSimpArgs false
set_option linter.unusedVariables false
open Go Go.Proofs Go.Proofs.Shadow
open Fm renaming cells → KY, kind → Zn, name → Zo, kids → Zp
open Tryz renaming prog → KZ
open _root_.ByteArray renaming mk → Qk
open Bnd renaming cells → K0
open Hit renaming cells → K1, depth → Za, name → Ze, many → Zf, one → Zq
open Fx renaming refl → K2, self → K4, kept → K9
open _root_.And renaming intro → K3
open Rul renaming cells → K5
open _root_.List renaming not_mem_nil → KE, mem_cons → Kj, flatten_cons → Qr, flatten_nil → K7, cons_append → Kh, append_nil → KI, nil_append → QS
open EE renaming not → K6, of → Zd, new → Zm
open Xpn renaming cells → K8
open Val renaming items → Zb, kind → Zk, name → Zl, num → Zt, env → Zu, fn → Zx
open Mac renaming cells → Zc
open Cor renaming kind → Zg, name → Zh, data → Zi, kids → Zj, num → Zr, ids → Zs, id → Zw
open Slt renaming val → Zv, id → Zy
open Go.IntKind (i64)
namespace Go.Proofs.SA
theorem Cm:∀(a0:List Int) r,I0 a0=some r->∀   (σ:Sto),Pre σ [] []->Ctr KZ 22 [sf cU a0] σ (fun r' ss'=>∃(tt':Sto) (n0:Nat),r'=.ptr n0 0/\Tau (strip σ []) [] tt'/\Fx tt' ss' [(n0,⟨89,2,[sf cU r.b,i6 r.p]⟩)] []):=by
 intro a0 r H;intro   σ hP;unfold I0 at H;refine hdg mixed Tryz.func22 (rs:=[.tmp 2]) fun q tT=>?_;obtain ⟨hF,hX⟩:=hP.start;generalize strip σ []=tt0 at hF hX ⊢;refine go ?_;refine cdp H (fun h H=>?_) (fun h H=>?_)
 ·obtain ⟨x7,f1,H⟩:=bls (g:=cU) (fun _=>rfl) (lo:=none) (hi:=some (i6 2000)) rfl rfl H;refine go1 ?_;refine go ?_;refine Ya hF rfl fun b1 ss2 hF=>?_;refine go ?_;have e:=pur H;subst e;exact rg _ ⟨_,_,rfl,hX,hF.pick [0] [] (by decide) (by decide)⟩
 ·refine go ?_;refine Ya hF rfl fun b3 ss4 hF=>?_;refine go ?_;have e:=pur H;subst e;exact rg _ ⟨_,_,rfl,hX,hF.pick [0] [] (by decide) (by decide)⟩
theorem O8:∀  r,CX  = some r->VK KZ 140 [] (sf cS r):=by
 intro  r H;intro σ;unfold CX at H;refine hdg mixed Tryz.func140 (rs:=[.tmp 0]) fun q tT=>?_;have hF:=K2 σ;have hX:=Tau.none σ;refine goL ?_;have e:=pur H;subst e;exact rt _
theorem Yw:∀(a1:Int) (c0:Rdr) r,Yv a1 c0=some r->∀(e0:Nat)  (σ:Sto),Pre σ [(e0,⟨89,2,[sf cU c0.b,i6 c0.p]⟩)] []->Ctr KZ 24 [.ptr e0 0,i6 a1] σ (fun r' ss'=>∃(tt':Sto),r'=i6 r.1/\Tau (strip σ []) [(e0,⟨89,2,[sf cU r.2.b,i6 r.2.p]⟩)] tt'/\Fx tt' ss' [] []):=by
 intro a1 c0 r H;intro e0  σ hP;unfold Yv at H;refine hdg mixed Tryz.func24 (rs:=[.tmp 4]) fun q tT=>?_;obtain ⟨hF,hX⟩:=hP.start;generalize strip σ []=tt0 at hF hX ⊢;refine go ?_;refine stT hF hX 0 rfl fun tt2 ss1 hF hX=>?_;refine go ?_;obtain ⟨x24,g3,H⟩:=bnd H;refine Yc 6 18 24 (.bool x24) (giN q (fun q=>?_) (fun q=>?_)) (fun J=>?_)
 ·refine go ?_;exact Yr 18 g3
 ·refine go ?_;exact Yr 18 g3
 refine go ?_;refine cdb H (fun h H=>?_) (fun h H=>?_)
 ·refine go ?_;have e:=pur H;subst e;exact rg _ ⟨_,rfl,hX,K4 _⟩
 ·refine go ?_;refine cdp H (fun h H=>?_) (fun h H=>?_)
  ·obtain ⟨x42,f1,H⟩:=bil (g:=cU) (fun _=>rfl) H;obtain ⟨x46,f2,H⟩:=brm H;refine go2 ?_;refine go ?_;have e:=pur H;subst e;exact rg _ ⟨_,rfl,hX,K4 _⟩
  ·refine go ?_;refine Yj E0 [.v,.v,.v,.v,.v,.v,.v,.v,.v,.v,.v,.v,.v,.v,.v,.v,.v,.v,.v,.v,.v,.v,.v,.v,.v,.v,.v,.v,.v,.v,.v,.v,.v,.v,.v,.v,.v,.v,.v,.v,.v,.v,.v,.v,.v,.v] (by kernel_rfl) ?_;obtain ⟨x57,f1,H⟩:=brm H;obtain ⟨x58,f2,H⟩:=bil (g:=cU) (fun _=>rfl) H;obtain ⟨x74,f3,H⟩:=brm H;obtain ⟨x75,f4,H⟩:=bil (g:=cU) (fun _=>rfl) H;obtain ⟨x89,f5,H⟩:=bqu H;refine go5 ?_;obtain ⟨x98,f1,H⟩:=brm H;refine go1 ?_;refine go ?_;have e:=pur H;subst e;exact rg _ ⟨_,rfl,hX,K4 _⟩
theorem MC:∀(a0:ByteArray) (I6:Int) out,GC a0 I6=some out->∀c,Yg Tryz.f178 0=some c->∀(Q:QT) (tt:Sto),(∀(Tl:Int),out=Tl->∀(T:TT) (σ:Sto),T 1=i6 Tl->Fx tt σ [] []->Q (.ex 0) ⟨T,σ⟩)->True->∀(T:TT) (σ:Sto),T 0=.str a0/\T 1=i6 I6->Fx tt σ [] []->aLp KZ c Q ⟨T,σ⟩:=by
 intro a0 I6;revert I6;refine GC.partial_correctness a0 _ ?_;intro GC IH I6 out H c hc Q tt  hE hR T σ tT hF;refine lpx tt hc rfl fun q hX=>go ?_;obtain ⟨x14,g1,H⟩:=bnd H;refine Yc 4 10 14 (.bool x14) (gi q (fun q=>?_) (fun q=>?_)) (fun J=>?_)
 ·rw [if_pos (dt q)] at g1;obtain ⟨x12,f1,g1⟩:=bsx g1;refine go1 ?_;refine go ?_;exact Yr 10 g1
 ·rw [if_neg (df q)] at g1;refine go ?_;exact Yr 10 g1
 refine go ?_;refine cdb H (fun h H=>?_) (fun h H=>?_)
 ·refine go ?_;exact IH  (i64.wrap (I6+1)) _ H _ rfl Q tt  hE hR _ _  S hF
 ·refine go ?_;exact wq (hE _ (pur H).symm _ _  S hF)
theorem BA:∀(a0:ByteArray) (a1:Int) r,I3 a0 a1=some r->VK KZ 178 [.str a0,i6 a1] (i6 r):=by
 intro a0 a1 r H;intro σ;unfold I3 at H;refine hdg mixed Tryz.func178 (rs:=[.tmp 4]) fun q tT=>?_;have hF:=K2 σ;have hX:=Tau.none σ;refine go ?_;obtain ⟨o3,ho3,H⟩:=bnd H;refine MC a0 a1 _ ho3 _ rfl _ _  ?_ ?_ _ _  S hF
 ·intro Qmu he T5 ss6 tT hF;have he:=he.symm;subst he;refine go ?_;have e:=pur H;subst e;exact rt _
 ·trivial
theorem MD:∀(a0:ByteArray) (I6:Int) out,GD a0 I6=some out->∀c,Yg Tryz.f206 0=some c->∀(Q:QT) (tt:Sto),(∀(Tl:Int),out=Tl->∀(T:TT) (σ:Sto),T 1=i6 Tl->Fx tt σ [] []->Q (.ex 0) ⟨T,σ⟩)->True->∀(T:TT) (σ:Sto),T 0=.str a0/\T 1=i6 I6->Fx tt σ [] []->aLp KZ c Q ⟨T,σ⟩:=by
 intro a0 I6;revert I6;refine GD.partial_correctness a0 _ ?_;intro GD IH I6 out H c hc Q tt  hE hR T σ tT hF;refine lpx tt hc rfl fun q hX=>go ?_;obtain ⟨x14,g1,H⟩:=bnd H;refine Yc 4 10 14 (.bool x14) (gi q (fun q=>?_) (fun q=>?_)) (fun J=>?_)
 ·rw [if_pos (dt q)] at g1;obtain ⟨x12,f1,g1⟩:=bsx g1;refine go1 ?_;refine go ?_;exact Yr 10 g1
 ·rw [if_neg (df q)] at g1;refine go ?_;exact Yr 10 g1
 refine go ?_;obtain ⟨x20,g3,H⟩:=bnd H;refine Yc 4 16 20 (.bool x20) (gi q (fun q=>?_) (fun q=>?_)) (fun J=>?_)
 ·rw [if_pos (dbt q)] at g3;obtain ⟨x18,f1,g3⟩:=bsx g3;refine go1 ?_;refine go ?_;exact Yr 16 g3
 ·rw [if_neg (dbf q)] at g3;refine go ?_;exact Yr 16 g3
 refine go ?_;obtain ⟨x26,g5,H⟩:=bnd H;refine Yc 4 22 26 (.bool x26) (gi q (fun q=>?_) (fun q=>?_)) (fun J=>?_)
 ·rw [if_pos (dbt q)] at g5;obtain ⟨x24,f1,g5⟩:=bsx g5;refine go1 ?_;refine go ?_;exact Yr 22 g5
 ·rw [if_neg (dbf q)] at g5;refine go ?_;exact Yr 22 g5
 refine go ?_;obtain ⟨x32,g7,H⟩:=bnd H;refine Yc 4 28 32 (.bool x32) (gi q (fun q=>?_) (fun q=>?_)) (fun J=>?_)
 ·rw [if_pos (dbt q)] at g7;obtain ⟨x30,f1,g7⟩:=bsx g7;refine go1 ?_;refine go ?_;exact Yr 28 g7
 ·rw [if_neg (dbf q)] at g7;refine go ?_;exact Yr 28 g7
 refine go ?_;refine cdb H (fun h H=>?_) (fun h H=>?_)
 ·refine go ?_;exact IH  (i64.wrap (I6+1)) _ H _ rfl Q tt  hE hR _ _  S hF
 ·refine go ?_;exact wq (hE _ (pur H).symm _ _  S hF)
theorem PW:∀(a0:ByteArray) (a1:Int) r,Cp a0 a1=some r->VK KZ 206 [.str a0,i6 a1] (i6 r):=by
 intro a0 a1 r H;intro σ;unfold Cp at H;refine hdg mixed Tryz.func206 (rs:=[.tmp 4]) fun q tT=>?_;have hF:=K2 σ;have hX:=Tau.none σ;refine go ?_;obtain ⟨o9,ho9,H⟩:=bnd H;refine MD a0 a1 _ ho9 _ rfl _ _  ?_ ?_ _ _  S hF
 ·intro Qgo he T11 s12 tT hF;have he:=he.symm;subst he;refine go ?_;have e:=pur H;subst e;exact rt _
 ·trivial
theorem My:∀(x14:Bool) (D2:ByteArray) (Yl YX:Int) out,Gr x14 D2 Yl YX=some out->∀c,Yg Tryz.f207 0=some c->∀(Q:QT) (tt:Sto),(∀(Qgm:Int),out=Sum.inr Qgm->∀(T:TT) (σ:Sto),T 4=.bool x14/\T 5=i6 Qgm->Fx tt σ [] []->Q (.ex 0) ⟨T,σ⟩)->(∀r,out=Sum.inl r->∀s',I7 KZ [.tmp 2,.tmp 3] (fun r' ss'=>r'=.tup [i6 r.1,.bool r.2]/\ss'=tt) s'->Q .ret s')->∀(T:TT) (σ:Sto),T 0=.str D2/\T 4=.bool x14/\T 5=i6 Yl/\T 6=i6 YX->Fx tt σ [] []->aLp KZ c Q ⟨T,σ⟩:=by
 intro x14 D2 Yl YX;revert Yl YX;refine Gr.partial_correctness x14 D2 _ ?_;intro Gr IH Yl YX out H c hc Q tt  hE hR T σ tT hF;refine lpx tt hc rfl fun q hX=>go ?_;refine cdp H (fun h H=>?_) (fun h H=>?_)
 ·obtain ⟨x47,f1,H⟩:=bsx H;refine go1 ?_;obtain ⟨x54,g16,H⟩:=bnd H;refine Yc 4 50 54 (.bool x54) (giN q (fun q=>?_) (fun q=>?_)) (fun J=>?_)
  ·rw [if_neg (df q)] at g16;obtain ⟨x52,f1,g16⟩:=bsx g16;refine go1 ?_;refine go ?_;exact Yr 50 g16
  ·rw [if_pos (dt q)] at g16;refine go ?_;exact Yr 50 g16
  refine go ?_;refine cdb H (fun h H=>?_) (fun h H=>?_)
  ·refine go ?_;exact wq (hR _ (pur H).symm _ (rt _))
  ·obtain ⟨x59,f1,H⟩:=bsx H;refine go1 ?_;refine go ?_;exact IH  (i64.wrap ((i64.wrap (Yl * 10))+(i64.wrap (IntKind.u8.wrap (x59 - 48))))) (i64.wrap (YX+1)) _ H _ rfl Q tt  hE hR _ _  S hF
 ·refine go ?_;exact wq (hE _ (pur H).symm _ _  S hF)
theorem Fw:∀(a0:ByteArray) r,Bp a0=some r->VK KZ 207 [.str a0] (.tup [i6 r.1,.bool r.2]):=by
 intro a0 r H;intro σ;unfold Bp at H;refine hdg mixed Tryz.func207 (rs:=[.tmp 2,.tmp 3]) fun q tT=>?_;have hF:=K2 σ;have hX:=Tau.none σ;refine go ?_;obtain ⟨x14,g1,H⟩:=bnd H;refine Yc 3 11 14 (.bool x14) (gi q (fun q=>?_) (fun q=>?_)) (fun J=>?_)
 ·rw [if_pos (dt q)] at g1;obtain ⟨x12,f1,g1⟩:=bsx g1;refine go1 ?_;refine go ?_;exact Yr 11 g1
 ·rw [if_neg (df q)] at g1;refine go ?_;exact Yr 11 g1
 refine go ?_;obtain ⟨D2,j4,H⟩:=bnd H;refine Wq (fun s'=>∃(T:TT) (ss1:Sto),s'=⟨T,ss1⟩/\(T 0=.str D2/\T 4=.bool x14)/\Fx σ ss1 [] []) (cdb j4 (fun h j4=>?_) (fun h j4=>?_)) ?_
 ·obtain ⟨x17,f1,j4⟩:=bss (lo:=some (i6 1)) (hi:=none) rfl rfl j4;refine go1 ?_;refine go ?_;have e:=pur j4;subst e;exact ⟨_,_,rfl,S,hF⟩
 ·refine go ?_;have e:=pur j4;subst e;exact ⟨_,_,rfl,S,hF⟩
 ·rintro s' ⟨T5,ss6,rfl,tT,hF⟩;refine go ?_;obtain ⟨x25,g8,H⟩:=bnd H;refine Yc 3 22 25 (.bool x25) (giN q (fun q=>?_) (fun q=>?_)) (fun J=>?_)
  ·refine go ?_;exact Yr 22 g8
  ·refine go ?_;exact Yr 22 g8
  refine go ?_;obtain ⟨x38,g10,H⟩:=bnd H;refine Yc 11 27 38 (.bool x38) (giN q (fun q=>?_) (fun q=>?_)) (fun J=>?_)
  ·rw [if_neg (dbf q)] at g10;obtain ⟨x28,f1,g10⟩:=bsx g10;refine go1 ?_;obtain ⟨x37,g12,g10⟩:=bnd g10;refine Yc 6 31 37 (.bool x37) (gi q (fun q=>?_) (fun q=>?_)) (fun J=>?_)
   ·rw [if_pos (dt q)] at g12;refine go ?_;obtain ⟨x36,g14,g12⟩:=bnd g12;refine Yc 1 35 36 (.bool x36) (giN q (fun q=>?_) (fun q=>?_)) (fun J=>?_)
    ·refine go ?_;exact Yr 35 g14
    ·refine go ?_;exact Yr 35 g14
    refine go ?_;exact Yr 31 g12
   ·rw [if_neg (df q)] at g12;refine go ?_;exact Yr 31 g12
   refine go ?_;exact Yr 27 g10
  ·rw [if_pos (dbt q)] at g10;refine go ?_;exact Yr 27 g10
  refine go ?_;refine cdb H (fun h H=>?_) (fun h H=>?_)
  ·refine go ?_;have e:=pur H;subst e;exact rt _
  ·refine go ?_;obtain ⟨o18,ho18,H⟩:=bnd H;refine My x14 D2 0 0 _ ho18 _ rfl _ _  ?_ ?_ _ _  S hF
   ·intro To he T20 s21 tT hF;have he:=he.symm;subst he
    try dsimp only at H
    refine go ?_;refine cdb H (fun h H=>?_) (fun h H=>?_)
    ·refine go ?_;have e:=pur H;subst e;exact rt _
    ·refine go ?_;have e:=pur H;subst e;exact rt _
   ·intro r hr s' hs;subst hr;have e:=pur H;subst e;exact hsq hs
theorem Mx:∀(a0:ByteArray) (a1:Int) (X9:List ByteArray) (YX Ym:Int) out,JC a0 a1 X9 YX Ym=some out->∀c,Yg Tryz.f214 0=some c->∀(Q:QT) (tt:Sto),(∀(Vu:List ByteArray),out=Vu->∀(T:TT) (σ:Sto) (e0v0:AV),T 5=e0v0->Fx tt σ [] [⟨e0v0,9,1,rws cS Vu⟩]->Q (.ex 0) ⟨T,σ⟩)->True->∀(T:TT) (σ:Sto) (z0v0:AV),T 0=.str a0/\T 1=.int .u8 a1/\T 5=z0v0/\T 6=i6 YX/\T 7=i6 Ym->Fx tt σ [] [⟨z0v0,9,1,rws cS X9⟩]->aLp KZ c Q ⟨T,σ⟩:=by
 intro a0 a1 X9 YX Ym;revert X9 YX Ym;refine JC.partial_correctness a0 a1 _ ?_;intro JC IH X9 YX Ym out H c hc Q tt  hE hR T σ z0v0 tT hF;refine lpx tt hc rfl fun q hX=>go ?_;refine cdp H (fun h H=>?_) (fun h H=>?_)
 ·refine go ?_;obtain ⟨x25,g1,H⟩:=bnd H;refine Yc 5 20 25 (.bool x25) (giN q (fun q=>?_) (fun q=>?_)) (fun J=>?_)
  ·rw [if_neg (df q)] at g1;obtain ⟨x22,f1,g1⟩:=bsx g1;refine go1 ?_;refine go ?_;exact Yr 20 g1
  ·rw [if_pos (dt q)] at g1;refine go ?_;exact Yr 20 g1
  refine go ?_;refine cdb H (fun h H=>?_) (fun h H=>?_)
  ·obtain ⟨x30,f1,H⟩:=bss (lo:=some (i6 YX)) (hi:=some (i6 Ym)) rfl rfl H;refine go1 ?_;refine apd (g:=cS) hF 0 H (rdo (c:=true) (g:=cS) (fun _=>rfl)) fun x32 H v3 ss4 hF=>?_;refine go ?_;exact IH  x32 (i64.wrap (Ym+1)) (i64.wrap (Ym+1)) _ H _ rfl Q tt  hE hR _ _ v3 S hF
  ·refine go ?_;exact IH  X9 YX (i64.wrap (Ym+1)) _ H _ rfl Q tt  hE hR _ _ z0v0 S hF
 ·refine go ?_;exact wq (hE _ (pur H).symm _ _ z0v0 S hF)
theorem PR:∀(a0:ByteArray) (a1:Int) r,Ck a0 a1=some r->VK KZ 214 [.str a0,.int .u8 a1] (sf cS r):=by
 intro a0 a1 r H;intro σ;unfold Ck at H;refine hdg mixed Tryz.func214 (rs:=[.tmp 4]) fun q tT=>?_;have hF:=K2 σ;have hX:=Tau.none σ;have hF:=hF.lit 9 1 (rws cS []) rfl;refine go ?_;obtain ⟨o5,ho5,H⟩:=bnd H;refine Mx a0 a1 [] 0 0 _ ho5 _ rfl _ _  ?_ ?_ _ _ (.sl true (rws cS [])) S hF
 ·intro Qpn he T7 s8 e6v0 tT hF;have he:=he.symm;subst he;refine go ?_;have e:=pur H;subst e;exact rt _
 ·trivial
theorem MA:∀(a0:ByteArray) (a1 Ym:Int) out,W1 a0 a1 Ym=some out->∀c,Yg Tryz.f208 0=some c->∀(Q:QT) (tt:Sto),(∀(Qgn:Int),out=Qgn->∀(T:TT) (σ:Sto),T 0=.str a0/\T 1=i6 a1/\T 6=.sl true (rws cI [])/\T 7=i6 Qgn->Fx tt σ [] []->Q (.ex 0) ⟨T,σ⟩)->True->∀(T:TT) (σ:Sto),T 0=.str a0/\T 1=i6 a1/\T 6=.sl true (rws cI [])/\T 7=i6 Ym->Fx tt σ [] []->aLp KZ c Q ⟨T,σ⟩:=by
 intro a0 a1 Ym;revert Ym;refine W1.partial_correctness a0 a1 _ ?_;intro W1 IH Ym out H c hc Q tt  hE hR T σ tT hF;refine lpx tt hc rfl fun q hX=>go ?_;obtain ⟨x35,g3,H⟩:=bnd H;refine Yc 4 31 35 (.bool x35) (gi q (fun q=>?_) (fun q=>?_)) (fun J=>?_)
 ·rw [if_pos (dt q)] at g3;obtain ⟨x33,f1,g3⟩:=bsx g3;refine go1 ?_;refine go ?_;exact Yr 31 g3
 ·rw [if_neg (df q)] at g3;refine go ?_;exact Yr 31 g3
 refine go ?_;refine cdb H (fun h H=>?_) (fun h H=>?_)
 ·refine go ?_;exact IH  (i64.wrap (Ym+1)) _ H _ rfl Q tt  hE hR _ _  S hF
 ·refine go ?_;exact wq (hE _ (pur H).symm _ _  S hF)
theorem MB:∀(Fb:Int) (x48:List ByteArray) (JY:List Int) (Ie:Int) out,GB Fb x48 JY Ie=some out->∀c,Yg Tryz.f208 1=some c->∀(Q:QT) (tt:Sto),(∀(Tp:List Int),out=Sum.inr Tp->∀(T:TT) (σ:Sto) (e1v0:AV),T 6=e1v0/\T 7=i6 Fb->Fx tt σ [] [⟨e1v0,3,1,rws cI Tp⟩]->Q (.ex 2) ⟨T,σ⟩)->(∀r,out=Sum.inl r->∀s',I7 KZ [.tmp 4,.tmp 5] (fun r' ss'=>r'=.tup [sf cI r.1,i6 r.2]/\ss'=tt) s'->Q .ret s')->∀(T:TT) (σ:Sto) (z1v0:AV),T 6=z1v0/\T 7=i6 Fb/\T 8=sf cS x48/\T 9=i6 Ie->Fx tt σ [] [⟨z1v0,3,1,rws cI JY⟩]->aLp KZ c Q ⟨T,σ⟩:=by
 intro Fb x48 JY Ie;revert JY Ie;refine GB.partial_correctness Fb x48 _ ?_;intro GB IH JY Ie out H c hc Q tt  hE hR T σ z1v0 tT hF;refine lpx tt hc rfl fun q hX=>go ?_;obtain ⟨x56,g10,H⟩:=bnd H;refine Yc 2 54 56 (.bool x56) (gi q (fun q=>?_) (fun q=>?_)) (fun J=>?_)
 ·refine go ?_;exact Yr 54 g10
 ·refine go ?_;exact Yr 54 g10
 refine go ?_;refine cdb H (fun h H=>?_) (fun h H=>?_)
 ·obtain ⟨x62,f1,H⟩:=bil (g:=cS) (fun _=>rfl) H;refine go1 ?_;refine bp H (Fw x62) fun x64 h H=>cl h ?_;refine go ?_;refine cdb H (fun h H=>?_) (fun h H=>?_)
  ·refine go ?_;exact wq (hR _ (pur H).symm _ (rt _))
  ·refine go ?_;refine apd (g:=cI) hF 0 H (rdo (c:=true) (g:=cI) (fun _=>rfl)) fun x73 H v12 s13 hF=>?_;refine go ?_;exact IH  x73 (i64.wrap (Ie+1)) _ H _ rfl Q tt  hE hR _ _ v12 S hF
 ·refine go ?_;exact wq (hE _ (pur H).symm _ _ z1v0 S hF)
theorem PU:∀(a0:ByteArray) (a1:Int) r,Co a0 a1=some r->VK KZ 208 [.str a0,i6 a1] (.tup [sf cI r.1,i6 r.2]):=by
 intro a0 a1 r H;intro σ;unfold Co at H;refine hdg mixed Tryz.func208 (rs:=[.tmp 4,.tmp 5]) fun q tT=>?_;have hF:=K2 σ;have hX:=Tau.none σ;refine go ?_;obtain ⟨x22,g1,H⟩:=bnd H;refine Yc 4 18 22 (.bool x22) (giN q (fun q=>?_) (fun q=>?_)) (fun J=>?_)
 ·rw [if_neg (df q)] at g1;obtain ⟨x20,f1,g1⟩:=bsx g1;refine go1 ?_;refine go ?_;exact Yr 18 g1
 ·rw [if_pos (dt q)] at g1;refine go ?_;exact Yr 18 g1
 refine go ?_;refine cdb H (fun h H=>?_) (fun h H=>?_)
 ·refine go ?_;have e:=pur H;subst e;exact rt _
 ·refine go ?_;obtain ⟨o5,ho5,H⟩:=bnd H;refine MA a0 a1 a1 _ ho5 _ rfl _ _  ?_ ?_ _ _  S hF
  ·intro Fb he T7 s8 tT hF;have he:=he.symm;subst he;refine go ?_;refine cdp H (fun h H=>?_) (fun h H=>?_)
   ·refine go ?_;have e:=pur H;subst e;exact rt _
   ·obtain ⟨x47,f1,H⟩:=bss (lo:=some (i6 (i64.wrap (a1+1)))) (hi:=some (i6 Fb)) rfl rfl H;refine go1 ?_;refine bp H (PR x47 44) fun x48 h H=>cl h ?_;have hF:=hF.lit 3 1 (rws cI []) rfl;refine go ?_;obtain ⟨o14,ho14,H⟩:=bnd H;refine MB Fb x48 [] 0 _ ho14 _ rfl _ _  ?_ ?_ _ _ (.sl true (rws cI [])) S hF
    ·intro Gq he T16 s17 e15v0 tT hF;have he:=he.symm;subst he
     try dsimp only at H
     refine go ?_;have e:=pur H;subst e;exact rt _
    ·intro r hr s' hs;subst hr;have e:=pur H;subst e;exact hsq hs
  ·trivial
theorem PS:∀(a0:ByteArray) (a1:Int) r,Cn a0 a1=some r->VK KZ 196 [.str a0,i6 a1] (.tup [.agg (KY r.1),i6 r.2]):=by
 intro a0 a1 r H;intro σ;unfold Cn at H;refine hdg mixed Tryz.func196 (rs:=[.cell 4 26,.tmp 5]) fun q tT=>?_;have hF:=K2 σ;have hX:=Tau.none σ;refine go ?_;refine Ya hF rfl fun b1 ss2 hF=>?_;refine go ?_;refine bp H (PW a0 a1) fun x14 h H=>cl h ?_;obtain ⟨x18,f1,H⟩:=bss (lo:=some (i6 a1)) (hi:=some (i6 x14)) rfl rfl H;refine go1 ?_;refine go ?_;refine bp H (Fw x18) fun x21 h H=>cl h ?_;refine go ?_;refine cdb H (fun h H=>?_) (fun h H=>?_)
 ·refine go ?_;refine st hF 0 rfl fun ss3 hF=>?_;refine go ?_;have e:=pur H;subst e;exact rt _
 ·refine go ?_;refine cdp H (fun h H=>?_) (fun h H=>?_)
  ·refine go ?_;refine st hF 0 rfl fun ss4 hF=>?_;refine go ?_;have e:=pur H;subst e;exact rt _
  ·refine go ?_;refine bp H (PU a0 x14) fun x34 h H=>cl h ?_;refine go ?_;refine st hF 0 rfl fun ss5 hF=>?_;refine go ?_;have e:=pur H;subst e;exact rt _
theorem PT:∀(a0:ByteArray) (a1 a2:Int) r,I2 a0 a1 a2=some r->VK KZ 177 [.str a0,i6 a1,i6 a2] (.tup [.agg (KY r.1),i6 r.2]):=by
 intro a0 a1 a2;revert a1 a2;refine I2.partial_correctness a0 (motive_1:=fun a1 a2 r=>VK KZ 177 [.str a0,i6 a1,i6 a2] (.tup [.agg (KY r.1),i6 r.2])) (motive_2:=fun a2 X9 I6 out=>∀c,Yg Tryz.f177 0=some c->∀(Q:QT) (tt:Sto) (b1 b7:Nat),(∀(Vu:List Fm) (Tl:Int),out=Sum.inr (Vu,Tl)->∀(T:TT) (σ:Sto) (e0v0:AV),T 0=.str a0/\T 1=i6 Tl/\T 6=.ptr b1 0/\T 8=.ptr b7 0->Fx tt σ [(b7,⟨26,5,[i6 3,.str zB,i6 0,.Yd,e0v0]⟩),(b1,⟨26,5,[i6 0,.str zB,i6 0,.Yd,.Yd]⟩)] [⟨e0v0,26,5,rws KY Vu⟩]->Q (.ex 0) ⟨T,σ⟩)->(∀r,out=Sum.inl r->∀s',I7 KZ [.cell 6 26,.tmp 7] (fun r' ss'=>r'=.tup [.agg (KY r.1),i6 r.2]/\ss'=tt) s'->Q .ret s')->∀(T:TT) (σ:Sto) (z0v0:AV),T 0=.str a0/\T 1=i6 I6/\T 2=i6 a2/\T 6=.ptr b1 0/\T 8=.ptr b7 0->Fx tt σ [(b7,⟨26,5,[i6 3,.str zB,i6 0,.Yd,z0v0]⟩),(b1,⟨26,5,[i6 0,.str zB,i6 0,.Yd,.Yd]⟩)] [⟨z0v0,26,5,rws KY X9⟩]->aLp KZ c Q ⟨T,σ⟩) ?_ ?_
 ·intro IJ L0 a1 a2 r H;intro σ;refine hdg mixed Tryz.func177 (rs:=[.cell 6 26,.tmp 7]) fun q tT=>?_;have hF:=K2 σ;have hX:=Tau.none σ;refine go ?_;refine Ya hF rfl fun b1 ss2 hF=>?_;refine go ?_;refine bp H (BA a0 a1) fun x13 h H=>cl h ?_;refine go ?_;obtain ⟨x21,g3,H⟩:=bnd H;refine Yc 2 19 21 (.bool x21) (giN q (fun q=>?_) (fun q=>?_)) (fun J=>?_)
  ·refine go ?_;exact Yr 19 g3
  ·refine go ?_;exact Yr 19 g3
  refine go ?_;refine cdb H (fun h H=>?_) (fun h H=>?_)
  ·refine go ?_;refine st hF 0 rfl fun ss5 hF=>?_;refine go ?_;have e:=pur H;subst e;exact rt _
  ·obtain ⟨x25,f1,H⟩:=bsx H;refine go1 ?_;refine go ?_;refine cdn H (fun h H=>?_) (fun h H=>?_)
   ·refine go ?_;refine bp H (PS a0 x13) fun x29 h H=>cl h ?_;refine go ?_;refine st hF 0 rfl fun ss6 hF=>?_;refine go ?_;have e:=pur H;subst e;exact rt _
   ·refine go ?_;refine Ya hF rfl fun b7 s8 hF=>?_;refine go ?_;refine st hF 0 rfl fun s9 hF=>?_;refine go ?_;obtain ⟨x36,hx36,H⟩:=bnd H;refine cl (BA a0 (i64.wrap (x13+1)) _ hx36) ?_;have hF:=hF.nil 26 5;refine go ?_;obtain ⟨o21,ho21,H⟩:=bnd H;refine L0 a2 [] x36 _ ho21 _ rfl _ _ b1 b7 ?_ ?_ _ _ .Yd S hF
    ·intro D4 Tr he T23 s24 e22v0 tT hF;have he:=he.symm;subst he
     try dsimp only at H
     refine go ?_;obtain ⟨x82,g26,H⟩:=bnd H;refine Yc 4 78 82 (.bool x82) (giN q (fun q=>?_) (fun q=>?_)) (fun J=>?_)
     ·rw [if_neg (df q)] at g26;obtain ⟨x80,f1,g26⟩:=bsx g26;refine go1 ?_;refine go ?_;exact Yr 78 g26
     ·rw [if_pos (dt q)] at g26;refine go ?_;exact Yr 78 g26
     refine go ?_;refine cdb H (fun h H=>?_) (fun h H=>?_)
     ·refine go ?_;refine st hF 1 rfl fun s28 hF=>?_;refine go ?_;have e:=pur H;subst e;exact rt _
     ·refine go ?_;refine st hF 1 rfl fun s29 hF=>?_;refine go ?_;have e:=pur H;subst e;exact rt _
    ·intro r hr s' hs;subst hr;have e:=pur H;subst e;exact hsq hs
 ·intro I2 IJ C0 L0 a2 X9 I6 out H c hc Q tt b1 b7 hE hR T σ z0v0 tT hF;refine lpx tt hc rfl fun q hX=>go ?_;obtain ⟨x46,g10,H⟩:=bnd H;refine Yc 4 42 46 (.bool x46) (gi q (fun q=>?_) (fun q=>?_)) (fun J=>?_)
  ·rw [if_pos (dt q)] at g10;obtain ⟨x44,f1,g10⟩:=bsx g10;refine go1 ?_;refine go ?_;exact Yr 42 g10
  ·rw [if_neg (df q)] at g10;refine go ?_;exact Yr 42 g10
  refine go ?_;obtain ⟨x52,g12,H⟩:=bnd H;refine Yc 4 48 52 (.bool x52) (gi q (fun q=>?_) (fun q=>?_)) (fun J=>?_)
  ·refine go ?_;exact Yr 48 g12
  ·refine go ?_;exact Yr 48 g12
  refine go ?_;refine cdb H (fun h H=>?_) (fun h H=>?_)
  ·refine go ?_;obtain ⟨x58,hx58,H⟩:=bnd H;refine cl (C0 I6 (i64.wrap (a2 - 1)) _ hx58) ?_;refine go ?_;refine Ya hF rfl fun b14 s15 hF=>?_;refine go ?_;refine st hF 0 rfl fun s16 hF=>?_;refine go ?_;refine cdp H (fun h H=>?_) (fun h H=>?_)
   ·refine go ?_;refine st hF 2 rfl fun s17 hF=>?_;refine go ?_;exact wq (hR _ (pur H).symm _ (rt _))
   ·refine go ?_;refine apd (g:=KY) hF 0 H (rdo (c:=true) (g:=KY) Fm.X7) fun x68 H v18 s19 hF=>?_;refine go ?_;refine st hF 1 (hF.cells 0 rfl) fun s20 hF=>?_;refine go ?_;refine bp H (BA a0 x58.2) fun x72 h H=>cl h ?_;refine go ?_;exact L0 a2 x68 x72 _ H _ rfl Q tt b1 b7 hE hR _ _ v18 S (hF.drop 1 0)
  ·refine go ?_;exact wq (hE _ _ (pur H).symm _ _ z0v0 S hF)
theorem Nu:∀(a0:Int) (a1:Bool) r,It a0 a1=some r->VK KZ 132 [.int .u8 a0,.bool a1] (.bool r):=by
 intro a0 a1 r H;intro σ;unfold It at H;refine hdg mixed Tryz.func132 (rs:=[.tmp 4]) fun q tT=>?_;have hF:=K2 σ;have hX:=Tau.none σ;refine go ?_;obtain ⟨x10,g1,H⟩:=bnd H;refine Yc 2 8 10 (.bool x10) (gi q (fun q=>?_) (fun q=>?_)) (fun J=>?_)
 ·refine go ?_;exact Yr 8 g1
 ·refine go ?_;exact Yr 8 g1
 refine go ?_;obtain ⟨x14,g3,H⟩:=bnd H;refine Yc 2 12 14 (.bool x14) (giN q (fun q=>?_) (fun q=>?_)) (fun J=>?_)
 ·refine go ?_;exact Yr 12 g3
 ·refine go ?_;exact Yr 12 g3
 refine go ?_;obtain ⟨x18,g5,H⟩:=bnd H;refine Yc 2 16 18 (.bool x18) (giN q (fun q=>?_) (fun q=>?_)) (fun J=>?_)
 ·refine go ?_;exact Yr 16 g5
 ·refine go ?_;exact Yr 16 g5
 refine go ?_;obtain ⟨x22,g7,H⟩:=bnd H;refine Yc 2 20 22 (.bool x22) (giN q (fun q=>?_) (fun q=>?_)) (fun J=>?_)
 ·refine go ?_;exact Yr 20 g7
 ·refine go ?_;exact Yr 20 g7
 refine go ?_;obtain ⟨x26,g9,H⟩:=bnd H;refine Yc 2 24 26 (.bool x26) (giN q (fun q=>?_) (fun q=>?_)) (fun J=>?_)
 ·refine go ?_;exact Yr 24 g9
 ·refine go ?_;exact Yr 24 g9
 refine go ?_;obtain ⟨x30,g11,H⟩:=bnd H;refine Yc 2 28 30 (.bool x30) (giN q (fun q=>?_) (fun q=>?_)) (fun J=>?_)
 ·refine go ?_;exact Yr 28 g11
 ·refine go ?_;exact Yr 28 g11
 refine go ?_;refine cdb H (fun h H=>?_) (fun h H=>?_)
 ·refine go ?_;have e:=pur H;subst e;exact rt _
 ·refine go ?_;obtain ⟨x44,g13,H⟩:=bnd H;refine Yc 10 34 44 (.bool x44) (gi q (fun q=>?_) (fun q=>?_)) (fun J=>?_)
  ·rw [if_pos (dbt q)] at g13;refine go ?_;obtain ⟨x39,g15,g13⟩:=bnd g13;refine Yc 2 37 39 (.bool x39) (gi q (fun q=>?_) (fun q=>?_)) (fun J=>?_)
   ·refine go ?_;exact Yr 37 g15
   ·refine go ?_;exact Yr 37 g15
   refine go ?_;obtain ⟨x43,g17,g13⟩:=bnd g13;refine Yc 2 41 43 (.bool x43) (giN q (fun q=>?_) (fun q=>?_)) (fun J=>?_)
   ·refine go ?_;exact Yr 41 g17
   ·refine go ?_;exact Yr 41 g17
   refine go ?_;exact Yr 34 g13
  ·rw [if_neg (dbf q)] at g13;refine go ?_;exact Yr 34 g13
  refine go ?_;have e:=pur H;subst e;exact rt _
theorem Fk:∀(a0:ByteArray) (YB:Int) out,VP a0 YB=some out->∀c,Yg Tryz.f93 0=some c->∀(Q:QT) (tt:Sto),(∀(_u:Unit),out=Sum.inr ()->∀(T:TT) (σ:Sto),T 0=.str a0->Fx tt σ [] []->Q (.ex 0) ⟨T,σ⟩)->(∀r,out=Sum.inl r->∀s',I7 KZ [.tmp 2] (fun r' ss'=>r'=.bool r/\ss'=tt) s'->Q .ret s')->∀(T:TT) (σ:Sto),T 0=.str a0/\T 3=i6 YB->Fx tt σ [] []->aLp KZ c Q ⟨T,σ⟩:=by
 intro a0 YB;revert YB;refine VP.partial_correctness a0 _ ?_;intro VP IH YB out H c hc Q tt  hE hR T σ tT hF;refine lpx tt hc rfl fun q hX=>go ?_;obtain ⟨x17,g3,H⟩:=bnd H;refine Yc 2 15 17 (.bool x17) (gi q (fun q=>?_) (fun q=>?_)) (fun J=>?_)
 ·refine go ?_;exact Yr 15 g3
 ·refine go ?_;exact Yr 15 g3
 refine go ?_;refine cdb H (fun h H=>?_) (fun h H=>?_)
 ·obtain ⟨x22,f1,H⟩:=bsx H;refine go1 ?_;obtain ⟨x25,hx25,H⟩:=bnd H;refine cl (Nu x22 (decide (YB=0)) _ hx25) ?_;refine go ?_;refine cdb H (fun h H=>?_) (fun h H=>?_)
  ·refine go ?_;exact wq (hR _ (pur H).symm _ (rt _))
  ·refine go ?_;exact IH  (i64.wrap (YB+1)) _ H _ rfl Q tt  hE hR _ _  S hF
 ·refine go ?_;exact wq (hE () (pur H).symm _ _  S hF)
theorem Bo:∀(a0:ByteArray) r,JB a0=some r->VK KZ 93 [.str a0] (.bool r):=by
 intro a0 r H;intro σ;unfold JB at H;refine hdg mixed Tryz.func93 (rs:=[.tmp 2]) fun q tT=>?_;have hF:=K2 σ;have hX:=Tau.none σ;refine go ?_;obtain ⟨x9,g1,H⟩:=bnd H;refine Yc 2 7 9 (.bool x9) (giN q (fun q=>?_) (fun q=>?_)) (fun J=>?_)
 ·refine go ?_;exact Yr 7 g1
 ·refine go ?_;exact Yr 7 g1
 refine go ?_;refine cdb H (fun h H=>?_) (fun h H=>?_)
 ·refine go ?_;have e:=pur H;subst e;exact rt _
 ·refine go ?_;obtain ⟨o5,ho5,H⟩:=bnd H;refine Fk a0 0 _ ho5 _ rfl _ _  ?_ ?_ _ _  S hF
  ·intro _ he T7 s8 tT hF;have he:=he.symm;subst he
   try dsimp only at H
   refine go ?_;obtain ⟨x34,g10,H⟩:=bnd H;refine Yc 3 31 34 (.bool x34) (gi q (fun q=>?_) (fun q=>?_)) (fun J=>?_)
   ·refine go ?_;exact Yr 31 g10
   ·refine go ?_;exact Yr 31 g10
   refine go ?_;have e:=pur H;subst e;exact rt _
  ·intro r hr s' hs;subst hr;have e:=pur H;subst e;exact hsq hs
theorem F1:∀(a0:List Int) (YB:Int) out,VX a0 YB=some out->∀c,Yg Tryz.f94 0=some c->∀(Q:QT) (tt:Sto),(∀(_u:Unit),out=Sum.inr ()->∀(T:TT) (σ:Sto),T 0=sf cI a0->Fx tt σ [] []->Q (.ex 0) ⟨T,σ⟩)->(∀r,out=Sum.inl r->∀s',I7 KZ [.tmp 2] (fun r' ss'=>r'=.bool r/\ss'=tt) s'->Q .ret s')->∀(T:TT) (σ:Sto),T 0=sf cI a0/\T 3=i6 YB->Fx tt σ [] []->aLp KZ c Q ⟨T,σ⟩:=by
 intro a0 YB;revert YB;refine VX.partial_correctness a0 _ ?_;intro VX IH YB out H c hc Q tt  hE hR T σ tT hF;refine lpx tt hc rfl fun q hX=>go ?_;obtain ⟨x11,g1,H⟩:=bnd H;refine Yc 2 9 11 (.bool x11) (gi q (fun q=>?_) (fun q=>?_)) (fun J=>?_)
 ·refine go ?_;exact Yr 9 g1
 ·refine go ?_;exact Yr 9 g1
 refine go ?_;refine cdb H (fun h H=>?_) (fun h H=>?_)
 ·refine go ?_;refine Yj E0 [.v,.v,.v,.v,.v,.v,.v,.v,.v,.v,.v,.v,.v,.v,.v,.v,.v,.v,.v,.v,.v,.v,.v,.v,.v,.v,.v,.v] (by kernel_rfl) ?_;obtain ⟨x16,f1,H⟩:=bil (g:=cI) (fun _=>rfl) H;refine go1 ?_;obtain ⟨x25,g3,H⟩:=bnd H;refine VU 5 20 25 (.bool x25) (tiN q (fun q=>?_) (fun q=>?_)) (fun J=>?_)
  ·rw [if_neg (df q)] at g3;obtain ⟨x22,f1,g3⟩:=bil (g:=cI) (fun _=>rfl) g3;refine go1 ?_;refine go ?_;exact Yr 20 g3
  ·rw [if_pos (dt q)] at g3;refine go ?_;exact Yr 20 g3
  refine go ?_;obtain ⟨x41,g5,H⟩:=bnd H;refine VU 14 27 41 (.bool x41) (tiN q (fun q=>?_) (fun q=>?_)) (fun J=>?_)
  ·rw [if_neg (dbf q)] at g5;refine go ?_;obtain ⟨x40,g7,g5⟩:=bnd g5;refine VU 10 30 40 (.bool x40) (ti q (fun q=>?_) (fun q=>?_)) (fun J=>?_)
   ·rw [if_pos (dt q)] at g7;obtain ⟨x32,f1,g7⟩:=bil (g:=cI) (fun _=>rfl) g7;obtain ⟨x37,f2,g7⟩:=bil (g:=cI) (fun _=>rfl) g7;refine go2 ?_;refine go ?_;exact Yr 30 g7
   ·rw [if_neg (df q)] at g7;refine go ?_;exact Yr 30 g7
   refine go ?_;exact Yr 27 g5
  ·rw [if_pos (dbt q)] at g5;refine go ?_;exact Yr 27 g5
  refine go ?_;refine cdb H (fun h H=>?_) (fun h H=>?_)
  ·refine go ?_;exact wq (hR _ (pur H).symm _ (rt _))
  ·refine go ?_;exact IH  (i64.wrap (YB+1)) _ H _ rfl Q tt  hE hR _ _  S hF
 ·refine go ?_;exact wq (hE () (pur H).symm _ _  S hF)
theorem D9:∀(a0:List Int) r,Hq a0=some r->VK KZ 94 [sf cI a0] (.bool r):=by
 intro a0 r H;intro σ;unfold Hq at H;refine hdg mixed Tryz.func94 (rs:=[.tmp 2]) fun q tT=>?_;have hF:=K2 σ;have hX:=Tau.none σ;refine go ?_;obtain ⟨o9,ho9,H⟩:=bnd H;refine F1 a0 0 _ ho9 _ rfl _ _  ?_ ?_ _ _  S hF
 ·intro _ he T11 s12 tT hF;have he:=he.symm;subst he
  try dsimp only at H
  refine go ?_;have e:=pur H;subst e;exact rt _
 ·intro r hr s' hs;subst hr;have e:=pur H;subst e;exact hsq hs
theorem TZ:∀(a0:Fm) (a1:Int) r,ID a0 a1=some r->VK KZ 63 [.agg (KY a0),i6 a1] (.bool r):=by
 refine ID.partial_correctness _ (motive_2:=fun a0 a1 Yl out=>∀c,Yg Tryz.f63 0=some c->∀(Q:QT) (tt:Sto) (b1:Nat),(∀(_u:Unit),out=Sum.inr ()->∀(T:TT) (σ:Sto),0+0=0->Fx tt σ [(b1,⟨26,5,[i6 a0.kind,.str a0.name,i6 a0.num,sf cI a0.sc,sf KY a0.kids]⟩)] []->Q (.ex 1) ⟨T,σ⟩)->(∀r,out=Sum.inl r->∀s',I7 KZ [.tmp 4] (fun r' ss'=>r'=.bool r/\ss'=tt) s'->Q .ret s')->∀(T:TT) (σ:Sto),T 1=i6 a1/\T 2=.ptr b1 0/\T 5=i6 Yl->Fx tt σ [(b1,⟨26,5,[i6 a0.kind,.str a0.name,i6 a0.num,sf cI a0.sc,sf KY a0.kids]⟩)] []->aLp KZ c Q ⟨T,σ⟩) ?_ ?_
 ·intro GA L0 a0 a1 r H;intro σ;refine hdg mixed Tryz.func63 (rs:=[.tmp 4]) fun q tT=>?_;have hF:=K2 σ;have hX:=Tau.none σ;refine go ?_;refine Ya hF rfl fun b1 ss2 hF=>?_;refine go ?_;refine cdp H (fun h H=>?_) (fun h H=>?_)
  ·refine go ?_;have e:=pur H;subst e;exact rt _
  ·refine go ?_;refine cdp H (fun h H=>?_) (fun h H=>?_)
   ·refine go ?_;refine bp H (Bo a0.name) fun x14 h H=>cl h ?_;refine go ?_;obtain ⟨x19,g3,H⟩:=bnd H;refine Yc 3 16 19 (.bool x19) (gi q (fun q=>?_) (fun q=>?_)) (fun J=>?_)
    ·refine go ?_;exact Yr 16 g3
    ·refine go ?_;exact Yr 16 g3
    refine go ?_;obtain ⟨x24,g5,H⟩:=bnd H;refine Yc 3 21 24 (.bool x24) (gi q (fun q=>?_) (fun q=>?_)) (fun J=>?_)
    ·rw [if_pos (dbt q)] at g5;refine go ?_;obtain ⟨x23,hx23,g5⟩:=bnd g5;refine cl (D9 a0.sc _ hx23) ?_;refine go ?_;exact Yr 21 g5
    ·rw [if_neg (dbf q)] at g5;refine go ?_;exact Yr 21 g5
    refine go ?_;obtain ⟨x30,g7,H⟩:=bnd H;refine Yc 4 26 30 (.bool x30) (gi q (fun q=>?_) (fun q=>?_)) (fun J=>?_)
    ·refine go ?_;exact Yr 26 g7
    ·refine go ?_;exact Yr 26 g7
    refine go ?_;have e:=pur H;subst e;exact rt _
   ·refine go ?_;refine cdp H (fun h H=>?_) (fun h H=>?_)
    ·refine go ?_;obtain ⟨x40,g9,H⟩:=bnd H;refine Yc 3 37 40 (.bool x40) (gi q (fun q=>?_) (fun q=>?_)) (fun J=>?_)
     ·refine go ?_;exact Yr 37 g9
     ·refine go ?_;exact Yr 37 g9
     refine go ?_;obtain ⟨x45,g11,H⟩:=bnd H;refine Yc 3 42 45 (.bool x45) (gi q (fun q=>?_) (fun q=>?_)) (fun J=>?_)
     ·refine go ?_;exact Yr 42 g11
     ·refine go ?_;exact Yr 42 g11
     refine go ?_;obtain ⟨x51,g13,H⟩:=bnd H;refine Yc 4 47 51 (.bool x51) (gi q (fun q=>?_) (fun q=>?_)) (fun J=>?_)
     ·refine go ?_;exact Yr 47 g13
     ·refine go ?_;exact Yr 47 g13
     refine go ?_;obtain ⟨x57,g15,H⟩:=bnd H;refine Yc 4 53 57 (.bool x57) (gi q (fun q=>?_) (fun q=>?_)) (fun J=>?_)
     ·refine go ?_;exact Yr 53 g15
     ·refine go ?_;exact Yr 53 g15
     refine go ?_;have e:=pur H;subst e;exact rt _
    ·refine go ?_;obtain ⟨x65,g17,H⟩:=bnd H;refine Yc 3 62 65 (.bool x65) (giN q (fun q=>?_) (fun q=>?_)) (fun J=>?_)
     ·refine go ?_;exact Yr 62 g17
     ·refine go ?_;exact Yr 62 g17
     refine go ?_;obtain ⟨x70,g19,H⟩:=bnd H;refine Yc 3 67 70 (.bool x70) (giN q (fun q=>?_) (fun q=>?_)) (fun J=>?_)
     ·refine go ?_;exact Yr 67 g19
     ·refine go ?_;exact Yr 67 g19
     refine go ?_;obtain ⟨x76,g21,H⟩:=bnd H;refine Yc 4 72 76 (.bool x76) (giN q (fun q=>?_) (fun q=>?_)) (fun J=>?_)
     ·refine go ?_;exact Yr 72 g21
     ·refine go ?_;exact Yr 72 g21
     refine go ?_;refine cdb H (fun h H=>?_) (fun h H=>?_)
     ·refine go ?_;have e:=pur H;subst e;exact rt _
     ·refine go ?_;obtain ⟨o23,ho23,H⟩:=bnd H;refine L0 a0 a1 0 _ ho23 _ rfl _ _ b1 ?_ ?_ _ _  S hF
      ·intro _ he T25 s26 tT hF;have he:=he.symm;subst he
       try dsimp only at H
       refine go ?_;have e:=pur H;subst e;exact rt _
      ·intro r hr s' hs;subst hr;have e:=pur H;subst e;exact hsq hs
 ·intro ID GA C0 L0 a0 a1 Yl out H c hc Q tt b1 hE hR T σ tT hF;refine lpx tt hc rfl fun q hX=>go ?_;refine cdp H (fun h H=>?_) (fun h H=>?_)
  ·obtain ⟨x87,f1,H⟩:=bil (g:=KY) Fm.X7 H;refine go1 ?_;obtain ⟨x91,hx91,H⟩:=bnd H;refine cl (C0 x87 (i64.wrap (a1 - 1)) _ hx91) ?_;refine go ?_;refine cdb H (fun h H=>?_) (fun h H=>?_)
   ·refine go ?_;exact wq (hR _ (pur H).symm _ (rt _))
   ·refine go ?_;exact L0 a0 a1 (i64.wrap (Yl+1)) _ H _ rfl Q tt b1 hE hR _ _  S hF
  ·refine go ?_;exact wq (hE () (pur H).symm _ _  S hF)
theorem EL:∀(a0:Fm) r,Gv a0=some r->VK KZ 64 [.agg (KY a0)] (i6 r):=by
 refine Gv.partial_correctness _ (motive_2:=fun a0 YB YA out=>∀c,Yg Tryz.f64 0=some c->∀(Q:QT) (tt:Sto) (b1:Nat),(∀(Tm:Int),out=Tm->∀(T:TT) (σ:Sto),T 3=i6 Tm->Fx tt σ [(b1,⟨26,5,[i6 a0.kind,.str a0.name,i6 a0.num,sf cI a0.sc,sf KY a0.kids]⟩)] []->Q (.ex 0) ⟨T,σ⟩)->True->∀(T:TT) (σ:Sto),T 1=.ptr b1 0/\T 3=i6 YB/\T 4=i6 YA->Fx tt σ [(b1,⟨26,5,[i6 a0.kind,.str a0.name,i6 a0.num,sf cI a0.sc,sf KY a0.kids]⟩)] []->aLp KZ c Q ⟨T,σ⟩) ?_ ?_
 ·intro WD L0 a0 r H;intro σ;refine hdg mixed Tryz.func64 (rs:=[.tmp 2]) fun q tT=>?_;have hF:=K2 σ;have hX:=Tau.none σ;refine go ?_;refine Ya hF rfl fun b1 ss2 hF=>?_;refine go ?_;obtain ⟨o3,ho3,H⟩:=bnd H;refine L0 a0 1 0 _ ho3 _ rfl _ _ b1 ?_ ?_ _ _  S hF
  ·intro UM he T5 ss6 tT hF;have he:=he.symm;subst he;refine go ?_;have e:=pur H;subst e;exact rt _
  ·trivial
 ·intro Gv WD C0 L0 a0 YB YA out H c hc Q tt b1 hE hR T σ tT hF;refine lpx tt hc rfl fun q hX=>go ?_;refine cdp H (fun h H=>?_) (fun h H=>?_)
  ·obtain ⟨x16,f1,H⟩:=bil (g:=KY) Fm.X7 H;refine go1 ?_;refine bp H (C0 x16) fun x18 h H=>cl h ?_;refine go ?_;exact L0 a0 (i64.wrap (YB+x18)) (i64.wrap (YA+1)) _ H _ rfl Q tt b1 hE hR _ _  S hF
  ·refine go ?_;exact wq (hE _ (pur H).symm _ _  S hF)
theorem Y8:∀(a0:Fm) r,YT a0=some r->VK KZ 31 [.agg (KY a0)] (.bool r):=by
 intro a0 r H;intro σ;unfold YT at H;refine hdg mixed Tryz.func31 (rs:=[.tmp 2]) fun q tT=>?_;have hF:=K2 σ;have hX:=Tau.none σ;refine go ?_;refine Ya hF rfl fun b1 ss2 hF=>?_;refine go ?_;refine bp H (TZ a0 40) fun x4 h H=>cl h ?_;refine go ?_;obtain ⟨x9,g3,H⟩:=bnd H;refine Yc 3 6 9 (.bool x9) (gi q (fun q=>?_) (fun q=>?_)) (fun J=>?_)
 ·rw [if_pos (dbt q)] at g3;refine go ?_;obtain ⟨x7,hx7,g3⟩:=bnd g3;refine cl (EL a0 _ hx7) ?_;refine go ?_;exact Yr 6 g3
 ·rw [if_neg (dbf q)] at g3;refine go ?_;exact Yr 6 g3
 refine go ?_;have e:=pur H;subst e;exact rt _
theorem Mw:∀(a0:ByteArray) r,As a0=some r->VK KZ 153 [.str a0] (.tup [.agg (KY r.1),.bool r.2]):=by
 intro a0 r H;intro σ;unfold As at H;refine hdg mixed Tryz.func153 (rs:=[.cell 2 26,.tmp 3]) fun q tT=>?_;have hF:=K2 σ;have hX:=Tau.none σ;refine go ?_;refine Ya hF rfl fun b1 ss2 hF=>?_;refine go ?_;refine bp H (PT a0 0 40) fun x8 h H=>cl h ?_;refine go ?_;refine Ya hF rfl fun b3 ss4 hF=>?_;refine go ?_;refine st hF 0 rfl fun ss5 hF=>?_;refine go ?_;obtain ⟨x20,g6,H⟩:=bnd H;refine Yc 6 14 20 (.bool x20) (giN q (fun q=>?_) (fun q=>?_)) (fun J=>?_)
 ·rw [if_neg (df q)] at g6;refine go ?_;obtain ⟨x16,hx16,g6⟩:=bnd g6;refine cl (BA a0 x8.2 _ hx16) ?_;refine go ?_;exact Yr 14 g6
 ·rw [if_pos (dt q)] at g6;refine go ?_;exact Yr 14 g6
 refine go ?_;obtain ⟨x25,g8,H⟩:=bnd H;refine Yc 3 22 25 (.bool x25) (giN q (fun q=>?_) (fun q=>?_)) (fun J=>?_)
 ·rw [if_neg (dbf q)] at g8;refine go ?_;obtain ⟨x23,hx23,g8⟩:=bnd g8;refine cl (Y8 x8.1 _ hx23) ?_;refine go ?_;exact Yr 22 g8
 ·rw [if_pos (dbt q)] at g8;refine go ?_;exact Yr 22 g8
 refine go ?_;refine cdb H (fun h H=>?_) (fun h H=>?_)
 ·refine go ?_;refine st hF 1 rfl fun s10 hF=>?_;refine go ?_;have e:=pur H;subst e;exact rt _
 ·refine go ?_;refine st hF 1 rfl fun s11 hF=>?_;refine go ?_;have e:=pur H;subst e;exact rt _
theorem EN:∀(a0:ByteArray) r,AM a0=some r->VK KZ 129 [.str a0] (.agg (KY r)):=by
 intro a0 r H;intro σ;unfold AM at H;refine hdg mixed Tryz.func129 (rs:=[.cell 2 26]) fun q tT=>?_;have hF:=K2 σ;have hX:=Tau.none σ;refine go ?_;refine Ya hF rfl fun b1 ss2 hF=>?_;refine go ?_;refine bp H (Mw a0) fun x7 h H=>cl h ?_;refine go ?_;refine Ya hF rfl fun b3 ss4 hF=>?_;refine go ?_;refine st hF 0 rfl fun ss5 hF=>?_;refine go ?_;refine st hF 1 rfl fun ss6 hF=>?_;refine go ?_;have e:=pur H;subst e;exact rt _
theorem Y3:∀(a1:List Int) (c0:Rdr) r,YU a1 c0=some r->∀(e0:Nat)  (σ:Sto),Pre σ [(e0,⟨89,2,[sf cU c0.b,i6 c0.p]⟩)] []->Ctr KZ 57 [.ptr e0 0,sf cI a1] σ (fun r' ss'=>∃(tt':Sto),r'=i6 r.1/\Tau (strip σ []) [(e0,⟨89,2,[sf cU r.2.b,i6 r.2.p]⟩)] tt'/\Fx tt' ss' [] []):=by
 intro a1 c0 r H;intro e0  σ hP;unfold YU at H;refine hdg mixed Tryz.func57 (rs:=[.tmp 4]) fun q tT=>?_;obtain ⟨hF,hX⟩:=hP.start;generalize strip σ []=tt0 at hF hX ⊢;refine go ?_;obtain ⟨x9,hx9,H⟩:=bnd H;refine cx (Yw (a1.length:Int) c0 _ hx9 e0  _ (pre 0 1 0 hF hX)) ?_;rintro _ ss1 ⟨tt2,rfl,hT,hG⟩;obtain ⟨tt3,hX,hF⟩:=aft 0 1 0 hF hX hT hG;obtain ⟨x10,f1,H⟩:=bil (g:=cI) (fun _=>rfl) H;refine go1 ?_;refine go ?_;have e:=pur H;subst e;exact rg _ ⟨_,rfl,hX,K4 _⟩
theorem VQ:∀(a0:ByteArray) r,VJ a0=some r->VK KZ 44 [.str a0] (.agg (KY r)):=by
 intro a0 r H;intro σ;unfold VJ at H;refine hdg mixed Tryz.func44 (rs:=[.cell 2 26]) fun q tT=>?_;have hF:=K2 σ;have hX:=Tau.none σ;refine go ?_;refine Ya hF rfl fun b1 ss2 hF=>?_;refine go ?_;refine st hF 0 rfl fun ss3 hF=>?_;refine go ?_;have e:=pur H;subst e;exact rt _
theorem J7:∀(a1:List ByteArray) (c0:Rdr) r,V8 a1 c0=some r->∀(e0:Nat)  (σ:Sto),Pre σ [(e0,⟨89,2,[sf cU c0.b,i6 c0.p]⟩)] []->Ctr KZ 45 [.ptr e0 0,sf cS a1] σ (fun r' ss'=>∃(tt':Sto),r'=.str r.1/\Tau (strip σ []) [(e0,⟨89,2,[sf cU r.2.b,i6 r.2.p]⟩)] tt'/\Fx tt' ss' [] []):=by
 intro a1 c0 r H;intro e0  σ hP;unfold V8 at H;refine hdg mixed Tryz.func45 (rs:=[.tmp 4]) fun q tT=>?_;obtain ⟨hF,hX⟩:=hP.start;generalize strip σ []=tt0 at hF hX ⊢;refine go ?_;obtain ⟨x9,hx9,H⟩:=bnd H;refine cx (Yw (a1.length:Int) c0 _ hx9 e0  _ (pre 0 1 0 hF hX)) ?_;rintro _ ss1 ⟨tt2,rfl,hT,hG⟩;obtain ⟨tt3,hX,hF⟩:=aft 0 1 0 hF hX hT hG;obtain ⟨x10,f1,H⟩:=bil (g:=cS) (fun _=>rfl) H;refine go1 ?_;refine go ?_;have e:=pur H;subst e;exact rg _ ⟨_,rfl,hX,K4 _⟩
theorem WE:∀(a0:List Fm) r,W9 a0=some r->VK KZ 142 [sf KY a0] (.agg (KY r)):=by
 intro a0 r H;intro σ;unfold W9 at H;refine hdg mixed Tryz.func142 (rs:=[.cell 2 26]) fun q tT=>?_;have hF:=K2 σ;have hX:=Tau.none σ;refine go ?_;refine Ya hF rfl fun b1 ss2 hF=>?_;refine go ?_;refine st hF 0 rfl fun ss3 hF=>?_;refine go ?_;have e:=pur H;subst e;exact rt _
theorem PV:∀(a1:Int) (c0:Rdr) r,Iu a1 c0=some r->∀(e0:Nat)  (σ:Sto),Pre σ [(e0,⟨89,2,[sf cU c0.b,i6 c0.p]⟩)] []->Ctr KZ 23 [.ptr e0 0,i6 a1] σ (fun r' ss'=>∃(tt':Sto),r'=.agg (KY r.1)/\Tau (strip σ []) [(e0,⟨89,2,[sf cU r.2.b,i6 r.2.p]⟩)] tt'/\Fx tt' ss' [] []):=by
 refine Iu.partial_correctness _ (motive_2:=fun a1 X9 YX VV Bx out=>∀c,Yg Tryz.f23 0=some c->∀(Q:QT) (tt0:Sto) (e0 b1 b22:Nat),(∀(Vu:List Fm) (Ca:List Int) (On:Int),out=(Vu,Ca,On)->∀(T:TT) (σ tt:Sto) (e0v0:AV),T 4=.ptr b1 0/\T 5=.ptr b22 0->Tau tt0 [(e0,⟨89,2,[sf cU Ca,i6 On]⟩)] tt->Fx tt σ [(b22,⟨26,5,[i6 3,.str zB,i6 0,.Yd,e0v0]⟩),(b1,⟨26,5,[i6 0,.str zB,i6 0,.Yd,.Yd]⟩)] [⟨e0v0,26,5,rws KY Vu⟩]->Q (.ex 0) ⟨T,σ⟩)->True->∀(T:TT) (σ tt:Sto) (z0v0:AV),T 0=.ptr e0 0/\T 1=i6 a1/\T 4=.ptr b1 0/\T 5=.ptr b22 0/\T 6=i6 YX->Tau tt0 [(e0,⟨89,2,[sf cU VV,i6 Bx]⟩)] tt->Fx tt σ [(b22,⟨26,5,[i6 3,.str zB,i6 0,.Yd,z0v0]⟩),(b1,⟨26,5,[i6 0,.str zB,i6 0,.Yd,.Yd]⟩)] [⟨z0v0,26,5,rws KY X9⟩]->aLp KZ c Q ⟨T,σ⟩) ?_ ?_
 ·intro HF L0 a1 c0 r H;intro e0  σ hP;refine hdg mixed Tryz.func23 (rs:=[.cell 4 26]) fun q tT=>?_;obtain ⟨hF,hX⟩:=hP.start;generalize strip σ []=tt0 at hF hX ⊢;refine go ?_;refine Ya hF rfl fun b1 ss2 hF=>?_;refine go ?_;refine giN q (fun q=>?_) (fun q=>?_)
  ·rw [if_neg (df q)] at H;refine go ?_;obtain ⟨Qej,hx11_1,H⟩:=bnd H;refine cx (Yw 3 c0 _ hx11_1 e0  _ (pre 0 1 0 hF hX)) ?_;rintro _ s8 ⟨t9,rfl,hT,hG⟩;obtain ⟨t10,hX,hF⟩:=aft 0 1 0 hF hX hT hG;refine go ?_;refine cdp H (fun h H=>?_) (fun h H=>?_)
   ·refine go ?_;obtain ⟨x15,hx15,H⟩:=bnd H;refine cx (Yw 4 Qej.2 _ hx15 e0  _ (pre 0 1 0 hF hX)) ?_;rintro _ s11 ⟨t12,rfl,hT,hG⟩;obtain ⟨t13,hX,hF⟩:=aft 0 1 0 hF hX hT hG;refine go ?_;refine cdp H (fun h H=>?_) (fun h H=>?_)
    ·refine go ?_;obtain ⟨x19,hx19,H⟩:=bnd H;refine cx (Y3 [0,1,2,7,42,999] x15.2 _ hx19 e0  _ (pre 0 1 0 hF hX)) ?_;rintro _ s14 ⟨t15,rfl,hT,hG⟩;obtain ⟨t16,hX,hF⟩:=aft 0 1 0 hF hX hT hG;refine go ?_;refine st hF 0 rfl fun s17 hF=>?_;refine go ?_;have e:=pur H;subst e;exact rg _ ⟨_,rfl,hX,K4 _⟩
    ·refine go ?_;obtain ⟨x23,hx23,H⟩:=bnd H;refine cx (J7 [(Qk #[97]),(Qk #[98]),(Qk #[120]),(Qk #[121]),(Qk #[102]),(Qk #[105,102]),(Qk #[108,101,116]),(Qk #[43])] x15.2 _ hx23 e0  _ (pre 0 1 0 hF hX)) ?_;rintro _ s18 ⟨t19,rfl,hT,hG⟩;obtain ⟨t20,hX,hF⟩:=aft 0 1 0 hF hX hT hG;refine go ?_;refine bp H (VQ x23.1) fun x24 h H=>cl h ?_;refine go ?_;refine st hF 0 rfl fun s21 hF=>?_;refine go ?_;have e:=pur H;subst e;exact rg _ ⟨_,rfl,hX,K4 _⟩
   ·refine go ?_;refine Ya hF rfl fun b22 s23 hF=>?_;refine go ?_;refine st hF 0 rfl fun s24 hF=>?_;refine go ?_;obtain ⟨x27,hx27,H⟩:=bnd H;refine cx (Yw 4 Qej.2 _ hx27 e0  _ (pre 0 1 0 hF hX)) ?_;rintro _ s25 ⟨t26,rfl,hT,hG⟩;obtain ⟨t27,hX,hF⟩:=aft 0 1 0 hF hX hT hG;have hF:=hF.nil 26 5;refine go ?_;obtain ⟨o37,ho37,H⟩:=bnd H;refine L0 a1 [] x27.1 x27.2.b x27.2.p _ ho37 _ rfl _ tt0 e0 b1 b22 ?_ ?_ _ _ _ .Yd S hX hF
    ·intro Fq Qbg Qbh he T39 s40 t41 e38v0 tT hX hF;have he:=he.symm;subst he
     try dsimp only at H
     refine go ?_;refine st hF 1 rfl fun s42 hF=>?_;refine go ?_;have e:=pur H;subst e;exact rg _ ⟨_,rfl,hX,K4 _⟩
    ·trivial
  ·rw [if_pos (dt q)] at H;refine go ?_;obtain ⟨EY,hx15_1,H⟩:=bnd H;refine cx (Yw 4 c0 _ hx15_1 e0  _ (pre 0 1 0 hF hX)) ?_;rintro _ s43 ⟨t44,rfl,hT,hG⟩;obtain ⟨t45,hX,hF⟩:=aft 0 1 0 hF hX hT hG;refine go ?_;refine cdp H (fun h H=>?_) (fun h H=>?_)
   ·refine go ?_;obtain ⟨Qk2,hx19_1,H⟩:=bnd H;refine cx (Y3 [0,1,2,7,42,999] EY.2 _ hx19_1 e0  _ (pre 0 1 0 hF hX)) ?_;rintro _ s46 ⟨t47,rfl,hT,hG⟩;obtain ⟨t48,hX,hF⟩:=aft 0 1 0 hF hX hT hG;refine go ?_;refine st hF 0 rfl fun s49 hF=>?_;refine go ?_;have e:=pur H;subst e;exact rg _ ⟨_,rfl,hX,K4 _⟩
   ·refine go ?_;obtain ⟨Qk4,hx23_1,H⟩:=bnd H;refine cx (J7 [(Qk #[97]),(Qk #[98]),(Qk #[120]),(Qk #[121]),(Qk #[102]),(Qk #[105,102]),(Qk #[108,101,116]),(Qk #[43])] EY.2 _ hx23_1 e0  _ (pre 0 1 0 hF hX)) ?_;rintro _ s50 ⟨t51,rfl,hT,hG⟩;obtain ⟨t52,hX,hF⟩:=aft 0 1 0 hF hX hT hG;refine go ?_;obtain ⟨Qao,hx24_1,H⟩:=bnd H;refine cl (VQ Qk4.1 _ hx24_1) ?_;refine go ?_;refine st hF 0 rfl fun s53 hF=>?_;refine go ?_;have e:=pur H;subst e;exact rg _ ⟨_,rfl,hX,K4 _⟩
 ·intro Iu HF C0 L0 a1 X9 YX VV Bx out H c hc Q tt0 e0 b1 b22 hE hR T σ tt z0v0 tT hX hF;refine lpy hc rfl fun q=>go ?_;refine cdp H (fun h H=>?_) (fun h H=>?_)
  ·refine go ?_;obtain ⟨E,hEq⟩:∃E,E=EE σ [e0]:=⟨_,rfl⟩
   have n28:¬E b22:=by rw [hEq];exact K6 (hF.at 0 rfl) (nm1 (neX hF 0 rfl hX 0 rfl))
   have n29:¬E b1:=by rw [hEq];exact K6 (hF.at 1 rfl) (nm1 (neX hF 1 rfl hX 0 rfl))
   refine Yj E [.v,.v,.v,.v,.v,.x,.v,.x,.v,.z] (by kernel_rfl) ?_;have z:=K3 (X8 (hF.at 0 rfl) n28) (X8 (hF.at 1 rfl) n29);refine gh ?_;obtain ⟨x37,hx37,H⟩:=bnd H;refine cx (C0 (i64.wrap (a1 - 1)) (Rdr.mk VV Bx) _ hx37 e0  _ (pre 0 1 0 hF hX)) ?_;rintro _ s30 ⟨t31,rfl,hT,hG⟩
   refine W7 (K9 hT hG (by intro p hp;simp only [Kj,KE,or_false] at hp<;>first | (rcases hp with rfl<;>(rw [hEq];first | (refine Zd ?_;simp;done) | exact Zm rfl))| cases hp)) fun kp33=>?_
   obtain ⟨t32,hX,hF⟩:=aft 0 1 0 hF hX hT hG;have z:=K3 (X8 (hF.at 0 rfl) n28) (X8 (hF.at 1 rfl) n29);refine gh ?_;refine PD (g:=KY) hF 0 H (rdo (c:=true) (g:=KY) Fm.X7) fun x39 H v34 s35 hF=>?_;have z:=K3 (X8 (hF.at 0 rfl) n28) (X8 (hF.at 1 rfl) n29);refine gh ?_;refine st hF 0 (hF.cells 0 rfl) fun s36 hF=>?_;have z:=K3 (X8 (hF.at 0 rfl) n28) (X8 (hF.at 1 rfl) n29);refine gh ?_;refine go ?_;exact L0 a1 x39 (i64.wrap (YX - 1)) x37.2.b x37.2.p _ H _ rfl Q tt0 e0 b1 b22 hE hR _ _ _ v34 S hX hF
  ·refine go ?_;exact wq (hE _ _ _ (pur H).symm _ _ _ z0v0 S hX hF)
theorem Ru:∀(a1:List ByteArray) (a2:Int) (c0:Rdr) r,Wd a1 a2 c0=some r->∀(e0:Nat)  (σ:Sto),Pre σ [(e0,⟨89,2,[sf cU c0.b,i6 c0.p]⟩)] []->Ctr KZ 141 [.ptr e0 0,sf cS a1,i6 a2] σ (fun r' ss'=>∃(tt':Sto),r'=.agg (KY r.1)/\Tau (strip σ []) [(e0,⟨89,2,[sf cU r.2.b,i6 r.2.p]⟩)] tt'/\Fx tt' ss' [] []):=by
 refine Wd.partial_correctness  (motive:=fun a1 a2 c0 r=>∀(e0:Nat)  (σ:Sto),Pre σ [(e0,⟨89,2,[sf cU c0.b,i6 c0.p]⟩)] []->Ctr KZ 141 [.ptr e0 0,sf cS a1,i6 a2] σ (fun r' ss'=>∃(tt':Sto),r'=.agg (KY r.1)/\Tau (strip σ []) [(e0,⟨89,2,[sf cU r.2.b,i6 r.2.p]⟩)] tt'/\Fx tt' ss' [] [])) ?_
 ·intro Wd C0 a1 a2 c0 r H;intro e0  σ hP;refine hdg mixed Tryz.func141 (rs:=[.cell 6 26]) fun q tT=>?_;obtain ⟨hF,hX⟩:=hP.start;generalize strip σ []=tt0 at hF hX ⊢;refine go ?_;refine Ya hF rfl fun b1 ss2 hF=>?_;refine go ?_;refine giN q (fun q=>?_) (fun q=>?_)
  ·rw [if_neg (df q)] at H;refine go ?_;obtain ⟨Qek,hx14_1,H⟩:=bnd H;refine cx (Yw 5 c0 _ hx14_1 e0  _ (pre 0 1 0 hF hX)) ?_;rintro _ s8 ⟨t9,rfl,hT,hG⟩;obtain ⟨t10,hX,hF⟩:=aft 0 1 0 hF hX hT hG;refine go ?_;refine cdp H (fun h H=>?_) (fun h H=>?_)
   ·refine go ?_;obtain ⟨x18,hx18,H⟩:=bnd H;refine cx (Yw 3 Qek.2 _ hx18 e0  _ (pre 0 1 0 hF hX)) ?_;rintro _ s11 ⟨t12,rfl,hT,hG⟩;obtain ⟨t13,hX,hF⟩:=aft 0 1 0 hF hX hT hG;refine go ?_;refine cdp H (fun h H=>?_) (fun h H=>?_)
    ·refine go ?_;obtain ⟨x22,hx22,H⟩:=bnd H;refine cx (Y3 [0,1,2,7] x18.2 _ hx22 e0  _ (pre 0 1 0 hF hX)) ?_;rintro _ s14 ⟨t15,rfl,hT,hG⟩;obtain ⟨t16,hX,hF⟩:=aft 0 1 0 hF hX hT hG;refine go ?_;refine st hF 0 rfl fun s17 hF=>?_;refine go ?_;have e:=pur H;subst e;exact rg _ ⟨_,rfl,hX,K4 _⟩
    ·refine go ?_;obtain ⟨x28,hx28,H⟩:=bnd H;refine cx (Yw (a1.length:Int) x18.2 _ hx28 e0  _ (pre 0 1 0 hF hX)) ?_;rintro _ s18 ⟨t19,rfl,hT,hG⟩;obtain ⟨t20,hX,hF⟩:=aft 0 1 0 hF hX hT hG;obtain ⟨x29,f1,H⟩:=bil (g:=cS) (fun _=>rfl) H;refine go1 ?_;refine bp H (VQ x29) fun x31 h H=>cl h ?_;refine go ?_;refine st hF 0 rfl fun s21 hF=>?_;refine go ?_;have e:=pur H;subst e;exact rg _ ⟨_,rfl,hX,K4 _⟩
   ·refine go ?_;obtain ⟨x34,hx34,H⟩:=bnd H;refine cx (J7 [(Qk #[120]),(Qk #[121]),(Qk #[116])] Qek.2 _ hx34 e0  _ (pre 0 1 0 hF hX)) ?_;rintro _ s22 ⟨t23,rfl,hT,hG⟩;obtain ⟨t24,hX,hF⟩:=aft 0 1 0 hF hX hT hG;refine go ?_;have hF:=hF.lit 9 1 (rws cS []) rfl;refine apd (g:=cS) hF 0 H (rdo (c:=false) (g:=cS) (fun _=>rfl)) fun x37 H v25 s26 hF=>?_;refine go ?_;refine apf (g:=cS) hF 0 H (rdo (c:=true) (g:=cS) (fun _=>rfl)) fun x40 H s28 hF=>?_;refine go ?_;obtain ⟨x42,hx42,H⟩:=bnd H;refine cx (Yw 8 x34.2 _ hx42 e0  _ (pre 0 1 0 hF hX)) ?_;rintro _ s29 ⟨t30,rfl,hT,hG⟩;obtain ⟨t31,hX,hF⟩:=aft 0 1 0 hF hX hT hG;refine go ?_;obtain ⟨Qar,j33,H⟩:=bnd H;refine Wq (fun s'=>∃(T:TT) (ss1 tt1:Sto),s'=⟨T,ss1⟩/\(T 0=.ptr e0 0/\T 1=sf cS a1/\T 2=i6 a2/\T 6=.ptr b1 0/\T 7=.str x34.1/\T 8=sf cS x40/\T 42=i6 x42.1/\T 43=.bool Qar)/\Tau tt0 [(e0,⟨89,2,[sf cU x42.2.b,i6 x42.2.p]⟩)] tt1/\Fx tt1 ss1 [(b1,⟨26,5,[i6 0,.str zB,i6 0,.Yd,.Yd]⟩)] []) (cdp j33 (fun h j33=>?_) (fun h j33=>?_)) ?_
    ·refine go ?_;have e:=pur j33;subst e;exact ⟨_,_,_,rfl,S,hX,hF⟩
    ·refine go ?_;have e:=pur j33;subst e;exact ⟨_,_,_,rfl,S,hX,hF⟩
    ·rintro s' ⟨T34,s35,t36,rfl,tT,hX,hF⟩;refine go ?_;refine cdb H (fun h H=>?_) (fun h H=>?_)
     ·refine go ?_;refine bp H (VQ (Qk #[108,97,109,98,100,97])) fun x46 h H=>cl h ?_;refine go ?_;refine bp H (VQ x34.1) fun x48 h H=>cl h ?_;refine go ?_;refine bp H (WE [x48]) fun x50 h H=>cl h ?_;refine go ?_;obtain ⟨x55,hx55,H⟩:=bnd H;refine cx (C0 x40 (i64.wrap (a2 - 1)) x42.2 _ hx55 e0  _ (pre 0 1 0 hF hX)) ?_;rintro _ s37 ⟨t38,rfl,hT,hG⟩;obtain ⟨t39,hX,hF⟩:=aft 0 1 0 hF hX hT hG;refine go ?_;refine bp H (WE [x46,x50,x55.1]) fun x57 h H=>cl h ?_;refine go ?_;refine st hF 0 rfl fun s40 hF=>?_;refine go ?_;have e:=pur H;subst e;exact rg _ ⟨_,rfl,hX,K4 _⟩
     ·refine go ?_;obtain ⟨Qas,j42,H⟩:=bnd H;refine Wq (fun s'=>∃(T:TT) (ss1 tt1:Sto),s'=⟨T,ss1⟩/\(T 0=.ptr e0 0/\T 1=sf cS a1/\T 2=i6 a2/\T 6=.ptr b1 0/\T 7=.str x34.1/\T 8=sf cS x40/\T 42=i6 x42.1/\T 58=.bool Qas)/\Tau tt0 [(e0,⟨89,2,[sf cU x42.2.b,i6 x42.2.p]⟩)] tt1/\Fx tt1 ss1 [(b1,⟨26,5,[i6 0,.str zB,i6 0,.Yd,.Yd]⟩)] []) (cdp j42 (fun h j42=>?_) (fun h j42=>?_)) ?_
      ·refine go ?_;have e:=pur j42;subst e;exact ⟨_,_,_,rfl,S,hX,hF⟩
      ·refine go ?_;have e:=pur j42;subst e;exact ⟨_,_,_,rfl,S,hX,hF⟩
      ·rintro s' ⟨T43,s44,t45,rfl,tT,hX,hF⟩;refine go ?_;refine cdb H (fun h H=>?_) (fun h H=>?_)
       ·refine go ?_;refine bp H (VQ x34.1) fun x62 h H=>cl h ?_;refine go ?_;obtain ⟨x67,hx67,H⟩:=bnd H;refine cx (C0 a1 (i64.wrap (a2 - 1)) x42.2 _ hx67 e0  _ (pre 0 1 0 hF hX)) ?_;rintro _ s46 ⟨t47,rfl,hT,hG⟩;obtain ⟨t48,hX,hF⟩:=aft 0 1 0 hF hX hT hG;refine go ?_;refine bp H (WE [x62,x67.1]) fun x69 h H=>cl h ?_;refine go ?_;refine Ya hF rfl fun b49 s50 hF=>?_;refine go ?_;refine st hF 0 rfl fun s51 hF=>?_;refine go ?_;obtain ⟨E,hEq⟩:∃E,E=EE s51 [e0]:=⟨_,rfl⟩
        have n52:¬E b49:=by rw [hEq];exact K6 (hF.at 0 rfl) (nm1 (neX hF 0 rfl hX 0 rfl))
        have n53:¬E b1:=by rw [hEq];exact K6 (hF.at 1 rfl) (nm1 (neX hF 1 rfl hX 0 rfl))
        refine Yj E [.v,.v,.v,.v,.v,.v,.v,.v,.x,.v,.v,.z] (by kernel_rfl) ?_;have z:=K3 (X8 (hF.at 0 rfl) n52) (X8 (hF.at 1 rfl) n53);refine gh ?_;refine bp H (VQ (Qk #[108,101,116])) fun x70 h H=>cv h ?_;have z:=K3 (X8 (hF.at 0 rfl) n52) (X8 (hF.at 1 rfl) n53);refine gh ?_;refine bp H (WE [x69]) fun x73 h H=>cv h ?_;have z:=K3 (X8 (hF.at 0 rfl) n52) (X8 (hF.at 1 rfl) n53);refine gh ?_;obtain ⟨x78,hx78,H⟩:=bnd H;refine cx (C0 x40 (i64.wrap (a2 - 1)) x67.2 _ hx78 e0  _ (pre 0 1 0 hF hX)) ?_;rintro _ s54 ⟨t55,rfl,hT,hG⟩
        refine W7 (K9 hT hG (by intro p hp;simp only [Kj,KE,or_false] at hp<;>first | (rcases hp with rfl<;>(rw [hEq];first | (refine Zd ?_;simp;done) | exact Zm rfl))| cases hp)) fun kp57=>?_
        obtain ⟨t56,hX,hF⟩:=aft 0 1 0 hF hX hT hG;have z:=K3 (X8 (hF.at 0 rfl) n52) (X8 (hF.at 1 rfl) n53);refine gh ?_;refine bp H (WE [x70,x73,x78.1]) fun x80 h H=>cv h ?_;have z:=K3 (X8 (hF.at 0 rfl) n52) (X8 (hF.at 1 rfl) n53);refine gh ?_;refine st hF 1 rfl fun s58 hF=>?_;have z:=K3 (X8 (hF.at 0 rfl) n52) (X8 (hF.at 1 rfl) n53);refine gh ?_;refine go ?_;have e:=pur H;subst e;exact rg [.agg [i6 x80.kind,.str x80.name,i6 x80.num,sf cI x80.sc,sf KY x80.kids]] ⟨_,rfl,hX,K4 _⟩
       ·refine go ?_;refine cdp H (fun h H=>?_) (fun h H=>?_)
        ·refine go ?_;refine bp H (VQ (Qk #[105,102])) fun x83 h H=>cl h ?_;refine go ?_;obtain ⟨x88,hx88,H⟩:=bnd H;refine cx (C0 a1 (i64.wrap (a2 - 1)) x42.2 _ hx88 e0  _ (pre 0 1 0 hF hX)) ?_;rintro _ s59 ⟨t60,rfl,hT,hG⟩;obtain ⟨t61,hX,hF⟩:=aft 0 1 0 hF hX hT hG;refine go ?_;obtain ⟨x93,hx93,H⟩:=bnd H;refine cx (C0 a1 (i64.wrap (a2 - 1)) x88.2 _ hx93 e0  _ (pre 0 1 0 hF hX)) ?_;rintro _ s62 ⟨t63,rfl,hT,hG⟩;obtain ⟨t64,hX,hF⟩:=aft 0 1 0 hF hX hT hG;refine go ?_;obtain ⟨x96,hx96,H⟩:=bnd H;refine cx (C0 a1 0 x93.2 _ hx96 e0  _ (pre 0 1 0 hF hX)) ?_;rintro _ s65 ⟨t66,rfl,hT,hG⟩;obtain ⟨t67,hX,hF⟩:=aft 0 1 0 hF hX hT hG;refine go ?_;refine bp H (WE [x83,x88.1,x93.1,x96.1]) fun x98 h H=>cl h ?_;refine go ?_;refine st hF 0 rfl fun s68 hF=>?_;refine go ?_;have e:=pur H;subst e;exact rg _ ⟨_,rfl,hX,K4 _⟩
        ·refine go ?_;refine cdp H (fun h H=>?_) (fun h H=>?_)
         ·refine go ?_;refine bp H (VQ (Qk #[113,117,111,116,101])) fun x101 h H=>cl h ?_;refine go ?_;obtain ⟨x103,hx103,H⟩:=bnd H;refine cx (PV 1 x42.2 _ hx103 e0  _ (pre 0 1 0 hF hX)) ?_;rintro _ s69 ⟨t70,rfl,hT,hG⟩;obtain ⟨t71,hX,hF⟩:=aft 0 1 0 hF hX hT hG;refine go ?_;refine bp H (WE [x101,x103.1]) fun x105 h H=>cl h ?_;refine go ?_;refine st hF 0 rfl fun s72 hF=>?_;refine go ?_;have e:=pur H;subst e;exact rg _ ⟨_,rfl,hX,K4 _⟩
         ·refine go ?_;obtain ⟨x110,hx110,H⟩:=bnd H;refine cx (C0 a1 (i64.wrap (a2 - 1)) x42.2 _ hx110 e0  _ (pre 0 1 0 hF hX)) ?_;rintro _ s73 ⟨t74,rfl,hT,hG⟩;obtain ⟨t75,hX,hF⟩:=aft 0 1 0 hF hX hT hG;refine go ?_;obtain ⟨x115,hx115,H⟩:=bnd H;refine cx (C0 a1 (i64.wrap (a2 - 1)) x110.2 _ hx115 e0  _ (pre 0 1 0 hF hX)) ?_;rintro _ s76 ⟨t77,rfl,hT,hG⟩;obtain ⟨t78,hX,hF⟩:=aft 0 1 0 hF hX hT hG;refine go ?_;refine bp H (WE [x110.1,x115.1]) fun x117 h H=>cl h ?_;refine go ?_;refine st hF 0 rfl fun s79 hF=>?_;refine go ?_;have e:=pur H;subst e;exact rg _ ⟨_,rfl,hX,K4 _⟩
  ·rw [if_pos (dt q)] at H;refine go ?_;obtain ⟨Qel,hx18_1,H⟩:=bnd H;refine cx (Yw 3 c0 _ hx18_1 e0  _ (pre 0 1 0 hF hX)) ?_;rintro _ s80 ⟨t81,rfl,hT,hG⟩;obtain ⟨t82,hX,hF⟩:=aft 0 1 0 hF hX hT hG;refine go ?_;refine cdp H (fun h H=>?_) (fun h H=>?_)
   ·refine go ?_;obtain ⟨Qk3,hx22_1,H⟩:=bnd H;refine cx (Y3 [0,1,2,7] Qel.2 _ hx22_1 e0  _ (pre 0 1 0 hF hX)) ?_;rintro _ s83 ⟨t84,rfl,hT,hG⟩;obtain ⟨t85,hX,hF⟩:=aft 0 1 0 hF hX hT hG;refine go ?_;refine st hF 0 rfl fun s86 hF=>?_;refine go ?_;have e:=pur H;subst e;exact rg _ ⟨_,rfl,hX,K4 _⟩
   ·refine go ?_;obtain ⟨Qos,hx28_1,H⟩:=bnd H;refine cx (Yw (a1.length:Int) Qel.2 _ hx28_1 e0  _ (pre 0 1 0 hF hX)) ?_;rintro _ s87 ⟨t88,rfl,hT,hG⟩;obtain ⟨t89,hX,hF⟩:=aft 0 1 0 hF hX hT hG;obtain ⟨Qot,f1,H⟩:=bil (g:=cS) (fun _=>rfl) H;refine go1 ?_;obtain ⟨Qap,hx31_1,H⟩:=bnd H;refine cl (VQ Qot _ hx31_1) ?_;refine go ?_;refine st hF 0 rfl fun s90 hF=>?_;refine go ?_;have e:=pur H;subst e;exact rg _ ⟨_,rfl,hX,K4 _⟩
theorem Rs:∀(c0:Rdr) r,Cx c0=some r->∀(e0:Nat)  (σ:Sto),Pre σ [(e0,⟨89,2,[sf cU c0.b,i6 c0.p]⟩)] []->Ctr KZ 109 [.ptr e0 0] σ (fun r' ss'=>∃(tt':Sto),r'=.agg (KY r.1)/\Tau (strip σ []) [(e0,⟨89,2,[sf cU r.2.b,i6 r.2.p]⟩)] tt'/\Fx tt' ss' [] []):=by
 intro c0 r H;intro e0  σ hP;unfold Cx at H;refine hdg mixed Tryz.func109 (rs:=[.cell 2 26]) fun q tT=>?_;obtain ⟨hF,hX⟩:=hP.start;generalize strip σ []=tt0 at hF hX ⊢;refine go ?_;refine Ya hF rfl fun b1 ss2 hF=>?_;refine go ?_;refine bp H (O8 ) fun x6 h H=>cl h ?_;refine go ?_;obtain ⟨x8,hx8,H⟩:=bnd H;refine cx (Yw 3 c0 _ hx8 e0  _ (pre 0 1 0 hF hX)) ?_;rintro _ ss3 ⟨tt4,rfl,hT,hG⟩;obtain ⟨tt5,hX,hF⟩:=aft 0 1 0 hF hX hT hG;refine goL ?_;refine cdp H (fun h H=>?_) (fun h H=>?_)
 ·refine go ?_;obtain ⟨x14,hx14,H⟩:=bnd H;refine cx (Yw (x6.length:Int) x8.2 _ hx14 e0  _ (pre 0 1 0 hF hX)) ?_;rintro _ ss6 ⟨t7,rfl,hT,hG⟩;obtain ⟨t8,hX,hF⟩:=aft 0 1 0 hF hX hT hG;obtain ⟨x15,f1,H⟩:=bil (g:=cS) (fun _=>rfl) H;refine go1 ?_;refine bp H (EN x15) fun x17 h H=>cl h ?_;refine go ?_;refine st hF 0 rfl fun s9 hF=>?_;refine go ?_;have e:=pur H;subst e;exact rg _ ⟨_,rfl,hX,K4 _⟩
 ·refine go ?_;obtain ⟨x22,hx22,H⟩:=bnd H;refine cx (Y3 [4,3,2] x8.2 _ hx22 e0  _ (pre 0 1 0 hF hX)) ?_;rintro _ s10 ⟨t11,rfl,hT,hG⟩;obtain ⟨t12,hX,hF⟩:=aft 0 1 0 hF hX hT hG;refine go ?_;obtain ⟨x23,hx23,H⟩:=bnd H;refine cx (Ru [(Qk #[43]),(Qk #[108,105,115,116]),(Qk #[103])] x22.1 x22.2 _ hx23 e0  _ (pre 0 1 0 hF hX)) ?_;rintro _ s13 ⟨t14,rfl,hT,hG⟩;obtain ⟨t15,hX,hF⟩:=aft 0 1 0 hF hX hT hG;refine go ?_;refine Ya hF rfl fun b16 s17 hF=>?_;refine go ?_;refine st hF 0 rfl fun s18 hF=>?_;refine go ?_;obtain ⟨x25,hx25,H⟩:=bnd H;refine cx (Yw 2 x23.2 _ hx25 e0  _ (pre 0 1 0 hF hX)) ?_;rintro _ s19 ⟨t20,rfl,hT,hG⟩;obtain ⟨t21,hX,hF⟩:=aft 0 1 0 hF hX hT hG;refine goL ?_;refine cdp H (fun h H=>?_) (fun h H=>?_)
  ·refine goL ?_;refine bp H (EN (Qk #[40,114,117,108,101,115,32,40,41,32,40,40,95,32,97,32,98,41,32,40,108,101,116,32,40,40,116,32,97,41,41,32,40,108,105,115,116,32,98,32,116,41,41,41,32,40,40,95,32,97,41,32,40,108,101,116,32,40,40,120,32,97,41,41,32,40,108,105,115,116,32,120,32,97,41,41,41,41])) fun x27 h H=>cl h ?_;refine goL ?_;refine Ya hF rfl fun b22 s23 hF=>?_;refine goL ?_;refine st hF 0 rfl fun s24 hF=>?_;refine goL ?_;refine Yj E0 [.v,.v,.v,.v,.v,.v,.v,.v,.v,.v,.z] (by kernel_rfl) ?_;refine goL ?_;refine bp H (VQ (Qk #[108,101,116,45,115,121,110,116,97,120])) fun x28 h H=>cv h ?_;refine goL ?_;refine bp H (VQ (Qk #[103])) fun x29 h H=>cv h ?_;refine goL ?_;refine bp H (WE [x29,x27]) fun x32 h H=>cv h ?_;refine goL ?_;refine bp H (WE [x32]) fun x34 h H=>cv h ?_;refine goL ?_;refine bp H (WE [x28,x34,x23.1]) fun x37 h H=>cv h ?_;refine goL ?_;refine st hF 1 rfl fun s25 hF=>?_;refine goL ?_;refine st hF 2 rfl fun s26 hF=>?_;refine goL ?_;have e:=pur H;subst e;exact rg _ ⟨_,rfl,hX,K4 _⟩
  ·refine goL ?_;refine st hF 1 rfl fun s27 hF=>?_;refine goL ?_;have e:=pur H;subst e;exact rg _ ⟨_,rfl,hX,K4 _⟩
theorem We:∀(a0:Fm) r,Wb a0=some r->VK KZ 58 [.agg (KY a0)] (.agg (KY r)):=by
 refine Wb.partial_correctness _ (motive_2:=fun a0 x14 X9 YA out=>∀c,Yg Tryz.f58 0=some c->∀(Q:QT) (tt:Sto) (b1 b3 b5:Nat),(∀(Vu:List Fm),out=Vu->∀(T:TT) (σ:Sto) (e0v0:AV),T 2=.ptr b3 0/\T 3=.ptr b5 0->Fx tt σ [(b5,⟨26,5,[i6 a0.kind,.str a0.name,i6 a0.num,sf cI x14,e0v0]⟩),(b3,⟨26,5,[i6 0,.str zB,i6 0,.Yd,.Yd]⟩),(b1,⟨26,5,[i6 a0.kind,.str a0.name,i6 a0.num,sf cI a0.sc,sf KY a0.kids]⟩)] [⟨e0v0,26,5,rws KY Vu⟩]->Q (.ex 0) ⟨T,σ⟩)->True->∀(T:TT) (σ:Sto) (z0v0:AV),T 1=.ptr b1 0/\T 2=.ptr b3 0/\T 3=.ptr b5 0/\T 4=i6 YA->Fx tt σ [(b5,⟨26,5,[i6 a0.kind,.str a0.name,i6 a0.num,sf cI x14,z0v0]⟩),(b3,⟨26,5,[i6 0,.str zB,i6 0,.Yd,.Yd]⟩),(b1,⟨26,5,[i6 a0.kind,.str a0.name,i6 a0.num,sf cI a0.sc,sf KY a0.kids]⟩)] [⟨z0v0,26,5,rws KY X9⟩]->aLp KZ c Q ⟨T,σ⟩) ?_ ?_
 ·intro Gs L0 a0 r H;intro σ;refine hdg mixed Tryz.func58 (rs:=[.cell 2 26]) fun q tT=>?_;have hF:=K2 σ;have hX:=Tau.none σ;refine go ?_;refine Ya hF rfl fun b1 ss2 hF=>?_;refine go ?_;refine Ya hF rfl fun b3 ss4 hF=>?_;refine go ?_;refine Yj E0 [.v,.v,.v,.v,.v,.v,.v,.v,.v,.v,.v,.x,.z] (by kernel_rfl) ?_;refine go ?_;obtain ⟨x14,hx14,H⟩:=bnd H;refine Nh (g:=cI) (xs:=[]) (ys:=a0.sc) (fun _=>rfl) (by decide) (by decide) (.inr (by first | rfl | simp only [Vm,VR,cI,cU,cS,cL])) (.inr ⟨_,by first | rfl | simp only [Vm,VR,cI,cU,cS,cL]⟩) hx14 ?_;refine go ?_;refine Hg hF rfl fun b5 ss6 hF=>?_;refine go ?_;refine st hF 0 rfl fun s7 hF=>?_;have hF:=hF.nil 26 5;refine go ?_;obtain ⟨o11,ho11,H⟩:=bnd H;refine L0 a0 x14 [] 0 _ ho11 _ rfl _ _ b1 b3 b5 ?_ ?_ _ _ .Yd S hF
  ·intro M7 he T13 s14 e12v0 tT hF;have he:=he.symm;subst he;refine go ?_;refine st hF 1 rfl fun s16 hF=>?_;refine go ?_;have e:=pur H;subst e;exact rt _
  ·trivial
 ·intro Wb Gs C0 L0 a0 x14 X9 YA out H c hc Q tt b1 b3 b5 hE hR T σ z0v0 tT hF;refine lpx tt hc rfl fun q hX=>go ?_;refine cdp H (fun h H=>?_) (fun h H=>?_)
  ·refine go ?_;refine Yj E0 [.v,.v,.v,.v,.v,.v,.v,.v,.v,.x,.v,.z] (by kernel_rfl) ?_;obtain ⟨x28,f1,H⟩:=bil (g:=KY) Fm.X7 H;refine go1 ?_;refine bp H (C0 x28) fun x30 h H=>cv h ?_;refine go ?_;refine PD (g:=KY) hF 0 H (rdo (c:=true) (g:=KY) Fm.X7) fun x32 H v8 s9 hF=>?_;refine go ?_;refine st hF 0 (hF.cells 0 rfl) fun s10 hF=>?_;refine go ?_;exact L0 a0 x14 x32 (i64.wrap (YA+1)) _ H _ rfl Q tt b1 b3 b5 hE hR _ _ v8 S hF
  ·refine go ?_;exact wq (hE _ (pur H).symm _ _ z0v0 S hF)
theorem Di:∀(a0:Fm) (x14:List Int) (Vn:List Fm) (YA:Int) out,VM a0 x14 Vn YA=some out->∀c,Yg Tryz.f58 0=some c->∀(Q:QT) (tt0:Sto) (b1 b3:Nat) (v5:AV) (b7:Nat),(∀(Lf:List Fm),out=Lf->∀(T:TT) (σ tt:Sto) (e0v1:AV),T 2=.ptr b3 0/\T 3=.ptr b7 0->Tau tt0 [] tt->Fx tt σ [(b7,⟨26,5,[i6 a0.kind,.str a0.name,i6 a0.num,v5,e0v1]⟩),(b3,⟨26,5,[i6 0,.str zB,i6 0,.Yd,.Yd]⟩),(b1,⟨26,5,[i6 a0.kind,.str a0.name,i6 a0.num,sf cI a0.sc,sf KY a0.kids]⟩)] [⟨e0v1,26,5,rws KY Lf⟩,⟨v5,3,1,rws cI x14⟩]->Q (.ex 0) ⟨T,σ⟩)->True->∀(T:TT) (σ tt:Sto) (z0v1:AV),T 1=.ptr b1 0/\T 2=.ptr b3 0/\T 3=.ptr b7 0/\T 4=i6 YA->Tau tt0 [] tt->Fx tt σ [(b7,⟨26,5,[i6 a0.kind,.str a0.name,i6 a0.num,v5,z0v1]⟩),(b3,⟨26,5,[i6 0,.str zB,i6 0,.Yd,.Yd]⟩),(b1,⟨26,5,[i6 a0.kind,.str a0.name,i6 a0.num,sf cI a0.sc,sf KY a0.kids]⟩)] [⟨z0v1,26,5,rws KY Vn⟩,⟨v5,3,1,rws cI x14⟩]->aLp KZ c Q ⟨T,σ⟩:=by
 intro a0 x14 Vn YA;revert Vn YA;refine VM.partial_correctness a0 x14 _ ?_;intro VM IH Vn YA out H c hc Q tt0 b1 b3 v5 b7 hE hR T σ tt z0v1 tT hX hF;refine lpy hc rfl fun q=>go ?_;refine cdp H (fun h H=>?_) (fun h H=>?_)
 ·refine go ?_;refine Yj E0 [.v,.v,.v,.v,.v,.v,.v,.v,.v,.x,.v,.z] (by kernel_rfl) ?_;obtain ⟨x28,f1,H⟩:=bil (g:=KY) Fm.X7 H;refine go1 ?_;refine bp H (We x28) fun x30 h H=>cv h ?_;refine go ?_;refine PD (g:=KY) hF 0 H (rdo (c:=true) (g:=KY) Fm.X7) fun x32 H v10 s11 hF=>?_;refine go ?_;refine st hF 0 (hF.cells 0 rfl) fun s12 hF=>?_;refine go ?_;exact IH  x32 (i64.wrap (YA+1)) _ H _ rfl Q tt0 b1 b3 v5 b7 hE hR _ _ _ v10 S hX hF
 ·refine go ?_;exact wq (hE _ (pur H).symm _ _ _ z0v1 S hX hF)
theorem Eh:∀(a0:Fm) r,GY a0=some r->∀   (σ:Sto),Pre σ [] []->Ctr KZ 58 [.agg (KY a0)] σ (fun r' ss'=>∃(tt':Sto) (Qtc Qq9:AV),r'=.agg [i6 r.kind,.str r.name,i6 r.num,Qtc,Qq9]/\Tau (strip σ []) [] tt'/\Fx tt' ss' [] [⟨Qtc,3,1,rws cI r.sc⟩,⟨Qq9,26,5,rws KY r.kids⟩]):=by
 intro a0 r H;intro   σ hP;unfold GY at H;refine hdg mixed Tryz.func58 (rs:=[.cell 2 26]) fun q tT=>?_;obtain ⟨hF,hX⟩:=hP.start;generalize strip σ []=tt0 at hF hX ⊢;refine go ?_;refine Ya hF rfl fun b1 ss2 hF=>?_;refine go ?_;refine Ya hF rfl fun b3 ss4 hF=>?_;refine go ?_;refine Yj E0 [.v,.v,.v,.v,.v,.v,.v,.v,.v,.x,.v,.x,.z] (by kernel_rfl) ?_;refine go ?_;have hF:=hF.lit 3 1 (rws cI []) rfl;refine PD (g:=cI) hF 0 H (rdo (c:=false) (g:=cI) (fun _=>rfl)) fun x14 H v5 ss6 hF=>?_;refine go ?_;refine Hg hF rfl fun b7 s8 hF=>?_;refine go ?_;refine st hF 0 rfl fun s9 hF=>?_;have hF:=hF.nil 26 5;refine go ?_;obtain ⟨o13,ho13,H⟩:=bnd H;refine Di a0 x14 [] 0 _ ho13 _ rfl _ tt0 b1 b3 v5 b7 ?_ ?_ _ _ _ .Yd S hX hF
 ·intro Qlg he T15 s16 t17 e14v1 tT hX hF;have he:=he.symm;subst he;refine go ?_;refine st hF 1 rfl fun s18 hF=>?_;refine go ?_;have e:=pur H;subst e;exact rg _ ⟨_,_,_,rfl,hX,hF.pick [] [1,0] (by decide) (by decide)⟩
 ·trivial
theorem D8:∀(a1:Fm) (c0:Rdr) r,Hp a1 c0=some r->∀(e0:Nat)  (σ:Sto),Pre σ [(e0,⟨89,2,[sf cU c0.b,i6 c0.p]⟩)] []->Ctr KZ 56 [.ptr e0 0,.agg (KY a1)] σ (fun r' ss'=>∃(tt':Sto),r'=.agg (KY r.1)/\Tau (strip σ []) [(e0,⟨89,2,[sf cU r.2.b,i6 r.2.p]⟩)] tt'/\Fx tt' ss' [] []):=by
 refine Hp.partial_correctness  (motive:=fun a1 c0 r=>∀(e0:Nat)  (σ:Sto),Pre σ [(e0,⟨89,2,[sf cU c0.b,i6 c0.p]⟩)] []->Ctr KZ 56 [.ptr e0 0,.agg (KY a1)] σ (fun r' ss'=>∃(tt':Sto),r'=.agg (KY r.1)/\Tau (strip σ []) [(e0,⟨89,2,[sf cU r.2.b,i6 r.2.p]⟩)] tt'/\Fx tt' ss' [] [])) ?_
 ·intro Hp C0 a1 c0 r H;intro e0  σ hP;refine hdg mixed Tryz.func56 (rs:=[.cell 4 26]) fun q tT=>?_;obtain ⟨hF,hX⟩:=hP.start;generalize strip σ []=tt0 at hF hX ⊢;refine go ?_;refine Ya hF rfl fun b1 ss2 hF=>?_;refine go ?_;refine Ya hF rfl fun b3 ss4 hF=>?_;refine go ?_;obtain ⟨x8,hx8,H⟩:=bnd H;refine cx (Eh a1 _ hx8   _ (pre 0 0 0 hF hX)) ?_;rintro _ s7 ⟨t8,v5,v6,rfl,hT,hG⟩;obtain ⟨t9,hX,hF⟩:=aft 0 0 0 hF hX hT hG;refine go ?_;refine Ya hF rfl fun b10 s11 hF=>?_;refine go ?_;refine st hF 0 rfl fun s12 hF=>?_;refine go ?_;refine gi q (fun q=>?_) (fun q=>?_)
  ·rw [if_pos (dt q)] at H;refine go ?_;obtain ⟨EY,hx15_1,H⟩:=bnd H;refine cx (Yw 2 c0 _ hx15_1 e0  _ (pre 0 1 0 hF hX)) ?_;rintro _ s18 ⟨t19,rfl,hT,hG⟩;obtain ⟨t20,hX,hF⟩:=aft 0 1 0 hF hX hT hG;refine go ?_;refine cdp H (fun h H=>?_) (fun h H=>?_)
   ·refine go ?_;obtain ⟨x22,hx22,H⟩:=bnd H;refine cx (Yw (x8.kids.length:Int) EY.2 _ hx22 e0  _ (pre 0 1 0 hF hX)) ?_;rintro _ s21 ⟨t22,rfl,hT,hG⟩;obtain ⟨t23,hX,hF⟩:=aft 0 1 0 hF hX hT hG;refine go ?_;obtain ⟨E,hEq⟩:∃E,E=EE s21 [e0]:=⟨_,rfl⟩
    have n24:¬E b10:=by rw [hEq];exact K6 (hF.at 0 rfl) (nm1 (neX hF 0 rfl hX 0 rfl))
    have n25:¬E b3:=by rw [hEq];exact K6 (hF.at 1 rfl) (nm1 (neX hF 1 rfl hX 0 rfl))
    have n26:¬E b1:=by rw [hEq];exact K6 (hF.at 2 rfl) (nm1 (neX hF 2 rfl hX 0 rfl))
    refine Yj E [.v,.v,.v,.v,.v,.v,.v,.v,.x,.x,.v,.z] (by kernel_rfl) ?_;have z:=K3 (X8 (hF.at 0 rfl) n24) (K3 (X8 (hF.at 1 rfl) n25) (X8 (hF.at 2 rfl) n26));refine gh ?_;obtain ⟨x30,hx30,H⟩:=bnd H;obtain ⟨b27,k28,hv⟩:=hF.ref 1 rfl hx30;subst hv
    try simp only [go_sem,↓reduceIte,Nat.reduceEqDiff,Nat.reduceAdd,Nat.reduceMul,Nat.reduceLeDiff,Nat.reduceLT,Int.reduceEq,Int.toNat_natCast,q,tT,hF.f,hF.m,hF.x hX,X8 (hF.at 0 rfl) n24,X8 (hF.at 1 rfl) n25,X8 (hF.at 2 rfl) n26,E2 (l:=x8.kids) rfl hx30,S6 hF 1 (p:=x22.1.toNat * 5) (sz:=5) (ag:=true) (k:=5) (o:=0) (g:=KY) (x:=x30) (i:=x22.1) (v:=(.agg [i6 x30.kind,.str x30.name,i6 x30.num,sf cI x30.sc,sf KY x30.kids])) (by first | rfl | simp) Fm.X7 rfl hx30 (by decide) (by first | rfl | (simp only [sf,i6,zB,cI,cU,cS,cL,cB,Fm.Yb];rfl))]
    obtain ⟨x32,hx32,H⟩:=bnd H;refine cx (C0 x30 x22.2 _ hx32 e0  _ (pre 0 1 0 hF hX)) ?_;rintro _ s29 ⟨t30,rfl,hT,hG⟩
    refine W7 (K9 hT hG (by intro p hp;simp only [Kj,KE,or_false] at hp<;>first | (rcases hp with rfl<;>(rw [hEq];first | (refine Zd ?_;simp;done) | exact Zm rfl))| cases hp)) fun kp32=>?_
    obtain ⟨t31,hX,hF⟩:=aft 0 1 0 hF hX hT hG;obtain ⟨x33,hx33,H⟩:=bnd H
    try simp only [go_sem,↓reduceIte,Nat.reduceEqDiff,Nat.reduceAdd,Nat.reduceMul,Nat.reduceLeDiff,Nat.reduceLT,Int.reduceEq,Int.toNat_natCast,q,tT,hF.f,hF.m,hF.x hX,X8 (hF.at 0 rfl) n24,X8 (hF.at 1 rfl) n25,X8 (hF.at 2 rfl) n26,E2 (l:=x8.kids) ((Nb hF 1 rfl).1.trans (Jo _)) hx33]
    refine UR hF 1 (o:=0) (sz:=5) (k:=5) (v:=(.agg [i6 x32.1.kind,.str x32.1.name,i6 x32.1.num,sf cI x32.1.sc,sf KY x32.1.kids])) (cs:=[i6 x32.1.kind,.str x32.1.name,i6 x32.1.num,sf cI x32.1.sc,sf KY x32.1.kids]) (g:=KY) (i:=x22.1) x32.1 Fm.X7 (by first | rfl | simp) rfl hx33 rfl rfl (by decide) (by first | rfl | simp [Hx,cI,cU,cS,cL,cB,Fm.Yb]) fun s33 hF=>?_;have hF:Fx t31 s33 [(b10,⟨26,5,[i6 x8.kind,.str x8.name,i6 x8.num,v5,.ref b27 x8.kids.length k28]⟩),(b3,⟨26,5,[i6 0,.str zB,i6 0,.Yd,.Yd]⟩),(b1,⟨26,5,[i6 a1.kind,.str a1.name,i6 a1.num,sf cI a1.sc,sf KY a1.kids]⟩)] [⟨v5,3,1,rws cI x8.sc⟩,⟨.ref b27 x8.kids.length k28,26,5,rws KY (x8.kids.set x22.1.toNat x32.1)⟩]:=hF;have z:=K3 (X8 (hF.at 0 rfl) n24) (K3 (X8 (hF.at 1 rfl) n25) (X8 (hF.at 2 rfl) n26));refine gh ?_;refine go ?_;refine st hF 1 rfl fun s34 hF=>?_;refine go ?_;have e:=pur H;subst e;exact rg _ ⟨_,rfl,hX,K4 _⟩
   ·refine go ?_;obtain ⟨x36,hx36,H⟩:=bnd H;refine cx (Yw 14 EY.2 _ hx36 e0  _ (pre 0 1 0 hF hX)) ?_;rintro _ s35 ⟨t36,rfl,hT,hG⟩;obtain ⟨t37,hX,hF⟩:=aft 0 1 0 hF hX hT hG;refine go ?_;refine cdp H (fun h H=>?_) (fun h H=>?_)
    ·refine go ?_;obtain ⟨x41,hx41,H⟩:=bnd H;refine cx (Y3 [0,4,1,3] x36.2 _ hx41 e0  _ (pre 0 1 0 hF hX)) ?_;rintro _ s38 ⟨t39,rfl,hT,hG⟩;obtain ⟨t40,hX,hF⟩:=aft 0 1 0 hF hX hT hG;refine go ?_;refine st hF 0 rfl fun s41 hF=>?_;refine go ?_;refine st hF 1 rfl fun s42 hF=>?_;refine go ?_;have e:=pur H;subst e;exact rg _ ⟨_,rfl,hX,K4 _⟩
    ·refine go ?_;refine cdp H (fun h H=>?_) (fun h H=>?_)
     ·refine go ?_;obtain ⟨x47,hx47,H⟩:=bnd H;refine cx (J7 [zB,(Qk #[65]),(Qk #[116,111,111,108,111,110,103,97,110,97,109,101,49]),(Qk #[122]),(Qk #[120,32,121])] x36.2 _ hx47 e0  _ (pre 0 1 0 hF hX)) ?_;rintro _ s43 ⟨t44,rfl,hT,hG⟩;obtain ⟨t45,hX,hF⟩:=aft 0 1 0 hF hX hT hG;refine go ?_;refine st hF 0 rfl fun s46 hF=>?_;refine go ?_;refine st hF 1 rfl fun s47 hF=>?_;refine go ?_;have e:=pur H;subst e;exact rg _ ⟨_,rfl,hX,K4 _⟩
     ·refine go ?_;refine cdp H (fun h H=>?_) (fun h H=>?_)
      ·refine go ?_;obtain ⟨x53,hx53,H⟩:=bnd H;refine cx (Y3 [1000,-1,5] x36.2 _ hx53 e0  _ (pre 0 1 0 hF hX)) ?_;rintro _ s48 ⟨t49,rfl,hT,hG⟩;obtain ⟨t50,hX,hF⟩:=aft 0 1 0 hF hX hT hG;refine go ?_;refine st hF 0 rfl fun s51 hF=>?_;refine go ?_;refine st hF 1 rfl fun s52 hF=>?_;refine go ?_;have e:=pur H;subst e;exact rg _ ⟨_,rfl,hX,K4 _⟩
      ·refine go ?_;refine cdp H (fun h H=>?_) (fun h H=>?_)
       ·refine go ?_;obtain ⟨E,hEq⟩:∃E,E=EE s35 [e0]:=⟨_,rfl⟩
        have n53:¬E b10:=by rw [hEq];exact K6 (hF.at 0 rfl) (nm1 (neX hF 0 rfl hX 0 rfl))
        have n54:¬E b3:=by rw [hEq];exact K6 (hF.at 1 rfl) (nm1 (neX hF 1 rfl hX 0 rfl))
        have n55:¬E b1:=by rw [hEq];exact K6 (hF.at 2 rfl) (nm1 (neX hF 2 rfl hX 0 rfl))
        refine Yj E [.v,.v,.v,.v,.x,.v,.x,.v,.z] (by kernel_rfl) ?_;have z:=K3 (X8 (hF.at 0 rfl) n53) (K3 (X8 (hF.at 1 rfl) n54) (X8 (hF.at 2 rfl) n55));refine gh ?_;obtain ⟨x61,hx61,H⟩:=bnd H;refine cx (Y3 [0,100,1,50] x36.2 _ hx61 e0  _ (pre 0 1 0 hF hX)) ?_;rintro _ s56 ⟨t57,rfl,hT,hG⟩
        refine W7 (K9 hT hG (by intro p hp;simp only [Kj,KE,or_false] at hp<;>first | (rcases hp with rfl<;>(rw [hEq];first | (refine Zd ?_;simp;done) | exact Zm rfl))| cases hp)) fun kp59=>?_
        obtain ⟨t58,hX,hF⟩:=aft 0 1 0 hF hX hT hG;have z:=K3 (X8 (hF.at 0 rfl) n53) (K3 (X8 (hF.at 1 rfl) n54) (X8 (hF.at 2 rfl) n55));refine gh ?_;refine PD (g:=cI) hF 0 H (rdo (c:=true) (g:=cI) (fun _=>rfl)) fun x63 H v60 s61 hF=>?_;have z:=K3 (X8 (hF.at 0 rfl) n53) (K3 (X8 (hF.at 1 rfl) n54) (X8 (hF.at 2 rfl) n55));refine gh ?_;refine st hF 0 (hF.cells 0 rfl) fun s62 hF=>?_;have z:=K3 (X8 (hF.at 0 rfl) n53) (K3 (X8 (hF.at 1 rfl) n54) (X8 (hF.at 2 rfl) n55));refine gh ?_;refine go ?_;refine st hF 1 rfl fun s63 hF=>?_;refine go ?_;have e:=pur H;subst e;exact rg _ ⟨_,rfl,hX,K4 _⟩
       ·refine go ?_;refine st hF 1 rfl fun s64 hF=>?_;refine go ?_;have e:=pur H;subst e;exact rg _ ⟨_,rfl,hX,K4 _⟩
  ·rw [if_neg (df q)] at H;refine go ?_;obtain ⟨L3,hx36_1,H⟩:=bnd H;refine cx (Yw 14 c0 _ hx36_1 e0  _ (pre 0 1 0 hF hX)) ?_;rintro _ s65 ⟨t66,rfl,hT,hG⟩;obtain ⟨t67,hX,hF⟩:=aft 0 1 0 hF hX hT hG;refine go ?_;refine cdp H (fun h H=>?_) (fun h H=>?_)
   ·refine go ?_;obtain ⟨Rz,hx41_1,H⟩:=bnd H;refine cx (Y3 [0,4,1,3] L3.2 _ hx41_1 e0  _ (pre 0 1 0 hF hX)) ?_;rintro _ s68 ⟨t69,rfl,hT,hG⟩;obtain ⟨t70,hX,hF⟩:=aft 0 1 0 hF hX hT hG;refine go ?_;refine st hF 0 rfl fun s71 hF=>?_;refine go ?_;refine st hF 1 rfl fun s72 hF=>?_;refine go ?_;have e:=pur H;subst e;exact rg _ ⟨_,rfl,hX,K4 _⟩
   ·refine go ?_;refine cdp H (fun h H=>?_) (fun h H=>?_)
    ·refine go ?_;obtain ⟨Qk5,hx47_1,H⟩:=bnd H;refine cx (J7 [zB,(Qk #[65]),(Qk #[116,111,111,108,111,110,103,97,110,97,109,101,49]),(Qk #[122]),(Qk #[120,32,121])] L3.2 _ hx47_1 e0  _ (pre 0 1 0 hF hX)) ?_;rintro _ s73 ⟨t74,rfl,hT,hG⟩;obtain ⟨t75,hX,hF⟩:=aft 0 1 0 hF hX hT hG;refine go ?_;refine st hF 0 rfl fun s76 hF=>?_;refine go ?_;refine st hF 1 rfl fun s77 hF=>?_;refine go ?_;have e:=pur H;subst e;exact rg _ ⟨_,rfl,hX,K4 _⟩
    ·refine go ?_;refine cdp H (fun h H=>?_) (fun h H=>?_)
     ·refine go ?_;obtain ⟨Qk6,hx53_1,H⟩:=bnd H;refine cx (Y3 [1000,-1,5] L3.2 _ hx53_1 e0  _ (pre 0 1 0 hF hX)) ?_;rintro _ s78 ⟨t79,rfl,hT,hG⟩;obtain ⟨t80,hX,hF⟩:=aft 0 1 0 hF hX hT hG;refine go ?_;refine st hF 0 rfl fun s81 hF=>?_;refine go ?_;refine st hF 1 rfl fun s82 hF=>?_;refine go ?_;have e:=pur H;subst e;exact rg _ ⟨_,rfl,hX,K4 _⟩
     ·refine go ?_;refine cdp H (fun h H=>?_) (fun h H=>?_)
      ·refine go ?_;obtain ⟨E,hEq⟩:∃E,E=EE s65 [e0]:=⟨_,rfl⟩
       have n83:¬E b10:=by rw [hEq];exact K6 (hF.at 0 rfl) (nm1 (neX hF 0 rfl hX 0 rfl))
       have n84:¬E b3:=by rw [hEq];exact K6 (hF.at 1 rfl) (nm1 (neX hF 1 rfl hX 0 rfl))
       have n85:¬E b1:=by rw [hEq];exact K6 (hF.at 2 rfl) (nm1 (neX hF 2 rfl hX 0 rfl))
       refine Yj E [.v,.v,.v,.v,.x,.v,.x,.v,.z] (by kernel_rfl) ?_;have z:=K3 (X8 (hF.at 0 rfl) n83) (K3 (X8 (hF.at 1 rfl) n84) (X8 (hF.at 2 rfl) n85));refine gh ?_;obtain ⟨Qov,hx61_1,H⟩:=bnd H;refine cx (Y3 [0,100,1,50] L3.2 _ hx61_1 e0  _ (pre 0 1 0 hF hX)) ?_;rintro _ s86 ⟨t87,rfl,hT,hG⟩
       refine W7 (K9 hT hG (by intro p hp;simp only [Kj,KE,or_false] at hp<;>first | (rcases hp with rfl<;>(rw [hEq];first | (refine Zd ?_;simp;done) | exact Zm rfl))| cases hp)) fun kp89=>?_
       obtain ⟨t88,hX,hF⟩:=aft 0 1 0 hF hX hT hG;have z:=K3 (X8 (hF.at 0 rfl) n83) (K3 (X8 (hF.at 1 rfl) n84) (X8 (hF.at 2 rfl) n85));refine gh ?_;refine PD (g:=cI) hF 0 H (rdo (c:=true) (g:=cI) (fun _=>rfl)) fun Qra H v90 s91 hF=>?_;have z:=K3 (X8 (hF.at 0 rfl) n83) (K3 (X8 (hF.at 1 rfl) n84) (X8 (hF.at 2 rfl) n85));refine gh ?_;refine st hF 0 (hF.cells 0 rfl) fun s92 hF=>?_;have z:=K3 (X8 (hF.at 0 rfl) n83) (K3 (X8 (hF.at 1 rfl) n84) (X8 (hF.at 2 rfl) n85));refine gh ?_;refine go ?_;refine st hF 1 rfl fun s93 hF=>?_;refine go ?_;have e:=pur H;subst e;exact rg _ ⟨_,rfl,hX,K4 _⟩
      ·refine go ?_;refine st hF 1 rfl fun s94 hF=>?_;refine go ?_;have e:=pur H;subst e;exact rg _ ⟨_,rfl,hX,K4 _⟩
theorem Rr:∀(a0:List Int) r,Cw a0=some r->VK KZ 75 [sf cU a0] (.tup [.agg (KY r.1),i6 r.2]):=by
 intro a0 r H;intro σ;unfold Cw at H;refine hdg mixed Tryz.func75 (rs:=[.cell 2 26,.tmp 3]) fun q tT=>?_;have hF:=K2 σ;have hX:=Tau.none σ;refine go ?_;refine Ya hF rfl fun b1 ss2 hF=>?_;refine go ?_;obtain ⟨x7,hx7,H⟩:=bnd H;refine cx (Cm a0 _ hx7   _ (pre 0 0 0 hF hX)) ?_;rintro _ ss4 ⟨tt5,b3,rfl,hT,hG⟩;have nw7:ss2.var b3=none:=(hT.off b3 (by simp)).symm.trans (hG.var _ (List.mem_cons_self ..)).2.1;have hF:=DL 0 0 hF hX hT hG;refine go ?_;obtain ⟨x9,hx9,H⟩:=bnd H;refine cx (Rs x7 _ hx9 b3  _ (pre 1 0 0 hF hX)) ?_;rintro _ s8 ⟨t9,rfl,hT,hG⟩;have hF:=DL 1 0 hF hX hT hG;refine go ?_;refine Ya hF rfl fun b11 s12 hF=>?_;refine go ?_;refine st hF 0 rfl fun s13 hF=>?_;refine go ?_;have hF:=pck hF [1,0,2] [];obtain ⟨x11,hx11,H⟩:=bnd H;refine cx (Yw 12 x9.2 _ hx11 b3  _ (pre 1 0 0 hF hX)) ?_;rintro _ s14 ⟨t15,rfl,hT,hG⟩;have hF:=DL 1 0 hF hX hT hG;have hF:=pck hF [1,0,2] [];refine go ?_;obtain ⟨⟨N5,N6,N7,N8,N9,Oa,Ob⟩,j18,H⟩:=bnd H;refine Wq (fun s'=>∃(T:TT) (ss1:Sto),s'=⟨T,ss1⟩/\(T 2=.ptr b1 0/\T 4=.ptr b3 0/\T 5=.ptr b11 0)/\Fx σ ss1 [(b11,⟨26,5,[i6 N7,.str N8,i6 N9,sf cI Oa,sf KY Ob]⟩),(b3,⟨89,2,[sf cU N5,i6 N6]⟩),(b1,⟨26,5,[i6 0,.str zB,i6 0,.Yd,.Yd]⟩)] []) (cdp j18 (fun h j18=>?_) (fun h j18=>?_)) ?_
 ·refine go ?_;have hF:=pck hF [1,0,2] [];obtain ⟨x16,hx16,j18⟩:=bnd j18;refine cx (D8 x9.1 x11.2 _ hx16 b3  _ (pre 1 0 0 hF hX)) ?_;rintro _ s19 ⟨t20,rfl,hT,hG⟩;have hF:=DL 1 0 hF hX hT hG;have hF:=pck hF [1,0,2] [];refine go ?_;have hF:=pck hF [1,0,2] [];obtain ⟨x17,hx17,j18⟩:=bnd j18;refine cx (D8 x16.1 x16.2 _ hx17 b3  _ (pre 1 0 0 hF hX)) ?_;rintro _ s22 ⟨t23,rfl,hT,hG⟩;have hF:=DL 1 0 hF hX hT hG;have hF:=pck hF [1,0,2] [];refine go ?_;refine st hF 0 rfl fun s25 hF=>?_;refine go ?_;have e:=pur j18
  injection e with e0 e
  injection e with e1 e
  injection e with e2 e
  injection e with e3 e
  injection e with e4 e
  injection e with e5 e
  subst e0;subst e1;subst e2;subst e3;subst e4;subst e5;subst e;exact ⟨_,_,rfl,S,hF⟩
 ·refine go ?_;have e:=pur j18
  injection e with e0 e
  injection e with e1 e
  injection e with e2 e
  injection e with e3 e
  injection e with e4 e
  injection e with e5 e
  subst e0;subst e1;subst e2;subst e3;subst e4;subst e5;subst e;exact ⟨_,_,rfl,S,hF⟩
 ·rintro s' ⟨T26,s27,rfl,tT,hF⟩;refine go ?_;obtain ⟨E,hEq⟩:∃E,E=EE s27 [b3,b1]:=⟨_,rfl⟩
  have n29:¬E b11:=by rw [hEq];exact K6 (hF.at 0 rfl) (nm2 ⟨neL hF 0 1 rfl rfl (by decide),neL hF 0 2 rfl rfl (by decide)⟩)
  refine Yj E [.v,.v,.v,.x,.x,.v] (by kernel_rfl) ?_;have z:=X8 (hF.at 0 rfl) n29;refine gh ?_;have hF:=pck hF [1,0,2] [];obtain ⟨x21,hx21,H⟩:=bnd H;refine cx (Y3 [20,10,60,3,1,0,61] (Rdr.mk N5 N6) _ hx21 b3  _ (pre 1 0 0 hF hX)) ?_;rintro _ s30 ⟨t31,rfl,hT,hG⟩
  refine W7 (K9 hT hG (by intro p hp;simp only [Kj,KE,or_false] at hp<;>first | (rcases hp with rfl<;>(rw [hEq];first | (refine Zd ?_;simp;done) | exact Zm nw7))| cases hp)) fun kp33=>?_
  have hF:=DL 1 0 hF hX hT hG;have hF:=pck hF [1,0,2] [];have z:=X8 (hF.at 0 rfl) n29;refine gh ?_;refine stK hF 2 (by rw [hEq];exact Zd (by simp)) rfl fun s34 hF=>?_;have z:=X8 (hF.at 0 rfl) n29;refine gh ?_;refine go ?_;have e:=pur H;subst e;exact rt [.agg [i6 N7,.str N8,i6 N9,sf cI Oa,sf KY Ob],i6 x21.1]
theorem EW:∀  r,AR  = some r->VK KZ 112 [] (sf cS r):=by
 intro  r H;intro σ;unfold AR at H;refine hdg mixed Tryz.func112 (rs:=[.tmp 0]) fun q tT=>?_;have hF:=K2 σ;have hX:=Tau.none σ;refine go ?_;have e:=pur H;subst e;exact rt _
theorem Dg:∀(x5:List ByteArray) (X9:List Bnd) (YB:Int) out,VA x5 X9 YB=some out->∀c,Yg Tryz.f77 0=some c->∀(Q:QT) (tt:Sto) (b1 b3:Nat),(∀(Vu:List Bnd),out=Vu->∀(T:TT) (σ:Sto) (e0v0:AV),T 0=.ptr b1 0/\T 1=.ptr b3 0->Fx tt σ [(b3,⟨42,5,[e0v0,.Yd,i6 0,i6 10,i6 0]⟩),(b1,⟨42,5,[.Yd,.Yd,i6 0,i6 0,i6 0]⟩)] [⟨e0v0,75,3,rws K0 Vu⟩]->Q (.ex 0) ⟨T,σ⟩)->True->∀(T:TT) (σ:Sto) (z0v0:AV),T 0=.ptr b1 0/\T 1=.ptr b3 0/\T 2=sf cS x5/\T 3=i6 YB->Fx tt σ [(b3,⟨42,5,[z0v0,.Yd,i6 0,i6 10,i6 0]⟩),(b1,⟨42,5,[.Yd,.Yd,i6 0,i6 0,i6 0]⟩)] [⟨z0v0,75,3,rws K0 X9⟩]->aLp KZ c Q ⟨T,σ⟩:=by
 intro x5 X9 YB;revert X9 YB;refine VA.partial_correctness x5 _ ?_;intro VA IH X9 YB out H c hc Q tt b1 b3 hE hR T σ z0v0 tT hF;refine lpx tt hc rfl fun q hX=>go ?_;refine cdp H (fun h H=>?_) (fun h H=>?_)
 ·refine go ?_;refine Yj E0 [.v,.v,.v,.v,.v,.v,.v,.v,.v,.x,.v,.z] (by kernel_rfl) ?_;obtain ⟨x16,f1,H⟩:=bil (g:=cS) (fun _=>rfl) H;refine go1 ?_;refine Qrn (g:=K0) (rows:=[[.str x16,.Yd,i6 YB]]) hF 0 H Bnd.X7 true rfl (by simp only [sf,i6,zB,Vm,VR,cI,cU,cS,cL,Bnd.Yb,Zn,Zo,Fm.num,Fm.sc,Zp,Ze,Za,Zq,Zf,Zg,Zw,Zh,Zr,Zs,Zi,Zj,Zk,Zt,Zl,Zb,Zx,Zu,Zy,Zv,Qr,K7,KI,Kh,QS];exact (.cons (.refl _) id (.cons .Yd (fun _=>rfl) (.cons (.refl _) id .nil)))) fun x21 H v6 s7 hF=>?_;refine go ?_;refine st hF 0 (hF.cells 0 rfl) fun s8 hF=>?_;refine go ?_;exact IH  x21 (i64.wrap (YB+1)) _ H _ rfl Q tt b1 b3 hE hR _ _ v6 S hF
 ·refine go ?_;exact wq (hE _ (pur H).symm _ _ z0v0 S hF)
theorem Ef:∀  r,WM  = some r->VK KZ 77 [] (.agg (K8 r)):=by
 intro  r H;intro σ;unfold WM at H;refine hdg mixed Tryz.func77 (rs:=[.cell 0 42]) fun q tT=>?_;have hF:=K2 σ;have hX:=Tau.none σ;refine go ?_;refine Ya hF rfl fun b1 ss2 hF=>?_;refine go ?_;refine Ya hF rfl fun b3 ss4 hF=>?_;refine go ?_;refine st hF 0 rfl fun ss5 hF=>?_;refine go ?_;refine bp H (EW ) fun x5 h H=>cl h ?_;have hF:=hF.nil 75 3;refine go ?_;obtain ⟨o9,ho9,H⟩:=bnd H;refine Dg x5 [] 1 _ ho9 _ rfl _ _ b1 b3 ?_ ?_ _ _ .Yd S hF
 ·intro M6 he T11 s12 e10v0 tT hF;have he:=he.symm;subst he;refine go ?_;refine st hF 1 rfl fun s14 hF=>?_;refine go ?_;have e:=pur H;subst e;exact rt _
 ·trivial
theorem Nv:∀(a0:List Int) (a1 Yl:Int) out,Gk a0 a1 Yl=some out->∀c,Yg Tryz.f65 0=some c->∀(Q:QT) (tt:Sto),(∀(_u:Unit),out=Sum.inr ()->∀(T:TT) (σ:Sto),0+0=0->Fx tt σ [] []->Q (.ex 0) ⟨T,σ⟩)->(∀r,out=Sum.inl r->∀s',I7 KZ [.tmp 4] (fun r' ss'=>r'=.bool r/\ss'=tt) s'->Q .ret s')->∀(T:TT) (σ:Sto),T 0=sf cI a0/\T 1=i6 a1/\T 5=i6 Yl->Fx tt σ [] []->aLp KZ c Q ⟨T,σ⟩:=by
 intro a0 a1 Yl;revert Yl;refine Gk.partial_correctness a0 a1 _ ?_;intro Gk IH Yl out H c hc Q tt  hE hR T σ tT hF;refine lpx tt hc rfl fun q hX=>go ?_;refine cdp H (fun h H=>?_) (fun h H=>?_)
 ·obtain ⟨x14,f1,H⟩:=bil (g:=cI) (fun _=>rfl) H;refine go1 ?_;refine go ?_;refine cdp H (fun h H=>?_) (fun h H=>?_)
  ·refine go ?_;exact wq (hR _ (pur H).symm _ (rt _))
  ·refine go ?_;exact IH  (i64.wrap (Yl+1)) _ H _ rfl Q tt  hE hR _ _  S hF
 ·refine go ?_;exact wq (hE () (pur H).symm _ _  S hF)
theorem Ba:∀(a0:List Int) (a1:Int) r,GQ a0 a1=some r->VK KZ 65 [sf cI a0,i6 a1] (.bool r):=by
 intro a0 a1 r H;intro σ;unfold GQ at H;refine hdg mixed Tryz.func65 (rs:=[.tmp 4]) fun q tT=>?_;have hF:=K2 σ;have hX:=Tau.none σ;refine go ?_;obtain ⟨o1,ho1,H⟩:=bnd H;refine Nv a0 a1 0 _ ho1 _ rfl _ _  ?_ ?_ _ _  S hF
 ·intro _ he T3 ss4 tT hF;have he:=he.symm;subst he
  try dsimp only at H
  refine go ?_;have e:=pur H;subst e;exact rt _
 ·intro r hr s' hs;subst hr;have e:=pur H;subst e;exact hsq hs
theorem D0:∀(a0 a1:List Int) (Yl:Int) out,VO a0 a1 Yl=some out->∀c,Yg Tryz.f128 0=some c->∀(Q:QT) (tt:Sto),(∀(_u:Unit),out=Sum.inr ()->∀(T:TT) (σ:Sto),0+0=0->Fx tt σ [] []->Q (.ex 0) ⟨T,σ⟩)->(∀r,out=Sum.inl r->∀s',I7 KZ [.tmp 4] (fun r' ss'=>r'=.bool r/\ss'=tt) s'->Q .ret s')->∀(T:TT) (σ:Sto),T 0=sf cI a0/\T 1=sf cI a1/\T 5=i6 Yl->Fx tt σ [] []->aLp KZ c Q ⟨T,σ⟩:=by
 intro a0 a1 Yl;revert Yl;refine VO.partial_correctness a0 a1 _ ?_;intro VO IH Yl out H c hc Q tt  hE hR T σ tT hF;refine lpx tt hc rfl fun q hX=>go ?_;refine cdp H (fun h H=>?_) (fun h H=>?_)
 ·obtain ⟨x15,f1,H⟩:=bil (g:=cI) (fun _=>rfl) H;refine go1 ?_;refine bp H (Ba a1 x15) fun x17 h H=>cl h ?_;refine go ?_;refine cdb H (fun h H=>?_) (fun h H=>?_)
  ·refine go ?_;exact wq (hR _ (pur H).symm _ (rt _))
  ·refine go ?_;exact IH  (i64.wrap (Yl+1)) _ H _ rfl Q tt  hE hR _ _  S hF
 ·refine go ?_;exact wq (hE () (pur H).symm _ _  S hF)
theorem BX:∀(a0 a1:List Int) r,WR a0 a1=some r->VK KZ 128 [sf cI a0,sf cI a1] (.bool r):=by
 intro a0 a1 r H;intro σ;unfold WR at H;refine hdg mixed Tryz.func128 (rs:=[.tmp 4]) fun q tT=>?_;have hF:=K2 σ;have hX:=Tau.none σ;refine go ?_;obtain ⟨o1,ho1,H⟩:=bnd H;refine D0 a0 a1 0 _ ho1 _ rfl _ _  ?_ ?_ _ _  S hF
 ·intro _ he T3 ss4 tT hF;have he:=he.symm;subst he
  try dsimp only at H
  refine go ?_;have e:=pur H;subst e;exact rt _
 ·intro r hr s' hs;subst hr;have e:=pur H;subst e;exact hsq hs
theorem Fo:∀(a0:List Bnd) (a1:Fm) (X9:List Int) (YX:Int) out,V1 a0 a1 X9 YX=some out->∀c,Yg Tryz.f127 0=some c->∀(Q:QT) (tt:Sto) (b1:Nat),(∀(Vu:List Int),out=Vu->∀(T:TT) (σ:Sto) (e0v0:AV),T 5=e0v0->Fx tt σ [(b1,⟨26,5,[i6 a1.kind,.str a1.name,i6 a1.num,sf cI a1.sc,sf KY a1.kids]⟩)] [⟨e0v0,3,1,rws cI Vu⟩]->Q (.ex 0) ⟨T,σ⟩)->True->∀(T:TT) (σ:Sto) (z0v0:AV),T 0=sf K0 a0/\T 3=.ptr b1 0/\T 5=z0v0/\T 6=i6 YX->Fx tt σ [(b1,⟨26,5,[i6 a1.kind,.str a1.name,i6 a1.num,sf cI a1.sc,sf KY a1.kids]⟩)] [⟨z0v0,3,1,rws cI X9⟩]->aLp KZ c Q ⟨T,σ⟩:=by
 intro a0 a1 X9 YX;revert X9 YX;refine V1.partial_correctness a0 a1 _ ?_;intro V1 IH X9 YX out H c hc Q tt b1 hE hR T σ z0v0 tT hF;refine lpx tt hc rfl fun q hX=>go ?_;refine cdp H (fun h H=>?_) (fun h H=>?_)
 ·refine go ?_;refine Yj E0 [.v,.v,.v,.v,.v,.v,.v,.v,.v,.v,.v,.v,.v,.v,.v,.v,.v,.v] (by kernel_rfl) ?_;obtain ⟨x16,f1,H⟩:=bil (g:=K0) Bnd.X7 H;refine go1 ?_;obtain ⟨x31,g3,H⟩:=bnd H;refine VU 8 23 31 (.bool x31) (ti q (fun q=>?_) (fun q=>?_)) (fun J=>?_)
  ·rw [if_pos (dt q)] at g3;obtain ⟨x25,f1,g3⟩:=bil (g:=K0) Bnd.X7 g3;refine go1 ?_;obtain ⟨x30,hx30,g3⟩:=bnd g3;refine cv (BX x25.sc a1.sc _ hx30) ?_;refine go ?_;exact Yr 23 g3
  ·rw [if_neg (df q)] at g3;refine go ?_;exact Yr 23 g3
  refine go ?_;refine cdb H (fun h H=>?_) (fun h H=>?_)
  ·refine go ?_;refine apd (g:=cI) hF 0 H (rdo (c:=true) (g:=cI) (fun _=>rfl)) fun x35 H v5 ss6 hF=>?_;refine go ?_;exact IH  x35 (i64.wrap (YX+1)) _ H _ rfl Q tt b1 hE hR _ _ v5 S hF
  ·refine go ?_;exact IH  X9 (i64.wrap (YX+1)) _ H _ rfl Q tt b1 hE hR _ _ z0v0 S hF
 ·refine go ?_;exact wq (hE _ (pur H).symm _ _ z0v0 S hF)
theorem MH:∀(a0:List Bnd) (a1:Fm) r,Au a0 a1=some r->VK KZ 127 [sf K0 a0,.agg (KY a1)] (sf cI r):=by
 intro a0 a1 r H;intro σ;unfold Au at H;refine hdg mixed Tryz.func127 (rs:=[.tmp 4]) fun q tT=>?_;have hF:=K2 σ;have hX:=Tau.none σ;refine go ?_;refine Ya hF rfl fun b1 ss2 hF=>?_;have hF:=hF.lit 3 1 (rws cI []) rfl;refine go ?_;obtain ⟨o7,ho7,H⟩:=bnd H;refine Fo a0 a1 [] 0 _ ho7 _ rfl _ _ b1 ?_ ?_ _ _ (.sl true (rws cI [])) S hF
 ·intro Qgt he T9 s10 e8v0 tT hF;have he:=he.symm;subst he;refine go ?_;have e:=pur H;subst e;exact rt _
 ·trivial
theorem MG:∀(a0:List Bnd) (a1:Fm) (x12:List Int) (Ym:Int) (Jg:Bool) (Ie:Int) out,W3 a0 a1 x12 Ym Jg Ie=some out->∀c,Yg Tryz.f87 1=some c->∀(Q:QT) (tt:Sto) (b1:Nat),(∀(Qgq:Bool),out=Qgq->∀(T:TT) (σ:Sto),T 0=sf K0 a0/\T 6=sf cI x12/\T 7=i6 Ym/\T 8=.bool Qgq->Fx tt σ [(b1,⟨26,5,[i6 a1.kind,.str a1.name,i6 a1.num,sf cI a1.sc,sf KY a1.kids]⟩)] []->Q (.ex 2) ⟨T,σ⟩)->True->∀(T:TT) (σ:Sto),T 0=sf K0 a0/\T 6=sf cI x12/\T 7=i6 Ym/\T 8=.bool Jg/\T 9=i6 Ie->Fx tt σ [(b1,⟨26,5,[i6 a1.kind,.str a1.name,i6 a1.num,sf cI a1.sc,sf KY a1.kids]⟩)] []->aLp KZ c Q ⟨T,σ⟩:=by
 intro a0 a1 x12 Ym Jg Ie;revert Jg Ie;refine W3.partial_correctness a0 a1 x12 Ym _ ?_;intro W3 IH Jg Ie out H c hc Q tt b1 hE hR T σ tT hF;refine lpx tt hc rfl fun q hX=>go ?_;refine cdp H (fun h H=>?_) (fun h H=>?_)
 ·refine go ?_;refine Yj E0 [.v,.v,.v,.v,.v,.v,.v,.v,.v,.v,.v,.v,.v,.v,.v,.v,.v,.v,.v,.v,.v] (by kernel_rfl) ?_;refine go ?_;obtain ⟨x44,g3,H⟩:=bnd H;refine VU 17 27 44 (.bool x44) (ti q (fun q=>?_) (fun q=>?_)) (fun J=>?_)
  ·rw [if_pos (dbt q)] at g3;obtain ⟨x30,f1,g3⟩:=bil (g:=cI) (fun _=>rfl) g3;obtain ⟨x32,f2,g3⟩:=bil (g:=K0) Bnd.X7 g3;obtain ⟨x38,f3,g3⟩:=bil (g:=cI) (fun _=>rfl) g3;obtain ⟨x40,f4,g3⟩:=bil (g:=K0) Bnd.X7 g3;refine go4 ?_;obtain ⟨x43,hx43,g3⟩:=bnd g3;refine cv (BX x32.sc x40.sc _ hx43) ?_;refine go ?_;exact Yr 27 g3
  ·rw [if_neg (dbf q)] at g3;refine go ?_;exact Yr 27 g3
  refine go ?_;exact IH  x44 (i64.wrap (Ie+1)) _ H _ rfl Q tt b1 hE hR _ _  S hF
 ·refine go ?_;exact wq (hE _ (pur H).symm _ _  S hF)
theorem MF:∀(a0:List Bnd) (a1:Fm) (x12:List Int) (Ym:Int) out,JF a0 a1 x12 Ym=some out->∀c,Yg Tryz.f87 0=some c->∀(Q:QT) (tt:Sto) (b1:Nat),(∀(_u:Unit),out=Sum.inr ()->∀(T:TT) (σ:Sto),T 6=sf cI x12->Fx tt σ [(b1,⟨26,5,[i6 a1.kind,.str a1.name,i6 a1.num,sf cI a1.sc,sf KY a1.kids]⟩)] []->Q (.ex 0) ⟨T,σ⟩)->(∀r,out=Sum.inl r->∀s',I7 KZ [.tmp 4,.tmp 5] (fun r' ss'=>r'=.tup [i6 r.1,i6 r.2]/\ss'=tt) s'->Q .ret s')->∀(T:TT) (σ:Sto),T 0=sf K0 a0/\T 6=sf cI x12/\T 7=i6 Ym->Fx tt σ [(b1,⟨26,5,[i6 a1.kind,.str a1.name,i6 a1.num,sf cI a1.sc,sf KY a1.kids]⟩)] []->aLp KZ c Q ⟨T,σ⟩:=by
 intro a0 a1 x12 Ym;revert Ym;refine JF.partial_correctness a0 a1 x12 _ ?_;intro JF IH Ym out H c hc Q tt b1 hE hR T σ tT hF;refine lpx tt hc rfl fun q hX=>go ?_;refine cdp H (fun h H=>?_) (fun h H=>?_)
 ·refine go ?_;obtain ⟨o5,ho5,H⟩:=bnd H;refine MG a0 a1 x12 Ym true 0 _ ho5 _ rfl _ _ b1 ?_ ?_ _ _  S hF
  ·intro Qjj he T7 s8 tT hF;have he:=he.symm;subst he;refine go ?_;refine cdb H (fun h H=>?_) (fun h H=>?_)
   ·obtain ⟨x48,f1,H⟩:=bil (g:=cI) (fun _=>rfl) H;refine go1 ?_;refine go ?_;exact wq (hR _ (pur H).symm _ (rt _))
   ·refine go ?_;exact IH  (i64.wrap (Ym+1)) _ H _ rfl Q tt b1 hE hR _ _  S hF
  ·trivial
 ·refine go ?_;exact wq (hE () (pur H).symm _ _  S hF)
theorem Dj:∀(a0:List Bnd) (a1:Fm) r,AE a0 a1=some r->VK KZ 87 [sf K0 a0,.agg (KY a1)] (.tup [i6 r.1,i6 r.2]):=by
 intro a0 a1 r H;intro σ;unfold AE at H;refine hdg mixed Tryz.func87 (rs:=[.tmp 4,.tmp 5]) fun q tT=>?_;have hF:=K2 σ;have hX:=Tau.none σ;refine go ?_;refine Ya hF rfl fun b1 ss2 hF=>?_;refine go ?_;refine bp H (MH a0 a1) fun x12 h H=>cl h ?_;refine go ?_;obtain ⟨o10,ho10,H⟩:=bnd H;refine MF a0 a1 x12 0 _ ho10 _ rfl _ _ b1 ?_ ?_ _ _  S hF
 ·intro _ he T12 s13 tT hF;have he:=he.symm;subst he
  try dsimp only at H
  refine go ?_;refine cdp H (fun h H=>?_) (fun h H=>?_)
  ·refine go ?_;have e:=pur H;subst e;exact rt _
  ·refine go ?_;have e:=pur H;subst e;exact rt _
 ·intro r hr s' hs;subst hr;have e:=pur H;subst e;exact hsq hs
theorem LS:∀(a0:Xpn) (a1 Yl:Int) out,Jd a0 a1 Yl=some out->∀c,Yg Tryz.f85 0=some c->∀(Q:QT) (tt:Sto) (b1:Nat),(∀(_u:Unit),out=Sum.inr ()->∀(T:TT) (σ:Sto),0+0=0->Fx tt σ [(b1,⟨42,5,[sf K0 a0.binds,sf Zc a0.macs,i6 a0.scope,i6 a0.id,i6 a0.steps]⟩)] []->Q (.ex 0) ⟨T,σ⟩)->(∀r,out=Sum.inl r->∀s',I7 KZ [.tmp 4] (fun r' ss'=>r'=i6 r/\ss'=tt) s'->Q .ret s')->∀(T:TT) (σ:Sto),T 1=i6 a1/\T 2=.ptr b1 0/\T 5=i6 Yl->Fx tt σ [(b1,⟨42,5,[sf K0 a0.binds,sf Zc a0.macs,i6 a0.scope,i6 a0.id,i6 a0.steps]⟩)] []->aLp KZ c Q ⟨T,σ⟩:=by
 intro a0 a1 Yl;revert Yl;refine Jd.partial_correctness a0 a1 _ ?_;intro Jd IH Yl out H c hc Q tt b1 hE hR T σ tT hF;refine lpx tt hc rfl fun q hX=>go ?_;refine cdp H (fun h H=>?_) (fun h H=>?_)
 ·obtain ⟨x16,f1,H⟩:=bil (g:=Zc) Mac.X7 H;refine go1 ?_;refine go ?_;refine cdp H (fun h H=>?_) (fun h H=>?_)
  ·refine go ?_;exact wq (hR _ (pur H).symm _ (rt _))
  ·refine go ?_;exact IH  (i64.wrap (Yl+1)) _ H _ rfl Q tt b1 hE hR _ _  S hF
 ·refine go ?_;exact wq (hE () (pur H).symm _ _  S hF)
theorem Cz:∀(a0:Xpn) (a1:Int) r,Il a0 a1=some r->VK KZ 85 [.agg (K8 a0),i6 a1] (i6 r):=by
 intro a0 a1 r H;intro σ;unfold Il at H;refine hdg mixed Tryz.func85 (rs:=[.tmp 4]) fun q tT=>?_;have hF:=K2 σ;have hX:=Tau.none σ;refine go ?_;refine Ya hF rfl fun b1 ss2 hF=>?_;refine go ?_;obtain ⟨o3,ho3,H⟩:=bnd H;refine LS a0 a1 0 _ ho3 _ rfl _ _ b1 ?_ ?_ _ _  S hF
 ·intro _ he T5 ss6 tT hF;have he:=he.symm;subst he
  try dsimp only at H
  refine go ?_;have e:=pur H;subst e;exact rt _
 ·intro r hr s' hs;subst hr;have e:=pur H;subst e;exact hsq hs
theorem Bv:∀(a0:Xpn) (a1:Fm) r,HJ a0 a1=some r->VK KZ 51 [.agg (K8 a0),.agg (KY a1)] (.tup [i6 r.1,i6 r.2]):=by
 intro a0 a1 r H;intro σ;unfold HJ at H;refine hdg mixed Tryz.func51 (rs:=[.tmp 4,.tmp 5]) fun q tT=>?_;have hF:=K2 σ;have hX:=Tau.none σ;refine go ?_;refine Ya hF rfl fun b1 ss2 hF=>?_;refine go ?_;refine Ya hF rfl fun b3 ss4 hF=>?_;refine go ?_;refine bp H (Dj a0.binds a1) fun x13 h H=>cl h ?_;refine go ?_;refine cdp H (fun h H=>?_) (fun h H=>?_)
 ·refine go ?_;have e:=pur H;subst e;exact rt _
 ·refine go ?_;refine cdp H (fun h H=>?_) (fun h H=>?_)
  ·refine go ?_;have e:=pur H;subst e;exact rt _
  ·obtain ⟨x24,f1,H⟩:=bil (g:=K0) Bnd.X7 H;refine go1 ?_;refine go ?_;refine cdp H (fun h H=>?_) (fun h H=>?_)
   ·refine go ?_;have e:=pur H;subst e;exact rt _
   ·refine go ?_;refine bp H (Cz a0 x24.id) fun x34 h H=>cl h ?_;refine go ?_;refine cdp H (fun h H=>?_) (fun h H=>?_)
    ·refine go ?_;have e:=pur H;subst e;exact rt _
    ·refine go ?_;have e:=pur H;subst e;exact rt _
theorem Rt:∀(a0:Xpn) (a1:Fm) r,CA a0 a1=some r->VK KZ 160 [.agg (K8 a0),.agg (KY a1)] (.tup [.agg (K8 r.1),.agg (Cor.cells r.2.1),i6 r.2.2]):=by
 intro a0 a1 r H;intro σ;unfold CA at H;refine hdg mixed Tryz.func160 (rs:=[.cell 4 42,.cell 5 136,.tmp 6]) fun q tT=>?_;have hF:=K2 σ;have hX:=Tau.none σ;refine go ?_;refine Ya hF rfl fun b1 ss2 hF=>?_;refine go ?_;refine Ya hF rfl fun b3 ss4 hF=>?_;refine go ?_;refine Ya hF rfl fun b5 ss6 hF=>?_;refine go ?_;refine Ya hF rfl fun b7 s8 hF=>?_;refine go ?_;refine bp H (Bv a0 a1) fun x12 h H=>cl h ?_;refine go ?_;refine cdp H (fun h H=>?_) (fun h H=>?_)
 ·refine go ?_;obtain ⟨E,hEq⟩:∃E,E=EE s8 [b5,b7]:=⟨_,rfl⟩
  have n9:¬E b3:=by rw [hEq];exact K6 (hF.at 2 rfl) (nm2 ⟨neL hF 2 1 rfl rfl (by decide),neL hF 2 0 rfl rfl (by decide)⟩)
  have n10:¬E b1:=by rw [hEq];exact K6 (hF.at 3 rfl) (nm2 ⟨neL hF 3 1 rfl rfl (by decide),neL hF 3 0 rfl rfl (by decide)⟩)
  refine Yj E [.v,.v,.v,.v,.x,.x,.v] (by kernel_rfl) ?_;have z:=K3 (X8 (hF.at 2 rfl) n9) (X8 (hF.at 3 rfl) n10);refine gh ?_;refine stK hF 1 (by rw [hEq];exact Zd (by simp)) rfl fun s11 hF=>?_;have z:=K3 (X8 (hF.at 2 rfl) n9) (X8 (hF.at 3 rfl) n10);refine gh ?_;refine stK hF 0 (by rw [hEq];exact Zd (by simp)) rfl fun s12 hF=>?_;have z:=K3 (X8 (hF.at 2 rfl) n9) (X8 (hF.at 3 rfl) n10);refine gh ?_;refine go ?_;have e:=pur H;subst e;exact rt [.agg [sf K0 a0.binds,sf Zc a0.macs,i6 a0.scope,i6 a0.id,i6 a0.steps],.agg [i6 2,i6 0,.str a1.name,i6 0,.Yd,i6 0,.str zB,i6 0,.Yd,.Yd,.Yd],i6 0]
 ·refine go ?_;refine cdp H (fun h H=>?_) (fun h H=>?_)
  ·refine go ?_;refine st hF 1 rfl fun s13 hF=>?_;refine go ?_;refine st hF 0 rfl fun s14 hF=>?_;refine go ?_;have e:=pur H;subst e;exact rt _
  ·refine go ?_;refine cdp H (fun h H=>?_) (fun h H=>?_)
   ·refine go ?_;refine st hF 1 rfl fun s15 hF=>?_;refine go ?_;refine st hF 0 rfl fun s16 hF=>?_;refine go ?_;have e:=pur H;subst e;exact rt _
   ·refine go ?_;refine st hF 1 rfl fun s17 hF=>?_;refine go ?_;refine st hF 0 rfl fun s18 hF=>?_;refine go ?_;have e:=pur H;subst e;exact rt _
theorem DD:∀(a0:Fm) r,W0 a0=some r->VK KZ 186 [.agg (KY a0)] (.agg (KY r)):=by
 refine W0.partial_correctness _ (motive_2:=fun a0 X9 YA out=>∀c,Yg Tryz.f186 0=some c->∀(Q:QT) (tt:Sto) (b1 b3 b5:Nat),(∀(Vu:List Fm),out=Vu->∀(T:TT) (σ:Sto) (e0v0:AV),T 2=.ptr b3 0/\T 3=.ptr b5 0->Fx tt σ [(b5,⟨26,5,[i6 a0.kind,.str a0.name,i6 a0.num,.Yd,e0v0]⟩),(b3,⟨26,5,[i6 0,.str zB,i6 0,.Yd,.Yd]⟩),(b1,⟨26,5,[i6 a0.kind,.str a0.name,i6 a0.num,sf cI a0.sc,sf KY a0.kids]⟩)] [⟨e0v0,26,5,rws KY Vu⟩]->Q (.ex 0) ⟨T,σ⟩)->True->∀(T:TT) (σ:Sto) (z0v0:AV),T 1=.ptr b1 0/\T 2=.ptr b3 0/\T 3=.ptr b5 0/\T 4=i6 YA->Fx tt σ [(b5,⟨26,5,[i6 a0.kind,.str a0.name,i6 a0.num,.Yd,z0v0]⟩),(b3,⟨26,5,[i6 0,.str zB,i6 0,.Yd,.Yd]⟩),(b1,⟨26,5,[i6 a0.kind,.str a0.name,i6 a0.num,sf cI a0.sc,sf KY a0.kids]⟩)] [⟨z0v0,26,5,rws KY X9⟩]->aLp KZ c Q ⟨T,σ⟩) ?_ ?_
 ·intro WU L0 a0 r H;intro σ;refine hdg mixed Tryz.func186 (rs:=[.cell 2 26]) fun q tT=>?_;have hF:=K2 σ;have hX:=Tau.none σ;refine go ?_;refine Ya hF rfl fun b1 ss2 hF=>?_;refine go ?_;refine Ya hF rfl fun b3 ss4 hF=>?_;refine go ?_;refine Ya hF rfl fun b5 ss6 hF=>?_;refine go ?_;refine st hF 0 rfl fun s7 hF=>?_;have hF:=hF.nil 26 5;refine go ?_;obtain ⟨o11,ho11,H⟩:=bnd H;refine L0 a0 [] 0 _ ho11 _ rfl _ _ b1 b3 b5 ?_ ?_ _ _ .Yd S hF
  ·intro M7 he T13 s14 e12v0 tT hF;have he:=he.symm;subst he;refine go ?_;refine st hF 1 rfl fun s16 hF=>?_;refine go ?_;have e:=pur H;subst e;exact rt _
  ·trivial
 ·intro W0 WU C0 L0 a0 X9 YA out H c hc Q tt b1 b3 b5 hE hR T σ z0v0 tT hF;refine lpx tt hc rfl fun q hX=>go ?_;refine cdp H (fun h H=>?_) (fun h H=>?_)
  ·refine go ?_;refine Yj E0 [.v,.v,.v,.v,.v,.v,.v,.v,.v,.x,.v,.z] (by kernel_rfl) ?_;obtain ⟨x24,f1,H⟩:=bil (g:=KY) Fm.X7 H;refine go1 ?_;refine bp H (C0 x24) fun x26 h H=>cv h ?_;refine go ?_;refine PD (g:=KY) hF 0 H (rdo (c:=true) (g:=KY) Fm.X7) fun x28 H v8 s9 hF=>?_;refine go ?_;refine st hF 0 (hF.cells 0 rfl) fun s10 hF=>?_;refine go ?_;exact L0 a0 x28 (i64.wrap (YA+1)) _ H _ rfl Q tt b1 b3 b5 hE hR _ _ v8 S hF
  ·refine go ?_;exact wq (hE _ (pur H).symm _ _ z0v0 S hF)
theorem CB:∀(a0:Xpn) r,I5 a0=some r->VK KZ 197 [.agg (K8 a0)] (.tup [.agg (K8 r.1),.bool r.2]):=by
 intro a0 r H;intro σ;unfold I5 at H;refine hdg mixed Tryz.func197 (rs:=[.cell 2 42,.tmp 3]) fun q tT=>?_;have hF:=K2 σ;have hX:=Tau.none σ;refine go ?_;refine Ya hF rfl fun b1 ss2 hF=>?_;refine go ?_;refine Ya hF rfl fun b3 ss4 hF=>?_;refine go ?_;refine st hF 1 rfl fun ss5 hF=>?_;refine go ?_;obtain ⟨E,hEq⟩:∃E,E=EE ss5 [b3]:=⟨_,rfl⟩
 have n6:¬E b1:=by rw [hEq];exact K6 (hF.at 1 rfl) (nm1 (neL hF 1 0 rfl rfl (by decide)))
 refine Yj E [.v,.v,.v,.v,.x,.v] (by kernel_rfl) ?_;have z:=X8 (hF.at 1 rfl) n6;refine gh ?_;refine stK hF 0 (by rw [hEq];exact Zd (by simp)) rfl fun s7 hF=>?_;have z:=X8 (hF.at 1 rfl) n6;refine gh ?_;refine go ?_;have e:=pur H;subst e;exact rt [.agg [sf K0 a0.binds,sf Zc a0.macs,i6 (i64.wrap (a0.scope+1)),i6 a0.id,i6 a0.steps],.bool (decide ((i64.wrap (a0.scope+1))<=99))]
theorem ME:∀(a0:List Int) (a1:Int) (X9:List Int) (YX:Int) out,W2 a0 a1 X9 YX=some out->∀c,Yg Tryz.f200 0=some c->∀(Q:QT) (tt:Sto),(∀(Vu:List Int),out=Vu->∀(T:TT) (σ:Sto) (e0v0:AV),T 5=e0v0->Fx tt σ [] [⟨e0v0,3,1,rws cI Vu⟩]->Q (.ex 0) ⟨T,σ⟩)->True->∀(T:TT) (σ:Sto) (z0v0:AV),T 0=sf cI a0/\T 1=i6 a1/\T 5=z0v0/\T 6=i6 YX->Fx tt σ [] [⟨z0v0,3,1,rws cI X9⟩]->aLp KZ c Q ⟨T,σ⟩:=by
 intro a0 a1 X9 YX;revert X9 YX;refine W2.partial_correctness a0 a1 _ ?_;intro W2 IH X9 YX out H c hc Q tt  hE hR T σ z0v0 tT hF;refine lpx tt hc rfl fun q hX=>go ?_;refine cdp H (fun h H=>?_) (fun h H=>?_)
 ·obtain ⟨x16,f1,H⟩:=bil (g:=cI) (fun _=>rfl) H;refine go1 ?_;refine go ?_;refine cdn H (fun h H=>?_) (fun h H=>?_)
  ·obtain ⟨x23,f1,H⟩:=bil (g:=cI) (fun _=>rfl) H;refine go1 ?_;refine apd (g:=cI) hF 0 H (rdo (c:=true) (g:=cI) (fun _=>rfl)) fun x26 H v1 ss2 hF=>?_;refine go ?_;exact IH  x26 (i64.wrap (YX+1)) _ H _ rfl Q tt  hE hR _ _ v1 S hF
  ·refine go ?_;exact IH  X9 (i64.wrap (YX+1)) _ H _ rfl Q tt  hE hR _ _ z0v0 S hF
 ·refine go ?_;exact wq (hE _ (pur H).symm _ _ z0v0 S hF)
theorem PX:∀(a0:List Int) (a1:Int) r,Br a0 a1=some r->VK KZ 200 [sf cI a0,i6 a1] (sf cI r):=by
 intro a0 a1 r H;intro σ;unfold Br at H;refine hdg mixed Tryz.func200 (rs:=[.tmp 4]) fun q tT=>?_;have hF:=K2 σ;have hX:=Tau.none σ;have hF:=hF.lit 3 1 (rws cI []) rfl;refine go ?_;obtain ⟨o3,ho3,H⟩:=bnd H;refine ME a0 a1 [] 0 _ ho3 _ rfl _ _  ?_ ?_ _ _ (.sl true (rws cI [])) S hF
 ·intro Qpm he T5 ss6 e4v0 tT hF;have he:=he.symm;subst he;refine go ?_;have e:=pur H;subst e;exact rt _
 ·trivial
theorem Nw:∀(a0:List Int) (a1:Int) (X9:List Int) (YX:Bool) (Ym:Int) out,Gl a0 a1 X9 YX Ym=some out->∀c,Yg Tryz.f201 0=some c->∀(Q:QT) (tt:Sto),(∀(Vu:List Int) (Qpk:Bool),out=(Vu,Qpk)->∀(T:TT) (σ:Sto) (e0v0:AV),T 1=i6 a1/\T 5=e0v0/\T 6=.bool Qpk->Fx tt σ [] [⟨e0v0,3,1,rws cI Vu⟩]->Q (.ex 0) ⟨T,σ⟩)->True->∀(T:TT) (σ:Sto) (z0v0:AV),T 0=sf cI a0/\T 1=i6 a1/\T 5=z0v0/\T 6=.bool YX/\T 7=i6 Ym->Fx tt σ [] [⟨z0v0,3,1,rws cI X9⟩]->aLp KZ c Q ⟨T,σ⟩:=by
 intro a0 a1 X9 YX Ym;revert X9 YX Ym;refine Gl.partial_correctness a0 a1 _ ?_;intro Gl IH X9 YX Ym out H c hc Q tt  hE hR T σ z0v0 tT hF;refine lpx tt hc rfl fun q hX=>go ?_;refine cdp H (fun h H=>?_) (fun h H=>?_)
 ·refine go ?_;obtain ⟨x27,g1,H⟩:=bnd H;refine Yc 6 21 27 (.bool x27) (gi q (fun q=>?_) (fun q=>?_)) (fun J=>?_)
  ·rw [if_pos (dbt q)] at g1;obtain ⟨x23,f1,g1⟩:=bil (g:=cI) (fun _=>rfl) g1;refine go1 ?_;refine go ?_;exact Yr 21 g1
  ·rw [if_neg (dbf q)] at g1;refine go ?_;exact Yr 21 g1
  refine go ?_;obtain ⟨⟨AW,Qem⟩,j4,H⟩:=bnd H;refine Wq (fun s'=>∃(T:TT) (ss1:Sto) (y3v0:AV),s'=⟨T,ss1⟩/\(T 0=sf cI a0/\T 1=i6 a1/\T 5=y3v0/\T 6=.bool Qem/\T 7=i6 Ym)/\Fx tt ss1 [] [⟨y3v0,3,1,rws cI AW⟩]) (cdb j4 (fun h j4=>?_) (fun h j4=>?_)) ?_
  ·refine go ?_;refine apd (g:=cI) hF 0 j4 (rdo (c:=true) (g:=cI) (fun _=>rfl)) fun x31 j4 v5 ss6 hF=>?_;refine go ?_;have e:=pur j4
   injection e with e0 e
   subst e0;subst e;exact ⟨_,_,v5,rfl,S,hF⟩
  ·refine go ?_;have e:=pur j4
   injection e with e0 e
   subst e0;subst e;exact ⟨_,_,z0v0,rfl,S,hF⟩
  ·rintro s' ⟨T7,s8,y3v0,rfl,tT,hF⟩;obtain ⟨x35,f1,H⟩:=bil (g:=cI) (fun _=>rfl) H;refine go1 ?_;refine apd (g:=cI) hF 0 H (rdo (c:=true) (g:=cI) (fun _=>rfl)) fun x38 H v10 s11 hF=>?_;refine go ?_;exact IH  x38 Qem (i64.wrap (Ym+1)) _ H _ rfl Q tt  hE hR _ _ v10 S hF
 ·refine go ?_;exact wq (hE _ _ (pur H).symm _ _ z0v0 S hF)
theorem SM:∀(a0:List Int) (a1:Int) r,B5 a0 a1=some r->VK KZ 201 [sf cI a0,i6 a1] (sf cI r):=by
 intro a0 a1 r H;intro σ;unfold B5 at H;refine hdg mixed Tryz.func201 (rs:=[.tmp 4]) fun q tT=>?_;have hF:=K2 σ;have hX:=Tau.none σ;refine go ?_;refine bp H (Ba a0 a1) fun x11 h H=>cl h ?_;have hF:=hF.lit 3 1 (rws cI []) rfl;refine go ?_;obtain ⟨o12,ho12,H⟩:=bnd H;refine Nw a0 a1 [] x11 0 _ ho12 _ rfl _ _  ?_ ?_ _ _ (.sl true (rws cI [])) S hF
 ·intro RJ Qlf he T14 s15 e13v0 tT hF;have he:=he.symm;subst he
  try dsimp only at H
  refine go ?_;refine cdb H (fun h H=>?_) (fun h H=>?_)
  ·refine go ?_;refine apd (g:=cI) hF 0 H (rdo (c:=true) (g:=cI) (fun _=>rfl)) fun x44 H v17 s18 hF=>?_;refine go ?_;have e:=pur H;subst e;exact rt _
  ·refine go ?_;have e:=pur H;subst e;exact rt _
 ·trivial
theorem J8:∀(a0:Fm) (a1 a2:Int) r,VI a0 a1 a2=some r->VK KZ 182 [.agg (KY a0),i6 a1,i6 a2] (.agg (KY r)):=by
 intro a0 a1 a2;revert a0;refine VI.partial_correctness a1 a2 (motive_1:=fun a0 r=>VK KZ 182 [.agg (KY a0),i6 a1,i6 a2] (.agg (KY r))) (motive_2:=fun a0 HK X9 Yh out=>∀c,Yg Tryz.f182 0=some c->∀(Q:QT) (tt:Sto) (b1 b3 b5:Nat),(∀(Vu:List Fm),out=Vu->∀(T:TT) (σ:Sto) (e0v0:AV),T 6=.ptr b3 0/\T 7=.ptr b5 0->Fx tt σ [(b5,⟨26,5,[i6 a0.kind,.str a0.name,i6 a0.num,sf cI HK,e0v0]⟩),(b3,⟨26,5,[i6 0,.str zB,i6 0,.Yd,.Yd]⟩),(b1,⟨26,5,[i6 a0.kind,.str a0.name,i6 a0.num,sf cI a0.sc,sf KY a0.kids]⟩)] [⟨e0v0,26,5,rws KY Vu⟩]->Q (.ex 0) ⟨T,σ⟩)->True->∀(T:TT) (σ:Sto) (z0v0:AV),T 1=i6 a1/\T 2=i6 a2/\T 3=.ptr b1 0/\T 6=.ptr b3 0/\T 7=.ptr b5 0/\T 8=i6 Yh->Fx tt σ [(b5,⟨26,5,[i6 a0.kind,.str a0.name,i6 a0.num,sf cI HK,z0v0]⟩),(b3,⟨26,5,[i6 0,.str zB,i6 0,.Yd,.Yd]⟩),(b1,⟨26,5,[i6 a0.kind,.str a0.name,i6 a0.num,sf cI a0.sc,sf KY a0.kids]⟩)] [⟨z0v0,26,5,rws KY X9⟩]->aLp KZ c Q ⟨T,σ⟩) ?_ ?_
 ·intro Jn L0 a0 r H;intro σ;refine hdg mixed Tryz.func182 (rs:=[.cell 6 26]) fun q tT=>?_;have hF:=K2 σ;have hX:=Tau.none σ;refine go ?_;refine Ya hF rfl fun b1 ss2 hF=>?_;refine go ?_;refine Ya hF rfl fun b3 ss4 hF=>?_;refine go ?_;refine Yj E0 [.v,.v,.v,.v,.v,.v,.v,.v,.v,.v,.v,.x,.z] (by kernel_rfl) ?_;refine go ?_;obtain ⟨x18,hx18,H⟩:=bnd H;refine Nh (g:=cI) (xs:=[]) (ys:=a0.sc) (fun _=>rfl) (by decide) (by decide) (.inr (by first | rfl | simp only [Vm,VR,cI,cU,cS,cL])) (.inr ⟨_,by first | rfl | simp only [Vm,VR,cI,cU,cS,cL]⟩) hx18 ?_;refine go ?_;refine Hg hF rfl fun b5 ss6 hF=>?_;refine go ?_;refine st hF 0 rfl fun s7 hF=>?_;refine go ?_;obtain ⟨HK,j9,H⟩:=bnd H;refine Wq (fun s'=>∃(T:TT) (ss1:Sto),s'=⟨T,ss1⟩/\(T 1=i6 a1/\T 2=i6 a2/\T 3=.ptr b1 0/\T 6=.ptr b3 0/\T 7=.ptr b5 0)/\Fx σ ss1 [(b5,⟨26,5,[i6 a0.kind,.str a0.name,i6 a0.num,sf cI HK,.Yd]⟩),(b3,⟨26,5,[i6 0,.str zB,i6 0,.Yd,.Yd]⟩),(b1,⟨26,5,[i6 a0.kind,.str a0.name,i6 a0.num,sf cI a0.sc,sf KY a0.kids]⟩)] []) (cdp j9 (fun h j9=>?_) (fun h j9=>?_)) ?_
  ·refine go ?_;obtain ⟨x34,g10,j9⟩:=bnd j9;refine Yc 8 26 34 (.bool x34) (giN q (fun q=>?_) (fun q=>?_)) (fun J=>?_)
   ·rw [if_neg (df q)] at g10;refine go ?_;obtain ⟨x33,g12,g10⟩:=bnd g10;refine Yc 4 29 33 (.bool x33) (gi q (fun q=>?_) (fun q=>?_)) (fun J=>?_)
    ·rw [if_pos (dt q)] at g12;refine go ?_;obtain ⟨x32,hx32,g12⟩:=bnd g12;refine cl (Ba a0.sc a1 _ hx32) ?_;refine go ?_;exact Yr 29 g12
    ·rw [if_neg (df q)] at g12;refine go ?_;exact Yr 29 g12
    refine go ?_;exact Yr 26 g10
   ·rw [if_pos (dt q)] at g10;refine go ?_;exact Yr 26 g10
   refine go ?_;refine cdb j9 (fun h j9=>?_) (fun h j9=>?_)
   ·refine go ?_;obtain ⟨x38,hx38,j9⟩:=bnd j9;refine cl (PX a0.sc a1 _ hx38) ?_;refine go ?_;refine st hF 0 rfl fun s14 hF=>?_;refine go ?_;have e:=pur j9;subst e;exact ⟨_,_,rfl,S,hF⟩
   ·refine go ?_;obtain ⟨x43,hx43,j9⟩:=bnd j9;refine cl (SM a0.sc a1 _ hx43) ?_;refine go ?_;refine st hF 0 rfl fun s15 hF=>?_;refine go ?_;have e:=pur j9;subst e;exact ⟨_,_,rfl,S,hF⟩
  ·refine go ?_;have e:=pur j9;subst e;exact ⟨_,_,rfl,S,hF⟩
  ·rintro s' ⟨T16,s17,rfl,tT,hF⟩;have hF:=hF.nil 26 5;refine go ?_;obtain ⟨o22,ho22,H⟩:=bnd H;refine L0 a0 HK [] 0 _ ho22 _ rfl _ _ b1 b3 b5 ?_ ?_ _ _ .Yd S hF
   ·intro Ts he T24 s25 e23v0 tT hF;have he:=he.symm;subst he;refine go ?_;refine st hF 1 rfl fun s27 hF=>?_;refine go ?_;have e:=pur H;subst e;exact rt _
   ·trivial
 ·intro VI Jn C0 L0 a0 HK X9 Yh out H c hc Q tt b1 b3 b5 hE hR T σ z0v0 tT hF;refine lpx tt hc rfl fun q hX=>go ?_;refine cdp H (fun h H=>?_) (fun h H=>?_)
  ·refine go ?_;refine Yj E0 [.v,.v,.v,.v,.v,.v,.v,.v,.v,.v,.v,.x,.v,.z] (by kernel_rfl) ?_;obtain ⟨x57,f1,H⟩:=bil (g:=KY) Fm.X7 H;refine go1 ?_;refine bp H (C0 x57) fun x61 h H=>cv h ?_;refine go ?_;refine PD (g:=KY) hF 0 H (rdo (c:=true) (g:=KY) Fm.X7) fun x63 H v19 s20 hF=>?_;refine go ?_;refine st hF 0 (hF.cells 0 rfl) fun s21 hF=>?_;refine go ?_;exact L0 a0 HK x63 (i64.wrap (Yh+1)) _ H _ rfl Q tt b1 b3 b5 hE hR _ _ v19 S hF
  ·refine go ?_;exact wq (hE _ (pur H).symm _ _ z0v0 S hF)
theorem Mz:∀(a0 a1:List Int) (Yl:Int) out,JD a0 a1 Yl=some out->∀c,Yg Tryz.f124 0=some c->∀(Q:QT) (tt:Sto),(∀(_u:Unit),out=Sum.inr ()->∀(T:TT) (σ:Sto),0+0=0->Fx tt σ [] []->Q (.ex 0) ⟨T,σ⟩)->(∀r,out=Sum.inl r->∀s',I7 KZ [.tmp 4] (fun r' ss'=>r'=.bool r/\ss'=tt) s'->Q .ret s')->∀(T:TT) (σ:Sto),T 0=sf cI a0/\T 1=sf cI a1/\T 5=i6 Yl->Fx tt σ [] []->aLp KZ c Q ⟨T,σ⟩:=by
 intro a0 a1 Yl;revert Yl;refine JD.partial_correctness a0 a1 _ ?_;intro JD IH Yl out H c hc Q tt  hE hR T σ tT hF;refine lpx tt hc rfl fun q hX=>go ?_;refine cdp H (fun h H=>?_) (fun h H=>?_)
 ·refine go ?_;refine Yj E0 [.v,.v,.v,.v,.v,.v,.v,.v,.v] (by kernel_rfl) ?_;obtain ⟨x19,f1,H⟩:=bil (g:=cI) (fun _=>rfl) H;obtain ⟨x23,f2,H⟩:=bil (g:=cI) (fun _=>rfl) H;refine go2 ?_;refine go ?_;refine cdn H (fun h H=>?_) (fun h H=>?_)
  ·refine go ?_;exact wq (hR _ (pur H).symm _ (rt _))
  ·refine go ?_;exact IH  (i64.wrap (Yl+1)) _ H _ rfl Q tt  hE hR _ _  S hF
 ·refine go ?_;exact wq (hE () (pur H).symm _ _  S hF)
theorem Fy:∀(a0 a1:List Int) r,Bq a0 a1=some r->VK KZ 124 [sf cI a0,sf cI a1] (.bool r):=by
 intro a0 a1 r H;intro σ;unfold Bq at H;refine hdg mixed Tryz.func124 (rs:=[.tmp 4]) fun q tT=>?_;have hF:=K2 σ;have hX:=Tau.none σ;refine go ?_;refine cdn H (fun h H=>?_) (fun h H=>?_)
 ·refine go ?_;have e:=pur H;subst e;exact rt _
 ·refine go ?_;obtain ⟨o1,ho1,H⟩:=bnd H;refine Mz a0 a1 0 _ ho1 _ rfl _ _  ?_ ?_ _ _  S hF
  ·intro _ he T3 ss4 tT hF;have he:=he.symm;subst he
   try dsimp only at H
   refine go ?_;have e:=pur H;subst e;exact rt _
  ·intro r hr s' hs;subst hr;have e:=pur H;subst e;exact hsq hs
theorem EG:∀(a0:List Bnd) (YB Aw:Int) out,Wt a0 YB Aw=some out->∀c,Yg Tryz.f84 1=some c->∀(Q:QT) (tt:Sto),(∀(_u:Unit),out=Sum.inr ()->∀(T:TT) (σ:Sto),T 0=sf K0 a0/\T 3=i6 YB->Fx tt σ [] []->Q (.ex 2) ⟨T,σ⟩)->(∀r,out=Sum.inl r->∀s',I7 KZ [.tmp 2] (fun r' ss'=>r'=.bool r/\ss'=tt) s'->Q .ret s')->∀(T:TT) (σ:Sto),T 0=sf K0 a0/\T 3=i6 YB/\T 4=i6 Aw->Fx tt σ [] []->aLp KZ c Q ⟨T,σ⟩:=by
 intro a0 YB Aw;revert Aw;refine Wt.partial_correctness a0 YB _ ?_;intro Wt IH Aw out H c hc Q tt  hE hR T σ tT hF;refine lpx tt hc rfl fun q hX=>go ?_;refine cdp H (fun h H=>?_) (fun h H=>?_)
 ·refine go ?_;refine Yj E0 [.v,.v,.v,.v,.v,.v,.v,.v,.v,.v,.v,.v,.v,.v,.v,.v,.v,.v,.v,.v,.v,.v,.v,.v] (by kernel_rfl) ?_;obtain ⟨x54,f1,H⟩:=bil (g:=K0) Bnd.X7 H;obtain ⟨x59,f2,H⟩:=bil (g:=K0) Bnd.X7 H;refine go2 ?_;obtain ⟨x75,g9,H⟩:=bnd H;refine VU 11 64 75 (.bool x75) (ti q (fun q=>?_) (fun q=>?_)) (fun J=>?_)
  ·rw [if_pos (dt q)] at g9;obtain ⟨x66,f1,g9⟩:=bil (g:=K0) Bnd.X7 g9;obtain ⟨x71,f2,g9⟩:=bil (g:=K0) Bnd.X7 g9;refine go2 ?_;obtain ⟨x74,hx74,g9⟩:=bnd g9;refine cv (Fy x66.sc x71.sc _ hx74) ?_;refine go ?_;exact Yr 64 g9
  ·rw [if_neg (df q)] at g9;refine go ?_;exact Yr 64 g9
  refine go ?_;refine cdb H (fun h H=>?_) (fun h H=>?_)
  ·refine go ?_;exact wq (hR _ (pur H).symm _ (rt _))
  ·refine go ?_;exact IH  (i64.wrap (Aw+1)) _ H _ rfl Q tt  hE hR _ _  S hF
 ·refine go ?_;exact wq (hE () (pur H).symm _ _  S hF)
theorem EF:∀(a0:List Bnd) (YB:Int) out,Ws a0 YB=some out->∀c,Yg Tryz.f84 0=some c->∀(Q:QT) (tt:Sto),(∀(_u:Unit),out=Sum.inr ()->∀(T:TT) (σ:Sto),T 0=sf K0 a0->Fx tt σ [] []->Q (.ex 0) ⟨T,σ⟩)->(∀r,out=Sum.inl r->∀s',I7 KZ [.tmp 2] (fun r' ss'=>r'=.bool r/\ss'=tt) s'->Q .ret s')->∀(T:TT) (σ:Sto),T 0=sf K0 a0/\T 3=i6 YB->Fx tt σ [] []->aLp KZ c Q ⟨T,σ⟩:=by
 intro a0 YB;revert YB;refine Ws.partial_correctness a0 _ ?_;intro Ws IH YB out H c hc Q tt  hE hR T σ tT hF;refine lpx tt hc rfl fun q hX=>go ?_;obtain ⟨x12,g1,H⟩:=bnd H;refine Yc 2 10 12 (.bool x12) (gi q (fun q=>?_) (fun q=>?_)) (fun J=>?_)
 ·refine go ?_;exact Yr 10 g1
 ·refine go ?_;exact Yr 10 g1
 refine go ?_;refine cdb H (fun h H=>?_) (fun h H=>?_)
 ·obtain ⟨x17,f1,H⟩:=bil (g:=K0) Bnd.X7 H;refine go1 ?_;refine bp H (Bo x17.name) fun x20 h H=>cl h ?_;refine go ?_;obtain ⟨x30,g3,H⟩:=bnd H;refine Yc 7 23 30 (.bool x30) (giN q (fun q=>?_) (fun q=>?_)) (fun J=>?_)
  ·rw [if_neg (dbf q)] at g3;obtain ⟨x25,f1,g3⟩:=bil (g:=K0) Bnd.X7 g3;refine go1 ?_;obtain ⟨x28,hx28,g3⟩:=bnd g3;refine cl (D9 x25.sc _ hx28) ?_;refine go ?_;exact Yr 23 g3
  ·rw [if_pos (dbt q)] at g3;refine go ?_;exact Yr 23 g3
  refine go ?_;obtain ⟨x38,g5,H⟩:=bnd H;refine Yc 6 32 38 (.bool x38) (giN q (fun q=>?_) (fun q=>?_)) (fun J=>?_)
  ·rw [if_neg (dbf q)] at g5;obtain ⟨x34,f1,g5⟩:=bil (g:=K0) Bnd.X7 g5;refine go1 ?_;refine go ?_;exact Yr 32 g5
  ·rw [if_pos (dbt q)] at g5;refine go ?_;exact Yr 32 g5
  refine go ?_;obtain ⟨x46,g7,H⟩:=bnd H;refine Yc 6 40 46 (.bool x46) (giN q (fun q=>?_) (fun q=>?_)) (fun J=>?_)
  ·rw [if_neg (dbf q)] at g7;obtain ⟨x42,f1,g7⟩:=bil (g:=K0) Bnd.X7 g7;refine go1 ?_;refine go ?_;exact Yr 40 g7
  ·rw [if_pos (dbt q)] at g7;refine go ?_;exact Yr 40 g7
  refine go ?_;refine cdb H (fun h H=>?_) (fun h H=>?_)
  ·refine go ?_;exact wq (hR _ (pur H).symm _ (rt _))
  ·refine go ?_;obtain ⟨o11,ho11,H⟩:=bnd H;refine EG a0 YB 0 _ ho11 _ rfl _ _  ?_ ?_ _ _  S hF
   ·intro _ he T13 s14 tT hF;have he:=he.symm;subst he
    try dsimp only at H
    refine go ?_;exact IH  (i64.wrap (YB+1)) _ H _ rfl Q tt  hE hR _ _  S hF
   ·intro r hr s' hs;subst hr;exact wq (hR _ (pur H).symm _ hs)
 ·refine go ?_;exact wq (hE () (pur H).symm _ _  S hF)
theorem IN:∀(a0:List Bnd) r,JQ a0=some r->VK KZ 84 [sf K0 a0] (.bool r):=by
 intro a0 r H;intro σ;unfold JQ at H;refine hdg mixed Tryz.func84 (rs:=[.tmp 2]) fun q tT=>?_;have hF:=K2 σ;have hX:=Tau.none σ;refine go ?_;obtain ⟨o16,ho16,H⟩:=bnd H;refine EF a0 0 _ ho16 _ rfl _ _  ?_ ?_ _ _  S hF
 ·intro _ he T18 s19 tT hF;have he:=he.symm;subst he
  try dsimp only at H
  refine go ?_;have e:=pur H;subst e;exact rt _
 ·intro r hr s' hs;subst hr;have e:=pur H;subst e;exact hsq hs
theorem EO:∀(a0:Fm) r,Cq a0=some r->VK KZ 50 [.agg (KY a0)] (.bool r):=by
 intro a0 r H;intro σ;unfold Cq at H;refine hdg mixed Tryz.func50 (rs:=[.tmp 2]) fun q tT=>?_;have hF:=K2 σ;have hX:=Tau.none σ;refine go ?_;refine Ya hF rfl fun b1 ss2 hF=>?_;refine go ?_;obtain ⟨x9,g3,H⟩:=bnd H;refine Yc 2 7 9 (.bool x9) (gi q (fun q=>?_) (fun q=>?_)) (fun J=>?_)
 ·rw [if_pos (dt q)] at g3;refine go ?_;obtain ⟨x8,hx8,g3⟩:=bnd g3;refine cl (Y8 a0 _ hx8) ?_;refine go ?_;exact Yr 7 g3
 ·rw [if_neg (df q)] at g3;refine go ?_;exact Yr 7 g3
 refine go ?_;have e:=pur H;subst e;exact rt _
theorem Fl:∀(a0 X9:List Bnd) (YA:Int) out,VE a0 X9 YA=some out->∀c,Yg Tryz.f113 0=some c->∀(Q:QT) (tt0:Sto),(∀(Vu:List Bnd),out=Vu->∀(T:TT) (σ tt:Sto) (e0v0:AV),T 3=e0v0->Tau tt0 [] tt->Fx tt σ [] [⟨e0v0,75,3,rws K0 Vu⟩]->Q (.ex 0) ⟨T,σ⟩)->True->∀(T:TT) (σ tt:Sto) (z0v0:AV),T 0=sf K0 a0/\T 3=z0v0/\T 4=i6 YA->Tau tt0 [] tt->Fx tt σ [] [⟨z0v0,75,3,rws K0 X9⟩]->aLp KZ c Q ⟨T,σ⟩:=by
 intro a0 X9 YA;revert X9 YA;refine VE.partial_correctness a0 _ ?_;intro VE IH X9 YA out H c hc Q tt0  hE hR T σ tt z0v0 tT hX hF;refine lpy hc rfl fun q=>go ?_;refine cdp H (fun h H=>?_) (fun h H=>?_)
 ·obtain ⟨x15,f1,H⟩:=bil (g:=K0) Bnd.X7 H;refine go1 ?_;refine Ya hF rfl fun b1 ss2 hF=>?_;refine go ?_;refine st hF 0 rfl fun ss3 hF=>?_;refine go ?_;refine apv (g:=cI) H (fun _=>rfl) (rdo (c:=false) (g:=cI) (fun _=>rfl)) fun x20 H=>?_;refine go ?_;refine st hF 0 rfl fun ss4 hF=>?_;refine go ?_;refine apd (g:=K0) hF 0 H (rdo (c:=true) (g:=K0) Bnd.X7) fun x25 H v5 ss6 hF=>?_;refine go ?_;exact IH  x25 (i64.wrap (YA+1)) _ H _ rfl Q tt0  hE hR _ _ _ v5 S hX (hF.drop 1 0)
 ·refine go ?_;exact wq (hE _ (pur H).symm _ _ _ z0v0 S hX hF)
theorem Bs:∀(a0:List Bnd) r,JE a0=some r->∀   (σ:Sto),Pre σ [] []->Ctr KZ 113 [sf K0 a0] σ (fun r' ss'=>∃(tt':Sto) (w0:AV),r'=w0/\Tau (strip σ []) [] tt'/\Fx tt' ss' [] [⟨w0,75,3,rws K0 r⟩]):=by
 intro a0 r H;intro   σ hP;unfold JE at H;refine hdg mixed Tryz.func113 (rs:=[.tmp 2]) fun q tT=>?_;obtain ⟨hF,hX⟩:=hP.start;generalize strip σ []=tt0 at hF hX ⊢;have hF:=hF.lit 75 3 (rws K0 []) rfl;refine go ?_;obtain ⟨o7,ho7,H⟩:=bnd H;refine Fl a0 [] 0 _ ho7 _ rfl _ tt0  ?_ ?_ _ _ _ (.sl true (rws K0 [])) S hX hF
 ·intro Qgt he T9 s10 t11 e8v0 tT hX hF;have he:=he.symm;subst he;refine go ?_;have e:=pur H;subst e;exact rg _ ⟨_,_,rfl,hX,hF.pick [] [0] (by decide) (by decide)⟩
 ·trivial
theorem OQ:∀(a0:List Bnd) (a1:Fm) (a2:Int) r,BI a0 a1 a2=some r->VK KZ 209 [sf K0 a0,.agg (KY a1),i6 a2] (.tup [sf K0 r.1,.bool r.2]):=by
 intro a0 a1 a2 r H;intro σ;unfold BI at H;refine hdg mixed Tryz.func209 (rs:=[.tmp 6,.tmp 7]) fun q tT=>?_;have hF:=K2 σ;have hX:=Tau.none σ;refine go ?_;refine Ya hF rfl fun b1 ss2 hF=>?_;refine go ?_;refine bp H (IN a0) fun x10 h H=>cl h ?_;refine go ?_;obtain ⟨x16,g3,H⟩:=bnd H;refine Yc 3 13 16 (.bool x16) (giN q (fun q=>?_) (fun q=>?_)) (fun J=>?_)
 ·rw [if_neg (dbf q)] at g3;refine go ?_;obtain ⟨x14,hx14,g3⟩:=bnd g3;refine cl (EO a1 _ hx14) ?_;refine go ?_;exact Yr 13 g3
 ·rw [if_pos (dbt q)] at g3;refine go ?_;exact Yr 13 g3
 refine go ?_;refine cdb H (fun h H=>?_) (fun h H=>?_)
 ·refine go ?_;have e:=pur H;subst e;exact rt _
 ·refine go ?_;obtain ⟨E,hEq⟩:∃E,E=EE ss2 []:=⟨_,rfl⟩
  have n5:¬E b1:=by rw [hEq];exact K6 (hF.at 0 rfl) (by simp)
  refine NT E [.v,.v,.v,.v,.v,.v,.v,.x,.v,.v,.v,.x,.v] [0,2,3,4,5,6,8,1,7,9,10,11,12] (by kernel_rfl) ?_;have z:=X8 (hF.at 0 rfl) n5;refine gh ?_;obtain ⟨x19,hx19,H⟩:=bnd H;refine cx (Bs a0 _ hx19   _ (pre 0 0 0 hF hX)) ?_;rintro v6 s7 ⟨t8,_,rfl,hT,hG⟩
  refine W7 (K9 hT hG (by intro p hp;simp only [Kj,KE,or_false] at hp<;>first | (rcases hp with rfl<;>(rw [hEq];first | (refine Zd ?_;simp;done) | exact Zm rfl))| cases hp)) fun kp10=>?_
  have hF:=DL 0 0 hF hX hT hG;have z:=X8 (hF.at 0 rfl) n5;refine gh ?_;obtain ⟨x25,hx25,H⟩:=bnd H;refine Nh (g:=cI) (xs:=[]) (ys:=a1.sc) (fun _=>rfl) (by decide) (by decide) (.inr (by first | rfl | simp only [Vm,VR,cI,cU,cS,cL])) (.inr ⟨_,by first | rfl | simp only [Vm,VR,cI,cU,cS,cL]⟩) hx25 ?_;have z:=X8 (hF.at 0 rfl) n5;refine gh ?_;refine PD (g:=K0) hF 0 H (rdo (c:=true) (g:=K0) Bnd.X7) fun x29 H v11 s12 hF=>?_;have z:=X8 (hF.at 0 rfl) n5;refine gh ?_;refine go ?_;obtain ⟨x31,hx31,H⟩:=bnd H;refine RC (IN x29 _ hx31) .bool (.cons ((hF.wk 0 rfl).trans (Wk.sub (Sub.zero _) _)) (fun _=>rfl) .nil) ?_;refine go ?_;refine cdb H (fun h H=>?_) (fun h H=>?_)
  ·refine go ?_;have e:=pur H;subst e;exact rt _
  ·refine go ?_;have e:=pur H;subst e;exact rt _
theorem FB:∀(a0:Xpn) (a1:Fm) r,I4 a0 a1=some r->VK KZ 199 [.agg (K8 a0),.agg (KY a1)] (.tup [.agg (K8 r.1),i6 r.2]):=by
 intro a0 a1 r H;intro σ;unfold I4 at H;refine hdg mixed Tryz.func199 (rs:=[.cell 4 42,.tmp 5]) fun q tT=>?_;have hF:=K2 σ;have hX:=Tau.none σ;refine go ?_;refine Ya hF rfl fun b1 ss2 hF=>?_;refine go ?_;refine Ya hF rfl fun b3 ss4 hF=>?_;refine go ?_;refine Ya hF rfl fun b5 ss6 hF=>?_;refine go ?_;refine cdp H (fun h H=>?_) (fun h H=>?_)
 ·refine go ?_;refine st hF 0 rfl fun s7 hF=>?_;refine go ?_;have e:=pur H;subst e;exact rt _
 ·refine go ?_;obtain ⟨x20,hx20,H⟩:=bnd H;refine cl (OQ a0.binds a1 (i64.wrap (a0.id+1)) _ hx20) ?_;refine go ?_;refine cdb H (fun h H=>?_) (fun h H=>?_)
  ·refine go ?_;refine st hF 0 rfl fun s8 hF=>?_;refine go ?_;have e:=pur H;subst e;exact rt _
  ·refine go ?_;refine st hF 2 rfl fun s9 hF=>?_;refine go ?_;refine st hF 2 rfl fun s10 hF=>?_;refine go ?_;refine st hF 0 rfl fun s11 hF=>?_;refine go ?_;have e:=pur H;subst e;exact rt _
theorem LV:∀(a0:Fm) (X9 Vn:List Fm) (Ym:Int) out,Je a0 X9 Vn Ym=some out->∀c,Yg Tryz.f180 0=some c->∀(Q:QT) (tt:Sto) (b1:Nat),(∀(Vu Lf:List Fm),out=Sum.inr (Vu,Lf)->∀(T:TT) (σ:Sto) (e0v0 e0v1:AV),T 1=.ptr b1 0/\T 5=e0v0/\T 6=e0v1->Fx tt σ [(b1,⟨26,5,[i6 a0.kind,.str a0.name,i6 a0.num,sf cI a0.sc,sf KY a0.kids]⟩)] [⟨e0v1,26,5,rws KY Lf⟩,⟨e0v0,26,5,rws KY Vu⟩]->Q (.ex 0) ⟨T,σ⟩)->(∀r,out=Sum.inl r->∀s',I7 KZ [.tmp 2,.tmp 3,.tmp 4] (fun r' ss'=>r'=.tup [sf KY r.1,sf KY r.2.1,.bool r.2.2]/\ss'=tt) s'->Q .ret s')->∀(T:TT) (σ:Sto) (z0v0 z0v1:AV),T 1=.ptr b1 0/\T 5=z0v0/\T 6=z0v1/\T 7=i6 Ym->Fx tt σ [(b1,⟨26,5,[i6 a0.kind,.str a0.name,i6 a0.num,sf cI a0.sc,sf KY a0.kids]⟩)] [⟨z0v1,26,5,rws KY Vn⟩,⟨z0v0,26,5,rws KY X9⟩]->aLp KZ c Q ⟨T,σ⟩:=by
 intro a0 X9 Vn Ym;revert X9 Vn Ym;refine Je.partial_correctness a0 _ ?_;intro Je IH X9 Vn Ym out H c hc Q tt b1 hE hR T σ z0v0 z0v1 tT hF;refine lpx tt hc rfl fun q hX=>go ?_;refine cdp H (fun h H=>?_) (fun h H=>?_)
 ·obtain ⟨x20,f1,H⟩:=bil (g:=KY) Fm.X7 H;refine go1 ?_;obtain ⟨x33,g3,H⟩:=bnd H;refine Yc 8 25 33 (.bool x33) (giN q (fun q=>?_) (fun q=>?_)) (fun J=>?_)
  ·rw [if_pos (dnf q)] at g3;obtain ⟨x28,f1,g3⟩:=bil (g:=KY) Fm.X7 g3;refine go1 ?_;refine go ?_;exact Yr 25 g3
  ·rw [if_neg (dnt q)] at g3;refine go ?_;exact Yr 25 g3
  refine go ?_;refine cdb H (fun h H=>?_) (fun h H=>?_)
  ·refine go ?_;exact wq (hR _ (pur H).symm _ (rt _))
  ·obtain ⟨x40,f1,H⟩:=bil (g:=KY) Fm.X7 H;obtain ⟨x43,f2,H⟩:=bil (g:=KY) Fm.X7 H;refine go2 ?_;refine apd (g:=KY) hF 1 H (rdo (c:=true) (g:=KY) Fm.X7) fun x46 H v5 ss6 hF=>?_;obtain ⟨x51,f1,H⟩:=bil (g:=KY) Fm.X7 H;obtain ⟨x54,f2,H⟩:=bil (g:=KY) Fm.X7 H;refine go2 ?_;refine apd (g:=KY) hF 0 H (rdo (c:=true) (g:=KY) Fm.X7) fun x57 H v7 s8 hF=>?_;refine go ?_;exact IH  x46 x57 (i64.wrap (Ym+1)) _ H _ rfl Q tt b1 hE hR _ _ v5 v7 S hF
 ·refine go ?_;exact wq (hE _ _ (pur H).symm _ _ z0v0 z0v1 S hF)
theorem O7:∀(a0:Fm) r,BO a0=some r->VK KZ 180 [.agg (KY a0)] (.tup [sf KY r.1,sf KY r.2.1,.bool r.2.2]):=by
 intro a0 r H;intro σ;unfold BO at H;refine hdg mixed Tryz.func180 (rs:=[.tmp 2,.tmp 3,.tmp 4]) fun q tT=>?_;have hF:=K2 σ;have hX:=Tau.none σ;refine go ?_;refine Ya hF rfl fun b1 ss2 hF=>?_;have hF:=hF.lit 26 5 (rws KY []) rfl;have hF:=hF.lit 26 5 (rws KY []) rfl;refine go ?_;obtain ⟨o9,ho9,H⟩:=bnd H;refine LV a0 [] [] 0 _ ho9 _ rfl _ _ b1 ?_ ?_ _ _ (.sl true (rws KY [])) (.sl true (rws KY [])) S hF
 ·intro M6 Qld he T11 s12 e10v0 e10v1 tT hF;have he:=he.symm;subst he
  try dsimp only at H
  refine go ?_;refine Yj E0 [.v,.v,.v,.v,.v,.v,.v,.v] (by kernel_rfl) ?_;refine go ?_;have e:=pur H;subst e;exact rt _
 ·intro r hr s' hs;subst hr;have e:=pur H;subst e;exact hsq hs
theorem He:∀(a0 a1:Fm) r,VH a0 a1=some r->VK KZ 95 [.agg (KY a0),.agg (KY a1)] (.bool r):=by
 refine VH.partial_correctness _ (motive_2:=fun a0 a1 Yl out=>∀c,Yg Tryz.f95 0=some c->∀(Q:QT) (tt:Sto) (b1 b3:Nat),(∀(_u:Unit),out=Sum.inr ()->∀(T:TT) (σ:Sto),0+0=0->Fx tt σ [(b3,⟨26,5,[i6 a1.kind,.str a1.name,i6 a1.num,sf cI a1.sc,sf KY a1.kids]⟩),(b1,⟨26,5,[i6 a0.kind,.str a0.name,i6 a0.num,sf cI a0.sc,sf KY a0.kids]⟩)] []->Q (.ex 0) ⟨T,σ⟩)->(∀r,out=Sum.inl r->∀s',I7 KZ [.tmp 4] (fun r' ss'=>r'=.bool r/\ss'=tt) s'->Q .ret s')->∀(T:TT) (σ:Sto),T 2=.ptr b1 0/\T 3=.ptr b3 0/\T 5=i6 Yl->Fx tt σ [(b3,⟨26,5,[i6 a1.kind,.str a1.name,i6 a1.num,sf cI a1.sc,sf KY a1.kids]⟩),(b1,⟨26,5,[i6 a0.kind,.str a0.name,i6 a0.num,sf cI a0.sc,sf KY a0.kids]⟩)] []->aLp KZ c Q ⟨T,σ⟩) ?_ ?_
 ·intro Jm L0 a0 a1 r H;intro σ;refine hdg mixed Tryz.func95 (rs:=[.tmp 4]) fun q tT=>?_;have hF:=K2 σ;have hX:=Tau.none σ;refine go ?_;refine Ya hF rfl fun b1 ss2 hF=>?_;refine go ?_;refine Ya hF rfl fun b3 ss4 hF=>?_;refine go ?_;obtain ⟨x17,g5,H⟩:=bnd H;refine Yc 5 12 17 (.bool x17) (giN q (fun q=>?_) (fun q=>?_)) (fun J=>?_)
  ·refine go ?_;exact Yr 12 g5
  ·refine go ?_;exact Yr 12 g5
  refine go ?_;obtain ⟨x24,g7,H⟩:=bnd H;refine Yc 5 19 24 (.bool x24) (giN q (fun q=>?_) (fun q=>?_)) (fun J=>?_)
  ·refine go ?_;exact Yr 19 g7
  ·refine go ?_;exact Yr 19 g7
  refine go ?_;obtain ⟨x32,g9,H⟩:=bnd H;refine Yc 6 26 32 (.bool x32) (giN q (fun q=>?_) (fun q=>?_)) (fun J=>?_)
  ·rw [if_neg (dbf q)] at g9;refine go ?_;obtain ⟨x30,hx30,g9⟩:=bnd g9;refine cl (Fy a0.sc a1.sc _ hx30) ?_;refine go ?_;exact Yr 26 g9
  ·rw [if_pos (dbt q)] at g9;refine go ?_;exact Yr 26 g9
  refine go ?_;obtain ⟨x41,g11,H⟩:=bnd H;refine Yc 7 34 41 (.bool x41) (giN q (fun q=>?_) (fun q=>?_)) (fun J=>?_)
  ·refine go ?_;exact Yr 34 g11
  ·refine go ?_;exact Yr 34 g11
  refine go ?_;refine cdb H (fun h H=>?_) (fun h H=>?_)
  ·refine go ?_;have e:=pur H;subst e;exact rt _
  ·refine go ?_;obtain ⟨o13,ho13,H⟩:=bnd H;refine L0 a0 a1 0 _ ho13 _ rfl _ _ b1 b3 ?_ ?_ _ _  S hF
   ·intro _ he T15 s16 tT hF;have he:=he.symm;subst he
    try dsimp only at H
    refine go ?_;have e:=pur H;subst e;exact rt _
   ·intro r hr s' hs;subst hr;have e:=pur H;subst e;exact hsq hs
 ·intro VH Jm C0 L0 a0 a1 Yl out H c hc Q tt b1 b3 hE hR T σ tT hF;refine lpx tt hc rfl fun q hX=>go ?_;refine cdp H (fun h H=>?_) (fun h H=>?_)
  ·refine go ?_;refine Yj E0 [.v,.v,.v,.v,.v,.v,.v,.v,.v,.v,.v,.v] (by kernel_rfl) ?_;obtain ⟨x52,f1,H⟩:=bil (g:=KY) Fm.X7 H;obtain ⟨x57,f2,H⟩:=bil (g:=KY) Fm.X7 H;refine go2 ?_;refine bp H (C0 x52 x57) fun x59 h H=>cv h ?_;refine go ?_;refine cdb H (fun h H=>?_) (fun h H=>?_)
   ·refine go ?_;exact wq (hR _ (pur H).symm _ (rt _))
   ·refine go ?_;exact L0 a0 a1 (i64.wrap (Yl+1)) _ H _ rfl Q tt b1 b3 hE hR _ _  S hF
  ·refine go ?_;exact wq (hE () (pur H).symm _ _  S hF)
theorem OU:∀(a0:List Fm) (a1:Fm) (Yl:Int) out,Hr a0 a1 Yl=some out->∀c,Yg Tryz.f66 0=some c->∀(Q:QT) (tt:Sto) (b1:Nat),(∀(_u:Unit),out=Sum.inr ()->∀(T:TT) (σ:Sto),0+0=0->Fx tt σ [(b1,⟨26,5,[i6 a1.kind,.str a1.name,i6 a1.num,sf cI a1.sc,sf KY a1.kids]⟩)] []->Q (.ex 0) ⟨T,σ⟩)->(∀r,out=Sum.inl r->∀s',I7 KZ [.tmp 4] (fun r' ss'=>r'=.bool r/\ss'=tt) s'->Q .ret s')->∀(T:TT) (σ:Sto),T 0=sf KY a0/\T 3=.ptr b1 0/\T 5=i6 Yl->Fx tt σ [(b1,⟨26,5,[i6 a1.kind,.str a1.name,i6 a1.num,sf cI a1.sc,sf KY a1.kids]⟩)] []->aLp KZ c Q ⟨T,σ⟩:=by
 intro a0 a1 Yl;revert Yl;refine Hr.partial_correctness a0 a1 _ ?_;intro Hr IH Yl out H c hc Q tt b1 hE hR T σ tT hF;refine lpx tt hc rfl fun q hX=>go ?_;refine cdp H (fun h H=>?_) (fun h H=>?_)
 ·refine go ?_;refine Yj E0 [.v,.v,.v,.v,.v,.v] (by kernel_rfl) ?_;obtain ⟨x14,f1,H⟩:=bil (g:=KY) Fm.X7 H;refine go1 ?_;refine bp H (He x14 a1) fun x17 h H=>cv h ?_;refine go ?_;refine cdb H (fun h H=>?_) (fun h H=>?_)
  ·refine go ?_;exact wq (hR _ (pur H).symm _ (rt _))
  ·refine go ?_;exact IH  (i64.wrap (Yl+1)) _ H _ rfl Q tt b1 hE hR _ _  S hF
 ·refine go ?_;exact wq (hE () (pur H).symm _ _  S hF)
theorem CT:∀(a0:List Fm) (a1:Fm) r,Bb a0 a1=some r->VK KZ 66 [sf KY a0,.agg (KY a1)] (.bool r):=by
 intro a0 a1 r H;intro σ;unfold Bb at H;refine hdg mixed Tryz.func66 (rs:=[.tmp 4]) fun q tT=>?_;have hF:=K2 σ;have hX:=Tau.none σ;refine go ?_;refine Ya hF rfl fun b1 ss2 hF=>?_;refine go ?_;obtain ⟨o3,ho3,H⟩:=bnd H;refine OU a0 a1 0 _ ho3 _ rfl _ _ b1 ?_ ?_ _ _  S hF
 ·intro _ he T5 ss6 tT hF;have he:=he.symm;subst he
  try dsimp only at H
  refine go ?_;have e:=pur H;subst e;exact rt _
 ·intro r hr s' hs;subst hr;have e:=pur H;subst e;exact hsq hs
theorem ES:∀(a0:List Fm) (YB:Int) out,Wy a0 YB=some out->∀c,Yg Tryz.f126 0=some c->∀(Q:QT) (tt:Sto),(∀(_u:Unit),out=Sum.inr ()->∀(T:TT) (σ:Sto),T 0=sf KY a0->Fx tt σ [] []->Q (.ex 0) ⟨T,σ⟩)->(∀r,out=Sum.inl r->∀s',I7 KZ [.tmp 2] (fun r' ss'=>r'=.bool r/\ss'=tt) s'->Q .ret s')->∀(T:TT) (σ:Sto),T 0=sf KY a0/\T 3=i6 YB->Fx tt σ [] []->aLp KZ c Q ⟨T,σ⟩:=by
 intro a0 YB;revert YB;refine Wy.partial_correctness a0 _ ?_;intro Wy IH YB out H c hc Q tt  hE hR T σ tT hF;refine lpx tt hc rfl fun q hX=>go ?_;obtain ⟨x11,g1,H⟩:=bnd H;refine Yc 2 9 11 (.bool x11) (gi q (fun q=>?_) (fun q=>?_)) (fun J=>?_)
 ·refine go ?_;exact Yr 9 g1
 ·refine go ?_;exact Yr 9 g1
 refine go ?_;refine cdb H (fun h H=>?_) (fun h H=>?_)
 ·refine go ?_;refine Yj E0 [.v,.v,.v,.v,.v,.v,.v,.v,.v,.v,.v,.v,.v,.v,.v,.v,.v,.v,.v,.v,.v,.v,.v,.v,.v,.v,.v,.v,.v,.v,.v,.v] (by kernel_rfl) ?_;obtain ⟨x16,f1,H⟩:=bil (g:=KY) Fm.X7 H;refine go1 ?_;refine bp H (EO x16) fun x18 h H=>cv h ?_;refine go ?_;obtain ⟨x27,g3,H⟩:=bnd H;refine VU 6 21 27 (.bool x27) (tiN q (fun q=>?_) (fun q=>?_)) (fun J=>?_)
  ·rw [if_neg (dbf q)] at g3;obtain ⟨x23,f1,g3⟩:=bil (g:=KY) Fm.X7 g3;refine go1 ?_;refine go ?_;exact Yr 21 g3
  ·rw [if_pos (dbt q)] at g3;refine go ?_;exact Yr 21 g3
  refine go ?_;obtain ⟨x35,g5,H⟩:=bnd H;refine VU 6 29 35 (.bool x35) (tiN q (fun q=>?_) (fun q=>?_)) (fun J=>?_)
  ·rw [if_neg (dbf q)] at g5;obtain ⟨x31,f1,g5⟩:=bil (g:=KY) Fm.X7 g5;refine go1 ?_;refine go ?_;exact Yr 29 g5
  ·rw [if_pos (dbt q)] at g5;refine go ?_;exact Yr 29 g5
  refine go ?_;obtain ⟨x45,g7,H⟩:=bnd H;refine VU 8 37 45 (.bool x45) (tiN q (fun q=>?_) (fun q=>?_)) (fun J=>?_)
  ·rw [if_neg (dbf q)] at g7;obtain ⟨x39,f1,g7⟩:=bls (g:=KY) Fm.X7 (lo:=none) (hi:=some (i6 YB)) rfl rfl g7;obtain ⟨x42,f2,g7⟩:=bil (g:=KY) Fm.X7 g7;refine go2 ?_;obtain ⟨x44,hx44,g7⟩:=bnd g7;refine cv (CT x39 x42 _ hx44) ?_;refine go ?_;exact Yr 37 g7
  ·rw [if_pos (dbt q)] at g7;refine go ?_;exact Yr 37 g7
  refine go ?_;refine cdb H (fun h H=>?_) (fun h H=>?_)
  ·refine go ?_;exact wq (hR _ (pur H).symm _ (rt _))
  ·refine go ?_;exact IH  (i64.wrap (YB+1)) _ H _ rfl Q tt  hE hR _ _  S hF
 ·refine go ?_;exact wq (hE () (pur H).symm _ _  S hF)
theorem CU:∀(a0:List Fm) r,H5 a0=some r->VK KZ 126 [sf KY a0] (.bool r):=by
 intro a0 r H;intro σ;unfold H5 at H;refine hdg mixed Tryz.func126 (rs:=[.tmp 2]) fun q tT=>?_;have hF:=K2 σ;have hX:=Tau.none σ;refine go ?_;obtain ⟨o9,ho9,H⟩:=bnd H;refine ES a0 0 _ ho9 _ rfl _ _  ?_ ?_ _ _  S hF
 ·intro _ he T11 s12 tT hF;have he:=he.symm;subst he
  try dsimp only at H
  refine go ?_;have e:=pur H;subst e;exact rt _
 ·intro r hr s' hs;subst hr;have e:=pur H;subst e;exact hsq hs
theorem V2:∀(a0:Fm) r,Ve a0=some r->VK KZ 173 [.agg (KY a0)] (.bool r):=by
 intro a0 r H;intro σ;unfold Ve at H;refine hdg mixed Tryz.func173 (rs:=[.tmp 2]) fun q tT=>?_;have hF:=K2 σ;have hX:=Tau.none σ;refine go ?_;refine Ya hF rfl fun b1 ss2 hF=>?_;refine go ?_;obtain ⟨x10,g3,H⟩:=bnd H;refine Yc 3 7 10 (.bool x10) (gi q (fun q=>?_) (fun q=>?_)) (fun J=>?_)
 ·refine go ?_;exact Yr 7 g3
 ·refine go ?_;exact Yr 7 g3
 refine go ?_;have e:=pur H;subst e;exact rt _
theorem OZ:∀(a0:Fm) r,Ih a0=some r->VK KZ 170 [.agg (KY a0)] (.bool r):=by
 refine Ih.partial_correctness _ (motive_2:=fun a0 YB YA out=>∀c,Yg Tryz.f170 0=some c->∀(Q:QT) (tt:Sto) (b1:Nat),(∀(Tm:Int),out=Sum.inr Tm->∀(T:TT) (σ:Sto),T 3=i6 Tm->Fx tt σ [(b1,⟨26,5,[i6 a0.kind,.str a0.name,i6 a0.num,sf cI a0.sc,sf KY a0.kids]⟩)] []->Q (.ex 0) ⟨T,σ⟩)->(∀r,out=Sum.inl r->∀s',I7 KZ [.tmp 2] (fun r' ss'=>r'=.bool r/\ss'=tt) s'->Q .ret s')->∀(T:TT) (σ:Sto),T 1=.ptr b1 0/\T 3=i6 YB/\T 4=i6 YA->Fx tt σ [(b1,⟨26,5,[i6 a0.kind,.str a0.name,i6 a0.num,sf cI a0.sc,sf KY a0.kids]⟩)] []->aLp KZ c Q ⟨T,σ⟩) ?_ ?_
 ·intro Jb L0 a0 r H;intro σ;refine hdg mixed Tryz.func170 (rs:=[.tmp 2]) fun q tT=>?_;have hF:=K2 σ;have hX:=Tau.none σ;refine go ?_;refine Ya hF rfl fun b1 ss2 hF=>?_;refine go ?_;refine bp H (V2 a0) fun x6 h H=>cl h ?_;refine go ?_;refine cdb H (fun h H=>?_) (fun h H=>?_)
  ·refine go ?_;have e:=pur H;subst e;exact rt _
  ·refine go ?_;obtain ⟨o5,ho5,H⟩:=bnd H;refine L0 a0 0 0 _ ho5 _ rfl _ _ b1 ?_ ?_ _ _  S hF
   ·intro Qmv he T7 s8 tT hF;have he:=he.symm;subst he
    try dsimp only at H
    refine go ?_;have e:=pur H;subst e;exact rt _
   ·intro r hr s' hs;subst hr;have e:=pur H;subst e;exact hsq hs
 ·intro Ih Jb C0 L0 a0 YB YA out H c hc Q tt b1 hE hR T σ tT hF;refine lpx tt hc rfl fun q hX=>go ?_;refine cdp H (fun h H=>?_) (fun h H=>?_)
  ·obtain ⟨x17,f1,H⟩:=bil (g:=KY) Fm.X7 H;refine go1 ?_;refine bp H (V2 x17) fun x19 h H=>cl h ?_;refine go ?_;refine cdb H (fun h H=>?_) (fun h H=>?_)
   ·refine go ?_;obtain ⟨x32,g3,H⟩:=bnd H;refine Yc 7 25 32 (.bool x32) (giN q (fun q=>?_) (fun q=>?_)) (fun J=>?_)
    ·rw [if_neg (df q)] at g3;obtain ⟨x29,f1,g3⟩:=bil (g:=KY) Fm.X7 g3;refine go1 ?_;obtain ⟨x31,hx31,g3⟩:=bnd g3;refine cl (V2 x29 _ hx31) ?_;refine go ?_;exact Yr 25 g3
    ·rw [if_pos (dt q)] at g3;refine go ?_;exact Yr 25 g3
    refine go ?_;refine cdb H (fun h H=>?_) (fun h H=>?_)
    ·refine go ?_;exact wq (hR _ (pur H).symm _ (rt _))
    ·refine go ?_;exact L0 a0 (i64.wrap (YB+1)) (i64.wrap (YA+1)) _ H _ rfl Q tt b1 hE hR _ _  S hF
   ·obtain ⟨x36,f1,H⟩:=bil (g:=KY) Fm.X7 H;refine go1 ?_;refine bp H (C0 x36) fun x38 h H=>cl h ?_;refine go ?_;refine cdb H (fun h H=>?_) (fun h H=>?_)
    ·refine go ?_;exact wq (hR _ (pur H).symm _ (rt _))
    ·refine go ?_;exact L0 a0 YB (i64.wrap (YA+1)) _ H _ rfl Q tt b1 hE hR _ _  S hF
  ·refine go ?_;exact wq (hE _ (pur H).symm _ _  S hF)
theorem B1:∀(a0:Fm) (a1:List Fm) r,AO a0 a1=some r->VK KZ 194 [.agg (KY a0),sf KY a1] (.bool r):=by
 intro a0 a1 r H;intro σ;unfold AO at H;refine hdg mixed Tryz.func194 (rs:=[.tmp 4]) fun q tT=>?_;have hF:=K2 σ;have hX:=Tau.none σ;refine go ?_;refine Ya hF rfl fun b1 ss2 hF=>?_;refine go ?_;obtain ⟨x12,g3,H⟩:=bnd H;refine Yc 3 9 12 (.bool x12) (gi q (fun q=>?_) (fun q=>?_)) (fun J=>?_)
 ·refine go ?_;exact Yr 9 g3
 ·refine go ?_;exact Yr 9 g3
 refine go ?_;obtain ⟨x17,g5,H⟩:=bnd H;refine Yc 3 14 17 (.bool x17) (gi q (fun q=>?_) (fun q=>?_)) (fun J=>?_)
 ·refine go ?_;exact Yr 14 g5
 ·refine go ?_;exact Yr 14 g5
 refine go ?_;obtain ⟨x23,g7,H⟩:=bnd H;refine Yc 4 19 23 (.bool x23) (gi q (fun q=>?_) (fun q=>?_)) (fun J=>?_)
 ·rw [if_pos (dbt q)] at g7;refine go ?_;obtain ⟨x21,hx21,g7⟩:=bnd g7;refine cl (CT a1 a0 _ hx21) ?_;refine go ?_;exact Yr 19 g7
 ·rw [if_neg (dbf q)] at g7;refine go ?_;exact Yr 19 g7
 refine go ?_;have e:=pur H;subst e;exact rt _
theorem MM:∀(a0:List Fm) (a1:Fm) (a2:List Fm) r,JK a0 a1 a2=some r->∀  (p0:AV) (σ:Sto),Pre σ [] [⟨p0,26,5,rws KY a0⟩]->Ctr KZ 171 [p0,.agg (KY a1),sf KY a2] σ (fun r' ss'=>∃(tt':Sto) (w0:AV),r'=w0/\Tau (strip σ [⟨p0,26,5,rws KY a0⟩]) [] tt'/\Fx tt' ss' [] [⟨w0,26,5,rws KY r⟩]):=by
 intro a0 a1 a2;revert a0 a1;refine JK.partial_correctness a2 (motive_1:=fun a0 a1 r=>∀  (p0:AV) (σ:Sto),Pre σ [] [⟨p0,26,5,rws KY a0⟩]->Ctr KZ 171 [p0,.agg (KY a1),sf KY a2] σ (fun r' ss'=>∃(tt':Sto) (w0:AV),r'=w0/\Tau (strip σ [⟨p0,26,5,rws KY a0⟩]) [] tt'/\Fx tt' ss' [] [⟨w0,26,5,rws KY r⟩])) (motive_2:=fun a1 X9 Ym out=>∀c,Yg Tryz.f171 0=some c->∀(Q:QT) (tt0:Sto) (b1:Nat),(∀(Vu:List Fm),out=Vu->∀(T:TT) (σ tt:Sto) (e0v0:AV),T 0=e0v0->Tau tt0 [] tt->Fx tt σ [(b1,⟨26,5,[i6 a1.kind,.str a1.name,i6 a1.num,sf cI a1.sc,sf KY a1.kids]⟩)] [⟨e0v0,26,5,rws KY Vu⟩]->Q (.ex 0) ⟨T,σ⟩)->True->∀(T:TT) (σ tt:Sto) (z0v0:AV),T 0=z0v0/\T 2=sf KY a2/\T 4=.ptr b1 0/\T 7=i6 Ym->Tau tt0 [] tt->Fx tt σ [(b1,⟨26,5,[i6 a1.kind,.str a1.name,i6 a1.num,sf cI a1.sc,sf KY a1.kids]⟩)] [⟨z0v0,26,5,rws KY X9⟩]->aLp KZ c Q ⟨T,σ⟩) ?_ ?_
 ·intro WX L0 a0 a1 r H;intro  p0 σ hP;refine hdg mixed Tryz.func171 (rs:=[.tmp 6]) fun q tT=>?_;obtain ⟨hF,hX⟩:=hP.start;generalize strip σ [⟨p0,26,5,rws KY a0⟩]=tt0 at hF hX ⊢;refine go ?_;refine Ya hF rfl fun b1 ss2 hF=>?_;refine go ?_;refine bp H (B1 a1 a2) fun x10 h H=>cl h ?_;refine go ?_;obtain ⟨AW,j4,H⟩:=bnd H;refine Wq (fun s'=>∃(T:TT) (ss1 tt1:Sto) (y3v0:AV),s'=⟨T,ss1⟩/\(T 0=y3v0/\T 2=sf KY a2/\T 4=.ptr b1 0)/\Tau tt0 [] tt1/\Fx tt1 ss1 [(b1,⟨26,5,[i6 a1.kind,.str a1.name,i6 a1.num,sf cI a1.sc,sf KY a1.kids]⟩)] [⟨y3v0,26,5,rws KY AW⟩]) (cdb j4 (fun h j4=>?_) (fun h j4=>?_)) ?_
  ·refine go ?_;refine apd (g:=KY) hF 0 j4 (rdo (c:=true) (g:=KY) Fm.X7) fun x14 j4 v5 ss6 hF=>?_;refine go ?_;have e:=pur j4;subst e;exact ⟨_,_,_,v5,rfl,S,hX,hF⟩
  ·refine go ?_;have e:=pur j4;subst e;exact ⟨_,_,_,p0,rfl,S,hX,hF⟩
  ·rintro s' ⟨T7,s8,t9,y3v0,rfl,tT,hX,hF⟩;refine go ?_;obtain ⟨o14,ho14,H⟩:=bnd H;refine L0 a1 AW 0 _ ho14 _ rfl _ tt0 b1 ?_ ?_ _ _ _ y3v0 S hX hF
   ·intro Gq he T16 s17 t18 e15v0 tT hX hF;have he:=he.symm;subst he;refine go ?_;have e:=pur H;subst e;exact rg _ ⟨_,_,rfl,hX,hF.pick [] [0] (by decide) (by decide)⟩
   ·trivial
 ·intro JK WX C0 L0 a1 X9 Ym out H c hc Q tt0 b1 hE hR T σ tt z0v0 tT hX hF;refine lpy hc rfl fun q=>go ?_;refine cdp H (fun h H=>?_) (fun h H=>?_)
  ·obtain ⟨x26,f1,H⟩:=bil (g:=KY) Fm.X7 H;refine go1 ?_;obtain ⟨x29,hx29,H⟩:=bnd H;refine cx (C0 X9 x26 _ hx29  z0v0 _ (pre 0 0 1 hF hX)) ?_;rintro v10 s11 ⟨t12,_,rfl,hT,hG⟩;obtain ⟨t13,hX,hF⟩:=aft 0 0 1 hF hX hT hG;refine go ?_;exact L0 a1 x29 (i64.wrap (Ym+1)) _ H _ rfl Q tt0 b1 hE hR _ _ _ v10 S hX hF
  ·refine go ?_;exact wq (hE _ (pur H).symm _ _ _ z0v0 S hX hF)
theorem ML:∀(a1:Fm) (a2 X9:List Fm) (Ym:Int) out,JJ a1 a2 X9 Ym=some out->∀c,Yg Tryz.f171 0=some c->∀(Q:QT) (tt0:Sto) (b1:Nat),(∀(Vu:List Fm),out=Vu->∀(T:TT) (σ tt:Sto) (e0v0:AV),T 0=e0v0->Tau tt0 [] tt->Fx tt σ [(b1,⟨26,5,[i6 a1.kind,.str a1.name,i6 a1.num,sf cI a1.sc,sf KY a1.kids]⟩)] [⟨e0v0,26,5,rws KY Vu⟩]->Q (.ex 0) ⟨T,σ⟩)->True->∀(T:TT) (σ tt:Sto) (z0v0:AV),T 0=z0v0/\T 2=sf KY a2/\T 4=.ptr b1 0/\T 7=i6 Ym->Tau tt0 [] tt->Fx tt σ [(b1,⟨26,5,[i6 a1.kind,.str a1.name,i6 a1.num,sf cI a1.sc,sf KY a1.kids]⟩)] [⟨z0v0,26,5,rws KY X9⟩]->aLp KZ c Q ⟨T,σ⟩:=by
 intro a1 a2 X9 Ym;revert X9 Ym;refine JJ.partial_correctness a1 a2 _ ?_;intro JJ IH X9 Ym out H c hc Q tt0 b1 hE hR T σ tt z0v0 tT hX hF;refine lpy hc rfl fun q=>go ?_;refine cdp H (fun h H=>?_) (fun h H=>?_)
 ·obtain ⟨x26,f1,H⟩:=bil (g:=KY) Fm.X7 H;refine go1 ?_;obtain ⟨x29,hx29,H⟩:=bnd H;refine cx (MM X9 x26 a2 _ hx29  z0v0 _ (pre 0 0 1 hF hX)) ?_;rintro v10 s11 ⟨t12,_,rfl,hT,hG⟩;obtain ⟨t13,hX,hF⟩:=aft 0 0 1 hF hX hT hG;refine go ?_;exact IH  x29 (i64.wrap (Ym+1)) _ H _ rfl Q tt0 b1 hE hR _ _ _ v10 S hX hF
 ·refine go ?_;exact wq (hE _ (pur H).symm _ _ _ z0v0 S hX hF)
theorem Dk:∀(a0:List Fm) (a1:Fm) (a2:List Fm) r,AG a0 a1 a2=some r->∀  (p0:AV) (σ:Sto),Pre σ [] [⟨p0,26,5,rws KY a0⟩]->Ctr KZ 171 [p0,.agg (KY a1),sf KY a2] σ (fun r' ss'=>∃(tt':Sto),r'=sf KY r/\Tau (strip σ [⟨p0,26,5,rws KY a0⟩]) [] tt'/\Fx tt' ss' [] []):=by
 intro a0 a1 a2 r H;intro  p0 σ hP;unfold AG at H;refine hdg mixed Tryz.func171 (rs:=[.tmp 6]) fun q tT=>?_;obtain ⟨hF,hX⟩:=hP.start;generalize strip σ [⟨p0,26,5,rws KY a0⟩]=tt0 at hF hX ⊢;refine go ?_;refine Ya hF rfl fun b1 ss2 hF=>?_;refine go ?_;refine bp H (B1 a1 a2) fun x10 h H=>cl h ?_;refine go ?_;obtain ⟨AW,j4,H⟩:=bnd H;refine Wq (fun s'=>∃(T:TT) (ss1 tt1:Sto) (y3v0:AV),s'=⟨T,ss1⟩/\(T 0=y3v0/\T 2=sf KY a2/\T 4=.ptr b1 0)/\Tau tt0 [] tt1/\Fx tt1 ss1 [(b1,⟨26,5,[i6 a1.kind,.str a1.name,i6 a1.num,sf cI a1.sc,sf KY a1.kids]⟩)] [⟨y3v0,26,5,rws KY AW⟩]) (cdb j4 (fun h j4=>?_) (fun h j4=>?_)) ?_
 ·refine go ?_;refine apd (g:=KY) hF 0 j4 (rdo (c:=true) (g:=KY) Fm.X7) fun x14 j4 v5 ss6 hF=>?_;refine go ?_;have e:=pur j4;subst e;exact ⟨_,_,_,v5,rfl,S,hX,hF⟩
 ·refine go ?_;have e:=pur j4;subst e;exact ⟨_,_,_,p0,rfl,S,hX,hF⟩
 ·rintro s' ⟨T7,s8,t9,y3v0,rfl,tT,hX,hF⟩;refine go ?_;obtain ⟨o14,ho14,H⟩:=bnd H;refine ML a1 a2 AW 0 _ ho14 _ rfl _ tt0 b1 ?_ ?_ _ _ _ y3v0 S hX hF
  ·intro Gq he T16 s17 t18 e15v0 tT hX hF;have he:=he.symm;subst he;refine go ?_;have e:=pur H;subst e;exact rg _ ⟨_,rfl,hX,K4 _⟩
  ·trivial
theorem F5:∀(a0:List Int) (a1:Fm) (a2:List Fm) (a3:Int) r,VY a0 a1 a2 a3=some r->∀  (p0:AV) (σ:Sto),Pre σ [] [⟨p0,3,1,rws cI a0⟩]->Ctr KZ 172 [p0,.agg (KY a1),sf KY a2,i6 a3] σ (fun r' ss'=>∃(tt':Sto) (w0:AV),r'=w0/\Tau (strip σ [⟨p0,3,1,rws cI a0⟩]) [] tt'/\Fx tt' ss' [] [⟨w0,3,1,rws cI r⟩]):=by
 intro a0 a1 a2 a3;revert a0 a1 a3;refine VY.partial_correctness a2 (motive_1:=fun a0 a1 a3 r=>∀  (p0:AV) (σ:Sto),Pre σ [] [⟨p0,3,1,rws cI a0⟩]->Ctr KZ 172 [p0,.agg (KY a1),sf KY a2,i6 a3] σ (fun r' ss'=>∃(tt':Sto) (w0:AV),r'=w0/\Tau (strip σ [⟨p0,3,1,rws cI a0⟩]) [] tt'/\Fx tt' ss' [] [⟨w0,3,1,rws cI r⟩])) (motive_2:=fun a1 a3 X9 Vl out=>∀c,Yg Tryz.f172 0=some c->∀(Q:QT) (tt0:Sto) (b1:Nat),(∀(Vu:List Int),out=Vu->∀(T:TT) (σ tt:Sto) (e0v0:AV),T 0=e0v0->Tau tt0 [] tt->Fx tt σ [(b1,⟨26,5,[i6 a1.kind,.str a1.name,i6 a1.num,sf cI a1.sc,sf KY a1.kids]⟩)] [⟨e0v0,3,1,rws cI Vu⟩]->Q (.ex 0) ⟨T,σ⟩)->True->∀(T:TT) (σ tt:Sto) (z0v0:AV),T 0=z0v0/\T 2=sf KY a2/\T 3=i6 a3/\T 5=.ptr b1 0/\T 9=i6 Vl->Tau tt0 [] tt->Fx tt σ [(b1,⟨26,5,[i6 a1.kind,.str a1.name,i6 a1.num,sf cI a1.sc,sf KY a1.kids]⟩)] [⟨z0v0,3,1,rws cI X9⟩]->aLp KZ c Q ⟨T,σ⟩) ?_ ?_
 ·intro Wc L0 a0 a1 a3 r H;intro  p0 σ hP;refine hdg mixed Tryz.func172 (rs:=[.tmp 8]) fun q tT=>?_;obtain ⟨hF,hX⟩:=hP.start;generalize strip σ [⟨p0,3,1,rws cI a0⟩]=tt0 at hF hX ⊢;refine go ?_;refine Ya hF rfl fun b1 ss2 hF=>?_;refine go ?_;refine bp H (B1 a1 a2) fun x13 h H=>cl h ?_;refine go ?_;obtain ⟨AW,j4,H⟩:=bnd H;refine Wq (fun s'=>∃(T:TT) (ss1 tt1:Sto) (y3v0:AV),s'=⟨T,ss1⟩/\(T 0=y3v0/\T 2=sf KY a2/\T 3=i6 a3/\T 5=.ptr b1 0)/\Tau tt0 [] tt1/\Fx tt1 ss1 [(b1,⟨26,5,[i6 a1.kind,.str a1.name,i6 a1.num,sf cI a1.sc,sf KY a1.kids]⟩)] [⟨y3v0,3,1,rws cI AW⟩]) (cdb j4 (fun h j4=>?_) (fun h j4=>?_)) ?_
  ·refine go ?_;refine apd (g:=cI) hF 0 j4 (rdo (c:=true) (g:=cI) (fun _=>rfl)) fun x17 j4 v5 ss6 hF=>?_;refine go ?_;have e:=pur j4;subst e;exact ⟨_,_,_,v5,rfl,S,hX,hF⟩
  ·refine go ?_;have e:=pur j4;subst e;exact ⟨_,_,_,p0,rfl,S,hX,hF⟩
  ·rintro s' ⟨T7,s8,t9,y3v0,rfl,tT,hX,hF⟩;refine go ?_;obtain ⟨o21,ho21,H⟩:=bnd H;refine L0 a1 a3 AW 0 _ ho21 _ rfl _ tt0 b1 ?_ ?_ _ _ _ y3v0 S hX hF
   ·intro D4 he T23 s24 t25 e22v0 tT hX hF;have he:=he.symm;subst he;refine go ?_;have e:=pur H;subst e;exact rg _ ⟨_,_,rfl,hX,hF.pick [] [0] (by decide) (by decide)⟩
   ·trivial
 ·intro VY Wc C0 L0 a1 a3 X9 Vl out H c hc Q tt0 b1 hE hR T σ tt z0v0 tT hX hF;refine lpy hc rfl fun q=>go ?_;refine cdp H (fun h H=>?_) (fun h H=>?_)
  ·refine go ?_;obtain ⟨x40,g10,H⟩:=bnd H;refine Yc 7 33 40 (.bool x40) (gi q (fun q=>?_) (fun q=>?_)) (fun J=>?_)
   ·rw [if_pos (dt q)] at g10;obtain ⟨x37,f1,g10⟩:=bil (g:=KY) Fm.X7 g10;refine go1 ?_;obtain ⟨x39,hx39,g10⟩:=bnd g10;refine cl (V2 x37 _ hx39) ?_;refine go ?_;exact Yr 33 g10
   ·rw [if_neg (df q)] at g10;refine go ?_;exact Yr 33 g10
   refine go ?_;obtain ⟨Bw,j13,H⟩:=bnd H;refine Wq (fun s'=>∃(T:TT) (ss1 tt1:Sto),s'=⟨T,ss1⟩/\(T 0=z0v0/\T 2=sf KY a2/\T 3=i6 a3/\T 5=.ptr b1 0/\T 9=i6 Vl/\T 10=i6 Bw)/\Tau tt0 [] tt1/\Fx tt1 ss1 [(b1,⟨26,5,[i6 a1.kind,.str a1.name,i6 a1.num,sf cI a1.sc,sf KY a1.kids]⟩)] [⟨z0v0,3,1,rws cI X9⟩]) (cdb j13 (fun h j13=>?_) (fun h j13=>?_)) ?_
   ·refine go ?_;have e:=pur j13;subst e;exact ⟨_,_,_,rfl,S,hX,hF⟩
   ·refine go ?_;have e:=pur j13;subst e;exact ⟨_,_,_,rfl,S,hX,hF⟩
   ·rintro s' ⟨T14,s15,t16,rfl,tT,hX,hF⟩;obtain ⟨x47,f1,H⟩:=bil (g:=KY) Fm.X7 H;refine go1 ?_;obtain ⟨x51,hx51,H⟩:=bnd H;refine cx (C0 X9 x47 Bw _ hx51  z0v0 _ (pre 0 0 1 hF hX)) ?_;rintro v17 s18 ⟨t19,_,rfl,hT,hG⟩;obtain ⟨t20,hX,hF⟩:=aft 0 0 1 hF hX hT hG;refine go ?_;exact L0 a1 a3 x51 (i64.wrap (Vl+1)) _ H _ rfl Q tt0 b1 hE hR _ _ _ v17 S hX hF
  ·refine go ?_;exact wq (hE _ (pur H).symm _ _ _ z0v0 S hX hF)
theorem F4:∀(a1:Fm) (a2:List Fm) (a3:Int) (X9:List Int) (Vl:Int) out,WK a1 a2 a3 X9 Vl=some out->∀c,Yg Tryz.f172 0=some c->∀(Q:QT) (tt0:Sto) (b1:Nat),(∀(Vu:List Int),out=Vu->∀(T:TT) (σ tt:Sto) (e0v0:AV),T 0=e0v0->Tau tt0 [] tt->Fx tt σ [(b1,⟨26,5,[i6 a1.kind,.str a1.name,i6 a1.num,sf cI a1.sc,sf KY a1.kids]⟩)] [⟨e0v0,3,1,rws cI Vu⟩]->Q (.ex 0) ⟨T,σ⟩)->True->∀(T:TT) (σ tt:Sto) (z0v0:AV),T 0=z0v0/\T 2=sf KY a2/\T 3=i6 a3/\T 5=.ptr b1 0/\T 9=i6 Vl->Tau tt0 [] tt->Fx tt σ [(b1,⟨26,5,[i6 a1.kind,.str a1.name,i6 a1.num,sf cI a1.sc,sf KY a1.kids]⟩)] [⟨z0v0,3,1,rws cI X9⟩]->aLp KZ c Q ⟨T,σ⟩:=by
 intro a1 a2 a3 X9 Vl;revert X9 Vl;refine WK.partial_correctness a1 a2 a3 _ ?_;intro WK IH X9 Vl out H c hc Q tt0 b1 hE hR T σ tt z0v0 tT hX hF;refine lpy hc rfl fun q=>go ?_;refine cdp H (fun h H=>?_) (fun h H=>?_)
 ·refine go ?_;obtain ⟨x40,g10,H⟩:=bnd H;refine Yc 7 33 40 (.bool x40) (gi q (fun q=>?_) (fun q=>?_)) (fun J=>?_)
  ·rw [if_pos (dt q)] at g10;obtain ⟨x37,f1,g10⟩:=bil (g:=KY) Fm.X7 g10;refine go1 ?_;obtain ⟨x39,hx39,g10⟩:=bnd g10;refine cl (V2 x37 _ hx39) ?_;refine go ?_;exact Yr 33 g10
  ·rw [if_neg (df q)] at g10;refine go ?_;exact Yr 33 g10
  refine go ?_;obtain ⟨Bw,j13,H⟩:=bnd H;refine Wq (fun s'=>∃(T:TT) (ss1 tt1:Sto),s'=⟨T,ss1⟩/\(T 0=z0v0/\T 2=sf KY a2/\T 3=i6 a3/\T 5=.ptr b1 0/\T 9=i6 Vl/\T 10=i6 Bw)/\Tau tt0 [] tt1/\Fx tt1 ss1 [(b1,⟨26,5,[i6 a1.kind,.str a1.name,i6 a1.num,sf cI a1.sc,sf KY a1.kids]⟩)] [⟨z0v0,3,1,rws cI X9⟩]) (cdb j13 (fun h j13=>?_) (fun h j13=>?_)) ?_
  ·refine go ?_;have e:=pur j13;subst e;exact ⟨_,_,_,rfl,S,hX,hF⟩
  ·refine go ?_;have e:=pur j13;subst e;exact ⟨_,_,_,rfl,S,hX,hF⟩
  ·rintro s' ⟨T14,s15,t16,rfl,tT,hX,hF⟩;obtain ⟨x47,f1,H⟩:=bil (g:=KY) Fm.X7 H;refine go1 ?_;obtain ⟨x51,hx51,H⟩:=bnd H;refine cx (F5 X9 x47 a2 Bw _ hx51  z0v0 _ (pre 0 0 1 hF hX)) ?_;rintro v17 s18 ⟨t19,_,rfl,hT,hG⟩;obtain ⟨t20,hX,hF⟩:=aft 0 0 1 hF hX hT hG;refine go ?_;exact IH  x51 (i64.wrap (Vl+1)) _ H _ rfl Q tt0 b1 hE hR _ _ _ v17 S hX hF
 ·refine go ?_;exact wq (hE _ (pur H).symm _ _ _ z0v0 S hX hF)
theorem BT:∀(a0:List Int) (a1:Fm) (a2:List Fm) (a3:Int) r,Iv a0 a1 a2 a3=some r->∀  (p0:AV) (σ:Sto),Pre σ [] [⟨p0,3,1,rws cI a0⟩]->Ctr KZ 172 [p0,.agg (KY a1),sf KY a2,i6 a3] σ (fun r' ss'=>∃(tt':Sto),r'=sf cI r/\Tau (strip σ [⟨p0,3,1,rws cI a0⟩]) [] tt'/\Fx tt' ss' [] []):=by
 intro a0 a1 a2 a3 r H;intro  p0 σ hP;unfold Iv at H;refine hdg mixed Tryz.func172 (rs:=[.tmp 8]) fun q tT=>?_;obtain ⟨hF,hX⟩:=hP.start;generalize strip σ [⟨p0,3,1,rws cI a0⟩]=tt0 at hF hX ⊢;refine go ?_;refine Ya hF rfl fun b1 ss2 hF=>?_;refine go ?_;refine bp H (B1 a1 a2) fun x13 h H=>cl h ?_;refine go ?_;obtain ⟨AW,j4,H⟩:=bnd H;refine Wq (fun s'=>∃(T:TT) (ss1 tt1:Sto) (y3v0:AV),s'=⟨T,ss1⟩/\(T 0=y3v0/\T 2=sf KY a2/\T 3=i6 a3/\T 5=.ptr b1 0)/\Tau tt0 [] tt1/\Fx tt1 ss1 [(b1,⟨26,5,[i6 a1.kind,.str a1.name,i6 a1.num,sf cI a1.sc,sf KY a1.kids]⟩)] [⟨y3v0,3,1,rws cI AW⟩]) (cdb j4 (fun h j4=>?_) (fun h j4=>?_)) ?_
 ·refine go ?_;refine apd (g:=cI) hF 0 j4 (rdo (c:=true) (g:=cI) (fun _=>rfl)) fun x17 j4 v5 ss6 hF=>?_;refine go ?_;have e:=pur j4;subst e;exact ⟨_,_,_,v5,rfl,S,hX,hF⟩
 ·refine go ?_;have e:=pur j4;subst e;exact ⟨_,_,_,p0,rfl,S,hX,hF⟩
 ·rintro s' ⟨T7,s8,t9,y3v0,rfl,tT,hX,hF⟩;refine go ?_;obtain ⟨o21,ho21,H⟩:=bnd H;refine F4 a1 a2 a3 AW 0 _ ho21 _ rfl _ tt0 b1 ?_ ?_ _ _ _ y3v0 S hX hF
  ·intro D4 he T23 s24 t25 e22v0 tT hX hF;have he:=he.symm;subst he;refine go ?_;have e:=pur H;subst e;exact rg _ ⟨_,rfl,hX,K4 _⟩
  ·trivial
theorem OV:∀(a0:Fm) (a1 x25:List Fm) (YX:Int) out,Hs a0 a1 x25 YX=some out->∀c,Yg Tryz.f150 0=some c->∀(Q:QT) (tt:Sto) (b1:Nat),(∀(_u:Unit),out=Sum.inr ()->∀(T:TT) (σ:Sto),T 1=sf KY a1/\T 2=.ptr b1 0/\T 5=sf KY x25->Fx tt σ [(b1,⟨26,5,[i6 a0.kind,.str a0.name,i6 a0.num,sf cI a0.sc,sf KY a0.kids]⟩)] []->Q (.ex 0) ⟨T,σ⟩)->(∀r,out=Sum.inl r->∀s',I7 KZ [.tmp 4] (fun r' ss'=>r'=.bool r/\ss'=tt) s'->Q .ret s')->∀(T:TT) (σ:Sto),T 1=sf KY a1/\T 2=.ptr b1 0/\T 5=sf KY x25/\T 6=i6 YX->Fx tt σ [(b1,⟨26,5,[i6 a0.kind,.str a0.name,i6 a0.num,sf cI a0.sc,sf KY a0.kids]⟩)] []->aLp KZ c Q ⟨T,σ⟩:=by
 intro a0 a1 x25 YX;revert YX;refine Hs.partial_correctness a0 a1 x25 _ ?_;intro Hs IH YX out H c hc Q tt b1 hE hR T σ tT hF;refine lpx tt hc rfl fun q hX=>go ?_;refine cdp H (fun h H=>?_) (fun h H=>?_)
 ·refine go ?_;refine Yj E0 [.v,.v,.v,.v,.v,.v,.v,.v] (by kernel_rfl) ?_;obtain ⟨x34,f1,H⟩:=bls (g:=KY) Fm.X7 (lo:=none) (hi:=some (i6 YX)) rfl rfl H;obtain ⟨x37,f2,H⟩:=bil (g:=KY) Fm.X7 H;refine go2 ?_;refine bp H (CT x34 x37) fun x39 h H=>cv h ?_;refine go ?_;refine cdb H (fun h H=>?_) (fun h H=>?_)
  ·refine go ?_;exact wq (hR _ (pur H).symm _ (rt _))
  ·refine go ?_;exact IH  (i64.wrap (YX+1)) _ H _ rfl Q tt b1 hE hR _ _  S hF
 ·refine go ?_;exact wq (hE () (pur H).symm _ _  S hF)
theorem OW:∀(a0:Fm) (x25:List Fm) (x43:List Int) (Jg:Int) out,Ht a0 x25 x43 Jg=some out->∀c,Yg Tryz.f150 1=some c->∀(Q:QT) (tt:Sto) (b1:Nat),(∀(_u:Unit),out=Sum.inr ()->∀(T:TT) (σ:Sto),T 5=sf KY x25->Fx tt σ [(b1,⟨26,5,[i6 a0.kind,.str a0.name,i6 a0.num,sf cI a0.sc,sf KY a0.kids]⟩)] []->Q (.ex 2) ⟨T,σ⟩)->(∀r,out=Sum.inl r->∀s',I7 KZ [.tmp 4] (fun r' ss'=>r'=.bool r/\ss'=tt) s'->Q .ret s')->∀(T:TT) (σ:Sto),T 5=sf KY x25/\T 7=sf cI x43/\T 8=i6 Jg->Fx tt σ [(b1,⟨26,5,[i6 a0.kind,.str a0.name,i6 a0.num,sf cI a0.sc,sf KY a0.kids]⟩)] []->aLp KZ c Q ⟨T,σ⟩:=by
 intro a0 x25 x43 Jg;revert Jg;refine Ht.partial_correctness a0 x25 x43 _ ?_;intro Ht IH Jg out H c hc Q tt b1 hE hR T σ tT hF;refine lpx tt hc rfl fun q hX=>go ?_;refine cdp H (fun h H=>?_) (fun h H=>?_)
 ·obtain ⟨x52,f1,H⟩:=bil (g:=cI) (fun _=>rfl) H;refine go1 ?_;refine go ?_;refine cdp H (fun h H=>?_) (fun h H=>?_)
  ·refine go ?_;exact wq (hR _ (pur H).symm _ (rt _))
  ·refine go ?_;exact IH  (i64.wrap (Jg+1)) _ H _ rfl Q tt b1 hE hR _ _  S hF
 ·refine go ?_;exact wq (hE () (pur H).symm _ _  S hF)
theorem T1:∀(a0:Fm) (a1:List Fm) r,ER a0 a1=some r->VK KZ 150 [.agg (KY a0),sf KY a1] (.bool r):=by
 intro a0 a1 r H;intro σ;unfold ER at H;refine hdg mixed Tryz.func150 (rs:=[.tmp 4]) fun q tT=>?_;have hF:=K2 σ;have hX:=Tau.none σ;refine go ?_;refine Ya hF rfl fun b1 ss2 hF=>?_;refine go ?_;refine bp H (Y8 a0) fun x10 h H=>cl h ?_;refine go ?_;obtain ⟨x16,g3,H⟩:=bnd H;refine Yc 3 13 16 (.bool x16) (giN q (fun q=>?_) (fun q=>?_)) (fun J=>?_)
 ·rw [if_neg (dbf q)] at g3;refine go ?_;obtain ⟨x14,hx14,g3⟩:=bnd g3;refine cl (CU a1 _ hx14) ?_;refine go ?_;exact Yr 13 g3
 ·rw [if_pos (dbt q)] at g3;refine go ?_;exact Yr 13 g3
 refine go ?_;obtain ⟨x21,g5,H⟩:=bnd H;refine Yc 3 18 21 (.bool x21) (giN q (fun q=>?_) (fun q=>?_)) (fun J=>?_)
 ·rw [if_neg (dbf q)] at g5;refine go ?_;obtain ⟨x19,hx19,g5⟩:=bnd g5;refine cl (OZ a0 _ hx19) ?_;refine go ?_;exact Yr 18 g5
 ·rw [if_pos (dbt q)] at g5;refine go ?_;exact Yr 18 g5
 refine go ?_;refine cdb H (fun h H=>?_) (fun h H=>?_)
 ·refine go ?_;have e:=pur H;subst e;exact rt _
 ·have hF:=hF.lit 26 5 (rws KY []) rfl;refine go ?_;obtain ⟨x25,hx25,H⟩:=bnd H;refine cx (Dk [] a0 a1 _ hx25  (.sl true (rws KY [])) _ (pre 0 0 1 hF hX)) ?_;rintro _ s7 ⟨t8,rfl,hT,hG⟩;have hF:=DL 0 1 hF hX hT hG;refine go ?_;obtain ⟨o10,ho10,H⟩:=bnd H;refine OV a0 a1 x25 0 _ ho10 _ rfl _ _ b1 ?_ ?_ _ _  S hF
  ·intro _ he T12 s13 tT hF;have he:=he.symm;subst he
   try dsimp only at H
   have hF:=hF.lit 3 1 (rws cI []) rfl;refine go ?_;obtain ⟨x43,hx43,H⟩:=bnd H;refine cx (BT [] a0 a1 0 _ hx43  (.sl true (rws cI [])) _ (pre 0 0 1 hF hX)) ?_;rintro _ s15 ⟨t16,rfl,hT,hG⟩;have hF:=DL 0 1 hF hX hT hG;refine go ?_;obtain ⟨o18,ho18,H⟩:=bnd H;refine OW a0 x25 x43 0 _ ho18 _ rfl _ _ b1 ?_ ?_ _ _  S hF
   ·intro _ he T20 s21 tT hF;have he:=he.symm;subst he
    try dsimp only at H
    refine go ?_;have e:=pur H;subst e;exact rt _
   ·intro r hr s' hs;subst hr;have e:=pur H;subst e;exact hsq hs
  ·intro r hr s' hs;subst hr;have e:=pur H;subst e;exact hsq hs
theorem LR:∀(a0:Fm) (x14:List Fm) (x18:List Int) (X9:List Hit) (Yh:Int) out,WI a0 x14 x18 X9 Yh=some out->∀c,Yg Tryz.f152 0=some c->∀(Q:QT) (tt:Sto) (b1:Nat),(∀(Vu:List Hit),out=Vu->∀(T:TT) (σ:Sto) (e0v0:AV),T 5=e0v0->Fx tt σ [(b1,⟨26,5,[i6 a0.kind,.str a0.name,i6 a0.num,sf cI a0.sc,sf KY a0.kids]⟩)] [⟨e0v0,195,12,rws K1 Vu⟩]->Q (.ex 0) ⟨T,σ⟩)->True->∀(T:TT) (σ:Sto) (z0v0:AV),T 5=z0v0/\T 6=sf KY x14/\T 7=sf cI x18/\T 8=i6 Yh->Fx tt σ [(b1,⟨26,5,[i6 a0.kind,.str a0.name,i6 a0.num,sf cI a0.sc,sf KY a0.kids]⟩)] [⟨z0v0,195,12,rws K1 X9⟩]->aLp KZ c Q ⟨T,σ⟩:=by
 intro a0 x14 x18 X9 Yh;revert X9 Yh;refine WI.partial_correctness a0 x14 x18 _ ?_;intro WI IH X9 Yh out H c hc Q tt b1 hE hR T σ z0v0 tT hF;refine lpx tt hc rfl fun q hX=>go ?_;refine cdp H (fun h H=>?_) (fun h H=>?_)
 ·refine go ?_;refine Yj E0 [.v,.v,.v,.v,.v,.v,.v,.v,.v,.x,.z] (by kernel_rfl) ?_;obtain ⟨x27,f1,H⟩:=bil (g:=KY) Fm.X7 H;obtain ⟨x31,f2,H⟩:=bil (g:=cI) (fun _=>rfl) H;refine go2 ?_;refine Hg hF rfl fun b9 s10 hF=>?_;refine go ?_;refine st hF 0 rfl fun s11 hF=>?_;refine go ?_;refine cdp H (fun h H=>?_) (fun h H=>?_)
  ·obtain ⟨x39,f1,H⟩:=bil (g:=KY) Fm.X7 H;refine go1 ?_;refine st hF 0 rfl fun s12 hF=>?_;refine go ?_;refine apw (g:=K1) (rows:=[[i6 x27.kind,.str x27.name,i6 x27.num,sf cI x27.sc,sf KY x27.kids,i6 x31,i6 x39.kind,.str x39.name,i6 x39.num,sf cI x39.sc,sf KY x39.kids,.Yd]]) hF 0 H Hit.X7 true rfl (by simp only [sf,i6,zB,Vm,VR,cI,cU,cS,cL,Hit.Yb,Fm.Yb,Zn,Zo,Fm.num,Fm.sc,Zp,Ze,Za,Zq,Zf,Zg,Zw,Zh,Zr,Zs,Zi,Zj,Zk,Zt,Zl,Zb,Zx,Zu,Zy,Zv,Qr,K7,KI,Kh,QS];exact (.cons (.refl _) id (.cons (.refl _) id (.cons (.refl _) id (.cons (.refl _) id (.cons (.refl _) id (.cons (.refl _) id (.cons (.refl _) id (.cons (.refl _) id (.cons (.refl _) id (.cons (.refl _) id (.cons (.refl _) id (.cons .Yd (fun _=>rfl) .nil))))))))))))) fun x45 H v13 s14 hF=>?_;refine go ?_;exact IH  x45 (i64.wrap (Yh+1)) _ H _ rfl Q tt b1 hE hR _ _ v13 S (hF.drop 1 0)
  ·refine go ?_;refine apw (g:=K1) (rows:=[[i6 x27.kind,.str x27.name,i6 x27.num,sf cI x27.sc,sf KY x27.kids,i6 x31,i6 0,.str zB,i6 0,.Yd,.Yd,.Yd]]) hF 0 H Hit.X7 true rfl (by simp only [sf,i6,zB,Vm,VR,cI,cU,cS,cL,Hit.Yb,Fm.Yb,Zn,Zo,Fm.num,Fm.sc,Zp,Ze,Za,Zq,Zf,Zg,Zw,Zh,Zr,Zs,Zi,Zj,Zk,Zt,Zl,Zb,Zx,Zu,Zy,Zv,Qr,K7,KI,Kh,QS];exact (.cons (.refl _) id (.cons (.refl _) id (.cons (.refl _) id (.cons (.refl _) id (.cons (.refl _) id (.cons (.refl _) id (.cons (.refl _) id (.cons (.refl _) id (.cons (.refl _) id (.cons .Yd (fun _=>rfl) (.cons .Yd (fun _=>rfl) (.cons .Yd (fun _=>rfl) .nil))))))))))))) fun Qh4 H v15 s16 hF=>?_;refine go ?_;exact IH  Qh4 (i64.wrap (Yh+1)) _ H _ rfl Q tt b1 hE hR _ _ v15 S (hF.drop 1 0)
 ·refine go ?_;exact wq (hE _ (pur H).symm _ _ z0v0 S hF)
theorem O2:∀(a0:Fm) (a1:List Fm) r,BL a0 a1=some r->VK KZ 152 [.agg (KY a0),sf KY a1] (sf K1 r):=by
 intro a0 a1 r H;intro σ;unfold BL at H;refine hdg mixed Tryz.func152 (rs:=[.tmp 4]) fun q tT=>?_;have hF:=K2 σ;have hX:=Tau.none σ;refine go ?_;refine Ya hF rfl fun b1 ss2 hF=>?_;have hF:=hF.lit 26 5 (rws KY []) rfl;refine go ?_;obtain ⟨x14,hx14,H⟩:=bnd H;refine cx (Dk [] a0 a1 _ hx14  (.sl true (rws KY [])) _ (pre 0 0 1 hF hX)) ?_;rintro _ ss3 ⟨tt4,rfl,hT,hG⟩;have hF:=DL 0 1 hF hX hT hG;have hF:=hF.lit 3 1 (rws cI []) rfl;refine go ?_;obtain ⟨x18,hx18,H⟩:=bnd H;refine cx (BT [] a0 a1 0 _ hx18  (.sl true (rws cI [])) _ (pre 0 0 1 hF hX)) ?_;rintro _ ss6 ⟨t7,rfl,hT,hG⟩;have hF:=DL 0 1 hF hX hT hG;have hF:=hF.lit 195 12 (rws K1 []) rfl;refine go ?_;obtain ⟨o17,ho17,H⟩:=bnd H;refine LR a0 x14 x18 [] 0 _ ho17 _ rfl _ _ b1 ?_ ?_ _ _ (.sl true (rws K1 [])) S hF
 ·intro Qli he T19 s20 e18v0 tT hF;have he:=he.symm;subst he;refine go ?_;have e:=pur H;subst e;exact rt _
 ·trivial
theorem MI:∀(a0:List Hit) (a1:Fm) (Yl:Int) out,JG a0 a1 Yl=some out->∀c,Yg Tryz.f195 0=some c->∀(Q:QT) (tt:Sto) (b1:Nat),(∀(_u:Unit),out=Sum.inr ()->∀(T:TT) (σ:Sto),0+0=0->Fx tt σ [(b1,⟨26,5,[i6 a1.kind,.str a1.name,i6 a1.num,sf cI a1.sc,sf KY a1.kids]⟩)] []->Q (.ex 0) ⟨T,σ⟩)->(∀r,out=Sum.inl r->∀s',I7 KZ [.tmp 4] (fun r' ss'=>r'=i6 r/\ss'=tt) s'->Q .ret s')->∀(T:TT) (σ:Sto),T 0=sf K1 a0/\T 3=.ptr b1 0/\T 5=i6 Yl->Fx tt σ [(b1,⟨26,5,[i6 a1.kind,.str a1.name,i6 a1.num,sf cI a1.sc,sf KY a1.kids]⟩)] []->aLp KZ c Q ⟨T,σ⟩:=by
 intro a0 a1 Yl;revert Yl;refine JG.partial_correctness a0 a1 _ ?_;intro JG IH Yl out H c hc Q tt b1 hE hR T σ tT hF;refine lpx tt hc rfl fun q hX=>go ?_;refine cdp H (fun h H=>?_) (fun h H=>?_)
 ·refine go ?_;refine Yj E0 [.v,.v,.v,.v,.v,.v,.v] (by kernel_rfl) ?_;obtain ⟨x14,f1,H⟩:=bil (g:=K1) Hit.X7 H;refine go1 ?_;refine bp H (He x14.name a1) fun x18 h H=>cv h ?_;refine go ?_;refine cdb H (fun h H=>?_) (fun h H=>?_)
  ·refine go ?_;exact wq (hR _ (pur H).symm _ (rt _))
  ·refine go ?_;exact IH  (i64.wrap (Yl+1)) _ H _ rfl Q tt b1 hE hR _ _  S hF
 ·refine go ?_;exact wq (hE () (pur H).symm _ _  S hF)
theorem Fz:∀(a0:List Hit) (a1:Fm) r,AF a0 a1=some r->VK KZ 195 [sf K1 a0,.agg (KY a1)] (i6 r):=by
 intro a0 a1 r H;intro σ;unfold AF at H;refine hdg mixed Tryz.func195 (rs:=[.tmp 4]) fun q tT=>?_;have hF:=K2 σ;have hX:=Tau.none σ;refine go ?_;refine Ya hF rfl fun b1 ss2 hF=>?_;refine go ?_;obtain ⟨o3,ho3,H⟩:=bnd H;refine MI a0 a1 0 _ ho3 _ rfl _ _ b1 ?_ ?_ _ _  S hF
 ·intro _ he T5 ss6 tT hF;have he:=he.symm;subst he
  try dsimp only at H
  refine go ?_;have e:=pur H;subst e;exact rt _
 ·intro r hr s' hs;subst hr;have e:=pur H;subst e;exact hsq hs
theorem EU:∀(a0:List Hit) (a1:Fm) r,AQ a0 a1=some r->VK KZ 174 [sf K1 a0,.agg (KY a1)] (i6 r):=by
 intro a0 a1 r H;intro σ;unfold AQ at H;refine hdg mixed Tryz.func174 (rs:=[.tmp 4]) fun q tT=>?_;have hF:=K2 σ;have hX:=Tau.none σ;refine go ?_;refine Ya hF rfl fun b1 ss2 hF=>?_;refine go ?_;refine cdn H (fun h H=>?_) (fun h H=>?_)
 ·refine go ?_;have e:=pur H;subst e;exact rt _
 ·refine go ?_;refine bp H (Fz a0 a1) fun x11 h H=>cl h ?_;refine go ?_;refine cdp H (fun h H=>?_) (fun h H=>?_)
  ·refine go ?_;have e:=pur H;subst e;exact rt _
  ·obtain ⟨x16,f1,H⟩:=bil (g:=K1) Hit.X7 H;refine go1 ?_;refine go ?_;have e:=pur H;subst e;exact rt _
theorem P5:∀(a0:List Hit) (a1:Fm) r,Iw a0 a1=some r->VK KZ 175 [sf K1 a0,.agg (KY a1)] (.bool r):=by
 intro a0 a1;revert a1;refine Iw.partial_correctness a0 (motive_1:=fun a1 r=>VK KZ 175 [sf K1 a0,.agg (KY a1)] (.bool r)) (motive_2:=fun a1 Yl out=>∀c,Yg Tryz.f175 0=some c->∀(Q:QT) (tt:Sto) (b1:Nat),(∀(_u:Unit),out=Sum.inr ()->∀(T:TT) (σ:Sto),0+0=0->Fx tt σ [(b1,⟨26,5,[i6 a1.kind,.str a1.name,i6 a1.num,sf cI a1.sc,sf KY a1.kids]⟩)] []->Q (.ex 0) ⟨T,σ⟩)->(∀r,out=Sum.inl r->∀s',I7 KZ [.tmp 4] (fun r' ss'=>r'=.bool r/\ss'=tt) s'->Q .ret s')->∀(T:TT) (σ:Sto),T 0=sf K1 a0/\T 3=.ptr b1 0/\T 5=i6 Yl->Fx tt σ [(b1,⟨26,5,[i6 a1.kind,.str a1.name,i6 a1.num,sf cI a1.sc,sf KY a1.kids]⟩)] []->aLp KZ c Q ⟨T,σ⟩) ?_ ?_
 ·intro GI L0 a1 r H;intro σ;refine hdg mixed Tryz.func175 (rs:=[.tmp 4]) fun q tT=>?_;have hF:=K2 σ;have hX:=Tau.none σ;refine go ?_;refine Ya hF rfl fun b1 ss2 hF=>?_;refine go ?_;refine bp H (EU a0 a1) fun x8 h H=>cl h ?_;refine go ?_;refine cdp H (fun h H=>?_) (fun h H=>?_)
  ·refine go ?_;have e:=pur H;subst e;exact rt _
  ·refine go ?_;obtain ⟨o3,ho3,H⟩:=bnd H;refine L0 a1 0 _ ho3 _ rfl _ _ b1 ?_ ?_ _ _  S hF
   ·intro _ he T5 ss6 tT hF;have he:=he.symm;subst he
    try dsimp only at H
    refine go ?_;have e:=pur H;subst e;exact rt _
   ·intro r hr s' hs;subst hr;have e:=pur H;subst e;exact hsq hs
 ·intro Iw GI C0 L0 a1 Yl out H c hc Q tt b1 hE hR T σ tT hF;refine lpx tt hc rfl fun q hX=>go ?_;refine cdp H (fun h H=>?_) (fun h H=>?_)
  ·obtain ⟨x21,f1,H⟩:=bil (g:=KY) Fm.X7 H;refine go1 ?_;refine bp H (C0 x21) fun x23 h H=>cl h ?_;refine go ?_;refine cdb H (fun h H=>?_) (fun h H=>?_)
   ·refine go ?_;exact wq (hR _ (pur H).symm _ (rt _))
   ·refine go ?_;exact L0 a1 (i64.wrap (Yl+1)) _ H _ rfl Q tt b1 hE hR _ _  S hF
  ·refine go ?_;exact wq (hE () (pur H).symm _ _  S hF)
theorem MO:∀(a0 X9:List Hit) (YA:Int) out,JL a0 X9 YA=some out->∀c,Yg Tryz.f176 0=some c->∀(Q:QT) (tt:Sto),(∀(Vu:List Hit),out=Vu->∀(T:TT) (σ:Sto) (e0v0:AV),T 3=e0v0->Fx tt σ [] [⟨e0v0,195,12,rws K1 Vu⟩]->Q (.ex 0) ⟨T,σ⟩)->True->∀(T:TT) (σ:Sto) (z0v0:AV),T 0=sf K1 a0/\T 3=z0v0/\T 4=i6 YA->Fx tt σ [] [⟨z0v0,195,12,rws K1 X9⟩]->aLp KZ c Q ⟨T,σ⟩:=by
 intro a0 X9 YA;revert X9 YA;refine JL.partial_correctness a0 _ ?_;intro JL IH X9 YA out H c hc Q tt  hE hR T σ z0v0 tT hF;refine lpx tt hc rfl fun q hX=>go ?_;refine cdp H (fun h H=>?_) (fun h H=>?_)
 ·refine go ?_;refine Yj E0 [.v,.v,.v,.v,.v,.v,.v,.v,.v,.v,.v,.v,.v,.v,.v,.v,.x,.z] (by kernel_rfl) ?_;obtain ⟨x15,f1,H⟩:=bil (g:=K1) Hit.X7 H;refine go1 ?_;refine Hg hF rfl fun b1 ss2 hF=>?_;refine go ?_;refine st hF 0 rfl fun ss3 hF=>?_;refine go ?_;obtain ⟨M1,j5,H⟩:=bnd H;refine Wq (fun s'=>∃(T:TT) (ss1:Sto),s'=⟨T,ss1⟩/\(T 0=sf K1 a0/\T 3=z0v0/\T 4=i6 YA/\T 5=.ptr b1 0)/\Fx tt ss1 [(b1,⟨195,12,[i6 x15.name.kind,.str x15.name.name,i6 x15.name.num,sf cI x15.name.sc,sf KY x15.name.kids,i6 M1,i6 x15.one.kind,.str x15.one.name,i6 x15.one.num,sf cI x15.one.sc,sf KY x15.one.kids,.Yd]⟩)] [⟨z0v0,195,12,rws K1 X9⟩]) (cdp j5 (fun h j5=>?_) (fun h j5=>?_)) ?_
  ·refine go ?_;refine st hF 0 rfl fun ss6 hF=>?_;refine go ?_;have e:=pur j5;subst e;exact ⟨_,_,rfl,S,hF⟩
  ·refine go ?_;have e:=pur j5;subst e;exact ⟨_,_,rfl,S,hF⟩
  ·rintro s' ⟨T7,s8,rfl,tT,hF⟩;refine go ?_;refine apw (g:=K1) (rows:=[[i6 x15.name.kind,.str x15.name.name,i6 x15.name.num,sf cI x15.name.sc,sf KY x15.name.kids,i6 M1,i6 x15.one.kind,.str x15.one.name,i6 x15.one.num,sf cI x15.one.sc,sf KY x15.one.kids,.Yd]]) hF 0 H Hit.X7 true rfl (by simp only [sf,i6,zB,Vm,VR,cI,cU,cS,cL,Hit.Yb,Fm.Yb,Zn,Zo,Fm.num,Fm.sc,Zp,Ze,Za,Zq,Zf,Zg,Zw,Zh,Zr,Zs,Zi,Zj,Zk,Zt,Zl,Zb,Zx,Zu,Zy,Zv,Qr,K7,KI,Kh,QS];exact (.cons (.refl _) id (.cons (.refl _) id (.cons (.refl _) id (.cons (.refl _) id (.cons (.refl _) id (.cons (.refl _) id (.cons (.refl _) id (.cons (.refl _) id (.cons (.refl _) id (.cons (.refl _) id (.cons (.refl _) id (.cons .Yd (fun _=>rfl) .nil))))))))))))) fun x39 H v10 s11 hF=>?_;refine go ?_;exact IH  x39 (i64.wrap (YA+1)) _ H _ rfl Q tt  hE hR _ _ v10 S (hF.drop 1 0)
 ·refine go ?_;exact wq (hE _ (pur H).symm _ _ z0v0 S hF)
theorem P4:∀(a0:List Hit) r,Bt a0=some r->VK KZ 176 [sf K1 a0] (sf K1 r):=by
 intro a0 r H;intro σ;unfold Bt at H;refine hdg mixed Tryz.func176 (rs:=[.tmp 2]) fun q tT=>?_;have hF:=K2 σ;have hX:=Tau.none σ;have hF:=hF.lit 195 12 (rws K1 []) rfl;refine go ?_;obtain ⟨o12,ho12,H⟩:=bnd H;refine MO a0 [] 0 _ ho12 _ rfl _ _  ?_ ?_ _ _ (.sl true (rws K1 [])) S hF
 ·intro RJ he T14 s15 e13v0 tT hF;have he:=he.symm;subst he;refine go ?_;have e:=pur H;subst e;exact rt _
 ·trivial
theorem T2:∀(a0:Fm) (a1:List Hit) r,Av a0 a1=some r->VK KZ 151 [.agg (KY a0),sf K1 a1] (.bool r):=by
 refine Av.partial_correctness _ (motive_2:=fun a0 a1 Yl out=>∀c,Yg Tryz.f151 0=some c->∀(Q:QT) (tt:Sto) (b1:Nat),(∀(_u:Unit),out=Sum.inr ()->∀(T:TT) (σ:Sto),0+0=0->Fx tt σ [(b1,⟨26,5,[i6 a0.kind,.str a0.name,i6 a0.num,sf cI a0.sc,sf KY a0.kids]⟩)] []->Q (.ex 0) ⟨T,σ⟩)->(∀r,out=Sum.inl r->∀s',I7 KZ [.tmp 4] (fun r' ss'=>r'=.bool r/\ss'=tt) s'->Q .ret s')->∀(T:TT) (σ:Sto),T 1=sf K1 a1/\T 2=.ptr b1 0/\T 5=i6 Yl->Fx tt σ [(b1,⟨26,5,[i6 a0.kind,.str a0.name,i6 a0.num,sf cI a0.sc,sf KY a0.kids]⟩)] []->aLp KZ c Q ⟨T,σ⟩) ?_ ?_
 ·intro GG L0 a0 a1 r H;intro σ;refine hdg mixed Tryz.func151 (rs:=[.tmp 4]) fun q tT=>?_;have hF:=K2 σ;have hX:=Tau.none σ;refine go ?_;refine Ya hF rfl fun b1 ss2 hF=>?_;refine go ?_;refine bp H (V2 a0) fun x7 h H=>cl h ?_;refine go ?_;obtain ⟨x13,g3,H⟩:=bnd H;refine Yc 4 9 13 (.bool x13) (giN q (fun q=>?_) (fun q=>?_)) (fun J=>?_)
  ·rw [if_neg (dbf q)] at g3;refine go ?_;obtain ⟨x11,hx11,g3⟩:=bnd g3;refine cl (EU a1 a0 _ hx11) ?_;refine go ?_;exact Yr 9 g3
  ·rw [if_pos (dbt q)] at g3;refine go ?_;exact Yr 9 g3
  refine go ?_;refine cdb H (fun h H=>?_) (fun h H=>?_)
  ·refine go ?_;have e:=pur H;subst e;exact rt _
  ·refine go ?_;obtain ⟨o11,ho11,H⟩:=bnd H;refine L0 a0 a1 0 _ ho11 _ rfl _ _ b1 ?_ ?_ _ _  S hF
   ·intro _ he T13 s14 tT hF;have he:=he.symm;subst he
    try dsimp only at H
    refine go ?_;have e:=pur H;subst e;exact rt _
   ·intro r hr s' hs;subst hr;have e:=pur H;subst e;exact hsq hs
 ·intro Av GG C0 L0 a0 a1 Yl out H c hc Q tt b1 hE hR T σ tT hF;refine lpx tt hc rfl fun q hX=>go ?_;refine cdp H (fun h H=>?_) (fun h H=>?_)
  ·obtain ⟨x24,f1,H⟩:=bil (g:=KY) Fm.X7 H;refine go1 ?_;refine bp H (V2 x24) fun x26 h H=>cl h ?_;refine go ?_;refine cdb H (fun h H=>?_) (fun h H=>?_)
   ·refine go ?_;obtain ⟨x37,g5,H⟩:=bnd H;refine Yc 7 30 37 (.bool x37) (giN q (fun q=>?_) (fun q=>?_)) (fun J=>?_)
    ·rw [if_neg (df q)] at g5;obtain ⟨x34,f1,g5⟩:=bil (g:=KY) Fm.X7 g5;refine go1 ?_;obtain ⟨x36,hx36,g5⟩:=bnd g5;refine cl (V2 x34 _ hx36) ?_;refine go ?_;exact Yr 30 g5
    ·rw [if_pos (dt q)] at g5;refine go ?_;exact Yr 30 g5
    refine go ?_;refine cdb H (fun h H=>?_) (fun h H=>?_)
    ·refine go ?_;exact wq (hR _ (pur H).symm _ (rt _))
    ·refine go ?_;exact L0 a0 a1 (i64.wrap (Yl+1)) _ H _ rfl Q tt b1 hE hR _ _  S hF
   ·refine go ?_;obtain ⟨x52,g7,H⟩:=bnd H;refine Yc 7 45 52 (.bool x52) (gi q (fun q=>?_) (fun q=>?_)) (fun J=>?_)
    ·rw [if_pos (dt q)] at g7;obtain ⟨x49,f1,g7⟩:=bil (g:=KY) Fm.X7 g7;refine go1 ?_;obtain ⟨x51,hx51,g7⟩:=bnd g7;refine cl (V2 x49 _ hx51) ?_;refine go ?_;exact Yr 45 g7
    ·rw [if_neg (df q)] at g7;refine go ?_;exact Yr 45 g7
    refine go ?_;refine cdb H (fun h H=>?_) (fun h H=>?_)
    ·refine go ?_;refine Yj E0 [.v,.v,.v,.v,.v,.v,.v,.v,.v,.v,.v,.v,.v,.v,.v,.v,.v,.v,.v] (by kernel_rfl) ?_;obtain ⟨x57,f1,H⟩:=bil (g:=KY) Fm.X7 H;refine go1 ?_;refine bp H (P5 a1 x57) fun x59 h H=>cv h ?_;refine go ?_;obtain ⟨x71,g9,H⟩:=bnd H;refine VU 9 62 71 (.bool x71) (tiN q (fun q=>?_) (fun q=>?_)) (fun J=>?_)
     ·rw [if_neg (dbf q)] at g9;obtain ⟨x65,f1,g9⟩:=bil (g:=KY) Fm.X7 g9;refine go1 ?_;obtain ⟨x68,hx68,g9⟩:=bnd g9;refine cv (P4 a1 _ hx68) ?_;refine go ?_;obtain ⟨x69,hx69,g9⟩:=bnd g9;refine cv (C0 x65 x68 _ hx69) ?_;refine go ?_;exact Yr 62 g9
     ·rw [if_pos (dbt q)] at g9;refine go ?_;exact Yr 62 g9
     refine go ?_;refine cdb H (fun h H=>?_) (fun h H=>?_)
     ·refine go ?_;exact wq (hR _ (pur H).symm _ (rt _))
     ·refine go ?_;exact L0 a0 a1 (i64.wrap (Yl+1)) _ H _ rfl Q tt b1 hE hR _ _  S hF
    ·obtain ⟨x75,f1,H⟩:=bil (g:=KY) Fm.X7 H;refine go1 ?_;refine bp H (C0 x75 a1) fun x78 h H=>cl h ?_;refine go ?_;refine cdb H (fun h H=>?_) (fun h H=>?_)
     ·refine go ?_;exact wq (hR _ (pur H).symm _ (rt _))
     ·refine go ?_;exact L0 a0 a1 (i64.wrap (Yl+1)) _ H _ rfl Q tt b1 hE hR _ _  S hF
  ·refine go ?_;exact wq (hE () (pur H).symm _ _  S hF)
theorem P6:∀(a0:Rul) (a1:List Fm) r,Ct a0 a1=some r->VK KZ 125 [.agg (K5 a0),sf KY a1] (.bool r):=by
 intro a0 a1 r H;intro σ;unfold Ct at H;refine hdg mixed Tryz.func125 (rs:=[.tmp 4]) fun q tT=>?_;have hF:=K2 σ;have hX:=Tau.none σ;refine go ?_;refine Ya hF rfl fun b1 ss2 hF=>?_;refine go ?_;refine Yj E0 [.v,.v,.v,.v,.v,.v,.v,.v,.v,.v,.v,.v,.v,.v,.v,.v,.v,.v,.v,.v,.v,.v,.v,.v,.v,.v,.v,.v,.v,.v,.v,.v] (by kernel_rfl) ?_;refine go ?_;refine bp H (T1 a0.pat a1) fun x8 h H=>cv h ?_;refine go ?_;obtain ⟨x14,g3,H⟩:=bnd H;refine VU 4 10 14 (.bool x14) (ti q (fun q=>?_) (fun q=>?_)) (fun J=>?_)
 ·refine go ?_;exact Yr 10 g3
 ·refine go ?_;exact Yr 10 g3
 refine go ?_;obtain ⟨x21,g5,H⟩:=bnd H;refine VU 5 16 21 (.bool x21) (ti q (fun q=>?_) (fun q=>?_)) (fun J=>?_)
 ·refine go ?_;exact Yr 16 g5
 ·refine go ?_;exact Yr 16 g5
 refine go ?_;obtain ⟨x26,g7,H⟩:=bnd H;refine VU 3 23 26 (.bool x26) (ti q (fun q=>?_) (fun q=>?_)) (fun J=>?_)
 ·rw [if_pos (dbt q)] at g7;refine go ?_;obtain ⟨x25,hx25,g7⟩:=bnd g7;refine cv (Y8 a0.tpl _ hx25) ?_;refine go ?_;exact Yr 23 g7
 ·rw [if_neg (dbf q)] at g7;refine go ?_;exact Yr 23 g7
 refine go ?_;obtain ⟨x35,g9,H⟩:=bnd H;refine VU 7 28 35 (.bool x35) (ti q (fun q=>?_) (fun q=>?_)) (fun J=>?_)
 ·rw [if_pos (dbt q)] at g9;refine go ?_;obtain ⟨x33,hx33,g9⟩:=bnd g9;refine cv (O2 a0.pat a1 _ hx33) ?_;refine go ?_;obtain ⟨x34,hx34,g9⟩:=bnd g9;refine cv (T2 a0.tpl x33 _ hx34) ?_;refine go ?_;exact Yr 28 g9
 ·rw [if_neg (dbf q)] at g9;refine go ?_;exact Yr 28 g9
 refine go ?_;have e:=pur H;subst e;exact rt _
theorem LQ:∀(a0:List Rul) (a1:List Fm) (Yl:Int) out,JU a0 a1 Yl=some out->∀c,Yg Tryz.f86 0=some c->∀(Q:QT) (tt:Sto),(∀(_u:Unit),out=Sum.inr ()->∀(T:TT) (σ:Sto),T 0=sf K5 a0/\T 1=sf KY a1->Fx tt σ [] []->Q (.ex 0) ⟨T,σ⟩)->(∀r,out=Sum.inl r->∀s',I7 KZ [.tmp 4] (fun r' ss'=>r'=.bool r/\ss'=tt) s'->Q .ret s')->∀(T:TT) (σ:Sto),T 0=sf K5 a0/\T 1=sf KY a1/\T 5=i6 Yl->Fx tt σ [] []->aLp KZ c Q ⟨T,σ⟩:=by
 intro a0 a1 Yl;revert Yl;refine JU.partial_correctness a0 a1 _ ?_;intro JU IH Yl out H c hc Q tt  hE hR T σ tT hF;refine lpx tt hc rfl fun q hX=>go ?_;obtain ⟨x13,g1,H⟩:=bnd H;refine Yc 2 11 13 (.bool x13) (gi q (fun q=>?_) (fun q=>?_)) (fun J=>?_)
 ·refine go ?_;exact Yr 11 g1
 ·refine go ?_;exact Yr 11 g1
 refine go ?_;refine cdb H (fun h H=>?_) (fun h H=>?_)
 ·obtain ⟨x18,f1,H⟩:=bil (g:=K5) Rul.X7 H;refine go1 ?_;refine bp H (P6 x18 a1) fun x21 h H=>cl h ?_;refine go ?_;refine cdb H (fun h H=>?_) (fun h H=>?_)
  ·refine go ?_;exact wq (hR _ (pur H).symm _ (rt _))
  ·refine go ?_;exact IH  (i64.wrap (Yl+1)) _ H _ rfl Q tt  hE hR _ _  S hF
 ·refine go ?_;exact wq (hE () (pur H).symm _ _  S hF)
theorem Cu:∀(a0:List Rul) (a1:List Fm) r,Ii a0 a1=some r->VK KZ 86 [sf K5 a0,sf KY a1] (.bool r):=by
 intro a0 a1 r H;intro σ;unfold Ii at H;refine hdg mixed Tryz.func86 (rs:=[.tmp 4]) fun q tT=>?_;have hF:=K2 σ;have hX:=Tau.none σ;refine go ?_;obtain ⟨o3,ho3,H⟩:=bnd H;refine LQ a0 a1 0 _ ho3 _ rfl _ _  ?_ ?_ _ _  S hF
 ·intro _ he T5 ss6 tT hF;have he:=he.symm;subst he
  try dsimp only at H
  refine go ?_;obtain ⟨x29,g8,H⟩:=bnd H;refine Yc 2 27 29 (.bool x29) (gi q (fun q=>?_) (fun q=>?_)) (fun J=>?_)
  ·rw [if_pos (dt q)] at g8;refine go ?_;obtain ⟨x28,hx28,g8⟩:=bnd g8;refine cl (CU a1 _ hx28) ?_;refine go ?_;exact Yr 27 g8
  ·rw [if_neg (df q)] at g8;refine go ?_;exact Yr 27 g8
  refine go ?_;have e:=pur H;subst e;exact rt _
 ·intro r hr s' hs;subst hr;have e:=pur H;subst e;exact hsq hs
theorem EI:∀(a0:Fm) (X9:List Fm) (Ym:Int) out,Wv a0 X9 Ym=some out->∀c,Yg Tryz.f198 0=some c->∀(Q:QT) (tt:Sto) (b1:Nat),(∀(Vu:List Fm),out=Vu->∀(T:TT) (σ:Sto) (e0v0:AV),T 1=.ptr b1 0/\T 5=e0v0/\T 6=.sl true (rws K5 [])->Fx tt σ [(b1,⟨26,5,[i6 a0.kind,.str a0.name,i6 a0.num,sf cI a0.sc,sf KY a0.kids]⟩)] [⟨e0v0,26,5,rws KY Vu⟩]->Q (.ex 0) ⟨T,σ⟩)->True->∀(T:TT) (σ:Sto) (z0v0:AV),T 1=.ptr b1 0/\T 5=z0v0/\T 6=.sl true (rws K5 [])/\T 7=i6 Ym->Fx tt σ [(b1,⟨26,5,[i6 a0.kind,.str a0.name,i6 a0.num,sf cI a0.sc,sf KY a0.kids]⟩)] [⟨z0v0,26,5,rws KY X9⟩]->aLp KZ c Q ⟨T,σ⟩:=by
 intro a0 X9 Ym;revert X9 Ym;refine Wv.partial_correctness a0 _ ?_;intro Wv IH X9 Ym out H c hc Q tt b1 hE hR T σ z0v0 tT hF;obtain rfl:=lpe (rfl:Yg Tryz.f198 0=some _) hc;refine Ye ?_;have q:=dum;have hX:=Tau.none tt;obtain ⟨x46,f1,H⟩:=bil (g:=KY) Fm.X7 H;refine go1 ?_;refine go ?_;refine cdp H (fun h H=>?_) (fun h H=>?_)
 ·obtain ⟨x56,f1,H⟩:=bil (g:=KY) Fm.X7 H;obtain ⟨x60,f2,H⟩:=bil (g:=KY) Fm.X7 H;refine go2 ?_;refine bp H (We x60) fun x62 h H=>cl h ?_;refine go ?_;refine apd (g:=KY) hF 0 H (rdo (c:=true) (g:=KY) Fm.X7) fun x64 H v11 s12 hF=>?_;refine go ?_;exact IH  x64 (i64.wrap (Ym+1)) _ H _ rfl Q tt b1 hE hR _ _ v11 S hF
 ·refine go ?_;exact wq (hE _ (pur H).symm _ _ z0v0 S hF)
theorem EJ:∀(a0:Fm) (CP:List Fm) (Gf:List Rul) (Jg:Int) out,Ww a0 CP Gf Jg=some out->∀c,Yg Tryz.f198 1=some c->∀(Q:QT) (tt:Sto) (b1:Nat) (e14v0:AV),(∀(Tq:List Rul),out=Sum.inr Tq->∀(T:TT) (σ:Sto) (e1v1:AV),T 5=e14v0/\T 6=e1v1->Fx tt σ [(b1,⟨26,5,[i6 a0.kind,.str a0.name,i6 a0.num,sf cI a0.sc,sf KY a0.kids]⟩)] [⟨e1v1,116,10,rws K5 Tq⟩,⟨e14v0,26,5,rws KY CP⟩]->Q (.ex 2) ⟨T,σ⟩)->(∀r,out=Sum.inl r->∀s',I7 KZ [.tmp 2,.tmp 3,.tmp 4] (fun r' ss'=>r'=.tup [sf KY r.1,sf K5 r.2.1,.bool r.2.2]/\ss'=tt) s'->Q .ret s')->∀(T:TT) (σ:Sto) (z1v1:AV),T 1=.ptr b1 0/\T 5=e14v0/\T 6=z1v1/\T 8=i6 Jg->Fx tt σ [(b1,⟨26,5,[i6 a0.kind,.str a0.name,i6 a0.num,sf cI a0.sc,sf KY a0.kids]⟩)] [⟨z1v1,116,10,rws K5 Gf⟩,⟨e14v0,26,5,rws KY CP⟩]->aLp KZ c Q ⟨T,σ⟩:=by
 intro a0 CP Gf Jg;revert Gf Jg;refine Ww.partial_correctness a0 CP _ ?_;intro Ww IH Gf Jg out H c hc Q tt b1 e14v0 hE hR T σ z1v1 tT hF;refine lpx tt hc rfl fun q hX=>go ?_;refine cdp H (fun h H=>?_) (fun h H=>?_)
 ·obtain ⟨x75,f1,H⟩:=bil (g:=KY) Fm.X7 H;refine go1 ?_;obtain ⟨x88,g18,H⟩:=bnd H;refine Yc 8 80 88 (.bool x88) (giN q (fun q=>?_) (fun q=>?_)) (fun J=>?_)
  ·rw [if_pos (dnf q)] at g18;obtain ⟨x83,f1,g18⟩:=bil (g:=KY) Fm.X7 g18;refine go1 ?_;refine go ?_;exact Yr 80 g18
  ·rw [if_neg (dnt q)] at g18;refine go ?_;exact Yr 80 g18
  refine go ?_;refine cdb H (fun h H=>?_) (fun h H=>?_)
  ·refine go ?_;exact wq (hR _ (pur H).symm _ (rt _))
  ·refine go ?_;refine Yj E0 [.v,.v,.v,.v,.v,.v,.v,.v,.v,.v,.v,.v,.v,.v,.v,.v,.v,.v,.v,.v,.v,.x,.v] (by kernel_rfl) ?_;obtain ⟨x95,f1,H⟩:=bil (g:=KY) Fm.X7 H;obtain ⟨x98,f2,H⟩:=bil (g:=KY) Fm.X7 H;refine go2 ?_;refine bp H (We x98) fun x100 h H=>cv h ?_;obtain ⟨x104,f1,H⟩:=bil (g:=KY) Fm.X7 H;obtain ⟨x107,f2,H⟩:=bil (g:=KY) Fm.X7 H;refine go2 ?_;refine bp H (We x107) fun x109 h H=>cv h ?_;refine go ?_;refine PD (g:=K5) hF 0 H (rdo (c:=true) (g:=K5) Rul.X7) fun x112 H v20 s21 hF=>?_;refine go ?_;exact IH  x112 (i64.wrap (Jg+1)) _ H _ rfl Q tt b1 e14v0 hE hR _ _ v20 S hF
 ·refine go ?_;exact wq (hE _ (pur H).symm _ _ z1v1 S hF)
theorem LL:∀(a0:Fm) r,H0 a0=some r->VK KZ 198 [.agg (KY a0)] (.tup [sf KY r.1,sf K5 r.2.1,.bool r.2.2]):=by
 intro a0 r H;intro σ;unfold H0 at H;refine hdg mixed Tryz.func198 (rs:=[.tmp 2,.tmp 3,.tmp 4]) fun q tT=>?_;have hF:=K2 σ;have hX:=Tau.none σ;refine go ?_;refine Ya hF rfl fun b1 ss2 hF=>?_;refine go ?_;refine bp H (Y8 a0) fun x12 h H=>cl h ?_;refine go ?_;obtain ⟨x18,g3,H⟩:=bnd H;refine Yc 3 15 18 (.bool x18) (giN q (fun q=>?_) (fun q=>?_)) (fun J=>?_)
 ·refine go ?_;exact Yr 15 g3
 ·refine go ?_;exact Yr 15 g3
 refine go ?_;obtain ⟨x24,g5,H⟩:=bnd H;refine Yc 4 20 24 (.bool x24) (giN q (fun q=>?_) (fun q=>?_)) (fun J=>?_)
 ·refine go ?_;exact Yr 20 g5
 ·refine go ?_;exact Yr 20 g5
 refine go ?_;obtain ⟨x32,g7,H⟩:=bnd H;refine Yc 6 26 32 (.bool x32) (giN q (fun q=>?_) (fun q=>?_)) (fun J=>?_)
 ·rw [if_neg (dbf q)] at g7;obtain ⟨x28,f1,g7⟩:=bil (g:=KY) Fm.X7 g7;refine go1 ?_;refine go ?_;exact Yr 26 g7
 ·rw [if_pos (dbt q)] at g7;refine go ?_;exact Yr 26 g7
 refine go ?_;obtain ⟨x40,g9,H⟩:=bnd H;refine Yc 6 34 40 (.bool x40) (giN q (fun q=>?_) (fun q=>?_)) (fun J=>?_)
 ·rw [if_neg (dbf q)] at g9;obtain ⟨x36,f1,g9⟩:=bil (g:=KY) Fm.X7 g9;refine go1 ?_;refine go ?_;exact Yr 34 g9
 ·rw [if_pos (dbt q)] at g9;refine go ?_;exact Yr 34 g9
 refine go ?_;refine cdb H (fun h H=>?_) (fun h H=>?_)
 ·refine go ?_;have e:=pur H;subst e;exact rt _
 ·have hF:=hF.lit 26 5 (rws KY []) rfl;refine go ?_;obtain ⟨o13,ho13,H⟩:=bnd H;refine EI a0 [] 0 _ ho13 _ rfl _ _ b1 ?_ ?_ _ _ (.sl true (rws KY [])) S hF
  ·intro CP he T15 s16 e14v0 tT hF;have he:=he.symm;subst he;have hF:=hF.lit 116 10 (rws K5 []) rfl;refine go ?_;obtain ⟨o22,ho22,H⟩:=bnd H;refine EJ a0 CP [] 2 _ ho22 _ rfl _ _ b1 e14v0 ?_ ?_ _ _ (.sl true (rws K5 [])) S hF
   ·intro Qbb he T24 s25 e23v1 tT hF;have he:=he.symm;subst he
    try dsimp only at H
    refine go ?_;obtain ⟨x115,hx115,H⟩:=bnd H;refine RC (Cu Qbb CP _ hx115) .bool (.cons ((hF.wk 0 rfl).trans (Wk.sub (Sub.zero _) _)) (fun _=>rfl) (.cons ((hF.wk 1 rfl).trans (Wk.sub (Sub.zero _) _)) (fun _=>rfl) .nil)) ?_;refine go ?_;refine cdb H (fun h H=>?_) (fun h H=>?_)
    ·refine go ?_;have e:=pur H;subst e;exact rt _
    ·refine go ?_;have e:=pur H;subst e;exact rt _
   ·intro r hr s' hs;subst hr;have e:=pur H;subst e;exact hsq hs
  ·trivial
theorem PY:∀(a0:List Bnd) (a1 a2:Fm) r,Cr a0 a1 a2=some r->VK KZ 212 [sf K0 a0,.agg (KY a1),.agg (KY a2)] (.bool r):=by
 intro a0 a1 a2 r H;intro σ;unfold Cr at H;refine hdg mixed Tryz.func212 (rs:=[.tmp 6]) fun q tT=>?_;have hF:=K2 σ;have hX:=Tau.none σ;refine go ?_;refine Ya hF rfl fun b1 ss2 hF=>?_;refine go ?_;refine Ya hF rfl fun b3 ss4 hF=>?_;refine go ?_;refine bp H (Dj a0 a1) fun x14 h H=>cl h ?_;refine go ?_;refine bp H (Dj a0 a2) fun x20 h H=>cl h ?_;refine go ?_;obtain ⟨x29,g5,H⟩:=bnd H;refine Yc 2 27 29 (.bool x29) (giN q (fun q=>?_) (fun q=>?_)) (fun J=>?_)
 ·refine go ?_;exact Yr 27 g5
 ·refine go ?_;exact Yr 27 g5
 refine go ?_;refine cdb H (fun h H=>?_) (fun h H=>?_)
 ·refine go ?_;have e:=pur H;subst e;exact rt _
 ·refine go ?_;refine cdp H (fun h H=>?_) (fun h H=>?_)
  ·refine go ?_;have e:=pur H;subst e;exact rt _
  ·refine go ?_;refine Yj E0 [.v,.v,.v,.v,.v,.v,.v,.v,.v,.v,.v,.v] (by kernel_rfl) ?_;obtain ⟨x39,f1,H⟩:=bil (g:=K0) Bnd.X7 H;obtain ⟨x44,f2,H⟩:=bil (g:=K0) Bnd.X7 H;refine go2 ?_;refine go ?_;have e:=pur H;subst e;exact rt _
theorem NF:∀(a0:Fm) (a2:List (List Hit)) (x17:List Fm) (x21:List Int) (X9:List Hit) (YV:Int) (x30:Fm) (x34:Int) (Gf:List Hit) (IF:Int) out,JI a0 a2 x17 x21 X9 YV x30 x34 Gf IF=some out->∀c,Yg Tryz.f218 1=some c->∀(Q:QT) (tt:Sto) (b1 b9:Nat) (z0v0:AV),(∀(Tq:List Hit),out=Tq->∀(T:TT) (σ:Sto) (e1v1:AV),T 2=sf (cL K1) a2/\T 7=z0v0/\T 8=sf KY x17/\T 9=sf cI x21/\T 10=i6 YV/\T 11=.ptr b9 0->Fx tt σ [(b9,⟨195,12,[i6 x30.kind,.str x30.name,i6 x30.num,sf cI x30.sc,sf KY x30.kids,i6 (i64.wrap (x34+1)),i6 0,.str zB,i6 0,.Yd,.Yd,e1v1]⟩),(b1,⟨26,5,[i6 a0.kind,.str a0.name,i6 a0.num,sf cI a0.sc,sf KY a0.kids]⟩)] [⟨e1v1,195,12,rws K1 Tq⟩,⟨z0v0,195,12,rws K1 X9⟩]->Q (.ex 2) ⟨T,σ⟩)->True->∀(T:TT) (σ:Sto) (z1v1:AV),T 2=sf (cL K1) a2/\T 7=z0v0/\T 8=sf KY x17/\T 9=sf cI x21/\T 10=i6 YV/\T 11=.ptr b9 0/\T 12=i6 IF->Fx tt σ [(b9,⟨195,12,[i6 x30.kind,.str x30.name,i6 x30.num,sf cI x30.sc,sf KY x30.kids,i6 (i64.wrap (x34+1)),i6 0,.str zB,i6 0,.Yd,.Yd,z1v1]⟩),(b1,⟨26,5,[i6 a0.kind,.str a0.name,i6 a0.num,sf cI a0.sc,sf KY a0.kids]⟩)] [⟨z1v1,195,12,rws K1 Gf⟩,⟨z0v0,195,12,rws K1 X9⟩]->aLp KZ c Q ⟨T,σ⟩:=by
 intro a0 a2 x17 x21 X9 YV x30 x34 Gf IF;revert Gf IF;refine JI.partial_correctness a0 a2 x17 x21 X9 YV x30 x34 _ ?_;intro JI IH Gf IF out H c hc Q tt b1 b9 z0v0 hE hR T σ z1v1 tT hF;refine lpx tt hc rfl fun q hX=>go ?_;refine cdp H (fun h H=>?_) (fun h H=>?_)
 ·refine go ?_;refine Yj E0 [.v,.v,.v,.v,.v,.v,.v,.v,.v,.v,.x,.v,.z] (by kernel_rfl) ?_;obtain ⟨x48,f1,H⟩:=bil (g:=(cL K1)) (fun _=>rfl) H;obtain ⟨x51,f2,H⟩:=bil (g:=K1) Hit.X7 H;refine go2 ?_;refine PD (g:=K1) hF 0 H (rdo (c:=true) (g:=K1) Hit.X7) fun x54 H v12 s13 hF=>?_;refine go ?_;refine st hF 0 (hF.cells 0 rfl) fun s14 hF=>?_;refine go ?_;exact IH  x54 (i64.wrap (IF+1)) _ H _ rfl Q tt b1 b9 z0v0 hE hR _ _ v12 S hF
 ·refine go ?_;exact wq (hE _ (pur H).symm _ _ z1v1 S hF)
theorem ND:∀(a0:Fm) (a2:List (List Hit)) (x17:List Fm) (x21:List Int) (X9:List Hit) (YV:Int) out,Gm a0 a2 x17 x21 X9 YV=some out->∀c,Yg Tryz.f218 0=some c->∀(Q:QT) (tt:Sto) (b1:Nat),(∀(Vu:List Hit),out=Vu->∀(T:TT) (σ:Sto) (e0v0:AV),T 7=e0v0->Fx tt σ [(b1,⟨26,5,[i6 a0.kind,.str a0.name,i6 a0.num,sf cI a0.sc,sf KY a0.kids]⟩)] [⟨e0v0,195,12,rws K1 Vu⟩]->Q (.ex 0) ⟨T,σ⟩)->True->∀(T:TT) (σ:Sto) (z0v0:AV),T 2=sf (cL K1) a2/\T 7=z0v0/\T 8=sf KY x17/\T 9=sf cI x21/\T 10=i6 YV->Fx tt σ [(b1,⟨26,5,[i6 a0.kind,.str a0.name,i6 a0.num,sf cI a0.sc,sf KY a0.kids]⟩)] [⟨z0v0,195,12,rws K1 X9⟩]->aLp KZ c Q ⟨T,σ⟩:=by
 intro a0 a2 x17 x21 X9 YV;revert X9 YV;refine Gm.partial_correctness a0 a2 x17 x21 _ ?_;intro Gm IH X9 YV out H c hc Q tt b1 hE hR T σ z0v0 tT hF;refine lpx tt hc rfl fun q hX=>go ?_;refine cdp H (fun h H=>?_) (fun h H=>?_)
 ·refine go ?_;refine Yj E0 [.v,.v,.v,.v,.v,.v,.v,.v,.v,.v,.x,.z] (by kernel_rfl) ?_;obtain ⟨x30,f1,H⟩:=bil (g:=KY) Fm.X7 H;obtain ⟨x34,f2,H⟩:=bil (g:=cI) (fun _=>rfl) H;refine go2 ?_;refine Hg hF rfl fun b9 s10 hF=>?_;refine go ?_;refine st hF 0 rfl fun s11 hF=>?_;have hF:=hF.nil 195 12;refine go ?_;obtain ⟨o15,ho15,H⟩:=bnd H;refine NF a0 a2 x17 x21 X9 YV x30 x34 [] 0 _ ho15 _ rfl _ _ b1 b9 z0v0 ?_ ?_ _ _ .Yd S hF
  ·intro Qba he T17 s18 e16v1 tT hF;have he:=he.symm;subst he;refine go ?_;refine Qte (g:=K1) (rows:=[[i6 x30.kind,.str x30.name,i6 x30.num,sf cI x30.sc,sf KY x30.kids,i6 (i64.wrap (x34+1)),i6 0,.str zB,i6 0,.Yd,.Yd,e16v1]]) hF 1 0 0 H Hit.X7 true rfl (by simp only [sf,i6,zB,Vm,VR,cI,cU,cS,cL,Hit.Yb,Fm.Yb,Zn,Zo,Fm.num,Fm.sc,Zp,Ze,Za,Zq,Zf,Zg,Zw,Zh,Zr,Zs,Zi,Zj,Zk,Zt,Zl,Zb,Zx,Zu,Zy,Zv,Qr,K7,KI,Kh,QS];exact (.wk (.refl _) id (.wk (.refl _) id (.wk (.refl _) id (.wk (.refl _) id (.wk (.refl _) id (.wk (.refl _) id (.wk (.refl _) id (.wk (.refl _) id (.wk (.refl _) id (.wk .Yd (fun _=>rfl) (.wk .Yd (fun _=>rfl) (.own .nil))))))))))))) fun x59 H v20 s21 hF=>?_;refine go ?_;exact IH  x59 (i64.wrap (YV+1)) _ H _ rfl Q tt b1 hE hR _ _ v20 S (hF.drop 1 0)
  ·trivial
 ·refine go ?_;exact wq (hE _ (pur H).symm _ _ z0v0 S hF)
theorem SN:∀(a0:Fm) (a1:List Fm) (a2:List (List Hit)) r,B6 a0 a1 a2=some r->VK KZ 218 [.agg (KY a0),sf KY a1,sf (cL K1) a2] (sf K1 r):=by
 intro a0 a1 a2 r H;intro σ;unfold B6 at H;refine hdg mixed Tryz.func218 (rs:=[.tmp 6]) fun q tT=>?_;have hF:=K2 σ;have hX:=Tau.none σ;refine go ?_;refine Ya hF rfl fun b1 ss2 hF=>?_;have hF:=hF.lit 26 5 (rws KY []) rfl;refine go ?_;obtain ⟨x17,hx17,H⟩:=bnd H;refine cx (Dk [] a0 a1 _ hx17  (.sl true (rws KY [])) _ (pre 0 0 1 hF hX)) ?_;rintro _ ss3 ⟨tt4,rfl,hT,hG⟩;have hF:=DL 0 1 hF hX hT hG;have hF:=hF.lit 3 1 (rws cI []) rfl;refine go ?_;obtain ⟨x21,hx21,H⟩:=bnd H;refine cx (BT [] a0 a1 0 _ hx21  (.sl true (rws cI [])) _ (pre 0 0 1 hF hX)) ?_;rintro _ ss6 ⟨t7,rfl,hT,hG⟩;have hF:=DL 0 1 hF hX hT hG;have hF:=hF.lit 195 12 (rws K1 []) rfl;refine go ?_;obtain ⟨o22,ho22,H⟩:=bnd H;refine ND a0 a2 x17 x21 [] 0 _ ho22 _ rfl _ _ b1 ?_ ?_ _ _ (.sl true (rws K1 [])) S hF
 ·intro Ts he T24 s25 e23v0 tT hF;have he:=he.symm;subst he;refine go ?_;have e:=pur H;subst e;exact rt _
 ·trivial
theorem MJ:∀(a0:List Bnd) (a1 a2 a3:List Fm) (G5 Ia:Int) out,JH a0 a1 a2 a3 G5 Ia=some out->∀c,Yg Tryz.f213 0=some c->∀(Q:QT) (tt:Sto),(∀(Qlc:Int),out=Qlc->∀(T:TT) (σ:Sto),T 0=sf K0 a0/\T 1=sf KY a1/\T 2=sf KY a2/\T 3=sf KY a3/\T 10=.sl true (rws K1 [])/\T 11=i6 Qlc->Fx tt σ [] []->Q (.ex 0) ⟨T,σ⟩)->True->∀(T:TT) (σ:Sto),T 0=sf K0 a0/\T 1=sf KY a1/\T 2=sf KY a2/\T 3=sf KY a3/\T 10=.sl true (rws K1 [])/\T 11=i6 G5/\T 12=i6 Ia->Fx tt σ [] []->aLp KZ c Q ⟨T,σ⟩:=by
 intro a0 a1 a2 a3 G5 Ia;revert G5 Ia;refine JH.partial_correctness a0 a1 a2 a3 _ ?_;intro JH IH G5 Ia out H c hc Q tt  hE hR T σ tT hF;refine lpx tt hc rfl fun q hX=>go ?_;refine cdp H (fun h H=>?_) (fun h H=>?_)
 ·obtain ⟨x32,f1,H⟩:=bil (g:=KY) Fm.X7 H;refine go1 ?_;refine bp H (V2 x32) fun x34 h H=>cl h ?_;refine go ?_;refine cdb H (fun h H=>?_) (fun h H=>?_)
  ·refine go ?_;exact IH  Ia (i64.wrap (Ia+1)) _ H _ rfl Q tt  hE hR _ _  S hF
  ·refine go ?_;exact IH  G5 (i64.wrap (Ia+1)) _ H _ rfl Q tt  hE hR _ _  S hF
 ·refine go ?_;exact wq (hE _ (pur H).symm _ _  S hF)
end Go.Proofs.SA
