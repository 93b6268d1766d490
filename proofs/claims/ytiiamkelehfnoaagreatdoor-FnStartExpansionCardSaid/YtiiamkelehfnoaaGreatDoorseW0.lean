/- Printed by a program of mine: the plain functions that the code computes (D), and the walks that show it (W). -/
import Derived.Test.YtiiamkelehfnoaaGreatDoorGx
import Derived.Test.YtiiamkelehfnoaaGreatDoorSaTy
import Derived.Test.YtiiamkelehfnoaaGreatDoorLg
import Derived.Test.YtiiamkelehfnoaaGreatDoorChecked
import Derived.Lib.Strings
import Derived.Lib.Slices
import Derived.Lib.Walk
import Derived.Lib.Bytealg
import Derived.Test.YtiiamkelehfnoaaGreatDoorseD
set_option maxRecDepth 100000
set_option maxHeartbeats 2000000
set_option linter.unusedSimpArgs false
set_option linter.unusedVariables false
open Go Go.Proofs Go.Proofs.Shadow
open Fm renaming cells → K0, kind → Zp, name → Zq, kids → Zr
open Tryz renaming prog → K1
open _root_.ByteArray renaming mk → Qd
open Bnd renaming cells → K2
open Hit renaming cells → K3, depth → Zc, name → Zg, many → Zh, one → Zs
open Fx renaming refl → K4, self → K6, kept → Zb
open _root_.And renaming intro → K5
open Rul renaming cells → K7
open _root_.List renaming not_mem_nil → KG, mem_cons → Kl, flatten_cons → Qr, flatten_nil → K9, cons_append → Kj, append_nil → KK, nil_append → QU
open EE renaming not → K8, of → Zf, new → Zo
open Xpn renaming cells → Za
open Val renaming items → Zd, kind → Zm, name → Zn, num → Zv, env → Zw, fn → Zz
open Mac renaming cells → Ze
open Cor renaming kind → Zi, name → Zj, data → Zk, kids → Zl, num → Zt, ids → Zu, id → Zy
open Slt renaming val → Zx, id → ZA
open Go.IntKind (i64)
namespace Go.Proofs.SA
theorem U8 (σ:Sto):U7 K1 σ 57 0=some (.agg [.str (Qd #[108,97,109,98,100,97]),.str (Qd #[105,102]),.str (Qd #[113,117,111,116,101]),.str (Qd #[108,101,116]),.str (Qd #[108,101,116,45,115,121,110,116,97,120])]):=by
 have h:Uh K1 0=some [.str (Qd #[108,97,109,98,100,97]),.str (Qd #[105,102]),.str (Qd #[113,117,111,116,101]),.str (Qd #[108,101,116]),.str (Qd #[108,101,116,45,115,121,110,116,97,120])]:=by kernel_rfl
 have h2:tk K1 57=some (true,5):=by kernel_rfl
 rw [U7,h,h2];rfl
theorem Qjx:Qqn K1 57=some 5:=by kernel_rfl
theorem Cg:∀(a0:List Int) r,IU a0=some r->∀   (σ:Sto),Pre σ [] []->Ctr K1 22 [sf cU a0] σ (fun r' ss'=>∃(tt':Sto) (n0:Nat),r'=.ptr n0 0/\Tau (strip σ []) [] tt'/\Fx tt' ss' [(n0,⟨81,2,[sf cU r.b,i6 r.p]⟩)] []):=by
 intro a0 r H;intro   σ hP;unfold IU at H;refine hdg mixed Tryz.func22 (rs:=[.tmp 2]) fun q tT=>?_;obtain ⟨hF,hX⟩:=hP.start;generalize strip σ []=tt0 at hF hX ⊢;refine go ?_;refine cdp H (fun h H=>?_) (fun h H=>?_)
 ·obtain ⟨x7,f1,H⟩:=bls (g:=cU) (fun _=>rfl) (lo:=none) (hi:=some (i6 2000)) rfl rfl H;refine go1 ?_;refine go ?_;refine Ya hF rfl fun b1 ss2 hF=>?_;refine go ?_;have e:=pur H;subst e;exact rg _ ⟨_,_,rfl,hX,hF.pick [0] [] (by decide) (by decide)⟩
 ·refine go ?_;refine Ya hF rfl fun b3 ss4 hF=>?_;refine go ?_;have e:=pur H;subst e;exact rg _ ⟨_,_,rfl,hX,hF.pick [0] [] (by decide) (by decide)⟩
theorem OV:∀  r,CN  = some r->VP K1 96 [] (sf cS r):=by
 intro  r H;intro σ;unfold CN at H;refine hdg mixed Tryz.func96 (rs:=[.tmp 0]) fun q tT=>?_;have hF:=K4 σ;have hX:=Tau.none σ;refine goL ?_;have e:=pur H;subst e;exact rt _
theorem Yw:∀(a1:Int) (c0:Rdr) r,Yv a1 c0=some r->∀(e0:Nat)  (σ:Sto),Pre σ [(e0,⟨81,2,[sf cU c0.b,i6 c0.p]⟩)] []->Ctr K1 23 [.ptr e0 0,i6 a1] σ (fun r' ss'=>∃(tt':Sto),r'=i6 r.1/\Tau (strip σ []) [(e0,⟨81,2,[sf cU r.2.b,i6 r.2.p]⟩)] tt'/\Fx tt' ss' [] []):=by
 intro a1 c0 r H;intro e0  σ hP;unfold Yv at H;refine hdg mixed Tryz.func23 (rs:=[.tmp 4]) fun q tT=>?_;obtain ⟨hF,hX⟩:=hP.start;generalize strip σ []=tt0 at hF hX ⊢;refine go ?_;refine stT hF hX 0 rfl fun tt2 ss1 hF hX=>?_;refine go ?_;obtain ⟨x24,g3,H⟩:=bnd H;refine Yc 6 18 24 (.bool x24) (giN q (fun q=>?_) (fun q=>?_)) (fun J=>?_)
 ·refine go ?_;exact Yt 18 g3
 ·refine go ?_;exact Yt 18 g3
 refine go ?_;refine cdb H (fun h H=>?_) (fun h H=>?_)
 ·refine go ?_;have e:=pur H;subst e;exact rg _ ⟨_,rfl,hX,K6 _⟩
 ·refine go ?_;refine cdp H (fun h H=>?_) (fun h H=>?_)
  ·obtain ⟨x42,f1,H⟩:=bil (g:=cU) (fun _=>rfl) H;obtain ⟨x46,f2,H⟩:=brm H;refine go2 ?_;refine go ?_;have e:=pur H;subst e;exact rg _ ⟨_,rfl,hX,K6 _⟩
  ·refine go ?_;refine Yj E0 [.v,.v,.v,.v,.v,.v,.v,.v,.v,.v,.v,.v,.v,.v,.v,.v,.v,.v,.v,.v,.v,.v,.v,.v,.v,.v,.v,.v,.v,.v,.v,.v,.v,.v,.v,.v,.v,.v,.v,.v,.v,.v,.v,.v,.v,.v] (by kernel_rfl) ?_;obtain ⟨x57,f1,H⟩:=brm H;obtain ⟨x58,f2,H⟩:=bil (g:=cU) (fun _=>rfl) H;obtain ⟨x74,f3,H⟩:=brm H;obtain ⟨x75,f4,H⟩:=bil (g:=cU) (fun _=>rfl) H;obtain ⟨x89,f5,H⟩:=bqu H;refine go5 ?_;obtain ⟨x98,f1,H⟩:=brm H;refine go1 ?_;refine go ?_;have e:=pur H;subst e;exact rg _ ⟨_,rfl,hX,K6 _⟩
theorem Mm:∀(a0:ByteArray) (I2:Int) out,Gm a0 I2=some out->∀c,Yg Tryz.f137 0=some c->∀(Q:QT) (tt:Sto),(∀(Ta:Int),out=Ta->∀(T:TT) (σ:Sto),T 1=i6 Ta->Fx tt σ [] []->Q (.ex 0) ⟨T,σ⟩)->True->∀(T:TT) (σ:Sto),T 0=.str a0/\T 1=i6 I2->Fx tt σ [] []->aLp K1 c Q ⟨T,σ⟩:=by
 intro a0 I2;revert I2;refine Gm.partial_correctness a0 _ ?_;intro Gm IH I2 out H c hc Q tt  hE hR T σ tT hF;refine lpx tt hc rfl fun q hX=>go ?_;obtain ⟨x14,g1,H⟩:=bnd H;refine Yc 4 10 14 (.bool x14) (gi q (fun q=>?_) (fun q=>?_)) (fun J=>?_)
 ·rw [if_pos (dt q)] at g1;obtain ⟨x12,f1,g1⟩:=bsx g1;refine go1 ?_;refine go ?_;exact Yt 10 g1
 ·rw [if_neg (df q)] at g1;refine go ?_;exact Yt 10 g1
 refine go ?_;refine cdb H (fun h H=>?_) (fun h H=>?_)
 ·refine go ?_;exact IH  (i64.wrap (I2+1)) _ H _ rfl Q tt  hE hR _ _  S hF
 ·refine go ?_;exact wq (hE _ (pur H).symm _ _  S hF)
theorem Bu:∀(a0:ByteArray) (a1:Int) r,IX a0 a1=some r->VP K1 137 [.str a0,i6 a1] (i6 r):=by
 intro a0 a1 r H;intro σ;unfold IX at H;refine hdg mixed Tryz.func137 (rs:=[.tmp 4]) fun q tT=>?_;have hF:=K4 σ;have hX:=Tau.none σ;refine go ?_;obtain ⟨o3,ho3,H⟩:=bnd H;refine Mm a0 a1 _ ho3 _ rfl _ _  ?_ ?_ _ _  S hF
 ·intro Qmv he T5 ss6 tT hF;have he:=he.symm;subst he;refine go ?_;have e:=pur H;subst e;exact rt _
 ·trivial
theorem Mn:∀(a0:ByteArray) (I2:Int) out,Gn a0 I2=some out->∀c,Yg Tryz.f177 0=some c->∀(Q:QT) (tt:Sto),(∀(Ta:Int),out=Ta->∀(T:TT) (σ:Sto),T 1=i6 Ta->Fx tt σ [] []->Q (.ex 0) ⟨T,σ⟩)->True->∀(T:TT) (σ:Sto),T 0=.str a0/\T 1=i6 I2->Fx tt σ [] []->aLp K1 c Q ⟨T,σ⟩:=by
 intro a0 I2;revert I2;refine Gn.partial_correctness a0 _ ?_;intro Gn IH I2 out H c hc Q tt  hE hR T σ tT hF;refine lpx tt hc rfl fun q hX=>go ?_;obtain ⟨x14,g1,H⟩:=bnd H;refine Yc 4 10 14 (.bool x14) (gi q (fun q=>?_) (fun q=>?_)) (fun J=>?_)
 ·rw [if_pos (dt q)] at g1;obtain ⟨x12,f1,g1⟩:=bsx g1;refine go1 ?_;refine go ?_;exact Yt 10 g1
 ·rw [if_neg (df q)] at g1;refine go ?_;exact Yt 10 g1
 refine go ?_;obtain ⟨x20,g3,H⟩:=bnd H;refine Yc 4 16 20 (.bool x20) (gi q (fun q=>?_) (fun q=>?_)) (fun J=>?_)
 ·rw [if_pos (dbt q)] at g3;obtain ⟨x18,f1,g3⟩:=bsx g3;refine go1 ?_;refine go ?_;exact Yt 16 g3
 ·rw [if_neg (dbf q)] at g3;refine go ?_;exact Yt 16 g3
 refine go ?_;obtain ⟨x26,g5,H⟩:=bnd H;refine Yc 4 22 26 (.bool x26) (gi q (fun q=>?_) (fun q=>?_)) (fun J=>?_)
 ·rw [if_pos (dbt q)] at g5;obtain ⟨x24,f1,g5⟩:=bsx g5;refine go1 ?_;refine go ?_;exact Yt 22 g5
 ·rw [if_neg (dbf q)] at g5;refine go ?_;exact Yt 22 g5
 refine go ?_;obtain ⟨x32,g7,H⟩:=bnd H;refine Yc 4 28 32 (.bool x32) (gi q (fun q=>?_) (fun q=>?_)) (fun J=>?_)
 ·rw [if_pos (dbt q)] at g7;obtain ⟨x30,f1,g7⟩:=bsx g7;refine go1 ?_;refine go ?_;exact Yt 28 g7
 ·rw [if_neg (dbf q)] at g7;refine go ?_;exact Yt 28 g7
 refine go ?_;refine cdb H (fun h H=>?_) (fun h H=>?_)
 ·refine go ?_;exact IH  (i64.wrap (I2+1)) _ H _ rfl Q tt  hE hR _ _  S hF
 ·refine go ?_;exact wq (hE _ (pur H).symm _ _  S hF)
theorem PI:∀(a0:ByteArray) (a1:Int) r,Cj a0 a1=some r->VP K1 177 [.str a0,i6 a1] (i6 r):=by
 intro a0 a1 r H;intro σ;unfold Cj at H;refine hdg mixed Tryz.func177 (rs:=[.tmp 4]) fun q tT=>?_;have hF:=K4 σ;have hX:=Tau.none σ;refine go ?_;obtain ⟨o9,ho9,H⟩:=bnd H;refine Mn a0 a1 _ ho9 _ rfl _ _  ?_ ?_ _ _  S hF
 ·intro Qgd he T11 s12 tT hF;have he:=he.symm;subst he;refine go ?_;have e:=pur H;subst e;exact rt _
 ·trivial
theorem Mi:∀(x14:Bool) (DS:ByteArray) (Yh YS:Int) out,Gh x14 DS Yh YS=some out->∀c,Yg Tryz.f178 0=some c->∀(Q:QT) (tt:Sto),(∀(Qgb:Int),out=Sum.inr Qgb->∀(T:TT) (σ:Sto),T 4=.bool x14/\T 5=i6 Qgb->Fx tt σ [] []->Q (.ex 0) ⟨T,σ⟩)->(∀r,out=Sum.inl r->∀s',ID K1 [.tmp 2,.tmp 3] (fun r' ss'=>r'=.tup [i6 r.1,.bool r.2]/\ss'=tt) s'->Q .ret s')->∀(T:TT) (σ:Sto),T 0=.str DS/\T 4=.bool x14/\T 5=i6 Yh/\T 6=i6 YS->Fx tt σ [] []->aLp K1 c Q ⟨T,σ⟩:=by
 intro x14 DS Yh YS;revert Yh YS;refine Gh.partial_correctness x14 DS _ ?_;intro Gh IH Yh YS out H c hc Q tt  hE hR T σ tT hF;refine lpx tt hc rfl fun q hX=>go ?_;refine cdp H (fun h H=>?_) (fun h H=>?_)
 ·obtain ⟨x47,f1,H⟩:=bsx H;refine go1 ?_;obtain ⟨x54,g16,H⟩:=bnd H;refine Yc 4 50 54 (.bool x54) (giN q (fun q=>?_) (fun q=>?_)) (fun J=>?_)
  ·rw [if_neg (df q)] at g16;obtain ⟨x52,f1,g16⟩:=bsx g16;refine go1 ?_;refine go ?_;exact Yt 50 g16
  ·rw [if_pos (dt q)] at g16;refine go ?_;exact Yt 50 g16
  refine go ?_;refine cdb H (fun h H=>?_) (fun h H=>?_)
  ·refine go ?_;exact wq (hR _ (pur H).symm _ (rt _))
  ·obtain ⟨x59,f1,H⟩:=bsx H;refine go1 ?_;refine go ?_;exact IH  (i64.wrap ((i64.wrap (Yh * 10))+(i64.wrap (IntKind.u8.wrap (x59 - 48))))) (i64.wrap (YS+1)) _ H _ rfl Q tt  hE hR _ _  S hF
 ·refine go ?_;exact wq (hE _ (pur H).symm _ _  S hF)
theorem Fh:∀(a0:ByteArray) r,Bk a0=some r->VP K1 178 [.str a0] (.tup [i6 r.1,.bool r.2]):=by
 intro a0 r H;intro σ;unfold Bk at H;refine hdg mixed Tryz.func178 (rs:=[.tmp 2,.tmp 3]) fun q tT=>?_;have hF:=K4 σ;have hX:=Tau.none σ;refine go ?_;obtain ⟨x14,g1,H⟩:=bnd H;refine Yc 3 11 14 (.bool x14) (gi q (fun q=>?_) (fun q=>?_)) (fun J=>?_)
 ·rw [if_pos (dt q)] at g1;obtain ⟨x12,f1,g1⟩:=bsx g1;refine go1 ?_;refine go ?_;exact Yt 11 g1
 ·rw [if_neg (df q)] at g1;refine go ?_;exact Yt 11 g1
 refine go ?_;obtain ⟨DS,j4,H⟩:=bnd H;refine Wn (fun s'=>∃(T:TT) (ss1:Sto),s'=⟨T,ss1⟩/\(T 0=.str DS/\T 4=.bool x14)/\Fx σ ss1 [] []) (cdb j4 (fun h j4=>?_) (fun h j4=>?_)) ?_
 ·obtain ⟨x17,f1,j4⟩:=bss (lo:=some (i6 1)) (hi:=none) rfl rfl j4;refine go1 ?_;refine go ?_;have e:=pur j4;subst e;exact ⟨_,_,rfl,S,hF⟩
 ·refine go ?_;have e:=pur j4;subst e;exact ⟨_,_,rfl,S,hF⟩
 ·rintro s' ⟨T5,ss6,rfl,tT,hF⟩;refine go ?_;obtain ⟨x25,g8,H⟩:=bnd H;refine Yc 3 22 25 (.bool x25) (giN q (fun q=>?_) (fun q=>?_)) (fun J=>?_)
  ·refine go ?_;exact Yt 22 g8
  ·refine go ?_;exact Yt 22 g8
  refine go ?_;obtain ⟨x38,g10,H⟩:=bnd H;refine Yc 11 27 38 (.bool x38) (giN q (fun q=>?_) (fun q=>?_)) (fun J=>?_)
  ·rw [if_neg (dbf q)] at g10;obtain ⟨x28,f1,g10⟩:=bsx g10;refine go1 ?_;obtain ⟨x37,g12,g10⟩:=bnd g10;refine Yc 6 31 37 (.bool x37) (gi q (fun q=>?_) (fun q=>?_)) (fun J=>?_)
   ·rw [if_pos (dt q)] at g12;refine go ?_;obtain ⟨x36,g14,g12⟩:=bnd g12;refine Yc 1 35 36 (.bool x36) (giN q (fun q=>?_) (fun q=>?_)) (fun J=>?_)
    ·refine go ?_;exact Yt 35 g14
    ·refine go ?_;exact Yt 35 g14
    refine go ?_;exact Yt 31 g12
   ·rw [if_neg (df q)] at g12;refine go ?_;exact Yt 31 g12
   refine go ?_;exact Yt 27 g10
  ·rw [if_pos (dbt q)] at g10;refine go ?_;exact Yt 27 g10
  refine go ?_;refine cdb H (fun h H=>?_) (fun h H=>?_)
  ·refine go ?_;have e:=pur H;subst e;exact rt _
  ·refine go ?_;obtain ⟨o18,ho18,H⟩:=bnd H;refine Mi x14 DS 0 0 _ ho18 _ rfl _ _  ?_ ?_ _ _  S hF
   ·intro Te he T20 s21 tT hF;have he:=he.symm;subst he
    try dsimp only at H
    refine go ?_;refine cdb H (fun h H=>?_) (fun h H=>?_)
    ·refine go ?_;have e:=pur H;subst e;exact rt _
    ·refine go ?_;have e:=pur H;subst e;exact rt _
   ·intro r hr s' hs;subst hr;have e:=pur H;subst e;exact hsq hs
theorem Mh:∀(a0:ByteArray) (a1:Int) (X9:List ByteArray) (YS Ym:Int) out,Jz a0 a1 X9 YS Ym=some out->∀c,Yg Tryz.f191 0=some c->∀(Q:QT) (tt:Sto),(∀(Vz:List ByteArray),out=Vz->∀(T:TT) (σ:Sto) (e0v0:AV),T 5=e0v0->Fx tt σ [] [⟨e0v0,9,1,rws cS Vz⟩]->Q (.ex 0) ⟨T,σ⟩)->True->∀(T:TT) (σ:Sto) (z0v0:AV),T 0=.str a0/\T 1=.int .u8 a1/\T 5=z0v0/\T 6=i6 YS/\T 7=i6 Ym->Fx tt σ [] [⟨z0v0,9,1,rws cS X9⟩]->aLp K1 c Q ⟨T,σ⟩:=by
 intro a0 a1 X9 YS Ym;revert X9 YS Ym;refine Jz.partial_correctness a0 a1 _ ?_;intro Jz IH X9 YS Ym out H c hc Q tt  hE hR T σ z0v0 tT hF;refine lpx tt hc rfl fun q hX=>go ?_;refine cdp H (fun h H=>?_) (fun h H=>?_)
 ·refine go ?_;obtain ⟨x25,g1,H⟩:=bnd H;refine Yc 5 20 25 (.bool x25) (giN q (fun q=>?_) (fun q=>?_)) (fun J=>?_)
  ·rw [if_neg (df q)] at g1;obtain ⟨x22,f1,g1⟩:=bsx g1;refine go1 ?_;refine go ?_;exact Yt 20 g1
  ·rw [if_pos (dt q)] at g1;refine go ?_;exact Yt 20 g1
  refine go ?_;refine cdb H (fun h H=>?_) (fun h H=>?_)
  ·obtain ⟨x30,f1,H⟩:=bss (lo:=some (i6 YS)) (hi:=some (i6 Ym)) rfl rfl H;refine go1 ?_;refine apd (g:=cS) hF 0 H (rdo (c:=true) (g:=cS) (fun _=>rfl)) fun x32 H v3 ss4 hF=>?_;refine go ?_;exact IH  x32 (i64.wrap (Ym+1)) (i64.wrap (Ym+1)) _ H _ rfl Q tt  hE hR _ _ v3 S hF
  ·refine go ?_;exact IH  X9 YS (i64.wrap (Ym+1)) _ H _ rfl Q tt  hE hR _ _ z0v0 S hF
 ·refine go ?_;exact wq (hE _ (pur H).symm _ _ z0v0 S hF)
theorem PD:∀(a0:ByteArray) (a1:Int) r,Cf a0 a1=some r->VP K1 191 [.str a0,.int .u8 a1] (sf cS r):=by
 intro a0 a1 r H;intro σ;unfold Cf at H;refine hdg mixed Tryz.func191 (rs:=[.tmp 4]) fun q tT=>?_;have hF:=K4 σ;have hX:=Tau.none σ;have hF:=hF.lit 9 1 (rws cS []) rfl;refine go ?_;obtain ⟨o5,ho5,H⟩:=bnd H;refine Mh a0 a1 [] 0 0 _ ho5 _ rfl _ _  ?_ ?_ _ _ (.sl true (rws cS [])) S hF
 ·intro Qpq he T7 s8 e6v0 tT hF;have he:=he.symm;subst he;refine go ?_;have e:=pur H;subst e;exact rt _
 ·trivial
theorem Mk:∀(a0:ByteArray) (a1 Ym:Int) out,WX a0 a1 Ym=some out->∀c,Yg Tryz.f179 0=some c->∀(Q:QT) (tt:Sto),(∀(Qgc:Int),out=Qgc->∀(T:TT) (σ:Sto),T 0=.str a0/\T 1=i6 a1/\T 6=.sl true (rws cI [])/\T 7=i6 Qgc->Fx tt σ [] []->Q (.ex 0) ⟨T,σ⟩)->True->∀(T:TT) (σ:Sto),T 0=.str a0/\T 1=i6 a1/\T 6=.sl true (rws cI [])/\T 7=i6 Ym->Fx tt σ [] []->aLp K1 c Q ⟨T,σ⟩:=by
 intro a0 a1 Ym;revert Ym;refine WX.partial_correctness a0 a1 _ ?_;intro WX IH Ym out H c hc Q tt  hE hR T σ tT hF;refine lpx tt hc rfl fun q hX=>go ?_;obtain ⟨x35,g3,H⟩:=bnd H;refine Yc 4 31 35 (.bool x35) (gi q (fun q=>?_) (fun q=>?_)) (fun J=>?_)
 ·rw [if_pos (dt q)] at g3;obtain ⟨x33,f1,g3⟩:=bsx g3;refine go1 ?_;refine go ?_;exact Yt 31 g3
 ·rw [if_neg (df q)] at g3;refine go ?_;exact Yt 31 g3
 refine go ?_;refine cdb H (fun h H=>?_) (fun h H=>?_)
 ·refine go ?_;exact IH  (i64.wrap (Ym+1)) _ H _ rfl Q tt  hE hR _ _  S hF
 ·refine go ?_;exact wq (hE _ (pur H).symm _ _  S hF)
theorem Ml:∀(E1:Int) (x48:List ByteArray) (JU:List Int) (H4:Int) out,Gl E1 x48 JU H4=some out->∀c,Yg Tryz.f179 1=some c->∀(Q:QT) (tt:Sto),(∀(Tf:List Int),out=Sum.inr Tf->∀(T:TT) (σ:Sto) (e1v0:AV),T 6=e1v0/\T 7=i6 E1->Fx tt σ [] [⟨e1v0,3,1,rws cI Tf⟩]->Q (.ex 2) ⟨T,σ⟩)->(∀r,out=Sum.inl r->∀s',ID K1 [.tmp 4,.tmp 5] (fun r' ss'=>r'=.tup [sf cI r.1,i6 r.2]/\ss'=tt) s'->Q .ret s')->∀(T:TT) (σ:Sto) (z1v0:AV),T 6=z1v0/\T 7=i6 E1/\T 8=sf cS x48/\T 9=i6 H4->Fx tt σ [] [⟨z1v0,3,1,rws cI JU⟩]->aLp K1 c Q ⟨T,σ⟩:=by
 intro E1 x48 JU H4;revert JU H4;refine Gl.partial_correctness E1 x48 _ ?_;intro Gl IH JU H4 out H c hc Q tt  hE hR T σ z1v0 tT hF;refine lpx tt hc rfl fun q hX=>go ?_;obtain ⟨x56,g10,H⟩:=bnd H;refine Yc 2 54 56 (.bool x56) (gi q (fun q=>?_) (fun q=>?_)) (fun J=>?_)
 ·refine go ?_;exact Yt 54 g10
 ·refine go ?_;exact Yt 54 g10
 refine go ?_;refine cdb H (fun h H=>?_) (fun h H=>?_)
 ·obtain ⟨x62,f1,H⟩:=bil (g:=cS) (fun _=>rfl) H;refine go1 ?_;refine bp H (Fh x62) fun x64 h H=>cl h ?_;refine go ?_;refine cdb H (fun h H=>?_) (fun h H=>?_)
  ·refine go ?_;exact wq (hR _ (pur H).symm _ (rt _))
  ·refine go ?_;refine apd (g:=cI) hF 0 H (rdo (c:=true) (g:=cI) (fun _=>rfl)) fun x73 H v12 s13 hF=>?_;refine go ?_;exact IH  x73 (i64.wrap (H4+1)) _ H _ rfl Q tt  hE hR _ _ v12 S hF
 ·refine go ?_;exact wq (hE _ (pur H).symm _ _ z1v0 S hF)
theorem PG:∀(a0:ByteArray) (a1:Int) r,Ci a0 a1=some r->VP K1 179 [.str a0,i6 a1] (.tup [sf cI r.1,i6 r.2]):=by
 intro a0 a1 r H;intro σ;unfold Ci at H;refine hdg mixed Tryz.func179 (rs:=[.tmp 4,.tmp 5]) fun q tT=>?_;have hF:=K4 σ;have hX:=Tau.none σ;refine go ?_;obtain ⟨x22,g1,H⟩:=bnd H;refine Yc 4 18 22 (.bool x22) (giN q (fun q=>?_) (fun q=>?_)) (fun J=>?_)
 ·rw [if_neg (df q)] at g1;obtain ⟨x20,f1,g1⟩:=bsx g1;refine go1 ?_;refine go ?_;exact Yt 18 g1
 ·rw [if_pos (dt q)] at g1;refine go ?_;exact Yt 18 g1
 refine go ?_;refine cdb H (fun h H=>?_) (fun h H=>?_)
 ·refine go ?_;have e:=pur H;subst e;exact rt _
 ·refine go ?_;obtain ⟨o5,ho5,H⟩:=bnd H;refine Mk a0 a1 a1 _ ho5 _ rfl _ _  ?_ ?_ _ _  S hF
  ·intro E1 he T7 s8 tT hF;have he:=he.symm;subst he;refine go ?_;refine cdp H (fun h H=>?_) (fun h H=>?_)
   ·refine go ?_;have e:=pur H;subst e;exact rt _
   ·obtain ⟨x47,f1,H⟩:=bss (lo:=some (i6 (i64.wrap (a1+1)))) (hi:=some (i6 E1)) rfl rfl H;refine go1 ?_;refine bp H (PD x47 44) fun x48 h H=>cl h ?_;have hF:=hF.lit 3 1 (rws cI []) rfl;refine go ?_;obtain ⟨o14,ho14,H⟩:=bnd H;refine Ml E1 x48 [] 0 _ ho14 _ rfl _ _  ?_ ?_ _ _ (.sl true (rws cI [])) S hF
    ·intro MO he T16 s17 e15v0 tT hF;have he:=he.symm;subst he
     try dsimp only at H
     refine go ?_;have e:=pur H;subst e;exact rt _
    ·intro r hr s' hs;subst hr;have e:=pur H;subst e;exact hsq hs
  ·trivial
theorem PE:∀(a0:ByteArray) (a1:Int) r,Ch a0 a1=some r->VP K1 159 [.str a0,i6 a1] (.tup [.agg (K0 r.1),i6 r.2]):=by
 intro a0 a1 r H;intro σ;unfold Ch at H;refine hdg mixed Tryz.func159 (rs:=[.cell 4 34,.tmp 5]) fun q tT=>?_;have hF:=K4 σ;have hX:=Tau.none σ;refine go ?_;refine Ya hF rfl fun b1 ss2 hF=>?_;refine go ?_;refine bp H (PI a0 a1) fun x14 h H=>cl h ?_;obtain ⟨x18,f1,H⟩:=bss (lo:=some (i6 a1)) (hi:=some (i6 x14)) rfl rfl H;refine go1 ?_;refine go ?_;refine bp H (Fh x18) fun x21 h H=>cl h ?_;refine go ?_;refine cdb H (fun h H=>?_) (fun h H=>?_)
 ·refine go ?_;refine st hF 0 rfl fun ss3 hF=>?_;refine go ?_;have e:=pur H;subst e;exact rt _
 ·refine go ?_;refine cdp H (fun h H=>?_) (fun h H=>?_)
  ·refine go ?_;refine st hF 0 rfl fun ss4 hF=>?_;refine go ?_;have e:=pur H;subst e;exact rt _
  ·refine go ?_;refine bp H (PG a0 x14) fun x34 h H=>cl h ?_;refine go ?_;refine st hF 0 rfl fun ss5 hF=>?_;refine go ?_;have e:=pur H;subst e;exact rt _
theorem PF:∀(a0:ByteArray) (a1 a2:Int) r,IW a0 a1 a2=some r->VP K1 136 [.str a0,i6 a1,i6 a2] (.tup [.agg (K0 r.1),i6 r.2]):=by
 intro a0 a1 a2;revert a1 a2;refine IW.partial_correctness a0 (motive_1:=fun a1 a2 r=>VP K1 136 [.str a0,i6 a1,i6 a2] (.tup [.agg (K0 r.1),i6 r.2])) (motive_2:=fun a2 X9 I2 out=>∀c,Yg Tryz.f136 0=some c->∀(Q:QT) (tt:Sto) (b1 b7:Nat),(∀(Vz:List Fm) (Ta:Int),out=Sum.inr (Vz,Ta)->∀(T:TT) (σ:Sto) (e0v0:AV),T 0=.str a0/\T 1=i6 Ta/\T 6=.ptr b1 0/\T 8=.ptr b7 0->Fx tt σ [(b7,⟨34,5,[i6 3,.str zB,i6 0,.Yd,e0v0]⟩),(b1,⟨34,5,[i6 0,.str zB,i6 0,.Yd,.Yd]⟩)] [⟨e0v0,34,5,rws K0 Vz⟩]->Q (.ex 0) ⟨T,σ⟩)->(∀r,out=Sum.inl r->∀s',ID K1 [.cell 6 34,.tmp 7] (fun r' ss'=>r'=.tup [.agg (K0 r.1),i6 r.2]/\ss'=tt) s'->Q .ret s')->∀(T:TT) (σ:Sto) (z0v0:AV),T 0=.str a0/\T 1=i6 I2/\T 2=i6 a2/\T 6=.ptr b1 0/\T 8=.ptr b7 0->Fx tt σ [(b7,⟨34,5,[i6 3,.str zB,i6 0,.Yd,z0v0]⟩),(b1,⟨34,5,[i6 0,.str zB,i6 0,.Yd,.Yd]⟩)] [⟨z0v0,34,5,rws K0 X9⟩]->aLp K1 c Q ⟨T,σ⟩) ?_ ?_
 ·intro Iy L0 a1 a2 r H;intro σ;refine hdg mixed Tryz.func136 (rs:=[.cell 6 34,.tmp 7]) fun q tT=>?_;have hF:=K4 σ;have hX:=Tau.none σ;refine go ?_;refine Ya hF rfl fun b1 ss2 hF=>?_;refine go ?_;refine bp H (Bu a0 a1) fun x13 h H=>cl h ?_;refine go ?_;obtain ⟨x21,g3,H⟩:=bnd H;refine Yc 2 19 21 (.bool x21) (giN q (fun q=>?_) (fun q=>?_)) (fun J=>?_)
  ·refine go ?_;exact Yt 19 g3
  ·refine go ?_;exact Yt 19 g3
  refine go ?_;refine cdb H (fun h H=>?_) (fun h H=>?_)
  ·refine go ?_;refine st hF 0 rfl fun ss5 hF=>?_;refine go ?_;have e:=pur H;subst e;exact rt _
  ·obtain ⟨x25,f1,H⟩:=bsx H;refine go1 ?_;refine go ?_;refine cdn H (fun h H=>?_) (fun h H=>?_)
   ·refine go ?_;refine bp H (PE a0 x13) fun x29 h H=>cl h ?_;refine go ?_;refine st hF 0 rfl fun ss6 hF=>?_;refine go ?_;have e:=pur H;subst e;exact rt _
   ·refine go ?_;refine Ya hF rfl fun b7 s8 hF=>?_;refine go ?_;refine st hF 0 rfl fun s9 hF=>?_;refine go ?_;obtain ⟨x36,hx36,H⟩:=bnd H;refine cl (Bu a0 (i64.wrap (x13+1)) _ hx36) ?_;have hF:=hF.nil 34 5;refine go ?_;obtain ⟨o21,ho21,H⟩:=bnd H;refine L0 a2 [] x36 _ ho21 _ rfl _ _ b1 b7 ?_ ?_ _ _ .Yd S hF
    ·intro DU Th he T23 s24 e22v0 tT hF;have he:=he.symm;subst he
     try dsimp only at H
     refine go ?_;obtain ⟨x82,g26,H⟩:=bnd H;refine Yc 4 78 82 (.bool x82) (giN q (fun q=>?_) (fun q=>?_)) (fun J=>?_)
     ·rw [if_neg (df q)] at g26;obtain ⟨x80,f1,g26⟩:=bsx g26;refine go1 ?_;refine go ?_;exact Yt 78 g26
     ·rw [if_pos (dt q)] at g26;refine go ?_;exact Yt 78 g26
     refine go ?_;refine cdb H (fun h H=>?_) (fun h H=>?_)
     ·refine go ?_;refine st hF 1 rfl fun s28 hF=>?_;refine go ?_;have e:=pur H;subst e;exact rt _
     ·refine go ?_;refine st hF 1 rfl fun s29 hF=>?_;refine go ?_;have e:=pur H;subst e;exact rt _
    ·intro r hr s' hs;subst hr;have e:=pur H;subst e;exact hsq hs
 ·intro IW Iy C0 L0 a2 X9 I2 out H c hc Q tt b1 b7 hE hR T σ z0v0 tT hF;refine lpx tt hc rfl fun q hX=>go ?_;obtain ⟨x46,g10,H⟩:=bnd H;refine Yc 4 42 46 (.bool x46) (gi q (fun q=>?_) (fun q=>?_)) (fun J=>?_)
  ·rw [if_pos (dt q)] at g10;obtain ⟨x44,f1,g10⟩:=bsx g10;refine go1 ?_;refine go ?_;exact Yt 42 g10
  ·rw [if_neg (df q)] at g10;refine go ?_;exact Yt 42 g10
  refine go ?_;obtain ⟨x52,g12,H⟩:=bnd H;refine Yc 4 48 52 (.bool x52) (gi q (fun q=>?_) (fun q=>?_)) (fun J=>?_)
  ·refine go ?_;exact Yt 48 g12
  ·refine go ?_;exact Yt 48 g12
  refine go ?_;refine cdb H (fun h H=>?_) (fun h H=>?_)
  ·refine go ?_;obtain ⟨x58,hx58,H⟩:=bnd H;refine cl (C0 I2 (i64.wrap (a2 - 1)) _ hx58) ?_;refine go ?_;refine Ya hF rfl fun b14 s15 hF=>?_;refine go ?_;refine st hF 0 rfl fun s16 hF=>?_;refine go ?_;refine cdp H (fun h H=>?_) (fun h H=>?_)
   ·refine go ?_;refine st hF 2 rfl fun s17 hF=>?_;refine go ?_;exact wq (hR _ (pur H).symm _ (rt _))
   ·refine go ?_;refine apd (g:=K0) hF 0 H (rdo (c:=true) (g:=K0) Fm.X6) fun x68 H v18 s19 hF=>?_;refine go ?_;refine st hF 1 (hF.cells 0 rfl) fun s20 hF=>?_;refine go ?_;refine bp H (Bu a0 x58.2) fun x72 h H=>cl h ?_;refine go ?_;exact L0 a2 x68 x72 _ H _ rfl Q tt b1 b7 hE hR _ _ v18 S (hF.drop 1 0)
  ·refine go ?_;exact wq (hE _ _ (pur H).symm _ _ z0v0 S hF)
theorem Na:∀(a0:Int) (a1:Bool) r,Ig a0 a1=some r->VP K1 120 [.int .u8 a0,.bool a1] (.bool r):=by
 intro a0 a1 r H;intro σ;unfold Ig at H;refine hdg mixed Tryz.func120 (rs:=[.tmp 4]) fun q tT=>?_;have hF:=K4 σ;have hX:=Tau.none σ;refine go ?_;obtain ⟨x10,g1,H⟩:=bnd H;refine Yc 2 8 10 (.bool x10) (gi q (fun q=>?_) (fun q=>?_)) (fun J=>?_)
 ·refine go ?_;exact Yt 8 g1
 ·refine go ?_;exact Yt 8 g1
 refine go ?_;obtain ⟨x14,g3,H⟩:=bnd H;refine Yc 2 12 14 (.bool x14) (giN q (fun q=>?_) (fun q=>?_)) (fun J=>?_)
 ·refine go ?_;exact Yt 12 g3
 ·refine go ?_;exact Yt 12 g3
 refine go ?_;obtain ⟨x18,g5,H⟩:=bnd H;refine Yc 2 16 18 (.bool x18) (giN q (fun q=>?_) (fun q=>?_)) (fun J=>?_)
 ·refine go ?_;exact Yt 16 g5
 ·refine go ?_;exact Yt 16 g5
 refine go ?_;obtain ⟨x22,g7,H⟩:=bnd H;refine Yc 2 20 22 (.bool x22) (giN q (fun q=>?_) (fun q=>?_)) (fun J=>?_)
 ·refine go ?_;exact Yt 20 g7
 ·refine go ?_;exact Yt 20 g7
 refine go ?_;obtain ⟨x26,g9,H⟩:=bnd H;refine Yc 2 24 26 (.bool x26) (giN q (fun q=>?_) (fun q=>?_)) (fun J=>?_)
 ·refine go ?_;exact Yt 24 g9
 ·refine go ?_;exact Yt 24 g9
 refine go ?_;obtain ⟨x30,g11,H⟩:=bnd H;refine Yc 2 28 30 (.bool x30) (giN q (fun q=>?_) (fun q=>?_)) (fun J=>?_)
 ·refine go ?_;exact Yt 28 g11
 ·refine go ?_;exact Yt 28 g11
 refine go ?_;refine cdb H (fun h H=>?_) (fun h H=>?_)
 ·refine go ?_;have e:=pur H;subst e;exact rt _
 ·refine go ?_;obtain ⟨x44,g13,H⟩:=bnd H;refine Yc 10 34 44 (.bool x44) (gi q (fun q=>?_) (fun q=>?_)) (fun J=>?_)
  ·rw [if_pos (dbt q)] at g13;refine go ?_;obtain ⟨x39,g15,g13⟩:=bnd g13;refine Yc 2 37 39 (.bool x39) (gi q (fun q=>?_) (fun q=>?_)) (fun J=>?_)
   ·refine go ?_;exact Yt 37 g15
   ·refine go ?_;exact Yt 37 g15
   refine go ?_;obtain ⟨x43,g17,g13⟩:=bnd g13;refine Yc 2 41 43 (.bool x43) (giN q (fun q=>?_) (fun q=>?_)) (fun J=>?_)
   ·refine go ?_;exact Yt 41 g17
   ·refine go ?_;exact Yt 41 g17
   refine go ?_;exact Yt 34 g13
  ·rw [if_neg (dbf q)] at g13;refine go ?_;exact Yt 34 g13
  refine go ?_;have e:=pur H;subst e;exact rt _
theorem E7:∀(a0:ByteArray) (YF:Int) out,VR a0 YF=some out->∀c,Yg Tryz.f94 0=some c->∀(Q:QT) (tt:Sto),(∀(_u:Unit),out=Sum.inr ()->∀(T:TT) (σ:Sto),T 0=.str a0->Fx tt σ [] []->Q (.ex 0) ⟨T,σ⟩)->(∀r,out=Sum.inl r->∀s',ID K1 [.tmp 2] (fun r' ss'=>r'=.bool r/\ss'=tt) s'->Q .ret s')->∀(T:TT) (σ:Sto),T 0=.str a0/\T 3=i6 YF->Fx tt σ [] []->aLp K1 c Q ⟨T,σ⟩:=by
 intro a0 YF;revert YF;refine VR.partial_correctness a0 _ ?_;intro VR IH YF out H c hc Q tt  hE hR T σ tT hF;refine lpx tt hc rfl fun q hX=>go ?_;obtain ⟨x17,g3,H⟩:=bnd H;refine Yc 2 15 17 (.bool x17) (gi q (fun q=>?_) (fun q=>?_)) (fun J=>?_)
 ·refine go ?_;exact Yt 15 g3
 ·refine go ?_;exact Yt 15 g3
 refine go ?_;refine cdb H (fun h H=>?_) (fun h H=>?_)
 ·obtain ⟨x22,f1,H⟩:=bsx H;refine go1 ?_;obtain ⟨x25,hx25,H⟩:=bnd H;refine cl (Na x22 (decide (YF=0)) _ hx25) ?_;refine go ?_;refine cdb H (fun h H=>?_) (fun h H=>?_)
  ·refine go ?_;exact wq (hR _ (pur H).symm _ (rt _))
  ·refine go ?_;exact IH  (i64.wrap (YF+1)) _ H _ rfl Q tt  hE hR _ _  S hF
 ·refine go ?_;exact wq (hE () (pur H).symm _ _  S hF)
theorem Bj:∀(a0:ByteArray) r,Jy a0=some r->VP K1 94 [.str a0] (.bool r):=by
 intro a0 r H;intro σ;unfold Jy at H;refine hdg mixed Tryz.func94 (rs:=[.tmp 2]) fun q tT=>?_;have hF:=K4 σ;have hX:=Tau.none σ;refine go ?_;obtain ⟨x9,g1,H⟩:=bnd H;refine Yc 2 7 9 (.bool x9) (giN q (fun q=>?_) (fun q=>?_)) (fun J=>?_)
 ·refine go ?_;exact Yt 7 g1
 ·refine go ?_;exact Yt 7 g1
 refine go ?_;refine cdb H (fun h H=>?_) (fun h H=>?_)
 ·refine go ?_;have e:=pur H;subst e;exact rt _
 ·refine go ?_;obtain ⟨o5,ho5,H⟩:=bnd H;refine E7 a0 0 _ ho5 _ rfl _ _  ?_ ?_ _ _  S hF
  ·intro _ he T7 s8 tT hF;have he:=he.symm;subst he
   try dsimp only at H
   refine go ?_;obtain ⟨x34,g10,H⟩:=bnd H;refine Yc 3 31 34 (.bool x34) (gi q (fun q=>?_) (fun q=>?_)) (fun J=>?_)
   ·refine go ?_;exact Yt 31 g10
   ·refine go ?_;exact Yt 31 g10
   refine go ?_;have e:=pur H;subst e;exact rt _
  ·intro r hr s' hs;subst hr;have e:=pur H;subst e;exact hsq hs
theorem FG:∀(a0:List Int) (YF:Int) out,VY a0 YF=some out->∀c,Yg Tryz.f95 0=some c->∀(Q:QT) (tt:Sto),(∀(_u:Unit),out=Sum.inr ()->∀(T:TT) (σ:Sto),T 0=sf cI a0->Fx tt σ [] []->Q (.ex 0) ⟨T,σ⟩)->(∀r,out=Sum.inl r->∀s',ID K1 [.tmp 2] (fun r' ss'=>r'=.bool r/\ss'=tt) s'->Q .ret s')->∀(T:TT) (σ:Sto),T 0=sf cI a0/\T 3=i6 YF->Fx tt σ [] []->aLp K1 c Q ⟨T,σ⟩:=by
 intro a0 YF;revert YF;refine VY.partial_correctness a0 _ ?_;intro VY IH YF out H c hc Q tt  hE hR T σ tT hF;refine lpx tt hc rfl fun q hX=>go ?_;obtain ⟨x11,g1,H⟩:=bnd H;refine Yc 2 9 11 (.bool x11) (gi q (fun q=>?_) (fun q=>?_)) (fun J=>?_)
 ·refine go ?_;exact Yt 9 g1
 ·refine go ?_;exact Yt 9 g1
 refine go ?_;refine cdb H (fun h H=>?_) (fun h H=>?_)
 ·refine go ?_;refine Yj E0 [.v,.v,.v,.v,.v,.v,.v,.v,.v,.v,.v,.v,.v,.v,.v,.v,.v,.v,.v,.v,.v,.v,.v,.v,.v,.v,.v,.v] (by kernel_rfl) ?_;obtain ⟨x16,f1,H⟩:=bil (g:=cI) (fun _=>rfl) H;refine go1 ?_;obtain ⟨x25,g3,H⟩:=bnd H;refine V0 5 20 25 (.bool x25) (tiN q (fun q=>?_) (fun q=>?_)) (fun J=>?_)
  ·rw [if_neg (df q)] at g3;obtain ⟨x22,f1,g3⟩:=bil (g:=cI) (fun _=>rfl) g3;refine go1 ?_;refine go ?_;exact Yt 20 g3
  ·rw [if_pos (dt q)] at g3;refine go ?_;exact Yt 20 g3
  refine go ?_;obtain ⟨x41,g5,H⟩:=bnd H;refine V0 14 27 41 (.bool x41) (tiN q (fun q=>?_) (fun q=>?_)) (fun J=>?_)
  ·rw [if_neg (dbf q)] at g5;refine go ?_;obtain ⟨x40,g7,g5⟩:=bnd g5;refine V0 10 30 40 (.bool x40) (ti q (fun q=>?_) (fun q=>?_)) (fun J=>?_)
   ·rw [if_pos (dt q)] at g7;obtain ⟨x32,f1,g7⟩:=bil (g:=cI) (fun _=>rfl) g7;obtain ⟨x37,f2,g7⟩:=bil (g:=cI) (fun _=>rfl) g7;refine go2 ?_;refine go ?_;exact Yt 30 g7
   ·rw [if_neg (df q)] at g7;refine go ?_;exact Yt 30 g7
   refine go ?_;exact Yt 27 g5
  ·rw [if_pos (dbt q)] at g5;refine go ?_;exact Yt 27 g5
  refine go ?_;refine cdb H (fun h H=>?_) (fun h H=>?_)
  ·refine go ?_;exact wq (hR _ (pur H).symm _ (rt _))
  ·refine go ?_;exact IH  (i64.wrap (YF+1)) _ H _ rfl Q tt  hE hR _ _  S hF
 ·refine go ?_;exact wq (hE () (pur H).symm _ _  S hF)
theorem DY:∀(a0:List Int) r,Hj a0=some r->VP K1 95 [sf cI a0] (.bool r):=by
 intro a0 r H;intro σ;unfold Hj at H;refine hdg mixed Tryz.func95 (rs:=[.tmp 2]) fun q tT=>?_;have hF:=K4 σ;have hX:=Tau.none σ;refine go ?_;obtain ⟨o9,ho9,H⟩:=bnd H;refine FG a0 0 _ ho9 _ rfl _ _  ?_ ?_ _ _  S hF
 ·intro _ he T11 s12 tT hF;have he:=he.symm;subst he
  try dsimp only at H
  refine go ?_;have e:=pur H;subst e;exact rt _
 ·intro r hr s' hs;subst hr;have e:=pur H;subst e;exact hsq hs
theorem TR:∀(a0:Fm) (a1:Int) r,Is a0 a1=some r->VP K1 69 [.agg (K0 a0),i6 a1] (.bool r):=by
 refine Is.partial_correctness _ (motive_2:=fun a0 a1 Yh out=>∀c,Yg Tryz.f69 0=some c->∀(Q:QT) (tt:Sto) (b1:Nat),(∀(_u:Unit),out=Sum.inr ()->∀(T:TT) (σ:Sto),0+0=0->Fx tt σ [(b1,⟨34,5,[i6 a0.kind,.str a0.name,i6 a0.num,sf cI a0.sc,sf K0 a0.kids]⟩)] []->Q (.ex 1) ⟨T,σ⟩)->(∀r,out=Sum.inl r->∀s',ID K1 [.tmp 4] (fun r' ss'=>r'=.bool r/\ss'=tt) s'->Q .ret s')->∀(T:TT) (σ:Sto),T 1=i6 a1/\T 2=.ptr b1 0/\T 5=i6 Yh->Fx tt σ [(b1,⟨34,5,[i6 a0.kind,.str a0.name,i6 a0.num,sf cI a0.sc,sf K0 a0.kids]⟩)] []->aLp K1 c Q ⟨T,σ⟩) ?_ ?_
 ·intro Gk L0 a0 a1 r H;intro σ;refine hdg mixed Tryz.func69 (rs:=[.tmp 4]) fun q tT=>?_;have hF:=K4 σ;have hX:=Tau.none σ;refine go ?_;refine Ya hF rfl fun b1 ss2 hF=>?_;refine go ?_;refine cdp H (fun h H=>?_) (fun h H=>?_)
  ·refine go ?_;have e:=pur H;subst e;exact rt _
  ·refine go ?_;refine cdp H (fun h H=>?_) (fun h H=>?_)
   ·refine go ?_;refine bp H (Bj a0.name) fun x14 h H=>cl h ?_;refine go ?_;obtain ⟨x19,g3,H⟩:=bnd H;refine Yc 3 16 19 (.bool x19) (gi q (fun q=>?_) (fun q=>?_)) (fun J=>?_)
    ·refine go ?_;exact Yt 16 g3
    ·refine go ?_;exact Yt 16 g3
    refine go ?_;obtain ⟨x24,g5,H⟩:=bnd H;refine Yc 3 21 24 (.bool x24) (gi q (fun q=>?_) (fun q=>?_)) (fun J=>?_)
    ·rw [if_pos (dbt q)] at g5;refine go ?_;obtain ⟨x23,hx23,g5⟩:=bnd g5;refine cl (DY a0.sc _ hx23) ?_;refine go ?_;exact Yt 21 g5
    ·rw [if_neg (dbf q)] at g5;refine go ?_;exact Yt 21 g5
    refine go ?_;obtain ⟨x30,g7,H⟩:=bnd H;refine Yc 4 26 30 (.bool x30) (gi q (fun q=>?_) (fun q=>?_)) (fun J=>?_)
    ·refine go ?_;exact Yt 26 g7
    ·refine go ?_;exact Yt 26 g7
    refine go ?_;have e:=pur H;subst e;exact rt _
   ·refine go ?_;refine cdp H (fun h H=>?_) (fun h H=>?_)
    ·refine go ?_;obtain ⟨x40,g9,H⟩:=bnd H;refine Yc 3 37 40 (.bool x40) (gi q (fun q=>?_) (fun q=>?_)) (fun J=>?_)
     ·refine go ?_;exact Yt 37 g9
     ·refine go ?_;exact Yt 37 g9
     refine go ?_;obtain ⟨x45,g11,H⟩:=bnd H;refine Yc 3 42 45 (.bool x45) (gi q (fun q=>?_) (fun q=>?_)) (fun J=>?_)
     ·refine go ?_;exact Yt 42 g11
     ·refine go ?_;exact Yt 42 g11
     refine go ?_;obtain ⟨x51,g13,H⟩:=bnd H;refine Yc 4 47 51 (.bool x51) (gi q (fun q=>?_) (fun q=>?_)) (fun J=>?_)
     ·refine go ?_;exact Yt 47 g13
     ·refine go ?_;exact Yt 47 g13
     refine go ?_;obtain ⟨x57,g15,H⟩:=bnd H;refine Yc 4 53 57 (.bool x57) (gi q (fun q=>?_) (fun q=>?_)) (fun J=>?_)
     ·refine go ?_;exact Yt 53 g15
     ·refine go ?_;exact Yt 53 g15
     refine go ?_;have e:=pur H;subst e;exact rt _
    ·refine go ?_;obtain ⟨x65,g17,H⟩:=bnd H;refine Yc 3 62 65 (.bool x65) (giN q (fun q=>?_) (fun q=>?_)) (fun J=>?_)
     ·refine go ?_;exact Yt 62 g17
     ·refine go ?_;exact Yt 62 g17
     refine go ?_;obtain ⟨x70,g19,H⟩:=bnd H;refine Yc 3 67 70 (.bool x70) (giN q (fun q=>?_) (fun q=>?_)) (fun J=>?_)
     ·refine go ?_;exact Yt 67 g19
     ·refine go ?_;exact Yt 67 g19
     refine go ?_;obtain ⟨x76,g21,H⟩:=bnd H;refine Yc 4 72 76 (.bool x76) (giN q (fun q=>?_) (fun q=>?_)) (fun J=>?_)
     ·refine go ?_;exact Yt 72 g21
     ·refine go ?_;exact Yt 72 g21
     refine go ?_;refine cdb H (fun h H=>?_) (fun h H=>?_)
     ·refine go ?_;have e:=pur H;subst e;exact rt _
     ·refine go ?_;obtain ⟨o23,ho23,H⟩:=bnd H;refine L0 a0 a1 0 _ ho23 _ rfl _ _ b1 ?_ ?_ _ _  S hF
      ·intro _ he T25 s26 tT hF;have he:=he.symm;subst he
       try dsimp only at H
       refine go ?_;have e:=pur H;subst e;exact rt _
      ·intro r hr s' hs;subst hr;have e:=pur H;subst e;exact hsq hs
 ·intro Is Gk C0 L0 a0 a1 Yh out H c hc Q tt b1 hE hR T σ tT hF;refine lpx tt hc rfl fun q hX=>go ?_;refine cdp H (fun h H=>?_) (fun h H=>?_)
  ·obtain ⟨x87,f1,H⟩:=bil (g:=K0) Fm.X6 H;refine go1 ?_;obtain ⟨x91,hx91,H⟩:=bnd H;refine cl (C0 x87 (i64.wrap (a1 - 1)) _ hx91) ?_;refine go ?_;refine cdb H (fun h H=>?_) (fun h H=>?_)
   ·refine go ?_;exact wq (hR _ (pur H).symm _ (rt _))
   ·refine go ?_;exact L0 a0 a1 (i64.wrap (Yh+1)) _ H _ rfl Q tt b1 hE hR _ _  S hF
  ·refine go ?_;exact wq (hE () (pur H).symm _ _  S hF)
theorem Ez:∀(a0:Fm) r,Gj a0=some r->VP K1 70 [.agg (K0 a0)] (i6 r):=by
 refine Gj.partial_correctness _ (motive_2:=fun a0 YF YA out=>∀c,Yg Tryz.f70 0=some c->∀(Q:QT) (tt:Sto) (b1:Nat),(∀(Tc:Int),out=Tc->∀(T:TT) (σ:Sto),T 3=i6 Tc->Fx tt σ [(b1,⟨34,5,[i6 a0.kind,.str a0.name,i6 a0.num,sf cI a0.sc,sf K0 a0.kids]⟩)] []->Q (.ex 0) ⟨T,σ⟩)->True->∀(T:TT) (σ:Sto),T 1=.ptr b1 0/\T 3=i6 YF/\T 4=i6 YA->Fx tt σ [(b1,⟨34,5,[i6 a0.kind,.str a0.name,i6 a0.num,sf cI a0.sc,sf K0 a0.kids]⟩)] []->aLp K1 c Q ⟨T,σ⟩) ?_ ?_
 ·intro WA L0 a0 r H;intro σ;refine hdg mixed Tryz.func70 (rs:=[.tmp 2]) fun q tT=>?_;have hF:=K4 σ;have hX:=Tau.none σ;refine go ?_;refine Ya hF rfl fun b1 ss2 hF=>?_;refine go ?_;obtain ⟨o3,ho3,H⟩:=bnd H;refine L0 a0 1 0 _ ho3 _ rfl _ _ b1 ?_ ?_ _ _  S hF
  ·intro UH he T5 ss6 tT hF;have he:=he.symm;subst he;refine go ?_;have e:=pur H;subst e;exact rt _
  ·trivial
 ·intro Gj WA C0 L0 a0 YF YA out H c hc Q tt b1 hE hR T σ tT hF;refine lpx tt hc rfl fun q hX=>go ?_;refine cdp H (fun h H=>?_) (fun h H=>?_)
  ·obtain ⟨x16,f1,H⟩:=bil (g:=K0) Fm.X6 H;refine go1 ?_;refine bp H (C0 x16) fun x18 h H=>cl h ?_;refine go ?_;exact L0 a0 (i64.wrap (YF+x18)) (i64.wrap (YA+1)) _ H _ rfl Q tt b1 hE hR _ _  S hF
  ·refine go ?_;exact wq (hE _ (pur H).symm _ _  S hF)
theorem Va:∀(a0:Fm) r,YW a0=some r->VP K1 44 [.agg (K0 a0)] (.bool r):=by
 intro a0 r H;intro σ;unfold YW at H;refine hdg mixed Tryz.func44 (rs:=[.tmp 2]) fun q tT=>?_;have hF:=K4 σ;have hX:=Tau.none σ;refine go ?_;refine Ya hF rfl fun b1 ss2 hF=>?_;refine go ?_;refine bp H (TR a0 40) fun x4 h H=>cl h ?_;refine go ?_;obtain ⟨x9,g3,H⟩:=bnd H;refine Yc 3 6 9 (.bool x9) (gi q (fun q=>?_) (fun q=>?_)) (fun J=>?_)
 ·rw [if_pos (dbt q)] at g3;refine go ?_;obtain ⟨x7,hx7,g3⟩:=bnd g3;refine cl (Ez a0 _ hx7) ?_;refine go ?_;exact Yt 6 g3
 ·rw [if_neg (dbf q)] at g3;refine go ?_;exact Yt 6 g3
 refine go ?_;have e:=pur H;subst e;exact rt _
theorem Mg:∀(a0:ByteArray) r,Al a0=some r->VP K1 111 [.str a0] (.tup [.agg (K0 r.1),.bool r.2]):=by
 intro a0 r H;intro σ;unfold Al at H;refine hdg mixed Tryz.func111 (rs:=[.cell 2 34,.tmp 3]) fun q tT=>?_;have hF:=K4 σ;have hX:=Tau.none σ;refine go ?_;refine Ya hF rfl fun b1 ss2 hF=>?_;refine go ?_;refine bp H (PF a0 0 40) fun x8 h H=>cl h ?_;refine go ?_;refine Ya hF rfl fun b3 ss4 hF=>?_;refine go ?_;refine st hF 0 rfl fun ss5 hF=>?_;refine go ?_;obtain ⟨x20,g6,H⟩:=bnd H;refine Yc 6 14 20 (.bool x20) (giN q (fun q=>?_) (fun q=>?_)) (fun J=>?_)
 ·rw [if_neg (df q)] at g6;refine go ?_;obtain ⟨x16,hx16,g6⟩:=bnd g6;refine cl (Bu a0 x8.2 _ hx16) ?_;refine go ?_;exact Yt 14 g6
 ·rw [if_pos (dt q)] at g6;refine go ?_;exact Yt 14 g6
 refine go ?_;obtain ⟨x25,g8,H⟩:=bnd H;refine Yc 3 22 25 (.bool x25) (giN q (fun q=>?_) (fun q=>?_)) (fun J=>?_)
 ·rw [if_neg (dbf q)] at g8;refine go ?_;obtain ⟨x23,hx23,g8⟩:=bnd g8;refine cl (Va x8.1 _ hx23) ?_;refine go ?_;exact Yt 22 g8
 ·rw [if_pos (dbt q)] at g8;refine go ?_;exact Yt 22 g8
 refine go ?_;refine cdb H (fun h H=>?_) (fun h H=>?_)
 ·refine go ?_;refine st hF 1 rfl fun s10 hF=>?_;refine go ?_;have e:=pur H;subst e;exact rt _
 ·refine go ?_;refine st hF 1 rfl fun s11 hF=>?_;refine go ?_;have e:=pur H;subst e;exact rt _
theorem EB:∀(a0:ByteArray) r,AE a0=some r->VP K1 87 [.str a0] (.agg (K0 r)):=by
 intro a0 r H;intro σ;unfold AE at H;refine hdg mixed Tryz.func87 (rs:=[.cell 2 34]) fun q tT=>?_;have hF:=K4 σ;have hX:=Tau.none σ;refine go ?_;refine Ya hF rfl fun b1 ss2 hF=>?_;refine go ?_;refine bp H (Mg a0) fun x7 h H=>cl h ?_;refine go ?_;refine Ya hF rfl fun b3 ss4 hF=>?_;refine go ?_;refine st hF 0 rfl fun ss5 hF=>?_;refine go ?_;refine st hF 1 rfl fun ss6 hF=>?_;refine go ?_;have e:=pur H;subst e;exact rt _
theorem Y4:∀(a1:List Int) (c0:Rdr) r,YX a1 c0=some r->∀(e0:Nat)  (σ:Sto),Pre σ [(e0,⟨81,2,[sf cU c0.b,i6 c0.p]⟩)] []->Ctr K1 42 [.ptr e0 0,sf cI a1] σ (fun r' ss'=>∃(tt':Sto),r'=i6 r.1/\Tau (strip σ []) [(e0,⟨81,2,[sf cU r.2.b,i6 r.2.p]⟩)] tt'/\Fx tt' ss' [] []):=by
 intro a1 c0 r H;intro e0  σ hP;unfold YX at H;refine hdg mixed Tryz.func42 (rs:=[.tmp 4]) fun q tT=>?_;obtain ⟨hF,hX⟩:=hP.start;generalize strip σ []=tt0 at hF hX ⊢;refine go ?_;obtain ⟨x9,hx9,H⟩:=bnd H;refine cx (Yw (a1.length:Int) c0 _ hx9 e0  _ (pre 0 1 0 hF hX)) ?_;rintro _ ss1 ⟨tt2,rfl,hT,hG⟩;obtain ⟨tt3,hX,hF⟩:=aft 0 1 0 hF hX hT hG;obtain ⟨x10,f1,H⟩:=bil (g:=cI) (fun _=>rfl) H;refine go1 ?_;refine go ?_;have e:=pur H;subst e;exact rg _ ⟨_,rfl,hX,K6 _⟩
theorem VS:∀(a0:ByteArray) r,VK a0=some r->VP K1 25 [.str a0] (.agg (K0 r)):=by
 intro a0 r H;intro σ;unfold VK at H;refine hdg mixed Tryz.func25 (rs:=[.cell 2 34]) fun q tT=>?_;have hF:=K4 σ;have hX:=Tau.none σ;refine go ?_;refine Ya hF rfl fun b1 ss2 hF=>?_;refine go ?_;refine st hF 0 rfl fun ss3 hF=>?_;refine go ?_;have e:=pur H;subst e;exact rt _
theorem JZ:∀(a1:List ByteArray) (c0:Rdr) r,Wa a1 c0=some r->∀(e0:Nat)  (σ:Sto),Pre σ [(e0,⟨81,2,[sf cU c0.b,i6 c0.p]⟩)] []->Ctr K1 26 [.ptr e0 0,sf cS a1] σ (fun r' ss'=>∃(tt':Sto),r'=.str r.1/\Tau (strip σ []) [(e0,⟨81,2,[sf cU r.2.b,i6 r.2.p]⟩)] tt'/\Fx tt' ss' [] []):=by
 intro a1 c0 r H;intro e0  σ hP;unfold Wa at H;refine hdg mixed Tryz.func26 (rs:=[.tmp 4]) fun q tT=>?_;obtain ⟨hF,hX⟩:=hP.start;generalize strip σ []=tt0 at hF hX ⊢;refine go ?_;obtain ⟨x9,hx9,H⟩:=bnd H;refine cx (Yw (a1.length:Int) c0 _ hx9 e0  _ (pre 0 1 0 hF hX)) ?_;rintro _ ss1 ⟨tt2,rfl,hT,hG⟩;obtain ⟨tt3,hX,hF⟩:=aft 0 1 0 hF hX hT hG;obtain ⟨x10,f1,H⟩:=bil (g:=cS) (fun _=>rfl) H;refine go1 ?_;refine go ?_;have e:=pur H;subst e;exact rg _ ⟨_,rfl,hX,K6 _⟩
theorem WB:∀(a0:List Fm) r,W6 a0=some r->VP K1 98 [sf K0 a0] (.agg (K0 r)):=by
 intro a0 r H;intro σ;unfold W6 at H;refine hdg mixed Tryz.func98 (rs:=[.cell 2 34]) fun q tT=>?_;have hF:=K4 σ;have hX:=Tau.none σ;refine go ?_;refine Ya hF rfl fun b1 ss2 hF=>?_;refine go ?_;refine st hF 0 rfl fun ss3 hF=>?_;refine go ?_;have e:=pur H;subst e;exact rt _
theorem PH:∀(a1:Int) (c0:Rdr) r,Ih a1 c0=some r->∀(e0:Nat)  (σ:Sto),Pre σ [(e0,⟨81,2,[sf cU c0.b,i6 c0.p]⟩)] []->Ctr K1 121 [.ptr e0 0,i6 a1] σ (fun r' ss'=>∃(tt':Sto),r'=.agg (K0 r.1)/\Tau (strip σ []) [(e0,⟨81,2,[sf cU r.2.b,i6 r.2.p]⟩)] tt'/\Fx tt' ss' [] []):=by
 refine Ih.partial_correctness _ (motive_2:=fun a1 X9 YS VW Br out=>∀c,Yg Tryz.f121 0=some c->∀(Q:QT) (tt0:Sto) (e0 b1 b22:Nat),(∀(Vz:List Fm) (B6:List Int) (N5:Int),out=(Vz,B6,N5)->∀(T:TT) (σ tt:Sto) (e0v0:AV),T 4=.ptr b1 0/\T 5=.ptr b22 0->Tau tt0 [(e0,⟨81,2,[sf cU B6,i6 N5]⟩)] tt->Fx tt σ [(b22,⟨34,5,[i6 3,.str zB,i6 0,.Yd,e0v0]⟩),(b1,⟨34,5,[i6 0,.str zB,i6 0,.Yd,.Yd]⟩)] [⟨e0v0,34,5,rws K0 Vz⟩]->Q (.ex 0) ⟨T,σ⟩)->True->∀(T:TT) (σ tt:Sto) (z0v0:AV),T 0=.ptr e0 0/\T 1=i6 a1/\T 4=.ptr b1 0/\T 5=.ptr b22 0/\T 6=i6 YS->Tau tt0 [(e0,⟨81,2,[sf cU VW,i6 Br]⟩)] tt->Fx tt σ [(b22,⟨34,5,[i6 3,.str zB,i6 0,.Yd,z0v0]⟩),(b1,⟨34,5,[i6 0,.str zB,i6 0,.Yd,.Yd]⟩)] [⟨z0v0,34,5,rws K0 X9⟩]->aLp K1 c Q ⟨T,σ⟩) ?_ ?_
 ·intro Hw L0 a1 c0 r H;intro e0  σ hP;refine hdg mixed Tryz.func121 (rs:=[.cell 4 34]) fun q tT=>?_;obtain ⟨hF,hX⟩:=hP.start;generalize strip σ []=tt0 at hF hX ⊢;refine go ?_;refine Ya hF rfl fun b1 ss2 hF=>?_;refine go ?_;refine giN q (fun q=>?_) (fun q=>?_)
  ·rw [if_neg (df q)] at H;refine go ?_;obtain ⟨Qd6,hx11_1,H⟩:=bnd H;refine cx (Yw 3 c0 _ hx11_1 e0  _ (pre 0 1 0 hF hX)) ?_;rintro _ s8 ⟨t9,rfl,hT,hG⟩;obtain ⟨t10,hX,hF⟩:=aft 0 1 0 hF hX hT hG;refine go ?_;refine cdp H (fun h H=>?_) (fun h H=>?_)
   ·refine go ?_;obtain ⟨x15,hx15,H⟩:=bnd H;refine cx (Yw 4 Qd6.2 _ hx15 e0  _ (pre 0 1 0 hF hX)) ?_;rintro _ s11 ⟨t12,rfl,hT,hG⟩;obtain ⟨t13,hX,hF⟩:=aft 0 1 0 hF hX hT hG;refine go ?_;refine cdp H (fun h H=>?_) (fun h H=>?_)
    ·refine go ?_;obtain ⟨x19,hx19,H⟩:=bnd H;refine cx (Y4 [0,1,2,7,42,999] x15.2 _ hx19 e0  _ (pre 0 1 0 hF hX)) ?_;rintro _ s14 ⟨t15,rfl,hT,hG⟩;obtain ⟨t16,hX,hF⟩:=aft 0 1 0 hF hX hT hG;refine go ?_;refine st hF 0 rfl fun s17 hF=>?_;refine go ?_;have e:=pur H;subst e;exact rg _ ⟨_,rfl,hX,K6 _⟩
    ·refine go ?_;obtain ⟨x23,hx23,H⟩:=bnd H;refine cx (JZ [(Qd #[97]),(Qd #[98]),(Qd #[120]),(Qd #[121]),(Qd #[102]),(Qd #[105,102]),(Qd #[108,101,116]),(Qd #[43])] x15.2 _ hx23 e0  _ (pre 0 1 0 hF hX)) ?_;rintro _ s18 ⟨t19,rfl,hT,hG⟩;obtain ⟨t20,hX,hF⟩:=aft 0 1 0 hF hX hT hG;refine go ?_;refine bp H (VS x23.1) fun x24 h H=>cl h ?_;refine go ?_;refine st hF 0 rfl fun s21 hF=>?_;refine go ?_;have e:=pur H;subst e;exact rg _ ⟨_,rfl,hX,K6 _⟩
   ·refine go ?_;refine Ya hF rfl fun b22 s23 hF=>?_;refine go ?_;refine st hF 0 rfl fun s24 hF=>?_;refine go ?_;obtain ⟨x27,hx27,H⟩:=bnd H;refine cx (Yw 4 Qd6.2 _ hx27 e0  _ (pre 0 1 0 hF hX)) ?_;rintro _ s25 ⟨t26,rfl,hT,hG⟩;obtain ⟨t27,hX,hF⟩:=aft 0 1 0 hF hX hT hG;have hF:=hF.nil 34 5;refine go ?_;obtain ⟨o37,ho37,H⟩:=bnd H;refine L0 a1 [] x27.1 x27.2.b x27.2.p _ ho37 _ rfl _ tt0 e0 b1 b22 ?_ ?_ _ _ _ .Yd S hX hF
    ·intro Fb Qa5 Qa6 he T39 s40 t41 e38v0 tT hX hF;have he:=he.symm;subst he
     try dsimp only at H
     refine go ?_;refine st hF 1 rfl fun s42 hF=>?_;refine go ?_;have e:=pur H;subst e;exact rg _ ⟨_,rfl,hX,K6 _⟩
    ·trivial
  ·rw [if_pos (dt q)] at H;refine go ?_;obtain ⟨EM,hx15_1,H⟩:=bnd H;refine cx (Yw 4 c0 _ hx15_1 e0  _ (pre 0 1 0 hF hX)) ?_;rintro _ s43 ⟨t44,rfl,hT,hG⟩;obtain ⟨t45,hX,hF⟩:=aft 0 1 0 hF hX hT hG;refine go ?_;refine cdp H (fun h H=>?_) (fun h H=>?_)
   ·refine go ?_;obtain ⟨Qk1,hx19_1,H⟩:=bnd H;refine cx (Y4 [0,1,2,7,42,999] EM.2 _ hx19_1 e0  _ (pre 0 1 0 hF hX)) ?_;rintro _ s46 ⟨t47,rfl,hT,hG⟩;obtain ⟨t48,hX,hF⟩:=aft 0 1 0 hF hX hT hG;refine go ?_;refine st hF 0 rfl fun s49 hF=>?_;refine go ?_;have e:=pur H;subst e;exact rg _ ⟨_,rfl,hX,K6 _⟩
   ·refine go ?_;obtain ⟨Qk3,hx23_1,H⟩:=bnd H;refine cx (JZ [(Qd #[97]),(Qd #[98]),(Qd #[120]),(Qd #[121]),(Qd #[102]),(Qd #[105,102]),(Qd #[108,101,116]),(Qd #[43])] EM.2 _ hx23_1 e0  _ (pre 0 1 0 hF hX)) ?_;rintro _ s50 ⟨t51,rfl,hT,hG⟩;obtain ⟨t52,hX,hF⟩:=aft 0 1 0 hF hX hT hG;refine go ?_;obtain ⟨Qaf,hx24_1,H⟩:=bnd H;refine cl (VS Qk3.1 _ hx24_1) ?_;refine go ?_;refine st hF 0 rfl fun s53 hF=>?_;refine go ?_;have e:=pur H;subst e;exact rg _ ⟨_,rfl,hX,K6 _⟩
 ·intro Ih Hw C0 L0 a1 X9 YS VW Br out H c hc Q tt0 e0 b1 b22 hE hR T σ tt z0v0 tT hX hF;refine lpy hc rfl fun q=>go ?_;refine cdp H (fun h H=>?_) (fun h H=>?_)
  ·refine go ?_;obtain ⟨E,hEq⟩:∃E,E=EE σ [e0]:=⟨_,rfl⟩
   have n28:¬E b22:=by rw [hEq];exact K8 (hF.at 0 rfl) (nm1 (neX hF 0 rfl hX 0 rfl))
   have n29:¬E b1:=by rw [hEq];exact K8 (hF.at 1 rfl) (nm1 (neX hF 1 rfl hX 0 rfl))
   refine Yj E [.v,.v,.v,.v,.v,.x,.v,.x,.v,.z] (by kernel_rfl) ?_;have z:=K5 (X7 (hF.at 0 rfl) n28) (X7 (hF.at 1 rfl) n29);refine gh ?_;obtain ⟨x37,hx37,H⟩:=bnd H;refine cx (C0 (i64.wrap (a1 - 1)) (Rdr.mk VW Br) _ hx37 e0  _ (pre 0 1 0 hF hX)) ?_;rintro _ s30 ⟨t31,rfl,hT,hG⟩
   refine W3 (Zb hT hG (by intro p hp;simp only [Kl,KG,or_false] at hp<;>first | (rcases hp with rfl<;>(rw [hEq];first | (refine Zf ?_;simp;done) | exact Zo rfl))| cases hp)) fun kp33=>?_
   obtain ⟨t32,hX,hF⟩:=aft 0 1 0 hF hX hT hG;have z:=K5 (X7 (hF.at 0 rfl) n28) (X7 (hF.at 1 rfl) n29);refine gh ?_;refine SL (g:=K0) hF 0 H (rdo (c:=true) (g:=K0) Fm.X6) fun x39 H v34 s35 hF=>?_;have z:=K5 (X7 (hF.at 0 rfl) n28) (X7 (hF.at 1 rfl) n29);refine gh ?_;refine st hF 0 (hF.cells 0 rfl) fun s36 hF=>?_;have z:=K5 (X7 (hF.at 0 rfl) n28) (X7 (hF.at 1 rfl) n29);refine gh ?_;refine go ?_;exact L0 a1 x39 (i64.wrap (YS - 1)) x37.2.b x37.2.p _ H _ rfl Q tt0 e0 b1 b22 hE hR _ _ _ v34 S hX hF
  ·refine go ?_;exact wq (hE _ _ _ (pur H).symm _ _ _ z0v0 S hX hF)
theorem P0:∀(a1:List ByteArray) (a2:Int) (c0:Rdr) r,Wf a1 a2 c0=some r->∀(e0:Nat)  (σ:Sto),Pre σ [(e0,⟨81,2,[sf cU c0.b,i6 c0.p]⟩)] []->Ctr K1 97 [.ptr e0 0,sf cS a1,i6 a2] σ (fun r' ss'=>∃(tt':Sto),r'=.agg (K0 r.1)/\Tau (strip σ []) [(e0,⟨81,2,[sf cU r.2.b,i6 r.2.p]⟩)] tt'/\Fx tt' ss' [] []):=by
 refine Wf.partial_correctness  (motive:=fun a1 a2 c0 r=>∀(e0:Nat)  (σ:Sto),Pre σ [(e0,⟨81,2,[sf cU c0.b,i6 c0.p]⟩)] []->Ctr K1 97 [.ptr e0 0,sf cS a1,i6 a2] σ (fun r' ss'=>∃(tt':Sto),r'=.agg (K0 r.1)/\Tau (strip σ []) [(e0,⟨81,2,[sf cU r.2.b,i6 r.2.p]⟩)] tt'/\Fx tt' ss' [] [])) ?_
 ·intro Wf C0 a1 a2 c0 r H;intro e0  σ hP;refine hdg mixed Tryz.func97 (rs:=[.cell 6 34]) fun q tT=>?_;obtain ⟨hF,hX⟩:=hP.start;generalize strip σ []=tt0 at hF hX ⊢;refine go ?_;refine Ya hF rfl fun b1 ss2 hF=>?_;refine go ?_;refine giN q (fun q=>?_) (fun q=>?_)
  ·rw [if_neg (df q)] at H;refine go ?_;obtain ⟨Qd7,hx14_1,H⟩:=bnd H;refine cx (Yw 5 c0 _ hx14_1 e0  _ (pre 0 1 0 hF hX)) ?_;rintro _ s8 ⟨t9,rfl,hT,hG⟩;obtain ⟨t10,hX,hF⟩:=aft 0 1 0 hF hX hT hG;refine go ?_;refine cdp H (fun h H=>?_) (fun h H=>?_)
   ·refine go ?_;obtain ⟨x18,hx18,H⟩:=bnd H;refine cx (Yw 3 Qd7.2 _ hx18 e0  _ (pre 0 1 0 hF hX)) ?_;rintro _ s11 ⟨t12,rfl,hT,hG⟩;obtain ⟨t13,hX,hF⟩:=aft 0 1 0 hF hX hT hG;refine go ?_;refine cdp H (fun h H=>?_) (fun h H=>?_)
    ·refine go ?_;obtain ⟨x22,hx22,H⟩:=bnd H;refine cx (Y4 [0,1,2,7] x18.2 _ hx22 e0  _ (pre 0 1 0 hF hX)) ?_;rintro _ s14 ⟨t15,rfl,hT,hG⟩;obtain ⟨t16,hX,hF⟩:=aft 0 1 0 hF hX hT hG;refine go ?_;refine st hF 0 rfl fun s17 hF=>?_;refine go ?_;have e:=pur H;subst e;exact rg _ ⟨_,rfl,hX,K6 _⟩
    ·refine go ?_;obtain ⟨x28,hx28,H⟩:=bnd H;refine cx (Yw (a1.length:Int) x18.2 _ hx28 e0  _ (pre 0 1 0 hF hX)) ?_;rintro _ s18 ⟨t19,rfl,hT,hG⟩;obtain ⟨t20,hX,hF⟩:=aft 0 1 0 hF hX hT hG;obtain ⟨x29,f1,H⟩:=bil (g:=cS) (fun _=>rfl) H;refine go1 ?_;refine bp H (VS x29) fun x31 h H=>cl h ?_;refine go ?_;refine st hF 0 rfl fun s21 hF=>?_;refine go ?_;have e:=pur H;subst e;exact rg _ ⟨_,rfl,hX,K6 _⟩
   ·refine go ?_;obtain ⟨x34,hx34,H⟩:=bnd H;refine cx (JZ [(Qd #[120]),(Qd #[121]),(Qd #[116])] Qd7.2 _ hx34 e0  _ (pre 0 1 0 hF hX)) ?_;rintro _ s22 ⟨t23,rfl,hT,hG⟩;obtain ⟨t24,hX,hF⟩:=aft 0 1 0 hF hX hT hG;refine go ?_;have hF:=hF.lit 9 1 (rws cS []) rfl;refine apd (g:=cS) hF 0 H (rdo (c:=false) (g:=cS) (fun _=>rfl)) fun x37 H v25 s26 hF=>?_;refine go ?_;refine apf (g:=cS) hF 0 H (rdo (c:=true) (g:=cS) (fun _=>rfl)) fun x40 H s28 hF=>?_;refine go ?_;obtain ⟨x42,hx42,H⟩:=bnd H;refine cx (Yw 8 x34.2 _ hx42 e0  _ (pre 0 1 0 hF hX)) ?_;rintro _ s29 ⟨t30,rfl,hT,hG⟩;obtain ⟨t31,hX,hF⟩:=aft 0 1 0 hF hX hT hG;refine go ?_;obtain ⟨Qai,j33,H⟩:=bnd H;refine Wn (fun s'=>∃(T:TT) (ss1 tt1:Sto),s'=⟨T,ss1⟩/\(T 0=.ptr e0 0/\T 1=sf cS a1/\T 2=i6 a2/\T 6=.ptr b1 0/\T 7=.str x34.1/\T 8=sf cS x40/\T 42=i6 x42.1/\T 43=.bool Qai)/\Tau tt0 [(e0,⟨81,2,[sf cU x42.2.b,i6 x42.2.p]⟩)] tt1/\Fx tt1 ss1 [(b1,⟨34,5,[i6 0,.str zB,i6 0,.Yd,.Yd]⟩)] []) (cdp j33 (fun h j33=>?_) (fun h j33=>?_)) ?_
    ·refine go ?_;have e:=pur j33;subst e;exact ⟨_,_,_,rfl,S,hX,hF⟩
    ·refine go ?_;have e:=pur j33;subst e;exact ⟨_,_,_,rfl,S,hX,hF⟩
    ·rintro s' ⟨T34,s35,t36,rfl,tT,hX,hF⟩;refine go ?_;refine cdb H (fun h H=>?_) (fun h H=>?_)
     ·refine go ?_;refine bp H (VS (Qd #[108,97,109,98,100,97])) fun x46 h H=>cl h ?_;refine go ?_;refine bp H (VS x34.1) fun x48 h H=>cl h ?_;refine go ?_;refine bp H (WB [x48]) fun x50 h H=>cl h ?_;refine go ?_;obtain ⟨x55,hx55,H⟩:=bnd H;refine cx (C0 x40 (i64.wrap (a2 - 1)) x42.2 _ hx55 e0  _ (pre 0 1 0 hF hX)) ?_;rintro _ s37 ⟨t38,rfl,hT,hG⟩;obtain ⟨t39,hX,hF⟩:=aft 0 1 0 hF hX hT hG;refine go ?_;refine bp H (WB [x46,x50,x55.1]) fun x57 h H=>cl h ?_;refine go ?_;refine st hF 0 rfl fun s40 hF=>?_;refine go ?_;have e:=pur H;subst e;exact rg _ ⟨_,rfl,hX,K6 _⟩
     ·refine go ?_;obtain ⟨Qaj,j42,H⟩:=bnd H;refine Wn (fun s'=>∃(T:TT) (ss1 tt1:Sto),s'=⟨T,ss1⟩/\(T 0=.ptr e0 0/\T 1=sf cS a1/\T 2=i6 a2/\T 6=.ptr b1 0/\T 7=.str x34.1/\T 8=sf cS x40/\T 42=i6 x42.1/\T 58=.bool Qaj)/\Tau tt0 [(e0,⟨81,2,[sf cU x42.2.b,i6 x42.2.p]⟩)] tt1/\Fx tt1 ss1 [(b1,⟨34,5,[i6 0,.str zB,i6 0,.Yd,.Yd]⟩)] []) (cdp j42 (fun h j42=>?_) (fun h j42=>?_)) ?_
      ·refine go ?_;have e:=pur j42;subst e;exact ⟨_,_,_,rfl,S,hX,hF⟩
      ·refine go ?_;have e:=pur j42;subst e;exact ⟨_,_,_,rfl,S,hX,hF⟩
      ·rintro s' ⟨T43,s44,t45,rfl,tT,hX,hF⟩;refine go ?_;refine cdb H (fun h H=>?_) (fun h H=>?_)
       ·refine go ?_;refine bp H (VS x34.1) fun x62 h H=>cl h ?_;refine go ?_;obtain ⟨x67,hx67,H⟩:=bnd H;refine cx (C0 a1 (i64.wrap (a2 - 1)) x42.2 _ hx67 e0  _ (pre 0 1 0 hF hX)) ?_;rintro _ s46 ⟨t47,rfl,hT,hG⟩;obtain ⟨t48,hX,hF⟩:=aft 0 1 0 hF hX hT hG;refine go ?_;refine bp H (WB [x62,x67.1]) fun x69 h H=>cl h ?_;refine go ?_;refine Ya hF rfl fun b49 s50 hF=>?_;refine go ?_;refine st hF 0 rfl fun s51 hF=>?_;refine go ?_;obtain ⟨E,hEq⟩:∃E,E=EE s51 [e0]:=⟨_,rfl⟩
        have n52:¬E b49:=by rw [hEq];exact K8 (hF.at 0 rfl) (nm1 (neX hF 0 rfl hX 0 rfl))
        have n53:¬E b1:=by rw [hEq];exact K8 (hF.at 1 rfl) (nm1 (neX hF 1 rfl hX 0 rfl))
        refine Yj E [.v,.v,.v,.v,.v,.v,.v,.v,.x,.v,.v,.z] (by kernel_rfl) ?_;have z:=K5 (X7 (hF.at 0 rfl) n52) (X7 (hF.at 1 rfl) n53);refine gh ?_;refine bp H (VS (Qd #[108,101,116])) fun x70 h H=>cv h ?_;have z:=K5 (X7 (hF.at 0 rfl) n52) (X7 (hF.at 1 rfl) n53);refine gh ?_;refine bp H (WB [x69]) fun x73 h H=>cv h ?_;have z:=K5 (X7 (hF.at 0 rfl) n52) (X7 (hF.at 1 rfl) n53);refine gh ?_;obtain ⟨x78,hx78,H⟩:=bnd H;refine cx (C0 x40 (i64.wrap (a2 - 1)) x67.2 _ hx78 e0  _ (pre 0 1 0 hF hX)) ?_;rintro _ s54 ⟨t55,rfl,hT,hG⟩
        refine W3 (Zb hT hG (by intro p hp;simp only [Kl,KG,or_false] at hp<;>first | (rcases hp with rfl<;>(rw [hEq];first | (refine Zf ?_;simp;done) | exact Zo rfl))| cases hp)) fun kp57=>?_
        obtain ⟨t56,hX,hF⟩:=aft 0 1 0 hF hX hT hG;have z:=K5 (X7 (hF.at 0 rfl) n52) (X7 (hF.at 1 rfl) n53);refine gh ?_;refine bp H (WB [x70,x73,x78.1]) fun x80 h H=>cv h ?_;have z:=K5 (X7 (hF.at 0 rfl) n52) (X7 (hF.at 1 rfl) n53);refine gh ?_;refine st hF 1 rfl fun s58 hF=>?_;have z:=K5 (X7 (hF.at 0 rfl) n52) (X7 (hF.at 1 rfl) n53);refine gh ?_;refine go ?_;have e:=pur H;subst e;exact rg [.agg [i6 x80.kind,.str x80.name,i6 x80.num,sf cI x80.sc,sf K0 x80.kids]] ⟨_,rfl,hX,K6 _⟩
       ·refine go ?_;refine cdp H (fun h H=>?_) (fun h H=>?_)
        ·refine go ?_;refine bp H (VS (Qd #[105,102])) fun x83 h H=>cl h ?_;refine go ?_;obtain ⟨x88,hx88,H⟩:=bnd H;refine cx (C0 a1 (i64.wrap (a2 - 1)) x42.2 _ hx88 e0  _ (pre 0 1 0 hF hX)) ?_;rintro _ s59 ⟨t60,rfl,hT,hG⟩;obtain ⟨t61,hX,hF⟩:=aft 0 1 0 hF hX hT hG;refine go ?_;obtain ⟨x93,hx93,H⟩:=bnd H;refine cx (C0 a1 (i64.wrap (a2 - 1)) x88.2 _ hx93 e0  _ (pre 0 1 0 hF hX)) ?_;rintro _ s62 ⟨t63,rfl,hT,hG⟩;obtain ⟨t64,hX,hF⟩:=aft 0 1 0 hF hX hT hG;refine go ?_;obtain ⟨x96,hx96,H⟩:=bnd H;refine cx (C0 a1 0 x93.2 _ hx96 e0  _ (pre 0 1 0 hF hX)) ?_;rintro _ s65 ⟨t66,rfl,hT,hG⟩;obtain ⟨t67,hX,hF⟩:=aft 0 1 0 hF hX hT hG;refine go ?_;refine bp H (WB [x83,x88.1,x93.1,x96.1]) fun x98 h H=>cl h ?_;refine go ?_;refine st hF 0 rfl fun s68 hF=>?_;refine go ?_;have e:=pur H;subst e;exact rg _ ⟨_,rfl,hX,K6 _⟩
        ·refine go ?_;refine cdp H (fun h H=>?_) (fun h H=>?_)
         ·refine go ?_;refine bp H (VS (Qd #[113,117,111,116,101])) fun x101 h H=>cl h ?_;refine go ?_;obtain ⟨x103,hx103,H⟩:=bnd H;refine cx (PH 1 x42.2 _ hx103 e0  _ (pre 0 1 0 hF hX)) ?_;rintro _ s69 ⟨t70,rfl,hT,hG⟩;obtain ⟨t71,hX,hF⟩:=aft 0 1 0 hF hX hT hG;refine go ?_;refine bp H (WB [x101,x103.1]) fun x105 h H=>cl h ?_;refine go ?_;refine st hF 0 rfl fun s72 hF=>?_;refine go ?_;have e:=pur H;subst e;exact rg _ ⟨_,rfl,hX,K6 _⟩
         ·refine go ?_;obtain ⟨x110,hx110,H⟩:=bnd H;refine cx (C0 a1 (i64.wrap (a2 - 1)) x42.2 _ hx110 e0  _ (pre 0 1 0 hF hX)) ?_;rintro _ s73 ⟨t74,rfl,hT,hG⟩;obtain ⟨t75,hX,hF⟩:=aft 0 1 0 hF hX hT hG;refine go ?_;obtain ⟨x115,hx115,H⟩:=bnd H;refine cx (C0 a1 (i64.wrap (a2 - 1)) x110.2 _ hx115 e0  _ (pre 0 1 0 hF hX)) ?_;rintro _ s76 ⟨t77,rfl,hT,hG⟩;obtain ⟨t78,hX,hF⟩:=aft 0 1 0 hF hX hT hG;refine go ?_;refine bp H (WB [x110.1,x115.1]) fun x117 h H=>cl h ?_;refine go ?_;refine st hF 0 rfl fun s79 hF=>?_;refine go ?_;have e:=pur H;subst e;exact rg _ ⟨_,rfl,hX,K6 _⟩
  ·rw [if_pos (dt q)] at H;refine go ?_;obtain ⟨Qd8,hx18_1,H⟩:=bnd H;refine cx (Yw 3 c0 _ hx18_1 e0  _ (pre 0 1 0 hF hX)) ?_;rintro _ s80 ⟨t81,rfl,hT,hG⟩;obtain ⟨t82,hX,hF⟩:=aft 0 1 0 hF hX hT hG;refine go ?_;refine cdp H (fun h H=>?_) (fun h H=>?_)
   ·refine go ?_;obtain ⟨Qk2,hx22_1,H⟩:=bnd H;refine cx (Y4 [0,1,2,7] Qd8.2 _ hx22_1 e0  _ (pre 0 1 0 hF hX)) ?_;rintro _ s83 ⟨t84,rfl,hT,hG⟩;obtain ⟨t85,hX,hF⟩:=aft 0 1 0 hF hX hT hG;refine go ?_;refine st hF 0 rfl fun s86 hF=>?_;refine go ?_;have e:=pur H;subst e;exact rg _ ⟨_,rfl,hX,K6 _⟩
   ·refine go ?_;obtain ⟨Qos,hx28_1,H⟩:=bnd H;refine cx (Yw (a1.length:Int) Qd8.2 _ hx28_1 e0  _ (pre 0 1 0 hF hX)) ?_;rintro _ s87 ⟨t88,rfl,hT,hG⟩;obtain ⟨t89,hX,hF⟩:=aft 0 1 0 hF hX hT hG;obtain ⟨Qot,f1,H⟩:=bil (g:=cS) (fun _=>rfl) H;refine go1 ?_;obtain ⟨Qag,hx31_1,H⟩:=bnd H;refine cl (VS Qot _ hx31_1) ?_;refine go ?_;refine st hF 0 rfl fun s90 hF=>?_;refine go ?_;have e:=pur H;subst e;exact rg _ ⟨_,rfl,hX,K6 _⟩
theorem PY:∀(c0:Rdr) r,Cq c0=some r->∀(e0:Nat)  (σ:Sto),Pre σ [(e0,⟨81,2,[sf cU c0.b,i6 c0.p]⟩)] []->Ctr K1 72 [.ptr e0 0] σ (fun r' ss'=>∃(tt':Sto),r'=.agg (K0 r.1)/\Tau (strip σ []) [(e0,⟨81,2,[sf cU r.2.b,i6 r.2.p]⟩)] tt'/\Fx tt' ss' [] []):=by
 intro c0 r H;intro e0  σ hP;unfold Cq at H;refine hdg mixed Tryz.func72 (rs:=[.cell 2 34]) fun q tT=>?_;obtain ⟨hF,hX⟩:=hP.start;generalize strip σ []=tt0 at hF hX ⊢;refine go ?_;refine Ya hF rfl fun b1 ss2 hF=>?_;refine go ?_;refine bp H (OV ) fun x6 h H=>cl h ?_;refine go ?_;obtain ⟨x8,hx8,H⟩:=bnd H;refine cx (Yw 3 c0 _ hx8 e0  _ (pre 0 1 0 hF hX)) ?_;rintro _ ss3 ⟨tt4,rfl,hT,hG⟩;obtain ⟨tt5,hX,hF⟩:=aft 0 1 0 hF hX hT hG;refine goL ?_;refine cdp H (fun h H=>?_) (fun h H=>?_)
 ·refine go ?_;obtain ⟨x14,hx14,H⟩:=bnd H;refine cx (Yw (x6.length:Int) x8.2 _ hx14 e0  _ (pre 0 1 0 hF hX)) ?_;rintro _ ss6 ⟨t7,rfl,hT,hG⟩;obtain ⟨t8,hX,hF⟩:=aft 0 1 0 hF hX hT hG;obtain ⟨x15,f1,H⟩:=bil (g:=cS) (fun _=>rfl) H;refine go1 ?_;refine bp H (EB x15) fun x17 h H=>cl h ?_;refine go ?_;refine st hF 0 rfl fun s9 hF=>?_;refine go ?_;have e:=pur H;subst e;exact rg _ ⟨_,rfl,hX,K6 _⟩
 ·refine go ?_;obtain ⟨x22,hx22,H⟩:=bnd H;refine cx (Y4 [4,3,2] x8.2 _ hx22 e0  _ (pre 0 1 0 hF hX)) ?_;rintro _ s10 ⟨t11,rfl,hT,hG⟩;obtain ⟨t12,hX,hF⟩:=aft 0 1 0 hF hX hT hG;refine go ?_;obtain ⟨x23,hx23,H⟩:=bnd H;refine cx (P0 [(Qd #[43]),(Qd #[108,105,115,116]),(Qd #[103])] x22.1 x22.2 _ hx23 e0  _ (pre 0 1 0 hF hX)) ?_;rintro _ s13 ⟨t14,rfl,hT,hG⟩;obtain ⟨t15,hX,hF⟩:=aft 0 1 0 hF hX hT hG;refine go ?_;refine Ya hF rfl fun b16 s17 hF=>?_;refine go ?_;refine st hF 0 rfl fun s18 hF=>?_;refine go ?_;obtain ⟨x25,hx25,H⟩:=bnd H;refine cx (Yw 2 x23.2 _ hx25 e0  _ (pre 0 1 0 hF hX)) ?_;rintro _ s19 ⟨t20,rfl,hT,hG⟩;obtain ⟨t21,hX,hF⟩:=aft 0 1 0 hF hX hT hG;refine goL ?_;refine cdp H (fun h H=>?_) (fun h H=>?_)
  ·refine goL ?_;refine bp H (EB (Qd #[40,114,117,108,101,115,32,40,41,32,40,40,95,32,97,32,98,41,32,40,108,101,116,32,40,40,116,32,97,41,41,32,40,108,105,115,116,32,98,32,116,41,41,41,32,40,40,95,32,97,41,32,40,108,101,116,32,40,40,120,32,97,41,41,32,40,108,105,115,116,32,120,32,97,41,41,41,41])) fun x27 h H=>cl h ?_;refine goL ?_;refine Ya hF rfl fun b22 s23 hF=>?_;refine goL ?_;refine st hF 0 rfl fun s24 hF=>?_;refine goL ?_;refine Yj E0 [.v,.v,.v,.v,.v,.v,.v,.v,.v,.v,.z] (by kernel_rfl) ?_;refine goL ?_;refine bp H (VS (Qd #[108,101,116,45,115,121,110,116,97,120])) fun x28 h H=>cv h ?_;refine goL ?_;refine bp H (VS (Qd #[103])) fun x29 h H=>cv h ?_;refine goL ?_;refine bp H (WB [x29,x27]) fun x32 h H=>cv h ?_;refine goL ?_;refine bp H (WB [x32]) fun x34 h H=>cv h ?_;refine goL ?_;refine bp H (WB [x28,x34,x23.1]) fun x37 h H=>cv h ?_;refine goL ?_;refine st hF 1 rfl fun s25 hF=>?_;refine goL ?_;refine st hF 2 rfl fun s26 hF=>?_;refine goL ?_;have e:=pur H;subst e;exact rg _ ⟨_,rfl,hX,K6 _⟩
  ·refine goL ?_;refine st hF 1 rfl fun s27 hF=>?_;refine goL ?_;have e:=pur H;subst e;exact rg _ ⟨_,rfl,hX,K6 _⟩
theorem Wg:∀(a0:Fm) r,Wd a0=some r->VP K1 49 [.agg (K0 a0)] (.agg (K0 r)):=by
 refine Wd.partial_correctness _ (motive_2:=fun a0 x14 X9 YA out=>∀c,Yg Tryz.f49 0=some c->∀(Q:QT) (tt:Sto) (b1 b3 b5:Nat),(∀(Vz:List Fm),out=Vz->∀(T:TT) (σ:Sto) (e0v0:AV),T 2=.ptr b3 0/\T 3=.ptr b5 0->Fx tt σ [(b5,⟨34,5,[i6 a0.kind,.str a0.name,i6 a0.num,sf cI x14,e0v0]⟩),(b3,⟨34,5,[i6 0,.str zB,i6 0,.Yd,.Yd]⟩),(b1,⟨34,5,[i6 a0.kind,.str a0.name,i6 a0.num,sf cI a0.sc,sf K0 a0.kids]⟩)] [⟨e0v0,34,5,rws K0 Vz⟩]->Q (.ex 0) ⟨T,σ⟩)->True->∀(T:TT) (σ:Sto) (z0v0:AV),T 1=.ptr b1 0/\T 2=.ptr b3 0/\T 3=.ptr b5 0/\T 4=i6 YA->Fx tt σ [(b5,⟨34,5,[i6 a0.kind,.str a0.name,i6 a0.num,sf cI x14,z0v0]⟩),(b3,⟨34,5,[i6 0,.str zB,i6 0,.Yd,.Yd]⟩),(b1,⟨34,5,[i6 a0.kind,.str a0.name,i6 a0.num,sf cI a0.sc,sf K0 a0.kids]⟩)] [⟨z0v0,34,5,rws K0 X9⟩]->aLp K1 c Q ⟨T,σ⟩) ?_ ?_
 ·intro Gi L0 a0 r H;intro σ;refine hdg mixed Tryz.func49 (rs:=[.cell 2 34]) fun q tT=>?_;have hF:=K4 σ;have hX:=Tau.none σ;refine go ?_;refine Ya hF rfl fun b1 ss2 hF=>?_;refine go ?_;refine Ya hF rfl fun b3 ss4 hF=>?_;refine go ?_;refine Yj E0 [.v,.v,.v,.v,.v,.v,.v,.v,.v,.v,.v,.x,.z] (by kernel_rfl) ?_;refine go ?_;obtain ⟨x14,hx14,H⟩:=bnd H;refine MY (g:=cI) (xs:=[]) (ys:=a0.sc) (fun _=>rfl) (by decide) (by decide) (.inr (by first | rfl | simp only [Vn,VQ,cI,cU,cS,cL])) (.inr ⟨_,by first | rfl | simp only [Vn,VQ,cI,cU,cS,cL]⟩) hx14 ?_;refine go ?_;refine HH hF rfl fun b5 ss6 hF=>?_;refine go ?_;refine st hF 0 rfl fun s7 hF=>?_;have hF:=hF.nil 34 5;refine go ?_;obtain ⟨o11,ho11,H⟩:=bnd H;refine L0 a0 x14 [] 0 _ ho11 _ rfl _ _ b1 b3 b5 ?_ ?_ _ _ .Yd S hF
  ·intro MN he T13 s14 e12v0 tT hF;have he:=he.symm;subst he;refine go ?_;refine st hF 1 rfl fun s16 hF=>?_;refine go ?_;have e:=pur H;subst e;exact rt _
  ·trivial
 ·intro Wd Gi C0 L0 a0 x14 X9 YA out H c hc Q tt b1 b3 b5 hE hR T σ z0v0 tT hF;refine lpx tt hc rfl fun q hX=>go ?_;refine cdp H (fun h H=>?_) (fun h H=>?_)
  ·refine go ?_;refine Yj E0 [.v,.v,.v,.v,.v,.v,.v,.v,.v,.x,.v,.z] (by kernel_rfl) ?_;obtain ⟨x28,f1,H⟩:=bil (g:=K0) Fm.X6 H;refine go1 ?_;refine bp H (C0 x28) fun x30 h H=>cv h ?_;refine go ?_;refine SL (g:=K0) hF 0 H (rdo (c:=true) (g:=K0) Fm.X6) fun x32 H v8 s9 hF=>?_;refine go ?_;refine st hF 0 (hF.cells 0 rfl) fun s10 hF=>?_;refine go ?_;exact L0 a0 x14 x32 (i64.wrap (YA+1)) _ H _ rfl Q tt b1 b3 b5 hE hR _ _ v8 S hF
  ·refine go ?_;exact wq (hE _ (pur H).symm _ _ z0v0 S hF)
theorem C8:∀(a0:Fm) (x14:List Int) (Vq:List Fm) (YA:Int) out,VM a0 x14 Vq YA=some out->∀c,Yg Tryz.f49 0=some c->∀(Q:QT) (tt0:Sto) (b1 b3:Nat) (v5:AV) (b7:Nat),(∀(FY:List Fm),out=FY->∀(T:TT) (σ tt:Sto) (e0v1:AV),T 2=.ptr b3 0/\T 3=.ptr b7 0->Tau tt0 [] tt->Fx tt σ [(b7,⟨34,5,[i6 a0.kind,.str a0.name,i6 a0.num,v5,e0v1]⟩),(b3,⟨34,5,[i6 0,.str zB,i6 0,.Yd,.Yd]⟩),(b1,⟨34,5,[i6 a0.kind,.str a0.name,i6 a0.num,sf cI a0.sc,sf K0 a0.kids]⟩)] [⟨e0v1,34,5,rws K0 FY⟩,⟨v5,3,1,rws cI x14⟩]->Q (.ex 0) ⟨T,σ⟩)->True->∀(T:TT) (σ tt:Sto) (z0v1:AV),T 1=.ptr b1 0/\T 2=.ptr b3 0/\T 3=.ptr b7 0/\T 4=i6 YA->Tau tt0 [] tt->Fx tt σ [(b7,⟨34,5,[i6 a0.kind,.str a0.name,i6 a0.num,v5,z0v1]⟩),(b3,⟨34,5,[i6 0,.str zB,i6 0,.Yd,.Yd]⟩),(b1,⟨34,5,[i6 a0.kind,.str a0.name,i6 a0.num,sf cI a0.sc,sf K0 a0.kids]⟩)] [⟨z0v1,34,5,rws K0 Vq⟩,⟨v5,3,1,rws cI x14⟩]->aLp K1 c Q ⟨T,σ⟩:=by
 intro a0 x14 Vq YA;revert Vq YA;refine VM.partial_correctness a0 x14 _ ?_;intro VM IH Vq YA out H c hc Q tt0 b1 b3 v5 b7 hE hR T σ tt z0v1 tT hX hF;refine lpy hc rfl fun q=>go ?_;refine cdp H (fun h H=>?_) (fun h H=>?_)
 ·refine go ?_;refine Yj E0 [.v,.v,.v,.v,.v,.v,.v,.v,.v,.x,.v,.z] (by kernel_rfl) ?_;obtain ⟨x28,f1,H⟩:=bil (g:=K0) Fm.X6 H;refine go1 ?_;refine bp H (Wg x28) fun x30 h H=>cv h ?_;refine go ?_;refine SL (g:=K0) hF 0 H (rdo (c:=true) (g:=K0) Fm.X6) fun x32 H v10 s11 hF=>?_;refine go ?_;refine st hF 0 (hF.cells 0 rfl) fun s12 hF=>?_;refine go ?_;exact IH  x32 (i64.wrap (YA+1)) _ H _ rfl Q tt0 b1 b3 v5 b7 hE hR _ _ _ v10 S hX hF
 ·refine go ?_;exact wq (hE _ (pur H).symm _ _ _ z0v1 S hX hF)
theorem D4:∀(a0:Fm) r,GQ a0=some r->∀   (σ:Sto),Pre σ [] []->Ctr K1 49 [.agg (K0 a0)] σ (fun r' ss'=>∃(tt':Sto) (Qtj Qrh:AV),r'=.agg [i6 r.kind,.str r.name,i6 r.num,Qtj,Qrh]/\Tau (strip σ []) [] tt'/\Fx tt' ss' [] [⟨Qtj,3,1,rws cI r.sc⟩,⟨Qrh,34,5,rws K0 r.kids⟩]):=by
 intro a0 r H;intro   σ hP;unfold GQ at H;refine hdg mixed Tryz.func49 (rs:=[.cell 2 34]) fun q tT=>?_;obtain ⟨hF,hX⟩:=hP.start;generalize strip σ []=tt0 at hF hX ⊢;refine go ?_;refine Ya hF rfl fun b1 ss2 hF=>?_;refine go ?_;refine Ya hF rfl fun b3 ss4 hF=>?_;refine go ?_;refine Yj E0 [.v,.v,.v,.v,.v,.v,.v,.v,.v,.x,.v,.x,.z] (by kernel_rfl) ?_;refine go ?_;have hF:=hF.lit 3 1 (rws cI []) rfl;refine SL (g:=cI) hF 0 H (rdo (c:=false) (g:=cI) (fun _=>rfl)) fun x14 H v5 ss6 hF=>?_;refine go ?_;refine HH hF rfl fun b7 s8 hF=>?_;refine go ?_;refine st hF 0 rfl fun s9 hF=>?_;have hF:=hF.nil 34 5;refine go ?_;obtain ⟨o13,ho13,H⟩:=bnd H;refine C8 a0 x14 [] 0 _ ho13 _ rfl _ tt0 b1 b3 v5 b7 ?_ ?_ _ _ _ .Yd S hX hF
 ·intro Qlg he T15 s16 t17 e14v1 tT hX hF;have he:=he.symm;subst he;refine go ?_;refine st hF 1 rfl fun s18 hF=>?_;refine go ?_;have e:=pur H;subst e;exact rg _ ⟨_,_,_,rfl,hX,hF.pick [] [1,0] (by decide) (by decide)⟩
 ·trivial
theorem DX:∀(a1:Fm) (c0:Rdr) r,Hi a1 c0=some r->∀(e0:Nat)  (σ:Sto),Pre σ [(e0,⟨81,2,[sf cU c0.b,i6 c0.p]⟩)] []->Ctr K1 41 [.ptr e0 0,.agg (K0 a1)] σ (fun r' ss'=>∃(tt':Sto),r'=.agg (K0 r.1)/\Tau (strip σ []) [(e0,⟨81,2,[sf cU r.2.b,i6 r.2.p]⟩)] tt'/\Fx tt' ss' [] []):=by
 refine Hi.partial_correctness  (motive:=fun a1 c0 r=>∀(e0:Nat)  (σ:Sto),Pre σ [(e0,⟨81,2,[sf cU c0.b,i6 c0.p]⟩)] []->Ctr K1 41 [.ptr e0 0,.agg (K0 a1)] σ (fun r' ss'=>∃(tt':Sto),r'=.agg (K0 r.1)/\Tau (strip σ []) [(e0,⟨81,2,[sf cU r.2.b,i6 r.2.p]⟩)] tt'/\Fx tt' ss' [] [])) ?_
 ·intro Hi C0 a1 c0 r H;intro e0  σ hP;refine hdg mixed Tryz.func41 (rs:=[.cell 4 34]) fun q tT=>?_;obtain ⟨hF,hX⟩:=hP.start;generalize strip σ []=tt0 at hF hX ⊢;refine go ?_;refine Ya hF rfl fun b1 ss2 hF=>?_;refine go ?_;refine Ya hF rfl fun b3 ss4 hF=>?_;refine go ?_;obtain ⟨x8,hx8,H⟩:=bnd H;refine cx (D4 a1 _ hx8   _ (pre 0 0 0 hF hX)) ?_;rintro _ s7 ⟨t8,v5,v6,rfl,hT,hG⟩;obtain ⟨t9,hX,hF⟩:=aft 0 0 0 hF hX hT hG;refine go ?_;refine Ya hF rfl fun b10 s11 hF=>?_;refine go ?_;refine st hF 0 rfl fun s12 hF=>?_;refine go ?_;refine gi q (fun q=>?_) (fun q=>?_)
  ·rw [if_pos (dt q)] at H;refine go ?_;obtain ⟨EM,hx15_1,H⟩:=bnd H;refine cx (Yw 2 c0 _ hx15_1 e0  _ (pre 0 1 0 hF hX)) ?_;rintro _ s18 ⟨t19,rfl,hT,hG⟩;obtain ⟨t20,hX,hF⟩:=aft 0 1 0 hF hX hT hG;refine go ?_;refine cdp H (fun h H=>?_) (fun h H=>?_)
   ·refine go ?_;obtain ⟨x22,hx22,H⟩:=bnd H;refine cx (Yw (x8.kids.length:Int) EM.2 _ hx22 e0  _ (pre 0 1 0 hF hX)) ?_;rintro _ s21 ⟨t22,rfl,hT,hG⟩;obtain ⟨t23,hX,hF⟩:=aft 0 1 0 hF hX hT hG;refine go ?_;obtain ⟨E,hEq⟩:∃E,E=EE s21 [e0]:=⟨_,rfl⟩
    have n24:¬E b10:=by rw [hEq];exact K8 (hF.at 0 rfl) (nm1 (neX hF 0 rfl hX 0 rfl))
    have n25:¬E b3:=by rw [hEq];exact K8 (hF.at 1 rfl) (nm1 (neX hF 1 rfl hX 0 rfl))
    have n26:¬E b1:=by rw [hEq];exact K8 (hF.at 2 rfl) (nm1 (neX hF 2 rfl hX 0 rfl))
    refine Yj E [.v,.v,.v,.v,.v,.v,.v,.v,.x,.x,.v,.z] (by kernel_rfl) ?_;have z:=K5 (X7 (hF.at 0 rfl) n24) (K5 (X7 (hF.at 1 rfl) n25) (X7 (hF.at 2 rfl) n26));refine gh ?_;obtain ⟨x30,hx30,H⟩:=bnd H;obtain ⟨b27,k28,hv⟩:=hF.ref 1 rfl hx30;subst hv
    try simp only [go_sem,↓reduceIte,Nat.reduceEqDiff,Nat.reduceAdd,Nat.reduceMul,Nat.reduceLeDiff,Nat.reduceLT,Int.reduceEq,Int.toNat_natCast,q,tT,hF.f,hF.m,hF.x hX,X7 (hF.at 0 rfl) n24,X7 (hF.at 1 rfl) n25,X7 (hF.at 2 rfl) n26,EP (l:=x8.kids) rfl hx30,SY hF 1 (p:=x22.1.toNat * 5) (sz:=5) (ag:=true) (k:=5) (o:=0) (g:=K0) (x:=x30) (i:=x22.1) (v:=(.agg [i6 x30.kind,.str x30.name,i6 x30.num,sf cI x30.sc,sf K0 x30.kids])) (by first | rfl | simp) Fm.X6 rfl hx30 (by decide) (by first | rfl | (simp only [sf,i6,zB,cI,cU,cS,cL,cB,Fm.Yb];rfl))]
    obtain ⟨x32,hx32,H⟩:=bnd H;refine cx (C0 x30 x22.2 _ hx32 e0  _ (pre 0 1 0 hF hX)) ?_;rintro _ s29 ⟨t30,rfl,hT,hG⟩
    refine W3 (Zb hT hG (by intro p hp;simp only [Kl,KG,or_false] at hp<;>first | (rcases hp with rfl<;>(rw [hEq];first | (refine Zf ?_;simp;done) | exact Zo rfl))| cases hp)) fun kp32=>?_
    obtain ⟨t31,hX,hF⟩:=aft 0 1 0 hF hX hT hG;obtain ⟨x33,hx33,H⟩:=bnd H
    try simp only [go_sem,↓reduceIte,Nat.reduceEqDiff,Nat.reduceAdd,Nat.reduceMul,Nat.reduceLeDiff,Nat.reduceLT,Int.reduceEq,Int.toNat_natCast,q,tT,hF.f,hF.m,hF.x hX,X7 (hF.at 0 rfl) n24,X7 (hF.at 1 rfl) n25,X7 (hF.at 2 rfl) n26,EP (l:=x8.kids) ((MT hF 1 rfl).1.trans (Jl _)) hx33]
    refine UK hF 1 (o:=0) (sz:=5) (k:=5) (v:=(.agg [i6 x32.1.kind,.str x32.1.name,i6 x32.1.num,sf cI x32.1.sc,sf K0 x32.1.kids])) (cs:=[i6 x32.1.kind,.str x32.1.name,i6 x32.1.num,sf cI x32.1.sc,sf K0 x32.1.kids]) (g:=K0) (i:=x22.1) x32.1 Fm.X6 (by first | rfl | simp) rfl hx33 rfl rfl (by decide) (by first | rfl | simp [Hq,cI,cU,cS,cL,cB,Fm.Yb]) fun s33 hF=>?_;have hF:Fx t31 s33 [(b10,⟨34,5,[i6 x8.kind,.str x8.name,i6 x8.num,v5,.ref b27 x8.kids.length k28]⟩),(b3,⟨34,5,[i6 0,.str zB,i6 0,.Yd,.Yd]⟩),(b1,⟨34,5,[i6 a1.kind,.str a1.name,i6 a1.num,sf cI a1.sc,sf K0 a1.kids]⟩)] [⟨v5,3,1,rws cI x8.sc⟩,⟨.ref b27 x8.kids.length k28,34,5,rws K0 (x8.kids.set x22.1.toNat x32.1)⟩]:=hF;have z:=K5 (X7 (hF.at 0 rfl) n24) (K5 (X7 (hF.at 1 rfl) n25) (X7 (hF.at 2 rfl) n26));refine gh ?_;refine go ?_;refine st hF 1 rfl fun s34 hF=>?_;refine go ?_;have e:=pur H;subst e;exact rg _ ⟨_,rfl,hX,K6 _⟩
   ·refine go ?_;obtain ⟨x36,hx36,H⟩:=bnd H;refine cx (Yw 14 EM.2 _ hx36 e0  _ (pre 0 1 0 hF hX)) ?_;rintro _ s35 ⟨t36,rfl,hT,hG⟩;obtain ⟨t37,hX,hF⟩:=aft 0 1 0 hF hX hT hG;refine go ?_;refine cdp H (fun h H=>?_) (fun h H=>?_)
    ·refine go ?_;obtain ⟨x41,hx41,H⟩:=bnd H;refine cx (Y4 [0,4,1,3] x36.2 _ hx41 e0  _ (pre 0 1 0 hF hX)) ?_;rintro _ s38 ⟨t39,rfl,hT,hG⟩;obtain ⟨t40,hX,hF⟩:=aft 0 1 0 hF hX hT hG;refine go ?_;refine st hF 0 rfl fun s41 hF=>?_;refine go ?_;refine st hF 1 rfl fun s42 hF=>?_;refine go ?_;have e:=pur H;subst e;exact rg _ ⟨_,rfl,hX,K6 _⟩
    ·refine go ?_;refine cdp H (fun h H=>?_) (fun h H=>?_)
     ·refine go ?_;obtain ⟨x47,hx47,H⟩:=bnd H;refine cx (JZ [zB,(Qd #[65]),(Qd #[116,111,111,108,111,110,103,97,110,97,109,101,49]),(Qd #[122]),(Qd #[120,32,121])] x36.2 _ hx47 e0  _ (pre 0 1 0 hF hX)) ?_;rintro _ s43 ⟨t44,rfl,hT,hG⟩;obtain ⟨t45,hX,hF⟩:=aft 0 1 0 hF hX hT hG;refine go ?_;refine st hF 0 rfl fun s46 hF=>?_;refine go ?_;refine st hF 1 rfl fun s47 hF=>?_;refine go ?_;have e:=pur H;subst e;exact rg _ ⟨_,rfl,hX,K6 _⟩
     ·refine go ?_;refine cdp H (fun h H=>?_) (fun h H=>?_)
      ·refine go ?_;obtain ⟨x53,hx53,H⟩:=bnd H;refine cx (Y4 [1000,-1,5] x36.2 _ hx53 e0  _ (pre 0 1 0 hF hX)) ?_;rintro _ s48 ⟨t49,rfl,hT,hG⟩;obtain ⟨t50,hX,hF⟩:=aft 0 1 0 hF hX hT hG;refine go ?_;refine st hF 0 rfl fun s51 hF=>?_;refine go ?_;refine st hF 1 rfl fun s52 hF=>?_;refine go ?_;have e:=pur H;subst e;exact rg _ ⟨_,rfl,hX,K6 _⟩
      ·refine go ?_;refine cdp H (fun h H=>?_) (fun h H=>?_)
       ·refine go ?_;obtain ⟨E,hEq⟩:∃E,E=EE s35 [e0]:=⟨_,rfl⟩
        have n53:¬E b10:=by rw [hEq];exact K8 (hF.at 0 rfl) (nm1 (neX hF 0 rfl hX 0 rfl))
        have n54:¬E b3:=by rw [hEq];exact K8 (hF.at 1 rfl) (nm1 (neX hF 1 rfl hX 0 rfl))
        have n55:¬E b1:=by rw [hEq];exact K8 (hF.at 2 rfl) (nm1 (neX hF 2 rfl hX 0 rfl))
        refine Yj E [.v,.v,.v,.v,.x,.v,.x,.v,.z] (by kernel_rfl) ?_;have z:=K5 (X7 (hF.at 0 rfl) n53) (K5 (X7 (hF.at 1 rfl) n54) (X7 (hF.at 2 rfl) n55));refine gh ?_;obtain ⟨x61,hx61,H⟩:=bnd H;refine cx (Y4 [0,100,1,50] x36.2 _ hx61 e0  _ (pre 0 1 0 hF hX)) ?_;rintro _ s56 ⟨t57,rfl,hT,hG⟩
        refine W3 (Zb hT hG (by intro p hp;simp only [Kl,KG,or_false] at hp<;>first | (rcases hp with rfl<;>(rw [hEq];first | (refine Zf ?_;simp;done) | exact Zo rfl))| cases hp)) fun kp59=>?_
        obtain ⟨t58,hX,hF⟩:=aft 0 1 0 hF hX hT hG;have z:=K5 (X7 (hF.at 0 rfl) n53) (K5 (X7 (hF.at 1 rfl) n54) (X7 (hF.at 2 rfl) n55));refine gh ?_;refine SL (g:=cI) hF 0 H (rdo (c:=true) (g:=cI) (fun _=>rfl)) fun x63 H v60 s61 hF=>?_;have z:=K5 (X7 (hF.at 0 rfl) n53) (K5 (X7 (hF.at 1 rfl) n54) (X7 (hF.at 2 rfl) n55));refine gh ?_;refine st hF 0 (hF.cells 0 rfl) fun s62 hF=>?_;have z:=K5 (X7 (hF.at 0 rfl) n53) (K5 (X7 (hF.at 1 rfl) n54) (X7 (hF.at 2 rfl) n55));refine gh ?_;refine go ?_;refine st hF 1 rfl fun s63 hF=>?_;refine go ?_;have e:=pur H;subst e;exact rg _ ⟨_,rfl,hX,K6 _⟩
       ·refine go ?_;refine st hF 1 rfl fun s64 hF=>?_;refine go ?_;have e:=pur H;subst e;exact rg _ ⟨_,rfl,hX,K6 _⟩
  ·rw [if_neg (df q)] at H;refine go ?_;obtain ⟨LL,hx36_1,H⟩:=bnd H;refine cx (Yw 14 c0 _ hx36_1 e0  _ (pre 0 1 0 hF hX)) ?_;rintro _ s65 ⟨t66,rfl,hT,hG⟩;obtain ⟨t67,hX,hF⟩:=aft 0 1 0 hF hX hT hG;refine go ?_;refine cdp H (fun h H=>?_) (fun h H=>?_)
   ·refine go ?_;obtain ⟨P3,hx41_1,H⟩:=bnd H;refine cx (Y4 [0,4,1,3] LL.2 _ hx41_1 e0  _ (pre 0 1 0 hF hX)) ?_;rintro _ s68 ⟨t69,rfl,hT,hG⟩;obtain ⟨t70,hX,hF⟩:=aft 0 1 0 hF hX hT hG;refine go ?_;refine st hF 0 rfl fun s71 hF=>?_;refine go ?_;refine st hF 1 rfl fun s72 hF=>?_;refine go ?_;have e:=pur H;subst e;exact rg _ ⟨_,rfl,hX,K6 _⟩
   ·refine go ?_;refine cdp H (fun h H=>?_) (fun h H=>?_)
    ·refine go ?_;obtain ⟨Qk4,hx47_1,H⟩:=bnd H;refine cx (JZ [zB,(Qd #[65]),(Qd #[116,111,111,108,111,110,103,97,110,97,109,101,49]),(Qd #[122]),(Qd #[120,32,121])] LL.2 _ hx47_1 e0  _ (pre 0 1 0 hF hX)) ?_;rintro _ s73 ⟨t74,rfl,hT,hG⟩;obtain ⟨t75,hX,hF⟩:=aft 0 1 0 hF hX hT hG;refine go ?_;refine st hF 0 rfl fun s76 hF=>?_;refine go ?_;refine st hF 1 rfl fun s77 hF=>?_;refine go ?_;have e:=pur H;subst e;exact rg _ ⟨_,rfl,hX,K6 _⟩
    ·refine go ?_;refine cdp H (fun h H=>?_) (fun h H=>?_)
     ·refine go ?_;obtain ⟨Qk5,hx53_1,H⟩:=bnd H;refine cx (Y4 [1000,-1,5] LL.2 _ hx53_1 e0  _ (pre 0 1 0 hF hX)) ?_;rintro _ s78 ⟨t79,rfl,hT,hG⟩;obtain ⟨t80,hX,hF⟩:=aft 0 1 0 hF hX hT hG;refine go ?_;refine st hF 0 rfl fun s81 hF=>?_;refine go ?_;refine st hF 1 rfl fun s82 hF=>?_;refine go ?_;have e:=pur H;subst e;exact rg _ ⟨_,rfl,hX,K6 _⟩
     ·refine go ?_;refine cdp H (fun h H=>?_) (fun h H=>?_)
      ·refine go ?_;obtain ⟨E,hEq⟩:∃E,E=EE s65 [e0]:=⟨_,rfl⟩
       have n83:¬E b10:=by rw [hEq];exact K8 (hF.at 0 rfl) (nm1 (neX hF 0 rfl hX 0 rfl))
       have n84:¬E b3:=by rw [hEq];exact K8 (hF.at 1 rfl) (nm1 (neX hF 1 rfl hX 0 rfl))
       have n85:¬E b1:=by rw [hEq];exact K8 (hF.at 2 rfl) (nm1 (neX hF 2 rfl hX 0 rfl))
       refine Yj E [.v,.v,.v,.v,.x,.v,.x,.v,.z] (by kernel_rfl) ?_;have z:=K5 (X7 (hF.at 0 rfl) n83) (K5 (X7 (hF.at 1 rfl) n84) (X7 (hF.at 2 rfl) n85));refine gh ?_;obtain ⟨Qov,hx61_1,H⟩:=bnd H;refine cx (Y4 [0,100,1,50] LL.2 _ hx61_1 e0  _ (pre 0 1 0 hF hX)) ?_;rintro _ s86 ⟨t87,rfl,hT,hG⟩
       refine W3 (Zb hT hG (by intro p hp;simp only [Kl,KG,or_false] at hp<;>first | (rcases hp with rfl<;>(rw [hEq];first | (refine Zf ?_;simp;done) | exact Zo rfl))| cases hp)) fun kp89=>?_
       obtain ⟨t88,hX,hF⟩:=aft 0 1 0 hF hX hT hG;have z:=K5 (X7 (hF.at 0 rfl) n83) (K5 (X7 (hF.at 1 rfl) n84) (X7 (hF.at 2 rfl) n85));refine gh ?_;refine SL (g:=cI) hF 0 H (rdo (c:=true) (g:=cI) (fun _=>rfl)) fun Qri H v90 s91 hF=>?_;have z:=K5 (X7 (hF.at 0 rfl) n83) (K5 (X7 (hF.at 1 rfl) n84) (X7 (hF.at 2 rfl) n85));refine gh ?_;refine st hF 0 (hF.cells 0 rfl) fun s92 hF=>?_;have z:=K5 (X7 (hF.at 0 rfl) n83) (K5 (X7 (hF.at 1 rfl) n84) (X7 (hF.at 2 rfl) n85));refine gh ?_;refine go ?_;refine st hF 1 rfl fun s93 hF=>?_;refine go ?_;have e:=pur H;subst e;exact rg _ ⟨_,rfl,hX,K6 _⟩
      ·refine go ?_;refine st hF 1 rfl fun s94 hF=>?_;refine go ?_;have e:=pur H;subst e;exact rg _ ⟨_,rfl,hX,K6 _⟩
theorem PX:∀(a0:List Int) r,Cp a0=some r->VP K1 46 [sf cU a0] (.tup [.agg (K0 r.1),i6 r.2]):=by
 intro a0 r H;intro σ;unfold Cp at H;refine hdg mixed Tryz.func46 (rs:=[.cell 2 34,.tmp 3]) fun q tT=>?_;have hF:=K4 σ;have hX:=Tau.none σ;refine go ?_;refine Ya hF rfl fun b1 ss2 hF=>?_;refine go ?_;obtain ⟨x7,hx7,H⟩:=bnd H;refine cx (Cg a0 _ hx7   _ (pre 0 0 0 hF hX)) ?_;rintro _ ss4 ⟨tt5,b3,rfl,hT,hG⟩;have nw7:ss2.var b3=none:=(hT.off b3 (by simp)).symm.trans (hG.var _ (List.mem_cons_self ..)).2.1;have hF:=DA 0 0 hF hX hT hG;refine go ?_;obtain ⟨x9,hx9,H⟩:=bnd H;refine cx (PY x7 _ hx9 b3  _ (pre 1 0 0 hF hX)) ?_;rintro _ s8 ⟨t9,rfl,hT,hG⟩;have hF:=DA 1 0 hF hX hT hG;refine go ?_;refine Ya hF rfl fun b11 s12 hF=>?_;refine go ?_;refine st hF 0 rfl fun s13 hF=>?_;refine go ?_;have hF:=pck hF [1,0,2] [];obtain ⟨x11,hx11,H⟩:=bnd H;refine cx (Yw 12 x9.2 _ hx11 b3  _ (pre 1 0 0 hF hX)) ?_;rintro _ s14 ⟨t15,rfl,hT,hG⟩;have hF:=DA 1 0 hF hX hT hG;have hF:=pck hF [1,0,2] [];refine go ?_;obtain ⟨⟨NL,NM,NN,NO,NQ,NR,NS⟩,j18,H⟩:=bnd H;refine Wn (fun s'=>∃(T:TT) (ss1:Sto),s'=⟨T,ss1⟩/\(T 2=.ptr b1 0/\T 4=.ptr b3 0/\T 5=.ptr b11 0)/\Fx σ ss1 [(b11,⟨34,5,[i6 NN,.str NO,i6 NQ,sf cI NR,sf K0 NS]⟩),(b3,⟨81,2,[sf cU NL,i6 NM]⟩),(b1,⟨34,5,[i6 0,.str zB,i6 0,.Yd,.Yd]⟩)] []) (cdp j18 (fun h j18=>?_) (fun h j18=>?_)) ?_
 ·refine go ?_;have hF:=pck hF [1,0,2] [];obtain ⟨x16,hx16,j18⟩:=bnd j18;refine cx (DX x9.1 x11.2 _ hx16 b3  _ (pre 1 0 0 hF hX)) ?_;rintro _ s19 ⟨t20,rfl,hT,hG⟩;have hF:=DA 1 0 hF hX hT hG;have hF:=pck hF [1,0,2] [];refine go ?_;have hF:=pck hF [1,0,2] [];obtain ⟨x17,hx17,j18⟩:=bnd j18;refine cx (DX x16.1 x16.2 _ hx17 b3  _ (pre 1 0 0 hF hX)) ?_;rintro _ s22 ⟨t23,rfl,hT,hG⟩;have hF:=DA 1 0 hF hX hT hG;have hF:=pck hF [1,0,2] [];refine go ?_;refine st hF 0 rfl fun s25 hF=>?_;refine go ?_;have e:=pur j18
  injection e with e0 e
  injection e with e1 e
  injection e with e2 e
  injection e with e3 e
  injection e with e4 e
  injection e with e5 e
  subst e0;subst e1;subst e2;subst e3;subst e4;subst e5;subst e;exact ⟨_,_,rfl,S,hF⟩
 ·refine go ?_;have e:=pur j18
  injection e with e0 e
  injection e with e1 e
  injection e with e2 e
  injection e with e3 e
  injection e with e4 e
  injection e with e5 e
  subst e0;subst e1;subst e2;subst e3;subst e4;subst e5;subst e;exact ⟨_,_,rfl,S,hF⟩
 ·rintro s' ⟨T26,s27,rfl,tT,hF⟩;refine go ?_;obtain ⟨E,hEq⟩:∃E,E=EE s27 [b3,b1]:=⟨_,rfl⟩
  have n29:¬E b11:=by rw [hEq];exact K8 (hF.at 0 rfl) (nm2 ⟨neL hF 0 1 rfl rfl (by decide),neL hF 0 2 rfl rfl (by decide)⟩)
  refine Yj E [.v,.v,.v,.x,.x,.v] (by kernel_rfl) ?_;have z:=X7 (hF.at 0 rfl) n29;refine gh ?_;have hF:=pck hF [1,0,2] [];obtain ⟨x21,hx21,H⟩:=bnd H;refine cx (Y4 [20,10,60,3,1,0,61] (Rdr.mk NL NM) _ hx21 b3  _ (pre 1 0 0 hF hX)) ?_;rintro _ s30 ⟨t31,rfl,hT,hG⟩
  refine W3 (Zb hT hG (by intro p hp;simp only [Kl,KG,or_false] at hp<;>first | (rcases hp with rfl<;>(rw [hEq];first | (refine Zf ?_;simp;done) | exact Zo nw7))| cases hp)) fun kp33=>?_
  have hF:=DA 1 0 hF hX hT hG;have hF:=pck hF [1,0,2] [];have z:=X7 (hF.at 0 rfl) n29;refine gh ?_;refine stK hF 2 (by rw [hEq];exact Zf (by simp)) rfl fun s34 hF=>?_;have z:=X7 (hF.at 0 rfl) n29;refine gh ?_;refine go ?_;have e:=pur H;subst e;exact rt [.agg [i6 NN,.str NO,i6 NQ,sf cI NR,sf K0 NS],i6 x21.1]
theorem EK:∀  r,IZ  = some r->VP K1 29 [] (sf cS r):=by
 intro  r H;intro σ;unfold IZ at H;refine hdg mixed Tryz.func29 (rs:=[.tmp 0]) fun q tT=>?_;have hF:=K4 σ;have hX:=Tau.none σ;refine go ?_;have e:=pur H;subst e;exact rt _
theorem C6:∀(x5:List ByteArray) (X9:List Bnd) (YF:Int) out,YQ x5 X9 YF=some out->∀c,Yg Tryz.f12 0=some c->∀(Q:QT) (tt:Sto) (b1 b3:Nat),(∀(Vz:List Bnd),out=Vz->∀(T:TT) (σ:Sto) (e0v0:AV),T 0=.ptr b1 0/\T 1=.ptr b3 0->Fx tt σ [(b3,⟨30,5,[e0v0,.Yd,i6 0,i6 10,i6 0]⟩),(b1,⟨30,5,[.Yd,.Yd,i6 0,i6 0,i6 0]⟩)] [⟨e0v0,53,3,rws K2 Vz⟩]->Q (.ex 0) ⟨T,σ⟩)->True->∀(T:TT) (σ:Sto) (z0v0:AV),T 0=.ptr b1 0/\T 1=.ptr b3 0/\T 2=sf cS x5/\T 3=i6 YF->Fx tt σ [(b3,⟨30,5,[z0v0,.Yd,i6 0,i6 10,i6 0]⟩),(b1,⟨30,5,[.Yd,.Yd,i6 0,i6 0,i6 0]⟩)] [⟨z0v0,53,3,rws K2 X9⟩]->aLp K1 c Q ⟨T,σ⟩:=by
 intro x5 X9 YF;revert X9 YF;refine YQ.partial_correctness x5 _ ?_;intro YQ IH X9 YF out H c hc Q tt b1 b3 hE hR T σ z0v0 tT hF;refine lpx tt hc rfl fun q hX=>go ?_;refine cdp H (fun h H=>?_) (fun h H=>?_)
 ·refine go ?_;refine Yj E0 [.v,.v,.v,.v,.v,.v,.v,.v,.v,.x,.v,.z] (by kernel_rfl) ?_;obtain ⟨x16,f1,H⟩:=bil (g:=cS) (fun _=>rfl) H;refine go1 ?_;refine Qrt (g:=K2) (rows:=[[.str x16,.Yd,i6 YF]]) hF 0 H Bnd.X6 true rfl (by simp only [sf,i6,zB,Vn,VQ,cI,cU,cS,cL,Bnd.Yb,Zp,Zq,Fm.num,Fm.sc,Zr,Zg,Zc,Zs,Zh,Zi,Zy,Zj,Zt,Zu,Zk,Zl,Zm,Zv,Zn,Zd,Zz,Zw,ZA,Zx,Qr,K9,KK,Kj,QU];exact (.cons (.refl _) id (.cons .Yd (fun _=>rfl) (.cons (.refl _) id .nil)))) fun x21 H v6 s7 hF=>?_;refine go ?_;refine st hF 0 (hF.cells 0 rfl) fun s8 hF=>?_;refine go ?_;exact IH  x21 (i64.wrap (YF+1)) _ H _ rfl Q tt b1 b3 hE hR _ _ v6 S hF
 ·refine go ?_;exact wq (hE _ (pur H).symm _ _ z0v0 S hF)
theorem Bb:∀  r,VJ  = some r->VP K1 12 [] (.agg (Za r)):=by
 intro  r H;intro σ;unfold VJ at H;refine hdg mixed Tryz.func12 (rs:=[.cell 0 30]) fun q tT=>?_;have hF:=K4 σ;have hX:=Tau.none σ;refine go ?_;refine Ya hF rfl fun b1 ss2 hF=>?_;refine go ?_;refine Ya hF rfl fun b3 ss4 hF=>?_;refine go ?_;refine st hF 0 rfl fun ss5 hF=>?_;refine go ?_;refine bp H (EK ) fun x5 h H=>cl h ?_;have hF:=hF.nil 53 3;refine go ?_;obtain ⟨o9,ho9,H⟩:=bnd H;refine C6 x5 [] 1 _ ho9 _ rfl _ _ b1 b3 ?_ ?_ _ _ .Yd S hF
 ·intro Ee he T11 s12 e10v0 tT hF;have he:=he.symm;subst he;refine go ?_;refine st hF 1 rfl fun s14 hF=>?_;refine go ?_;have e:=pur H;subst e;exact rt _
 ·trivial
theorem Nb:∀(a0:List Int) (a1 Yh:Int) out,Gb a0 a1 Yh=some out->∀c,Yg Tryz.f156 0=some c->∀(Q:QT) (tt:Sto),(∀(_u:Unit),out=Sum.inr ()->∀(T:TT) (σ:Sto),0+0=0->Fx tt σ [] []->Q (.ex 0) ⟨T,σ⟩)->(∀r,out=Sum.inl r->∀s',ID K1 [.tmp 4] (fun r' ss'=>r'=.bool r/\ss'=tt) s'->Q .ret s')->∀(T:TT) (σ:Sto),T 0=sf cI a0/\T 1=i6 a1/\T 5=i6 Yh->Fx tt σ [] []->aLp K1 c Q ⟨T,σ⟩:=by
 intro a0 a1 Yh;revert Yh;refine Gb.partial_correctness a0 a1 _ ?_;intro Gb IH Yh out H c hc Q tt  hE hR T σ tT hF;refine lpx tt hc rfl fun q hX=>go ?_;refine cdp H (fun h H=>?_) (fun h H=>?_)
 ·obtain ⟨x14,f1,H⟩:=bil (g:=cI) (fun _=>rfl) H;refine go1 ?_;refine go ?_;refine cdp H (fun h H=>?_) (fun h H=>?_)
  ·refine go ?_;exact wq (hR _ (pur H).symm _ (rt _))
  ·refine go ?_;exact IH  (i64.wrap (Yh+1)) _ H _ rfl Q tt  hE hR _ _  S hF
 ·refine go ?_;exact wq (hE () (pur H).symm _ _  S hF)
theorem A1:∀(a0:List Int) (a1:Int) r,GG a0 a1=some r->VP K1 156 [sf cI a0,i6 a1] (.bool r):=by
 intro a0 a1 r H;intro σ;unfold GG at H;refine hdg mixed Tryz.func156 (rs:=[.tmp 4]) fun q tT=>?_;have hF:=K4 σ;have hX:=Tau.none σ;refine go ?_;obtain ⟨o1,ho1,H⟩:=bnd H;refine Nb a0 a1 0 _ ho1 _ rfl _ _  ?_ ?_ _ _  S hF
 ·intro _ he T3 ss4 tT hF;have he:=he.symm;subst he
  try dsimp only at H
  refine go ?_;have e:=pur H;subst e;exact rt _
 ·intro r hr s' hs;subst hr;have e:=pur H;subst e;exact hsq hs
theorem DQ:∀(a0 a1:List Int) (Yh:Int) out,VO a0 a1 Yh=some out->∀c,Yg Tryz.f161 0=some c->∀(Q:QT) (tt:Sto),(∀(_u:Unit),out=Sum.inr ()->∀(T:TT) (σ:Sto),0+0=0->Fx tt σ [] []->Q (.ex 0) ⟨T,σ⟩)->(∀r,out=Sum.inl r->∀s',ID K1 [.tmp 4] (fun r' ss'=>r'=.bool r/\ss'=tt) s'->Q .ret s')->∀(T:TT) (σ:Sto),T 0=sf cI a0/\T 1=sf cI a1/\T 5=i6 Yh->Fx tt σ [] []->aLp K1 c Q ⟨T,σ⟩:=by
 intro a0 a1 Yh;revert Yh;refine VO.partial_correctness a0 a1 _ ?_;intro VO IH Yh out H c hc Q tt  hE hR T σ tT hF;refine lpx tt hc rfl fun q hX=>go ?_;refine cdp H (fun h H=>?_) (fun h H=>?_)
 ·obtain ⟨x15,f1,H⟩:=bil (g:=cI) (fun _=>rfl) H;refine go1 ?_;refine bp H (A1 a1 x15) fun x17 h H=>cl h ?_;refine go ?_;refine cdb H (fun h H=>?_) (fun h H=>?_)
  ·refine go ?_;exact wq (hR _ (pur H).symm _ (rt _))
  ·refine go ?_;exact IH  (i64.wrap (Yh+1)) _ H _ rfl Q tt  hE hR _ _  S hF
 ·refine go ?_;exact wq (hE () (pur H).symm _ _  S hF)
theorem BP:∀(a0 a1:List Int) r,WL a0 a1=some r->VP K1 161 [sf cI a0,sf cI a1] (.bool r):=by
 intro a0 a1 r H;intro σ;unfold WL at H;refine hdg mixed Tryz.func161 (rs:=[.tmp 4]) fun q tT=>?_;have hF:=K4 σ;have hX:=Tau.none σ;refine go ?_;obtain ⟨o1,ho1,H⟩:=bnd H;refine DQ a0 a1 0 _ ho1 _ rfl _ _  ?_ ?_ _ _  S hF
 ·intro _ he T3 ss4 tT hF;have he:=he.symm;subst he
  try dsimp only at H
  refine go ?_;have e:=pur H;subst e;exact rt _
 ·intro r hr s' hs;subst hr;have e:=pur H;subst e;exact hsq hs
theorem E9:∀(a0:List Bnd) (a1:Fm) (X9:List Int) (YS:Int) out,V3 a0 a1 X9 YS=some out->∀c,Yg Tryz.f160 0=some c->∀(Q:QT) (tt:Sto) (b1:Nat),(∀(Vz:List Int),out=Vz->∀(T:TT) (σ:Sto) (e0v0:AV),T 5=e0v0->Fx tt σ [(b1,⟨34,5,[i6 a1.kind,.str a1.name,i6 a1.num,sf cI a1.sc,sf K0 a1.kids]⟩)] [⟨e0v0,3,1,rws cI Vz⟩]->Q (.ex 0) ⟨T,σ⟩)->True->∀(T:TT) (σ:Sto) (z0v0:AV),T 0=sf K2 a0/\T 3=.ptr b1 0/\T 5=z0v0/\T 6=i6 YS->Fx tt σ [(b1,⟨34,5,[i6 a1.kind,.str a1.name,i6 a1.num,sf cI a1.sc,sf K0 a1.kids]⟩)] [⟨z0v0,3,1,rws cI X9⟩]->aLp K1 c Q ⟨T,σ⟩:=by
 intro a0 a1 X9 YS;revert X9 YS;refine V3.partial_correctness a0 a1 _ ?_;intro V3 IH X9 YS out H c hc Q tt b1 hE hR T σ z0v0 tT hF;refine lpx tt hc rfl fun q hX=>go ?_;refine cdp H (fun h H=>?_) (fun h H=>?_)
 ·refine go ?_;refine Yj E0 [.v,.v,.v,.v,.v,.v,.v,.v,.v,.v,.v,.v,.v,.v,.v,.v,.v,.v] (by kernel_rfl) ?_;obtain ⟨x16,f1,H⟩:=bil (g:=K2) Bnd.X6 H;refine go1 ?_;obtain ⟨x31,g3,H⟩:=bnd H;refine V0 8 23 31 (.bool x31) (ti q (fun q=>?_) (fun q=>?_)) (fun J=>?_)
  ·rw [if_pos (dt q)] at g3;obtain ⟨x25,f1,g3⟩:=bil (g:=K2) Bnd.X6 g3;refine go1 ?_;obtain ⟨x30,hx30,g3⟩:=bnd g3;refine cv (BP x25.sc a1.sc _ hx30) ?_;refine go ?_;exact Yt 23 g3
  ·rw [if_neg (df q)] at g3;refine go ?_;exact Yt 23 g3
  refine go ?_;refine cdb H (fun h H=>?_) (fun h H=>?_)
  ·refine go ?_;refine apd (g:=cI) hF 0 H (rdo (c:=true) (g:=cI) (fun _=>rfl)) fun x35 H v5 ss6 hF=>?_;refine go ?_;exact IH  x35 (i64.wrap (YS+1)) _ H _ rfl Q tt b1 hE hR _ _ v5 S hF
  ·refine go ?_;exact IH  X9 (i64.wrap (YS+1)) _ H _ rfl Q tt b1 hE hR _ _ z0v0 S hF
 ·refine go ?_;exact wq (hE _ (pur H).symm _ _ z0v0 S hF)
theorem Mr:∀(a0:List Bnd) (a1:Fm) r,Am a0 a1=some r->VP K1 160 [sf K2 a0,.agg (K0 a1)] (sf cI r):=by
 intro a0 a1 r H;intro σ;unfold Am at H;refine hdg mixed Tryz.func160 (rs:=[.tmp 4]) fun q tT=>?_;have hF:=K4 σ;have hX:=Tau.none σ;refine go ?_;refine Ya hF rfl fun b1 ss2 hF=>?_;have hF:=hF.lit 3 1 (rws cI []) rfl;refine go ?_;obtain ⟨o7,ho7,H⟩:=bnd H;refine E9 a0 a1 [] 0 _ ho7 _ rfl _ _ b1 ?_ ?_ _ _ (.sl true (rws cI [])) S hF
 ·intro Qgj he T9 s10 e8v0 tT hF;have he:=he.symm;subst he;refine go ?_;have e:=pur H;subst e;exact rt _
 ·trivial
theorem Mq:∀(a0:List Bnd) (a1:Fm) (x12:List Int) (Ym:Int) (Je:Bool) (H4:Int) out,WZ a0 a1 x12 Ym Je H4=some out->∀c,Yg Tryz.f138 1=some c->∀(Q:QT) (tt:Sto) (b1:Nat),(∀(Qgg:Bool),out=Qgg->∀(T:TT) (σ:Sto),T 0=sf K2 a0/\T 6=sf cI x12/\T 7=i6 Ym/\T 8=.bool Qgg->Fx tt σ [(b1,⟨34,5,[i6 a1.kind,.str a1.name,i6 a1.num,sf cI a1.sc,sf K0 a1.kids]⟩)] []->Q (.ex 2) ⟨T,σ⟩)->True->∀(T:TT) (σ:Sto),T 0=sf K2 a0/\T 6=sf cI x12/\T 7=i6 Ym/\T 8=.bool Je/\T 9=i6 H4->Fx tt σ [(b1,⟨34,5,[i6 a1.kind,.str a1.name,i6 a1.num,sf cI a1.sc,sf K0 a1.kids]⟩)] []->aLp K1 c Q ⟨T,σ⟩:=by
 intro a0 a1 x12 Ym Je H4;revert Je H4;refine WZ.partial_correctness a0 a1 x12 Ym _ ?_;intro WZ IH Je H4 out H c hc Q tt b1 hE hR T σ tT hF;refine lpx tt hc rfl fun q hX=>go ?_;refine cdp H (fun h H=>?_) (fun h H=>?_)
 ·refine go ?_;refine Yj E0 [.v,.v,.v,.v,.v,.v,.v,.v,.v,.v,.v,.v,.v,.v,.v,.v,.v,.v,.v,.v,.v] (by kernel_rfl) ?_;refine go ?_;obtain ⟨x44,g3,H⟩:=bnd H;refine V0 17 27 44 (.bool x44) (ti q (fun q=>?_) (fun q=>?_)) (fun J=>?_)
  ·rw [if_pos (dbt q)] at g3;obtain ⟨x30,f1,g3⟩:=bil (g:=cI) (fun _=>rfl) g3;obtain ⟨x32,f2,g3⟩:=bil (g:=K2) Bnd.X6 g3;obtain ⟨x38,f3,g3⟩:=bil (g:=cI) (fun _=>rfl) g3;obtain ⟨x40,f4,g3⟩:=bil (g:=K2) Bnd.X6 g3;refine go4 ?_;obtain ⟨x43,hx43,g3⟩:=bnd g3;refine cv (BP x32.sc x40.sc _ hx43) ?_;refine go ?_;exact Yt 27 g3
  ·rw [if_neg (dbf q)] at g3;refine go ?_;exact Yt 27 g3
  refine go ?_;exact IH  x44 (i64.wrap (H4+1)) _ H _ rfl Q tt b1 hE hR _ _  S hF
 ·refine go ?_;exact wq (hE _ (pur H).symm _ _  S hF)
theorem Mp:∀(a0:List Bnd) (a1:Fm) (x12:List Int) (Ym:Int) out,JC a0 a1 x12 Ym=some out->∀c,Yg Tryz.f138 0=some c->∀(Q:QT) (tt:Sto) (b1:Nat),(∀(_u:Unit),out=Sum.inr ()->∀(T:TT) (σ:Sto),T 6=sf cI x12->Fx tt σ [(b1,⟨34,5,[i6 a1.kind,.str a1.name,i6 a1.num,sf cI a1.sc,sf K0 a1.kids]⟩)] []->Q (.ex 0) ⟨T,σ⟩)->(∀r,out=Sum.inl r->∀s',ID K1 [.tmp 4,.tmp 5] (fun r' ss'=>r'=.tup [i6 r.1,i6 r.2]/\ss'=tt) s'->Q .ret s')->∀(T:TT) (σ:Sto),T 0=sf K2 a0/\T 6=sf cI x12/\T 7=i6 Ym->Fx tt σ [(b1,⟨34,5,[i6 a1.kind,.str a1.name,i6 a1.num,sf cI a1.sc,sf K0 a1.kids]⟩)] []->aLp K1 c Q ⟨T,σ⟩:=by
 intro a0 a1 x12 Ym;revert Ym;refine JC.partial_correctness a0 a1 x12 _ ?_;intro JC IH Ym out H c hc Q tt b1 hE hR T σ tT hF;refine lpx tt hc rfl fun q hX=>go ?_;refine cdp H (fun h H=>?_) (fun h H=>?_)
 ·refine go ?_;obtain ⟨o5,ho5,H⟩:=bnd H;refine Mq a0 a1 x12 Ym true 0 _ ho5 _ rfl _ _ b1 ?_ ?_ _ _  S hF
  ·intro Qje he T7 s8 tT hF;have he:=he.symm;subst he;refine go ?_;refine cdb H (fun h H=>?_) (fun h H=>?_)
   ·obtain ⟨x48,f1,H⟩:=bil (g:=cI) (fun _=>rfl) H;refine go1 ?_;refine go ?_;exact wq (hR _ (pur H).symm _ (rt _))
   ·refine go ?_;exact IH  (i64.wrap (Ym+1)) _ H _ rfl Q tt b1 hE hR _ _  S hF
  ·trivial
 ·refine go ?_;exact wq (hE () (pur H).symm _ _  S hF)
theorem C9:∀(a0:List Bnd) (a1:Fm) r,Au a0 a1=some r->VP K1 138 [sf K2 a0,.agg (K0 a1)] (.tup [i6 r.1,i6 r.2]):=by
 intro a0 a1 r H;intro σ;unfold Au at H;refine hdg mixed Tryz.func138 (rs:=[.tmp 4,.tmp 5]) fun q tT=>?_;have hF:=K4 σ;have hX:=Tau.none σ;refine go ?_;refine Ya hF rfl fun b1 ss2 hF=>?_;refine go ?_;refine bp H (Mr a0 a1) fun x12 h H=>cl h ?_;refine go ?_;obtain ⟨o10,ho10,H⟩:=bnd H;refine Mp a0 a1 x12 0 _ ho10 _ rfl _ _ b1 ?_ ?_ _ _  S hF
 ·intro _ he T12 s13 tT hF;have he:=he.symm;subst he
  try dsimp only at H
  refine go ?_;refine cdp H (fun h H=>?_) (fun h H=>?_)
  ·refine go ?_;have e:=pur H;subst e;exact rt _
  ·refine go ?_;have e:=pur H;subst e;exact rt _
 ·intro r hr s' hs;subst hr;have e:=pur H;subst e;exact hsq hs
theorem LD:∀(a0:Xpn) (a1 Yh:Int) out,Ja a0 a1 Yh=some out->∀c,Yg Tryz.f139 0=some c->∀(Q:QT) (tt:Sto) (b1:Nat),(∀(_u:Unit),out=Sum.inr ()->∀(T:TT) (σ:Sto),0+0=0->Fx tt σ [(b1,⟨30,5,[sf K2 a0.binds,sf Ze a0.macs,i6 a0.scope,i6 a0.id,i6 a0.steps]⟩)] []->Q (.ex 0) ⟨T,σ⟩)->(∀r,out=Sum.inl r->∀s',ID K1 [.tmp 4] (fun r' ss'=>r'=i6 r/\ss'=tt) s'->Q .ret s')->∀(T:TT) (σ:Sto),T 1=i6 a1/\T 2=.ptr b1 0/\T 5=i6 Yh->Fx tt σ [(b1,⟨30,5,[sf K2 a0.binds,sf Ze a0.macs,i6 a0.scope,i6 a0.id,i6 a0.steps]⟩)] []->aLp K1 c Q ⟨T,σ⟩:=by
 intro a0 a1 Yh;revert Yh;refine Ja.partial_correctness a0 a1 _ ?_;intro Ja IH Yh out H c hc Q tt b1 hE hR T σ tT hF;refine lpx tt hc rfl fun q hX=>go ?_;refine cdp H (fun h H=>?_) (fun h H=>?_)
 ·obtain ⟨x16,f1,H⟩:=bil (g:=Ze) Mac.X6 H;refine go1 ?_;refine go ?_;refine cdp H (fun h H=>?_) (fun h H=>?_)
  ·refine go ?_;exact wq (hR _ (pur H).symm _ (rt _))
  ·refine go ?_;exact IH  (i64.wrap (Yh+1)) _ H _ rfl Q tt b1 hE hR _ _  S hF
 ·refine go ?_;exact wq (hE () (pur H).symm _ _  S hF)
theorem EJ:∀(a0:Xpn) (a1:Int) r,AK a0 a1=some r->VP K1 139 [.agg (Za a0),i6 a1] (i6 r):=by
 intro a0 a1 r H;intro σ;unfold AK at H;refine hdg mixed Tryz.func139 (rs:=[.tmp 4]) fun q tT=>?_;have hF:=K4 σ;have hX:=Tau.none σ;refine go ?_;refine Ya hF rfl fun b1 ss2 hF=>?_;refine go ?_;obtain ⟨o3,ho3,H⟩:=bnd H;refine LD a0 a1 0 _ ho3 _ rfl _ _ b1 ?_ ?_ _ _  S hF
 ·intro _ he T5 ss6 tT hF;have he:=he.symm;subst he
  try dsimp only at H
  refine go ?_;have e:=pur H;subst e;exact rt _
 ·intro r hr s' hs;subst hr;have e:=pur H;subst e;exact hsq hs
theorem Dv:∀(a0:Xpn) (a1:Fm) r,IC a0 a1=some r->VP K1 112 [.agg (Za a0),.agg (K0 a1)] (.tup [i6 r.1,i6 r.2]):=by
 intro a0 a1 r H;intro σ;unfold IC at H;refine hdg mixed Tryz.func112 (rs:=[.tmp 4,.tmp 5]) fun q tT=>?_;have hF:=K4 σ;have hX:=Tau.none σ;refine go ?_;refine Ya hF rfl fun b1 ss2 hF=>?_;refine go ?_;refine Ya hF rfl fun b3 ss4 hF=>?_;refine go ?_;refine bp H (C9 a0.binds a1) fun x13 h H=>cl h ?_;refine go ?_;refine cdp H (fun h H=>?_) (fun h H=>?_)
 ·refine go ?_;have e:=pur H;subst e;exact rt _
 ·refine go ?_;refine cdp H (fun h H=>?_) (fun h H=>?_)
  ·refine go ?_;have e:=pur H;subst e;exact rt _
  ·obtain ⟨x24,f1,H⟩:=bil (g:=K2) Bnd.X6 H;refine go1 ?_;refine go ?_;refine cdp H (fun h H=>?_) (fun h H=>?_)
   ·refine go ?_;have e:=pur H;subst e;exact rt _
   ·refine go ?_;refine bp H (EJ a0 x24.id) fun x34 h H=>cl h ?_;refine go ?_;refine cdp H (fun h H=>?_) (fun h H=>?_)
    ·refine go ?_;have e:=pur H;subst e;exact rt _
    ·refine go ?_;have e:=pur H;subst e;exact rt _
theorem PZ:∀(a0:Xpn) (a1:Fm) r,Cs a0 a1=some r->VP K1 122 [.agg (Za a0),.agg (K0 a1)] (.tup [.agg (Za r.1),.agg (Cor.cells r.2.1),i6 r.2.2]):=by
 intro a0 a1 r H;intro σ;unfold Cs at H;refine hdg mixed Tryz.func122 (rs:=[.cell 4 30,.cell 5 105,.tmp 6]) fun q tT=>?_;have hF:=K4 σ;have hX:=Tau.none σ;refine go ?_;refine Ya hF rfl fun b1 ss2 hF=>?_;refine go ?_;refine Ya hF rfl fun b3 ss4 hF=>?_;refine go ?_;refine Ya hF rfl fun b5 ss6 hF=>?_;refine go ?_;refine Ya hF rfl fun b7 s8 hF=>?_;refine go ?_;refine bp H (Dv a0 a1) fun x12 h H=>cl h ?_;refine go ?_;refine cdp H (fun h H=>?_) (fun h H=>?_)
 ·refine go ?_;obtain ⟨E,hEq⟩:∃E,E=EE s8 [b5,b7]:=⟨_,rfl⟩
  have n9:¬E b3:=by rw [hEq];exact K8 (hF.at 2 rfl) (nm2 ⟨neL hF 2 1 rfl rfl (by decide),neL hF 2 0 rfl rfl (by decide)⟩)
  have n10:¬E b1:=by rw [hEq];exact K8 (hF.at 3 rfl) (nm2 ⟨neL hF 3 1 rfl rfl (by decide),neL hF 3 0 rfl rfl (by decide)⟩)
  refine Yj E [.v,.v,.v,.v,.x,.x,.v] (by kernel_rfl) ?_;have z:=K5 (X7 (hF.at 2 rfl) n9) (X7 (hF.at 3 rfl) n10);refine gh ?_;refine stK hF 1 (by rw [hEq];exact Zf (by simp)) rfl fun s11 hF=>?_;have z:=K5 (X7 (hF.at 2 rfl) n9) (X7 (hF.at 3 rfl) n10);refine gh ?_;refine stK hF 0 (by rw [hEq];exact Zf (by simp)) rfl fun s12 hF=>?_;have z:=K5 (X7 (hF.at 2 rfl) n9) (X7 (hF.at 3 rfl) n10);refine gh ?_;refine go ?_;have e:=pur H;subst e;exact rt [.agg [sf K2 a0.binds,sf Ze a0.macs,i6 a0.scope,i6 a0.id,i6 a0.steps],.agg [i6 2,i6 0,.str a1.name,i6 0,.Yd,i6 0,.str zB,i6 0,.Yd,.Yd,.Yd],i6 0]
 ·refine go ?_;refine cdp H (fun h H=>?_) (fun h H=>?_)
  ·refine go ?_;refine st hF 1 rfl fun s13 hF=>?_;refine go ?_;refine st hF 0 rfl fun s14 hF=>?_;refine go ?_;have e:=pur H;subst e;exact rt _
  ·refine go ?_;refine cdp H (fun h H=>?_) (fun h H=>?_)
   ·refine go ?_;refine st hF 1 rfl fun s15 hF=>?_;refine go ?_;refine st hF 0 rfl fun s16 hF=>?_;refine go ?_;have e:=pur H;subst e;exact rt _
   ·refine go ?_;refine st hF 1 rfl fun s17 hF=>?_;refine go ?_;refine st hF 0 rfl fun s18 hF=>?_;refine go ?_;have e:=pur H;subst e;exact rt _
theorem Dr:∀(a0:Fm) r,WW a0=some r->VP K1 20 [.agg (K0 a0)] (.agg (K0 r)):=by
 refine WW.partial_correctness _ (motive_2:=fun a0 X9 YA out=>∀c,Yg Tryz.f20 0=some c->∀(Q:QT) (tt:Sto) (b1 b3 b5:Nat),(∀(Vz:List Fm),out=Vz->∀(T:TT) (σ:Sto) (e0v0:AV),T 2=.ptr b3 0/\T 3=.ptr b5 0->Fx tt σ [(b5,⟨34,5,[i6 a0.kind,.str a0.name,i6 a0.num,.Yd,e0v0]⟩),(b3,⟨34,5,[i6 0,.str zB,i6 0,.Yd,.Yd]⟩),(b1,⟨34,5,[i6 a0.kind,.str a0.name,i6 a0.num,sf cI a0.sc,sf K0 a0.kids]⟩)] [⟨e0v0,34,5,rws K0 Vz⟩]->Q (.ex 0) ⟨T,σ⟩)->True->∀(T:TT) (σ:Sto) (z0v0:AV),T 1=.ptr b1 0/\T 2=.ptr b3 0/\T 3=.ptr b5 0/\T 4=i6 YA->Fx tt σ [(b5,⟨34,5,[i6 a0.kind,.str a0.name,i6 a0.num,.Yd,z0v0]⟩),(b3,⟨34,5,[i6 0,.str zB,i6 0,.Yd,.Yd]⟩),(b1,⟨34,5,[i6 a0.kind,.str a0.name,i6 a0.num,sf cI a0.sc,sf K0 a0.kids]⟩)] [⟨z0v0,34,5,rws K0 X9⟩]->aLp K1 c Q ⟨T,σ⟩) ?_ ?_
 ·intro WO L0 a0 r H;intro σ;refine hdg mixed Tryz.func20 (rs:=[.cell 2 34]) fun q tT=>?_;have hF:=K4 σ;have hX:=Tau.none σ;refine go ?_;refine Ya hF rfl fun b1 ss2 hF=>?_;refine go ?_;refine Ya hF rfl fun b3 ss4 hF=>?_;refine go ?_;refine Ya hF rfl fun b5 ss6 hF=>?_;refine go ?_;refine st hF 0 rfl fun s7 hF=>?_;have hF:=hF.nil 34 5;refine go ?_;obtain ⟨o11,ho11,H⟩:=bnd H;refine L0 a0 [] 0 _ ho11 _ rfl _ _ b1 b3 b5 ?_ ?_ _ _ .Yd S hF
  ·intro MN he T13 s14 e12v0 tT hF;have he:=he.symm;subst he;refine go ?_;refine st hF 1 rfl fun s16 hF=>?_;refine go ?_;have e:=pur H;subst e;exact rt _
  ·trivial
 ·intro WW WO C0 L0 a0 X9 YA out H c hc Q tt b1 b3 b5 hE hR T σ z0v0 tT hF;refine lpx tt hc rfl fun q hX=>go ?_;refine cdp H (fun h H=>?_) (fun h H=>?_)
  ·refine go ?_;refine Yj E0 [.v,.v,.v,.v,.v,.v,.v,.v,.v,.x,.v,.z] (by kernel_rfl) ?_;obtain ⟨x24,f1,H⟩:=bil (g:=K0) Fm.X6 H;refine go1 ?_;refine bp H (C0 x24) fun x26 h H=>cv h ?_;refine go ?_;refine SL (g:=K0) hF 0 H (rdo (c:=true) (g:=K0) Fm.X6) fun x28 H v8 s9 hF=>?_;refine go ?_;refine st hF 0 (hF.cells 0 rfl) fun s10 hF=>?_;refine go ?_;exact L0 a0 x28 (i64.wrap (YA+1)) _ H _ rfl Q tt b1 b3 b5 hE hR _ _ v8 S hF
  ·refine go ?_;exact wq (hE _ (pur H).symm _ _ z0v0 S hF)
theorem Ct:∀(a0:Xpn) r,I0 a0=some r->VP K1 162 [.agg (Za a0)] (.tup [.agg (Za r.1),.bool r.2]):=by
 intro a0 r H;intro σ;unfold I0 at H;refine hdg mixed Tryz.func162 (rs:=[.cell 2 30,.tmp 3]) fun q tT=>?_;have hF:=K4 σ;have hX:=Tau.none σ;refine go ?_;refine Ya hF rfl fun b1 ss2 hF=>?_;refine go ?_;refine Ya hF rfl fun b3 ss4 hF=>?_;refine go ?_;refine st hF 1 rfl fun ss5 hF=>?_;refine go ?_;obtain ⟨E,hEq⟩:∃E,E=EE ss5 [b3]:=⟨_,rfl⟩
 have n6:¬E b1:=by rw [hEq];exact K8 (hF.at 1 rfl) (nm1 (neL hF 1 0 rfl rfl (by decide)))
 refine Yj E [.v,.v,.v,.v,.x,.v] (by kernel_rfl) ?_;have z:=X7 (hF.at 1 rfl) n6;refine gh ?_;refine stK hF 0 (by rw [hEq];exact Zf (by simp)) rfl fun s7 hF=>?_;have z:=X7 (hF.at 1 rfl) n6;refine gh ?_;refine go ?_;have e:=pur H;subst e;exact rt [.agg [sf K2 a0.binds,sf Ze a0.macs,i6 (i64.wrap (a0.scope+1)),i6 a0.id,i6 a0.steps],.bool (decide ((i64.wrap (a0.scope+1))<=99))]
theorem Mo:∀(a0:List Int) (a1:Int) (X9:List Int) (YS:Int) out,WY a0 a1 X9 YS=some out->∀c,Yg Tryz.f165 0=some c->∀(Q:QT) (tt:Sto),(∀(Vz:List Int),out=Vz->∀(T:TT) (σ:Sto) (e0v0:AV),T 5=e0v0->Fx tt σ [] [⟨e0v0,3,1,rws cI Vz⟩]->Q (.ex 0) ⟨T,σ⟩)->True->∀(T:TT) (σ:Sto) (z0v0:AV),T 0=sf cI a0/\T 1=i6 a1/\T 5=z0v0/\T 6=i6 YS->Fx tt σ [] [⟨z0v0,3,1,rws cI X9⟩]->aLp K1 c Q ⟨T,σ⟩:=by
 intro a0 a1 X9 YS;revert X9 YS;refine WY.partial_correctness a0 a1 _ ?_;intro WY IH X9 YS out H c hc Q tt  hE hR T σ z0v0 tT hF;refine lpx tt hc rfl fun q hX=>go ?_;refine cdp H (fun h H=>?_) (fun h H=>?_)
 ·obtain ⟨x16,f1,H⟩:=bil (g:=cI) (fun _=>rfl) H;refine go1 ?_;refine go ?_;refine cdn H (fun h H=>?_) (fun h H=>?_)
  ·obtain ⟨x23,f1,H⟩:=bil (g:=cI) (fun _=>rfl) H;refine go1 ?_;refine apd (g:=cI) hF 0 H (rdo (c:=true) (g:=cI) (fun _=>rfl)) fun x26 H v1 ss2 hF=>?_;refine go ?_;exact IH  x26 (i64.wrap (YS+1)) _ H _ rfl Q tt  hE hR _ _ v1 S hF
  ·refine go ?_;exact IH  X9 (i64.wrap (YS+1)) _ H _ rfl Q tt  hE hR _ _ z0v0 S hF
 ·refine go ?_;exact wq (hE _ (pur H).symm _ _ z0v0 S hF)
theorem PJ:∀(a0:List Int) (a1:Int) r,Bm a0 a1=some r->VP K1 165 [sf cI a0,i6 a1] (sf cI r):=by
 intro a0 a1 r H;intro σ;unfold Bm at H;refine hdg mixed Tryz.func165 (rs:=[.tmp 4]) fun q tT=>?_;have hF:=K4 σ;have hX:=Tau.none σ;have hF:=hF.lit 3 1 (rws cI []) rfl;refine go ?_;obtain ⟨o3,ho3,H⟩:=bnd H;refine Mo a0 a1 [] 0 _ ho3 _ rfl _ _  ?_ ?_ _ _ (.sl true (rws cI [])) S hF
 ·intro Qpp he T5 ss6 e4v0 tT hF;have he:=he.symm;subst he;refine go ?_;have e:=pur H;subst e;exact rt _
 ·trivial
theorem Nc:∀(a0:List Int) (a1:Int) (X9:List Int) (YS:Bool) (Ym:Int) out,Gc a0 a1 X9 YS Ym=some out->∀c,Yg Tryz.f166 0=some c->∀(Q:QT) (tt:Sto),(∀(Vz:List Int) (Qpn:Bool),out=(Vz,Qpn)->∀(T:TT) (σ:Sto) (e0v0:AV),T 1=i6 a1/\T 5=e0v0/\T 6=.bool Qpn->Fx tt σ [] [⟨e0v0,3,1,rws cI Vz⟩]->Q (.ex 0) ⟨T,σ⟩)->True->∀(T:TT) (σ:Sto) (z0v0:AV),T 0=sf cI a0/\T 1=i6 a1/\T 5=z0v0/\T 6=.bool YS/\T 7=i6 Ym->Fx tt σ [] [⟨z0v0,3,1,rws cI X9⟩]->aLp K1 c Q ⟨T,σ⟩:=by
 intro a0 a1 X9 YS Ym;revert X9 YS Ym;refine Gc.partial_correctness a0 a1 _ ?_;intro Gc IH X9 YS Ym out H c hc Q tt  hE hR T σ z0v0 tT hF;refine lpx tt hc rfl fun q hX=>go ?_;refine cdp H (fun h H=>?_) (fun h H=>?_)
 ·refine go ?_;obtain ⟨x27,g1,H⟩:=bnd H;refine Yc 6 21 27 (.bool x27) (gi q (fun q=>?_) (fun q=>?_)) (fun J=>?_)
  ·rw [if_pos (dbt q)] at g1;obtain ⟨x23,f1,g1⟩:=bil (g:=cI) (fun _=>rfl) g1;refine go1 ?_;refine go ?_;exact Yt 21 g1
  ·rw [if_neg (dbf q)] at g1;refine go ?_;exact Yt 21 g1
  refine go ?_;obtain ⟨⟨AN,Qd9⟩,j4,H⟩:=bnd H;refine Wn (fun s'=>∃(T:TT) (ss1:Sto) (y3v0:AV),s'=⟨T,ss1⟩/\(T 0=sf cI a0/\T 1=i6 a1/\T 5=y3v0/\T 6=.bool Qd9/\T 7=i6 Ym)/\Fx tt ss1 [] [⟨y3v0,3,1,rws cI AN⟩]) (cdb j4 (fun h j4=>?_) (fun h j4=>?_)) ?_
  ·refine go ?_;refine apd (g:=cI) hF 0 j4 (rdo (c:=true) (g:=cI) (fun _=>rfl)) fun x31 j4 v5 ss6 hF=>?_;refine go ?_;have e:=pur j4
   injection e with e0 e
   subst e0;subst e;exact ⟨_,_,v5,rfl,S,hF⟩
  ·refine go ?_;have e:=pur j4
   injection e with e0 e
   subst e0;subst e;exact ⟨_,_,z0v0,rfl,S,hF⟩
  ·rintro s' ⟨T7,s8,y3v0,rfl,tT,hF⟩;obtain ⟨x35,f1,H⟩:=bil (g:=cI) (fun _=>rfl) H;refine go1 ?_;refine apd (g:=cI) hF 0 H (rdo (c:=true) (g:=cI) (fun _=>rfl)) fun x38 H v10 s11 hF=>?_;refine go ?_;exact IH  x38 Qd9 (i64.wrap (Ym+1)) _ H _ rfl Q tt  hE hR _ _ v10 S hF
 ·refine go ?_;exact wq (hE _ _ (pur H).symm _ _ z0v0 S hF)
theorem Sy:∀(a0:List Int) (a1:Int) r,B0 a0 a1=some r->VP K1 166 [sf cI a0,i6 a1] (sf cI r):=by
 intro a0 a1 r H;intro σ;unfold B0 at H;refine hdg mixed Tryz.func166 (rs:=[.tmp 4]) fun q tT=>?_;have hF:=K4 σ;have hX:=Tau.none σ;refine go ?_;refine bp H (A1 a0 a1) fun x11 h H=>cl h ?_;have hF:=hF.lit 3 1 (rws cI []) rfl;refine go ?_;obtain ⟨o12,ho12,H⟩:=bnd H;refine Nc a0 a1 [] x11 0 _ ho12 _ rfl _ _  ?_ ?_ _ _ (.sl true (rws cI [])) S hF
 ·intro Ru Qlf he T14 s15 e13v0 tT hF;have he:=he.symm;subst he
  try dsimp only at H
  refine go ?_;refine cdb H (fun h H=>?_) (fun h H=>?_)
  ·refine go ?_;refine apd (g:=cI) hF 0 H (rdo (c:=true) (g:=cI) (fun _=>rfl)) fun x44 H v17 s18 hF=>?_;refine go ?_;have e:=pur H;subst e;exact rt _
  ·refine go ?_;have e:=pur H;subst e;exact rt _
 ·trivial
theorem J0:∀(a0:Fm) (a1 a2:Int) r,VI a0 a1 a2=some r->VP K1 143 [.agg (K0 a0),i6 a1,i6 a2] (.agg (K0 r)):=by
 intro a0 a1 a2;revert a0;refine VI.partial_correctness a1 a2 (motive_1:=fun a0 r=>VP K1 143 [.agg (K0 a0),i6 a1,i6 a2] (.agg (K0 r))) (motive_2:=fun a0 HA X9 Yi out=>∀c,Yg Tryz.f143 0=some c->∀(Q:QT) (tt:Sto) (b1 b3 b5:Nat),(∀(Vz:List Fm),out=Vz->∀(T:TT) (σ:Sto) (e0v0:AV),T 6=.ptr b3 0/\T 7=.ptr b5 0->Fx tt σ [(b5,⟨34,5,[i6 a0.kind,.str a0.name,i6 a0.num,sf cI HA,e0v0]⟩),(b3,⟨34,5,[i6 0,.str zB,i6 0,.Yd,.Yd]⟩),(b1,⟨34,5,[i6 a0.kind,.str a0.name,i6 a0.num,sf cI a0.sc,sf K0 a0.kids]⟩)] [⟨e0v0,34,5,rws K0 Vz⟩]->Q (.ex 0) ⟨T,σ⟩)->True->∀(T:TT) (σ:Sto) (z0v0:AV),T 1=i6 a1/\T 2=i6 a2/\T 3=.ptr b1 0/\T 6=.ptr b3 0/\T 7=.ptr b5 0/\T 8=i6 Yi->Fx tt σ [(b5,⟨34,5,[i6 a0.kind,.str a0.name,i6 a0.num,sf cI HA,z0v0]⟩),(b3,⟨34,5,[i6 0,.str zB,i6 0,.Yd,.Yd]⟩),(b1,⟨34,5,[i6 a0.kind,.str a0.name,i6 a0.num,sf cI a0.sc,sf K0 a0.kids]⟩)] [⟨z0v0,34,5,rws K0 X9⟩]->aLp K1 c Q ⟨T,σ⟩) ?_ ?_
 ·intro Jk L0 a0 r H;intro σ;refine hdg mixed Tryz.func143 (rs:=[.cell 6 34]) fun q tT=>?_;have hF:=K4 σ;have hX:=Tau.none σ;refine go ?_;refine Ya hF rfl fun b1 ss2 hF=>?_;refine go ?_;refine Ya hF rfl fun b3 ss4 hF=>?_;refine go ?_;refine Yj E0 [.v,.v,.v,.v,.v,.v,.v,.v,.v,.v,.v,.x,.z] (by kernel_rfl) ?_;refine go ?_;obtain ⟨x18,hx18,H⟩:=bnd H;refine MY (g:=cI) (xs:=[]) (ys:=a0.sc) (fun _=>rfl) (by decide) (by decide) (.inr (by first | rfl | simp only [Vn,VQ,cI,cU,cS,cL])) (.inr ⟨_,by first | rfl | simp only [Vn,VQ,cI,cU,cS,cL]⟩) hx18 ?_;refine go ?_;refine HH hF rfl fun b5 ss6 hF=>?_;refine go ?_;refine st hF 0 rfl fun s7 hF=>?_;refine go ?_;obtain ⟨HA,j9,H⟩:=bnd H;refine Wn (fun s'=>∃(T:TT) (ss1:Sto),s'=⟨T,ss1⟩/\(T 1=i6 a1/\T 2=i6 a2/\T 3=.ptr b1 0/\T 6=.ptr b3 0/\T 7=.ptr b5 0)/\Fx σ ss1 [(b5,⟨34,5,[i6 a0.kind,.str a0.name,i6 a0.num,sf cI HA,.Yd]⟩),(b3,⟨34,5,[i6 0,.str zB,i6 0,.Yd,.Yd]⟩),(b1,⟨34,5,[i6 a0.kind,.str a0.name,i6 a0.num,sf cI a0.sc,sf K0 a0.kids]⟩)] []) (cdp j9 (fun h j9=>?_) (fun h j9=>?_)) ?_
  ·refine go ?_;obtain ⟨x34,g10,j9⟩:=bnd j9;refine Yc 8 26 34 (.bool x34) (giN q (fun q=>?_) (fun q=>?_)) (fun J=>?_)
   ·rw [if_neg (df q)] at g10;refine go ?_;obtain ⟨x33,g12,g10⟩:=bnd g10;refine Yc 4 29 33 (.bool x33) (gi q (fun q=>?_) (fun q=>?_)) (fun J=>?_)
    ·rw [if_pos (dt q)] at g12;refine go ?_;obtain ⟨x32,hx32,g12⟩:=bnd g12;refine cl (A1 a0.sc a1 _ hx32) ?_;refine go ?_;exact Yt 29 g12
    ·rw [if_neg (df q)] at g12;refine go ?_;exact Yt 29 g12
    refine go ?_;exact Yt 26 g10
   ·rw [if_pos (dt q)] at g10;refine go ?_;exact Yt 26 g10
   refine go ?_;refine cdb j9 (fun h j9=>?_) (fun h j9=>?_)
   ·refine go ?_;obtain ⟨x38,hx38,j9⟩:=bnd j9;refine cl (PJ a0.sc a1 _ hx38) ?_;refine go ?_;refine st hF 0 rfl fun s14 hF=>?_;refine go ?_;have e:=pur j9;subst e;exact ⟨_,_,rfl,S,hF⟩
   ·refine go ?_;obtain ⟨x43,hx43,j9⟩:=bnd j9;refine cl (Sy a0.sc a1 _ hx43) ?_;refine go ?_;refine st hF 0 rfl fun s15 hF=>?_;refine go ?_;have e:=pur j9;subst e;exact ⟨_,_,rfl,S,hF⟩
  ·refine go ?_;have e:=pur j9;subst e;exact ⟨_,_,rfl,S,hF⟩
  ·rintro s' ⟨T16,s17,rfl,tT,hF⟩;have hF:=hF.nil 34 5;refine go ?_;obtain ⟨o22,ho22,H⟩:=bnd H;refine L0 a0 HA [] 0 _ ho22 _ rfl _ _ b1 b3 b5 ?_ ?_ _ _ .Yd S hF
   ·intro Ti he T24 s25 e23v0 tT hF;have he:=he.symm;subst he;refine go ?_;refine st hF 1 rfl fun s27 hF=>?_;refine go ?_;have e:=pur H;subst e;exact rt _
   ·trivial
 ·intro VI Jk C0 L0 a0 HA X9 Yi out H c hc Q tt b1 b3 b5 hE hR T σ z0v0 tT hF;refine lpx tt hc rfl fun q hX=>go ?_;refine cdp H (fun h H=>?_) (fun h H=>?_)
  ·refine go ?_;refine Yj E0 [.v,.v,.v,.v,.v,.v,.v,.v,.v,.v,.v,.x,.v,.z] (by kernel_rfl) ?_;obtain ⟨x57,f1,H⟩:=bil (g:=K0) Fm.X6 H;refine go1 ?_;refine bp H (C0 x57) fun x61 h H=>cv h ?_;refine go ?_;refine SL (g:=K0) hF 0 H (rdo (c:=true) (g:=K0) Fm.X6) fun x63 H v19 s20 hF=>?_;refine go ?_;refine st hF 0 (hF.cells 0 rfl) fun s21 hF=>?_;refine go ?_;exact L0 a0 HA x63 (i64.wrap (Yi+1)) _ H _ rfl Q tt b1 b3 b5 hE hR _ _ v19 S hF
  ·refine go ?_;exact wq (hE _ (pur H).symm _ _ z0v0 S hF)
theorem Mj:∀(a0 a1:List Int) (Yh:Int) out,JA a0 a1 Yh=some out->∀c,Yg Tryz.f183 0=some c->∀(Q:QT) (tt:Sto),(∀(_u:Unit),out=Sum.inr ()->∀(T:TT) (σ:Sto),0+0=0->Fx tt σ [] []->Q (.ex 0) ⟨T,σ⟩)->(∀r,out=Sum.inl r->∀s',ID K1 [.tmp 4] (fun r' ss'=>r'=.bool r/\ss'=tt) s'->Q .ret s')->∀(T:TT) (σ:Sto),T 0=sf cI a0/\T 1=sf cI a1/\T 5=i6 Yh->Fx tt σ [] []->aLp K1 c Q ⟨T,σ⟩:=by
 intro a0 a1 Yh;revert Yh;refine JA.partial_correctness a0 a1 _ ?_;intro JA IH Yh out H c hc Q tt  hE hR T σ tT hF;refine lpx tt hc rfl fun q hX=>go ?_;refine cdp H (fun h H=>?_) (fun h H=>?_)
 ·refine go ?_;refine Yj E0 [.v,.v,.v,.v,.v,.v,.v,.v,.v] (by kernel_rfl) ?_;obtain ⟨x19,f1,H⟩:=bil (g:=cI) (fun _=>rfl) H;obtain ⟨x23,f2,H⟩:=bil (g:=cI) (fun _=>rfl) H;refine go2 ?_;refine go ?_;refine cdn H (fun h H=>?_) (fun h H=>?_)
  ·refine go ?_;exact wq (hR _ (pur H).symm _ (rt _))
  ·refine go ?_;exact IH  (i64.wrap (Yh+1)) _ H _ rfl Q tt  hE hR _ _  S hF
 ·refine go ?_;exact wq (hE () (pur H).symm _ _  S hF)
theorem Fi:∀(a0 a1:List Int) r,Bl a0 a1=some r->VP K1 183 [sf cI a0,sf cI a1] (.bool r):=by
 intro a0 a1 r H;intro σ;unfold Bl at H;refine hdg mixed Tryz.func183 (rs:=[.tmp 4]) fun q tT=>?_;have hF:=K4 σ;have hX:=Tau.none σ;refine go ?_;refine cdn H (fun h H=>?_) (fun h H=>?_)
 ·refine go ?_;have e:=pur H;subst e;exact rt _
 ·refine go ?_;obtain ⟨o1,ho1,H⟩:=bnd H;refine Mj a0 a1 0 _ ho1 _ rfl _ _  ?_ ?_ _ _  S hF
  ·intro _ he T3 ss4 tT hF;have he:=he.symm;subst he
   try dsimp only at H
   refine go ?_;have e:=pur H;subst e;exact rt _
  ·intro r hr s' hs;subst hr;have e:=pur H;subst e;exact hsq hs
theorem Eu:∀(a0:List Bnd) (YF Ph:Int) out,Wq a0 YF Ph=some out->∀c,Yg Tryz.f168 1=some c->∀(Q:QT) (tt:Sto),(∀(_u:Unit),out=Sum.inr ()->∀(T:TT) (σ:Sto),T 0=sf K2 a0/\T 3=i6 YF->Fx tt σ [] []->Q (.ex 2) ⟨T,σ⟩)->(∀r,out=Sum.inl r->∀s',ID K1 [.tmp 2] (fun r' ss'=>r'=.bool r/\ss'=tt) s'->Q .ret s')->∀(T:TT) (σ:Sto),T 0=sf K2 a0/\T 3=i6 YF/\T 4=i6 Ph->Fx tt σ [] []->aLp K1 c Q ⟨T,σ⟩:=by
 intro a0 YF Ph;revert Ph;refine Wq.partial_correctness a0 YF _ ?_;intro Wq IH Ph out H c hc Q tt  hE hR T σ tT hF;refine lpx tt hc rfl fun q hX=>go ?_;refine cdp H (fun h H=>?_) (fun h H=>?_)
 ·refine go ?_;refine Yj E0 [.v,.v,.v,.v,.v,.v,.v,.v,.v,.v,.v,.v,.v,.v,.v,.v,.v,.v,.v,.v,.v,.v,.v,.v] (by kernel_rfl) ?_;obtain ⟨x54,f1,H⟩:=bil (g:=K2) Bnd.X6 H;obtain ⟨x59,f2,H⟩:=bil (g:=K2) Bnd.X6 H;refine go2 ?_;obtain ⟨x75,g9,H⟩:=bnd H;refine V0 11 64 75 (.bool x75) (ti q (fun q=>?_) (fun q=>?_)) (fun J=>?_)
  ·rw [if_pos (dt q)] at g9;obtain ⟨x66,f1,g9⟩:=bil (g:=K2) Bnd.X6 g9;obtain ⟨x71,f2,g9⟩:=bil (g:=K2) Bnd.X6 g9;refine go2 ?_;obtain ⟨x74,hx74,g9⟩:=bnd g9;refine cv (Fi x66.sc x71.sc _ hx74) ?_;refine go ?_;exact Yt 64 g9
  ·rw [if_neg (df q)] at g9;refine go ?_;exact Yt 64 g9
  refine go ?_;refine cdb H (fun h H=>?_) (fun h H=>?_)
  ·refine go ?_;exact wq (hR _ (pur H).symm _ (rt _))
  ·refine go ?_;exact IH  (i64.wrap (Ph+1)) _ H _ rfl Q tt  hE hR _ _  S hF
 ·refine go ?_;exact wq (hE () (pur H).symm _ _  S hF)
theorem Et:∀(a0:List Bnd) (YF:Int) out,Wp a0 YF=some out->∀c,Yg Tryz.f168 0=some c->∀(Q:QT) (tt:Sto),(∀(_u:Unit),out=Sum.inr ()->∀(T:TT) (σ:Sto),T 0=sf K2 a0->Fx tt σ [] []->Q (.ex 0) ⟨T,σ⟩)->(∀r,out=Sum.inl r->∀s',ID K1 [.tmp 2] (fun r' ss'=>r'=.bool r/\ss'=tt) s'->Q .ret s')->∀(T:TT) (σ:Sto),T 0=sf K2 a0/\T 3=i6 YF->Fx tt σ [] []->aLp K1 c Q ⟨T,σ⟩:=by
 intro a0 YF;revert YF;refine Wp.partial_correctness a0 _ ?_;intro Wp IH YF out H c hc Q tt  hE hR T σ tT hF;refine lpx tt hc rfl fun q hX=>go ?_;obtain ⟨x12,g1,H⟩:=bnd H;refine Yc 2 10 12 (.bool x12) (gi q (fun q=>?_) (fun q=>?_)) (fun J=>?_)
 ·refine go ?_;exact Yt 10 g1
 ·refine go ?_;exact Yt 10 g1
 refine go ?_;refine cdb H (fun h H=>?_) (fun h H=>?_)
 ·obtain ⟨x17,f1,H⟩:=bil (g:=K2) Bnd.X6 H;refine go1 ?_;refine bp H (Bj x17.name) fun x20 h H=>cl h ?_;refine go ?_;obtain ⟨x30,g3,H⟩:=bnd H;refine Yc 7 23 30 (.bool x30) (giN q (fun q=>?_) (fun q=>?_)) (fun J=>?_)
  ·rw [if_neg (dbf q)] at g3;obtain ⟨x25,f1,g3⟩:=bil (g:=K2) Bnd.X6 g3;refine go1 ?_;obtain ⟨x28,hx28,g3⟩:=bnd g3;refine cl (DY x25.sc _ hx28) ?_;refine go ?_;exact Yt 23 g3
  ·rw [if_pos (dbt q)] at g3;refine go ?_;exact Yt 23 g3
  refine go ?_;obtain ⟨x38,g5,H⟩:=bnd H;refine Yc 6 32 38 (.bool x38) (giN q (fun q=>?_) (fun q=>?_)) (fun J=>?_)
  ·rw [if_neg (dbf q)] at g5;obtain ⟨x34,f1,g5⟩:=bil (g:=K2) Bnd.X6 g5;refine go1 ?_;refine go ?_;exact Yt 32 g5
  ·rw [if_pos (dbt q)] at g5;refine go ?_;exact Yt 32 g5
  refine go ?_;obtain ⟨x46,g7,H⟩:=bnd H;refine Yc 6 40 46 (.bool x46) (giN q (fun q=>?_) (fun q=>?_)) (fun J=>?_)
  ·rw [if_neg (dbf q)] at g7;obtain ⟨x42,f1,g7⟩:=bil (g:=K2) Bnd.X6 g7;refine go1 ?_;refine go ?_;exact Yt 40 g7
  ·rw [if_pos (dbt q)] at g7;refine go ?_;exact Yt 40 g7
  refine go ?_;refine cdb H (fun h H=>?_) (fun h H=>?_)
  ·refine go ?_;exact wq (hR _ (pur H).symm _ (rt _))
  ·refine go ?_;obtain ⟨o11,ho11,H⟩:=bnd H;refine Eu a0 YF 0 _ ho11 _ rfl _ _  ?_ ?_ _ _  S hF
   ·intro _ he T13 s14 tT hF;have he:=he.symm;subst he
    try dsimp only at H
    refine go ?_;exact IH  (i64.wrap (YF+1)) _ H _ rfl Q tt  hE hR _ _  S hF
   ·intro r hr s' hs;subst hr;exact wq (hR _ (pur H).symm _ hs)
 ·refine go ?_;exact wq (hE () (pur H).symm _ _  S hF)
theorem A0:∀(a0:List Bnd) r,GO a0=some r->VP K1 168 [sf K2 a0] (.bool r):=by
 intro a0 r H;intro σ;unfold GO at H;refine hdg mixed Tryz.func168 (rs:=[.tmp 2]) fun q tT=>?_;have hF:=K4 σ;have hX:=Tau.none σ;refine go ?_;obtain ⟨o16,ho16,H⟩:=bnd H;refine Et a0 0 _ ho16 _ rfl _ _  ?_ ?_ _ _  S hF
 ·intro _ he T18 s19 tT hF;have he:=he.symm;subst he
  try dsimp only at H
  refine go ?_;have e:=pur H;subst e;exact rt _
 ·intro r hr s' hs;subst hr;have e:=pur H;subst e;exact hsq hs
theorem MW:∀(a0:Fm) r,Du a0=some r->VP K1 192 [.agg (K0 a0)] (.bool r):=by
 intro a0 r H;intro σ;unfold Du at H;refine hdg mixed Tryz.func192 (rs:=[.tmp 2]) fun q tT=>?_;have hF:=K4 σ;have hX:=Tau.none σ;refine go ?_;refine Ya hF rfl fun b1 ss2 hF=>?_;refine go ?_;obtain ⟨x9,g3,H⟩:=bnd H;refine Yc 2 7 9 (.bool x9) (gi q (fun q=>?_) (fun q=>?_)) (fun J=>?_)
 ·rw [if_pos (dt q)] at g3;refine go ?_;obtain ⟨x8,hx8,g3⟩:=bnd g3;refine cl (Va a0 _ hx8) ?_;refine go ?_;exact Yt 7 g3
 ·rw [if_neg (df q)] at g3;refine go ?_;exact Yt 7 g3
 refine go ?_;have e:=pur H;subst e;exact rt _
theorem E8:∀(a0 X9:List Bnd) (YA:Int) out,VE a0 X9 YA=some out->∀c,Yg Tryz.f75 0=some c->∀(Q:QT) (tt0:Sto),(∀(Vz:List Bnd),out=Vz->∀(T:TT) (σ tt:Sto) (e0v0:AV),T 3=e0v0->Tau tt0 [] tt->Fx tt σ [] [⟨e0v0,53,3,rws K2 Vz⟩]->Q (.ex 0) ⟨T,σ⟩)->True->∀(T:TT) (σ tt:Sto) (z0v0:AV),T 0=sf K2 a0/\T 3=z0v0/\T 4=i6 YA->Tau tt0 [] tt->Fx tt σ [] [⟨z0v0,53,3,rws K2 X9⟩]->aLp K1 c Q ⟨T,σ⟩:=by
 intro a0 X9 YA;revert X9 YA;refine VE.partial_correctness a0 _ ?_;intro VE IH X9 YA out H c hc Q tt0  hE hR T σ tt z0v0 tT hX hF;refine lpy hc rfl fun q=>go ?_;refine cdp H (fun h H=>?_) (fun h H=>?_)
 ·obtain ⟨x15,f1,H⟩:=bil (g:=K2) Bnd.X6 H;refine go1 ?_;refine Ya hF rfl fun b1 ss2 hF=>?_;refine go ?_;refine st hF 0 rfl fun ss3 hF=>?_;refine go ?_;refine apv (g:=cI) H (fun _=>rfl) (rdo (c:=false) (g:=cI) (fun _=>rfl)) fun x20 H=>?_;refine go ?_;refine st hF 0 rfl fun ss4 hF=>?_;refine go ?_;refine apd (g:=K2) hF 0 H (rdo (c:=true) (g:=K2) Bnd.X6) fun x25 H v5 ss6 hF=>?_;refine go ?_;exact IH  x25 (i64.wrap (YA+1)) _ H _ rfl Q tt0  hE hR _ _ _ v5 S hX (hF.drop 1 0)
 ·refine go ?_;exact wq (hE _ (pur H).symm _ _ _ z0v0 S hX hF)
theorem Bn:∀(a0:List Bnd) r,JB a0=some r->∀   (σ:Sto),Pre σ [] []->Ctr K1 75 [sf K2 a0] σ (fun r' ss'=>∃(tt':Sto) (w0:AV),r'=w0/\Tau (strip σ []) [] tt'/\Fx tt' ss' [] [⟨w0,53,3,rws K2 r⟩]):=by
 intro a0 r H;intro   σ hP;unfold JB at H;refine hdg mixed Tryz.func75 (rs:=[.tmp 2]) fun q tT=>?_;obtain ⟨hF,hX⟩:=hP.start;generalize strip σ []=tt0 at hF hX ⊢;have hF:=hF.lit 53 3 (rws K2 []) rfl;refine go ?_;obtain ⟨o7,ho7,H⟩:=bnd H;refine E8 a0 [] 0 _ ho7 _ rfl _ tt0  ?_ ?_ _ _ _ (.sl true (rws K2 [])) S hX hF
 ·intro Qgj he T9 s10 t11 e8v0 tT hX hF;have he:=he.symm;subst he;refine go ?_;have e:=pur H;subst e;exact rg _ ⟨_,_,rfl,hX,hF.pick [] [0] (by decide) (by decide)⟩
 ·trivial
theorem OD:∀(a0:List Bnd) (a1:Fm) (a2:Int) r,BD a0 a1 a2=some r->VP K1 180 [sf K2 a0,.agg (K0 a1),i6 a2] (.tup [sf K2 r.1,.bool r.2]):=by
 intro a0 a1 a2 r H;intro σ;unfold BD at H;refine hdg mixed Tryz.func180 (rs:=[.tmp 6,.tmp 7]) fun q tT=>?_;have hF:=K4 σ;have hX:=Tau.none σ;refine go ?_;refine Ya hF rfl fun b1 ss2 hF=>?_;refine go ?_;refine bp H (A0 a0) fun x10 h H=>cl h ?_;refine go ?_;obtain ⟨x16,g3,H⟩:=bnd H;refine Yc 3 13 16 (.bool x16) (giN q (fun q=>?_) (fun q=>?_)) (fun J=>?_)
 ·rw [if_neg (dbf q)] at g3;refine go ?_;obtain ⟨x14,hx14,g3⟩:=bnd g3;refine cl (MW a1 _ hx14) ?_;refine go ?_;exact Yt 13 g3
 ·rw [if_pos (dbt q)] at g3;refine go ?_;exact Yt 13 g3
 refine go ?_;refine cdb H (fun h H=>?_) (fun h H=>?_)
 ·refine go ?_;have e:=pur H;subst e;exact rt _
 ·refine go ?_;obtain ⟨E,hEq⟩:∃E,E=EE ss2 []:=⟨_,rfl⟩
  have n5:¬E b1:=by rw [hEq];exact K8 (hF.at 0 rfl) (by simp)
  refine Ny E [.v,.v,.v,.v,.v,.v,.v,.x,.v,.v,.v,.x,.v] [0,2,3,4,5,6,8,1,7,9,10,11,12] (by kernel_rfl) ?_;have z:=X7 (hF.at 0 rfl) n5;refine gh ?_;obtain ⟨x19,hx19,H⟩:=bnd H;refine cx (Bn a0 _ hx19   _ (pre 0 0 0 hF hX)) ?_;rintro v6 s7 ⟨t8,_,rfl,hT,hG⟩
  refine W3 (Zb hT hG (by intro p hp;simp only [Kl,KG,or_false] at hp<;>first | (rcases hp with rfl<;>(rw [hEq];first | (refine Zf ?_;simp;done) | exact Zo rfl))| cases hp)) fun kp10=>?_
  have hF:=DA 0 0 hF hX hT hG;have z:=X7 (hF.at 0 rfl) n5;refine gh ?_;obtain ⟨x25,hx25,H⟩:=bnd H;refine MY (g:=cI) (xs:=[]) (ys:=a1.sc) (fun _=>rfl) (by decide) (by decide) (.inr (by first | rfl | simp only [Vn,VQ,cI,cU,cS,cL])) (.inr ⟨_,by first | rfl | simp only [Vn,VQ,cI,cU,cS,cL]⟩) hx25 ?_;have z:=X7 (hF.at 0 rfl) n5;refine gh ?_;refine SL (g:=K2) hF 0 H (rdo (c:=true) (g:=K2) Bnd.X6) fun x29 H v11 s12 hF=>?_;have z:=X7 (hF.at 0 rfl) n5;refine gh ?_;refine go ?_;obtain ⟨x31,hx31,H⟩:=bnd H;refine P6 (A0 x29 _ hx31) .bool (.cons ((hF.wk 0 rfl).trans (Wk.sub (Sub.zero _) _)) (fun _=>rfl) .nil) ?_;refine go ?_;refine cdb H (fun h H=>?_) (fun h H=>?_)
  ·refine go ?_;have e:=pur H;subst e;exact rt _
  ·refine go ?_;have e:=pur H;subst e;exact rt _
theorem Fl:∀(a0:Xpn) (a1:Fm) r,IY a0 a1=some r->VP K1 164 [.agg (Za a0),.agg (K0 a1)] (.tup [.agg (Za r.1),i6 r.2]):=by
 intro a0 a1 r H;intro σ;unfold IY at H;refine hdg mixed Tryz.func164 (rs:=[.cell 4 30,.tmp 5]) fun q tT=>?_;have hF:=K4 σ;have hX:=Tau.none σ;refine go ?_;refine Ya hF rfl fun b1 ss2 hF=>?_;refine go ?_;refine Ya hF rfl fun b3 ss4 hF=>?_;refine go ?_;refine Ya hF rfl fun b5 ss6 hF=>?_;refine go ?_;refine cdp H (fun h H=>?_) (fun h H=>?_)
 ·refine go ?_;refine st hF 0 rfl fun s7 hF=>?_;refine go ?_;have e:=pur H;subst e;exact rt _
 ·refine go ?_;obtain ⟨x20,hx20,H⟩:=bnd H;refine cl (OD a0.binds a1 (i64.wrap (a0.id+1)) _ hx20) ?_;refine go ?_;refine cdb H (fun h H=>?_) (fun h H=>?_)
  ·refine go ?_;refine st hF 0 rfl fun s8 hF=>?_;refine go ?_;have e:=pur H;subst e;exact rt _
  ·refine go ?_;refine st hF 2 rfl fun s9 hF=>?_;refine go ?_;refine st hF 2 rfl fun s10 hF=>?_;refine go ?_;refine st hF 0 rfl fun s11 hF=>?_;refine go ?_;have e:=pur H;subst e;exact rt _
theorem LG:∀(a0:Fm) (X9 Vq:List Fm) (Ym:Int) out,Jb a0 X9 Vq Ym=some out->∀c,Yg Tryz.f141 0=some c->∀(Q:QT) (tt:Sto) (b1:Nat),(∀(Vz FY:List Fm),out=Sum.inr (Vz,FY)->∀(T:TT) (σ:Sto) (e0v0 e0v1:AV),T 1=.ptr b1 0/\T 5=e0v0/\T 6=e0v1->Fx tt σ [(b1,⟨34,5,[i6 a0.kind,.str a0.name,i6 a0.num,sf cI a0.sc,sf K0 a0.kids]⟩)] [⟨e0v1,34,5,rws K0 FY⟩,⟨e0v0,34,5,rws K0 Vz⟩]->Q (.ex 0) ⟨T,σ⟩)->(∀r,out=Sum.inl r->∀s',ID K1 [.tmp 2,.tmp 3,.tmp 4] (fun r' ss'=>r'=.tup [sf K0 r.1,sf K0 r.2.1,.bool r.2.2]/\ss'=tt) s'->Q .ret s')->∀(T:TT) (σ:Sto) (z0v0 z0v1:AV),T 1=.ptr b1 0/\T 5=z0v0/\T 6=z0v1/\T 7=i6 Ym->Fx tt σ [(b1,⟨34,5,[i6 a0.kind,.str a0.name,i6 a0.num,sf cI a0.sc,sf K0 a0.kids]⟩)] [⟨z0v1,34,5,rws K0 Vq⟩,⟨z0v0,34,5,rws K0 X9⟩]->aLp K1 c Q ⟨T,σ⟩:=by
 intro a0 X9 Vq Ym;revert X9 Vq Ym;refine Jb.partial_correctness a0 _ ?_;intro Jb IH X9 Vq Ym out H c hc Q tt b1 hE hR T σ z0v0 z0v1 tT hF;refine lpx tt hc rfl fun q hX=>go ?_;refine cdp H (fun h H=>?_) (fun h H=>?_)
 ·obtain ⟨x20,f1,H⟩:=bil (g:=K0) Fm.X6 H;refine go1 ?_;obtain ⟨x33,g3,H⟩:=bnd H;refine Yc 8 25 33 (.bool x33) (giN q (fun q=>?_) (fun q=>?_)) (fun J=>?_)
  ·rw [if_pos (dnf q)] at g3;obtain ⟨x28,f1,g3⟩:=bil (g:=K0) Fm.X6 g3;refine go1 ?_;refine go ?_;exact Yt 25 g3
  ·rw [if_neg (dnt q)] at g3;refine go ?_;exact Yt 25 g3
  refine go ?_;refine cdb H (fun h H=>?_) (fun h H=>?_)
  ·refine go ?_;exact wq (hR _ (pur H).symm _ (rt _))
  ·obtain ⟨x40,f1,H⟩:=bil (g:=K0) Fm.X6 H;obtain ⟨x43,f2,H⟩:=bil (g:=K0) Fm.X6 H;refine go2 ?_;refine apd (g:=K0) hF 1 H (rdo (c:=true) (g:=K0) Fm.X6) fun x46 H v5 ss6 hF=>?_;obtain ⟨x51,f1,H⟩:=bil (g:=K0) Fm.X6 H;obtain ⟨x54,f2,H⟩:=bil (g:=K0) Fm.X6 H;refine go2 ?_;refine apd (g:=K0) hF 0 H (rdo (c:=true) (g:=K0) Fm.X6) fun x57 H v7 s8 hF=>?_;refine go ?_;exact IH  x46 x57 (i64.wrap (Ym+1)) _ H _ rfl Q tt b1 hE hR _ _ v5 v7 S hF
 ·refine go ?_;exact wq (hE _ _ (pur H).symm _ _ z0v0 z0v1 S hF)
theorem OU:∀(a0:Fm) r,BH a0=some r->VP K1 141 [.agg (K0 a0)] (.tup [sf K0 r.1,sf K0 r.2.1,.bool r.2.2]):=by
 intro a0 r H;intro σ;unfold BH at H;refine hdg mixed Tryz.func141 (rs:=[.tmp 2,.tmp 3,.tmp 4]) fun q tT=>?_;have hF:=K4 σ;have hX:=Tau.none σ;refine go ?_;refine Ya hF rfl fun b1 ss2 hF=>?_;have hF:=hF.lit 34 5 (rws K0 []) rfl;have hF:=hF.lit 34 5 (rws K0 []) rfl;refine go ?_;obtain ⟨o9,ho9,H⟩:=bnd H;refine LG a0 [] [] 0 _ ho9 _ rfl _ _ b1 ?_ ?_ _ _ (.sl true (rws K0 [])) (.sl true (rws K0 [])) S hF
 ·intro Ee Qld he T11 s12 e10v0 e10v1 tT hF;have he:=he.symm;subst he
  try dsimp only at H
  refine go ?_;refine Yj E0 [.v,.v,.v,.v,.v,.v,.v,.v] (by kernel_rfl) ?_;refine go ?_;have e:=pur H;subst e;exact rt _
 ·intro r hr s' hs;subst hr;have e:=pur H;subst e;exact hsq hs
theorem G7:∀(a0 a1:Fm) r,VH a0 a1=some r->VP K1 176 [.agg (K0 a0),.agg (K0 a1)] (.bool r):=by
 refine VH.partial_correctness _ (motive_2:=fun a0 a1 Yh out=>∀c,Yg Tryz.f176 0=some c->∀(Q:QT) (tt:Sto) (b1 b3:Nat),(∀(_u:Unit),out=Sum.inr ()->∀(T:TT) (σ:Sto),0+0=0->Fx tt σ [(b3,⟨34,5,[i6 a1.kind,.str a1.name,i6 a1.num,sf cI a1.sc,sf K0 a1.kids]⟩),(b1,⟨34,5,[i6 a0.kind,.str a0.name,i6 a0.num,sf cI a0.sc,sf K0 a0.kids]⟩)] []->Q (.ex 0) ⟨T,σ⟩)->(∀r,out=Sum.inl r->∀s',ID K1 [.tmp 4] (fun r' ss'=>r'=.bool r/\ss'=tt) s'->Q .ret s')->∀(T:TT) (σ:Sto),T 2=.ptr b1 0/\T 3=.ptr b3 0/\T 5=i6 Yh->Fx tt σ [(b3,⟨34,5,[i6 a1.kind,.str a1.name,i6 a1.num,sf cI a1.sc,sf K0 a1.kids]⟩),(b1,⟨34,5,[i6 a0.kind,.str a0.name,i6 a0.num,sf cI a0.sc,sf K0 a0.kids]⟩)] []->aLp K1 c Q ⟨T,σ⟩) ?_ ?_
 ·intro Jj L0 a0 a1 r H;intro σ;refine hdg mixed Tryz.func176 (rs:=[.tmp 4]) fun q tT=>?_;have hF:=K4 σ;have hX:=Tau.none σ;refine go ?_;refine Ya hF rfl fun b1 ss2 hF=>?_;refine go ?_;refine Ya hF rfl fun b3 ss4 hF=>?_;refine go ?_;obtain ⟨x17,g5,H⟩:=bnd H;refine Yc 5 12 17 (.bool x17) (giN q (fun q=>?_) (fun q=>?_)) (fun J=>?_)
  ·refine go ?_;exact Yt 12 g5
  ·refine go ?_;exact Yt 12 g5
  refine go ?_;obtain ⟨x24,g7,H⟩:=bnd H;refine Yc 5 19 24 (.bool x24) (giN q (fun q=>?_) (fun q=>?_)) (fun J=>?_)
  ·refine go ?_;exact Yt 19 g7
  ·refine go ?_;exact Yt 19 g7
  refine go ?_;obtain ⟨x32,g9,H⟩:=bnd H;refine Yc 6 26 32 (.bool x32) (giN q (fun q=>?_) (fun q=>?_)) (fun J=>?_)
  ·rw [if_neg (dbf q)] at g9;refine go ?_;obtain ⟨x30,hx30,g9⟩:=bnd g9;refine cl (Fi a0.sc a1.sc _ hx30) ?_;refine go ?_;exact Yt 26 g9
  ·rw [if_pos (dbt q)] at g9;refine go ?_;exact Yt 26 g9
  refine go ?_;obtain ⟨x41,g11,H⟩:=bnd H;refine Yc 7 34 41 (.bool x41) (giN q (fun q=>?_) (fun q=>?_)) (fun J=>?_)
  ·refine go ?_;exact Yt 34 g11
  ·refine go ?_;exact Yt 34 g11
  refine go ?_;refine cdb H (fun h H=>?_) (fun h H=>?_)
  ·refine go ?_;have e:=pur H;subst e;exact rt _
  ·refine go ?_;obtain ⟨o13,ho13,H⟩:=bnd H;refine L0 a0 a1 0 _ ho13 _ rfl _ _ b1 b3 ?_ ?_ _ _  S hF
   ·intro _ he T15 s16 tT hF;have he:=he.symm;subst he
    try dsimp only at H
    refine go ?_;have e:=pur H;subst e;exact rt _
   ·intro r hr s' hs;subst hr;have e:=pur H;subst e;exact hsq hs
 ·intro VH Jj C0 L0 a0 a1 Yh out H c hc Q tt b1 b3 hE hR T σ tT hF;refine lpx tt hc rfl fun q hX=>go ?_;refine cdp H (fun h H=>?_) (fun h H=>?_)
  ·refine go ?_;refine Yj E0 [.v,.v,.v,.v,.v,.v,.v,.v,.v,.v,.v,.v] (by kernel_rfl) ?_;obtain ⟨x52,f1,H⟩:=bil (g:=K0) Fm.X6 H;obtain ⟨x57,f2,H⟩:=bil (g:=K0) Fm.X6 H;refine go2 ?_;refine bp H (C0 x52 x57) fun x59 h H=>cv h ?_;refine go ?_;refine cdb H (fun h H=>?_) (fun h H=>?_)
   ·refine go ?_;exact wq (hR _ (pur H).symm _ (rt _))
   ·refine go ?_;exact L0 a0 a1 (i64.wrap (Yh+1)) _ H _ rfl Q tt b1 b3 hE hR _ _  S hF
  ·refine go ?_;exact wq (hE () (pur H).symm _ _  S hF)
theorem OH:∀(a0:List Fm) (a1:Fm) (Yh:Int) out,Hk a0 a1 Yh=some out->∀c,Yg Tryz.f186 0=some c->∀(Q:QT) (tt:Sto) (b1:Nat),(∀(_u:Unit),out=Sum.inr ()->∀(T:TT) (σ:Sto),0+0=0->Fx tt σ [(b1,⟨34,5,[i6 a1.kind,.str a1.name,i6 a1.num,sf cI a1.sc,sf K0 a1.kids]⟩)] []->Q (.ex 0) ⟨T,σ⟩)->(∀r,out=Sum.inl r->∀s',ID K1 [.tmp 4] (fun r' ss'=>r'=.bool r/\ss'=tt) s'->Q .ret s')->∀(T:TT) (σ:Sto),T 0=sf K0 a0/\T 3=.ptr b1 0/\T 5=i6 Yh->Fx tt σ [(b1,⟨34,5,[i6 a1.kind,.str a1.name,i6 a1.num,sf cI a1.sc,sf K0 a1.kids]⟩)] []->aLp K1 c Q ⟨T,σ⟩:=by
 intro a0 a1 Yh;revert Yh;refine Hk.partial_correctness a0 a1 _ ?_;intro Hk IH Yh out H c hc Q tt b1 hE hR T σ tT hF;refine lpx tt hc rfl fun q hX=>go ?_;refine cdp H (fun h H=>?_) (fun h H=>?_)
 ·refine go ?_;refine Yj E0 [.v,.v,.v,.v,.v,.v] (by kernel_rfl) ?_;obtain ⟨x14,f1,H⟩:=bil (g:=K0) Fm.X6 H;refine go1 ?_;refine bp H (G7 x14 a1) fun x17 h H=>cv h ?_;refine go ?_;refine cdb H (fun h H=>?_) (fun h H=>?_)
  ·refine go ?_;exact wq (hR _ (pur H).symm _ (rt _))
  ·refine go ?_;exact IH  (i64.wrap (Yh+1)) _ H _ rfl Q tt b1 hE hR _ _  S hF
 ·refine go ?_;exact wq (hE () (pur H).symm _ _  S hF)
theorem CK:∀(a0:List Fm) (a1:Fm) r,A2 a0 a1=some r->VP K1 186 [sf K0 a0,.agg (K0 a1)] (.bool r):=by
 intro a0 a1 r H;intro σ;unfold A2 at H;refine hdg mixed Tryz.func186 (rs:=[.tmp 4]) fun q tT=>?_;have hF:=K4 σ;have hX:=Tau.none σ;refine go ?_;refine Ya hF rfl fun b1 ss2 hF=>?_;refine go ?_;obtain ⟨o3,ho3,H⟩:=bnd H;refine OH a0 a1 0 _ ho3 _ rfl _ _ b1 ?_ ?_ _ _  S hF
 ·intro _ he T5 ss6 tT hF;have he:=he.symm;subst he
  try dsimp only at H
  refine go ?_;have e:=pur H;subst e;exact rt _
 ·intro r hr s' hs;subst hr;have e:=pur H;subst e;exact hsq hs
theorem EF:∀(a0:List Fm) (YF:Int) out,Wv a0 YF=some out->∀c,Yg Tryz.f185 0=some c->∀(Q:QT) (tt:Sto),(∀(_u:Unit),out=Sum.inr ()->∀(T:TT) (σ:Sto),T 0=sf K0 a0->Fx tt σ [] []->Q (.ex 0) ⟨T,σ⟩)->(∀r,out=Sum.inl r->∀s',ID K1 [.tmp 2] (fun r' ss'=>r'=.bool r/\ss'=tt) s'->Q .ret s')->∀(T:TT) (σ:Sto),T 0=sf K0 a0/\T 3=i6 YF->Fx tt σ [] []->aLp K1 c Q ⟨T,σ⟩:=by
 intro a0 YF;revert YF;refine Wv.partial_correctness a0 _ ?_;intro Wv IH YF out H c hc Q tt  hE hR T σ tT hF;refine lpx tt hc rfl fun q hX=>go ?_;obtain ⟨x11,g1,H⟩:=bnd H;refine Yc 2 9 11 (.bool x11) (gi q (fun q=>?_) (fun q=>?_)) (fun J=>?_)
 ·refine go ?_;exact Yt 9 g1
 ·refine go ?_;exact Yt 9 g1
 refine go ?_;refine cdb H (fun h H=>?_) (fun h H=>?_)
 ·refine go ?_;refine Yj E0 [.v,.v,.v,.v,.v,.v,.v,.v,.v,.v,.v,.v,.v,.v,.v,.v,.v,.v,.v,.v,.v,.v,.v,.v,.v,.v,.v,.v,.v,.v,.v,.v] (by kernel_rfl) ?_;obtain ⟨x16,f1,H⟩:=bil (g:=K0) Fm.X6 H;refine go1 ?_;refine bp H (MW x16) fun x18 h H=>cv h ?_;refine go ?_;obtain ⟨x27,g3,H⟩:=bnd H;refine V0 6 21 27 (.bool x27) (tiN q (fun q=>?_) (fun q=>?_)) (fun J=>?_)
  ·rw [if_neg (dbf q)] at g3;obtain ⟨x23,f1,g3⟩:=bil (g:=K0) Fm.X6 g3;refine go1 ?_;refine go ?_;exact Yt 21 g3
  ·rw [if_pos (dbt q)] at g3;refine go ?_;exact Yt 21 g3
  refine go ?_;obtain ⟨x35,g5,H⟩:=bnd H;refine V0 6 29 35 (.bool x35) (tiN q (fun q=>?_) (fun q=>?_)) (fun J=>?_)
  ·rw [if_neg (dbf q)] at g5;obtain ⟨x31,f1,g5⟩:=bil (g:=K0) Fm.X6 g5;refine go1 ?_;refine go ?_;exact Yt 29 g5
  ·rw [if_pos (dbt q)] at g5;refine go ?_;exact Yt 29 g5
  refine go ?_;obtain ⟨x45,g7,H⟩:=bnd H;refine V0 8 37 45 (.bool x45) (tiN q (fun q=>?_) (fun q=>?_)) (fun J=>?_)
  ·rw [if_neg (dbf q)] at g7;obtain ⟨x39,f1,g7⟩:=bls (g:=K0) Fm.X6 (lo:=none) (hi:=some (i6 YF)) rfl rfl g7;obtain ⟨x42,f2,g7⟩:=bil (g:=K0) Fm.X6 g7;refine go2 ?_;obtain ⟨x44,hx44,g7⟩:=bnd g7;refine cv (CK x39 x42 _ hx44) ?_;refine go ?_;exact Yt 37 g7
  ·rw [if_pos (dbt q)] at g7;refine go ?_;exact Yt 37 g7
  refine go ?_;refine cdb H (fun h H=>?_) (fun h H=>?_)
  ·refine go ?_;exact wq (hR _ (pur H).symm _ (rt _))
  ·refine go ?_;exact IH  (i64.wrap (YF+1)) _ H _ rfl Q tt  hE hR _ _  S hF
 ·refine go ?_;exact wq (hE () (pur H).symm _ _  S hF)
theorem CL:∀(a0:List Fm) r,HV a0=some r->VP K1 185 [sf K0 a0] (.bool r):=by
 intro a0 r H;intro σ;unfold HV at H;refine hdg mixed Tryz.func185 (rs:=[.tmp 2]) fun q tT=>?_;have hF:=K4 σ;have hX:=Tau.none σ;refine go ?_;obtain ⟨o9,ho9,H⟩:=bnd H;refine EF a0 0 _ ho9 _ rfl _ _  ?_ ?_ _ _  S hF
 ·intro _ he T11 s12 tT hF;have he:=he.symm;subst he
  try dsimp only at H
  refine go ?_;have e:=pur H;subst e;exact rt _
 ·intro r hr s' hs;subst hr;have e:=pur H;subst e;exact hsq hs
theorem V4:∀(a0:Fm) r,Vi a0=some r->VP K1 195 [.agg (K0 a0)] (.bool r):=by
 intro a0 r H;intro σ;unfold Vi at H;refine hdg mixed Tryz.func195 (rs:=[.tmp 2]) fun q tT=>?_;have hF:=K4 σ;have hX:=Tau.none σ;refine go ?_;refine Ya hF rfl fun b1 ss2 hF=>?_;refine go ?_;obtain ⟨x10,g3,H⟩:=bnd H;refine Yc 3 7 10 (.bool x10) (gi q (fun q=>?_) (fun q=>?_)) (fun J=>?_)
 ·refine go ?_;exact Yt 7 g3
 ·refine go ?_;exact Yt 7 g3
 refine go ?_;have e:=pur H;subst e;exact rt _
theorem OM:∀(a0:Fm) r,H5 a0=some r->VP K1 204 [.agg (K0 a0)] (.bool r):=by
 refine H5.partial_correctness _ (motive_2:=fun a0 YF YA out=>∀c,Yg Tryz.f204 0=some c->∀(Q:QT) (tt:Sto) (b1:Nat),(∀(Tc:Int),out=Sum.inr Tc->∀(T:TT) (σ:Sto),T 3=i6 Tc->Fx tt σ [(b1,⟨34,5,[i6 a0.kind,.str a0.name,i6 a0.num,sf cI a0.sc,sf K0 a0.kids]⟩)] []->Q (.ex 0) ⟨T,σ⟩)->(∀r,out=Sum.inl r->∀s',ID K1 [.tmp 2] (fun r' ss'=>r'=.bool r/\ss'=tt) s'->Q .ret s')->∀(T:TT) (σ:Sto),T 1=.ptr b1 0/\T 3=i6 YF/\T 4=i6 YA->Fx tt σ [(b1,⟨34,5,[i6 a0.kind,.str a0.name,i6 a0.num,sf cI a0.sc,sf K0 a0.kids]⟩)] []->aLp K1 c Q ⟨T,σ⟩) ?_ ?_
 ·intro W8 L0 a0 r H;intro σ;refine hdg mixed Tryz.func204 (rs:=[.tmp 2]) fun q tT=>?_;have hF:=K4 σ;have hX:=Tau.none σ;refine go ?_;refine Ya hF rfl fun b1 ss2 hF=>?_;refine go ?_;refine bp H (V4 a0) fun x6 h H=>cl h ?_;refine go ?_;refine cdb H (fun h H=>?_) (fun h H=>?_)
  ·refine go ?_;have e:=pur H;subst e;exact rt _
  ·refine go ?_;obtain ⟨o5,ho5,H⟩:=bnd H;refine L0 a0 0 0 _ ho5 _ rfl _ _ b1 ?_ ?_ _ _  S hF
   ·intro Qmw he T7 s8 tT hF;have he:=he.symm;subst he
    try dsimp only at H
    refine go ?_;have e:=pur H;subst e;exact rt _
   ·intro r hr s' hs;subst hr;have e:=pur H;subst e;exact hsq hs
 ·intro H5 W8 C0 L0 a0 YF YA out H c hc Q tt b1 hE hR T σ tT hF;refine lpx tt hc rfl fun q hX=>go ?_;refine cdp H (fun h H=>?_) (fun h H=>?_)
  ·obtain ⟨x17,f1,H⟩:=bil (g:=K0) Fm.X6 H;refine go1 ?_;refine bp H (V4 x17) fun x19 h H=>cl h ?_;refine go ?_;refine cdb H (fun h H=>?_) (fun h H=>?_)
   ·refine go ?_;obtain ⟨x32,g3,H⟩:=bnd H;refine Yc 7 25 32 (.bool x32) (giN q (fun q=>?_) (fun q=>?_)) (fun J=>?_)
    ·rw [if_neg (df q)] at g3;obtain ⟨x29,f1,g3⟩:=bil (g:=K0) Fm.X6 g3;refine go1 ?_;obtain ⟨x31,hx31,g3⟩:=bnd g3;refine cl (V4 x29 _ hx31) ?_;refine go ?_;exact Yt 25 g3
    ·rw [if_pos (dt q)] at g3;refine go ?_;exact Yt 25 g3
    refine go ?_;refine cdb H (fun h H=>?_) (fun h H=>?_)
    ·refine go ?_;exact wq (hR _ (pur H).symm _ (rt _))
    ·refine go ?_;exact L0 a0 (i64.wrap (YF+1)) (i64.wrap (YA+1)) _ H _ rfl Q tt b1 hE hR _ _  S hF
   ·obtain ⟨x36,f1,H⟩:=bil (g:=K0) Fm.X6 H;refine go1 ?_;refine bp H (C0 x36) fun x38 h H=>cl h ?_;refine go ?_;refine cdb H (fun h H=>?_) (fun h H=>?_)
    ·refine go ?_;exact wq (hR _ (pur H).symm _ (rt _))
    ·refine go ?_;exact L0 a0 YF (i64.wrap (YA+1)) _ H _ rfl Q tt b1 hE hR _ _  S hF
  ·refine go ?_;exact wq (hE _ (pur H).symm _ _  S hF)
theorem BU:∀(a0:Fm) (a1:List Fm) r,AG a0 a1=some r->VP K1 211 [.agg (K0 a0),sf K0 a1] (.bool r):=by
 intro a0 a1 r H;intro σ;unfold AG at H;refine hdg mixed Tryz.func211 (rs:=[.tmp 4]) fun q tT=>?_;have hF:=K4 σ;have hX:=Tau.none σ;refine go ?_;refine Ya hF rfl fun b1 ss2 hF=>?_;refine go ?_;obtain ⟨x12,g3,H⟩:=bnd H;refine Yc 3 9 12 (.bool x12) (gi q (fun q=>?_) (fun q=>?_)) (fun J=>?_)
 ·refine go ?_;exact Yt 9 g3
 ·refine go ?_;exact Yt 9 g3
 refine go ?_;obtain ⟨x17,g5,H⟩:=bnd H;refine Yc 3 14 17 (.bool x17) (gi q (fun q=>?_) (fun q=>?_)) (fun J=>?_)
 ·refine go ?_;exact Yt 14 g5
 ·refine go ?_;exact Yt 14 g5
 refine go ?_;obtain ⟨x23,g7,H⟩:=bnd H;refine Yc 4 19 23 (.bool x23) (gi q (fun q=>?_) (fun q=>?_)) (fun J=>?_)
 ·rw [if_pos (dbt q)] at g7;refine go ?_;obtain ⟨x21,hx21,g7⟩:=bnd g7;refine cl (CK a1 a0 _ hx21) ?_;refine go ?_;exact Yt 19 g7
 ·rw [if_neg (dbf q)] at g7;refine go ?_;exact Yt 19 g7
 refine go ?_;have e:=pur H;subst e;exact rt _
theorem Mw:∀(a0:List Fm) (a1:Fm) (a2:List Fm) r,JH a0 a1 a2=some r->∀  (p0:AV) (σ:Sto),Pre σ [] [⟨p0,34,5,rws K0 a0⟩]->Ctr K1 205 [p0,.agg (K0 a1),sf K0 a2] σ (fun r' ss'=>∃(tt':Sto) (w0:AV),r'=w0/\Tau (strip σ [⟨p0,34,5,rws K0 a0⟩]) [] tt'/\Fx tt' ss' [] [⟨w0,34,5,rws K0 r⟩]):=by
 intro a0 a1 a2;revert a0 a1;refine JH.partial_correctness a2 (motive_1:=fun a0 a1 r=>∀  (p0:AV) (σ:Sto),Pre σ [] [⟨p0,34,5,rws K0 a0⟩]->Ctr K1 205 [p0,.agg (K0 a1),sf K0 a2] σ (fun r' ss'=>∃(tt':Sto) (w0:AV),r'=w0/\Tau (strip σ [⟨p0,34,5,rws K0 a0⟩]) [] tt'/\Fx tt' ss' [] [⟨w0,34,5,rws K0 r⟩])) (motive_2:=fun a1 X9 Ym out=>∀c,Yg Tryz.f205 0=some c->∀(Q:QT) (tt0:Sto) (b1:Nat),(∀(Vz:List Fm),out=Vz->∀(T:TT) (σ tt:Sto) (e0v0:AV),T 0=e0v0->Tau tt0 [] tt->Fx tt σ [(b1,⟨34,5,[i6 a1.kind,.str a1.name,i6 a1.num,sf cI a1.sc,sf K0 a1.kids]⟩)] [⟨e0v0,34,5,rws K0 Vz⟩]->Q (.ex 0) ⟨T,σ⟩)->True->∀(T:TT) (σ tt:Sto) (z0v0:AV),T 0=z0v0/\T 2=sf K0 a2/\T 4=.ptr b1 0/\T 7=i6 Ym->Tau tt0 [] tt->Fx tt σ [(b1,⟨34,5,[i6 a1.kind,.str a1.name,i6 a1.num,sf cI a1.sc,sf K0 a1.kids]⟩)] [⟨z0v0,34,5,rws K0 X9⟩]->aLp K1 c Q ⟨T,σ⟩) ?_ ?_
 ·intro WS L0 a0 a1 r H;intro  p0 σ hP;refine hdg mixed Tryz.func205 (rs:=[.tmp 6]) fun q tT=>?_;obtain ⟨hF,hX⟩:=hP.start;generalize strip σ [⟨p0,34,5,rws K0 a0⟩]=tt0 at hF hX ⊢;refine go ?_;refine Ya hF rfl fun b1 ss2 hF=>?_;refine go ?_;refine bp H (BU a1 a2) fun x10 h H=>cl h ?_;refine go ?_;obtain ⟨AN,j4,H⟩:=bnd H;refine Wn (fun s'=>∃(T:TT) (ss1 tt1:Sto) (y3v0:AV),s'=⟨T,ss1⟩/\(T 0=y3v0/\T 2=sf K0 a2/\T 4=.ptr b1 0)/\Tau tt0 [] tt1/\Fx tt1 ss1 [(b1,⟨34,5,[i6 a1.kind,.str a1.name,i6 a1.num,sf cI a1.sc,sf K0 a1.kids]⟩)] [⟨y3v0,34,5,rws K0 AN⟩]) (cdb j4 (fun h j4=>?_) (fun h j4=>?_)) ?_
  ·refine go ?_;refine apd (g:=K0) hF 0 j4 (rdo (c:=true) (g:=K0) Fm.X6) fun x14 j4 v5 ss6 hF=>?_;refine go ?_;have e:=pur j4;subst e;exact ⟨_,_,_,v5,rfl,S,hX,hF⟩
  ·refine go ?_;have e:=pur j4;subst e;exact ⟨_,_,_,p0,rfl,S,hX,hF⟩
  ·rintro s' ⟨T7,s8,t9,y3v0,rfl,tT,hX,hF⟩;refine go ?_;obtain ⟨o14,ho14,H⟩:=bnd H;refine L0 a1 AN 0 _ ho14 _ rfl _ tt0 b1 ?_ ?_ _ _ _ y3v0 S hX hF
   ·intro MO he T16 s17 t18 e15v0 tT hX hF;have he:=he.symm;subst he;refine go ?_;have e:=pur H;subst e;exact rg _ ⟨_,_,rfl,hX,hF.pick [] [0] (by decide) (by decide)⟩
   ·trivial
 ·intro JH WS C0 L0 a1 X9 Ym out H c hc Q tt0 b1 hE hR T σ tt z0v0 tT hX hF;refine lpy hc rfl fun q=>go ?_;refine cdp H (fun h H=>?_) (fun h H=>?_)
  ·obtain ⟨x26,f1,H⟩:=bil (g:=K0) Fm.X6 H;refine go1 ?_;obtain ⟨x29,hx29,H⟩:=bnd H;refine cx (C0 X9 x26 _ hx29  z0v0 _ (pre 0 0 1 hF hX)) ?_;rintro v10 s11 ⟨t12,_,rfl,hT,hG⟩;obtain ⟨t13,hX,hF⟩:=aft 0 0 1 hF hX hT hG;refine go ?_;exact L0 a1 x29 (i64.wrap (Ym+1)) _ H _ rfl Q tt0 b1 hE hR _ _ _ v10 S hX hF
  ·refine go ?_;exact wq (hE _ (pur H).symm _ _ _ z0v0 S hX hF)
theorem Mv:∀(a1:Fm) (a2 X9:List Fm) (Ym:Int) out,JG a1 a2 X9 Ym=some out->∀c,Yg Tryz.f205 0=some c->∀(Q:QT) (tt0:Sto) (b1:Nat),(∀(Vz:List Fm),out=Vz->∀(T:TT) (σ tt:Sto) (e0v0:AV),T 0=e0v0->Tau tt0 [] tt->Fx tt σ [(b1,⟨34,5,[i6 a1.kind,.str a1.name,i6 a1.num,sf cI a1.sc,sf K0 a1.kids]⟩)] [⟨e0v0,34,5,rws K0 Vz⟩]->Q (.ex 0) ⟨T,σ⟩)->True->∀(T:TT) (σ tt:Sto) (z0v0:AV),T 0=z0v0/\T 2=sf K0 a2/\T 4=.ptr b1 0/\T 7=i6 Ym->Tau tt0 [] tt->Fx tt σ [(b1,⟨34,5,[i6 a1.kind,.str a1.name,i6 a1.num,sf cI a1.sc,sf K0 a1.kids]⟩)] [⟨z0v0,34,5,rws K0 X9⟩]->aLp K1 c Q ⟨T,σ⟩:=by
 intro a1 a2 X9 Ym;revert X9 Ym;refine JG.partial_correctness a1 a2 _ ?_;intro JG IH X9 Ym out H c hc Q tt0 b1 hE hR T σ tt z0v0 tT hX hF;refine lpy hc rfl fun q=>go ?_;refine cdp H (fun h H=>?_) (fun h H=>?_)
 ·obtain ⟨x26,f1,H⟩:=bil (g:=K0) Fm.X6 H;refine go1 ?_;obtain ⟨x29,hx29,H⟩:=bnd H;refine cx (Mw X9 x26 a2 _ hx29  z0v0 _ (pre 0 0 1 hF hX)) ?_;rintro v10 s11 ⟨t12,_,rfl,hT,hG⟩;obtain ⟨t13,hX,hF⟩:=aft 0 0 1 hF hX hT hG;refine go ?_;exact IH  x29 (i64.wrap (Ym+1)) _ H _ rfl Q tt0 b1 hE hR _ _ _ v10 S hX hF
 ·refine go ?_;exact wq (hE _ (pur H).symm _ _ _ z0v0 S hX hF)
theorem Da:∀(a0:List Fm) (a1:Fm) (a2:List Fm) r,Aw a0 a1 a2=some r->∀  (p0:AV) (σ:Sto),Pre σ [] [⟨p0,34,5,rws K0 a0⟩]->Ctr K1 205 [p0,.agg (K0 a1),sf K0 a2] σ (fun r' ss'=>∃(tt':Sto),r'=sf K0 r/\Tau (strip σ [⟨p0,34,5,rws K0 a0⟩]) [] tt'/\Fx tt' ss' [] []):=by
 intro a0 a1 a2 r H;intro  p0 σ hP;unfold Aw at H;refine hdg mixed Tryz.func205 (rs:=[.tmp 6]) fun q tT=>?_;obtain ⟨hF,hX⟩:=hP.start;generalize strip σ [⟨p0,34,5,rws K0 a0⟩]=tt0 at hF hX ⊢;refine go ?_;refine Ya hF rfl fun b1 ss2 hF=>?_;refine go ?_;refine bp H (BU a1 a2) fun x10 h H=>cl h ?_;refine go ?_;obtain ⟨AN,j4,H⟩:=bnd H;refine Wn (fun s'=>∃(T:TT) (ss1 tt1:Sto) (y3v0:AV),s'=⟨T,ss1⟩/\(T 0=y3v0/\T 2=sf K0 a2/\T 4=.ptr b1 0)/\Tau tt0 [] tt1/\Fx tt1 ss1 [(b1,⟨34,5,[i6 a1.kind,.str a1.name,i6 a1.num,sf cI a1.sc,sf K0 a1.kids]⟩)] [⟨y3v0,34,5,rws K0 AN⟩]) (cdb j4 (fun h j4=>?_) (fun h j4=>?_)) ?_
 ·refine go ?_;refine apd (g:=K0) hF 0 j4 (rdo (c:=true) (g:=K0) Fm.X6) fun x14 j4 v5 ss6 hF=>?_;refine go ?_;have e:=pur j4;subst e;exact ⟨_,_,_,v5,rfl,S,hX,hF⟩
 ·refine go ?_;have e:=pur j4;subst e;exact ⟨_,_,_,p0,rfl,S,hX,hF⟩
 ·rintro s' ⟨T7,s8,t9,y3v0,rfl,tT,hX,hF⟩;refine go ?_;obtain ⟨o14,ho14,H⟩:=bnd H;refine Mv a1 a2 AN 0 _ ho14 _ rfl _ tt0 b1 ?_ ?_ _ _ _ y3v0 S hX hF
  ·intro MO he T16 s17 t18 e15v0 tT hX hF;have he:=he.symm;subst he;refine go ?_;have e:=pur H;subst e;exact rg _ ⟨_,rfl,hX,K6 _⟩
  ·trivial
theorem FK:∀(a0:List Int) (a1:Fm) (a2:List Fm) (a3:Int) r,VZ a0 a1 a2 a3=some r->∀  (p0:AV) (σ:Sto),Pre σ [] [⟨p0,3,1,rws cI a0⟩]->Ctr K1 206 [p0,.agg (K0 a1),sf K0 a2,i6 a3] σ (fun r' ss'=>∃(tt':Sto) (w0:AV),r'=w0/\Tau (strip σ [⟨p0,3,1,rws cI a0⟩]) [] tt'/\Fx tt' ss' [] [⟨w0,3,1,rws cI r⟩]):=by
 intro a0 a1 a2 a3;revert a0 a1 a3;refine VZ.partial_correctness a2 (motive_1:=fun a0 a1 a3 r=>∀  (p0:AV) (σ:Sto),Pre σ [] [⟨p0,3,1,rws cI a0⟩]->Ctr K1 206 [p0,.agg (K0 a1),sf K0 a2,i6 a3] σ (fun r' ss'=>∃(tt':Sto) (w0:AV),r'=w0/\Tau (strip σ [⟨p0,3,1,rws cI a0⟩]) [] tt'/\Fx tt' ss' [] [⟨w0,3,1,rws cI r⟩])) (motive_2:=fun a1 a3 X9 Vd out=>∀c,Yg Tryz.f206 0=some c->∀(Q:QT) (tt0:Sto) (b1:Nat),(∀(Vz:List Int),out=Vz->∀(T:TT) (σ tt:Sto) (e0v0:AV),T 0=e0v0->Tau tt0 [] tt->Fx tt σ [(b1,⟨34,5,[i6 a1.kind,.str a1.name,i6 a1.num,sf cI a1.sc,sf K0 a1.kids]⟩)] [⟨e0v0,3,1,rws cI Vz⟩]->Q (.ex 0) ⟨T,σ⟩)->True->∀(T:TT) (σ tt:Sto) (z0v0:AV),T 0=z0v0/\T 2=sf K0 a2/\T 3=i6 a3/\T 5=.ptr b1 0/\T 9=i6 Vd->Tau tt0 [] tt->Fx tt σ [(b1,⟨34,5,[i6 a1.kind,.str a1.name,i6 a1.num,sf cI a1.sc,sf K0 a1.kids]⟩)] [⟨z0v0,3,1,rws cI X9⟩]->aLp K1 c Q ⟨T,σ⟩) ?_ ?_
 ·intro We L0 a0 a1 a3 r H;intro  p0 σ hP;refine hdg mixed Tryz.func206 (rs:=[.tmp 8]) fun q tT=>?_;obtain ⟨hF,hX⟩:=hP.start;generalize strip σ [⟨p0,3,1,rws cI a0⟩]=tt0 at hF hX ⊢;refine go ?_;refine Ya hF rfl fun b1 ss2 hF=>?_;refine go ?_;refine bp H (BU a1 a2) fun x13 h H=>cl h ?_;refine go ?_;obtain ⟨AN,j4,H⟩:=bnd H;refine Wn (fun s'=>∃(T:TT) (ss1 tt1:Sto) (y3v0:AV),s'=⟨T,ss1⟩/\(T 0=y3v0/\T 2=sf K0 a2/\T 3=i6 a3/\T 5=.ptr b1 0)/\Tau tt0 [] tt1/\Fx tt1 ss1 [(b1,⟨34,5,[i6 a1.kind,.str a1.name,i6 a1.num,sf cI a1.sc,sf K0 a1.kids]⟩)] [⟨y3v0,3,1,rws cI AN⟩]) (cdb j4 (fun h j4=>?_) (fun h j4=>?_)) ?_
  ·refine go ?_;refine apd (g:=cI) hF 0 j4 (rdo (c:=true) (g:=cI) (fun _=>rfl)) fun x17 j4 v5 ss6 hF=>?_;refine go ?_;have e:=pur j4;subst e;exact ⟨_,_,_,v5,rfl,S,hX,hF⟩
  ·refine go ?_;have e:=pur j4;subst e;exact ⟨_,_,_,p0,rfl,S,hX,hF⟩
  ·rintro s' ⟨T7,s8,t9,y3v0,rfl,tT,hX,hF⟩;refine go ?_;obtain ⟨o21,ho21,H⟩:=bnd H;refine L0 a1 a3 AN 0 _ ho21 _ rfl _ tt0 b1 ?_ ?_ _ _ _ y3v0 S hX hF
   ·intro DU he T23 s24 t25 e22v0 tT hX hF;have he:=he.symm;subst he;refine go ?_;have e:=pur H;subst e;exact rg _ ⟨_,_,rfl,hX,hF.pick [] [0] (by decide) (by decide)⟩
   ·trivial
 ·intro VZ We C0 L0 a1 a3 X9 Vd out H c hc Q tt0 b1 hE hR T σ tt z0v0 tT hX hF;refine lpy hc rfl fun q=>go ?_;refine cdp H (fun h H=>?_) (fun h H=>?_)
  ·refine go ?_;obtain ⟨x40,g10,H⟩:=bnd H;refine Yc 7 33 40 (.bool x40) (gi q (fun q=>?_) (fun q=>?_)) (fun J=>?_)
   ·rw [if_pos (dt q)] at g10;obtain ⟨x37,f1,g10⟩:=bil (g:=K0) Fm.X6 g10;refine go1 ?_;obtain ⟨x39,hx39,g10⟩:=bnd g10;refine cl (V4 x37 _ hx39) ?_;refine go ?_;exact Yt 33 g10
   ·rw [if_neg (df q)] at g10;refine go ?_;exact Yt 33 g10
   refine go ?_;obtain ⟨Bq,j13,H⟩:=bnd H;refine Wn (fun s'=>∃(T:TT) (ss1 tt1:Sto),s'=⟨T,ss1⟩/\(T 0=z0v0/\T 2=sf K0 a2/\T 3=i6 a3/\T 5=.ptr b1 0/\T 9=i6 Vd/\T 10=i6 Bq)/\Tau tt0 [] tt1/\Fx tt1 ss1 [(b1,⟨34,5,[i6 a1.kind,.str a1.name,i6 a1.num,sf cI a1.sc,sf K0 a1.kids]⟩)] [⟨z0v0,3,1,rws cI X9⟩]) (cdb j13 (fun h j13=>?_) (fun h j13=>?_)) ?_
   ·refine go ?_;have e:=pur j13;subst e;exact ⟨_,_,_,rfl,S,hX,hF⟩
   ·refine go ?_;have e:=pur j13;subst e;exact ⟨_,_,_,rfl,S,hX,hF⟩
   ·rintro s' ⟨T14,s15,t16,rfl,tT,hX,hF⟩;obtain ⟨x47,f1,H⟩:=bil (g:=K0) Fm.X6 H;refine go1 ?_;obtain ⟨x51,hx51,H⟩:=bnd H;refine cx (C0 X9 x47 Bq _ hx51  z0v0 _ (pre 0 0 1 hF hX)) ?_;rintro v17 s18 ⟨t19,_,rfl,hT,hG⟩;obtain ⟨t20,hX,hF⟩:=aft 0 0 1 hF hX hT hG;refine go ?_;exact L0 a1 a3 x51 (i64.wrap (Vd+1)) _ H _ rfl Q tt0 b1 hE hR _ _ _ v17 S hX hF
  ·refine go ?_;exact wq (hE _ (pur H).symm _ _ _ z0v0 S hX hF)
theorem FJ:∀(a1:Fm) (a2:List Fm) (a3:Int) (X9:List Int) (Vd:Int) out,WH a1 a2 a3 X9 Vd=some out->∀c,Yg Tryz.f206 0=some c->∀(Q:QT) (tt0:Sto) (b1:Nat),(∀(Vz:List Int),out=Vz->∀(T:TT) (σ tt:Sto) (e0v0:AV),T 0=e0v0->Tau tt0 [] tt->Fx tt σ [(b1,⟨34,5,[i6 a1.kind,.str a1.name,i6 a1.num,sf cI a1.sc,sf K0 a1.kids]⟩)] [⟨e0v0,3,1,rws cI Vz⟩]->Q (.ex 0) ⟨T,σ⟩)->True->∀(T:TT) (σ tt:Sto) (z0v0:AV),T 0=z0v0/\T 2=sf K0 a2/\T 3=i6 a3/\T 5=.ptr b1 0/\T 9=i6 Vd->Tau tt0 [] tt->Fx tt σ [(b1,⟨34,5,[i6 a1.kind,.str a1.name,i6 a1.num,sf cI a1.sc,sf K0 a1.kids]⟩)] [⟨z0v0,3,1,rws cI X9⟩]->aLp K1 c Q ⟨T,σ⟩:=by
 intro a1 a2 a3 X9 Vd;revert X9 Vd;refine WH.partial_correctness a1 a2 a3 _ ?_;intro WH IH X9 Vd out H c hc Q tt0 b1 hE hR T σ tt z0v0 tT hX hF;refine lpy hc rfl fun q=>go ?_;refine cdp H (fun h H=>?_) (fun h H=>?_)
 ·refine go ?_;obtain ⟨x40,g10,H⟩:=bnd H;refine Yc 7 33 40 (.bool x40) (gi q (fun q=>?_) (fun q=>?_)) (fun J=>?_)
  ·rw [if_pos (dt q)] at g10;obtain ⟨x37,f1,g10⟩:=bil (g:=K0) Fm.X6 g10;refine go1 ?_;obtain ⟨x39,hx39,g10⟩:=bnd g10;refine cl (V4 x37 _ hx39) ?_;refine go ?_;exact Yt 33 g10
  ·rw [if_neg (df q)] at g10;refine go ?_;exact Yt 33 g10
  refine go ?_;obtain ⟨Bq,j13,H⟩:=bnd H;refine Wn (fun s'=>∃(T:TT) (ss1 tt1:Sto),s'=⟨T,ss1⟩/\(T 0=z0v0/\T 2=sf K0 a2/\T 3=i6 a3/\T 5=.ptr b1 0/\T 9=i6 Vd/\T 10=i6 Bq)/\Tau tt0 [] tt1/\Fx tt1 ss1 [(b1,⟨34,5,[i6 a1.kind,.str a1.name,i6 a1.num,sf cI a1.sc,sf K0 a1.kids]⟩)] [⟨z0v0,3,1,rws cI X9⟩]) (cdb j13 (fun h j13=>?_) (fun h j13=>?_)) ?_
  ·refine go ?_;have e:=pur j13;subst e;exact ⟨_,_,_,rfl,S,hX,hF⟩
  ·refine go ?_;have e:=pur j13;subst e;exact ⟨_,_,_,rfl,S,hX,hF⟩
  ·rintro s' ⟨T14,s15,t16,rfl,tT,hX,hF⟩;obtain ⟨x47,f1,H⟩:=bil (g:=K0) Fm.X6 H;refine go1 ?_;obtain ⟨x51,hx51,H⟩:=bnd H;refine cx (FK X9 x47 a2 Bq _ hx51  z0v0 _ (pre 0 0 1 hF hX)) ?_;rintro v17 s18 ⟨t19,_,rfl,hT,hG⟩;obtain ⟨t20,hX,hF⟩:=aft 0 0 1 hF hX hT hG;refine go ?_;exact IH  x51 (i64.wrap (Vd+1)) _ H _ rfl Q tt0 b1 hE hR _ _ _ v17 S hX hF
 ·refine go ?_;exact wq (hE _ (pur H).symm _ _ _ z0v0 S hX hF)
theorem BK:∀(a0:List Int) (a1:Fm) (a2:List Fm) (a3:Int) r,Ii a0 a1 a2 a3=some r->∀  (p0:AV) (σ:Sto),Pre σ [] [⟨p0,3,1,rws cI a0⟩]->Ctr K1 206 [p0,.agg (K0 a1),sf K0 a2,i6 a3] σ (fun r' ss'=>∃(tt':Sto),r'=sf cI r/\Tau (strip σ [⟨p0,3,1,rws cI a0⟩]) [] tt'/\Fx tt' ss' [] []):=by
 intro a0 a1 a2 a3 r H;intro  p0 σ hP;unfold Ii at H;refine hdg mixed Tryz.func206 (rs:=[.tmp 8]) fun q tT=>?_;obtain ⟨hF,hX⟩:=hP.start;generalize strip σ [⟨p0,3,1,rws cI a0⟩]=tt0 at hF hX ⊢;refine go ?_;refine Ya hF rfl fun b1 ss2 hF=>?_;refine go ?_;refine bp H (BU a1 a2) fun x13 h H=>cl h ?_;refine go ?_;obtain ⟨AN,j4,H⟩:=bnd H;refine Wn (fun s'=>∃(T:TT) (ss1 tt1:Sto) (y3v0:AV),s'=⟨T,ss1⟩/\(T 0=y3v0/\T 2=sf K0 a2/\T 3=i6 a3/\T 5=.ptr b1 0)/\Tau tt0 [] tt1/\Fx tt1 ss1 [(b1,⟨34,5,[i6 a1.kind,.str a1.name,i6 a1.num,sf cI a1.sc,sf K0 a1.kids]⟩)] [⟨y3v0,3,1,rws cI AN⟩]) (cdb j4 (fun h j4=>?_) (fun h j4=>?_)) ?_
 ·refine go ?_;refine apd (g:=cI) hF 0 j4 (rdo (c:=true) (g:=cI) (fun _=>rfl)) fun x17 j4 v5 ss6 hF=>?_;refine go ?_;have e:=pur j4;subst e;exact ⟨_,_,_,v5,rfl,S,hX,hF⟩
 ·refine go ?_;have e:=pur j4;subst e;exact ⟨_,_,_,p0,rfl,S,hX,hF⟩
 ·rintro s' ⟨T7,s8,t9,y3v0,rfl,tT,hX,hF⟩;refine go ?_;obtain ⟨o21,ho21,H⟩:=bnd H;refine FJ a1 a2 a3 AN 0 _ ho21 _ rfl _ tt0 b1 ?_ ?_ _ _ _ y3v0 S hX hF
  ·intro DU he T23 s24 t25 e22v0 tT hX hF;have he:=he.symm;subst he;refine go ?_;have e:=pur H;subst e;exact rg _ ⟨_,rfl,hX,K6 _⟩
  ·trivial
theorem OI:∀(a0:Fm) (a1 x25:List Fm) (YS:Int) out,Hl a0 a1 x25 YS=some out->∀c,Yg Tryz.f198 0=some c->∀(Q:QT) (tt:Sto) (b1:Nat),(∀(_u:Unit),out=Sum.inr ()->∀(T:TT) (σ:Sto),T 1=sf K0 a1/\T 2=.ptr b1 0/\T 5=sf K0 x25->Fx tt σ [(b1,⟨34,5,[i6 a0.kind,.str a0.name,i6 a0.num,sf cI a0.sc,sf K0 a0.kids]⟩)] []->Q (.ex 0) ⟨T,σ⟩)->(∀r,out=Sum.inl r->∀s',ID K1 [.tmp 4] (fun r' ss'=>r'=.bool r/\ss'=tt) s'->Q .ret s')->∀(T:TT) (σ:Sto),T 1=sf K0 a1/\T 2=.ptr b1 0/\T 5=sf K0 x25/\T 6=i6 YS->Fx tt σ [(b1,⟨34,5,[i6 a0.kind,.str a0.name,i6 a0.num,sf cI a0.sc,sf K0 a0.kids]⟩)] []->aLp K1 c Q ⟨T,σ⟩:=by
 intro a0 a1 x25 YS;revert YS;refine Hl.partial_correctness a0 a1 x25 _ ?_;intro Hl IH YS out H c hc Q tt b1 hE hR T σ tT hF;refine lpx tt hc rfl fun q hX=>go ?_;refine cdp H (fun h H=>?_) (fun h H=>?_)
 ·refine go ?_;refine Yj E0 [.v,.v,.v,.v,.v,.v,.v,.v] (by kernel_rfl) ?_;obtain ⟨x34,f1,H⟩:=bls (g:=K0) Fm.X6 (lo:=none) (hi:=some (i6 YS)) rfl rfl H;obtain ⟨x37,f2,H⟩:=bil (g:=K0) Fm.X6 H;refine go2 ?_;refine bp H (CK x34 x37) fun x39 h H=>cv h ?_;refine go ?_;refine cdb H (fun h H=>?_) (fun h H=>?_)
  ·refine go ?_;exact wq (hR _ (pur H).symm _ (rt _))
  ·refine go ?_;exact IH  (i64.wrap (YS+1)) _ H _ rfl Q tt b1 hE hR _ _  S hF
 ·refine go ?_;exact wq (hE () (pur H).symm _ _  S hF)
theorem OJ:∀(a0:Fm) (x25:List Fm) (x43:List Int) (Je:Int) out,Hm a0 x25 x43 Je=some out->∀c,Yg Tryz.f198 1=some c->∀(Q:QT) (tt:Sto) (b1:Nat),(∀(_u:Unit),out=Sum.inr ()->∀(T:TT) (σ:Sto),T 5=sf K0 x25->Fx tt σ [(b1,⟨34,5,[i6 a0.kind,.str a0.name,i6 a0.num,sf cI a0.sc,sf K0 a0.kids]⟩)] []->Q (.ex 2) ⟨T,σ⟩)->(∀r,out=Sum.inl r->∀s',ID K1 [.tmp 4] (fun r' ss'=>r'=.bool r/\ss'=tt) s'->Q .ret s')->∀(T:TT) (σ:Sto),T 5=sf K0 x25/\T 7=sf cI x43/\T 8=i6 Je->Fx tt σ [(b1,⟨34,5,[i6 a0.kind,.str a0.name,i6 a0.num,sf cI a0.sc,sf K0 a0.kids]⟩)] []->aLp K1 c Q ⟨T,σ⟩:=by
 intro a0 x25 x43 Je;revert Je;refine Hm.partial_correctness a0 x25 x43 _ ?_;intro Hm IH Je out H c hc Q tt b1 hE hR T σ tT hF;refine lpx tt hc rfl fun q hX=>go ?_;refine cdp H (fun h H=>?_) (fun h H=>?_)
 ·obtain ⟨x52,f1,H⟩:=bil (g:=cI) (fun _=>rfl) H;refine go1 ?_;refine go ?_;refine cdp H (fun h H=>?_) (fun h H=>?_)
  ·refine go ?_;exact wq (hR _ (pur H).symm _ (rt _))
  ·refine go ?_;exact IH  (i64.wrap (Je+1)) _ H _ rfl Q tt b1 hE hR _ _  S hF
 ·refine go ?_;exact wq (hE () (pur H).symm _ _  S hF)
theorem TS:∀(a0:Fm) (a1:List Fm) r,ED a0 a1=some r->VP K1 198 [.agg (K0 a0),sf K0 a1] (.bool r):=by
 intro a0 a1 r H;intro σ;unfold ED at H;refine hdg mixed Tryz.func198 (rs:=[.tmp 4]) fun q tT=>?_;have hF:=K4 σ;have hX:=Tau.none σ;refine go ?_;refine Ya hF rfl fun b1 ss2 hF=>?_;refine go ?_;refine bp H (Va a0) fun x10 h H=>cl h ?_;refine go ?_;obtain ⟨x16,g3,H⟩:=bnd H;refine Yc 3 13 16 (.bool x16) (giN q (fun q=>?_) (fun q=>?_)) (fun J=>?_)
 ·rw [if_neg (dbf q)] at g3;refine go ?_;obtain ⟨x14,hx14,g3⟩:=bnd g3;refine cl (CL a1 _ hx14) ?_;refine go ?_;exact Yt 13 g3
 ·rw [if_pos (dbt q)] at g3;refine go ?_;exact Yt 13 g3
 refine go ?_;obtain ⟨x21,g5,H⟩:=bnd H;refine Yc 3 18 21 (.bool x21) (giN q (fun q=>?_) (fun q=>?_)) (fun J=>?_)
 ·rw [if_neg (dbf q)] at g5;refine go ?_;obtain ⟨x19,hx19,g5⟩:=bnd g5;refine cl (OM a0 _ hx19) ?_;refine go ?_;exact Yt 18 g5
 ·rw [if_pos (dbt q)] at g5;refine go ?_;exact Yt 18 g5
 refine go ?_;refine cdb H (fun h H=>?_) (fun h H=>?_)
 ·refine go ?_;have e:=pur H;subst e;exact rt _
 ·have hF:=hF.lit 34 5 (rws K0 []) rfl;refine go ?_;obtain ⟨x25,hx25,H⟩:=bnd H;refine cx (Da [] a0 a1 _ hx25  (.sl true (rws K0 [])) _ (pre 0 0 1 hF hX)) ?_;rintro _ s7 ⟨t8,rfl,hT,hG⟩;have hF:=DA 0 1 hF hX hT hG;refine go ?_;obtain ⟨o10,ho10,H⟩:=bnd H;refine OI a0 a1 x25 0 _ ho10 _ rfl _ _ b1 ?_ ?_ _ _  S hF
  ·intro _ he T12 s13 tT hF;have he:=he.symm;subst he
   try dsimp only at H
   have hF:=hF.lit 3 1 (rws cI []) rfl;refine go ?_;obtain ⟨x43,hx43,H⟩:=bnd H;refine cx (BK [] a0 a1 0 _ hx43  (.sl true (rws cI [])) _ (pre 0 0 1 hF hX)) ?_;rintro _ s15 ⟨t16,rfl,hT,hG⟩;have hF:=DA 0 1 hF hX hT hG;refine go ?_;obtain ⟨o18,ho18,H⟩:=bnd H;refine OJ a0 x25 x43 0 _ ho18 _ rfl _ _ b1 ?_ ?_ _ _  S hF
   ·intro _ he T20 s21 tT hF;have he:=he.symm;subst he
    try dsimp only at H
    refine go ?_;have e:=pur H;subst e;exact rt _
   ·intro r hr s' hs;subst hr;have e:=pur H;subst e;exact hsq hs
  ·intro r hr s' hs;subst hr;have e:=pur H;subst e;exact hsq hs
theorem LC:∀(a0:Fm) (x14:List Fm) (x18:List Int) (X9:List Hit) (Yi:Int) out,WE a0 x14 x18 X9 Yi=some out->∀c,Yg Tryz.f200 0=some c->∀(Q:QT) (tt:Sto) (b1:Nat),(∀(Vz:List Hit),out=Vz->∀(T:TT) (σ:Sto) (e0v0:AV),T 5=e0v0->Fx tt σ [(b1,⟨34,5,[i6 a0.kind,.str a0.name,i6 a0.num,sf cI a0.sc,sf K0 a0.kids]⟩)] [⟨e0v0,217,12,rws K3 Vz⟩]->Q (.ex 0) ⟨T,σ⟩)->True->∀(T:TT) (σ:Sto) (z0v0:AV),T 5=z0v0/\T 6=sf K0 x14/\T 7=sf cI x18/\T 8=i6 Yi->Fx tt σ [(b1,⟨34,5,[i6 a0.kind,.str a0.name,i6 a0.num,sf cI a0.sc,sf K0 a0.kids]⟩)] [⟨z0v0,217,12,rws K3 X9⟩]->aLp K1 c Q ⟨T,σ⟩:=by
 intro a0 x14 x18 X9 Yi;revert X9 Yi;refine WE.partial_correctness a0 x14 x18 _ ?_;intro WE IH X9 Yi out H c hc Q tt b1 hE hR T σ z0v0 tT hF;refine lpx tt hc rfl fun q hX=>go ?_;refine cdp H (fun h H=>?_) (fun h H=>?_)
 ·refine go ?_;refine Yj E0 [.v,.v,.v,.v,.v,.v,.v,.v,.v,.x,.z] (by kernel_rfl) ?_;obtain ⟨x27,f1,H⟩:=bil (g:=K0) Fm.X6 H;obtain ⟨x31,f2,H⟩:=bil (g:=cI) (fun _=>rfl) H;refine go2 ?_;refine HH hF rfl fun b9 s10 hF=>?_;refine go ?_;refine st hF 0 rfl fun s11 hF=>?_;refine go ?_;refine cdp H (fun h H=>?_) (fun h H=>?_)
  ·obtain ⟨x39,f1,H⟩:=bil (g:=K0) Fm.X6 H;refine go1 ?_;refine st hF 0 rfl fun s12 hF=>?_;refine go ?_;refine apw (g:=K3) (rows:=[[i6 x27.kind,.str x27.name,i6 x27.num,sf cI x27.sc,sf K0 x27.kids,i6 x31,i6 x39.kind,.str x39.name,i6 x39.num,sf cI x39.sc,sf K0 x39.kids,.Yd]]) hF 0 H Hit.X6 true rfl (by simp only [sf,i6,zB,Vn,VQ,cI,cU,cS,cL,Hit.Yb,Fm.Yb,Zp,Zq,Fm.num,Fm.sc,Zr,Zg,Zc,Zs,Zh,Zi,Zy,Zj,Zt,Zu,Zk,Zl,Zm,Zv,Zn,Zd,Zz,Zw,ZA,Zx,Qr,K9,KK,Kj,QU];exact (.cons (.refl _) id (.cons (.refl _) id (.cons (.refl _) id (.cons (.refl _) id (.cons (.refl _) id (.cons (.refl _) id (.cons (.refl _) id (.cons (.refl _) id (.cons (.refl _) id (.cons (.refl _) id (.cons (.refl _) id (.cons .Yd (fun _=>rfl) .nil))))))))))))) fun x45 H v13 s14 hF=>?_;refine go ?_;exact IH  x45 (i64.wrap (Yi+1)) _ H _ rfl Q tt b1 hE hR _ _ v13 S (hF.drop 1 0)
  ·refine go ?_;refine apw (g:=K3) (rows:=[[i6 x27.kind,.str x27.name,i6 x27.num,sf cI x27.sc,sf K0 x27.kids,i6 x31,i6 0,.str zB,i6 0,.Yd,.Yd,.Yd]]) hF 0 H Hit.X6 true rfl (by simp only [sf,i6,zB,Vn,VQ,cI,cU,cS,cL,Hit.Yb,Fm.Yb,Zp,Zq,Fm.num,Fm.sc,Zr,Zg,Zc,Zs,Zh,Zi,Zy,Zj,Zt,Zu,Zk,Zl,Zm,Zv,Zn,Zd,Zz,Zw,ZA,Zx,Qr,K9,KK,Kj,QU];exact (.cons (.refl _) id (.cons (.refl _) id (.cons (.refl _) id (.cons (.refl _) id (.cons (.refl _) id (.cons (.refl _) id (.cons (.refl _) id (.cons (.refl _) id (.cons (.refl _) id (.cons .Yd (fun _=>rfl) (.cons .Yd (fun _=>rfl) (.cons .Yd (fun _=>rfl) .nil))))))))))))) fun Qh0 H v15 s16 hF=>?_;refine go ?_;exact IH  Qh0 (i64.wrap (Yi+1)) _ H _ rfl Q tt b1 hE hR _ _ v15 S (hF.drop 1 0)
 ·refine go ?_;exact wq (hE _ (pur H).symm _ _ z0v0 S hF)
theorem OP:∀(a0:Fm) (a1:List Fm) r,BG a0 a1=some r->VP K1 200 [.agg (K0 a0),sf K0 a1] (sf K3 r):=by
 intro a0 a1 r H;intro σ;unfold BG at H;refine hdg mixed Tryz.func200 (rs:=[.tmp 4]) fun q tT=>?_;have hF:=K4 σ;have hX:=Tau.none σ;refine go ?_;refine Ya hF rfl fun b1 ss2 hF=>?_;have hF:=hF.lit 34 5 (rws K0 []) rfl;refine go ?_;obtain ⟨x14,hx14,H⟩:=bnd H;refine cx (Da [] a0 a1 _ hx14  (.sl true (rws K0 [])) _ (pre 0 0 1 hF hX)) ?_;rintro _ ss3 ⟨tt4,rfl,hT,hG⟩;have hF:=DA 0 1 hF hX hT hG;have hF:=hF.lit 3 1 (rws cI []) rfl;refine go ?_;obtain ⟨x18,hx18,H⟩:=bnd H;refine cx (BK [] a0 a1 0 _ hx18  (.sl true (rws cI [])) _ (pre 0 0 1 hF hX)) ?_;rintro _ ss6 ⟨t7,rfl,hT,hG⟩;have hF:=DA 0 1 hF hX hT hG;have hF:=hF.lit 217 12 (rws K3 []) rfl;refine go ?_;obtain ⟨o17,ho17,H⟩:=bnd H;refine LC a0 x14 x18 [] 0 _ ho17 _ rfl _ _ b1 ?_ ?_ _ _ (.sl true (rws K3 [])) S hF
 ·intro Qli he T19 s20 e18v0 tT hF;have he:=he.symm;subst he;refine go ?_;have e:=pur H;subst e;exact rt _
 ·trivial
theorem Ms:∀(a0:List Hit) (a1:Fm) (Yh:Int) out,JD a0 a1 Yh=some out->∀c,Yg Tryz.f194 0=some c->∀(Q:QT) (tt:Sto) (b1:Nat),(∀(_u:Unit),out=Sum.inr ()->∀(T:TT) (σ:Sto),0+0=0->Fx tt σ [(b1,⟨34,5,[i6 a1.kind,.str a1.name,i6 a1.num,sf cI a1.sc,sf K0 a1.kids]⟩)] []->Q (.ex 0) ⟨T,σ⟩)->(∀r,out=Sum.inl r->∀s',ID K1 [.tmp 4] (fun r' ss'=>r'=i6 r/\ss'=tt) s'->Q .ret s')->∀(T:TT) (σ:Sto),T 0=sf K3 a0/\T 3=.ptr b1 0/\T 5=i6 Yh->Fx tt σ [(b1,⟨34,5,[i6 a1.kind,.str a1.name,i6 a1.num,sf cI a1.sc,sf K0 a1.kids]⟩)] []->aLp K1 c Q ⟨T,σ⟩:=by
 intro a0 a1 Yh;revert Yh;refine JD.partial_correctness a0 a1 _ ?_;intro JD IH Yh out H c hc Q tt b1 hE hR T σ tT hF;refine lpx tt hc rfl fun q hX=>go ?_;refine cdp H (fun h H=>?_) (fun h H=>?_)
 ·refine go ?_;refine Yj E0 [.v,.v,.v,.v,.v,.v,.v] (by kernel_rfl) ?_;obtain ⟨x14,f1,H⟩:=bil (g:=K3) Hit.X6 H;refine go1 ?_;refine bp H (G7 x14.name a1) fun x18 h H=>cv h ?_;refine go ?_;refine cdb H (fun h H=>?_) (fun h H=>?_)
  ·refine go ?_;exact wq (hR _ (pur H).symm _ (rt _))
  ·refine go ?_;exact IH  (i64.wrap (Yh+1)) _ H _ rfl Q tt b1 hE hR _ _  S hF
 ·refine go ?_;exact wq (hE () (pur H).symm _ _  S hF)
theorem Fj:∀(a0:List Hit) (a1:Fm) r,Av a0 a1=some r->VP K1 194 [sf K3 a0,.agg (K0 a1)] (i6 r):=by
 intro a0 a1 r H;intro σ;unfold Av at H;refine hdg mixed Tryz.func194 (rs:=[.tmp 4]) fun q tT=>?_;have hF:=K4 σ;have hX:=Tau.none σ;refine go ?_;refine Ya hF rfl fun b1 ss2 hF=>?_;refine go ?_;obtain ⟨o3,ho3,H⟩:=bnd H;refine Ms a0 a1 0 _ ho3 _ rfl _ _ b1 ?_ ?_ _ _  S hF
 ·intro _ he T5 ss6 tT hF;have he:=he.symm;subst he
  try dsimp only at H
  refine go ?_;have e:=pur H;subst e;exact rt _
 ·intro r hr s' hs;subst hr;have e:=pur H;subst e;exact hsq hs
theorem EH:∀(a0:List Hit) (a1:Fm) r,AI a0 a1=some r->VP K1 207 [sf K3 a0,.agg (K0 a1)] (i6 r):=by
 intro a0 a1 r H;intro σ;unfold AI at H;refine hdg mixed Tryz.func207 (rs:=[.tmp 4]) fun q tT=>?_;have hF:=K4 σ;have hX:=Tau.none σ;refine go ?_;refine Ya hF rfl fun b1 ss2 hF=>?_;refine go ?_;refine cdn H (fun h H=>?_) (fun h H=>?_)
 ·refine go ?_;have e:=pur H;subst e;exact rt _
 ·refine go ?_;refine bp H (Fj a0 a1) fun x11 h H=>cl h ?_;refine go ?_;refine cdp H (fun h H=>?_) (fun h H=>?_)
  ·refine go ?_;have e:=pur H;subst e;exact rt _
  ·obtain ⟨x16,f1,H⟩:=bil (g:=K3) Hit.X6 H;refine go1 ?_;refine go ?_;have e:=pur H;subst e;exact rt _
theorem PS:∀(a0:List Hit) (a1:Fm) r,Ij a0 a1=some r->VP K1 208 [sf K3 a0,.agg (K0 a1)] (.bool r):=by
 intro a0 a1;revert a1;refine Ij.partial_correctness a0 (motive_1:=fun a1 r=>VP K1 208 [sf K3 a0,.agg (K0 a1)] (.bool r)) (motive_2:=fun a1 Yh out=>∀c,Yg Tryz.f208 0=some c->∀(Q:QT) (tt:Sto) (b1:Nat),(∀(_u:Unit),out=Sum.inr ()->∀(T:TT) (σ:Sto),0+0=0->Fx tt σ [(b1,⟨34,5,[i6 a1.kind,.str a1.name,i6 a1.num,sf cI a1.sc,sf K0 a1.kids]⟩)] []->Q (.ex 0) ⟨T,σ⟩)->(∀r,out=Sum.inl r->∀s',ID K1 [.tmp 4] (fun r' ss'=>r'=.bool r/\ss'=tt) s'->Q .ret s')->∀(T:TT) (σ:Sto),T 0=sf K3 a0/\T 3=.ptr b1 0/\T 5=i6 Yh->Fx tt σ [(b1,⟨34,5,[i6 a1.kind,.str a1.name,i6 a1.num,sf cI a1.sc,sf K0 a1.kids]⟩)] []->aLp K1 c Q ⟨T,σ⟩) ?_ ?_
 ·intro Gs L0 a1 r H;intro σ;refine hdg mixed Tryz.func208 (rs:=[.tmp 4]) fun q tT=>?_;have hF:=K4 σ;have hX:=Tau.none σ;refine go ?_;refine Ya hF rfl fun b1 ss2 hF=>?_;refine go ?_;refine bp H (EH a0 a1) fun x8 h H=>cl h ?_;refine go ?_;refine cdp H (fun h H=>?_) (fun h H=>?_)
  ·refine go ?_;have e:=pur H;subst e;exact rt _
  ·refine go ?_;obtain ⟨o3,ho3,H⟩:=bnd H;refine L0 a1 0 _ ho3 _ rfl _ _ b1 ?_ ?_ _ _  S hF
   ·intro _ he T5 ss6 tT hF;have he:=he.symm;subst he
    try dsimp only at H
    refine go ?_;have e:=pur H;subst e;exact rt _
   ·intro r hr s' hs;subst hr;have e:=pur H;subst e;exact hsq hs
 ·intro Ij Gs C0 L0 a1 Yh out H c hc Q tt b1 hE hR T σ tT hF;refine lpx tt hc rfl fun q hX=>go ?_;refine cdp H (fun h H=>?_) (fun h H=>?_)
  ·obtain ⟨x21,f1,H⟩:=bil (g:=K0) Fm.X6 H;refine go1 ?_;refine bp H (C0 x21) fun x23 h H=>cl h ?_;refine go ?_;refine cdb H (fun h H=>?_) (fun h H=>?_)
   ·refine go ?_;exact wq (hR _ (pur H).symm _ (rt _))
   ·refine go ?_;exact L0 a1 (i64.wrap (Yh+1)) _ H _ rfl Q tt b1 hE hR _ _  S hF
  ·refine go ?_;exact wq (hE () (pur H).symm _ _  S hF)
theorem My:∀(a0 X9:List Hit) (YA:Int) out,JI a0 X9 YA=some out->∀c,Yg Tryz.f209 0=some c->∀(Q:QT) (tt:Sto),(∀(Vz:List Hit),out=Vz->∀(T:TT) (σ:Sto) (e0v0:AV),T 3=e0v0->Fx tt σ [] [⟨e0v0,217,12,rws K3 Vz⟩]->Q (.ex 0) ⟨T,σ⟩)->True->∀(T:TT) (σ:Sto) (z0v0:AV),T 0=sf K3 a0/\T 3=z0v0/\T 4=i6 YA->Fx tt σ [] [⟨z0v0,217,12,rws K3 X9⟩]->aLp K1 c Q ⟨T,σ⟩:=by
 intro a0 X9 YA;revert X9 YA;refine JI.partial_correctness a0 _ ?_;intro JI IH X9 YA out H c hc Q tt  hE hR T σ z0v0 tT hF;refine lpx tt hc rfl fun q hX=>go ?_;refine cdp H (fun h H=>?_) (fun h H=>?_)
 ·refine go ?_;refine Yj E0 [.v,.v,.v,.v,.v,.v,.v,.v,.v,.v,.v,.v,.v,.v,.v,.v,.x,.z] (by kernel_rfl) ?_;obtain ⟨x15,f1,H⟩:=bil (g:=K3) Hit.X6 H;refine go1 ?_;refine HH hF rfl fun b1 ss2 hF=>?_;refine go ?_;refine st hF 0 rfl fun ss3 hF=>?_;refine go ?_;obtain ⟨MJ,j5,H⟩:=bnd H;refine Wn (fun s'=>∃(T:TT) (ss1:Sto),s'=⟨T,ss1⟩/\(T 0=sf K3 a0/\T 3=z0v0/\T 4=i6 YA/\T 5=.ptr b1 0)/\Fx tt ss1 [(b1,⟨217,12,[i6 x15.name.kind,.str x15.name.name,i6 x15.name.num,sf cI x15.name.sc,sf K0 x15.name.kids,i6 MJ,i6 x15.one.kind,.str x15.one.name,i6 x15.one.num,sf cI x15.one.sc,sf K0 x15.one.kids,.Yd]⟩)] [⟨z0v0,217,12,rws K3 X9⟩]) (cdp j5 (fun h j5=>?_) (fun h j5=>?_)) ?_
  ·refine go ?_;refine st hF 0 rfl fun ss6 hF=>?_;refine go ?_;have e:=pur j5;subst e;exact ⟨_,_,rfl,S,hF⟩
  ·refine go ?_;have e:=pur j5;subst e;exact ⟨_,_,rfl,S,hF⟩
  ·rintro s' ⟨T7,s8,rfl,tT,hF⟩;refine go ?_;refine apw (g:=K3) (rows:=[[i6 x15.name.kind,.str x15.name.name,i6 x15.name.num,sf cI x15.name.sc,sf K0 x15.name.kids,i6 MJ,i6 x15.one.kind,.str x15.one.name,i6 x15.one.num,sf cI x15.one.sc,sf K0 x15.one.kids,.Yd]]) hF 0 H Hit.X6 true rfl (by simp only [sf,i6,zB,Vn,VQ,cI,cU,cS,cL,Hit.Yb,Fm.Yb,Zp,Zq,Fm.num,Fm.sc,Zr,Zg,Zc,Zs,Zh,Zi,Zy,Zj,Zt,Zu,Zk,Zl,Zm,Zv,Zn,Zd,Zz,Zw,ZA,Zx,Qr,K9,KK,Kj,QU];exact (.cons (.refl _) id (.cons (.refl _) id (.cons (.refl _) id (.cons (.refl _) id (.cons (.refl _) id (.cons (.refl _) id (.cons (.refl _) id (.cons (.refl _) id (.cons (.refl _) id (.cons (.refl _) id (.cons (.refl _) id (.cons .Yd (fun _=>rfl) .nil))))))))))))) fun x39 H v10 s11 hF=>?_;refine go ?_;exact IH  x39 (i64.wrap (YA+1)) _ H _ rfl Q tt  hE hR _ _ v10 S (hF.drop 1 0)
 ·refine go ?_;exact wq (hE _ (pur H).symm _ _ z0v0 S hF)
theorem PR:∀(a0:List Hit) r,Bo a0=some r->VP K1 209 [sf K3 a0] (sf K3 r):=by
 intro a0 r H;intro σ;unfold Bo at H;refine hdg mixed Tryz.func209 (rs:=[.tmp 2]) fun q tT=>?_;have hF:=K4 σ;have hX:=Tau.none σ;have hF:=hF.lit 217 12 (rws K3 []) rfl;refine go ?_;obtain ⟨o12,ho12,H⟩:=bnd H;refine My a0 [] 0 _ ho12 _ rfl _ _  ?_ ?_ _ _ (.sl true (rws K3 [])) S hF
 ·intro Ru he T14 s15 e13v0 tT hF;have he:=he.symm;subst he;refine go ?_;have e:=pur H;subst e;exact rt _
 ·trivial
theorem TU:∀(a0:Fm) (a1:List Hit) r,An a0 a1=some r->VP K1 199 [.agg (K0 a0),sf K3 a1] (.bool r):=by
 refine An.partial_correctness _ (motive_2:=fun a0 a1 Yh out=>∀c,Yg Tryz.f199 0=some c->∀(Q:QT) (tt:Sto) (b1:Nat),(∀(_u:Unit),out=Sum.inr ()->∀(T:TT) (σ:Sto),0+0=0->Fx tt σ [(b1,⟨34,5,[i6 a0.kind,.str a0.name,i6 a0.num,sf cI a0.sc,sf K0 a0.kids]⟩)] []->Q (.ex 0) ⟨T,σ⟩)->(∀r,out=Sum.inl r->∀s',ID K1 [.tmp 4] (fun r' ss'=>r'=.bool r/\ss'=tt) s'->Q .ret s')->∀(T:TT) (σ:Sto),T 1=sf K3 a1/\T 2=.ptr b1 0/\T 5=i6 Yh->Fx tt σ [(b1,⟨34,5,[i6 a0.kind,.str a0.name,i6 a0.num,sf cI a0.sc,sf K0 a0.kids]⟩)] []->aLp K1 c Q ⟨T,σ⟩) ?_ ?_
 ·intro Gq L0 a0 a1 r H;intro σ;refine hdg mixed Tryz.func199 (rs:=[.tmp 4]) fun q tT=>?_;have hF:=K4 σ;have hX:=Tau.none σ;refine go ?_;refine Ya hF rfl fun b1 ss2 hF=>?_;refine go ?_;refine bp H (V4 a0) fun x7 h H=>cl h ?_;refine go ?_;obtain ⟨x13,g3,H⟩:=bnd H;refine Yc 4 9 13 (.bool x13) (giN q (fun q=>?_) (fun q=>?_)) (fun J=>?_)
  ·rw [if_neg (dbf q)] at g3;refine go ?_;obtain ⟨x11,hx11,g3⟩:=bnd g3;refine cl (EH a1 a0 _ hx11) ?_;refine go ?_;exact Yt 9 g3
  ·rw [if_pos (dbt q)] at g3;refine go ?_;exact Yt 9 g3
  refine go ?_;refine cdb H (fun h H=>?_) (fun h H=>?_)
  ·refine go ?_;have e:=pur H;subst e;exact rt _
  ·refine go ?_;obtain ⟨o11,ho11,H⟩:=bnd H;refine L0 a0 a1 0 _ ho11 _ rfl _ _ b1 ?_ ?_ _ _  S hF
   ·intro _ he T13 s14 tT hF;have he:=he.symm;subst he
    try dsimp only at H
    refine go ?_;have e:=pur H;subst e;exact rt _
   ·intro r hr s' hs;subst hr;have e:=pur H;subst e;exact hsq hs
 ·intro An Gq C0 L0 a0 a1 Yh out H c hc Q tt b1 hE hR T σ tT hF;refine lpx tt hc rfl fun q hX=>go ?_;refine cdp H (fun h H=>?_) (fun h H=>?_)
  ·obtain ⟨x24,f1,H⟩:=bil (g:=K0) Fm.X6 H;refine go1 ?_;refine bp H (V4 x24) fun x26 h H=>cl h ?_;refine go ?_;refine cdb H (fun h H=>?_) (fun h H=>?_)
   ·refine go ?_;obtain ⟨x37,g5,H⟩:=bnd H;refine Yc 7 30 37 (.bool x37) (giN q (fun q=>?_) (fun q=>?_)) (fun J=>?_)
    ·rw [if_neg (df q)] at g5;obtain ⟨x34,f1,g5⟩:=bil (g:=K0) Fm.X6 g5;refine go1 ?_;obtain ⟨x36,hx36,g5⟩:=bnd g5;refine cl (V4 x34 _ hx36) ?_;refine go ?_;exact Yt 30 g5
    ·rw [if_pos (dt q)] at g5;refine go ?_;exact Yt 30 g5
    refine go ?_;refine cdb H (fun h H=>?_) (fun h H=>?_)
    ·refine go ?_;exact wq (hR _ (pur H).symm _ (rt _))
    ·refine go ?_;exact L0 a0 a1 (i64.wrap (Yh+1)) _ H _ rfl Q tt b1 hE hR _ _  S hF
   ·refine go ?_;obtain ⟨x52,g7,H⟩:=bnd H;refine Yc 7 45 52 (.bool x52) (gi q (fun q=>?_) (fun q=>?_)) (fun J=>?_)
    ·rw [if_pos (dt q)] at g7;obtain ⟨x49,f1,g7⟩:=bil (g:=K0) Fm.X6 g7;refine go1 ?_;obtain ⟨x51,hx51,g7⟩:=bnd g7;refine cl (V4 x49 _ hx51) ?_;refine go ?_;exact Yt 45 g7
    ·rw [if_neg (df q)] at g7;refine go ?_;exact Yt 45 g7
    refine go ?_;refine cdb H (fun h H=>?_) (fun h H=>?_)
    ·refine go ?_;refine Yj E0 [.v,.v,.v,.v,.v,.v,.v,.v,.v,.v,.v,.v,.v,.v,.v,.v,.v,.v,.v] (by kernel_rfl) ?_;obtain ⟨x57,f1,H⟩:=bil (g:=K0) Fm.X6 H;refine go1 ?_;refine bp H (PS a1 x57) fun x59 h H=>cv h ?_;refine go ?_;obtain ⟨x71,g9,H⟩:=bnd H;refine V0 9 62 71 (.bool x71) (tiN q (fun q=>?_) (fun q=>?_)) (fun J=>?_)
     ·rw [if_neg (dbf q)] at g9;obtain ⟨x65,f1,g9⟩:=bil (g:=K0) Fm.X6 g9;refine go1 ?_;obtain ⟨x68,hx68,g9⟩:=bnd g9;refine cv (PR a1 _ hx68) ?_;refine go ?_;obtain ⟨x69,hx69,g9⟩:=bnd g9;refine cv (C0 x65 x68 _ hx69) ?_;refine go ?_;exact Yt 62 g9
     ·rw [if_pos (dbt q)] at g9;refine go ?_;exact Yt 62 g9
     refine go ?_;refine cdb H (fun h H=>?_) (fun h H=>?_)
     ·refine go ?_;exact wq (hR _ (pur H).symm _ (rt _))
     ·refine go ?_;exact L0 a0 a1 (i64.wrap (Yh+1)) _ H _ rfl Q tt b1 hE hR _ _  S hF
    ·obtain ⟨x75,f1,H⟩:=bil (g:=K0) Fm.X6 H;refine go1 ?_;refine bp H (C0 x75 a1) fun x78 h H=>cl h ?_;refine go ?_;refine cdb H (fun h H=>?_) (fun h H=>?_)
     ·refine go ?_;exact wq (hR _ (pur H).symm _ (rt _))
     ·refine go ?_;exact L0 a0 a1 (i64.wrap (Yh+1)) _ H _ rfl Q tt b1 hE hR _ _  S hF
  ·refine go ?_;exact wq (hE () (pur H).symm _ _  S hF)
theorem PT:∀(a0:Rul) (a1:List Fm) r,Cn a0 a1=some r->VP K1 184 [.agg (K7 a0),sf K0 a1] (.bool r):=by
 intro a0 a1 r H;intro σ;unfold Cn at H;refine hdg mixed Tryz.func184 (rs:=[.tmp 4]) fun q tT=>?_;have hF:=K4 σ;have hX:=Tau.none σ;refine go ?_;refine Ya hF rfl fun b1 ss2 hF=>?_;refine go ?_;refine Yj E0 [.v,.v,.v,.v,.v,.v,.v,.v,.v,.v,.v,.v,.v,.v,.v,.v,.v,.v,.v,.v,.v,.v,.v,.v,.v,.v,.v,.v,.v,.v,.v,.v] (by kernel_rfl) ?_;refine go ?_;refine bp H (TS a0.pat a1) fun x8 h H=>cv h ?_;refine go ?_;obtain ⟨x14,g3,H⟩:=bnd H;refine V0 4 10 14 (.bool x14) (ti q (fun q=>?_) (fun q=>?_)) (fun J=>?_)
 ·refine go ?_;exact Yt 10 g3
 ·refine go ?_;exact Yt 10 g3
 refine go ?_;obtain ⟨x21,g5,H⟩:=bnd H;refine V0 5 16 21 (.bool x21) (ti q (fun q=>?_) (fun q=>?_)) (fun J=>?_)
 ·refine go ?_;exact Yt 16 g5
 ·refine go ?_;exact Yt 16 g5
 refine go ?_;obtain ⟨x26,g7,H⟩:=bnd H;refine V0 3 23 26 (.bool x26) (ti q (fun q=>?_) (fun q=>?_)) (fun J=>?_)
 ·rw [if_pos (dbt q)] at g7;refine go ?_;obtain ⟨x25,hx25,g7⟩:=bnd g7;refine cv (Va a0.tpl _ hx25) ?_;refine go ?_;exact Yt 23 g7
 ·rw [if_neg (dbf q)] at g7;refine go ?_;exact Yt 23 g7
 refine go ?_;obtain ⟨x35,g9,H⟩:=bnd H;refine V0 7 28 35 (.bool x35) (ti q (fun q=>?_) (fun q=>?_)) (fun J=>?_)
 ·rw [if_pos (dbt q)] at g9;refine go ?_;obtain ⟨x33,hx33,g9⟩:=bnd g9;refine cv (OP a0.pat a1 _ hx33) ?_;refine go ?_;obtain ⟨x34,hx34,g9⟩:=bnd g9;refine cv (TU a0.tpl x33 _ hx34) ?_;refine go ?_;exact Yt 28 g9
 ·rw [if_neg (dbf q)] at g9;refine go ?_;exact Yt 28 g9
 refine go ?_;have e:=pur H;subst e;exact rt _
theorem LB:∀(a0:List Rul) (a1:List Fm) (Yh:Int) out,JQ a0 a1 Yh=some out->∀c,Yg Tryz.f169 0=some c->∀(Q:QT) (tt:Sto),(∀(_u:Unit),out=Sum.inr ()->∀(T:TT) (σ:Sto),T 0=sf K7 a0/\T 1=sf K0 a1->Fx tt σ [] []->Q (.ex 0) ⟨T,σ⟩)->(∀r,out=Sum.inl r->∀s',ID K1 [.tmp 4] (fun r' ss'=>r'=.bool r/\ss'=tt) s'->Q .ret s')->∀(T:TT) (σ:Sto),T 0=sf K7 a0/\T 1=sf K0 a1/\T 5=i6 Yh->Fx tt σ [] []->aLp K1 c Q ⟨T,σ⟩:=by
 intro a0 a1 Yh;revert Yh;refine JQ.partial_correctness a0 a1 _ ?_;intro JQ IH Yh out H c hc Q tt  hE hR T σ tT hF;refine lpx tt hc rfl fun q hX=>go ?_;obtain ⟨x13,g1,H⟩:=bnd H;refine Yc 2 11 13 (.bool x13) (gi q (fun q=>?_) (fun q=>?_)) (fun J=>?_)
 ·refine go ?_;exact Yt 11 g1
 ·refine go ?_;exact Yt 11 g1
 refine go ?_;refine cdb H (fun h H=>?_) (fun h H=>?_)
 ·obtain ⟨x18,f1,H⟩:=bil (g:=K7) Rul.X6 H;refine go1 ?_;refine bp H (PT x18 a1) fun x21 h H=>cl h ?_;refine go ?_;refine cdb H (fun h H=>?_) (fun h H=>?_)
  ·refine go ?_;exact wq (hR _ (pur H).symm _ (rt _))
  ·refine go ?_;exact IH  (i64.wrap (Yh+1)) _ H _ rfl Q tt  hE hR _ _  S hF
 ·refine go ?_;exact wq (hE () (pur H).symm _ _  S hF)
theorem EI:∀(a0:List Rul) (a1:List Fm) r,AJ a0 a1=some r->VP K1 169 [sf K7 a0,sf K0 a1] (.bool r):=by
 intro a0 a1 r H;intro σ;unfold AJ at H;refine hdg mixed Tryz.func169 (rs:=[.tmp 4]) fun q tT=>?_;have hF:=K4 σ;have hX:=Tau.none σ;refine go ?_;obtain ⟨o3,ho3,H⟩:=bnd H;refine LB a0 a1 0 _ ho3 _ rfl _ _  ?_ ?_ _ _  S hF
 ·intro _ he T5 ss6 tT hF;have he:=he.symm;subst he
  try dsimp only at H
  refine go ?_;obtain ⟨x29,g8,H⟩:=bnd H;refine Yc 2 27 29 (.bool x29) (gi q (fun q=>?_) (fun q=>?_)) (fun J=>?_)
  ·rw [if_pos (dt q)] at g8;refine go ?_;obtain ⟨x28,hx28,g8⟩:=bnd g8;refine cl (CL a1 _ hx28) ?_;refine go ?_;exact Yt 27 g8
  ·rw [if_neg (df q)] at g8;refine go ?_;exact Yt 27 g8
  refine go ?_;have e:=pur H;subst e;exact rt _
 ·intro r hr s' hs;subst hr;have e:=pur H;subst e;exact hsq hs
theorem Ew:∀(a0:Fm) (X9:List Fm) (Ym:Int) out,Ws a0 X9 Ym=some out->∀c,Yg Tryz.f163 0=some c->∀(Q:QT) (tt:Sto) (b1:Nat),(∀(Vz:List Fm),out=Vz->∀(T:TT) (σ:Sto) (e0v0:AV),T 1=.ptr b1 0/\T 5=e0v0/\T 6=.sl true (rws K7 [])->Fx tt σ [(b1,⟨34,5,[i6 a0.kind,.str a0.name,i6 a0.num,sf cI a0.sc,sf K0 a0.kids]⟩)] [⟨e0v0,34,5,rws K0 Vz⟩]->Q (.ex 0) ⟨T,σ⟩)->True->∀(T:TT) (σ:Sto) (z0v0:AV),T 1=.ptr b1 0/\T 5=z0v0/\T 6=.sl true (rws K7 [])/\T 7=i6 Ym->Fx tt σ [(b1,⟨34,5,[i6 a0.kind,.str a0.name,i6 a0.num,sf cI a0.sc,sf K0 a0.kids]⟩)] [⟨z0v0,34,5,rws K0 X9⟩]->aLp K1 c Q ⟨T,σ⟩:=by
 intro a0 X9 Ym;revert X9 Ym;refine Ws.partial_correctness a0 _ ?_;intro Ws IH X9 Ym out H c hc Q tt b1 hE hR T σ z0v0 tT hF;obtain rfl:=lpe (rfl:Yg Tryz.f163 0=some _) hc;refine Ye ?_;have q:=dum;have hX:=Tau.none tt;obtain ⟨x46,f1,H⟩:=bil (g:=K0) Fm.X6 H;refine go1 ?_;refine go ?_;refine cdp H (fun h H=>?_) (fun h H=>?_)
 ·obtain ⟨x56,f1,H⟩:=bil (g:=K0) Fm.X6 H;obtain ⟨x60,f2,H⟩:=bil (g:=K0) Fm.X6 H;refine go2 ?_;refine bp H (Wg x60) fun x62 h H=>cl h ?_;refine go ?_;refine apd (g:=K0) hF 0 H (rdo (c:=true) (g:=K0) Fm.X6) fun x64 H v11 s12 hF=>?_;refine go ?_;exact IH  x64 (i64.wrap (Ym+1)) _ H _ rfl Q tt b1 hE hR _ _ v11 S hF
 ·refine go ?_;exact wq (hE _ (pur H).symm _ _ z0v0 S hF)
theorem Ex:∀(a0:Fm) (CF:List Fm) (A8:List Rul) (Je:Int) out,Wt a0 CF A8 Je=some out->∀c,Yg Tryz.f163 1=some c->∀(Q:QT) (tt:Sto) (b1:Nat) (e14v0:AV),(∀(Qge:List Rul),out=Sum.inr Qge->∀(T:TT) (σ:Sto) (e1v1:AV),T 5=e14v0/\T 6=e1v1->Fx tt σ [(b1,⟨34,5,[i6 a0.kind,.str a0.name,i6 a0.num,sf cI a0.sc,sf K0 a0.kids]⟩)] [⟨e1v1,87,10,rws K7 Qge⟩,⟨e14v0,34,5,rws K0 CF⟩]->Q (.ex 2) ⟨T,σ⟩)->(∀r,out=Sum.inl r->∀s',ID K1 [.tmp 2,.tmp 3,.tmp 4] (fun r' ss'=>r'=.tup [sf K0 r.1,sf K7 r.2.1,.bool r.2.2]/\ss'=tt) s'->Q .ret s')->∀(T:TT) (σ:Sto) (z1v1:AV),T 1=.ptr b1 0/\T 5=e14v0/\T 6=z1v1/\T 8=i6 Je->Fx tt σ [(b1,⟨34,5,[i6 a0.kind,.str a0.name,i6 a0.num,sf cI a0.sc,sf K0 a0.kids]⟩)] [⟨z1v1,87,10,rws K7 A8⟩,⟨e14v0,34,5,rws K0 CF⟩]->aLp K1 c Q ⟨T,σ⟩:=by
 intro a0 CF A8 Je;revert A8 Je;refine Wt.partial_correctness a0 CF _ ?_;intro Wt IH A8 Je out H c hc Q tt b1 e14v0 hE hR T σ z1v1 tT hF;refine lpx tt hc rfl fun q hX=>go ?_;refine cdp H (fun h H=>?_) (fun h H=>?_)
 ·obtain ⟨x75,f1,H⟩:=bil (g:=K0) Fm.X6 H;refine go1 ?_;obtain ⟨x88,g18,H⟩:=bnd H;refine Yc 8 80 88 (.bool x88) (giN q (fun q=>?_) (fun q=>?_)) (fun J=>?_)
  ·rw [if_pos (dnf q)] at g18;obtain ⟨x83,f1,g18⟩:=bil (g:=K0) Fm.X6 g18;refine go1 ?_;refine go ?_;exact Yt 80 g18
  ·rw [if_neg (dnt q)] at g18;refine go ?_;exact Yt 80 g18
  refine go ?_;refine cdb H (fun h H=>?_) (fun h H=>?_)
  ·refine go ?_;exact wq (hR _ (pur H).symm _ (rt _))
  ·refine go ?_;refine Yj E0 [.v,.v,.v,.v,.v,.v,.v,.v,.v,.v,.v,.v,.v,.v,.v,.v,.v,.v,.v,.v,.v,.x,.v] (by kernel_rfl) ?_;obtain ⟨x95,f1,H⟩:=bil (g:=K0) Fm.X6 H;obtain ⟨x98,f2,H⟩:=bil (g:=K0) Fm.X6 H;refine go2 ?_;refine bp H (Wg x98) fun x100 h H=>cv h ?_;obtain ⟨x104,f1,H⟩:=bil (g:=K0) Fm.X6 H;obtain ⟨x107,f2,H⟩:=bil (g:=K0) Fm.X6 H;refine go2 ?_;refine bp H (Wg x107) fun x109 h H=>cv h ?_;refine go ?_;refine SL (g:=K7) hF 0 H (rdo (c:=true) (g:=K7) Rul.X6) fun x112 H v20 s21 hF=>?_;refine go ?_;exact IH  x112 (i64.wrap (Je+1)) _ H _ rfl Q tt b1 e14v0 hE hR _ _ v20 S hF
 ·refine go ?_;exact wq (hE _ (pur H).symm _ _ z1v1 S hF)
theorem Lx:∀(a0:Fm) r,HQ a0=some r->VP K1 163 [.agg (K0 a0)] (.tup [sf K0 r.1,sf K7 r.2.1,.bool r.2.2]):=by
 intro a0 r H;intro σ;unfold HQ at H;refine hdg mixed Tryz.func163 (rs:=[.tmp 2,.tmp 3,.tmp 4]) fun q tT=>?_;have hF:=K4 σ;have hX:=Tau.none σ;refine go ?_;refine Ya hF rfl fun b1 ss2 hF=>?_;refine go ?_;refine bp H (Va a0) fun x12 h H=>cl h ?_;refine go ?_;obtain ⟨x18,g3,H⟩:=bnd H;refine Yc 3 15 18 (.bool x18) (giN q (fun q=>?_) (fun q=>?_)) (fun J=>?_)
 ·refine go ?_;exact Yt 15 g3
 ·refine go ?_;exact Yt 15 g3
 refine go ?_;obtain ⟨x24,g5,H⟩:=bnd H;refine Yc 4 20 24 (.bool x24) (giN q (fun q=>?_) (fun q=>?_)) (fun J=>?_)
 ·refine go ?_;exact Yt 20 g5
 ·refine go ?_;exact Yt 20 g5
 refine go ?_;obtain ⟨x32,g7,H⟩:=bnd H;refine Yc 6 26 32 (.bool x32) (giN q (fun q=>?_) (fun q=>?_)) (fun J=>?_)
 ·rw [if_neg (dbf q)] at g7;obtain ⟨x28,f1,g7⟩:=bil (g:=K0) Fm.X6 g7;refine go1 ?_;refine go ?_;exact Yt 26 g7
 ·rw [if_pos (dbt q)] at g7;refine go ?_;exact Yt 26 g7
 refine go ?_;obtain ⟨x40,g9,H⟩:=bnd H;refine Yc 6 34 40 (.bool x40) (giN q (fun q=>?_) (fun q=>?_)) (fun J=>?_)
 ·rw [if_neg (dbf q)] at g9;obtain ⟨x36,f1,g9⟩:=bil (g:=K0) Fm.X6 g9;refine go1 ?_;refine go ?_;exact Yt 34 g9
 ·rw [if_pos (dbt q)] at g9;refine go ?_;exact Yt 34 g9
 refine go ?_;refine cdb H (fun h H=>?_) (fun h H=>?_)
 ·refine go ?_;have e:=pur H;subst e;exact rt _
 ·have hF:=hF.lit 34 5 (rws K0 []) rfl;refine go ?_;obtain ⟨o13,ho13,H⟩:=bnd H;refine Ew a0 [] 0 _ ho13 _ rfl _ _ b1 ?_ ?_ _ _ (.sl true (rws K0 [])) S hF
  ·intro CF he T15 s16 e14v0 tT hF;have he:=he.symm;subst he;have hF:=hF.lit 87 10 (rws K7 []) rfl;refine go ?_;obtain ⟨o22,ho22,H⟩:=bnd H;refine Ex a0 CF [] 2 _ ho22 _ rfl _ _ b1 e14v0 ?_ ?_ _ _ (.sl true (rws K7 [])) S hF
   ·intro Qa0 he T24 s25 e23v1 tT hF;have he:=he.symm;subst he
    try dsimp only at H
    refine go ?_;obtain ⟨x115,hx115,H⟩:=bnd H;refine P6 (EI Qa0 CF _ hx115) .bool (.cons ((hF.wk 0 rfl).trans (Wk.sub (Sub.zero _) _)) (fun _=>rfl) (.cons ((hF.wk 1 rfl).trans (Wk.sub (Sub.zero _) _)) (fun _=>rfl) .nil)) ?_;refine go ?_;refine cdb H (fun h H=>?_) (fun h H=>?_)
    ·refine go ?_;have e:=pur H;subst e;exact rt _
    ·refine go ?_;have e:=pur H;subst e;exact rt _
   ·intro r hr s' hs;subst hr;have e:=pur H;subst e;exact hsq hs
  ·trivial
theorem PK:∀(a0:List Bnd) (a1 a2:Fm) r,Ck a0 a1 a2=some r->VP K1 187 [sf K2 a0,.agg (K0 a1),.agg (K0 a2)] (.bool r):=by
 intro a0 a1 a2 r H;intro σ;unfold Ck at H;refine hdg mixed Tryz.func187 (rs:=[.tmp 6]) fun q tT=>?_;have hF:=K4 σ;have hX:=Tau.none σ;refine go ?_;refine Ya hF rfl fun b1 ss2 hF=>?_;refine go ?_;refine Ya hF rfl fun b3 ss4 hF=>?_;refine go ?_;refine bp H (C9 a0 a1) fun x14 h H=>cl h ?_;refine go ?_;refine bp H (C9 a0 a2) fun x20 h H=>cl h ?_;refine go ?_;obtain ⟨x29,g5,H⟩:=bnd H;refine Yc 2 27 29 (.bool x29) (giN q (fun q=>?_) (fun q=>?_)) (fun J=>?_)
 ·refine go ?_;exact Yt 27 g5
 ·refine go ?_;exact Yt 27 g5
 refine go ?_;refine cdb H (fun h H=>?_) (fun h H=>?_)
 ·refine go ?_;have e:=pur H;subst e;exact rt _
 ·refine go ?_;refine cdp H (fun h H=>?_) (fun h H=>?_)
  ·refine go ?_;have e:=pur H;subst e;exact rt _
  ·refine go ?_;refine Yj E0 [.v,.v,.v,.v,.v,.v,.v,.v,.v,.v,.v,.v] (by kernel_rfl) ?_;obtain ⟨x39,f1,H⟩:=bil (g:=K2) Bnd.X6 H;obtain ⟨x44,f2,H⟩:=bil (g:=K2) Bnd.X6 H;refine go2 ?_;refine go ?_;have e:=pur H;subst e;exact rt _
theorem Nl:∀(a0:Fm) (a2:List (List Hit)) (x17:List Fm) (x21:List Int) (X9:List Hit) (YY:Int) (x30:Fm) (x34:Int) (A8:List Hit) (Iu:Int) out,JF a0 a2 x17 x21 X9 YY x30 x34 A8 Iu=some out->∀c,Yg Tryz.f201 1=some c->∀(Q:QT) (tt:Sto) (b1 b9:Nat) (z0v0:AV),(∀(Qge:List Hit),out=Qge->∀(T:TT) (σ:Sto) (e1v1:AV),T 2=sf (cL K3) a2/\T 7=z0v0/\T 8=sf K0 x17/\T 9=sf cI x21/\T 10=i6 YY/\T 11=.ptr b9 0->Fx tt σ [(b9,⟨217,12,[i6 x30.kind,.str x30.name,i6 x30.num,sf cI x30.sc,sf K0 x30.kids,i6 (i64.wrap (x34+1)),i6 0,.str zB,i6 0,.Yd,.Yd,e1v1]⟩),(b1,⟨34,5,[i6 a0.kind,.str a0.name,i6 a0.num,sf cI a0.sc,sf K0 a0.kids]⟩)] [⟨e1v1,217,12,rws K3 Qge⟩,⟨z0v0,217,12,rws K3 X9⟩]->Q (.ex 2) ⟨T,σ⟩)->True->∀(T:TT) (σ:Sto) (z1v1:AV),T 2=sf (cL K3) a2/\T 7=z0v0/\T 8=sf K0 x17/\T 9=sf cI x21/\T 10=i6 YY/\T 11=.ptr b9 0/\T 12=i6 Iu->Fx tt σ [(b9,⟨217,12,[i6 x30.kind,.str x30.name,i6 x30.num,sf cI x30.sc,sf K0 x30.kids,i6 (i64.wrap (x34+1)),i6 0,.str zB,i6 0,.Yd,.Yd,z1v1]⟩),(b1,⟨34,5,[i6 a0.kind,.str a0.name,i6 a0.num,sf cI a0.sc,sf K0 a0.kids]⟩)] [⟨z1v1,217,12,rws K3 A8⟩,⟨z0v0,217,12,rws K3 X9⟩]->aLp K1 c Q ⟨T,σ⟩:=by
 intro a0 a2 x17 x21 X9 YY x30 x34 A8 Iu;revert A8 Iu;refine JF.partial_correctness a0 a2 x17 x21 X9 YY x30 x34 _ ?_;intro JF IH A8 Iu out H c hc Q tt b1 b9 z0v0 hE hR T σ z1v1 tT hF;refine lpx tt hc rfl fun q hX=>go ?_;refine cdp H (fun h H=>?_) (fun h H=>?_)
 ·refine go ?_;refine Yj E0 [.v,.v,.v,.v,.v,.v,.v,.v,.v,.v,.x,.v,.z] (by kernel_rfl) ?_;obtain ⟨x48,f1,H⟩:=bil (g:=(cL K3)) (fun _=>rfl) H;obtain ⟨x51,f2,H⟩:=bil (g:=K3) Hit.X6 H;refine go2 ?_;refine SL (g:=K3) hF 0 H (rdo (c:=true) (g:=K3) Hit.X6) fun x54 H v12 s13 hF=>?_;refine go ?_;refine st hF 0 (hF.cells 0 rfl) fun s14 hF=>?_;refine go ?_;exact IH  x54 (i64.wrap (Iu+1)) _ H _ rfl Q tt b1 b9 z0v0 hE hR _ _ v12 S hF
 ·refine go ?_;exact wq (hE _ (pur H).symm _ _ z1v1 S hF)
theorem Nk:∀(a0:Fm) (a2:List (List Hit)) (x17:List Fm) (x21:List Int) (X9:List Hit) (YY:Int) out,Gd a0 a2 x17 x21 X9 YY=some out->∀c,Yg Tryz.f201 0=some c->∀(Q:QT) (tt:Sto) (b1:Nat),(∀(Vz:List Hit),out=Vz->∀(T:TT) (σ:Sto) (e0v0:AV),T 7=e0v0->Fx tt σ [(b1,⟨34,5,[i6 a0.kind,.str a0.name,i6 a0.num,sf cI a0.sc,sf K0 a0.kids]⟩)] [⟨e0v0,217,12,rws K3 Vz⟩]->Q (.ex 0) ⟨T,σ⟩)->True->∀(T:TT) (σ:Sto) (z0v0:AV),T 2=sf (cL K3) a2/\T 7=z0v0/\T 8=sf K0 x17/\T 9=sf cI x21/\T 10=i6 YY->Fx tt σ [(b1,⟨34,5,[i6 a0.kind,.str a0.name,i6 a0.num,sf cI a0.sc,sf K0 a0.kids]⟩)] [⟨z0v0,217,12,rws K3 X9⟩]->aLp K1 c Q ⟨T,σ⟩:=by
 intro a0 a2 x17 x21 X9 YY;revert X9 YY;refine Gd.partial_correctness a0 a2 x17 x21 _ ?_;intro Gd IH X9 YY out H c hc Q tt b1 hE hR T σ z0v0 tT hF;refine lpx tt hc rfl fun q hX=>go ?_;refine cdp H (fun h H=>?_) (fun h H=>?_)
 ·refine go ?_;refine Yj E0 [.v,.v,.v,.v,.v,.v,.v,.v,.v,.v,.x,.z] (by kernel_rfl) ?_;obtain ⟨x30,f1,H⟩:=bil (g:=K0) Fm.X6 H;obtain ⟨x34,f2,H⟩:=bil (g:=cI) (fun _=>rfl) H;refine go2 ?_;refine HH hF rfl fun b9 s10 hF=>?_;refine go ?_;refine st hF 0 rfl fun s11 hF=>?_;have hF:=hF.nil 217 12;refine go ?_;obtain ⟨o15,ho15,H⟩:=bnd H;refine Nl a0 a2 x17 x21 X9 YY x30 x34 [] 0 _ ho15 _ rfl _ _ b1 b9 z0v0 ?_ ?_ _ _ .Yd S hF
  ·intro Qaz he T17 s18 e16v1 tT hF;have he:=he.symm;subst he;refine go ?_;refine Qtl (g:=K3) (rows:=[[i6 x30.kind,.str x30.name,i6 x30.num,sf cI x30.sc,sf K0 x30.kids,i6 (i64.wrap (x34+1)),i6 0,.str zB,i6 0,.Yd,.Yd,e16v1]]) hF 1 0 0 H Hit.X6 true rfl (by simp only [sf,i6,zB,Vn,VQ,cI,cU,cS,cL,Hit.Yb,Fm.Yb,Zp,Zq,Fm.num,Fm.sc,Zr,Zg,Zc,Zs,Zh,Zi,Zy,Zj,Zt,Zu,Zk,Zl,Zm,Zv,Zn,Zd,Zz,Zw,ZA,Zx,Qr,K9,KK,Kj,QU];exact (.wk (.refl _) id (.wk (.refl _) id (.wk (.refl _) id (.wk (.refl _) id (.wk (.refl _) id (.wk (.refl _) id (.wk (.refl _) id (.wk (.refl _) id (.wk (.refl _) id (.wk .Yd (fun _=>rfl) (.wk .Yd (fun _=>rfl) (.own .nil))))))))))))) fun x59 H v20 s21 hF=>?_;refine go ?_;exact IH  x59 (i64.wrap (YY+1)) _ H _ rfl Q tt b1 hE hR _ _ v20 S (hF.drop 1 0)
  ·trivial
 ·refine go ?_;exact wq (hE _ (pur H).symm _ _ z0v0 S hF)
theorem Sz:∀(a0:Fm) (a1:List Fm) (a2:List (List Hit)) r,B1 a0 a1 a2=some r->VP K1 201 [.agg (K0 a0),sf K0 a1,sf (cL K3) a2] (sf K3 r):=by
 intro a0 a1 a2 r H;intro σ;unfold B1 at H;refine hdg mixed Tryz.func201 (rs:=[.tmp 6]) fun q tT=>?_;have hF:=K4 σ;have hX:=Tau.none σ;refine go ?_;refine Ya hF rfl fun b1 ss2 hF=>?_;have hF:=hF.lit 34 5 (rws K0 []) rfl;refine go ?_;obtain ⟨x17,hx17,H⟩:=bnd H;refine cx (Da [] a0 a1 _ hx17  (.sl true (rws K0 [])) _ (pre 0 0 1 hF hX)) ?_;rintro _ ss3 ⟨tt4,rfl,hT,hG⟩;have hF:=DA 0 1 hF hX hT hG;have hF:=hF.lit 3 1 (rws cI []) rfl;refine go ?_;obtain ⟨x21,hx21,H⟩:=bnd H;refine cx (BK [] a0 a1 0 _ hx21  (.sl true (rws cI [])) _ (pre 0 0 1 hF hX)) ?_;rintro _ ss6 ⟨t7,rfl,hT,hG⟩;have hF:=DA 0 1 hF hX hT hG;have hF:=hF.lit 217 12 (rws K3 []) rfl;refine go ?_;obtain ⟨o22,ho22,H⟩:=bnd H;refine Nk a0 a2 x17 x21 [] 0 _ ho22 _ rfl _ _ b1 ?_ ?_ _ _ (.sl true (rws K3 [])) S hF
 ·intro Ti he T24 s25 e23v0 tT hF;have he:=he.symm;subst he;refine go ?_;have e:=pur H;subst e;exact rt _
 ·trivial
theorem Mt:∀(a0:List Bnd) (a1 a2 a3:List Fm) (GX H0:Int) out,JE a0 a1 a2 a3 GX H0=some out->∀c,Yg Tryz.f188 0=some c->∀(Q:QT) (tt:Sto),(∀(Qlc:Int),out=Qlc->∀(T:TT) (σ:Sto),T 0=sf K2 a0/\T 1=sf K0 a1/\T 2=sf K0 a2/\T 3=sf K0 a3/\T 10=.sl true (rws K3 [])/\T 11=i6 Qlc->Fx tt σ [] []->Q (.ex 0) ⟨T,σ⟩)->True->∀(T:TT) (σ:Sto),T 0=sf K2 a0/\T 1=sf K0 a1/\T 2=sf K0 a2/\T 3=sf K0 a3/\T 10=.sl true (rws K3 [])/\T 11=i6 GX/\T 12=i6 H0->Fx tt σ [] []->aLp K1 c Q ⟨T,σ⟩:=by
 intro a0 a1 a2 a3 GX H0;revert GX H0;refine JE.partial_correctness a0 a1 a2 a3 _ ?_;intro JE IH GX H0 out H c hc Q tt  hE hR T σ tT hF;refine lpx tt hc rfl fun q hX=>go ?_;refine cdp H (fun h H=>?_) (fun h H=>?_)
 ·obtain ⟨x32,f1,H⟩:=bil (g:=K0) Fm.X6 H;refine go1 ?_;refine bp H (V4 x32) fun x34 h H=>cl h ?_;refine go ?_;refine cdb H (fun h H=>?_) (fun h H=>?_)
  ·refine go ?_;exact IH  H0 (i64.wrap (H0+1)) _ H _ rfl Q tt  hE hR _ _  S hF
  ·refine go ?_;exact IH  GX (i64.wrap (H0+1)) _ H _ rfl Q tt  hE hR _ _  S hF
 ·refine go ?_;exact wq (hE _ (pur H).symm _ _  S hF)
end Go.Proofs.SA
