/- Printed by a program of mine: the plain functions that the code computes (D), and the walks that show it (W). -/
import Derived.Test.YthdghhllcllneaaGreatDoorGx
import Derived.Test.YthdghhllcllneaaGreatDoorSaTy
import Derived.Test.YthdghhllcllneaaGreatDoorChecked
import Derived.Lib.Strings
import Derived.Lib.Slices
import Derived.Lib.Walk
import Derived.Lib.Bytealg
import Derived.Test.YthdghhllcllneaaGreatDoorGv
import Derived.Test.YthdghhllcllneaaGreatDoorSf
import Derived.Test.YthdghhllcllneaaGreatDooreuD
set_option maxRecDepth 100000
set_option maxHeartbeats 2000000
set_option linter.unusedSimpArgs false
set_option linter.unusedVariables false
open Go Go.Proofs Go.Proofs.Shadow
open Fm renaming cells → KY
open Tryz renaming prog → KZ
open _root_.ByteArray renaming mk → Qk
open Bnd renaming cells → K0
open Fx renaming self → K1, kept → Za
open Cor renaming cells → K2, kind → Zh, name → Zi, data → Zj, kids → Zk
open _root_.And renaming intro → K3
open Hit renaming cells → K4, depth → Zb, name → Zf, many → Zg
open _root_.List renaming not_mem_nil → KC, mem_cons → Kj, flatten_cons → Qr, flatten_nil → K7, cons_append → Kh, append_nil → K8, nil_append → QS
open EE renaming not → K5, of → Zd, new → Ze
open Xpn renaming cells → K6
open Mac renaming cells → K9
open Val renaming items → Zc, kind → Zl, name → Zm
open Go.IntKind (i64)
namespace Go.Proofs.SA
theorem Qeb:Qs6 KZ 81 0=some (.sl true [[.str (Qk #[108,105,115,116])],[.str (Qk #[43])],[.str (Qk #[60])],[.str (Qk #[61])],[.str (Qk #[104,101,97,100])],[.str (Qk #[116,97,105,108])]]):=by kernel_rfl
theorem El:∀(a0:List Int) r,Ap a0=some r->∀   (ss:Sto),Pre ss [] []->Ctr KZ 34 [sf cU a0] ss (fun r' ss'=>∃(tt':Sto) (n0:Nat),r'=.ptr n0 0/\Tau (strip ss []) [] tt'/\Fx tt' ss' [(n0,⟨88,2,[sf cU r.b,i6 r.p]⟩)] []):=by
 intro a0 r H;intro   ss hP;unfold Ap at H;refine hdg mixed Tryz.func34 (rs:=[.tmp 2]) fun q tT=>?_;obtain ⟨hF,hX⟩:=hP.start;generalize strip ss []=tt0 at hF hX ⊢;refine go ?_;refine cdp H (fun h H=>?_) (fun h H=>go ?_)
 ·obtain ⟨x7,f1,H⟩:=bls (g:=cU) (fun _=>rfl) (lo:=none) (hi:=some (i6 2000)) rfl rfl H;refine go1 ?_;refine go ?_;refine X8 hF rfl fun b1 ss2 hF=>go ?_;cases pur H;exact rg _ ⟨_,_,rfl,hX,hF.pick [0] [] (by decide) (by decide)⟩
 ·refine X8 hF rfl fun b3 ss4 hF=>go ?_;cases pur H;exact rg _ ⟨_,_,rfl,hX,hF.pick [0] [] (by decide) (by decide)⟩
theorem Ym:∀(a1:Int) (c0:Rdr) r,Yi a1 c0=some r->∀(e0:Nat)  (ss:Sto),Pre ss [(e0,⟨88,2,[sf cU c0.b,i6 c0.p]⟩)] []->Ctr KZ 35 [.ptr e0 0,i6 a1] ss (fun r' ss'=>∃(tt':Sto),r'=i6 r.1/\Tau (strip ss []) [(e0,⟨88,2,[sf cU r.2.b,i6 r.2.p]⟩)] tt'/\Fx tt' ss' [] []):=by
 intro a1 c0 r H;intro e0  ss hP;unfold Yi at H;refine hdg mixed Tryz.func35 (rs:=[.tmp 4]) fun q tT=>?_;obtain ⟨hF,hX⟩:=hP.start;generalize strip ss []=tt0 at hF hX ⊢;refine go ?_;refine stT hF hX 0 rfl fun tt2 ss1 hF hX=>?_;refine go ?_;obtain ⟨x24,g3,H⟩:=bnd H;refine Yb 6 18 24 (.bool x24) (giN q (fun q=>go ?_) (fun q=>go ?_)) (fun J=>go ?_)
 ·exact Yq 18 g3
 ·exact Yq 18 g3
 refine cdb H (fun h H=>go ?_) (fun h H=>go ?_)
 ·cases pur H;exact rg _ ⟨_,rfl,hX,K1 _⟩
 ·refine cdp H (fun h H=>?_) (fun h H=>go ?_)
  ·obtain ⟨x42,f1,H⟩:=bil (g:=cU) (fun _=>rfl) H;obtain ⟨x46,f2,H⟩:=brm H;refine go2 ?_;refine go ?_;cases pur H;exact rg _ ⟨_,rfl,hX,K1 _⟩
  ·refine Yj E0 [.v,.v,.v,.v,.v,.v,.v,.v,.v,.v,.v,.v,.v,.v,.v,.v,.v,.v,.v,.v,.v,.v,.v,.v,.v,.v,.v,.v,.v,.v,.v,.v,.v,.v,.v,.v,.v,.v,.v,.v,.v,.v,.v,.v,.v,.v] (by kernel_rfl) ?_;obtain ⟨x57,f1,H⟩:=brm H;obtain ⟨x58,f2,H⟩:=bil (g:=cU) (fun _=>rfl) H;obtain ⟨x74,f3,H⟩:=brm H;obtain ⟨x75,f4,H⟩:=bil (g:=cU) (fun _=>rfl) H;obtain ⟨x89,f5,H⟩:=bqu H;refine go5 ?_;obtain ⟨x98,f1,H⟩:=brm H;refine go1 ?_;refine go ?_;cases pur H;exact rg _ ⟨_,rfl,hX,K1 _⟩
theorem YI:∀(a1:List Int) (c0:Rdr) r,Yu a1 c0=some r->∀(e0:Nat)  (ss:Sto),Pre ss [(e0,⟨88,2,[sf cU c0.b,i6 c0.p]⟩)] []->Ctr KZ 39 [.ptr e0 0,sf cI a1] ss (fun r' ss'=>∃(tt':Sto),r'=i6 r.1/\Tau (strip ss []) [(e0,⟨88,2,[sf cU r.2.b,i6 r.2.p]⟩)] tt'/\Fx tt' ss' [] []):=by
 intro a1 c0 r H;intro e0  ss hP;unfold Yu at H;refine hdg mixed Tryz.func39 (rs:=[.tmp 4]) fun q tT=>?_;obtain ⟨hF,hX⟩:=hP.start;generalize strip ss []=tt0 at hF hX ⊢;refine go ?_;obtain ⟨x9,hx9,H⟩:=bnd H;refine cx (Ym (a1.length:Int) c0 _ hx9 e0  _ (pre 0 1 0 hF hX)) ?_;rintro _ ss1 ⟨tt2,rfl,hT,hG⟩;obtain ⟨tt3,hX,hF⟩:=aft 0 1 0 hF hX hT hG;obtain ⟨x10,f1,H⟩:=bil (g:=cI) (fun _=>rfl) H;refine go1 ?_;refine go ?_;cases pur H;exact rg _ ⟨_,rfl,hX,K1 _⟩
theorem Wr:∀(a1:List ByteArray) (c0:Rdr) r,Vb a1 c0=some r->∀(e0:Nat)  (ss:Sto),Pre ss [(e0,⟨88,2,[sf cU c0.b,i6 c0.p]⟩)] []->Ctr KZ 81 [.ptr e0 0,sf cS a1] ss (fun r' ss'=>∃(tt':Sto),r'=.str r.1/\Tau (strip ss []) [(e0,⟨88,2,[sf cU r.2.b,i6 r.2.p]⟩)] tt'/\Fx tt' ss' [] []):=by
 intro a1 c0 r H;intro e0  ss hP;unfold Vb at H;refine hdg mixed Tryz.func81 (rs:=[.tmp 4]) fun q tT=>?_;obtain ⟨hF,hX⟩:=hP.start;generalize strip ss []=tt0 at hF hX ⊢;refine go ?_;obtain ⟨x9,hx9,H⟩:=bnd H;refine cx (Ym (a1.length:Int) c0 _ hx9 e0  _ (pre 0 1 0 hF hX)) ?_;rintro _ ss1 ⟨tt2,rfl,hT,hG⟩;obtain ⟨tt3,hX,hF⟩:=aft 0 1 0 hF hX hT hG;obtain ⟨x10,f1,H⟩:=bil (g:=cS) (fun _=>rfl) H;refine go1 ?_;refine go ?_;cases pur H;exact rg _ ⟨_,rfl,hX,K1 _⟩
theorem VY:∀(a0:ByteArray) r,Vx a0=some r->Y7 KZ 82 [.str a0] (.agg (KY r)):=by
 intro a0 r H;intro ss;unfold Vx at H;refine hdh mixed Tryz.func82 (rs:=[.cell 2 26]) fun q tT hF hX=>?_;refine go ?_;refine X8 hF rfl fun b1 ss2 hF=>go ?_;refine st hF 0 rfl fun ss3 hF=>?_;refine go ?_;cases pur H;exact rt _
theorem Ab:∀(a1:Int) (c0:Rdr) r,Vy a1 c0=some r->∀(e0:Nat)  (ss:Sto),Pre ss [(e0,⟨88,2,[sf cU c0.b,i6 c0.p]⟩)] []->Ctr KZ 48 [.ptr e0 0,i6 a1] ss (fun r' ss'=>∃(tt':Sto),r'=.agg (KY r.1)/\Tau (strip ss []) [(e0,⟨88,2,[sf cU r.2.b,i6 r.2.p]⟩)] tt'/\Fx tt' ss' [] []):=by
 refine Vy.partial_correctness _ (motive_2:=fun a1 X7 Yy Vm I5 out=>∀c,Yf Tryz.f48 0=some c->∀(Q:QT) (tt0:Sto) (e0 b1 b22:Nat),(∀(YX:List Fm) (BJ:List Int) (NZ:Int),out=(YX,BJ,NZ)->∀(T:TT) (ss tt:Sto) (e0v0:AV),T 4=.ptr b1 0/\T 5=.ptr b22 0->Tau tt0 [(e0,⟨88,2,[sf cU BJ,i6 NZ]⟩)] tt->Fx tt ss [(b22,⟨26,5,[i6 3,.str zB,i6 0,.X4,e0v0]⟩),(b1,⟨26,5,[i6 0,.str zB,i6 0,.X4,.X4]⟩)] [⟨e0v0,26,5,rws KY YX⟩]->Q (.ex 0) ⟨T,ss⟩)->True->∀(T:TT) (ss tt:Sto) (z0v0:AV),T 0=.ptr e0 0/\T 1=i6 a1/\T 4=.ptr b1 0/\T 5=.ptr b22 0/\T 6=i6 Yy->Tau tt0 [(e0,⟨88,2,[sf cU Vm,i6 I5]⟩)] tt->Fx tt ss [(b22,⟨26,5,[i6 3,.str zB,i6 0,.X4,z0v0]⟩),(b1,⟨26,5,[i6 0,.str zB,i6 0,.X4,.X4]⟩)] [⟨z0v0,26,5,rws KY X7⟩]->aLp KZ c Q ⟨T,ss⟩) ?_ ?_
 ·intro WN L0 a1 c0 r H;intro e0  ss hP;refine hdg mixed Tryz.func48 (rs:=[.cell 4 26]) fun q tT=>?_;obtain ⟨hF,hX⟩:=hP.start;generalize strip ss []=tt0 at hF hX ⊢;refine go ?_;refine X8 hF rfl fun b1 ss2 hF=>go ?_;refine giN q (fun q=>?_) (fun q=>?_)
  ·rw [if_neg (df q)] at H;refine go ?_;obtain ⟨Qem,hx11_1,H⟩:=bnd H;refine cx (Ym 3 c0 _ hx11_1 e0  _ (pre 0 1 0 hF hX)) ?_;rintro _ s8 ⟨tt9,rfl,hT,hG⟩;obtain ⟨t10,hX,hF⟩:=aft 0 1 0 hF hX hT hG;refine go ?_;refine cdp H (fun h H=>go ?_) (fun h H=>go ?_)
   ·obtain ⟨x15,hx15,H⟩:=bnd H;refine cx (Ym 4 Qem.2 _ hx15 e0  _ (pre 0 1 0 hF hX)) ?_;rintro _ s11 ⟨t12,rfl,hT,hG⟩;obtain ⟨t13,hX,hF⟩:=aft 0 1 0 hF hX hT hG;refine go ?_;refine cdp H (fun h H=>go ?_) (fun h H=>go ?_)
    ·obtain ⟨x19,hx19,H⟩:=bnd H;refine cx (YI [0,1,2,7,42,999] x15.2 _ hx19 e0  _ (pre 0 1 0 hF hX)) ?_;rintro _ s14 ⟨t15,rfl,hT,hG⟩;obtain ⟨t16,hX,hF⟩:=aft 0 1 0 hF hX hT hG;refine go ?_;refine st hF 0 rfl fun s17 hF=>?_;refine go ?_;cases pur H;exact rg _ ⟨_,rfl,hX,K1 _⟩
    ·obtain ⟨x23,hx23,H⟩:=bnd H;refine cx (Wr [(Qk #[97]),(Qk #[98]),(Qk #[120]),(Qk #[121]),(Qk #[102]),(Qk #[105,102]),(Qk #[108,101,116]),(Qk #[43])] x15.2 _ hx23 e0  _ (pre 0 1 0 hF hX)) ?_;rintro _ s18 ⟨t19,rfl,hT,hG⟩;obtain ⟨tt20,hX,hF⟩:=aft 0 1 0 hF hX hT hG;refine go ?_;refine bp H (VY x23.1) fun x24 h H=>cl h (go ?_);refine st hF 0 rfl fun s21 hF=>?_;refine go ?_;cases pur H;exact rg _ ⟨_,rfl,hX,K1 _⟩
   ·refine X8 hF rfl fun b22 s23 hF=>go ?_;refine st hF 0 rfl fun s24 hF=>?_;refine go ?_;obtain ⟨x27,hx27,H⟩:=bnd H;refine cx (Ym 4 Qem.2 _ hx27 e0  _ (pre 0 1 0 hF hX)) ?_;rintro _ s25 ⟨t26,rfl,hT,hG⟩;obtain ⟨t27,hX,hF⟩:=aft 0 1 0 hF hX hT hG;have hF:=hF.nil 26 5;refine go ?_;obtain ⟨o37,ho37,H⟩:=bnd H;refine L0 a1 [] x27.1 x27.2.b x27.2.p _ ho37 _ rfl _ tt0 e0 b1 b22 ?_ ?_ _ _ _ .X4 S hX hF
    ·intro E1 Qa8 Qa9 he T39 s40 t41 e38v0 tT hX hF;have he:=he.symm;subst he
     try dsimp only at H
     refine go ?_;refine st hF 1 rfl fun s42 hF=>?_;refine go ?_;cases pur H;exact rg _ ⟨_,rfl,hX,K1 _⟩
    ·trivial
  ·rw [if_pos (dt q)] at H;refine go ?_;obtain ⟨Mu,hx15_1,H⟩:=bnd H;refine cx (Ym 4 c0 _ hx15_1 e0  _ (pre 0 1 0 hF hX)) ?_;rintro _ s43 ⟨t44,rfl,hT,hG⟩;obtain ⟨t45,hX,hF⟩:=aft 0 1 0 hF hX hT hG;refine go ?_;refine cdp H (fun h H=>go ?_) (fun h H=>go ?_)
   ·obtain ⟨Qlx,hx19_1,H⟩:=bnd H;refine cx (YI [0,1,2,7,42,999] Mu.2 _ hx19_1 e0  _ (pre 0 1 0 hF hX)) ?_;rintro _ s46 ⟨t47,rfl,hT,hG⟩;obtain ⟨t48,hX,hF⟩:=aft 0 1 0 hF hX hT hG;refine go ?_;refine st hF 0 rfl fun s49 hF=>?_;refine go ?_;cases pur H;exact rg _ ⟨_,rfl,hX,K1 _⟩
   ·obtain ⟨Qlz,hx23_1,H⟩:=bnd H;refine cx (Wr [(Qk #[97]),(Qk #[98]),(Qk #[120]),(Qk #[121]),(Qk #[102]),(Qk #[105,102]),(Qk #[108,101,116]),(Qk #[43])] Mu.2 _ hx23_1 e0  _ (pre 0 1 0 hF hX)) ?_;rintro _ s50 ⟨tt51,rfl,hT,hG⟩;obtain ⟨t52,hX,hF⟩:=aft 0 1 0 hF hX hT hG;refine go ?_;obtain ⟨Qaj,hx24_1,H⟩:=bnd H;refine cl (VY Qlz.1 _ hx24_1) (go ?_);refine st hF 0 rfl fun s53 hF=>?_;refine go ?_;cases pur H;exact rg _ ⟨_,rfl,hX,K1 _⟩
 ·intro Vy WN C0 L0 a1 X7 Yy Vm I5 out H c hc Q tt0 e0 b1 b22 hE hR T ss tt z0v0 tT hX hF;refine lpy hc rfl fun q=>go ?_;refine cdp H (fun h H=>go ?_) (fun h H=>go ?_)
  ·obtain ⟨E,hEq⟩:∃E,E=EE ss [e0]:=⟨_,rfl⟩
   have n28:¬E b22:=by rw [hEq];exact K5 (hF.at 0 rfl) (nm1 (neX hF 0 rfl hX 0 rfl))
   have n29:¬E b1:=by rw [hEq];exact K5 (hF.at 1 rfl) (nm1 (neX hF 1 rfl hX 0 rfl))
   refine Yj E [.v,.v,.v,.v,.v,.x,.v,.x,.v,.z] (by kernel_rfl) ?_;have z:=K3 (X9 (hF.at 0 rfl) n28) (X9 (hF.at 1 rfl) n29);refine gh ?_;obtain ⟨x37,hx37,H⟩:=bnd H;refine cx (C0 (i64.wrap (a1 - 1)) (Rdr.mk Vm I5) _ hx37 e0  _ (pre 0 1 0 hF hX)) ?_;rintro _ s30 ⟨tt31,rfl,hT,hG⟩
   refine AB (Za hT hG (by intro p hp;simp only [Kj,KC,or_false] at hp<;>first | (rcases hp with rfl<;>(rw [hEq];first | (refine Zd ?_;simp;done) | exact Ze rfl))| cases hp)) fun kp33=>?_
   obtain ⟨t32,hX,hF⟩:=aft 0 1 0 hF hX hT hG;have z:=K3 (X9 (hF.at 0 rfl) n28) (X9 (hF.at 1 rfl) n29);refine gh ?_;refine NN (g:=KY) hF 0 H (rdo (c:=true) (g:=KY) Fm.X6) fun x39 H v34 s35 hF=>?_;have z:=K3 (X9 (hF.at 0 rfl) n28) (X9 (hF.at 1 rfl) n29);refine gh ?_;refine st hF 0 (hF.cells 0 rfl) fun s36 hF=>?_;have z:=K3 (X9 (hF.at 0 rfl) n28) (X9 (hF.at 1 rfl) n29);refine gh ?_;refine go ?_;exact L0 a1 x39 (i64.wrap (Yy - 1)) x37.2.b x37.2.p _ H _ rfl Q tt0 e0 b1 b22 hE hR _ _ _ v34 S hX hF
  ·exact wq (hE _ _ _ (pur H).symm _ _ _ z0v0 S hX hF)
theorem Mk:∀(a2:Int) (x62:Int × Rdr) (X7 Hu:List Int) (Vs Yw:Int) (Vm:List Int) (I5:Int) out,GJ a2 x62 X7 Hu Vs Yw Vm I5=some out->∀c,Yf Tryz.f60 0=some c->∀(Q:QT) (tt0:Sto) (e0 b1 b56:Nat),(∀(YX NX:List Int) (NY:Int) (BJ:List Int) (NZ:Int),out=(YX,NX,NY,BJ,NZ)->∀(T:TT) (ss tt:Sto) (e0v0:AV),T 0=.ptr e0 0/\T 1=sf cI NX/\T 2=i6 a2/\T 3=i6 NY/\T 8=.ptr b1 0/\T 10=.ptr b56 0/\T 11=i6 1->Tau tt0 [(e0,⟨88,2,[sf cU BJ,i6 NZ]⟩)] tt->Fx tt ss [(b56,⟨31,11,[i6 x62.1,i6 0,.str zB,i6 0,e0v0,i6 0,.str zB,i6 0,.X4,.X4,.X4]⟩),(b1,⟨31,11,[i6 0,i6 0,.str zB,i6 0,.X4,i6 0,.str zB,i6 0,.X4,.X4,.X4]⟩)] [⟨e0v0,3,1,rws cI YX⟩]->Q (.ex 2) ⟨T,ss⟩)->True->∀(T:TT) (ss tt:Sto) (z0v0:AV),T 0=.ptr e0 0/\T 1=sf cI Hu/\T 2=i6 a2/\T 3=i6 Yw/\T 8=.ptr b1 0/\T 10=.ptr b56 0/\T 11=i6 1/\T 12=i6 Vs->Tau tt0 [(e0,⟨88,2,[sf cU Vm,i6 I5]⟩)] tt->Fx tt ss [(b56,⟨31,11,[i6 x62.1,i6 0,.str zB,i6 0,z0v0,i6 0,.str zB,i6 0,.X4,.X4,.X4]⟩),(b1,⟨31,11,[i6 0,i6 0,.str zB,i6 0,.X4,i6 0,.str zB,i6 0,.X4,.X4,.X4]⟩)] [⟨z0v0,3,1,rws cI X7⟩]->aLp KZ c Q ⟨T,ss⟩:=by
 intro a2 x62 X7 Hu Vs Yw Vm I5;revert X7 Hu Vs Yw Vm I5;refine GJ.partial_correctness a2 x62 _ ?_;intro GJ IH X7 Hu Vs Yw Vm I5 out H c hc Q tt0 e0 b1 b56 hE hR T ss tt z0v0 tT hX hF;refine lpy hc rfl fun q=>go ?_;refine cdp H (fun h H=>go ?_) (fun h H=>go ?_)
 ·obtain ⟨x78,hx78,H⟩:=bnd H;refine cx (YI [1,2,5] (Rdr.mk Vm I5) _ hx78 e0  _ (pre 0 1 0 hF hX)) ?_;rintro _ s64 ⟨t65,rfl,hT,hG⟩;obtain ⟨t66,hX,hF⟩:=aft 0 1 0 hF hX hT hG;refine go ?_;refine apd (g:=cI) hF 0 H (rdo (c:=true) (g:=cI) (fun _=>rfl)) fun x84 H v67 s68 hF=>go ?_;refine st hF 0 (hF.cells 0 rfl) fun s69 hF=>?_;refine go ?_;have hF:=hF.lit 3 1 (rws cI []) rfl;refine apd (g:=cI) hF 0 H (rdo (c:=false) (g:=cI) (fun _=>rfl)) fun x88 H v70 s71 hF=>go ?_;refine apf (g:=cI) hF 0 H (rdo (c:=true) (g:=cI) (fun _=>rfl)) fun x91 H s73 hF=>go ?_;exact IH  x84 x91 (i64.wrap (Vs - 1)) (i64.wrap (Yw+x78.1)) x78.2.b x78.2.p _ H _ rfl Q tt0 e0 b1 b56 hE hR _ _ _ v67 S hX hF
 ·exact wq (hE _ _ _ _ _ (pur H).symm _ _ _ z0v0 S hX hF)
theorem PX:∀(a1:List Int) (a2 a3:Int) (c0:Rdr) r,IK a1 a2 a3 c0=some r->∀(e0:Nat)  (ss:Sto),Pre ss [(e0,⟨88,2,[sf cU c0.b,i6 c0.p]⟩)] []->Ctr KZ 60 [.ptr e0 0,sf cI a1,i6 a2,i6 a3] ss (fun r' ss'=>∃(tt':Sto),r'=.tup [.agg (K2 r.1),i6 r.2.1]/\Tau (strip ss []) [(e0,⟨88,2,[sf cU r.2.2.b,i6 r.2.2.p]⟩)] tt'/\Fx tt' ss' [] []):=by
 refine IK.partial_correctness _ (motive_2:=fun a2 x62 DL DM B9 VX G8 Qer YS J7 out=>∀c,Yf Tryz.f60 1=some c->∀(Q:QT) (tt0:Sto) (e0 b1 b56:Nat) (y59v0:AV),(∀(FU:List Cor) (Qq0:Int) (BK:List Int) (N2:Int),out=(FU,Qq0,BK,N2)->∀(T:TT) (ss tt:Sto) (e1v1:AV),T 3=i6 Qq0/\T 8=.ptr b1 0/\T 10=.ptr b56 0->Tau tt0 [(e0,⟨88,2,[sf cU BK,i6 N2]⟩)] tt->Fx tt ss [(b56,⟨31,11,[i6 x62.1,i6 0,.str zB,i6 0,y59v0,i6 0,.str zB,i6 0,.X4,.X4,e1v1]⟩),(b1,⟨31,11,[i6 0,i6 0,.str zB,i6 0,.X4,i6 0,.str zB,i6 0,.X4,.X4,.X4]⟩)] [⟨e1v1,31,11,rws K2 FU⟩,⟨y59v0,3,1,rws cI DL⟩]->Q (.ex 4) ⟨T,ss⟩)->True->∀(T:TT) (ss tt:Sto) (z1v1:AV),T 0=.ptr e0 0/\T 1=sf cI DM/\T 2=i6 a2/\T 3=i6 Qer/\T 8=.ptr b1 0/\T 10=.ptr b56 0/\T 11=i6 B9/\T 13=i6 G8->Tau tt0 [(e0,⟨88,2,[sf cU YS,i6 J7]⟩)] tt->Fx tt ss [(b56,⟨31,11,[i6 x62.1,i6 0,.str zB,i6 0,y59v0,i6 0,.str zB,i6 0,.X4,.X4,z1v1]⟩),(b1,⟨31,11,[i6 0,i6 0,.str zB,i6 0,.X4,i6 0,.str zB,i6 0,.X4,.X4,.X4]⟩)] [⟨z1v1,31,11,rws K2 VX⟩,⟨y59v0,3,1,rws cI DL⟩]->aLp KZ c Q ⟨T,ss⟩) ?_ ?_
 ·intro Hy L0 a1 a2 a3 c0 r H;intro e0  ss hP;refine hdg mixed Tryz.func60 (rs:=[.cell 8 31,.tmp 9]) fun q tT=>?_;obtain ⟨hF,hX⟩:=hP.start;generalize strip ss []=tt0 at hF hX ⊢;refine go ?_;refine X8 hF rfl fun b1 ss2 hF=>go ?_;refine giN q (fun q=>?_) (fun q=>?_)
  ·rw [if_neg (df q)] at H;refine go ?_;obtain ⟨Ug,hx20_1,H⟩:=bnd H;refine cx (Ym 4 c0 _ hx20_1 e0  _ (pre 0 1 0 hF hX)) ?_;rintro _ s8 ⟨tt9,rfl,hT,hG⟩;obtain ⟨t10,hX,hF⟩:=aft 0 1 0 hF hX hT hG;refine go ?_;refine cdp H (fun h H=>go ?_) (fun h H=>go ?_)
   ·refine gi q (fun q=>?_) (fun q=>?_)
    ·rw [if_pos (dt q)] at H;refine go ?_;obtain ⟨Rt,hx28_1,H⟩:=bnd H;refine cx (Ym 3 Ug.2 _ hx28_1 e0  _ (pre 0 1 0 hF hX)) ?_;rintro _ s16 ⟨t17,rfl,hT,hG⟩;obtain ⟨t18,hX,hF⟩:=aft 0 1 0 hF hX hT hG;refine go ?_;refine cdp H (fun h H=>go ?_) (fun h H=>go ?_)
     ·obtain ⟨x35,hx35,H⟩:=bnd H;refine cx (Ym (a1.length:Int) Rt.2 _ hx35 e0  _ (pre 0 1 0 hF hX)) ?_;rintro _ s19 ⟨tt20,rfl,hT,hG⟩;obtain ⟨t21,hX,hF⟩:=aft 0 1 0 hF hX hT hG;obtain ⟨x36,f1,H⟩:=bil (g:=cI) (fun _=>rfl) H;refine go1 ?_;refine st hF 0 rfl fun s22 hF=>?_;refine go ?_;cases pur H;exact rg _ ⟨_,rfl,hX,K1 _⟩
     ·obtain ⟨x41,hx41,H⟩:=bnd H;refine cx (Ym 4 Rt.2 _ hx41 e0  _ (pre 0 1 0 hF hX)) ?_;rintro _ s23 ⟨t24,rfl,hT,hG⟩;obtain ⟨t25,hX,hF⟩:=aft 0 1 0 hF hX hT hG;refine go ?_;refine cdp H (fun h H=>go ?_) (fun h H=>go ?_)
      ·obtain ⟨x45,hx45,H⟩:=bnd H;refine cx (Ab 1 x41.2 _ hx45 e0  _ (pre 0 1 0 hF hX)) ?_;rintro _ s26 ⟨t27,rfl,hT,hG⟩;obtain ⟨t28,hX,hF⟩:=aft 0 1 0 hF hX hT hG;refine go ?_;refine st hF 0 rfl fun s29 hF=>?_;refine go ?_;cases pur H;exact rg _ ⟨_,rfl,hX,K1 _⟩
      ·refine cdp H (fun h H=>go ?_) (fun h H=>go ?_)
       ·obtain ⟨x52,hx52,H⟩:=bnd H;refine cx (Wr [(Qk #[102]),(Qk #[43]),(Qk #[108,105,115,116])] x41.2 _ hx52 e0  _ (pre 0 1 0 hF hX)) ?_;rintro _ s30 ⟨tt31,rfl,hT,hG⟩;obtain ⟨t32,hX,hF⟩:=aft 0 1 0 hF hX hT hG;refine go ?_;refine st hF 0 rfl fun s33 hF=>?_;refine go ?_;cases pur H;exact rg _ ⟨_,rfl,hX,K1 _⟩
       ·obtain ⟨x57,hx57,H⟩:=bnd H;refine cx (YI [0,1,5,42] x41.2 _ hx57 e0  _ (pre 0 1 0 hF hX)) ?_;rintro _ s34 ⟨t35,rfl,hT,hG⟩;obtain ⟨t36,hX,hF⟩:=aft 0 1 0 hF hX hT hG;refine go ?_;refine st hF 0 rfl fun s37 hF=>?_;refine go ?_;cases pur H;exact rg _ ⟨_,rfl,hX,K1 _⟩
    ·rw [if_neg (df q)] at H;refine go ?_;obtain ⟨Lt,hx41_1,H⟩:=bnd H;refine cx (Ym 4 Ug.2 _ hx41_1 e0  _ (pre 0 1 0 hF hX)) ?_;rintro _ s38 ⟨t39,rfl,hT,hG⟩;obtain ⟨t40,hX,hF⟩:=aft 0 1 0 hF hX hT hG;refine go ?_;refine cdp H (fun h H=>go ?_) (fun h H=>go ?_)
     ·obtain ⟨Lu,hx45_1,H⟩:=bnd H;refine cx (Ab 1 Lt.2 _ hx45_1 e0  _ (pre 0 1 0 hF hX)) ?_;rintro _ s41 ⟨t42,rfl,hT,hG⟩;obtain ⟨t43,hX,hF⟩:=aft 0 1 0 hF hX hT hG;refine go ?_;refine st hF 0 rfl fun s44 hF=>?_;refine go ?_;cases pur H;exact rg _ ⟨_,rfl,hX,K1 _⟩
     ·refine cdp H (fun h H=>go ?_) (fun h H=>go ?_)
      ·obtain ⟨Ql1,hx52_1,H⟩:=bnd H;refine cx (Wr [(Qk #[102]),(Qk #[43]),(Qk #[108,105,115,116])] Lt.2 _ hx52_1 e0  _ (pre 0 1 0 hF hX)) ?_;rintro _ s45 ⟨tt46,rfl,hT,hG⟩;obtain ⟨t47,hX,hF⟩:=aft 0 1 0 hF hX hT hG;refine go ?_;refine st hF 0 rfl fun s48 hF=>?_;refine go ?_;cases pur H;exact rg _ ⟨_,rfl,hX,K1 _⟩
      ·obtain ⟨Qal,hx57_1,H⟩:=bnd H;refine cx (YI [0,1,5,42] Lt.2 _ hx57_1 e0  _ (pre 0 1 0 hF hX)) ?_;rintro _ s49 ⟨t50,rfl,hT,hG⟩;obtain ⟨tt51,hX,hF⟩:=aft 0 1 0 hF hX hT hG;refine go ?_;refine st hF 0 rfl fun s52 hF=>?_;refine go ?_;cases pur H;exact rg _ ⟨_,rfl,hX,K1 _⟩
   ·obtain ⟨x62,hx62,H⟩:=bnd H;refine cx (YI [6,5,7,5] Ug.2 _ hx62 e0  _ (pre 0 1 0 hF hX)) ?_;rintro _ s53 ⟨t54,rfl,hT,hG⟩;obtain ⟨t55,hX,hF⟩:=aft 0 1 0 hF hX hT hG;refine go ?_;refine X8 hF rfl fun b56 s57 hF=>go ?_;refine st hF 0 rfl fun s58 hF=>?_;have hF:=hF.nil 3 1;refine go ?_;obtain ⟨⟨DL,DM,B9,Qci,NI,NJ⟩,j60,H⟩:=bnd H;refine V6 (fun s'=>∃(T:TT) (ss1 tt1:Sto) (y59v0:AV),s'=⟨T,ss1⟩/\(T 0=.ptr e0 0/\T 1=sf cI DM/\T 2=i6 a2/\T 3=i6 Qci/\T 8=.ptr b1 0/\T 10=.ptr b56 0/\T 11=i6 B9)/\Tau tt0 [(e0,⟨88,2,[sf cU NI,i6 NJ]⟩)] tt1/\Fx tt1 ss1 [(b56,⟨31,11,[i6 x62.1,i6 0,.str zB,i6 0,y59v0,i6 0,.str zB,i6 0,.X4,.X4,.X4]⟩),(b1,⟨31,11,[i6 0,i6 0,.str zB,i6 0,.X4,i6 0,.str zB,i6 0,.X4,.X4,.X4]⟩)] [⟨y59v0,3,1,rws cI DL⟩]) (cdp j60 (fun h j60=>go ?_) (fun h j60=>go ?_)) ?_
    ·obtain ⟨x70,hx70,j60⟩:=bnd j60;refine cx (YI [1,2,0] x62.2 _ hx70 e0  _ (pre 0 1 0 hF hX)) ?_;rintro _ s61 ⟨t62,rfl,hT,hG⟩;obtain ⟨t63,hX,hF⟩:=aft 0 1 0 hF hX hT hG;refine go ?_;obtain ⟨o74,ho74,j60⟩:=bnd j60;refine Mk a2 x62 [] a1 x70.1 a3 x70.2.b x70.2.p _ ho74 _ rfl _ tt0 e0 b1 b56 ?_ ?_ _ _ _ .X4 S hX hF
     ·intro Qmi Qmj Qmk Qbd Qbe he T76 s77 t78 e75v0 tT hX hF;have he:=he.symm;subst he
      try dsimp only at j60
      refine go ?_;cases pur j60;exact ⟨_,_,_,e75v0,rfl,S,hX,hF⟩
     ·trivial
    ·refine cdp j60 (fun h j60=>go ?_) (fun h j60=>go ?_)
     ·obtain ⟨x96,hx96,j60⟩:=bnd j60;refine cx (YI [2,1,3] x62.2 _ hx96 e0  _ (pre 0 1 0 hF hX)) ?_;rintro _ s79 ⟨t80,rfl,hT,hG⟩;obtain ⟨t81,hX,hF⟩:=aft 0 1 0 hF hX hT hG;refine go ?_;cases pur j60;exact ⟨_,_,_,.X4,rfl,S,hX,hF⟩
     ·cases pur j60;exact ⟨_,_,_,.X4,rfl,S,hX,hF⟩
    ·rintro s' ⟨T82,s83,t84,y59v0,rfl,tT,hX,hF⟩;have hF:=hF.nil 31 11;refine go ?_;obtain ⟨o94,ho94,H⟩:=bnd H;refine L0 a2 x62 DL DM B9 [] 0 Qci NI NJ _ ho94 _ rfl _ tt0 e0 b1 b56 y59v0 ?_ ?_ _ _ _ .X4 S hX hF
     ·intro Qml Qg4 Qbf Qbg he T96 s97 t98 e95v1 tT hX hF;have he:=he.symm;subst he
      try dsimp only at H
      refine go ?_;refine st hF 1 rfl fun s99 hF=>?_;refine go ?_;cases pur H;exact rg _ ⟨_,rfl,hX,K1 _⟩
     ·trivial
  ·rw [if_pos (dt q)] at H;refine go ?_;refine gi q (fun q=>?_) (fun q=>?_)
   ·rw [if_pos (dt q)] at H;refine go ?_;obtain ⟨Ru,hx28_3,H⟩:=bnd H;refine cx (Ym 3 c0 _ hx28_3 e0  _ (pre 0 1 0 hF hX)) ?_;rintro _ s105 ⟨t106,rfl,hT,hG⟩;obtain ⟨t107,hX,hF⟩:=aft 0 1 0 hF hX hT hG;refine go ?_;refine cdp H (fun h H=>go ?_) (fun h H=>go ?_)
    ·obtain ⟨Qep,hx35_1,H⟩:=bnd H;refine cx (Ym (a1.length:Int) Ru.2 _ hx35_1 e0  _ (pre 0 1 0 hF hX)) ?_;rintro _ s108 ⟨t109,rfl,hT,hG⟩;obtain ⟨t110,hX,hF⟩:=aft 0 1 0 hF hX hT hG;obtain ⟨Dg,f1,H⟩:=bil (g:=cI) (fun _=>rfl) H;refine go1 ?_;refine st hF 0 rfl fun s111 hF=>?_;refine go ?_;cases pur H;exact rg _ ⟨_,rfl,hX,K1 _⟩
    ·obtain ⟨SL,hx41_2,H⟩:=bnd H;refine cx (Ym 4 Ru.2 _ hx41_2 e0  _ (pre 0 1 0 hF hX)) ?_;rintro _ s112 ⟨t113,rfl,hT,hG⟩;obtain ⟨t114,hX,hF⟩:=aft 0 1 0 hF hX hT hG;refine go ?_;refine cdp H (fun h H=>go ?_) (fun h H=>go ?_)
     ·obtain ⟨Uh,hx45_2,H⟩:=bnd H;refine cx (Ab 1 SL.2 _ hx45_2 e0  _ (pre 0 1 0 hF hX)) ?_;rintro _ s115 ⟨t116,rfl,hT,hG⟩;obtain ⟨t117,hX,hF⟩:=aft 0 1 0 hF hX hT hG;refine go ?_;refine st hF 0 rfl fun s118 hF=>?_;refine go ?_;cases pur H;exact rg _ ⟨_,rfl,hX,K1 _⟩
     ·refine cdp H (fun h H=>go ?_) (fun h H=>go ?_)
      ·obtain ⟨Ql2,hx52_2,H⟩:=bnd H;refine cx (Wr [(Qk #[102]),(Qk #[43]),(Qk #[108,105,115,116])] SL.2 _ hx52_2 e0  _ (pre 0 1 0 hF hX)) ?_;rintro _ s119 ⟨t120,rfl,hT,hG⟩;obtain ⟨t121,hX,hF⟩:=aft 0 1 0 hF hX hT hG;refine go ?_;refine st hF 0 rfl fun s122 hF=>?_;refine go ?_;cases pur H;exact rg _ ⟨_,rfl,hX,K1 _⟩
      ·obtain ⟨Ql4,hx57_2,H⟩:=bnd H;refine cx (YI [0,1,5,42] SL.2 _ hx57_2 e0  _ (pre 0 1 0 hF hX)) ?_;rintro _ s123 ⟨t124,rfl,hT,hG⟩;obtain ⟨t125,hX,hF⟩:=aft 0 1 0 hF hX hT hG;refine go ?_;refine st hF 0 rfl fun s126 hF=>?_;refine go ?_;cases pur H;exact rg _ ⟨_,rfl,hX,K1 _⟩
   ·rw [if_neg (df q)] at H;refine go ?_;obtain ⟨SM,hx41_3,H⟩:=bnd H;refine cx (Ym 4 c0 _ hx41_3 e0  _ (pre 0 1 0 hF hX)) ?_;rintro _ s127 ⟨t128,rfl,hT,hG⟩;obtain ⟨t129,hX,hF⟩:=aft 0 1 0 hF hX hT hG;refine go ?_;refine cdp H (fun h H=>go ?_) (fun h H=>go ?_)
    ·obtain ⟨Ui,hx45_3,H⟩:=bnd H;refine cx (Ab 1 SM.2 _ hx45_3 e0  _ (pre 0 1 0 hF hX)) ?_;rintro _ s130 ⟨t131,rfl,hT,hG⟩;obtain ⟨t132,hX,hF⟩:=aft 0 1 0 hF hX hT hG;refine go ?_;refine st hF 0 rfl fun s133 hF=>?_;refine go ?_;cases pur H;exact rg _ ⟨_,rfl,hX,K1 _⟩
    ·refine cdp H (fun h H=>go ?_) (fun h H=>go ?_)
     ·obtain ⟨Ql3,hx52_3,H⟩:=bnd H;refine cx (Wr [(Qk #[102]),(Qk #[43]),(Qk #[108,105,115,116])] SM.2 _ hx52_3 e0  _ (pre 0 1 0 hF hX)) ?_;rintro _ s134 ⟨t135,rfl,hT,hG⟩;obtain ⟨t136,hX,hF⟩:=aft 0 1 0 hF hX hT hG;refine go ?_;refine st hF 0 rfl fun s137 hF=>?_;refine go ?_;cases pur H;exact rg _ ⟨_,rfl,hX,K1 _⟩
     ·obtain ⟨Ql5,hx57_3,H⟩:=bnd H;refine cx (YI [0,1,5,42] SM.2 _ hx57_3 e0  _ (pre 0 1 0 hF hX)) ?_;rintro _ s138 ⟨t139,rfl,hT,hG⟩;obtain ⟨t140,hX,hF⟩:=aft 0 1 0 hF hX hT hG;refine go ?_;refine st hF 0 rfl fun s141 hF=>?_;refine go ?_;cases pur H;exact rg _ ⟨_,rfl,hX,K1 _⟩
 ·intro IK Hy C0 L0 a2 x62 DL DM B9 VX G8 Qer YS J7 out H c hc Q tt0 e0 b1 b56 y59v0 hE hR T ss tt z1v1 tT hX hF;refine lpy hc rfl fun q=>go ?_;refine cdp H (fun h H=>go ?_) (fun h H=>go ?_)
  ·obtain ⟨x108,hx108,H⟩:=bnd H;refine cx (C0 DM (i64.wrap (a2 - 1)) Qer (Rdr.mk YS J7) _ hx108 e0  _ (pre 0 1 0 hF hX)) ?_;rintro _ s85 ⟨t86,rfl,hT,hG⟩;obtain ⟨t87,hX,hF⟩:=aft 0 1 0 hF hX hT hG;refine go ?_;refine X8 hF rfl fun b88 s89 hF=>go ?_;refine st hF 0 rfl fun s90 hF=>?_;refine go ?_;refine apd (g:=K2) hF 0 H (rdo (c:=true) (g:=K2) Cor.X6) fun x116 H v91 s92 hF=>go ?_;refine st hF 1 (hF.cells 0 rfl) fun s93 hF=>?_;refine go ?_;exact L0 a2 x62 DL DM B9 x116 (i64.wrap (G8+1)) x108.2.1 x108.2.2.b x108.2.2.p _ H _ rfl Q tt0 e0 b1 b56 y59v0 hE hR _ _ _ v91 S hX (hF.drop 1 0)
  ·exact wq (hE _ _ _ _ (pur H).symm _ _ _ z1v1 S hX hF)
theorem It:∀(a0:Fm) r,Jr a0=some r->Y7 KZ 80 [.agg (KY a0)] (.agg (KY r)):=by
 refine Jr.partial_correctness _ (motive_2:=fun a0 x14 X7 YJ out=>∀c,Yf Tryz.f80 0=some c->∀(Q:QT) (tt:Sto) (b1 b3 b5:Nat),(∀(YX:List Fm),out=YX->∀(T:TT) (ss:Sto) (e0v0:AV),T 2=.ptr b3 0/\T 3=.ptr b5 0->Fx tt ss [(b5,⟨26,5,[i6 a0.kind,.str a0.name,i6 a0.num,sf cI x14,e0v0]⟩),(b3,⟨26,5,[i6 0,.str zB,i6 0,.X4,.X4]⟩),(b1,⟨26,5,[i6 a0.kind,.str a0.name,i6 a0.num,sf cI a0.sc,sf KY a0.kids]⟩)] [⟨e0v0,26,5,rws KY YX⟩]->Q (.ex 0) ⟨T,ss⟩)->True->∀(T:TT) (ss:Sto) (z0v0:AV),T 1=.ptr b1 0/\T 2=.ptr b3 0/\T 3=.ptr b5 0/\T 4=i6 YJ->Fx tt ss [(b5,⟨26,5,[i6 a0.kind,.str a0.name,i6 a0.num,sf cI x14,z0v0]⟩),(b3,⟨26,5,[i6 0,.str zB,i6 0,.X4,.X4]⟩),(b1,⟨26,5,[i6 a0.kind,.str a0.name,i6 a0.num,sf cI a0.sc,sf KY a0.kids]⟩)] [⟨z0v0,26,5,rws KY X7⟩]->aLp KZ c Q ⟨T,ss⟩) ?_ ?_
 ·intro Gr L0 a0 r H;intro ss;refine hdh mixed Tryz.func80 (rs:=[.cell 2 26]) fun q tT hF hX=>?_;refine go ?_;refine X8 hF rfl fun b1 ss2 hF=>go ?_;refine X8 hF rfl fun b3 ss4 hF=>go ?_;refine Yj E0 [.v,.v,.v,.v,.v,.v,.v,.v,.v,.v,.v,.x,.z] (by kernel_rfl) (go ?_);obtain ⟨x14,hx14,H⟩:=bnd H;refine RG (g:=cI) (xs:=[]) (ys:=a0.sc) (fun _=>rfl) (by decide) (by decide) (.inr (by first | rfl | simp only [Vj,V7,cI,cU,cS,cL])) (.inr ⟨_,by first | rfl | simp only [Vj,V7,cI,cU,cS,cL]⟩) hx14 (go ?_);refine J8 hF rfl fun b5 ss6 hF=>go ?_;refine st hF 0 rfl fun s7 hF=>?_;have hF:=hF.nil 26 5;refine go ?_;obtain ⟨o11,ho11,H⟩:=bnd H;refine L0 a0 x14 [] 0 _ ho11 _ rfl _ _ b1 b3 b5 ?_ ?_ _ _ .X4 S hF
  ·intro HH he T13 s14 e12v0 tT hF;have he:=he.symm;subst he;refine go ?_;refine st hF 1 rfl fun s16 hF=>?_;refine go ?_;cases pur H;exact rt _
  ·trivial
 ·intro Jr Gr C0 L0 a0 x14 X7 YJ out H c hc Q tt b1 b3 b5 hE hR T ss z0v0 tT hF;refine lpx tt hc rfl fun q hX=>go ?_;refine cdp H (fun h H=>go ?_) (fun h H=>go ?_)
  ·refine Yj E0 [.v,.v,.v,.v,.v,.v,.v,.v,.v,.x,.v,.z] (by kernel_rfl) ?_;obtain ⟨x28,f1,H⟩:=bil (g:=KY) Fm.X6 H;refine go1 ?_;refine bp H (C0 x28) fun x30 h H=>cv h (go ?_);refine NN (g:=KY) hF 0 H (rdo (c:=true) (g:=KY) Fm.X6) fun x32 H v8 s9 hF=>go ?_;refine st hF 0 (hF.cells 0 rfl) fun s10 hF=>?_;refine go ?_;exact L0 a0 x14 x32 (i64.wrap (YJ+1)) _ H _ rfl Q tt b1 b3 b5 hE hR _ _ v8 S hF
  ·exact wq (hE _ (pur H).symm _ _ z0v0 S hF)
theorem CL:∀(a0:Cor) r,G4 a0=some r->Y7 KZ 63 [.agg (K2 a0)] (.agg (K2 r)):=by
 refine G4.partial_correctness _ (motive_2:=fun a0 x16 x19 X7 YJ out=>∀c,Yf Tryz.f63 0=some c->∀(Q:QT) (tt:Sto) (b1 b3 b5:Nat),(∀(YX:List Cor),out=YX->∀(T:TT) (ss:Sto) (e0v0:AV),T 2=.ptr b3 0/\T 3=.ptr b5 0->Fx tt ss [(b5,⟨31,11,[i6 a0.kind,i6 a0.id,.str a0.name,i6 a0.num,sf cI x16,i6 x19.kind,.str x19.name,i6 x19.num,sf cI x19.sc,sf KY x19.kids,e0v0]⟩),(b3,⟨31,11,[i6 0,i6 0,.str zB,i6 0,.X4,i6 0,.str zB,i6 0,.X4,.X4,.X4]⟩),(b1,⟨31,11,[i6 a0.kind,i6 a0.id,.str a0.name,i6 a0.num,sf cI a0.ids,i6 a0.data.kind,.str a0.data.name,i6 a0.data.num,sf cI a0.data.sc,sf KY a0.data.kids,sf K2 a0.kids]⟩)] [⟨e0v0,31,11,rws K2 YX⟩]->Q (.ex 0) ⟨T,ss⟩)->True->∀(T:TT) (ss:Sto) (z0v0:AV),T 1=.ptr b1 0/\T 2=.ptr b3 0/\T 3=.ptr b5 0/\T 4=i6 YJ->Fx tt ss [(b5,⟨31,11,[i6 a0.kind,i6 a0.id,.str a0.name,i6 a0.num,sf cI x16,i6 x19.kind,.str x19.name,i6 x19.num,sf cI x19.sc,sf KY x19.kids,z0v0]⟩),(b3,⟨31,11,[i6 0,i6 0,.str zB,i6 0,.X4,i6 0,.str zB,i6 0,.X4,.X4,.X4]⟩),(b1,⟨31,11,[i6 a0.kind,i6 a0.id,.str a0.name,i6 a0.num,sf cI a0.ids,i6 a0.data.kind,.str a0.data.name,i6 a0.data.num,sf cI a0.data.sc,sf KY a0.data.kids,sf K2 a0.kids]⟩)] [⟨z0v0,31,11,rws K2 X7⟩]->aLp KZ c Q ⟨T,ss⟩) ?_ ?_
 ·intro GI L0 a0 r H;intro ss;refine hdh mixed Tryz.func63 (rs:=[.cell 2 31]) fun q tT hF hX=>?_;refine go ?_;refine X8 hF rfl fun b1 ss2 hF=>go ?_;refine X8 hF rfl fun b3 ss4 hF=>go ?_;refine Yj E0 [.v,.v,.v,.v,.v,.v,.v,.v,.v,.v,.v,.v,.v,.v,.v,.v,.x,.z] (by kernel_rfl) (go ?_);obtain ⟨x16,hx16,H⟩:=bnd H;refine RG (g:=cI) (xs:=[]) (ys:=a0.ids) (fun _=>rfl) (by decide) (by decide) (.inr (by first | rfl | simp only [Vj,V7,cI,cU,cS,cL])) (.inr ⟨_,by first | rfl | simp only [Vj,V7,cI,cU,cS,cL]⟩) hx16 (go ?_);refine bp H (It a0.data) fun x19 h H=>cv h (go ?_);refine J8 hF rfl fun b5 ss6 hF=>go ?_;refine st hF 0 rfl fun s7 hF=>?_;have hF:=hF.nil 31 11;refine go ?_;obtain ⟨o11,ho11,H⟩:=bnd H;refine L0 a0 x16 x19 [] 0 _ ho11 _ rfl _ _ b1 b3 b5 ?_ ?_ _ _ .X4 S hF
  ·intro HH he T13 s14 e12v0 tT hF;have he:=he.symm;subst he;refine go ?_;refine st hF 1 rfl fun s16 hF=>?_;refine go ?_;cases pur H;exact rt _
  ·trivial
 ·intro G4 GI C0 L0 a0 x16 x19 X7 YJ out H c hc Q tt b1 b3 b5 hE hR T ss z0v0 tT hF;refine lpx tt hc rfl fun q hX=>go ?_;refine cdp H (fun h H=>go ?_) (fun h H=>go ?_)
  ·refine Yj E0 [.v,.v,.v,.v,.v,.v,.v,.v,.v,.x,.v,.z] (by kernel_rfl) ?_;obtain ⟨x33,f1,H⟩:=bil (g:=K2) Cor.X6 H;refine go1 ?_;refine bp H (C0 x33) fun x35 h H=>cv h (go ?_);refine NN (g:=K2) hF 0 H (rdo (c:=true) (g:=K2) Cor.X6) fun x37 H v8 s9 hF=>go ?_;refine st hF 0 (hF.cells 0 rfl) fun s10 hF=>?_;refine go ?_;exact L0 a0 x16 x19 x37 (i64.wrap (YJ+1)) _ H _ rfl Q tt b1 b3 b5 hE hR _ _ v8 S hF
  ·exact wq (hE _ (pur H).symm _ _ z0v0 S hF)
theorem Ci:∀(a0:Cor) (x16:List Int) (x19:Fm) (HG:List Cor) (YJ:Int) out,Vc a0 x16 x19 HG YJ=some out->∀c,Yf Tryz.f63 0=some c->∀(Q:QT) (tt0:Sto) (b1 b3:Nat) (v5:AV) (b7:Nat),(∀(Qgs:List Cor),out=Qgs->∀(T:TT) (ss tt:Sto) (e0v1:AV),T 2=.ptr b3 0/\T 3=.ptr b7 0->Tau tt0 [] tt->Fx tt ss [(b7,⟨31,11,[i6 a0.kind,i6 a0.id,.str a0.name,i6 a0.num,v5,i6 x19.kind,.str x19.name,i6 x19.num,sf cI x19.sc,sf KY x19.kids,e0v1]⟩),(b3,⟨31,11,[i6 0,i6 0,.str zB,i6 0,.X4,i6 0,.str zB,i6 0,.X4,.X4,.X4]⟩),(b1,⟨31,11,[i6 a0.kind,i6 a0.id,.str a0.name,i6 a0.num,sf cI a0.ids,i6 a0.data.kind,.str a0.data.name,i6 a0.data.num,sf cI a0.data.sc,sf KY a0.data.kids,sf K2 a0.kids]⟩)] [⟨e0v1,31,11,rws K2 Qgs⟩,⟨v5,3,1,rws cI x16⟩]->Q (.ex 0) ⟨T,ss⟩)->True->∀(T:TT) (ss tt:Sto) (z0v1:AV),T 1=.ptr b1 0/\T 2=.ptr b3 0/\T 3=.ptr b7 0/\T 4=i6 YJ->Tau tt0 [] tt->Fx tt ss [(b7,⟨31,11,[i6 a0.kind,i6 a0.id,.str a0.name,i6 a0.num,v5,i6 x19.kind,.str x19.name,i6 x19.num,sf cI x19.sc,sf KY x19.kids,z0v1]⟩),(b3,⟨31,11,[i6 0,i6 0,.str zB,i6 0,.X4,i6 0,.str zB,i6 0,.X4,.X4,.X4]⟩),(b1,⟨31,11,[i6 a0.kind,i6 a0.id,.str a0.name,i6 a0.num,sf cI a0.ids,i6 a0.data.kind,.str a0.data.name,i6 a0.data.num,sf cI a0.data.sc,sf KY a0.data.kids,sf K2 a0.kids]⟩)] [⟨z0v1,31,11,rws K2 HG⟩,⟨v5,3,1,rws cI x16⟩]->aLp KZ c Q ⟨T,ss⟩:=by
 intro a0 x16 x19 HG YJ;revert HG YJ;refine Vc.partial_correctness a0 x16 x19 _ ?_;intro Vc IH HG YJ out H c hc Q tt0 b1 b3 v5 b7 hE hR T ss tt z0v1 tT hX hF;refine lpy hc rfl fun q=>go ?_;refine cdp H (fun h H=>go ?_) (fun h H=>go ?_)
 ·refine Yj E0 [.v,.v,.v,.v,.v,.v,.v,.v,.v,.x,.v,.z] (by kernel_rfl) ?_;obtain ⟨x33,f1,H⟩:=bil (g:=K2) Cor.X6 H;refine go1 ?_;refine bp H (CL x33) fun x35 h H=>cv h (go ?_);refine NN (g:=K2) hF 0 H (rdo (c:=true) (g:=K2) Cor.X6) fun x37 H v10 s11 hF=>go ?_;refine st hF 0 (hF.cells 0 rfl) fun s12 hF=>?_;refine go ?_;exact IH  x37 (i64.wrap (YJ+1)) _ H _ rfl Q tt0 b1 b3 v5 b7 hE hR _ _ _ v10 S hX hF
 ·exact wq (hE _ (pur H).symm _ _ _ z0v1 S hX hF)
theorem DA:∀(a0:Cor) r,Ga a0=some r->∀   (ss:Sto),Pre ss [] []->Ctr KZ 63 [.agg (K2 a0)] ss (fun r' ss'=>∃(tt':Sto) (Qvp Qtd:AV),r'=.agg [i6 r.kind,i6 r.id,.str r.name,i6 r.num,Qvp,i6 r.data.kind,.str r.data.name,i6 r.data.num,sf cI r.data.sc,sf KY r.data.kids,Qtd]/\Tau (strip ss []) [] tt'/\Fx tt' ss' [] [⟨Qvp,3,1,rws cI r.ids⟩,⟨Qtd,31,11,rws K2 r.kids⟩]):=by
 intro a0 r H;intro   ss hP;unfold Ga at H;refine hdg mixed Tryz.func63 (rs:=[.cell 2 31]) fun q tT=>?_;obtain ⟨hF,hX⟩:=hP.start;generalize strip ss []=tt0 at hF hX ⊢;refine go ?_;refine X8 hF rfl fun b1 ss2 hF=>go ?_;refine X8 hF rfl fun b3 ss4 hF=>go ?_;refine FQ E0 [.v,.v,.v,.v,.v,.v,.v,.v,.v,.v,.v,.v,.v,.x,.v,.v,.x,.z] [0,1,2,3,4,5,6,7,8,9,10,12,13,11,14,15,16,17] (by kernel_rfl) (go ?_);have hF:=hF.lit 3 1 (rws cI []) rfl;refine NN (g:=cI) hF 0 H (rdo (c:=false) (g:=cI) (fun _=>rfl)) fun x16 H v5 ss6 hF=>go ?_;refine bp H (It a0.data) fun x19 h H=>cv h (go ?_);refine J8 hF rfl fun b7 s8 hF=>go ?_;refine st hF 0 rfl fun s9 hF=>?_;have hF:=hF.nil 31 11;refine go ?_;obtain ⟨o13,ho13,H⟩:=bnd H;refine Ci a0 x16 x19 [] 0 _ ho13 _ rfl _ tt0 b1 b3 v5 b7 ?_ ?_ _ _ _ .X4 S hX hF
 ·intro Qmc he T15 s16 t17 e14v1 tT hX hF;have he:=he.symm;subst he;refine go ?_;refine st hF 1 rfl fun s18 hF=>?_;refine go ?_;cases pur H;exact rg _ ⟨_,_,_,rfl,hX,hF.pick [] [1,0] (by decide) (by decide)⟩
 ·trivial
theorem DK:∀(a1:Cor) (c0:Rdr) r,Hs a1 c0=some r->∀(e0:Nat)  (ss:Sto),Pre ss [(e0,⟨88,2,[sf cU c0.b,i6 c0.p]⟩)] []->Ctr KZ 61 [.ptr e0 0,.agg (K2 a1)] ss (fun r' ss'=>∃(tt':Sto),r'=.agg (K2 r.1)/\Tau (strip ss []) [(e0,⟨88,2,[sf cU r.2.b,i6 r.2.p]⟩)] tt'/\Fx tt' ss' [] []):=by
 refine Hs.partial_correctness  (motive:=fun a1 c0 r=>∀(e0:Nat)  (ss:Sto),Pre ss [(e0,⟨88,2,[sf cU c0.b,i6 c0.p]⟩)] []->Ctr KZ 61 [.ptr e0 0,.agg (K2 a1)] ss (fun r' ss'=>∃(tt':Sto),r'=.agg (K2 r.1)/\Tau (strip ss []) [(e0,⟨88,2,[sf cU r.2.b,i6 r.2.p]⟩)] tt'/\Fx tt' ss' [] [])) ?_
 ·intro Hs C0 a1 c0 r H;intro e0  ss hP;refine hdg mixed Tryz.func61 (rs:=[.cell 4 31]) fun q tT=>?_;obtain ⟨hF,hX⟩:=hP.start;generalize strip ss []=tt0 at hF hX ⊢;refine go ?_;refine X8 hF rfl fun b1 ss2 hF=>go ?_;refine X8 hF rfl fun b3 ss4 hF=>go ?_;obtain ⟨x8,hx8,H⟩:=bnd H;refine cx (DA a1 _ hx8   _ (pre 0 0 0 hF hX)) ?_;rintro _ s7 ⟨t8,v5,v6,rfl,hT,hG⟩;obtain ⟨tt9,hX,hF⟩:=aft 0 0 0 hF hX hT hG;refine go ?_;refine X8 hF rfl fun b10 s11 hF=>go ?_;refine st hF 0 rfl fun s12 hF=>?_;refine go ?_;refine gi q (fun q=>?_) (fun q=>?_)
  ·rw [if_pos (dt q)] at H;refine go ?_;obtain ⟨Mu,hx15_1,H⟩:=bnd H;refine cx (Ym 2 c0 _ hx15_1 e0  _ (pre 0 1 0 hF hX)) ?_;rintro _ s18 ⟨t19,rfl,hT,hG⟩;obtain ⟨tt20,hX,hF⟩:=aft 0 1 0 hF hX hT hG;refine go ?_;refine cdp H (fun h H=>go ?_) (fun h H=>go ?_)
   ·obtain ⟨x22,hx22,H⟩:=bnd H;refine cx (Ym (x8.kids.length:Int) Mu.2 _ hx22 e0  _ (pre 0 1 0 hF hX)) ?_;rintro _ s21 ⟨t22,rfl,hT,hG⟩;obtain ⟨t23,hX,hF⟩:=aft 0 1 0 hF hX hT hG;refine go ?_;obtain ⟨E,hEq⟩:∃E,E=EE s21 [e0]:=⟨_,rfl⟩
    have n24:¬E b10:=by rw [hEq];exact K5 (hF.at 0 rfl) (nm1 (neX hF 0 rfl hX 0 rfl))
    have n25:¬E b3:=by rw [hEq];exact K5 (hF.at 1 rfl) (nm1 (neX hF 1 rfl hX 0 rfl))
    have n26:¬E b1:=by rw [hEq];exact K5 (hF.at 2 rfl) (nm1 (neX hF 2 rfl hX 0 rfl))
    refine Yj E [.v,.v,.v,.v,.v,.v,.v,.v,.x,.x,.v,.z] (by kernel_rfl) ?_;have z:=K3 (X9 (hF.at 0 rfl) n24) (K3 (X9 (hF.at 1 rfl) n25) (X9 (hF.at 2 rfl) n26));refine gh ?_;obtain ⟨x30,hx30,H⟩:=bnd H;obtain ⟨b27,k28,hv⟩:=hF.ref 1 rfl hx30;subst hv
    try simp only [go_sem,↓reduceIte,Nat.reduceEqDiff,Nat.reduceAdd,Nat.reduceMul,Nat.reduceLeDiff,Nat.reduceLT,Int.reduceEq,Int.toNat_natCast,q,tT,hF.f,hF.m,hF.x hX,X9 (hF.at 0 rfl) n24,X9 (hF.at 1 rfl) n25,X9 (hF.at 2 rfl) n26,Qaq (l:=x8.kids) rfl hx30,Qfo hF 1 (p:=x22.1.toNat * 11) (sz:=11) (ag:=true) (k:=11) (o:=0) (g:=K2) (x:=x30) (i:=x22.1) (v:=(.agg [i6 x30.kind,i6 x30.id,.str x30.name,i6 x30.num,sf cI x30.ids,i6 x30.data.kind,.str x30.data.name,i6 x30.data.num,sf cI x30.data.sc,sf KY x30.data.kids,sf K2 x30.kids])) (by first | rfl | simp) Cor.X6 rfl hx30 (by decide) (by first | rfl | (simp only [sf,i6,zB,cI,cU,cS,cL,cB,Cor.Ya,Fm.Ya];rfl))]
    obtain ⟨x32,hx32,H⟩:=bnd H;refine cx (C0 x30 x22.2 _ hx32 e0  _ (pre 0 1 0 hF hX)) ?_;rintro _ s29 ⟨t30,rfl,hT,hG⟩
    refine AB (Za hT hG (by intro p hp;simp only [Kj,KC,or_false] at hp<;>first | (rcases hp with rfl<;>(rw [hEq];first | (refine Zd ?_;simp;done) | exact Ze rfl))| cases hp)) fun kp32=>?_
    obtain ⟨tt31,hX,hF⟩:=aft 0 1 0 hF hX hT hG;obtain ⟨x33,hx33,H⟩:=bnd H
    try simp only [go_sem,↓reduceIte,Nat.reduceEqDiff,Nat.reduceAdd,Nat.reduceMul,Nat.reduceLeDiff,Nat.reduceLT,Int.reduceEq,Int.toNat_natCast,q,tT,hF.f,hF.m,hF.x hX,X9 (hF.at 0 rfl) n24,X9 (hF.at 1 rfl) n25,X9 (hF.at 2 rfl) n26,Qaq (l:=x8.kids) ((Qb0 hF 1 rfl).1.trans (Hf _)) hx33]
    refine Qoh hF 1 (o:=0) (sz:=11) (k:=11) (v:=(.agg [i6 x32.1.kind,i6 x32.1.id,.str x32.1.name,i6 x32.1.num,sf cI x32.1.ids,i6 x32.1.data.kind,.str x32.1.data.name,i6 x32.1.data.num,sf cI x32.1.data.sc,sf KY x32.1.data.kids,sf K2 x32.1.kids])) (cs:=[i6 x32.1.kind,i6 x32.1.id,.str x32.1.name,i6 x32.1.num,sf cI x32.1.ids,i6 x32.1.data.kind,.str x32.1.data.name,i6 x32.1.data.num,sf cI x32.1.data.sc,sf KY x32.1.data.kids,sf K2 x32.1.kids]) (g:=K2) (i:=x22.1) x32.1 Cor.X6 (by first | rfl | simp) rfl hx33 rfl rfl (by decide) (by first | rfl | simp [Df,cI,cU,cS,cL,cB,Cor.Ya,Fm.Ya]) fun s33 hF=>?_;have hF:Fx tt31 s33 [(b10,⟨31,11,[i6 x8.kind,i6 x8.id,.str x8.name,i6 x8.num,v5,i6 x8.data.kind,.str x8.data.name,i6 x8.data.num,sf cI x8.data.sc,sf KY x8.data.kids,.ref b27 x8.kids.length k28]⟩),(b3,⟨31,11,[i6 0,i6 0,.str zB,i6 0,.X4,i6 0,.str zB,i6 0,.X4,.X4,.X4]⟩),(b1,⟨31,11,[i6 a1.kind,i6 a1.id,.str a1.name,i6 a1.num,sf cI a1.ids,i6 a1.data.kind,.str a1.data.name,i6 a1.data.num,sf cI a1.data.sc,sf KY a1.data.kids,sf K2 a1.kids]⟩)] [⟨v5,3,1,rws cI x8.ids⟩,⟨.ref b27 x8.kids.length k28,31,11,rws K2 (x8.kids.set x22.1.toNat x32.1)⟩]:=hF;have z:=K3 (X9 (hF.at 0 rfl) n24) (K3 (X9 (hF.at 1 rfl) n25) (X9 (hF.at 2 rfl) n26));refine gh ?_;refine go ?_;refine st hF 1 rfl fun s34 hF=>?_;refine go ?_;cases pur H;exact rg _ ⟨_,rfl,hX,K1 _⟩
   ·obtain ⟨x36,hx36,H⟩:=bnd H;refine cx (Ym 12 Mu.2 _ hx36 e0  _ (pre 0 1 0 hF hX)) ?_;rintro _ s35 ⟨t36,rfl,hT,hG⟩;obtain ⟨tt37,hX,hF⟩:=aft 0 1 0 hF hX hT hG;refine go ?_;refine cdp H (fun h H=>go ?_) (fun h H=>go ?_)
    ·obtain ⟨x41,hx41,H⟩:=bnd H;refine cx (YI [0,8,3,6] x36.2 _ hx41 e0  _ (pre 0 1 0 hF hX)) ?_;rintro _ s38 ⟨t39,rfl,hT,hG⟩;obtain ⟨t40,hX,hF⟩:=aft 0 1 0 hF hX hT hG;refine go ?_;refine st hF 0 rfl fun s41 hF=>?_;refine go ?_;refine st hF 1 rfl fun s42 hF=>?_;refine go ?_;cases pur H;exact rg _ ⟨_,rfl,hX,K1 _⟩
    ·refine cdp H (fun h H=>go ?_) (fun h H=>go ?_)
     ·obtain ⟨x47,hx47,H⟩:=bnd H;refine cx (YI [0,1,1000,2] x36.2 _ hx47 e0  _ (pre 0 1 0 hF hX)) ?_;rintro _ s43 ⟨t44,rfl,hT,hG⟩;obtain ⟨t45,hX,hF⟩:=aft 0 1 0 hF hX hT hG;refine go ?_;refine st hF 0 rfl fun s46 hF=>?_;refine go ?_;refine st hF 1 rfl fun s47 hF=>?_;refine go ?_;cases pur H;exact rg _ ⟨_,rfl,hX,K1 _⟩
     ·refine cdp H (fun h H=>go ?_) (fun h H=>go ?_)
      ·obtain ⟨E,hEq⟩:∃E,E=EE s35 [e0]:=⟨_,rfl⟩
       have n48:¬E b10:=by rw [hEq];exact K5 (hF.at 0 rfl) (nm1 (neX hF 0 rfl hX 0 rfl))
       have n49:¬E b3:=by rw [hEq];exact K5 (hF.at 1 rfl) (nm1 (neX hF 1 rfl hX 0 rfl))
       have n50:¬E b1:=by rw [hEq];exact K5 (hF.at 2 rfl) (nm1 (neX hF 2 rfl hX 0 rfl))
       refine Yj E [.v,.v,.v,.v,.x,.v,.x,.v,.z] (by kernel_rfl) ?_;have z:=K3 (X9 (hF.at 0 rfl) n48) (K3 (X9 (hF.at 1 rfl) n49) (X9 (hF.at 2 rfl) n50));refine gh ?_;obtain ⟨x55,hx55,H⟩:=bnd H;refine cx (YI [1,900,0] x36.2 _ hx55 e0  _ (pre 0 1 0 hF hX)) ?_;rintro _ s51 ⟨t52,rfl,hT,hG⟩
       refine AB (Za hT hG (by intro p hp;simp only [Kj,KC,or_false] at hp<;>first | (rcases hp with rfl<;>(rw [hEq];first | (refine Zd ?_;simp;done) | exact Ze rfl))| cases hp)) fun kp54=>?_
       obtain ⟨tt53,hX,hF⟩:=aft 0 1 0 hF hX hT hG;have z:=K3 (X9 (hF.at 0 rfl) n48) (K3 (X9 (hF.at 1 rfl) n49) (X9 (hF.at 2 rfl) n50));refine gh ?_;refine NN (g:=cI) hF 0 H (rdo (c:=true) (g:=cI) (fun _=>rfl)) fun x57 H v55 s56 hF=>?_;have z:=K3 (X9 (hF.at 0 rfl) n48) (K3 (X9 (hF.at 1 rfl) n49) (X9 (hF.at 2 rfl) n50));refine gh ?_;refine st hF 0 (hF.cells 0 rfl) fun s57 hF=>?_;have z:=K3 (X9 (hF.at 0 rfl) n48) (K3 (X9 (hF.at 1 rfl) n49) (X9 (hF.at 2 rfl) n50));refine gh ?_;refine go ?_;refine st hF 1 rfl fun s58 hF=>?_;refine go ?_;cases pur H;exact rg _ ⟨_,rfl,hX,K1 _⟩
      ·refine cdp H (fun h H=>go ?_) (fun h H=>go ?_)
       ·obtain ⟨x63,hx63,H⟩:=bnd H;refine cx (Wr [zB,(Qk #[103]),(Qk #[65])] x36.2 _ hx63 e0  _ (pre 0 1 0 hF hX)) ?_;rintro _ s59 ⟨t60,rfl,hT,hG⟩;obtain ⟨t61,hX,hF⟩:=aft 0 1 0 hF hX hT hG;refine go ?_;refine st hF 0 rfl fun s62 hF=>?_;refine go ?_;refine st hF 1 rfl fun s63 hF=>?_;refine go ?_;cases pur H;exact rg _ ⟨_,rfl,hX,K1 _⟩
       ·refine st hF 1 rfl fun s64 hF=>?_;refine go ?_;cases pur H;exact rg _ ⟨_,rfl,hX,K1 _⟩
  ·rw [if_neg (df q)] at H;refine go ?_;obtain ⟨Dg,hx36_1,H⟩:=bnd H;refine cx (Ym 12 c0 _ hx36_1 e0  _ (pre 0 1 0 hF hX)) ?_;rintro _ s65 ⟨t66,rfl,hT,hG⟩;obtain ⟨t67,hX,hF⟩:=aft 0 1 0 hF hX hT hG;refine go ?_;refine cdp H (fun h H=>go ?_) (fun h H=>go ?_)
   ·obtain ⟨Lt,hx41_1,H⟩:=bnd H;refine cx (YI [0,8,3,6] Dg.2 _ hx41_1 e0  _ (pre 0 1 0 hF hX)) ?_;rintro _ s68 ⟨t69,rfl,hT,hG⟩;obtain ⟨tt70,hX,hF⟩:=aft 0 1 0 hF hX hT hG;refine go ?_;refine st hF 0 rfl fun s71 hF=>?_;refine go ?_;refine st hF 1 rfl fun s72 hF=>?_;refine go ?_;cases pur H;exact rg _ ⟨_,rfl,hX,K1 _⟩
   ·refine cdp H (fun h H=>go ?_) (fun h H=>go ?_)
    ·obtain ⟨Ql0,hx47_1,H⟩:=bnd H;refine cx (YI [0,1,1000,2] Dg.2 _ hx47_1 e0  _ (pre 0 1 0 hF hX)) ?_;rintro _ s73 ⟨t74,rfl,hT,hG⟩;obtain ⟨tt75,hX,hF⟩:=aft 0 1 0 hF hX hT hG;refine go ?_;refine st hF 0 rfl fun s76 hF=>?_;refine go ?_;refine st hF 1 rfl fun s77 hF=>?_;refine go ?_;cases pur H;exact rg _ ⟨_,rfl,hX,K1 _⟩
    ·refine cdp H (fun h H=>go ?_) (fun h H=>go ?_)
     ·obtain ⟨E,hEq⟩:∃E,E=EE s65 [e0]:=⟨_,rfl⟩
      have n78:¬E b10:=by rw [hEq];exact K5 (hF.at 0 rfl) (nm1 (neX hF 0 rfl hX 0 rfl))
      have n79:¬E b3:=by rw [hEq];exact K5 (hF.at 1 rfl) (nm1 (neX hF 1 rfl hX 0 rfl))
      have n80:¬E b1:=by rw [hEq];exact K5 (hF.at 2 rfl) (nm1 (neX hF 2 rfl hX 0 rfl))
      refine Yj E [.v,.v,.v,.v,.x,.v,.x,.v,.z] (by kernel_rfl) ?_;have z:=K3 (X9 (hF.at 0 rfl) n78) (K3 (X9 (hF.at 1 rfl) n79) (X9 (hF.at 2 rfl) n80));refine gh ?_;obtain ⟨Qp7,hx55_1,H⟩:=bnd H;refine cx (YI [1,900,0] Dg.2 _ hx55_1 e0  _ (pre 0 1 0 hF hX)) ?_;rintro _ s81 ⟨t82,rfl,hT,hG⟩
      refine AB (Za hT hG (by intro p hp;simp only [Kj,KC,or_false] at hp<;>first | (rcases hp with rfl<;>(rw [hEq];first | (refine Zd ?_;simp;done) | exact Ze rfl))| cases hp)) fun kp84=>?_
      obtain ⟨t83,hX,hF⟩:=aft 0 1 0 hF hX hT hG;have z:=K3 (X9 (hF.at 0 rfl) n78) (K3 (X9 (hF.at 1 rfl) n79) (X9 (hF.at 2 rfl) n80));refine gh ?_;refine NN (g:=cI) hF 0 H (rdo (c:=true) (g:=cI) (fun _=>rfl)) fun Qal H v85 s86 hF=>?_;have z:=K3 (X9 (hF.at 0 rfl) n78) (K3 (X9 (hF.at 1 rfl) n79) (X9 (hF.at 2 rfl) n80));refine gh ?_;refine st hF 0 (hF.cells 0 rfl) fun s87 hF=>?_;have z:=K3 (X9 (hF.at 0 rfl) n78) (K3 (X9 (hF.at 1 rfl) n79) (X9 (hF.at 2 rfl) n80));refine gh ?_;refine go ?_;refine st hF 1 rfl fun s88 hF=>?_;refine go ?_;cases pur H;exact rg _ ⟨_,rfl,hX,K1 _⟩
     ·refine cdp H (fun h H=>go ?_) (fun h H=>go ?_)
      ·obtain ⟨Ql6,hx63_1,H⟩:=bnd H;refine cx (Wr [zB,(Qk #[103]),(Qk #[65])] Dg.2 _ hx63_1 e0  _ (pre 0 1 0 hF hX)) ?_;rintro _ s89 ⟨t90,rfl,hT,hG⟩;obtain ⟨t91,hX,hF⟩:=aft 0 1 0 hF hX hT hG;refine go ?_;refine st hF 0 rfl fun s92 hF=>?_;refine go ?_;refine st hF 1 rfl fun s93 hF=>?_;refine go ?_;cases pur H;exact rg _ ⟨_,rfl,hX,K1 _⟩
      ·refine st hF 1 rfl fun s94 hF=>?_;refine go ?_;cases pur H;exact rg _ ⟨_,rfl,hX,K1 _⟩
theorem E9:∀(a0:List Int) r,A5 a0=some r->Y7 KZ 36 [sf cU a0] (.agg (K2 r)):=by
 intro a0 r H;intro ss;unfold A5 at H;refine hdh mixed Tryz.func36 (rs:=[.cell 2 31]) fun q tT hF hX=>?_;refine go ?_;refine X8 hF rfl fun b1 ss2 hF=>go ?_;obtain ⟨x7,hx7,H⟩:=bnd H;refine cx (El a0 _ hx7   _ (pre 0 0 0 hF hX)) ?_;rintro _ ss4 ⟨tt5,b3,rfl,hT,hG⟩;have nw7:ss2.var b3=none:=(hT.off b3 (by simp)).symm.trans (hG.var _ (List.mem_cons_self ..)).2.1;have hF:=Pm 0 0 hF hX hT hG;refine go ?_;obtain ⟨x13,hx13,H⟩:=bnd H;refine cx (YI [3,4,2] x7 _ hx13 b3  _ (pre 1 0 0 hF hX)) ?_;rintro _ s8 ⟨tt9,rfl,hT,hG⟩;have hF:=Pm 1 0 hF hX hT hG;refine go ?_;obtain ⟨x14,hx14,H⟩:=bnd H;refine cx (PX [] x13.1 0 x13.2 _ hx14 b3  _ (pre 1 0 0 hF hX)) ?_;rintro _ s11 ⟨t12,rfl,hT,hG⟩;have hF:=Pm 1 0 hF hX hT hG;refine go ?_;refine X8 hF rfl fun b14 s15 hF=>go ?_;refine st hF 0 rfl fun s16 hF=>?_;refine go ?_;have hF:=pck hF [1,0,2] [];obtain ⟨x18,hx18,H⟩:=bnd H;refine cx (Ym 8 x14.2.2 _ hx18 b3  _ (pre 1 0 0 hF hX)) ?_;rintro _ s17 ⟨t18,rfl,hT,hG⟩;have hF:=Pm 1 0 hF hX hT hG;refine go ?_;refine cdp H (fun h H=>go ?_) (fun h H=>go ?_)
 ·obtain ⟨x23,hx23,H⟩:=bnd H;refine cx (DK x14.1 x18.2 _ hx23 b3  _ (pre 1 0 0 hF hX)) ?_;rintro _ s20 ⟨t21,rfl,hT,hG⟩;have hF:=Pm 1 0 hF hX hT hG;refine go ?_;obtain ⟨x24,hx24,H⟩:=bnd H;refine cx (DK x23.1 x23.2 _ hx24 b3  _ (pre 1 0 0 hF hX)) ?_;rintro _ s23 ⟨t24,rfl,hT,hG⟩;have hF:=Pm 1 0 hF hX hT hG;refine go ?_;refine st hF 2 rfl fun s26 hF=>?_;refine go ?_;cases pur H;exact rt _
 ·refine st hF 2 rfl fun s27 hF=>?_;refine go ?_;cases pur H;exact rt _
theorem OP:∀  r,Cv  = some r->Y7 KZ 64 [] (sf cS r):=by
 intro  r H;intro ss;unfold Cv at H;refine hdh mixed Tryz.func64 (rs:=[.tmp 0]) fun q tT hF hX=>?_;refine goL ?_;cases pur H;exact rt _
theorem L4:∀(a0:ByteArray) (Hu:Int) out,GB a0 Hu=some out->∀c,Yf Tryz.f125 0=some c->∀(Q:QT) (tt:Sto),(∀(NX:Int),out=NX->∀(T:TT) (ss:Sto),T 1=i6 NX->Fx tt ss [] []->Q (.ex 0) ⟨T,ss⟩)->True->∀(T:TT) (ss:Sto),T 0=.str a0/\T 1=i6 Hu->Fx tt ss [] []->aLp KZ c Q ⟨T,ss⟩:=by
 intro a0 Hu;revert Hu;refine GB.partial_correctness a0 _ ?_;intro GB IH Hu out H c hc Q tt  hE hR T ss tT hF;refine lpx tt hc rfl fun q hX=>go ?_;obtain ⟨x14,g1,H⟩:=bnd H;refine Yb 4 10 14 (.bool x14) (gi q (fun q=>?_) (fun q=>?_)) (fun J=>go ?_)
 ·rw [if_pos (dt q)] at g1;obtain ⟨x12,f1,g1⟩:=bsx g1;refine go1 ?_;refine go ?_;exact Yq 10 g1
 ·rw [if_neg (df q)] at g1;refine go ?_;exact Yq 10 g1
 refine cdb H (fun h H=>go ?_) (fun h H=>go ?_)
 ·exact IH  (i64.wrap (Hu+1)) _ H _ rfl Q tt  hE hR _ _  S hF
 ·exact wq (hE _ (pur H).symm _ _  S hF)
theorem Ba:∀(a0:ByteArray) (a1:Int) r,IJ a0 a1=some r->Y7 KZ 125 [.str a0,i6 a1] (i6 r):=by
 intro a0 a1 r H;intro ss;unfold IJ at H;refine hdh mixed Tryz.func125 (rs:=[.tmp 4]) fun q tT hF hX=>?_;refine go ?_;obtain ⟨o3,ho3,H⟩:=bnd H;refine L4 a0 a1 _ ho3 _ rfl _ _  ?_ ?_ _ _  S hF
 ·intro Qnw he T5 ss6 tT hF;have he:=he.symm;subst he;refine go ?_;cases pur H;exact rt _
 ·trivial
theorem L5:∀(a0:ByteArray) (Hu:Int) out,GC a0 Hu=some out->∀c,Yf Tryz.f170 0=some c->∀(Q:QT) (tt:Sto),(∀(NX:Int),out=NX->∀(T:TT) (ss:Sto),T 1=i6 NX->Fx tt ss [] []->Q (.ex 0) ⟨T,ss⟩)->True->∀(T:TT) (ss:Sto),T 0=.str a0/\T 1=i6 Hu->Fx tt ss [] []->aLp KZ c Q ⟨T,ss⟩:=by
 intro a0 Hu;revert Hu;refine GC.partial_correctness a0 _ ?_;intro GC IH Hu out H c hc Q tt  hE hR T ss tT hF;refine lpx tt hc rfl fun q hX=>go ?_;obtain ⟨x14,g1,H⟩:=bnd H;refine Yb 4 10 14 (.bool x14) (gi q (fun q=>?_) (fun q=>?_)) (fun J=>go ?_)
 ·rw [if_pos (dt q)] at g1;obtain ⟨x12,f1,g1⟩:=bsx g1;refine go1 ?_;refine go ?_;exact Yq 10 g1
 ·rw [if_neg (df q)] at g1;refine go ?_;exact Yq 10 g1
 obtain ⟨x20,g3,H⟩:=bnd H;refine Yb 4 16 20 (.bool x20) (gi q (fun q=>?_) (fun q=>?_)) (fun J=>go ?_)
 ·rw [if_pos (dbt q)] at g3;obtain ⟨x18,f1,g3⟩:=bsx g3;refine go1 ?_;refine go ?_;exact Yq 16 g3
 ·rw [if_neg (dbf q)] at g3;refine go ?_;exact Yq 16 g3
 obtain ⟨x26,g5,H⟩:=bnd H;refine Yb 4 22 26 (.bool x26) (gi q (fun q=>?_) (fun q=>?_)) (fun J=>go ?_)
 ·rw [if_pos (dbt q)] at g5;obtain ⟨x24,f1,g5⟩:=bsx g5;refine go1 ?_;refine go ?_;exact Yq 22 g5
 ·rw [if_neg (dbf q)] at g5;refine go ?_;exact Yq 22 g5
 obtain ⟨x32,g7,H⟩:=bnd H;refine Yb 4 28 32 (.bool x32) (gi q (fun q=>?_) (fun q=>?_)) (fun J=>go ?_)
 ·rw [if_pos (dbt q)] at g7;obtain ⟨x30,f1,g7⟩:=bsx g7;refine go1 ?_;refine go ?_;exact Yq 28 g7
 ·rw [if_neg (dbf q)] at g7;refine go ?_;exact Yq 28 g7
 refine cdb H (fun h H=>go ?_) (fun h H=>go ?_)
 ·exact IH  (i64.wrap (Hu+1)) _ H _ rfl Q tt  hE hR _ _  S hF
 ·exact wq (hE _ (pur H).symm _ _  S hF)
theorem PH:∀(a0:ByteArray) (a1:Int) r,BU a0 a1=some r->Y7 KZ 170 [.str a0,i6 a1] (i6 r):=by
 intro a0 a1 r H;intro ss;unfold BU at H;refine hdh mixed Tryz.func170 (rs:=[.tmp 4]) fun q tT hF hX=>?_;refine go ?_;obtain ⟨o9,ho9,H⟩:=bnd H;refine L5 a0 a1 _ ho9 _ rfl _ _  ?_ ?_ _ _  S hF
 ·intro Qgu he T11 s12 tT hF;have he:=he.symm;subst he;refine go ?_;cases pur H;exact rt _
 ·trivial
theorem LY:∀(x14:Bool) (DD:ByteArray) (Yh Yy:Int) out,Gq x14 DD Yh Yy=some out->∀c,Yf Tryz.f171 0=some c->∀(Q:QT) (tt:Sto),(∀(Tl:Int),out=Sum.inr Tl->∀(T:TT) (ss:Sto),T 4=.bool x14/\T 5=i6 Tl->Fx tt ss [] []->Q (.ex 0) ⟨T,ss⟩)->(∀r,out=Sum.inl r->∀s',I6 KZ [.tmp 2,.tmp 3] (fun r' ss'=>r'=.tup [i6 r.1,.bool r.2]/\ss'=tt) s'->Q .ret s')->∀(T:TT) (ss:Sto),T 0=.str DD/\T 4=.bool x14/\T 5=i6 Yh/\T 6=i6 Yy->Fx tt ss [] []->aLp KZ c Q ⟨T,ss⟩:=by
 intro x14 DD Yh Yy;revert Yh Yy;refine Gq.partial_correctness x14 DD _ ?_;intro Gq IH Yh Yy out H c hc Q tt  hE hR T ss tT hF;refine lpx tt hc rfl fun q hX=>go ?_;refine cdp H (fun h H=>?_) (fun h H=>go ?_)
 ·obtain ⟨x47,f1,H⟩:=bsx H;refine go1 ?_;obtain ⟨x54,g16,H⟩:=bnd H;refine Yb 4 50 54 (.bool x54) (giN q (fun q=>?_) (fun q=>?_)) (fun J=>go ?_)
  ·rw [if_neg (df q)] at g16;obtain ⟨x52,f1,g16⟩:=bsx g16;refine go1 ?_;refine go ?_;exact Yq 50 g16
  ·rw [if_pos (dt q)] at g16;refine go ?_;exact Yq 50 g16
  refine cdb H (fun h H=>go ?_) (fun h H=>?_)
  ·exact wq (hR _ (pur H).symm _ (rt _))
  ·obtain ⟨x59,f1,H⟩:=bsx H;refine go1 ?_;refine go ?_;exact IH  (i64.wrap ((i64.wrap (Yh * 10))+(i64.wrap (IntKind.u8.wrap (x59 - 48))))) (i64.wrap (Yy+1)) _ H _ rfl Q tt  hE hR _ _  S hF
 ·exact wq (hE _ (pur H).symm _ _  S hF)
theorem E5:∀(a0:ByteArray) r,A1 a0=some r->Y7 KZ 171 [.str a0] (.tup [i6 r.1,.bool r.2]):=by
 intro a0 r H;intro ss;unfold A1 at H;refine hdh mixed Tryz.func171 (rs:=[.tmp 2,.tmp 3]) fun q tT hF hX=>?_;refine go ?_;obtain ⟨x14,g1,H⟩:=bnd H;refine Yb 3 11 14 (.bool x14) (gi q (fun q=>?_) (fun q=>?_)) (fun J=>go ?_)
 ·rw [if_pos (dt q)] at g1;obtain ⟨x12,f1,g1⟩:=bsx g1;refine go1 ?_;refine go ?_;exact Yq 11 g1
 ·rw [if_neg (df q)] at g1;refine go ?_;exact Yq 11 g1
 obtain ⟨DD,j4,H⟩:=bnd H;refine V6 (fun s'=>∃(T:TT) (ss1:Sto),s'=⟨T,ss1⟩/\(T 0=.str DD/\T 4=.bool x14)/\Fx ss ss1 [] []) (cdb j4 (fun h j4=>?_) (fun h j4=>go ?_)) ?_
 ·obtain ⟨x17,f1,j4⟩:=bss (lo:=some (i6 1)) (hi:=none) rfl rfl j4;refine go1 ?_;refine go ?_;cases pur j4;exact ⟨_,_,rfl,S,hF⟩
 ·cases pur j4;exact ⟨_,_,rfl,S,hF⟩
 ·rintro s' ⟨T5,ss6,rfl,tT,hF⟩;refine go ?_;obtain ⟨x25,g8,H⟩:=bnd H;refine Yb 3 22 25 (.bool x25) (giN q (fun q=>go ?_) (fun q=>go ?_)) (fun J=>go ?_)
  ·exact Yq 22 g8
  ·exact Yq 22 g8
  obtain ⟨x38,g10,H⟩:=bnd H;refine Yb 11 27 38 (.bool x38) (giN q (fun q=>?_) (fun q=>?_)) (fun J=>go ?_)
  ·rw [if_neg (dbf q)] at g10;obtain ⟨x28,f1,g10⟩:=bsx g10;refine go1 ?_;obtain ⟨x37,g12,g10⟩:=bnd g10;refine Yb 6 31 37 (.bool x37) (gi q (fun q=>?_) (fun q=>?_)) (fun J=>go ?_)
   ·rw [if_pos (dt q)] at g12;refine go ?_;obtain ⟨x36,g14,g12⟩:=bnd g12;refine Yb 1 35 36 (.bool x36) (giN q (fun q=>go ?_) (fun q=>go ?_)) (fun J=>go ?_)
    ·exact Yq 35 g14
    ·exact Yq 35 g14
    exact Yq 31 g12
   ·rw [if_neg (df q)] at g12;refine go ?_;exact Yq 31 g12
   exact Yq 27 g10
  ·rw [if_pos (dbt q)] at g10;refine go ?_;exact Yq 27 g10
  refine cdb H (fun h H=>go ?_) (fun h H=>go ?_)
  ·cases pur H;exact rt _
  ·obtain ⟨o18,ho18,H⟩:=bnd H;refine LY x14 DD 0 0 _ ho18 _ rfl _ _  ?_ ?_ _ _  S hF
   ·intro Tp he T20 s21 tT hF;have he:=he.symm;subst he
    try dsimp only at H
    refine go ?_;refine cdb H (fun h H=>go ?_) (fun h H=>go ?_)
    ·cases pur H;exact rt _
    ·cases pur H;exact rt _
   ·intro r hr s' hs;subst hr;cases pur H;exact hsq hs
theorem LX:∀(a0:ByteArray) (a1:Int) (X7:List ByteArray) (Yy Yt:Int) out,JB a0 a1 X7 Yy Yt=some out->∀c,Yf Tryz.f189 0=some c->∀(Q:QT) (tt:Sto),(∀(YX:List ByteArray),out=YX->∀(T:TT) (ss:Sto) (e0v0:AV),T 5=e0v0->Fx tt ss [] [⟨e0v0,9,1,rws cS YX⟩]->Q (.ex 0) ⟨T,ss⟩)->True->∀(T:TT) (ss:Sto) (z0v0:AV),T 0=.str a0/\T 1=.int .u8 a1/\T 5=z0v0/\T 6=i6 Yy/\T 7=i6 Yt->Fx tt ss [] [⟨z0v0,9,1,rws cS X7⟩]->aLp KZ c Q ⟨T,ss⟩:=by
 intro a0 a1 X7 Yy Yt;revert X7 Yy Yt;refine JB.partial_correctness a0 a1 _ ?_;intro JB IH X7 Yy Yt out H c hc Q tt  hE hR T ss z0v0 tT hF;refine lpx tt hc rfl fun q hX=>go ?_;refine cdp H (fun h H=>go ?_) (fun h H=>go ?_)
 ·obtain ⟨x25,g1,H⟩:=bnd H;refine Yb 5 20 25 (.bool x25) (giN q (fun q=>?_) (fun q=>?_)) (fun J=>go ?_)
  ·rw [if_neg (df q)] at g1;obtain ⟨x22,f1,g1⟩:=bsx g1;refine go1 ?_;refine go ?_;exact Yq 20 g1
  ·rw [if_pos (dt q)] at g1;refine go ?_;exact Yq 20 g1
  refine cdb H (fun h H=>?_) (fun h H=>go ?_)
  ·obtain ⟨x30,f1,H⟩:=bss (lo:=some (i6 Yy)) (hi:=some (i6 Yt)) rfl rfl H;refine go1 ?_;refine apd (g:=cS) hF 0 H (rdo (c:=true) (g:=cS) (fun _=>rfl)) fun x32 H v3 ss4 hF=>go ?_;exact IH  x32 (i64.wrap (Yt+1)) (i64.wrap (Yt+1)) _ H _ rfl Q tt  hE hR _ _ v3 S hF
  ·exact IH  X7 Yy (i64.wrap (Yt+1)) _ H _ rfl Q tt  hE hR _ _ z0v0 S hF
 ·exact wq (hE _ (pur H).symm _ _ z0v0 S hF)
theorem PC:∀(a0:ByteArray) (a1:Int) r,BP a0 a1=some r->Y7 KZ 189 [.str a0,.int .u8 a1] (sf cS r):=by
 intro a0 a1 r H;intro ss;unfold BP at H;refine hdh mixed Tryz.func189 (rs:=[.tmp 4]) fun q tT hF hX=>?_;have hF:=hF.lit 9 1 (rws cS []) rfl;refine go ?_;obtain ⟨o5,ho5,H⟩:=bnd H;refine LX a0 a1 [] 0 0 _ ho5 _ rfl _ _  ?_ ?_ _ _ (.sl true (rws cS [])) S hF
 ·intro Qq5 he T7 s8 e6v0 tT hF;have he:=he.symm;subst he;refine go ?_;cases pur H;exact rt _
 ·trivial
theorem L2:∀(a0:ByteArray) (a1 Yt:Int) out,WM a0 a1 Yt=some out->∀c,Yf Tryz.f172 0=some c->∀(Q:QT) (tt:Sto),(∀(Qgt:Int),out=Qgt->∀(T:TT) (ss:Sto),T 0=.str a0/\T 1=i6 a1/\T 6=.sl true (rws cI [])/\T 7=i6 Qgt->Fx tt ss [] []->Q (.ex 0) ⟨T,ss⟩)->True->∀(T:TT) (ss:Sto),T 0=.str a0/\T 1=i6 a1/\T 6=.sl true (rws cI [])/\T 7=i6 Yt->Fx tt ss [] []->aLp KZ c Q ⟨T,ss⟩:=by
 intro a0 a1 Yt;revert Yt;refine WM.partial_correctness a0 a1 _ ?_;intro WM IH Yt out H c hc Q tt  hE hR T ss tT hF;refine lpx tt hc rfl fun q hX=>go ?_;obtain ⟨x35,g3,H⟩:=bnd H;refine Yb 4 31 35 (.bool x35) (gi q (fun q=>?_) (fun q=>?_)) (fun J=>go ?_)
 ·rw [if_pos (dt q)] at g3;obtain ⟨x33,f1,g3⟩:=bsx g3;refine go1 ?_;refine go ?_;exact Yq 31 g3
 ·rw [if_neg (df q)] at g3;refine go ?_;exact Yq 31 g3
 refine cdb H (fun h H=>go ?_) (fun h H=>go ?_)
 ·exact IH  (i64.wrap (Yt+1)) _ H _ rfl Q tt  hE hR _ _  S hF
 ·exact wq (hE _ (pur H).symm _ _  S hF)
theorem L3:∀(EN:Int) (x48:List ByteArray) (VZ:List Int) (HZ:Int) out,GA EN x48 VZ HZ=some out->∀c,Yf Tryz.f172 1=some c->∀(Q:QT) (tt:Sto),(∀(N1:List Int),out=Sum.inr N1->∀(T:TT) (ss:Sto) (e1v0:AV),T 6=e1v0/\T 7=i6 EN->Fx tt ss [] [⟨e1v0,3,1,rws cI N1⟩]->Q (.ex 2) ⟨T,ss⟩)->(∀r,out=Sum.inl r->∀s',I6 KZ [.tmp 4,.tmp 5] (fun r' ss'=>r'=.tup [sf cI r.1,i6 r.2]/\ss'=tt) s'->Q .ret s')->∀(T:TT) (ss:Sto) (z1v0:AV),T 6=z1v0/\T 7=i6 EN/\T 8=sf cS x48/\T 9=i6 HZ->Fx tt ss [] [⟨z1v0,3,1,rws cI VZ⟩]->aLp KZ c Q ⟨T,ss⟩:=by
 intro EN x48 VZ HZ;revert VZ HZ;refine GA.partial_correctness EN x48 _ ?_;intro GA IH VZ HZ out H c hc Q tt  hE hR T ss z1v0 tT hF;refine lpx tt hc rfl fun q hX=>go ?_;obtain ⟨x56,g10,H⟩:=bnd H;refine Yb 2 54 56 (.bool x56) (gi q (fun q=>go ?_) (fun q=>go ?_)) (fun J=>go ?_)
 ·exact Yq 54 g10
 ·exact Yq 54 g10
 refine cdb H (fun h H=>?_) (fun h H=>go ?_)
 ·obtain ⟨x62,f1,H⟩:=bil (g:=cS) (fun _=>rfl) H;refine go1 ?_;refine bp H (E5 x62) fun x64 h H=>cl h (go ?_);refine cdb H (fun h H=>go ?_) (fun h H=>go ?_)
  ·exact wq (hR _ (pur H).symm _ (rt _))
  ·refine apd (g:=cI) hF 0 H (rdo (c:=true) (g:=cI) (fun _=>rfl)) fun x73 H v12 s13 hF=>go ?_;exact IH  x73 (i64.wrap (HZ+1)) _ H _ rfl Q tt  hE hR _ _ v12 S hF
 ·exact wq (hE _ (pur H).symm _ _ z1v0 S hF)
theorem PG:∀(a0:ByteArray) (a1:Int) r,BT a0 a1=some r->Y7 KZ 172 [.str a0,i6 a1] (.tup [sf cI r.1,i6 r.2]):=by
 intro a0 a1 r H;intro ss;unfold BT at H;refine hdh mixed Tryz.func172 (rs:=[.tmp 4,.tmp 5]) fun q tT hF hX=>?_;refine go ?_;obtain ⟨x22,g1,H⟩:=bnd H;refine Yb 4 18 22 (.bool x22) (giN q (fun q=>?_) (fun q=>?_)) (fun J=>go ?_)
 ·rw [if_neg (df q)] at g1;obtain ⟨x20,f1,g1⟩:=bsx g1;refine go1 ?_;refine go ?_;exact Yq 18 g1
 ·rw [if_pos (dt q)] at g1;refine go ?_;exact Yq 18 g1
 refine cdb H (fun h H=>go ?_) (fun h H=>go ?_)
 ·cases pur H;exact rt _
 ·obtain ⟨o5,ho5,H⟩:=bnd H;refine L2 a0 a1 a1 _ ho5 _ rfl _ _  ?_ ?_ _ _  S hF
  ·intro EN he T7 s8 tT hF;have he:=he.symm;subst he;refine go ?_;refine cdp H (fun h H=>go ?_) (fun h H=>?_)
   ·cases pur H;exact rt _
   ·obtain ⟨x47,f1,H⟩:=bss (lo:=some (i6 (i64.wrap (a1+1)))) (hi:=some (i6 EN)) rfl rfl H;refine go1 ?_;refine bp H (PC x47 44) fun x48 h H=>cl h ?_;have hF:=hF.lit 3 1 (rws cI []) rfl;refine go ?_;obtain ⟨o14,ho14,H⟩:=bnd H;refine L3 EN x48 [] 0 _ ho14 _ rfl _ _  ?_ ?_ _ _ (.sl true (rws cI [])) S hF
    ·intro Jm he T16 s17 e15v0 tT hF;have he:=he.symm;subst he
     try dsimp only at H
     refine go ?_;cases pur H;exact rt _
    ·intro r hr s' hs;subst hr;cases pur H;exact hsq hs
  ·trivial
theorem PD:∀(a0:ByteArray) (a1:Int) r,BQ a0 a1=some r->Y7 KZ 144 [.str a0,i6 a1] (.tup [.agg (KY r.1),i6 r.2]):=by
 intro a0 a1 r H;intro ss;unfold BQ at H;refine hdh mixed Tryz.func144 (rs:=[.cell 4 26,.tmp 5]) fun q tT hF hX=>?_;refine go ?_;refine X8 hF rfl fun b1 ss2 hF=>go ?_;refine bp H (PH a0 a1) fun x14 h H=>cl h ?_;obtain ⟨x18,f1,H⟩:=bss (lo:=some (i6 a1)) (hi:=some (i6 x14)) rfl rfl H;refine go1 ?_;refine go ?_;refine bp H (E5 x18) fun x21 h H=>cl h (go ?_);refine cdb H (fun h H=>go ?_) (fun h H=>go ?_)
 ·refine st hF 0 rfl fun ss3 hF=>?_;refine go ?_;cases pur H;exact rt _
 ·refine cdp H (fun h H=>go ?_) (fun h H=>go ?_)
  ·refine st hF 0 rfl fun ss4 hF=>?_;refine go ?_;cases pur H;exact rt _
  ·refine bp H (PG a0 x14) fun x34 h H=>cl h (go ?_);refine st hF 0 rfl fun ss5 hF=>?_;refine go ?_;cases pur H;exact rt _
theorem PF:∀(a0:ByteArray) (a1 a2:Int) r,II a0 a1 a2=some r->Y7 KZ 124 [.str a0,i6 a1,i6 a2] (.tup [.agg (KY r.1),i6 r.2]):=by
 intro a0 a1 a2;revert a1 a2;refine II.partial_correctness a0 (motive_1:=fun a1 a2 r=>Y7 KZ 124 [.str a0,i6 a1,i6 a2] (.tup [.agg (KY r.1),i6 r.2])) (motive_2:=fun a2 X7 Hu out=>∀c,Yf Tryz.f124 0=some c->∀(Q:QT) (tt:Sto) (b1 b7:Nat),(∀(YX:List Fm) (NX:Int),out=Sum.inr (YX,NX)->∀(T:TT) (ss:Sto) (e0v0:AV),T 0=.str a0/\T 1=i6 NX/\T 6=.ptr b1 0/\T 8=.ptr b7 0->Fx tt ss [(b7,⟨26,5,[i6 3,.str zB,i6 0,.X4,e0v0]⟩),(b1,⟨26,5,[i6 0,.str zB,i6 0,.X4,.X4]⟩)] [⟨e0v0,26,5,rws KY YX⟩]->Q (.ex 0) ⟨T,ss⟩)->(∀r,out=Sum.inl r->∀s',I6 KZ [.cell 6 26,.tmp 7] (fun r' ss'=>r'=.tup [.agg (KY r.1),i6 r.2]/\ss'=tt) s'->Q .ret s')->∀(T:TT) (ss:Sto) (z0v0:AV),T 0=.str a0/\T 1=i6 Hu/\T 2=i6 a2/\T 6=.ptr b1 0/\T 8=.ptr b7 0->Fx tt ss [(b7,⟨26,5,[i6 3,.str zB,i6 0,.X4,z0v0]⟩),(b1,⟨26,5,[i6 0,.str zB,i6 0,.X4,.X4]⟩)] [⟨z0v0,26,5,rws KY X7⟩]->aLp KZ c Q ⟨T,ss⟩) ?_ ?_
 ·intro Iu L0 a1 a2 r H;intro ss;refine hdh mixed Tryz.func124 (rs:=[.cell 6 26,.tmp 7]) fun q tT hF hX=>?_;refine go ?_;refine X8 hF rfl fun b1 ss2 hF=>go ?_;refine bp H (Ba a0 a1) fun x13 h H=>cl h (go ?_);obtain ⟨x21,g3,H⟩:=bnd H;refine Yb 2 19 21 (.bool x21) (giN q (fun q=>go ?_) (fun q=>go ?_)) (fun J=>go ?_)
  ·exact Yq 19 g3
  ·exact Yq 19 g3
  refine cdb H (fun h H=>go ?_) (fun h H=>?_)
  ·refine st hF 0 rfl fun ss5 hF=>?_;refine go ?_;cases pur H;exact rt _
  ·obtain ⟨x25,f1,H⟩:=bsx H;refine go1 ?_;refine go ?_;refine cdn H (fun h H=>go ?_) (fun h H=>go ?_)
   ·refine bp H (PD a0 x13) fun x29 h H=>cl h (go ?_);refine st hF 0 rfl fun ss6 hF=>?_;refine go ?_;cases pur H;exact rt _
   ·refine X8 hF rfl fun b7 s8 hF=>go ?_;refine st hF 0 rfl fun s9 hF=>?_;refine go ?_;obtain ⟨x36,hx36,H⟩:=bnd H;refine cl (Ba a0 (i64.wrap (x13+1)) _ hx36) ?_;have hF:=hF.nil 26 5;refine go ?_;obtain ⟨o21,ho21,H⟩:=bnd H;refine L0 a2 [] x36 _ ho21 _ rfl _ _ b1 b7 ?_ ?_ _ _ .X4 S hF
    ·intro DG Tq he T23 s24 e22v0 tT hF;have he:=he.symm;subst he
     try dsimp only at H
     refine go ?_;obtain ⟨x82,g26,H⟩:=bnd H;refine Yb 4 78 82 (.bool x82) (giN q (fun q=>?_) (fun q=>?_)) (fun J=>go ?_)
     ·rw [if_neg (df q)] at g26;obtain ⟨x80,f1,g26⟩:=bsx g26;refine go1 ?_;refine go ?_;exact Yq 78 g26
     ·rw [if_pos (dt q)] at g26;refine go ?_;exact Yq 78 g26
     refine cdb H (fun h H=>go ?_) (fun h H=>go ?_)
     ·refine st hF 1 rfl fun s28 hF=>?_;refine go ?_;cases pur H;exact rt _
     ·refine st hF 1 rfl fun s29 hF=>?_;refine go ?_;cases pur H;exact rt _
    ·intro r hr s' hs;subst hr;cases pur H;exact hsq hs
 ·intro II Iu C0 L0 a2 X7 Hu out H c hc Q tt b1 b7 hE hR T ss z0v0 tT hF;refine lpx tt hc rfl fun q hX=>go ?_;obtain ⟨x46,g10,H⟩:=bnd H;refine Yb 4 42 46 (.bool x46) (gi q (fun q=>?_) (fun q=>?_)) (fun J=>go ?_)
  ·rw [if_pos (dt q)] at g10;obtain ⟨x44,f1,g10⟩:=bsx g10;refine go1 ?_;refine go ?_;exact Yq 42 g10
  ·rw [if_neg (df q)] at g10;refine go ?_;exact Yq 42 g10
  obtain ⟨x52,g12,H⟩:=bnd H;refine Yb 4 48 52 (.bool x52) (gi q (fun q=>go ?_) (fun q=>go ?_)) (fun J=>go ?_)
  ·exact Yq 48 g12
  ·exact Yq 48 g12
  refine cdb H (fun h H=>go ?_) (fun h H=>go ?_)
  ·obtain ⟨x58,hx58,H⟩:=bnd H;refine cl (C0 Hu (i64.wrap (a2 - 1)) _ hx58) (go ?_);refine X8 hF rfl fun b14 s15 hF=>go ?_;refine st hF 0 rfl fun s16 hF=>?_;refine go ?_;refine cdp H (fun h H=>go ?_) (fun h H=>go ?_)
   ·refine st hF 2 rfl fun s17 hF=>?_;refine go ?_;exact wq (hR _ (pur H).symm _ (rt _))
   ·refine apd (g:=KY) hF 0 H (rdo (c:=true) (g:=KY) Fm.X6) fun x68 H v18 s19 hF=>go ?_;refine st hF 1 (hF.cells 0 rfl) fun s20 hF=>?_;refine go ?_;refine bp H (Ba a0 x58.2) fun x72 h H=>cl h (go ?_);exact L0 a2 x68 x72 _ H _ rfl Q tt b1 b7 hE hR _ _ v18 S (hF.drop 1 0)
  ·exact wq (hE _ _ (pur H).symm _ _ z0v0 S hF)
theorem MX:∀(a0:Int) (a1:Bool) r,H9 a0 a1=some r->Y7 KZ 113 [.int .u8 a0,.bool a1] (.bool r):=by
 intro a0 a1 r H;intro ss;unfold H9 at H;refine hdh mixed Tryz.func113 (rs:=[.tmp 4]) fun q tT hF hX=>?_;refine go ?_;obtain ⟨x10,g1,H⟩:=bnd H;refine Yb 2 8 10 (.bool x10) (gi q (fun q=>go ?_) (fun q=>go ?_)) (fun J=>go ?_)
 ·exact Yq 8 g1
 ·exact Yq 8 g1
 obtain ⟨x14,g3,H⟩:=bnd H;refine Yb 2 12 14 (.bool x14) (giN q (fun q=>go ?_) (fun q=>go ?_)) (fun J=>go ?_)
 ·exact Yq 12 g3
 ·exact Yq 12 g3
 obtain ⟨x18,g5,H⟩:=bnd H;refine Yb 2 16 18 (.bool x18) (giN q (fun q=>go ?_) (fun q=>go ?_)) (fun J=>go ?_)
 ·exact Yq 16 g5
 ·exact Yq 16 g5
 obtain ⟨x22,g7,H⟩:=bnd H;refine Yb 2 20 22 (.bool x22) (giN q (fun q=>go ?_) (fun q=>go ?_)) (fun J=>go ?_)
 ·exact Yq 20 g7
 ·exact Yq 20 g7
 obtain ⟨x26,g9,H⟩:=bnd H;refine Yb 2 24 26 (.bool x26) (giN q (fun q=>go ?_) (fun q=>go ?_)) (fun J=>go ?_)
 ·exact Yq 24 g9
 ·exact Yq 24 g9
 obtain ⟨x30,g11,H⟩:=bnd H;refine Yb 2 28 30 (.bool x30) (giN q (fun q=>go ?_) (fun q=>go ?_)) (fun J=>go ?_)
 ·exact Yq 28 g11
 ·exact Yq 28 g11
 refine cdb H (fun h H=>go ?_) (fun h H=>go ?_)
 ·cases pur H;exact rt _
 ·obtain ⟨x44,g13,H⟩:=bnd H;refine Yb 10 34 44 (.bool x44) (gi q (fun q=>?_) (fun q=>?_)) (fun J=>go ?_)
  ·rw [if_pos (dbt q)] at g13;refine go ?_;obtain ⟨x39,g15,g13⟩:=bnd g13;refine Yb 2 37 39 (.bool x39) (gi q (fun q=>go ?_) (fun q=>go ?_)) (fun J=>go ?_)
   ·exact Yq 37 g15
   ·exact Yq 37 g15
   obtain ⟨x43,g17,g13⟩:=bnd g13;refine Yb 2 41 43 (.bool x43) (giN q (fun q=>go ?_) (fun q=>go ?_)) (fun J=>go ?_)
   ·exact Yq 41 g17
   ·exact Yq 41 g17
   exact Yq 34 g13
  ·rw [if_neg (dbf q)] at g13;refine go ?_;exact Yq 34 g13
  cases pur H;exact rt _
theorem EV:∀(a0:ByteArray) (Yw:Int) out,Vr a0 Yw=some out->∀c,Yf Tryz.f84 0=some c->∀(Q:QT) (tt:Sto),(∀(_u:Unit),out=Sum.inr ()->∀(T:TT) (ss:Sto),T 0=.str a0->Fx tt ss [] []->Q (.ex 0) ⟨T,ss⟩)->(∀r,out=Sum.inl r->∀s',I6 KZ [.tmp 2] (fun r' ss'=>r'=.bool r/\ss'=tt) s'->Q .ret s')->∀(T:TT) (ss:Sto),T 0=.str a0/\T 3=i6 Yw->Fx tt ss [] []->aLp KZ c Q ⟨T,ss⟩:=by
 intro a0 Yw;revert Yw;refine Vr.partial_correctness a0 _ ?_;intro Vr IH Yw out H c hc Q tt  hE hR T ss tT hF;refine lpx tt hc rfl fun q hX=>go ?_;obtain ⟨x17,g3,H⟩:=bnd H;refine Yb 2 15 17 (.bool x17) (gi q (fun q=>go ?_) (fun q=>go ?_)) (fun J=>go ?_)
 ·exact Yq 15 g3
 ·exact Yq 15 g3
 refine cdb H (fun h H=>?_) (fun h H=>go ?_)
 ·obtain ⟨x22,f1,H⟩:=bsx H;refine go1 ?_;obtain ⟨x25,hx25,H⟩:=bnd H;refine cl (MX x22 (decide (Yw=0)) _ hx25) (go ?_);refine cdb H (fun h H=>go ?_) (fun h H=>go ?_)
  ·exact wq (hR _ (pur H).symm _ (rt _))
  ·exact IH  (i64.wrap (Yw+1)) _ H _ rfl Q tt  hE hR _ _  S hF
 ·exact wq (hE () (pur H).symm _ _  S hF)
theorem A0:∀(a0:ByteArray) r,JA a0=some r->Y7 KZ 84 [.str a0] (.bool r):=by
 intro a0 r H;intro ss;unfold JA at H;refine hdh mixed Tryz.func84 (rs:=[.tmp 2]) fun q tT hF hX=>?_;refine go ?_;obtain ⟨x9,g1,H⟩:=bnd H;refine Yb 2 7 9 (.bool x9) (giN q (fun q=>go ?_) (fun q=>go ?_)) (fun J=>go ?_)
 ·exact Yq 7 g1
 ·exact Yq 7 g1
 refine cdb H (fun h H=>go ?_) (fun h H=>go ?_)
 ·cases pur H;exact rt _
 ·obtain ⟨o5,ho5,H⟩:=bnd H;refine EV a0 0 _ ho5 _ rfl _ _  ?_ ?_ _ _  S hF
  ·intro _ he T7 s8 tT hF;have he:=he.symm;subst he
   try dsimp only at H
   refine go ?_;obtain ⟨x34,g10,H⟩:=bnd H;refine Yb 3 31 34 (.bool x34) (gi q (fun q=>go ?_) (fun q=>go ?_)) (fun J=>go ?_)
   ·exact Yq 31 g10
   ·exact Yq 31 g10
   cases pur H;exact rt _
  ·intro r hr s' hs;subst hr;cases pur H;exact hsq hs
theorem Fz:∀(a0:List Int) (Yw:Int) out,VA a0 Yw=some out->∀c,Yf Tryz.f85 0=some c->∀(Q:QT) (tt:Sto),(∀(_u:Unit),out=Sum.inr ()->∀(T:TT) (ss:Sto),T 0=sf cI a0->Fx tt ss [] []->Q (.ex 0) ⟨T,ss⟩)->(∀r,out=Sum.inl r->∀s',I6 KZ [.tmp 2] (fun r' ss'=>r'=.bool r/\ss'=tt) s'->Q .ret s')->∀(T:TT) (ss:Sto),T 0=sf cI a0/\T 3=i6 Yw->Fx tt ss [] []->aLp KZ c Q ⟨T,ss⟩:=by
 intro a0 Yw;revert Yw;refine VA.partial_correctness a0 _ ?_;intro VA IH Yw out H c hc Q tt  hE hR T ss tT hF;refine lpx tt hc rfl fun q hX=>go ?_;obtain ⟨x11,g1,H⟩:=bnd H;refine Yb 2 9 11 (.bool x11) (gi q (fun q=>go ?_) (fun q=>go ?_)) (fun J=>go ?_)
 ·exact Yq 9 g1
 ·exact Yq 9 g1
 refine cdb H (fun h H=>go ?_) (fun h H=>go ?_)
 ·refine Yj E0 [.v,.v,.v,.v,.v,.v,.v,.v,.v,.v,.v,.v,.v,.v,.v,.v,.v,.v,.v,.v,.v,.v,.v,.v,.v,.v,.v,.v] (by kernel_rfl) ?_;obtain ⟨x16,f1,H⟩:=bil (g:=cI) (fun _=>rfl) H;refine go1 ?_;obtain ⟨x25,g3,H⟩:=bnd H;refine V5 5 20 25 (.bool x25) (tiN q (fun q=>?_) (fun q=>?_)) (fun J=>go ?_)
  ·rw [if_neg (df q)] at g3;obtain ⟨x22,f1,g3⟩:=bil (g:=cI) (fun _=>rfl) g3;refine go1 ?_;refine go ?_;exact Yq 20 g3
  ·rw [if_pos (dt q)] at g3;refine go ?_;exact Yq 20 g3
  obtain ⟨x41,g5,H⟩:=bnd H;refine V5 14 27 41 (.bool x41) (tiN q (fun q=>?_) (fun q=>?_)) (fun J=>go ?_)
  ·rw [if_neg (dbf q)] at g5;refine go ?_;obtain ⟨x40,g7,g5⟩:=bnd g5;refine V5 10 30 40 (.bool x40) (ti q (fun q=>?_) (fun q=>?_)) (fun J=>go ?_)
   ·rw [if_pos (dt q)] at g7;obtain ⟨x32,f1,g7⟩:=bil (g:=cI) (fun _=>rfl) g7;obtain ⟨x37,f2,g7⟩:=bil (g:=cI) (fun _=>rfl) g7;refine go2 ?_;refine go ?_;exact Yq 30 g7
   ·rw [if_neg (df q)] at g7;refine go ?_;exact Yq 30 g7
   exact Yq 27 g5
  ·rw [if_pos (dbt q)] at g5;refine go ?_;exact Yq 27 g5
  refine cdb H (fun h H=>go ?_) (fun h H=>go ?_)
  ·exact wq (hR _ (pur H).symm _ (rt _))
  ·exact IH  (i64.wrap (Yw+1)) _ H _ rfl Q tt  hE hR _ _  S hF
 ·exact wq (hE () (pur H).symm _ _  S hF)
theorem DI:∀(a0:List Int) r,Hm a0=some r->Y7 KZ 85 [sf cI a0] (.bool r):=by
 intro a0 r H;intro ss;unfold Hm at H;refine hdh mixed Tryz.func85 (rs:=[.tmp 2]) fun q tT hF hX=>?_;refine go ?_;obtain ⟨o9,ho9,H⟩:=bnd H;refine Fz a0 0 _ ho9 _ rfl _ _  ?_ ?_ _ _  S hF
 ·intro _ he T11 s12 tT hF;have he:=he.symm;subst he
  try dsimp only at H
  refine go ?_;cases pur H;exact rt _
 ·intro r hr s' hs;subst hr;cases pur H;exact hsq hs
theorem TS:∀(a0:Fm) (a1:Int) r,Ij a0 a1=some r->Y7 KZ 50 [.agg (KY a0),i6 a1] (.bool r):=by
 refine Ij.partial_correctness _ (motive_2:=fun a0 a1 Yh out=>∀c,Yf Tryz.f50 0=some c->∀(Q:QT) (tt:Sto) (b1:Nat),(∀(_u:Unit),out=Sum.inr ()->∀(T:TT) (ss:Sto),0+0=0->Fx tt ss [(b1,⟨26,5,[i6 a0.kind,.str a0.name,i6 a0.num,sf cI a0.sc,sf KY a0.kids]⟩)] []->Q (.ex 1) ⟨T,ss⟩)->(∀r,out=Sum.inl r->∀s',I6 KZ [.tmp 4] (fun r' ss'=>r'=.bool r/\ss'=tt) s'->Q .ret s')->∀(T:TT) (ss:Sto),T 1=i6 a1/\T 2=.ptr b1 0/\T 5=i6 Yh->Fx tt ss [(b1,⟨26,5,[i6 a0.kind,.str a0.name,i6 a0.num,sf cI a0.sc,sf KY a0.kids]⟩)] []->aLp KZ c Q ⟨T,ss⟩) ?_ ?_
 ·intro Gu L0 a0 a1 r H;intro ss;refine hdh mixed Tryz.func50 (rs:=[.tmp 4]) fun q tT hF hX=>?_;refine go ?_;refine X8 hF rfl fun b1 ss2 hF=>go ?_;refine cdp H (fun h H=>go ?_) (fun h H=>go ?_)
  ·cases pur H;exact rt _
  ·refine cdp H (fun h H=>go ?_) (fun h H=>go ?_)
   ·refine bp H (A0 a0.name) fun x14 h H=>cl h (go ?_);obtain ⟨x19,g3,H⟩:=bnd H;refine Yb 3 16 19 (.bool x19) (gi q (fun q=>go ?_) (fun q=>go ?_)) (fun J=>go ?_)
    ·exact Yq 16 g3
    ·exact Yq 16 g3
    obtain ⟨x24,g5,H⟩:=bnd H;refine Yb 3 21 24 (.bool x24) (gi q (fun q=>?_) (fun q=>?_)) (fun J=>go ?_)
    ·rw [if_pos (dbt q)] at g5;refine go ?_;obtain ⟨x23,hx23,g5⟩:=bnd g5;refine cl (DI a0.sc _ hx23) (go ?_);exact Yq 21 g5
    ·rw [if_neg (dbf q)] at g5;refine go ?_;exact Yq 21 g5
    obtain ⟨x30,g7,H⟩:=bnd H;refine Yb 4 26 30 (.bool x30) (gi q (fun q=>go ?_) (fun q=>go ?_)) (fun J=>go ?_)
    ·exact Yq 26 g7
    ·exact Yq 26 g7
    cases pur H;exact rt _
   ·refine cdp H (fun h H=>go ?_) (fun h H=>go ?_)
    ·obtain ⟨x40,g9,H⟩:=bnd H;refine Yb 3 37 40 (.bool x40) (gi q (fun q=>go ?_) (fun q=>go ?_)) (fun J=>go ?_)
     ·exact Yq 37 g9
     ·exact Yq 37 g9
     obtain ⟨x45,g11,H⟩:=bnd H;refine Yb 3 42 45 (.bool x45) (gi q (fun q=>go ?_) (fun q=>go ?_)) (fun J=>go ?_)
     ·exact Yq 42 g11
     ·exact Yq 42 g11
     obtain ⟨x51,g13,H⟩:=bnd H;refine Yb 4 47 51 (.bool x51) (gi q (fun q=>go ?_) (fun q=>go ?_)) (fun J=>go ?_)
     ·exact Yq 47 g13
     ·exact Yq 47 g13
     obtain ⟨x57,g15,H⟩:=bnd H;refine Yb 4 53 57 (.bool x57) (gi q (fun q=>go ?_) (fun q=>go ?_)) (fun J=>go ?_)
     ·exact Yq 53 g15
     ·exact Yq 53 g15
     cases pur H;exact rt _
    ·obtain ⟨x65,g17,H⟩:=bnd H;refine Yb 3 62 65 (.bool x65) (giN q (fun q=>go ?_) (fun q=>go ?_)) (fun J=>go ?_)
     ·exact Yq 62 g17
     ·exact Yq 62 g17
     obtain ⟨x70,g19,H⟩:=bnd H;refine Yb 3 67 70 (.bool x70) (giN q (fun q=>go ?_) (fun q=>go ?_)) (fun J=>go ?_)
     ·exact Yq 67 g19
     ·exact Yq 67 g19
     obtain ⟨x76,g21,H⟩:=bnd H;refine Yb 4 72 76 (.bool x76) (giN q (fun q=>go ?_) (fun q=>go ?_)) (fun J=>go ?_)
     ·exact Yq 72 g21
     ·exact Yq 72 g21
     refine cdb H (fun h H=>go ?_) (fun h H=>go ?_)
     ·cases pur H;exact rt _
     ·obtain ⟨o23,ho23,H⟩:=bnd H;refine L0 a0 a1 0 _ ho23 _ rfl _ _ b1 ?_ ?_ _ _  S hF
      ·intro _ he T25 s26 tT hF;have he:=he.symm;subst he
       try dsimp only at H
       refine go ?_;cases pur H;exact rt _
      ·intro r hr s' hs;subst hr;cases pur H;exact hsq hs
 ·intro Ij Gu C0 L0 a0 a1 Yh out H c hc Q tt b1 hE hR T ss tT hF;refine lpx tt hc rfl fun q hX=>go ?_;refine cdp H (fun h H=>?_) (fun h H=>go ?_)
  ·obtain ⟨x87,f1,H⟩:=bil (g:=KY) Fm.X6 H;refine go1 ?_;obtain ⟨x91,hx91,H⟩:=bnd H;refine cl (C0 x87 (i64.wrap (a1 - 1)) _ hx91) (go ?_);refine cdb H (fun h H=>go ?_) (fun h H=>go ?_)
   ·exact wq (hR _ (pur H).symm _ (rt _))
   ·exact L0 a0 a1 (i64.wrap (Yh+1)) _ H _ rfl Q tt b1 hE hR _ _  S hF
  ·exact wq (hE () (pur H).symm _ _  S hF)
theorem Em:∀(a0:Fm) r,Gs a0=some r->Y7 KZ 51 [.agg (KY a0)] (i6 r):=by
 refine Gs.partial_correctness _ (motive_2:=fun a0 Yw YJ out=>∀c,Yf Tryz.f51 0=some c->∀(Q:QT) (tt:Sto) (b1:Nat),(∀(NY:Int),out=NY->∀(T:TT) (ss:Sto),T 3=i6 NY->Fx tt ss [(b1,⟨26,5,[i6 a0.kind,.str a0.name,i6 a0.num,sf cI a0.sc,sf KY a0.kids]⟩)] []->Q (.ex 0) ⟨T,ss⟩)->True->∀(T:TT) (ss:Sto),T 1=.ptr b1 0/\T 3=i6 Yw/\T 4=i6 YJ->Fx tt ss [(b1,⟨26,5,[i6 a0.kind,.str a0.name,i6 a0.num,sf cI a0.sc,sf KY a0.kids]⟩)] []->aLp KZ c Q ⟨T,ss⟩) ?_ ?_
 ·intro Wm L0 a0 r H;intro ss;refine hdh mixed Tryz.func51 (rs:=[.tmp 2]) fun q tT hF hX=>?_;refine go ?_;refine X8 hF rfl fun b1 ss2 hF=>go ?_;obtain ⟨o3,ho3,H⟩:=bnd H;refine L0 a0 1 0 _ ho3 _ rfl _ _ b1 ?_ ?_ _ _  S hF
  ·intro UL he T5 ss6 tT hF;have he:=he.symm;subst he;refine go ?_;cases pur H;exact rt _
  ·trivial
 ·intro Gs Wm C0 L0 a0 Yw YJ out H c hc Q tt b1 hE hR T ss tT hF;refine lpx tt hc rfl fun q hX=>go ?_;refine cdp H (fun h H=>?_) (fun h H=>go ?_)
  ·obtain ⟨x16,f1,H⟩:=bil (g:=KY) Fm.X6 H;refine go1 ?_;refine bp H (C0 x16) fun x18 h H=>cl h (go ?_);exact L0 a0 (i64.wrap (Yw+x18)) (i64.wrap (YJ+1)) _ H _ rfl Q tt b1 hE hR _ _  S hF
  ·exact wq (hE _ (pur H).symm _ _  S hF)
theorem YW:∀(a0:Fm) r,YM a0=some r->Y7 KZ 25 [.agg (KY a0)] (.bool r):=by
 intro a0 r H;intro ss;unfold YM at H;refine hdh mixed Tryz.func25 (rs:=[.tmp 2]) fun q tT hF hX=>?_;refine go ?_;refine X8 hF rfl fun b1 ss2 hF=>go ?_;refine bp H (TS a0 40) fun x4 h H=>cl h (go ?_);obtain ⟨x9,g3,H⟩:=bnd H;refine Yb 3 6 9 (.bool x9) (gi q (fun q=>?_) (fun q=>?_)) (fun J=>go ?_)
 ·rw [if_pos (dbt q)] at g3;refine go ?_;obtain ⟨x7,hx7,g3⟩:=bnd g3;refine cl (Em a0 _ hx7) (go ?_);exact Yq 6 g3
 ·rw [if_neg (dbf q)] at g3;refine go ?_;exact Yq 6 g3
 cases pur H;exact rt _
theorem LW:∀(a0:ByteArray) r,Aa a0=some r->Y7 KZ 98 [.str a0] (.tup [.agg (KY r.1),.bool r.2]):=by
 intro a0 r H;intro ss;unfold Aa at H;refine hdh mixed Tryz.func98 (rs:=[.cell 2 26,.tmp 3]) fun q tT hF hX=>?_;refine go ?_;refine X8 hF rfl fun b1 ss2 hF=>go ?_;refine bp H (PF a0 0 40) fun x8 h H=>cl h (go ?_);refine X8 hF rfl fun b3 ss4 hF=>go ?_;refine st hF 0 rfl fun ss5 hF=>?_;refine go ?_;obtain ⟨x20,g6,H⟩:=bnd H;refine Yb 6 14 20 (.bool x20) (giN q (fun q=>?_) (fun q=>?_)) (fun J=>go ?_)
 ·rw [if_neg (df q)] at g6;refine go ?_;obtain ⟨x16,hx16,g6⟩:=bnd g6;refine cl (Ba a0 x8.2 _ hx16) (go ?_);exact Yq 14 g6
 ·rw [if_pos (dt q)] at g6;refine go ?_;exact Yq 14 g6
 obtain ⟨x25,g8,H⟩:=bnd H;refine Yb 3 22 25 (.bool x25) (giN q (fun q=>?_) (fun q=>?_)) (fun J=>go ?_)
 ·rw [if_neg (dbf q)] at g8;refine go ?_;obtain ⟨x23,hx23,g8⟩:=bnd g8;refine cl (YW x8.1 _ hx23) (go ?_);exact Yq 22 g8
 ·rw [if_pos (dbt q)] at g8;refine go ?_;exact Yq 22 g8
 refine cdb H (fun h H=>go ?_) (fun h H=>go ?_)
 ·refine st hF 1 rfl fun s10 hF=>?_;refine go ?_;cases pur H;exact rt _
 ·refine st hF 1 rfl fun s11 hF=>?_;refine go ?_;cases pur H;exact rt _
theorem BR:∀(a0:ByteArray) r,IG a0=some r->Y7 KZ 65 [.str a0] (.agg (KY r)):=by
 intro a0 r H;intro ss;unfold IG at H;refine hdh mixed Tryz.func65 (rs:=[.cell 2 26]) fun q tT hF hX=>?_;refine go ?_;refine X8 hF rfl fun b1 ss2 hF=>go ?_;refine bp H (LW a0) fun x7 h H=>cl h (go ?_);refine X8 hF rfl fun b3 ss4 hF=>go ?_;refine st hF 0 rfl fun ss5 hF=>?_;refine go ?_;refine st hF 1 rfl fun ss6 hF=>?_;refine go ?_;cases pur H;exact rt _
theorem ON:∀  r,Cu  = some r->Y7 KZ 99 [] (sf cS r):=by
 intro  r H;intro ss;unfold Cu at H;refine hdh mixed Tryz.func99 (rs:=[.tmp 0]) fun q tT hF hX=>?_;refine goL ?_;cases pur H;exact rt _
theorem Wn:∀(a0:List Fm) r,WX a0=some r->Y7 KZ 101 [sf KY a0] (.agg (KY r)):=by
 intro a0 r H;intro ss;unfold WX at H;refine hdh mixed Tryz.func101 (rs:=[.cell 2 26]) fun q tT hF hX=>?_;refine go ?_;refine X8 hF rfl fun b1 ss2 hF=>go ?_;refine st hF 0 rfl fun ss3 hF=>?_;refine go ?_;cases pur H;exact rt _
theorem P0:∀(a1:List ByteArray) (a2:Int) (c0:Rdr) r,VU a1 a2 c0=some r->∀(e0:Nat)  (ss:Sto),Pre ss [(e0,⟨88,2,[sf cU c0.b,i6 c0.p]⟩)] []->Ctr KZ 100 [.ptr e0 0,sf cS a1,i6 a2] ss (fun r' ss'=>∃(tt':Sto),r'=.agg (KY r.1)/\Tau (strip ss []) [(e0,⟨88,2,[sf cU r.2.b,i6 r.2.p]⟩)] tt'/\Fx tt' ss' [] []):=by
 refine VU.partial_correctness  (motive:=fun a1 a2 c0 r=>∀(e0:Nat)  (ss:Sto),Pre ss [(e0,⟨88,2,[sf cU c0.b,i6 c0.p]⟩)] []->Ctr KZ 100 [.ptr e0 0,sf cS a1,i6 a2] ss (fun r' ss'=>∃(tt':Sto),r'=.agg (KY r.1)/\Tau (strip ss []) [(e0,⟨88,2,[sf cU r.2.b,i6 r.2.p]⟩)] tt'/\Fx tt' ss' [] [])) ?_
 ·intro VU C0 a1 a2 c0 r H;intro e0  ss hP;refine hdg mixed Tryz.func100 (rs:=[.cell 6 26]) fun q tT=>?_;obtain ⟨hF,hX⟩:=hP.start;generalize strip ss []=tt0 at hF hX ⊢;refine go ?_;refine X8 hF rfl fun b1 ss2 hF=>go ?_;refine giN q (fun q=>?_) (fun q=>?_)
  ·rw [if_neg (df q)] at H;refine go ?_;obtain ⟨Qen,hx14_1,H⟩:=bnd H;refine cx (Ym 5 c0 _ hx14_1 e0  _ (pre 0 1 0 hF hX)) ?_;rintro _ s8 ⟨tt9,rfl,hT,hG⟩;obtain ⟨t10,hX,hF⟩:=aft 0 1 0 hF hX hT hG;refine go ?_;refine cdp H (fun h H=>go ?_) (fun h H=>go ?_)
   ·obtain ⟨x18,hx18,H⟩:=bnd H;refine cx (Ym 3 Qen.2 _ hx18 e0  _ (pre 0 1 0 hF hX)) ?_;rintro _ s11 ⟨t12,rfl,hT,hG⟩;obtain ⟨t13,hX,hF⟩:=aft 0 1 0 hF hX hT hG;refine go ?_;refine cdp H (fun h H=>go ?_) (fun h H=>go ?_)
    ·obtain ⟨x22,hx22,H⟩:=bnd H;refine cx (YI [0,1,2,7] x18.2 _ hx22 e0  _ (pre 0 1 0 hF hX)) ?_;rintro _ s14 ⟨t15,rfl,hT,hG⟩;obtain ⟨t16,hX,hF⟩:=aft 0 1 0 hF hX hT hG;refine go ?_;refine st hF 0 rfl fun s17 hF=>?_;refine go ?_;cases pur H;exact rg _ ⟨_,rfl,hX,K1 _⟩
    ·obtain ⟨x28,hx28,H⟩:=bnd H;refine cx (Ym (a1.length:Int) x18.2 _ hx28 e0  _ (pre 0 1 0 hF hX)) ?_;rintro _ s18 ⟨t19,rfl,hT,hG⟩;obtain ⟨tt20,hX,hF⟩:=aft 0 1 0 hF hX hT hG;obtain ⟨x29,f1,H⟩:=bil (g:=cS) (fun _=>rfl) H;refine go1 ?_;refine bp H (VY x29) fun x31 h H=>cl h (go ?_);refine st hF 0 rfl fun s21 hF=>?_;refine go ?_;cases pur H;exact rg _ ⟨_,rfl,hX,K1 _⟩
   ·obtain ⟨x34,hx34,H⟩:=bnd H;refine cx (Wr [(Qk #[120]),(Qk #[121]),(Qk #[116])] Qen.2 _ hx34 e0  _ (pre 0 1 0 hF hX)) ?_;rintro _ s22 ⟨t23,rfl,hT,hG⟩;obtain ⟨t24,hX,hF⟩:=aft 0 1 0 hF hX hT hG;refine go ?_;have hF:=hF.lit 9 1 (rws cS []) rfl;refine apd (g:=cS) hF 0 H (rdo (c:=false) (g:=cS) (fun _=>rfl)) fun x37 H v25 s26 hF=>go ?_;refine apf (g:=cS) hF 0 H (rdo (c:=true) (g:=cS) (fun _=>rfl)) fun x40 H s28 hF=>go ?_;obtain ⟨x42,hx42,H⟩:=bnd H;refine cx (Ym 8 x34.2 _ hx42 e0  _ (pre 0 1 0 hF hX)) ?_;rintro _ s29 ⟨t30,rfl,hT,hG⟩;obtain ⟨tt31,hX,hF⟩:=aft 0 1 0 hF hX hT hG;refine go ?_;obtain ⟨Qam,j33,H⟩:=bnd H;refine V6 (fun s'=>∃(T:TT) (ss1 tt1:Sto),s'=⟨T,ss1⟩/\(T 0=.ptr e0 0/\T 1=sf cS a1/\T 2=i6 a2/\T 6=.ptr b1 0/\T 7=.str x34.1/\T 8=sf cS x40/\T 42=i6 x42.1/\T 43=.bool Qam)/\Tau tt0 [(e0,⟨88,2,[sf cU x42.2.b,i6 x42.2.p]⟩)] tt1/\Fx tt1 ss1 [(b1,⟨26,5,[i6 0,.str zB,i6 0,.X4,.X4]⟩)] []) (cdp j33 (fun h j33=>go ?_) (fun h j33=>go ?_)) ?_
    ·cases pur j33;exact ⟨_,_,_,rfl,S,hX,hF⟩
    ·cases pur j33;exact ⟨_,_,_,rfl,S,hX,hF⟩
    ·rintro s' ⟨T34,s35,t36,rfl,tT,hX,hF⟩;refine go ?_;refine cdb H (fun h H=>go ?_) (fun h H=>go ?_)
     ·refine bp H (VY (Qk #[108,97,109,98,100,97])) fun x46 h H=>cl h (go ?_);refine bp H (VY x34.1) fun x48 h H=>cl h (go ?_);refine bp H (Wn [x48]) fun x50 h H=>cl h (go ?_);obtain ⟨x55,hx55,H⟩:=bnd H;refine cx (C0 x40 (i64.wrap (a2 - 1)) x42.2 _ hx55 e0  _ (pre 0 1 0 hF hX)) ?_;rintro _ s37 ⟨t38,rfl,hT,hG⟩;obtain ⟨t39,hX,hF⟩:=aft 0 1 0 hF hX hT hG;refine go ?_;refine bp H (Wn [x46,x50,x55.1]) fun x57 h H=>cl h (go ?_);refine st hF 0 rfl fun s40 hF=>?_;refine go ?_;cases pur H;exact rg _ ⟨_,rfl,hX,K1 _⟩
     ·obtain ⟨Qan,j42,H⟩:=bnd H;refine V6 (fun s'=>∃(T:TT) (ss1 tt1:Sto),s'=⟨T,ss1⟩/\(T 0=.ptr e0 0/\T 1=sf cS a1/\T 2=i6 a2/\T 6=.ptr b1 0/\T 7=.str x34.1/\T 8=sf cS x40/\T 42=i6 x42.1/\T 58=.bool Qan)/\Tau tt0 [(e0,⟨88,2,[sf cU x42.2.b,i6 x42.2.p]⟩)] tt1/\Fx tt1 ss1 [(b1,⟨26,5,[i6 0,.str zB,i6 0,.X4,.X4]⟩)] []) (cdp j42 (fun h j42=>go ?_) (fun h j42=>go ?_)) ?_
      ·cases pur j42;exact ⟨_,_,_,rfl,S,hX,hF⟩
      ·cases pur j42;exact ⟨_,_,_,rfl,S,hX,hF⟩
      ·rintro s' ⟨T43,s44,t45,rfl,tT,hX,hF⟩;refine go ?_;refine cdb H (fun h H=>go ?_) (fun h H=>go ?_)
       ·refine bp H (VY x34.1) fun x62 h H=>cl h (go ?_);obtain ⟨x67,hx67,H⟩:=bnd H;refine cx (C0 a1 (i64.wrap (a2 - 1)) x42.2 _ hx67 e0  _ (pre 0 1 0 hF hX)) ?_;rintro _ s46 ⟨t47,rfl,hT,hG⟩;obtain ⟨t48,hX,hF⟩:=aft 0 1 0 hF hX hT hG;refine go ?_;refine bp H (Wn [x62,x67.1]) fun x69 h H=>cl h (go ?_);refine X8 hF rfl fun b49 s50 hF=>go ?_;refine st hF 0 rfl fun s51 hF=>?_;refine go ?_;obtain ⟨E,hEq⟩:∃E,E=EE s51 [e0]:=⟨_,rfl⟩
        have n52:¬E b49:=by rw [hEq];exact K5 (hF.at 0 rfl) (nm1 (neX hF 0 rfl hX 0 rfl))
        have n53:¬E b1:=by rw [hEq];exact K5 (hF.at 1 rfl) (nm1 (neX hF 1 rfl hX 0 rfl))
        refine Yj E [.v,.v,.v,.v,.v,.v,.v,.v,.x,.v,.v,.z] (by kernel_rfl) ?_;have z:=K3 (X9 (hF.at 0 rfl) n52) (X9 (hF.at 1 rfl) n53);refine gh ?_;refine bp H (VY (Qk #[108,101,116])) fun x70 h H=>cv h ?_;have z:=K3 (X9 (hF.at 0 rfl) n52) (X9 (hF.at 1 rfl) n53);refine gh ?_;refine bp H (Wn [x69]) fun x73 h H=>cv h ?_;have z:=K3 (X9 (hF.at 0 rfl) n52) (X9 (hF.at 1 rfl) n53);refine gh ?_;obtain ⟨x78,hx78,H⟩:=bnd H;refine cx (C0 x40 (i64.wrap (a2 - 1)) x67.2 _ hx78 e0  _ (pre 0 1 0 hF hX)) ?_;rintro _ s54 ⟨t55,rfl,hT,hG⟩
        refine AB (Za hT hG (by intro p hp;simp only [Kj,KC,or_false] at hp<;>first | (rcases hp with rfl<;>(rw [hEq];first | (refine Zd ?_;simp;done) | exact Ze rfl))| cases hp)) fun kp57=>?_
        obtain ⟨t56,hX,hF⟩:=aft 0 1 0 hF hX hT hG;have z:=K3 (X9 (hF.at 0 rfl) n52) (X9 (hF.at 1 rfl) n53);refine gh ?_;refine bp H (Wn [x70,x73,x78.1]) fun x80 h H=>cv h ?_;have z:=K3 (X9 (hF.at 0 rfl) n52) (X9 (hF.at 1 rfl) n53);refine gh ?_;refine st hF 1 rfl fun s58 hF=>?_;have z:=K3 (X9 (hF.at 0 rfl) n52) (X9 (hF.at 1 rfl) n53);refine gh ?_;refine go ?_;cases pur H;exact rg [.agg [i6 x80.kind,.str x80.name,i6 x80.num,sf cI x80.sc,sf KY x80.kids]] ⟨_,rfl,hX,K1 _⟩
       ·refine cdp H (fun h H=>go ?_) (fun h H=>go ?_)
        ·refine bp H (VY (Qk #[105,102])) fun x83 h H=>cl h (go ?_);obtain ⟨x88,hx88,H⟩:=bnd H;refine cx (C0 a1 (i64.wrap (a2 - 1)) x42.2 _ hx88 e0  _ (pre 0 1 0 hF hX)) ?_;rintro _ s59 ⟨t60,rfl,hT,hG⟩;obtain ⟨t61,hX,hF⟩:=aft 0 1 0 hF hX hT hG;refine go ?_;obtain ⟨x93,hx93,H⟩:=bnd H;refine cx (C0 a1 (i64.wrap (a2 - 1)) x88.2 _ hx93 e0  _ (pre 0 1 0 hF hX)) ?_;rintro _ s62 ⟨t63,rfl,hT,hG⟩;obtain ⟨t64,hX,hF⟩:=aft 0 1 0 hF hX hT hG;refine go ?_;obtain ⟨x96,hx96,H⟩:=bnd H;refine cx (C0 a1 0 x93.2 _ hx96 e0  _ (pre 0 1 0 hF hX)) ?_;rintro _ s65 ⟨t66,rfl,hT,hG⟩;obtain ⟨t67,hX,hF⟩:=aft 0 1 0 hF hX hT hG;refine go ?_;refine bp H (Wn [x83,x88.1,x93.1,x96.1]) fun x98 h H=>cl h (go ?_);refine st hF 0 rfl fun s68 hF=>?_;refine go ?_;cases pur H;exact rg _ ⟨_,rfl,hX,K1 _⟩
        ·refine cdp H (fun h H=>go ?_) (fun h H=>go ?_)
         ·refine bp H (VY (Qk #[113,117,111,116,101])) fun x101 h H=>cl h (go ?_);obtain ⟨x103,hx103,H⟩:=bnd H;refine cx (Ab 1 x42.2 _ hx103 e0  _ (pre 0 1 0 hF hX)) ?_;rintro _ s69 ⟨tt70,rfl,hT,hG⟩;obtain ⟨t71,hX,hF⟩:=aft 0 1 0 hF hX hT hG;refine go ?_;refine bp H (Wn [x101,x103.1]) fun x105 h H=>cl h (go ?_);refine st hF 0 rfl fun s72 hF=>?_;refine go ?_;cases pur H;exact rg _ ⟨_,rfl,hX,K1 _⟩
         ·obtain ⟨x110,hx110,H⟩:=bnd H;refine cx (C0 a1 (i64.wrap (a2 - 1)) x42.2 _ hx110 e0  _ (pre 0 1 0 hF hX)) ?_;rintro _ s73 ⟨t74,rfl,hT,hG⟩;obtain ⟨tt75,hX,hF⟩:=aft 0 1 0 hF hX hT hG;refine go ?_;obtain ⟨x115,hx115,H⟩:=bnd H;refine cx (C0 a1 (i64.wrap (a2 - 1)) x110.2 _ hx115 e0  _ (pre 0 1 0 hF hX)) ?_;rintro _ s76 ⟨t77,rfl,hT,hG⟩;obtain ⟨t78,hX,hF⟩:=aft 0 1 0 hF hX hT hG;refine go ?_;refine bp H (Wn [x110.1,x115.1]) fun x117 h H=>cl h (go ?_);refine st hF 0 rfl fun s79 hF=>?_;refine go ?_;cases pur H;exact rg _ ⟨_,rfl,hX,K1 _⟩
  ·rw [if_pos (dt q)] at H;refine go ?_;obtain ⟨Qeo,hx18_1,H⟩:=bnd H;refine cx (Ym 3 c0 _ hx18_1 e0  _ (pre 0 1 0 hF hX)) ?_;rintro _ s80 ⟨t81,rfl,hT,hG⟩;obtain ⟨t82,hX,hF⟩:=aft 0 1 0 hF hX hT hG;refine go ?_;refine cdp H (fun h H=>go ?_) (fun h H=>go ?_)
   ·obtain ⟨Qly,hx22_1,H⟩:=bnd H;refine cx (YI [0,1,2,7] Qeo.2 _ hx22_1 e0  _ (pre 0 1 0 hF hX)) ?_;rintro _ s83 ⟨t84,rfl,hT,hG⟩;obtain ⟨t85,hX,hF⟩:=aft 0 1 0 hF hX hT hG;refine go ?_;refine st hF 0 rfl fun s86 hF=>?_;refine go ?_;cases pur H;exact rg _ ⟨_,rfl,hX,K1 _⟩
   ·obtain ⟨Rt,hx28_1,H⟩:=bnd H;refine cx (Ym (a1.length:Int) Qeo.2 _ hx28_1 e0  _ (pre 0 1 0 hF hX)) ?_;rintro _ s87 ⟨t88,rfl,hT,hG⟩;obtain ⟨t89,hX,hF⟩:=aft 0 1 0 hF hX hT hG;obtain ⟨Qp6,f1,H⟩:=bil (g:=cS) (fun _=>rfl) H;refine go1 ?_;obtain ⟨Qak,hx31_1,H⟩:=bnd H;refine cl (VY Qp6 _ hx31_1) (go ?_);refine st hF 0 rfl fun s90 hF=>?_;refine go ?_;cases pur H;exact rg _ ⟨_,rfl,hX,K1 _⟩
theorem PY:∀(c0:Rdr) r,B0 c0=some r->∀(e0:Nat)  (ss:Sto),Pre ss [(e0,⟨88,2,[sf cU c0.b,i6 c0.p]⟩)] []->Ctr KZ 66 [.ptr e0 0] ss (fun r' ss'=>∃(tt':Sto),r'=.agg (KY r.1)/\Tau (strip ss []) [(e0,⟨88,2,[sf cU r.2.b,i6 r.2.p]⟩)] tt'/\Fx tt' ss' [] []):=by
 intro c0 r H;intro e0  ss hP;unfold B0 at H;refine hdg mixed Tryz.func66 (rs:=[.cell 2 26]) fun q tT=>?_;obtain ⟨hF,hX⟩:=hP.start;generalize strip ss []=tt0 at hF hX ⊢;refine go ?_;refine X8 hF rfl fun b1 ss2 hF=>go ?_;refine bp H (ON ) fun x6 h H=>cl h (go ?_);obtain ⟨x8,hx8,H⟩:=bnd H;refine cx (Ym 3 c0 _ hx8 e0  _ (pre 0 1 0 hF hX)) ?_;rintro _ ss3 ⟨tt4,rfl,hT,hG⟩;obtain ⟨tt5,hX,hF⟩:=aft 0 1 0 hF hX hT hG;refine goL ?_;refine cdp H (fun h H=>go ?_) (fun h H=>go ?_)
 ·obtain ⟨x14,hx14,H⟩:=bnd H;refine cx (Ym (x6.length:Int) x8.2 _ hx14 e0  _ (pre 0 1 0 hF hX)) ?_;rintro _ ss6 ⟨t7,rfl,hT,hG⟩;obtain ⟨t8,hX,hF⟩:=aft 0 1 0 hF hX hT hG;obtain ⟨x15,f1,H⟩:=bil (g:=cS) (fun _=>rfl) H;refine go1 ?_;refine bp H (BR x15) fun x17 h H=>cl h (go ?_);refine st hF 0 rfl fun s9 hF=>?_;refine go ?_;cases pur H;exact rg _ ⟨_,rfl,hX,K1 _⟩
 ·obtain ⟨x22,hx22,H⟩:=bnd H;refine cx (YI [4,3,2] x8.2 _ hx22 e0  _ (pre 0 1 0 hF hX)) ?_;rintro _ s10 ⟨t11,rfl,hT,hG⟩;obtain ⟨t12,hX,hF⟩:=aft 0 1 0 hF hX hT hG;refine go ?_;obtain ⟨x23,hx23,H⟩:=bnd H;refine cx (P0 [(Qk #[43]),(Qk #[108,105,115,116]),(Qk #[103])] x22.1 x22.2 _ hx23 e0  _ (pre 0 1 0 hF hX)) ?_;rintro _ s13 ⟨t14,rfl,hT,hG⟩;obtain ⟨t15,hX,hF⟩:=aft 0 1 0 hF hX hT hG;refine go ?_;refine X8 hF rfl fun b16 s17 hF=>go ?_;refine st hF 0 rfl fun s18 hF=>?_;refine go ?_;obtain ⟨x25,hx25,H⟩:=bnd H;refine cx (Ym 2 x23.2 _ hx25 e0  _ (pre 0 1 0 hF hX)) ?_;rintro _ s19 ⟨tt20,rfl,hT,hG⟩;obtain ⟨t21,hX,hF⟩:=aft 0 1 0 hF hX hT hG;refine goL ?_;refine cdp H (fun h H=>goL ?_) (fun h H=>goL ?_)
  ·refine bp H (BR (Qk #[40,114,117,108,101,115,32,40,41,32,40,40,95,32,97,32,98,41,32,40,108,101,116,32,40,40,116,32,97,41,41,32,40,108,105,115,116,32,98,32,116,41,41,41,32,40,40,95,32,97,41,32,40,108,101,116,32,40,40,120,32,97,41,41,32,40,108,105,115,116,32,120,32,97,41,41,41,41])) fun x27 h H=>cl h (goL ?_);refine X8 hF rfl fun b22 s23 hF=>goL ?_;refine st hF 0 rfl fun s24 hF=>?_;refine goL ?_;refine Yj E0 [.v,.v,.v,.v,.v,.v,.v,.v,.v,.v,.z] (by kernel_rfl) (goL ?_);refine bp H (VY (Qk #[108,101,116,45,115,121,110,116,97,120])) fun x28 h H=>cv h (goL ?_);refine bp H (VY (Qk #[103])) fun x29 h H=>cv h (goL ?_);refine bp H (Wn [x29,x27]) fun x32 h H=>cv h (goL ?_);refine bp H (Wn [x32]) fun x34 h H=>cv h (goL ?_);refine bp H (Wn [x28,x34,x23.1]) fun x37 h H=>cv h (goL ?_);refine st hF 1 rfl fun s25 hF=>?_;refine goL ?_;refine st hF 2 rfl fun s26 hF=>?_;refine goL ?_;cases pur H;exact rg _ ⟨_,rfl,hX,K1 _⟩
  ·refine st hF 1 rfl fun s27 hF=>?_;refine goL ?_;cases pur H;exact rg _ ⟨_,rfl,hX,K1 _⟩
theorem P4:∀(c0:Rdr) r,B5 c0=some r->∀(e0:Nat)  (ss:Sto),Pre ss [(e0,⟨88,2,[sf cU c0.b,i6 c0.p]⟩)] []->Ctr KZ 38 [.ptr e0 0] ss (fun r' ss'=>∃(tt':Sto),r'=.agg (KY r.1)/\Tau (strip ss []) [(e0,⟨88,2,[sf cU r.2.b,i6 r.2.p]⟩)] tt'/\Fx tt' ss' [] []):=by
 intro c0 r H;intro e0  ss hP;unfold B5 at H;refine hdg mixed Tryz.func38 (rs:=[.cell 2 26]) fun q tT=>?_;obtain ⟨hF,hX⟩:=hP.start;generalize strip ss []=tt0 at hF hX ⊢;refine go ?_;refine X8 hF rfl fun b1 ss2 hF=>go ?_;refine bp H (OP ) fun x4 h H=>cl h (go ?_);obtain ⟨x6,hx6,H⟩:=bnd H;refine cx (Ym 3 c0 _ hx6 e0  _ (pre 0 1 0 hF hX)) ?_;rintro _ ss3 ⟨tt4,rfl,hT,hG⟩;obtain ⟨tt5,hX,hF⟩:=aft 0 1 0 hF hX hT hG;refine go ?_;refine cdp H (fun h H=>go ?_) (fun h H=>go ?_)
 ·obtain ⟨x12,hx12,H⟩:=bnd H;refine cx (Ym (x4.length:Int) x6.2 _ hx12 e0  _ (pre 0 1 0 hF hX)) ?_;rintro _ ss6 ⟨t7,rfl,hT,hG⟩;obtain ⟨t8,hX,hF⟩:=aft 0 1 0 hF hX hT hG;obtain ⟨x13,f1,H⟩:=bil (g:=cS) (fun _=>rfl) H;refine go1 ?_;refine bp H (BR x13) fun x15 h H=>cl h (go ?_);refine st hF 0 rfl fun s9 hF=>?_;refine go ?_;cases pur H;exact rg _ ⟨_,rfl,hX,K1 _⟩
 ·obtain ⟨x17,hx17,H⟩:=bnd H;refine cx (PY x6.2 _ hx17 e0  _ (pre 0 1 0 hF hX)) ?_;rintro _ s10 ⟨t11,rfl,hT,hG⟩;obtain ⟨t12,hX,hF⟩:=aft 0 1 0 hF hX hT hG;refine go ?_;refine st hF 0 rfl fun s13 hF=>?_;refine go ?_;cases pur H;exact rg _ ⟨_,rfl,hX,K1 _⟩
theorem OL:∀  r,Ct  = some r->Y7 KZ 123 [] (sf cS r):=by
 intro  r H;intro ss;unfold Ct at H;refine hdh mixed Tryz.func123 (rs:=[.tmp 0]) fun q tT hF hX=>?_;refine go ?_;cases pur H;exact rt _
theorem CG:∀(x5:List ByteArray) (X7:List Bnd) (Yw:Int) out,Vd x5 X7 Yw=some out->∀c,Yf Tryz.f97 0=some c->∀(Q:QT) (tt:Sto) (b1 b3:Nat),(∀(YX:List Bnd),out=YX->∀(T:TT) (ss:Sto) (e0v0:AV),T 0=.ptr b1 0/\T 1=.ptr b3 0->Fx tt ss [(b3,⟨94,5,[e0v0,.X4,i6 0,i6 10,i6 0]⟩),(b1,⟨94,5,[.X4,.X4,i6 0,i6 0,i6 0]⟩)] [⟨e0v0,152,3,rws K0 YX⟩]->Q (.ex 0) ⟨T,ss⟩)->True->∀(T:TT) (ss:Sto) (z0v0:AV),T 0=.ptr b1 0/\T 1=.ptr b3 0/\T 2=sf cS x5/\T 3=i6 Yw->Fx tt ss [(b3,⟨94,5,[z0v0,.X4,i6 0,i6 10,i6 0]⟩),(b1,⟨94,5,[.X4,.X4,i6 0,i6 0,i6 0]⟩)] [⟨z0v0,152,3,rws K0 X7⟩]->aLp KZ c Q ⟨T,ss⟩:=by
 intro x5 X7 Yw;revert X7 Yw;refine Vd.partial_correctness x5 _ ?_;intro Vd IH X7 Yw out H c hc Q tt b1 b3 hE hR T ss z0v0 tT hF;refine lpx tt hc rfl fun q hX=>go ?_;refine cdp H (fun h H=>go ?_) (fun h H=>go ?_)
 ·refine Yj E0 [.v,.v,.v,.v,.v,.v,.v,.v,.v,.x,.v,.z] (by kernel_rfl) ?_;obtain ⟨x16,f1,H⟩:=bil (g:=cS) (fun _=>rfl) H;refine go1 ?_;refine Qvs (g:=K0) (rows:=[[.str x16,.X4,i6 Yw]]) hF 0 H Bnd.X6 true rfl (by simp only [sf,i6,zB,Vj,V7,cI,cU,cS,cL,Bnd.Ya,Fm.kind,Fm.name,Fm.num,Fm.sc,Fm.kids,Zf,Zb,Hit.one,Zg,Zh,Cor.id,Zi,Cor.num,Cor.ids,Zj,Zk,Zl,Val.num,Zm,Zc,Val.fn,Val.env,Slt.id,Slt.val,Qr,K7,K8,Kh,QS];exact (.cons (.refl _) id (.cons .X4 (fun _=>rfl) (.cons (.refl _) id .nil)))) fun x21 H v6 s7 hF=>go ?_;refine st hF 0 (hF.cells 0 rfl) fun s8 hF=>?_;refine go ?_;exact IH  x21 (i64.wrap (Yw+1)) _ H _ rfl Q tt b1 b3 hE hR _ _ v6 S hF
 ·exact wq (hE _ (pur H).symm _ _ z0v0 S hF)
theorem D1:∀  r,Ww  = some r->Y7 KZ 97 [] (.agg (K6 r)):=by
 intro  r H;intro ss;unfold Ww at H;refine hdh mixed Tryz.func97 (rs:=[.cell 0 94]) fun q tT hF hX=>?_;refine go ?_;refine X8 hF rfl fun b1 ss2 hF=>go ?_;refine X8 hF rfl fun b3 ss4 hF=>go ?_;refine st hF 0 rfl fun ss5 hF=>?_;refine go ?_;refine bp H (OL ) fun x5 h H=>cl h ?_;have hF:=hF.nil 152 3;refine go ?_;obtain ⟨o9,ho9,H⟩:=bnd H;refine CG x5 [] 1 _ ho9 _ rfl _ _ b1 b3 ?_ ?_ _ _ .X4 S hF
 ·intro Tm he T11 s12 e10v0 tT hF;have he:=he.symm;subst he;refine go ?_;refine st hF 1 rfl fun s14 hF=>?_;refine go ?_;cases pur H;exact rt _
 ·trivial
theorem MY:∀(a0:List Int) (a1 Yh:Int) out,Gf a0 a1 Yh=some out->∀c,Yf Tryz.f104 0=some c->∀(Q:QT) (tt:Sto),(∀(_u:Unit),out=Sum.inr ()->∀(T:TT) (ss:Sto),0+0=0->Fx tt ss [] []->Q (.ex 0) ⟨T,ss⟩)->(∀r,out=Sum.inl r->∀s',I6 KZ [.tmp 4] (fun r' ss'=>r'=.bool r/\ss'=tt) s'->Q .ret s')->∀(T:TT) (ss:Sto),T 0=sf cI a0/\T 1=i6 a1/\T 5=i6 Yh->Fx tt ss [] []->aLp KZ c Q ⟨T,ss⟩:=by
 intro a0 a1 Yh;revert Yh;refine Gf.partial_correctness a0 a1 _ ?_;intro Gf IH Yh out H c hc Q tt  hE hR T ss tT hF;refine lpx tt hc rfl fun q hX=>go ?_;refine cdp H (fun h H=>?_) (fun h H=>go ?_)
 ·obtain ⟨x14,f1,H⟩:=bil (g:=cI) (fun _=>rfl) H;refine go1 ?_;refine go ?_;refine cdp H (fun h H=>go ?_) (fun h H=>go ?_)
  ·exact wq (hR _ (pur H).symm _ (rt _))
  ·exact IH  (i64.wrap (Yh+1)) _ H _ rfl Q tt  hE hR _ _  S hF
 ·exact wq (hE () (pur H).symm _ _  S hF)
theorem AL:∀(a0:List Int) (a1:Int) r,GV a0 a1=some r->Y7 KZ 104 [sf cI a0,i6 a1] (.bool r):=by
 intro a0 a1 r H;intro ss;unfold GV at H;refine hdh mixed Tryz.func104 (rs:=[.tmp 4]) fun q tT hF hX=>?_;refine go ?_;obtain ⟨o1,ho1,H⟩:=bnd H;refine MY a0 a1 0 _ ho1 _ rfl _ _  ?_ ?_ _ _  S hF
 ·intro _ he T3 ss4 tT hF;have he:=he.symm;subst he
  try dsimp only at H
  refine go ?_;cases pur H;exact rt _
 ·intro r hr s' hs;subst hr;cases pur H;exact hsq hs
theorem Dy:∀(a0 a1:List Int) (Yh:Int) out,Vp a0 a1 Yh=some out->∀c,Yf Tryz.f163 0=some c->∀(Q:QT) (tt:Sto),(∀(_u:Unit),out=Sum.inr ()->∀(T:TT) (ss:Sto),0+0=0->Fx tt ss [] []->Q (.ex 0) ⟨T,ss⟩)->(∀r,out=Sum.inl r->∀s',I6 KZ [.tmp 4] (fun r' ss'=>r'=.bool r/\ss'=tt) s'->Q .ret s')->∀(T:TT) (ss:Sto),T 0=sf cI a0/\T 1=sf cI a1/\T 5=i6 Yh->Fx tt ss [] []->aLp KZ c Q ⟨T,ss⟩:=by
 intro a0 a1 Yh;revert Yh;refine Vp.partial_correctness a0 a1 _ ?_;intro Vp IH Yh out H c hc Q tt  hE hR T ss tT hF;refine lpx tt hc rfl fun q hX=>go ?_;refine cdp H (fun h H=>?_) (fun h H=>go ?_)
 ·obtain ⟨x15,f1,H⟩:=bil (g:=cI) (fun _=>rfl) H;refine go1 ?_;refine bp H (AL a1 x15) fun x17 h H=>cl h (go ?_);refine cdb H (fun h H=>go ?_) (fun h H=>go ?_)
  ·exact wq (hR _ (pur H).symm _ (rt _))
  ·exact IH  (i64.wrap (Yh+1)) _ H _ rfl Q tt  hE hR _ _  S hF
 ·exact wq (hE () (pur H).symm _ _  S hF)
theorem Bq:∀(a0 a1:List Int) r,WB a0 a1=some r->Y7 KZ 163 [sf cI a0,sf cI a1] (.bool r):=by
 intro a0 a1 r H;intro ss;unfold WB at H;refine hdh mixed Tryz.func163 (rs:=[.tmp 4]) fun q tT hF hX=>?_;refine go ?_;obtain ⟨o1,ho1,H⟩:=bnd H;refine Dy a0 a1 0 _ ho1 _ rfl _ _  ?_ ?_ _ _  S hF
 ·intro _ he T3 ss4 tT hF;have he:=he.symm;subst he
  try dsimp only at H
  refine go ?_;cases pur H;exact rt _
 ·intro r hr s' hs;subst hr;cases pur H;exact hsq hs
theorem EX:∀(a0:List Bnd) (a1:Fm) (X7:List Int) (Yy:Int) out,VE a0 a1 X7 Yy=some out->∀c,Yf Tryz.f162 0=some c->∀(Q:QT) (tt:Sto) (b1:Nat),(∀(YX:List Int),out=YX->∀(T:TT) (ss:Sto) (e0v0:AV),T 5=e0v0->Fx tt ss [(b1,⟨26,5,[i6 a1.kind,.str a1.name,i6 a1.num,sf cI a1.sc,sf KY a1.kids]⟩)] [⟨e0v0,3,1,rws cI YX⟩]->Q (.ex 0) ⟨T,ss⟩)->True->∀(T:TT) (ss:Sto) (z0v0:AV),T 0=sf K0 a0/\T 3=.ptr b1 0/\T 5=z0v0/\T 6=i6 Yy->Fx tt ss [(b1,⟨26,5,[i6 a1.kind,.str a1.name,i6 a1.num,sf cI a1.sc,sf KY a1.kids]⟩)] [⟨z0v0,3,1,rws cI X7⟩]->aLp KZ c Q ⟨T,ss⟩:=by
 intro a0 a1 X7 Yy;revert X7 Yy;refine VE.partial_correctness a0 a1 _ ?_;intro VE IH X7 Yy out H c hc Q tt b1 hE hR T ss z0v0 tT hF;refine lpx tt hc rfl fun q hX=>go ?_;refine cdp H (fun h H=>go ?_) (fun h H=>go ?_)
 ·refine Yj E0 [.v,.v,.v,.v,.v,.v,.v,.v,.v,.v,.v,.v,.v,.v,.v,.v,.v,.v] (by kernel_rfl) ?_;obtain ⟨x16,f1,H⟩:=bil (g:=K0) Bnd.X6 H;refine go1 ?_;obtain ⟨x31,g3,H⟩:=bnd H;refine V5 8 23 31 (.bool x31) (ti q (fun q=>?_) (fun q=>?_)) (fun J=>go ?_)
  ·rw [if_pos (dt q)] at g3;obtain ⟨x25,f1,g3⟩:=bil (g:=K0) Bnd.X6 g3;refine go1 ?_;obtain ⟨x30,hx30,g3⟩:=bnd g3;refine cv (Bq x25.sc a1.sc _ hx30) (go ?_);exact Yq 23 g3
  ·rw [if_neg (df q)] at g3;refine go ?_;exact Yq 23 g3
  refine cdb H (fun h H=>go ?_) (fun h H=>go ?_)
  ·refine apd (g:=cI) hF 0 H (rdo (c:=true) (g:=cI) (fun _=>rfl)) fun x35 H v5 ss6 hF=>go ?_;exact IH  x35 (i64.wrap (Yy+1)) _ H _ rfl Q tt b1 hE hR _ _ v5 S hF
  ·exact IH  X7 (i64.wrap (Yy+1)) _ H _ rfl Q tt b1 hE hR _ _ z0v0 S hF
 ·exact wq (hE _ (pur H).symm _ _ z0v0 S hF)
theorem Ma:∀(a0:List Bnd) (a1:Fm) r,Ad a0 a1=some r->Y7 KZ 162 [sf K0 a0,.agg (KY a1)] (sf cI r):=by
 intro a0 a1 r H;intro ss;unfold Ad at H;refine hdh mixed Tryz.func162 (rs:=[.tmp 4]) fun q tT hF hX=>?_;refine go ?_;refine X8 hF rfl fun b1 ss2 hF=>?_;have hF:=hF.lit 3 1 (rws cI []) rfl;refine go ?_;obtain ⟨o7,ho7,H⟩:=bnd H;refine EX a0 a1 [] 0 _ ho7 _ rfl _ _ b1 ?_ ?_ _ _ (.sl true (rws cI [])) S hF
 ·intro Qg3 he T9 s10 e8v0 tT hF;have he:=he.symm;subst he;refine go ?_;cases pur H;exact rt _
 ·trivial
theorem L9:∀(a0:List Bnd) (a1:Fm) (x12:List Int) (Yt:Int) (Ja:Bool) (HZ:Int) out,WQ a0 a1 x12 Yt Ja HZ=some out->∀c,Yf Tryz.f138 1=some c->∀(Q:QT) (tt:Sto) (b1:Nat),(∀(Qgy:Bool),out=Qgy->∀(T:TT) (ss:Sto),T 0=sf K0 a0/\T 6=sf cI x12/\T 7=i6 Yt/\T 8=.bool Qgy->Fx tt ss [(b1,⟨26,5,[i6 a1.kind,.str a1.name,i6 a1.num,sf cI a1.sc,sf KY a1.kids]⟩)] []->Q (.ex 2) ⟨T,ss⟩)->True->∀(T:TT) (ss:Sto),T 0=sf K0 a0/\T 6=sf cI x12/\T 7=i6 Yt/\T 8=.bool Ja/\T 9=i6 HZ->Fx tt ss [(b1,⟨26,5,[i6 a1.kind,.str a1.name,i6 a1.num,sf cI a1.sc,sf KY a1.kids]⟩)] []->aLp KZ c Q ⟨T,ss⟩:=by
 intro a0 a1 x12 Yt Ja HZ;revert Ja HZ;refine WQ.partial_correctness a0 a1 x12 Yt _ ?_;intro WQ IH Ja HZ out H c hc Q tt b1 hE hR T ss tT hF;refine lpx tt hc rfl fun q hX=>go ?_;refine cdp H (fun h H=>go ?_) (fun h H=>go ?_)
 ·refine Yj E0 [.v,.v,.v,.v,.v,.v,.v,.v,.v,.v,.v,.v,.v,.v,.v,.v,.v,.v,.v,.v,.v] (by kernel_rfl) (go ?_);obtain ⟨x44,g3,H⟩:=bnd H;refine V5 17 27 44 (.bool x44) (ti q (fun q=>?_) (fun q=>?_)) (fun J=>go ?_)
  ·rw [if_pos (dbt q)] at g3;obtain ⟨x30,f1,g3⟩:=bil (g:=cI) (fun _=>rfl) g3;obtain ⟨x32,f2,g3⟩:=bil (g:=K0) Bnd.X6 g3;obtain ⟨x38,f3,g3⟩:=bil (g:=cI) (fun _=>rfl) g3;obtain ⟨x40,f4,g3⟩:=bil (g:=K0) Bnd.X6 g3;refine go4 ?_;obtain ⟨x43,hx43,g3⟩:=bnd g3;refine cv (Bq x32.sc x40.sc _ hx43) (go ?_);exact Yq 27 g3
  ·rw [if_neg (dbf q)] at g3;refine go ?_;exact Yq 27 g3
  exact IH  x44 (i64.wrap (HZ+1)) _ H _ rfl Q tt b1 hE hR _ _  S hF
 ·exact wq (hE _ (pur H).symm _ _  S hF)
theorem L8:∀(a0:List Bnd) (a1:Fm) (x12:List Int) (Yt:Int) out,JD a0 a1 x12 Yt=some out->∀c,Yf Tryz.f138 0=some c->∀(Q:QT) (tt:Sto) (b1:Nat),(∀(_u:Unit),out=Sum.inr ()->∀(T:TT) (ss:Sto),T 6=sf cI x12->Fx tt ss [(b1,⟨26,5,[i6 a1.kind,.str a1.name,i6 a1.num,sf cI a1.sc,sf KY a1.kids]⟩)] []->Q (.ex 0) ⟨T,ss⟩)->(∀r,out=Sum.inl r->∀s',I6 KZ [.tmp 4,.tmp 5] (fun r' ss'=>r'=.tup [i6 r.1,i6 r.2]/\ss'=tt) s'->Q .ret s')->∀(T:TT) (ss:Sto),T 0=sf K0 a0/\T 6=sf cI x12/\T 7=i6 Yt->Fx tt ss [(b1,⟨26,5,[i6 a1.kind,.str a1.name,i6 a1.num,sf cI a1.sc,sf KY a1.kids]⟩)] []->aLp KZ c Q ⟨T,ss⟩:=by
 intro a0 a1 x12 Yt;revert Yt;refine JD.partial_correctness a0 a1 x12 _ ?_;intro JD IH Yt out H c hc Q tt b1 hE hR T ss tT hF;refine lpx tt hc rfl fun q hX=>go ?_;refine cdp H (fun h H=>go ?_) (fun h H=>go ?_)
 ·obtain ⟨o5,ho5,H⟩:=bnd H;refine L9 a0 a1 x12 Yt true 0 _ ho5 _ rfl _ _ b1 ?_ ?_ _ _  S hF
  ·intro Qjw he T7 s8 tT hF;have he:=he.symm;subst he;refine go ?_;refine cdb H (fun h H=>?_) (fun h H=>go ?_)
   ·obtain ⟨x48,f1,H⟩:=bil (g:=cI) (fun _=>rfl) H;refine go1 ?_;refine go ?_;exact wq (hR _ (pur H).symm _ (rt _))
   ·exact IH  (i64.wrap (Yt+1)) _ H _ rfl Q tt b1 hE hR _ _  S hF
  ·trivial
 ·exact wq (hE () (pur H).symm _ _  S hF)
theorem CI:∀(a0:List Bnd) (a1:Fm) r,Aj a0 a1=some r->Y7 KZ 138 [sf K0 a0,.agg (KY a1)] (.tup [i6 r.1,i6 r.2]):=by
 intro a0 a1 r H;intro ss;unfold Aj at H;refine hdh mixed Tryz.func138 (rs:=[.tmp 4,.tmp 5]) fun q tT hF hX=>?_;refine go ?_;refine X8 hF rfl fun b1 ss2 hF=>go ?_;refine bp H (Ma a0 a1) fun x12 h H=>cl h (go ?_);obtain ⟨o10,ho10,H⟩:=bnd H;refine L8 a0 a1 x12 0 _ ho10 _ rfl _ _ b1 ?_ ?_ _ _  S hF
 ·intro _ he T12 s13 tT hF;have he:=he.symm;subst he
  try dsimp only at H
  refine go ?_;refine cdp H (fun h H=>go ?_) (fun h H=>go ?_)
  ·cases pur H;exact rt _
  ·cases pur H;exact rt _
 ·intro r hr s' hs;subst hr;cases pur H;exact hsq hs
theorem Lm:∀(a0:Xpn) (a1 Yh:Int) out,W1 a0 a1 Yh=some out->∀c,Yf Tryz.f139 0=some c->∀(Q:QT) (tt:Sto) (b1:Nat),(∀(_u:Unit),out=Sum.inr ()->∀(T:TT) (ss:Sto),0+0=0->Fx tt ss [(b1,⟨94,5,[sf K0 a0.binds,sf K9 a0.macs,i6 a0.scope,i6 a0.id,i6 a0.steps]⟩)] []->Q (.ex 0) ⟨T,ss⟩)->(∀r,out=Sum.inl r->∀s',I6 KZ [.tmp 4] (fun r' ss'=>r'=i6 r/\ss'=tt) s'->Q .ret s')->∀(T:TT) (ss:Sto),T 1=i6 a1/\T 2=.ptr b1 0/\T 5=i6 Yh->Fx tt ss [(b1,⟨94,5,[sf K0 a0.binds,sf K9 a0.macs,i6 a0.scope,i6 a0.id,i6 a0.steps]⟩)] []->aLp KZ c Q ⟨T,ss⟩:=by
 intro a0 a1 Yh;revert Yh;refine W1.partial_correctness a0 a1 _ ?_;intro W1 IH Yh out H c hc Q tt b1 hE hR T ss tT hF;refine lpx tt hc rfl fun q hX=>go ?_;refine cdp H (fun h H=>?_) (fun h H=>go ?_)
 ·obtain ⟨x16,f1,H⟩:=bil (g:=K9) Mac.X6 H;refine go1 ?_;refine go ?_;refine cdp H (fun h H=>go ?_) (fun h H=>go ?_)
  ·exact wq (hR _ (pur H).symm _ (rt _))
  ·exact IH  (i64.wrap (Yh+1)) _ H _ rfl Q tt b1 hE hR _ _  S hF
 ·exact wq (hE () (pur H).symm _ _  S hF)
theorem Eu:∀(a0:Xpn) (a1:Int) r,Av a0 a1=some r->Y7 KZ 139 [.agg (K6 a0),i6 a1] (i6 r):=by
 intro a0 a1 r H;intro ss;unfold Av at H;refine hdh mixed Tryz.func139 (rs:=[.tmp 4]) fun q tT hF hX=>?_;refine go ?_;refine X8 hF rfl fun b1 ss2 hF=>go ?_;obtain ⟨o3,ho3,H⟩:=bnd H;refine Lm a0 a1 0 _ ho3 _ rfl _ _ b1 ?_ ?_ _ _  S hF
 ·intro _ he T5 ss6 tT hF;have he:=he.symm;subst he
  try dsimp only at H
  refine go ?_;cases pur H;exact rt _
 ·intro r hr s' hs;subst hr;cases pur H;exact hsq hs
theorem Dc:∀(a0:Xpn) (a1:Fm) r,Iy a0 a1=some r->Y7 KZ 119 [.agg (K6 a0),.agg (KY a1)] (.tup [i6 r.1,i6 r.2]):=by
 intro a0 a1 r H;intro ss;unfold Iy at H;refine hdh mixed Tryz.func119 (rs:=[.tmp 4,.tmp 5]) fun q tT hF hX=>?_;refine go ?_;refine X8 hF rfl fun b1 ss2 hF=>go ?_;refine X8 hF rfl fun b3 ss4 hF=>go ?_;refine bp H (CI a0.binds a1) fun x13 h H=>cl h (go ?_);refine cdp H (fun h H=>go ?_) (fun h H=>go ?_)
 ·cases pur H;exact rt _
 ·refine cdp H (fun h H=>go ?_) (fun h H=>?_)
  ·cases pur H;exact rt _
  ·obtain ⟨x24,f1,H⟩:=bil (g:=K0) Bnd.X6 H;refine go1 ?_;refine go ?_;refine cdp H (fun h H=>go ?_) (fun h H=>go ?_)
   ·cases pur H;exact rt _
   ·refine bp H (Eu a0 x24.id) fun x34 h H=>cl h (go ?_);refine cdp H (fun h H=>go ?_) (fun h H=>go ?_)
    ·cases pur H;exact rt _
    ·cases pur H;exact rt _
theorem PZ:∀(a0:Xpn) (a1:Fm) r,B2 a0 a1=some r->Y7 KZ 118 [.agg (K6 a0),.agg (KY a1)] (.tup [.agg (K6 r.1),.agg (K2 r.2.1),i6 r.2.2]):=by
 intro a0 a1 r H;intro ss;unfold B2 at H;refine hdh mixed Tryz.func118 (rs:=[.cell 4 94,.cell 5 31,.tmp 6]) fun q tT hF hX=>?_;refine go ?_;refine X8 hF rfl fun b1 ss2 hF=>go ?_;refine X8 hF rfl fun b3 ss4 hF=>go ?_;refine X8 hF rfl fun b5 ss6 hF=>go ?_;refine X8 hF rfl fun b7 s8 hF=>go ?_;refine bp H (Dc a0 a1) fun x12 h H=>cl h (go ?_);refine cdp H (fun h H=>go ?_) (fun h H=>go ?_)
 ·obtain ⟨E,hEq⟩:∃E,E=EE s8 [b5,b7]:=⟨_,rfl⟩
  have n9:¬E b3:=by rw [hEq];exact K5 (hF.at 2 rfl) (nm2 ⟨neL hF 2 1 rfl rfl (by decide),neL hF 2 0 rfl rfl (by decide)⟩)
  have n10:¬E b1:=by rw [hEq];exact K5 (hF.at 3 rfl) (nm2 ⟨neL hF 3 1 rfl rfl (by decide),neL hF 3 0 rfl rfl (by decide)⟩)
  refine Yj E [.v,.v,.v,.v,.x,.x,.v] (by kernel_rfl) ?_;have z:=K3 (X9 (hF.at 2 rfl) n9) (X9 (hF.at 3 rfl) n10);refine gh ?_;refine stK hF 1 (by rw [hEq];exact Zd (by simp)) rfl fun s11 hF=>?_;have z:=K3 (X9 (hF.at 2 rfl) n9) (X9 (hF.at 3 rfl) n10);refine gh ?_;refine stK hF 0 (by rw [hEq];exact Zd (by simp)) rfl fun s12 hF=>?_;have z:=K3 (X9 (hF.at 2 rfl) n9) (X9 (hF.at 3 rfl) n10);refine gh ?_;refine go ?_;cases pur H;exact rt [.agg [sf K0 a0.binds,sf K9 a0.macs,i6 a0.scope,i6 a0.id,i6 a0.steps],.agg [i6 2,i6 0,.str a1.name,i6 0,.X4,i6 0,.str zB,i6 0,.X4,.X4,.X4],i6 0]
 ·refine cdp H (fun h H=>go ?_) (fun h H=>go ?_)
  ·refine st hF 1 rfl fun s13 hF=>?_;refine go ?_;refine st hF 0 rfl fun s14 hF=>?_;refine go ?_;cases pur H;exact rt _
  ·refine cdp H (fun h H=>go ?_) (fun h H=>go ?_)
   ·refine st hF 1 rfl fun s15 hF=>?_;refine go ?_;refine st hF 0 rfl fun s16 hF=>?_;refine go ?_;cases pur H;exact rt _
   ·refine st hF 1 rfl fun s17 hF=>?_;refine go ?_;refine st hF 0 rfl fun s18 hF=>?_;refine go ?_;cases pur H;exact rt _
theorem C8:∀(a0:Fm) r,WL a0=some r->Y7 KZ 127 [.agg (KY a0)] (.agg (KY r)):=by
 refine WL.partial_correctness _ (motive_2:=fun a0 X7 YJ out=>∀c,Yf Tryz.f127 0=some c->∀(Q:QT) (tt:Sto) (b1 b3 b5:Nat),(∀(YX:List Fm),out=YX->∀(T:TT) (ss:Sto) (e0v0:AV),T 2=.ptr b3 0/\T 3=.ptr b5 0->Fx tt ss [(b5,⟨26,5,[i6 a0.kind,.str a0.name,i6 a0.num,.X4,e0v0]⟩),(b3,⟨26,5,[i6 0,.str zB,i6 0,.X4,.X4]⟩),(b1,⟨26,5,[i6 a0.kind,.str a0.name,i6 a0.num,sf cI a0.sc,sf KY a0.kids]⟩)] [⟨e0v0,26,5,rws KY YX⟩]->Q (.ex 0) ⟨T,ss⟩)->True->∀(T:TT) (ss:Sto) (z0v0:AV),T 1=.ptr b1 0/\T 2=.ptr b3 0/\T 3=.ptr b5 0/\T 4=i6 YJ->Fx tt ss [(b5,⟨26,5,[i6 a0.kind,.str a0.name,i6 a0.num,.X4,z0v0]⟩),(b3,⟨26,5,[i6 0,.str zB,i6 0,.X4,.X4]⟩),(b1,⟨26,5,[i6 a0.kind,.str a0.name,i6 a0.num,sf cI a0.sc,sf KY a0.kids]⟩)] [⟨z0v0,26,5,rws KY X7⟩]->aLp KZ c Q ⟨T,ss⟩) ?_ ?_
 ·intro WD L0 a0 r H;intro ss;refine hdh mixed Tryz.func127 (rs:=[.cell 2 26]) fun q tT hF hX=>?_;refine go ?_;refine X8 hF rfl fun b1 ss2 hF=>go ?_;refine X8 hF rfl fun b3 ss4 hF=>go ?_;refine X8 hF rfl fun b5 ss6 hF=>go ?_;refine st hF 0 rfl fun s7 hF=>?_;have hF:=hF.nil 26 5;refine go ?_;obtain ⟨o11,ho11,H⟩:=bnd H;refine L0 a0 [] 0 _ ho11 _ rfl _ _ b1 b3 b5 ?_ ?_ _ _ .X4 S hF
  ·intro HH he T13 s14 e12v0 tT hF;have he:=he.symm;subst he;refine go ?_;refine st hF 1 rfl fun s16 hF=>?_;refine go ?_;cases pur H;exact rt _
  ·trivial
 ·intro WL WD C0 L0 a0 X7 YJ out H c hc Q tt b1 b3 b5 hE hR T ss z0v0 tT hF;refine lpx tt hc rfl fun q hX=>go ?_;refine cdp H (fun h H=>go ?_) (fun h H=>go ?_)
  ·refine Yj E0 [.v,.v,.v,.v,.v,.v,.v,.v,.v,.x,.v,.z] (by kernel_rfl) ?_;obtain ⟨x24,f1,H⟩:=bil (g:=KY) Fm.X6 H;refine go1 ?_;refine bp H (C0 x24) fun x26 h H=>cv h (go ?_);refine NN (g:=KY) hF 0 H (rdo (c:=true) (g:=KY) Fm.X6) fun x28 H v8 s9 hF=>go ?_;refine st hF 0 (hF.cells 0 rfl) fun s10 hF=>?_;refine go ?_;exact L0 a0 x28 (i64.wrap (YJ+1)) _ H _ rfl Q tt b1 b3 b5 hE hR _ _ v8 S hF
  ·exact wq (hE _ (pur H).symm _ _ z0v0 S hF)
theorem B3:∀(a0:Xpn) r,IM a0=some r->Y7 KZ 164 [.agg (K6 a0)] (.tup [.agg (K6 r.1),.bool r.2]):=by
 intro a0 r H;intro ss;unfold IM at H;refine hdh mixed Tryz.func164 (rs:=[.cell 2 94,.tmp 3]) fun q tT hF hX=>?_;refine go ?_;refine X8 hF rfl fun b1 ss2 hF=>go ?_;refine X8 hF rfl fun b3 ss4 hF=>go ?_;refine st hF 1 rfl fun ss5 hF=>?_;refine go ?_;obtain ⟨E,hEq⟩:∃E,E=EE ss5 [b3]:=⟨_,rfl⟩
 have n6:¬E b1:=by rw [hEq];exact K5 (hF.at 1 rfl) (nm1 (neL hF 1 0 rfl rfl (by decide)))
 refine Yj E [.v,.v,.v,.v,.x,.v] (by kernel_rfl) ?_;have z:=X9 (hF.at 1 rfl) n6;refine gh ?_;refine stK hF 0 (by rw [hEq];exact Zd (by simp)) rfl fun s7 hF=>?_;have z:=X9 (hF.at 1 rfl) n6;refine gh ?_;refine go ?_;cases pur H;exact rt [.agg [sf K0 a0.binds,sf K9 a0.macs,i6 (i64.wrap (a0.scope+1)),i6 a0.id,i6 a0.steps],.bool (decide ((i64.wrap (a0.scope+1))<=99))]
theorem L6:∀(a0:List Int) (a1:Int) (X7:List Int) (Yy:Int) out,WO a0 a1 X7 Yy=some out->∀c,Yf Tryz.f181 0=some c->∀(Q:QT) (tt:Sto),(∀(YX:List Int),out=YX->∀(T:TT) (ss:Sto) (e0v0:AV),T 5=e0v0->Fx tt ss [] [⟨e0v0,3,1,rws cI YX⟩]->Q (.ex 0) ⟨T,ss⟩)->True->∀(T:TT) (ss:Sto) (z0v0:AV),T 0=sf cI a0/\T 1=i6 a1/\T 5=z0v0/\T 6=i6 Yy->Fx tt ss [] [⟨z0v0,3,1,rws cI X7⟩]->aLp KZ c Q ⟨T,ss⟩:=by
 intro a0 a1 X7 Yy;revert X7 Yy;refine WO.partial_correctness a0 a1 _ ?_;intro WO IH X7 Yy out H c hc Q tt  hE hR T ss z0v0 tT hF;refine lpx tt hc rfl fun q hX=>go ?_;refine cdp H (fun h H=>?_) (fun h H=>go ?_)
 ·obtain ⟨x16,f1,H⟩:=bil (g:=cI) (fun _=>rfl) H;refine go1 ?_;refine go ?_;refine cdn H (fun h H=>?_) (fun h H=>go ?_)
  ·obtain ⟨x23,f1,H⟩:=bil (g:=cI) (fun _=>rfl) H;refine go1 ?_;refine apd (g:=cI) hF 0 H (rdo (c:=true) (g:=cI) (fun _=>rfl)) fun x26 H v1 ss2 hF=>go ?_;exact IH  x26 (i64.wrap (Yy+1)) _ H _ rfl Q tt  hE hR _ _ v1 S hF
  ·exact IH  X7 (i64.wrap (Yy+1)) _ H _ rfl Q tt  hE hR _ _ z0v0 S hF
 ·exact wq (hE _ (pur H).symm _ _ z0v0 S hF)
theorem PI:∀(a0:List Int) (a1:Int) r,A3 a0 a1=some r->Y7 KZ 181 [sf cI a0,i6 a1] (sf cI r):=by
 intro a0 a1 r H;intro ss;unfold A3 at H;refine hdh mixed Tryz.func181 (rs:=[.tmp 4]) fun q tT hF hX=>?_;have hF:=hF.lit 3 1 (rws cI []) rfl;refine go ?_;obtain ⟨o3,ho3,H⟩:=bnd H;refine L6 a0 a1 [] 0 _ ho3 _ rfl _ _  ?_ ?_ _ _ (.sl true (rws cI [])) S hF
 ·intro Qq4 he T5 ss6 e4v0 tT hF;have he:=he.symm;subst he;refine go ?_;cases pur H;exact rt _
 ·trivial
theorem MZ:∀(a0:List Int) (a1:Int) (X7:List Int) (Yy:Bool) (Yt:Int) out,Gg a0 a1 X7 Yy Yt=some out->∀c,Yf Tryz.f182 0=some c->∀(Q:QT) (tt:Sto),(∀(YX:List Int) (Qqy:Bool),out=(YX,Qqy)->∀(T:TT) (ss:Sto) (e0v0:AV),T 1=i6 a1/\T 5=e0v0/\T 6=.bool Qqy->Fx tt ss [] [⟨e0v0,3,1,rws cI YX⟩]->Q (.ex 0) ⟨T,ss⟩)->True->∀(T:TT) (ss:Sto) (z0v0:AV),T 0=sf cI a0/\T 1=i6 a1/\T 5=z0v0/\T 6=.bool Yy/\T 7=i6 Yt->Fx tt ss [] [⟨z0v0,3,1,rws cI X7⟩]->aLp KZ c Q ⟨T,ss⟩:=by
 intro a0 a1 X7 Yy Yt;revert X7 Yy Yt;refine Gg.partial_correctness a0 a1 _ ?_;intro Gg IH X7 Yy Yt out H c hc Q tt  hE hR T ss z0v0 tT hF;refine lpx tt hc rfl fun q hX=>go ?_;refine cdp H (fun h H=>go ?_) (fun h H=>go ?_)
 ·obtain ⟨x27,g1,H⟩:=bnd H;refine Yb 6 21 27 (.bool x27) (gi q (fun q=>?_) (fun q=>?_)) (fun J=>go ?_)
  ·rw [if_pos (dbt q)] at g1;obtain ⟨x23,f1,g1⟩:=bil (g:=cI) (fun _=>rfl) g1;refine go1 ?_;refine go ?_;exact Yq 21 g1
  ·rw [if_neg (dbf q)] at g1;refine go ?_;exact Yq 21 g1
  obtain ⟨⟨Bn,Qeq⟩,j4,H⟩:=bnd H;refine V6 (fun s'=>∃(T:TT) (ss1:Sto) (y3v0:AV),s'=⟨T,ss1⟩/\(T 0=sf cI a0/\T 1=i6 a1/\T 5=y3v0/\T 6=.bool Qeq/\T 7=i6 Yt)/\Fx tt ss1 [] [⟨y3v0,3,1,rws cI Bn⟩]) (cdb j4 (fun h j4=>go ?_) (fun h j4=>go ?_)) ?_
  ·refine apd (g:=cI) hF 0 j4 (rdo (c:=true) (g:=cI) (fun _=>rfl)) fun x31 j4 v5 ss6 hF=>go ?_;cases pur j4;exact ⟨_,_,v5,rfl,S,hF⟩
  ·cases pur j4;exact ⟨_,_,z0v0,rfl,S,hF⟩
  ·rintro s' ⟨T7,s8,y3v0,rfl,tT,hF⟩;obtain ⟨x35,f1,H⟩:=bil (g:=cI) (fun _=>rfl) H;refine go1 ?_;refine apd (g:=cI) hF 0 H (rdo (c:=true) (g:=cI) (fun _=>rfl)) fun x38 H v10 s11 hF=>go ?_;exact IH  x38 Qeq (i64.wrap (Yt+1)) _ H _ rfl Q tt  hE hR _ _ v10 S hF
 ·exact wq (hE _ _ (pur H).symm _ _ z0v0 S hF)
theorem SD:∀(a0:List Int) (a1:Int) r,BD a0 a1=some r->Y7 KZ 182 [sf cI a0,i6 a1] (sf cI r):=by
 intro a0 a1 r H;intro ss;unfold BD at H;refine hdh mixed Tryz.func182 (rs:=[.tmp 4]) fun q tT hF hX=>?_;refine go ?_;refine bp H (AL a0 a1) fun x11 h H=>cl h ?_;have hF:=hF.lit 3 1 (rws cI []) rfl;refine go ?_;obtain ⟨o12,ho12,H⟩:=bnd H;refine MZ a0 a1 [] x11 0 _ ho12 _ rfl _ _  ?_ ?_ _ _ (.sl true (rws cI [])) S hF
 ·intro Rz Qmb he T14 s15 e13v0 tT hF;have he:=he.symm;subst he
  try dsimp only at H
  refine go ?_;refine cdb H (fun h H=>go ?_) (fun h H=>go ?_)
  ·refine apd (g:=cI) hF 0 H (rdo (c:=true) (g:=cI) (fun _=>rfl)) fun x44 H v17 s18 hF=>go ?_;cases pur H;exact rt _
  ·cases pur H;exact rt _
 ·trivial
theorem J1:∀(a0:Fm) (a1 a2:Int) r,Vi a0 a1 a2=some r->Y7 KZ 165 [.agg (KY a0),i6 a1,i6 a2] (.agg (KY r)):=by
 intro a0 a1 a2;revert a0;refine Vi.partial_correctness a1 a2 (motive_1:=fun a0 r=>Y7 KZ 165 [.agg (KY a0),i6 a1,i6 a2] (.agg (KY r))) (motive_2:=fun a0 HE X7 YK out=>∀c,Yf Tryz.f165 0=some c->∀(Q:QT) (tt:Sto) (b1 b3 b5:Nat),(∀(YX:List Fm),out=YX->∀(T:TT) (ss:Sto) (e0v0:AV),T 6=.ptr b3 0/\T 7=.ptr b5 0->Fx tt ss [(b5,⟨26,5,[i6 a0.kind,.str a0.name,i6 a0.num,sf cI HE,e0v0]⟩),(b3,⟨26,5,[i6 0,.str zB,i6 0,.X4,.X4]⟩),(b1,⟨26,5,[i6 a0.kind,.str a0.name,i6 a0.num,sf cI a0.sc,sf KY a0.kids]⟩)] [⟨e0v0,26,5,rws KY YX⟩]->Q (.ex 0) ⟨T,ss⟩)->True->∀(T:TT) (ss:Sto) (z0v0:AV),T 1=i6 a1/\T 2=i6 a2/\T 3=.ptr b1 0/\T 6=.ptr b3 0/\T 7=.ptr b5 0/\T 8=i6 YK->Fx tt ss [(b5,⟨26,5,[i6 a0.kind,.str a0.name,i6 a0.num,sf cI HE,z0v0]⟩),(b3,⟨26,5,[i6 0,.str zB,i6 0,.X4,.X4]⟩),(b1,⟨26,5,[i6 a0.kind,.str a0.name,i6 a0.num,sf cI a0.sc,sf KY a0.kids]⟩)] [⟨z0v0,26,5,rws KY X7⟩]->aLp KZ c Q ⟨T,ss⟩) ?_ ?_
 ·intro Jh L0 a0 r H;intro ss;refine hdh mixed Tryz.func165 (rs:=[.cell 6 26]) fun q tT hF hX=>?_;refine go ?_;refine X8 hF rfl fun b1 ss2 hF=>go ?_;refine X8 hF rfl fun b3 ss4 hF=>go ?_;refine Yj E0 [.v,.v,.v,.v,.v,.v,.v,.v,.v,.v,.v,.x,.z] (by kernel_rfl) (go ?_);obtain ⟨x18,hx18,H⟩:=bnd H;refine RG (g:=cI) (xs:=[]) (ys:=a0.sc) (fun _=>rfl) (by decide) (by decide) (.inr (by first | rfl | simp only [Vj,V7,cI,cU,cS,cL])) (.inr ⟨_,by first | rfl | simp only [Vj,V7,cI,cU,cS,cL]⟩) hx18 (go ?_);refine J8 hF rfl fun b5 ss6 hF=>go ?_;refine st hF 0 rfl fun s7 hF=>?_;refine go ?_;obtain ⟨HE,j9,H⟩:=bnd H;refine V6 (fun s'=>∃(T:TT) (ss1:Sto),s'=⟨T,ss1⟩/\(T 1=i6 a1/\T 2=i6 a2/\T 3=.ptr b1 0/\T 6=.ptr b3 0/\T 7=.ptr b5 0)/\Fx ss ss1 [(b5,⟨26,5,[i6 a0.kind,.str a0.name,i6 a0.num,sf cI HE,.X4]⟩),(b3,⟨26,5,[i6 0,.str zB,i6 0,.X4,.X4]⟩),(b1,⟨26,5,[i6 a0.kind,.str a0.name,i6 a0.num,sf cI a0.sc,sf KY a0.kids]⟩)] []) (cdp j9 (fun h j9=>go ?_) (fun h j9=>go ?_)) ?_
  ·obtain ⟨x34,g10,j9⟩:=bnd j9;refine Yb 8 26 34 (.bool x34) (giN q (fun q=>?_) (fun q=>?_)) (fun J=>go ?_)
   ·rw [if_neg (df q)] at g10;refine go ?_;obtain ⟨x33,g12,g10⟩:=bnd g10;refine Yb 4 29 33 (.bool x33) (gi q (fun q=>?_) (fun q=>?_)) (fun J=>go ?_)
    ·rw [if_pos (dt q)] at g12;refine go ?_;obtain ⟨x32,hx32,g12⟩:=bnd g12;refine cl (AL a0.sc a1 _ hx32) (go ?_);exact Yq 29 g12
    ·rw [if_neg (df q)] at g12;refine go ?_;exact Yq 29 g12
    exact Yq 26 g10
   ·rw [if_pos (dt q)] at g10;refine go ?_;exact Yq 26 g10
   refine cdb j9 (fun h j9=>go ?_) (fun h j9=>go ?_)
   ·obtain ⟨x38,hx38,j9⟩:=bnd j9;refine cl (PI a0.sc a1 _ hx38) (go ?_);refine st hF 0 rfl fun s14 hF=>?_;refine go ?_;cases pur j9;exact ⟨_,_,rfl,S,hF⟩
   ·obtain ⟨x43,hx43,j9⟩:=bnd j9;refine cl (SD a0.sc a1 _ hx43) (go ?_);refine st hF 0 rfl fun s15 hF=>?_;refine go ?_;cases pur j9;exact ⟨_,_,rfl,S,hF⟩
  ·cases pur j9;exact ⟨_,_,rfl,S,hF⟩
  ·rintro s' ⟨T16,s17,rfl,tT,hF⟩;have hF:=hF.nil 26 5;refine go ?_;obtain ⟨o22,ho22,H⟩:=bnd H;refine L0 a0 HE [] 0 _ ho22 _ rfl _ _ b1 b3 b5 ?_ ?_ _ _ .X4 S hF
   ·intro Tr he T24 s25 e23v0 tT hF;have he:=he.symm;subst he;refine go ?_;refine st hF 1 rfl fun s27 hF=>?_;refine go ?_;cases pur H;exact rt _
   ·trivial
 ·intro Vi Jh C0 L0 a0 HE X7 YK out H c hc Q tt b1 b3 b5 hE hR T ss z0v0 tT hF;refine lpx tt hc rfl fun q hX=>go ?_;refine cdp H (fun h H=>go ?_) (fun h H=>go ?_)
  ·refine Yj E0 [.v,.v,.v,.v,.v,.v,.v,.v,.v,.v,.v,.x,.v,.z] (by kernel_rfl) ?_;obtain ⟨x57,f1,H⟩:=bil (g:=KY) Fm.X6 H;refine go1 ?_;refine bp H (C0 x57) fun x61 h H=>cv h (go ?_);refine NN (g:=KY) hF 0 H (rdo (c:=true) (g:=KY) Fm.X6) fun x63 H v19 s20 hF=>go ?_;refine st hF 0 (hF.cells 0 rfl) fun s21 hF=>?_;refine go ?_;exact L0 a0 HE x63 (i64.wrap (YK+1)) _ H _ rfl Q tt b1 b3 b5 hE hR _ _ v19 S hF
  ·exact wq (hE _ (pur H).symm _ _ z0v0 S hF)
theorem LZ:∀(a0 a1:List Int) (Yh:Int) out,JC a0 a1 Yh=some out->∀c,Yf Tryz.f145 0=some c->∀(Q:QT) (tt:Sto),(∀(_u:Unit),out=Sum.inr ()->∀(T:TT) (ss:Sto),0+0=0->Fx tt ss [] []->Q (.ex 0) ⟨T,ss⟩)->(∀r,out=Sum.inl r->∀s',I6 KZ [.tmp 4] (fun r' ss'=>r'=.bool r/\ss'=tt) s'->Q .ret s')->∀(T:TT) (ss:Sto),T 0=sf cI a0/\T 1=sf cI a1/\T 5=i6 Yh->Fx tt ss [] []->aLp KZ c Q ⟨T,ss⟩:=by
 intro a0 a1 Yh;revert Yh;refine JC.partial_correctness a0 a1 _ ?_;intro JC IH Yh out H c hc Q tt  hE hR T ss tT hF;refine lpx tt hc rfl fun q hX=>go ?_;refine cdp H (fun h H=>go ?_) (fun h H=>go ?_)
 ·refine Yj E0 [.v,.v,.v,.v,.v,.v,.v,.v,.v] (by kernel_rfl) ?_;obtain ⟨x19,f1,H⟩:=bil (g:=cI) (fun _=>rfl) H;obtain ⟨x23,f2,H⟩:=bil (g:=cI) (fun _=>rfl) H;refine go2 ?_;refine go ?_;refine cdn H (fun h H=>go ?_) (fun h H=>go ?_)
  ·exact wq (hR _ (pur H).symm _ (rt _))
  ·exact IH  (i64.wrap (Yh+1)) _ H _ rfl Q tt  hE hR _ _  S hF
 ·exact wq (hE () (pur H).symm _ _  S hF)
theorem E6:∀(a0 a1:List Int) r,A2 a0 a1=some r->Y7 KZ 145 [sf cI a0,sf cI a1] (.bool r):=by
 intro a0 a1 r H;intro ss;unfold A2 at H;refine hdh mixed Tryz.func145 (rs:=[.tmp 4]) fun q tT hF hX=>?_;refine go ?_;refine cdn H (fun h H=>go ?_) (fun h H=>go ?_)
 ·cases pur H;exact rt _
 ·obtain ⟨o1,ho1,H⟩:=bnd H;refine LZ a0 a1 0 _ ho1 _ rfl _ _  ?_ ?_ _ _  S hF
  ·intro _ he T3 ss4 tT hF;have he:=he.symm;subst he
   try dsimp only at H
   refine go ?_;cases pur H;exact rt _
  ·intro r hr s' hs;subst hr;cases pur H;exact hsq hs
theorem Ei:∀(a0:List Bnd) (Yw Pj:Int) out,Wa a0 Yw Pj=some out->∀c,Yf Tryz.f185 1=some c->∀(Q:QT) (tt:Sto),(∀(_u:Unit),out=Sum.inr ()->∀(T:TT) (ss:Sto),T 0=sf K0 a0/\T 3=i6 Yw->Fx tt ss [] []->Q (.ex 2) ⟨T,ss⟩)->(∀r,out=Sum.inl r->∀s',I6 KZ [.tmp 2] (fun r' ss'=>r'=.bool r/\ss'=tt) s'->Q .ret s')->∀(T:TT) (ss:Sto),T 0=sf K0 a0/\T 3=i6 Yw/\T 4=i6 Pj->Fx tt ss [] []->aLp KZ c Q ⟨T,ss⟩:=by
 intro a0 Yw Pj;revert Pj;refine Wa.partial_correctness a0 Yw _ ?_;intro Wa IH Pj out H c hc Q tt  hE hR T ss tT hF;refine lpx tt hc rfl fun q hX=>go ?_;refine cdp H (fun h H=>go ?_) (fun h H=>go ?_)
 ·refine Yj E0 [.v,.v,.v,.v,.v,.v,.v,.v,.v,.v,.v,.v,.v,.v,.v,.v,.v,.v,.v,.v,.v,.v,.v,.v] (by kernel_rfl) ?_;obtain ⟨x54,f1,H⟩:=bil (g:=K0) Bnd.X6 H;obtain ⟨x59,f2,H⟩:=bil (g:=K0) Bnd.X6 H;refine go2 ?_;obtain ⟨x75,g9,H⟩:=bnd H;refine V5 11 64 75 (.bool x75) (ti q (fun q=>?_) (fun q=>?_)) (fun J=>go ?_)
  ·rw [if_pos (dt q)] at g9;obtain ⟨x66,f1,g9⟩:=bil (g:=K0) Bnd.X6 g9;obtain ⟨x71,f2,g9⟩:=bil (g:=K0) Bnd.X6 g9;refine go2 ?_;obtain ⟨x74,hx74,g9⟩:=bnd g9;refine cv (E6 x66.sc x71.sc _ hx74) (go ?_);exact Yq 64 g9
  ·rw [if_neg (df q)] at g9;refine go ?_;exact Yq 64 g9
  refine cdb H (fun h H=>go ?_) (fun h H=>go ?_)
  ·exact wq (hR _ (pur H).symm _ (rt _))
  ·exact IH  (i64.wrap (Pj+1)) _ H _ rfl Q tt  hE hR _ _  S hF
 ·exact wq (hE () (pur H).symm _ _  S hF)
theorem Eh:∀(a0:List Bnd) (Yw:Int) out,V9 a0 Yw=some out->∀c,Yf Tryz.f185 0=some c->∀(Q:QT) (tt:Sto),(∀(_u:Unit),out=Sum.inr ()->∀(T:TT) (ss:Sto),T 0=sf K0 a0->Fx tt ss [] []->Q (.ex 0) ⟨T,ss⟩)->(∀r,out=Sum.inl r->∀s',I6 KZ [.tmp 2] (fun r' ss'=>r'=.bool r/\ss'=tt) s'->Q .ret s')->∀(T:TT) (ss:Sto),T 0=sf K0 a0/\T 3=i6 Yw->Fx tt ss [] []->aLp KZ c Q ⟨T,ss⟩:=by
 intro a0 Yw;revert Yw;refine V9.partial_correctness a0 _ ?_;intro V9 IH Yw out H c hc Q tt  hE hR T ss tT hF;refine lpx tt hc rfl fun q hX=>go ?_;obtain ⟨x12,g1,H⟩:=bnd H;refine Yb 2 10 12 (.bool x12) (gi q (fun q=>go ?_) (fun q=>go ?_)) (fun J=>go ?_)
 ·exact Yq 10 g1
 ·exact Yq 10 g1
 refine cdb H (fun h H=>?_) (fun h H=>go ?_)
 ·obtain ⟨x17,f1,H⟩:=bil (g:=K0) Bnd.X6 H;refine go1 ?_;refine bp H (A0 x17.name) fun x20 h H=>cl h (go ?_);obtain ⟨x30,g3,H⟩:=bnd H;refine Yb 7 23 30 (.bool x30) (giN q (fun q=>?_) (fun q=>?_)) (fun J=>go ?_)
  ·rw [if_neg (dbf q)] at g3;obtain ⟨x25,f1,g3⟩:=bil (g:=K0) Bnd.X6 g3;refine go1 ?_;obtain ⟨x28,hx28,g3⟩:=bnd g3;refine cl (DI x25.sc _ hx28) (go ?_);exact Yq 23 g3
  ·rw [if_pos (dbt q)] at g3;refine go ?_;exact Yq 23 g3
  obtain ⟨x38,g5,H⟩:=bnd H;refine Yb 6 32 38 (.bool x38) (giN q (fun q=>?_) (fun q=>?_)) (fun J=>go ?_)
  ·rw [if_neg (dbf q)] at g5;obtain ⟨x34,f1,g5⟩:=bil (g:=K0) Bnd.X6 g5;refine go1 ?_;refine go ?_;exact Yq 32 g5
  ·rw [if_pos (dbt q)] at g5;refine go ?_;exact Yq 32 g5
  obtain ⟨x46,g7,H⟩:=bnd H;refine Yb 6 40 46 (.bool x46) (giN q (fun q=>?_) (fun q=>?_)) (fun J=>go ?_)
  ·rw [if_neg (dbf q)] at g7;obtain ⟨x42,f1,g7⟩:=bil (g:=K0) Bnd.X6 g7;refine go1 ?_;refine go ?_;exact Yq 40 g7
  ·rw [if_pos (dbt q)] at g7;refine go ?_;exact Yq 40 g7
  refine cdb H (fun h H=>go ?_) (fun h H=>go ?_)
  ·exact wq (hR _ (pur H).symm _ (rt _))
  ·obtain ⟨o11,ho11,H⟩:=bnd H;refine Ei a0 Yw 0 _ ho11 _ rfl _ _  ?_ ?_ _ _  S hF
   ·intro _ he T13 s14 tT hF;have he:=he.symm;subst he
    try dsimp only at H
    refine go ?_;exact IH  (i64.wrap (Yw+1)) _ H _ rfl Q tt  hE hR _ _  S hF
   ·intro r hr s' hs;subst hr;exact wq (hR _ (pur H).symm _ hs)
 ·exact wq (hE () (pur H).symm _ _  S hF)
theorem AJ:∀(a0:List Bnd) r,GZ a0=some r->Y7 KZ 185 [sf K0 a0] (.bool r):=by
 intro a0 r H;intro ss;unfold GZ at H;refine hdh mixed Tryz.func185 (rs:=[.tmp 2]) fun q tT hF hX=>?_;refine go ?_;obtain ⟨o16,ho16,H⟩:=bnd H;refine Eh a0 0 _ ho16 _ rfl _ _  ?_ ?_ _ _  S hF
 ·intro _ he T18 s19 tT hF;have he:=he.symm;subst he
  try dsimp only at H
  refine go ?_;cases pur H;exact rt _
 ·intro r hr s' hs;subst hr;cases pur H;exact hsq hs
theorem MC:∀(a0:Fm) r,Db a0=some r->Y7 KZ 191 [.agg (KY a0)] (.bool r):=by
 intro a0 r H;intro ss;unfold Db at H;refine hdh mixed Tryz.func191 (rs:=[.tmp 2]) fun q tT hF hX=>?_;refine go ?_;refine X8 hF rfl fun b1 ss2 hF=>go ?_;obtain ⟨x9,g3,H⟩:=bnd H;refine Yb 2 7 9 (.bool x9) (gi q (fun q=>?_) (fun q=>?_)) (fun J=>go ?_)
 ·rw [if_pos (dt q)] at g3;refine go ?_;obtain ⟨x8,hx8,g3⟩:=bnd g3;refine cl (YW a0 _ hx8) (go ?_);exact Yq 7 g3
 ·rw [if_neg (df q)] at g3;refine go ?_;exact Yq 7 g3
 cases pur H;exact rt _
theorem EW:∀(a0 X7:List Bnd) (YJ:Int) out,V4 a0 X7 YJ=some out->∀c,Yf Tryz.f192 0=some c->∀(Q:QT) (tt0:Sto),(∀(YX:List Bnd),out=YX->∀(T:TT) (ss tt:Sto) (e0v0:AV),T 3=e0v0->Tau tt0 [] tt->Fx tt ss [] [⟨e0v0,152,3,rws K0 YX⟩]->Q (.ex 0) ⟨T,ss⟩)->True->∀(T:TT) (ss tt:Sto) (z0v0:AV),T 0=sf K0 a0/\T 3=z0v0/\T 4=i6 YJ->Tau tt0 [] tt->Fx tt ss [] [⟨z0v0,152,3,rws K0 X7⟩]->aLp KZ c Q ⟨T,ss⟩:=by
 intro a0 X7 YJ;revert X7 YJ;refine V4.partial_correctness a0 _ ?_;intro V4 IH X7 YJ out H c hc Q tt0  hE hR T ss tt z0v0 tT hX hF;refine lpy hc rfl fun q=>go ?_;refine cdp H (fun h H=>?_) (fun h H=>go ?_)
 ·obtain ⟨x15,f1,H⟩:=bil (g:=K0) Bnd.X6 H;refine go1 ?_;refine X8 hF rfl fun b1 ss2 hF=>go ?_;refine st hF 0 rfl fun ss3 hF=>?_;refine go ?_;refine apv (g:=cI) H (fun _=>rfl) (rdo (c:=false) (g:=cI) (fun _=>rfl)) fun x20 H=>go ?_;refine st hF 0 rfl fun ss4 hF=>?_;refine go ?_;refine apd (g:=K0) hF 0 H (rdo (c:=true) (g:=K0) Bnd.X6) fun x25 H v5 ss6 hF=>go ?_;exact IH  x25 (i64.wrap (YJ+1)) _ H _ rfl Q tt0  hE hR _ _ _ v5 S hX (hF.drop 1 0)
 ·exact wq (hE _ (pur H).symm _ _ _ z0v0 S hX hF)
theorem L7:∀(a0:List Bnd) r,Ac a0=some r->∀   (ss:Sto),Pre ss [] []->Ctr KZ 192 [sf K0 a0] ss (fun r' ss'=>∃(tt':Sto) (w0:AV),r'=w0/\Tau (strip ss []) [] tt'/\Fx tt' ss' [] [⟨w0,152,3,rws K0 r⟩]):=by
 intro a0 r H;intro   ss hP;unfold Ac at H;refine hdg mixed Tryz.func192 (rs:=[.tmp 2]) fun q tT=>?_;obtain ⟨hF,hX⟩:=hP.start;generalize strip ss []=tt0 at hF hX ⊢;have hF:=hF.lit 152 3 (rws K0 []) rfl;refine go ?_;obtain ⟨o7,ho7,H⟩:=bnd H;refine EW a0 [] 0 _ ho7 _ rfl _ tt0  ?_ ?_ _ _ _ (.sl true (rws K0 [])) S hX hF
 ·intro Qg3 he T9 s10 t11 e8v0 tT hX hF;have he:=he.symm;subst he;refine go ?_;cases pur H;exact rg _ ⟨_,_,rfl,hX,hF.pick [] [0] (by decide) (by decide)⟩
 ·trivial
theorem Ot:∀(a0:List Bnd) (a1:Fm) (a2:Int) r,Bf a0 a1 a2=some r->Y7 KZ 183 [sf K0 a0,.agg (KY a1),i6 a2] (.tup [sf K0 r.1,.bool r.2]):=by
 intro a0 a1 a2 r H;intro ss;unfold Bf at H;refine hdh mixed Tryz.func183 (rs:=[.tmp 6,.tmp 7]) fun q tT hF hX=>?_;refine go ?_;refine X8 hF rfl fun b1 ss2 hF=>go ?_;refine bp H (AJ a0) fun x10 h H=>cl h (go ?_);obtain ⟨x16,g3,H⟩:=bnd H;refine Yb 3 13 16 (.bool x16) (giN q (fun q=>?_) (fun q=>?_)) (fun J=>go ?_)
 ·rw [if_neg (dbf q)] at g3;refine go ?_;obtain ⟨x14,hx14,g3⟩:=bnd g3;refine cl (MC a1 _ hx14) (go ?_);exact Yq 13 g3
 ·rw [if_pos (dbt q)] at g3;refine go ?_;exact Yq 13 g3
 refine cdb H (fun h H=>go ?_) (fun h H=>go ?_)
 ·cases pur H;exact rt _
 ·obtain ⟨E,hEq⟩:∃E,E=EE ss2 []:=⟨_,rfl⟩
  have n5:¬E b1:=by rw [hEq];exact K5 (hF.at 0 rfl) (by simp)
  refine FQ E [.v,.v,.v,.v,.v,.v,.v,.x,.v,.v,.v,.x,.v] [0,2,3,4,5,6,8,1,7,9,10,11,12] (by kernel_rfl) ?_;have z:=X9 (hF.at 0 rfl) n5;refine gh ?_;obtain ⟨x19,hx19,H⟩:=bnd H;refine cx (L7 a0 _ hx19   _ (pre 0 0 0 hF hX)) ?_;rintro v6 s7 ⟨t8,_,rfl,hT,hG⟩
  refine AB (Za hT hG (by intro p hp;simp only [Kj,KC,or_false] at hp<;>first | (rcases hp with rfl<;>(rw [hEq];first | (refine Zd ?_;simp;done) | exact Ze rfl))| cases hp)) fun kp10=>?_
  have hF:=Pm 0 0 hF hX hT hG;have z:=X9 (hF.at 0 rfl) n5;refine gh ?_;obtain ⟨x25,hx25,H⟩:=bnd H;refine RG (g:=cI) (xs:=[]) (ys:=a1.sc) (fun _=>rfl) (by decide) (by decide) (.inr (by first | rfl | simp only [Vj,V7,cI,cU,cS,cL])) (.inr ⟨_,by first | rfl | simp only [Vj,V7,cI,cU,cS,cL]⟩) hx25 ?_;have z:=X9 (hF.at 0 rfl) n5;refine gh ?_;refine NN (g:=K0) hF 0 H (rdo (c:=true) (g:=K0) Bnd.X6) fun x29 H v11 s12 hF=>?_;have z:=X9 (hF.at 0 rfl) n5;refine gh ?_;refine go ?_;obtain ⟨x31,hx31,H⟩:=bnd H;refine CP (AJ x29 _ hx31) .bool (.cons ((hF.wk 0 rfl).trans (Wk.sub (Sub.zero _) _)) (fun _=>rfl) .nil) (go ?_);refine cdb H (fun h H=>go ?_) (fun h H=>go ?_)
  ·cases pur H;exact rt _
  ·cases pur H;exact rt _
theorem Fa:∀(a0:Xpn) (a1:Fm) r,IL a0 a1=some r->Y7 KZ 166 [.agg (K6 a0),.agg (KY a1)] (.tup [.agg (K6 r.1),i6 r.2]):=by
 intro a0 a1 r H;intro ss;unfold IL at H;refine hdh mixed Tryz.func166 (rs:=[.cell 4 94,.tmp 5]) fun q tT hF hX=>?_;refine go ?_;refine X8 hF rfl fun b1 ss2 hF=>go ?_;refine X8 hF rfl fun b3 ss4 hF=>go ?_;refine X8 hF rfl fun b5 ss6 hF=>go ?_;refine cdp H (fun h H=>go ?_) (fun h H=>go ?_)
 ·refine st hF 0 rfl fun s7 hF=>?_;refine go ?_;cases pur H;exact rt _
 ·obtain ⟨x20,hx20,H⟩:=bnd H;refine cl (Ot a0.binds a1 (i64.wrap (a0.id+1)) _ hx20) (go ?_);refine cdb H (fun h H=>go ?_) (fun h H=>go ?_)
  ·refine st hF 0 rfl fun s8 hF=>?_;refine go ?_;cases pur H;exact rt _
  ·refine st hF 2 rfl fun s9 hF=>?_;refine go ?_;refine st hF 2 rfl fun s10 hF=>?_;refine go ?_;refine st hF 0 rfl fun s11 hF=>?_;refine go ?_;cases pur H;exact rt _
theorem Lo:∀(a0:Fm) (X7 HG:List Fm) (Yt:Int) out,W2 a0 X7 HG Yt=some out->∀c,Yf Tryz.f141 0=some c->∀(Q:QT) (tt:Sto) (b1:Nat),(∀(YX Qgs:List Fm),out=Sum.inr (YX,Qgs)->∀(T:TT) (ss:Sto) (e0v0 e0v1:AV),T 1=.ptr b1 0/\T 5=e0v0/\T 6=e0v1->Fx tt ss [(b1,⟨26,5,[i6 a0.kind,.str a0.name,i6 a0.num,sf cI a0.sc,sf KY a0.kids]⟩)] [⟨e0v1,26,5,rws KY Qgs⟩,⟨e0v0,26,5,rws KY YX⟩]->Q (.ex 0) ⟨T,ss⟩)->(∀r,out=Sum.inl r->∀s',I6 KZ [.tmp 2,.tmp 3,.tmp 4] (fun r' ss'=>r'=.tup [sf KY r.1,sf KY r.2.1,.bool r.2.2]/\ss'=tt) s'->Q .ret s')->∀(T:TT) (ss:Sto) (z0v0 z0v1:AV),T 1=.ptr b1 0/\T 5=z0v0/\T 6=z0v1/\T 7=i6 Yt->Fx tt ss [(b1,⟨26,5,[i6 a0.kind,.str a0.name,i6 a0.num,sf cI a0.sc,sf KY a0.kids]⟩)] [⟨z0v1,26,5,rws KY HG⟩,⟨z0v0,26,5,rws KY X7⟩]->aLp KZ c Q ⟨T,ss⟩:=by
 intro a0 X7 HG Yt;revert X7 HG Yt;refine W2.partial_correctness a0 _ ?_;intro W2 IH X7 HG Yt out H c hc Q tt b1 hE hR T ss z0v0 z0v1 tT hF;refine lpx tt hc rfl fun q hX=>go ?_;refine cdp H (fun h H=>?_) (fun h H=>go ?_)
 ·obtain ⟨x20,f1,H⟩:=bil (g:=KY) Fm.X6 H;refine go1 ?_;obtain ⟨x33,g3,H⟩:=bnd H;refine Yb 8 25 33 (.bool x33) (giN q (fun q=>?_) (fun q=>?_)) (fun J=>go ?_)
  ·rw [if_pos (dnf q)] at g3;obtain ⟨x28,f1,g3⟩:=bil (g:=KY) Fm.X6 g3;refine go1 ?_;refine go ?_;exact Yq 25 g3
  ·rw [if_neg (dnt q)] at g3;refine go ?_;exact Yq 25 g3
  refine cdb H (fun h H=>go ?_) (fun h H=>?_)
  ·exact wq (hR _ (pur H).symm _ (rt _))
  ·obtain ⟨x40,f1,H⟩:=bil (g:=KY) Fm.X6 H;obtain ⟨x43,f2,H⟩:=bil (g:=KY) Fm.X6 H;refine go2 ?_;refine apd (g:=KY) hF 1 H (rdo (c:=true) (g:=KY) Fm.X6) fun x46 H v5 ss6 hF=>?_;obtain ⟨x51,f1,H⟩:=bil (g:=KY) Fm.X6 H;obtain ⟨x54,f2,H⟩:=bil (g:=KY) Fm.X6 H;refine go2 ?_;refine apd (g:=KY) hF 0 H (rdo (c:=true) (g:=KY) Fm.X6) fun x57 H v7 s8 hF=>go ?_;exact IH  x46 x57 (i64.wrap (Yt+1)) _ H _ rfl Q tt b1 hE hR _ _ v5 v7 S hF
 ·exact wq (hE _ _ (pur H).symm _ _ z0v0 z0v1 S hF)
theorem OM:∀(a0:Fm) r,Bi a0=some r->Y7 KZ 141 [.agg (KY a0)] (.tup [sf KY r.1,sf KY r.2.1,.bool r.2.2]):=by
 intro a0 r H;intro ss;unfold Bi at H;refine hdh mixed Tryz.func141 (rs:=[.tmp 2,.tmp 3,.tmp 4]) fun q tT hF hX=>?_;refine go ?_;refine X8 hF rfl fun b1 ss2 hF=>?_;have hF:=hF.lit 26 5 (rws KY []) rfl;have hF:=hF.lit 26 5 (rws KY []) rfl;refine go ?_;obtain ⟨o9,ho9,H⟩:=bnd H;refine Lo a0 [] [] 0 _ ho9 _ rfl _ _ b1 ?_ ?_ _ _ (.sl true (rws KY [])) (.sl true (rws KY [])) S hF
 ·intro Tm Qma he T11 s12 e10v0 e10v1 tT hF;have he:=he.symm;subst he
  try dsimp only at H
  refine go ?_;refine Yj E0 [.v,.v,.v,.v,.v,.v,.v,.v] (by kernel_rfl) (go ?_);cases pur H;exact rt _
 ·intro r hr s' hs;subst hr;cases pur H;exact hsq hs
theorem Hh:∀(a0 a1:Fm) r,Vh a0 a1=some r->Y7 KZ 126 [.agg (KY a0),.agg (KY a1)] (.bool r):=by
 refine Vh.partial_correctness _ (motive_2:=fun a0 a1 Yh out=>∀c,Yf Tryz.f126 0=some c->∀(Q:QT) (tt:Sto) (b1 b3:Nat),(∀(_u:Unit),out=Sum.inr ()->∀(T:TT) (ss:Sto),0+0=0->Fx tt ss [(b3,⟨26,5,[i6 a1.kind,.str a1.name,i6 a1.num,sf cI a1.sc,sf KY a1.kids]⟩),(b1,⟨26,5,[i6 a0.kind,.str a0.name,i6 a0.num,sf cI a0.sc,sf KY a0.kids]⟩)] []->Q (.ex 0) ⟨T,ss⟩)->(∀r,out=Sum.inl r->∀s',I6 KZ [.tmp 4] (fun r' ss'=>r'=.bool r/\ss'=tt) s'->Q .ret s')->∀(T:TT) (ss:Sto),T 2=.ptr b1 0/\T 3=.ptr b3 0/\T 5=i6 Yh->Fx tt ss [(b3,⟨26,5,[i6 a1.kind,.str a1.name,i6 a1.num,sf cI a1.sc,sf KY a1.kids]⟩),(b1,⟨26,5,[i6 a0.kind,.str a0.name,i6 a0.num,sf cI a0.sc,sf KY a0.kids]⟩)] []->aLp KZ c Q ⟨T,ss⟩) ?_ ?_
 ·intro Jg L0 a0 a1 r H;intro ss;refine hdh mixed Tryz.func126 (rs:=[.tmp 4]) fun q tT hF hX=>?_;refine go ?_;refine X8 hF rfl fun b1 ss2 hF=>go ?_;refine X8 hF rfl fun b3 ss4 hF=>go ?_;obtain ⟨x17,g5,H⟩:=bnd H;refine Yb 5 12 17 (.bool x17) (giN q (fun q=>go ?_) (fun q=>go ?_)) (fun J=>go ?_)
  ·exact Yq 12 g5
  ·exact Yq 12 g5
  obtain ⟨x24,g7,H⟩:=bnd H;refine Yb 5 19 24 (.bool x24) (giN q (fun q=>go ?_) (fun q=>go ?_)) (fun J=>go ?_)
  ·exact Yq 19 g7
  ·exact Yq 19 g7
  obtain ⟨x32,g9,H⟩:=bnd H;refine Yb 6 26 32 (.bool x32) (giN q (fun q=>?_) (fun q=>?_)) (fun J=>go ?_)
  ·rw [if_neg (dbf q)] at g9;refine go ?_;obtain ⟨x30,hx30,g9⟩:=bnd g9;refine cl (E6 a0.sc a1.sc _ hx30) (go ?_);exact Yq 26 g9
  ·rw [if_pos (dbt q)] at g9;refine go ?_;exact Yq 26 g9
  obtain ⟨x41,g11,H⟩:=bnd H;refine Yb 7 34 41 (.bool x41) (giN q (fun q=>go ?_) (fun q=>go ?_)) (fun J=>go ?_)
  ·exact Yq 34 g11
  ·exact Yq 34 g11
  refine cdb H (fun h H=>go ?_) (fun h H=>go ?_)
  ·cases pur H;exact rt _
  ·obtain ⟨o13,ho13,H⟩:=bnd H;refine L0 a0 a1 0 _ ho13 _ rfl _ _ b1 b3 ?_ ?_ _ _  S hF
   ·intro _ he T15 s16 tT hF;have he:=he.symm;subst he
    try dsimp only at H
    refine go ?_;cases pur H;exact rt _
   ·intro r hr s' hs;subst hr;cases pur H;exact hsq hs
 ·intro Vh Jg C0 L0 a0 a1 Yh out H c hc Q tt b1 b3 hE hR T ss tT hF;refine lpx tt hc rfl fun q hX=>go ?_;refine cdp H (fun h H=>go ?_) (fun h H=>go ?_)
  ·refine Yj E0 [.v,.v,.v,.v,.v,.v,.v,.v,.v,.v,.v,.v] (by kernel_rfl) ?_;obtain ⟨x52,f1,H⟩:=bil (g:=KY) Fm.X6 H;obtain ⟨x57,f2,H⟩:=bil (g:=KY) Fm.X6 H;refine go2 ?_;refine bp H (C0 x52 x57) fun x59 h H=>cv h (go ?_);refine cdb H (fun h H=>go ?_) (fun h H=>go ?_)
   ·exact wq (hR _ (pur H).symm _ (rt _))
   ·exact L0 a0 a1 (i64.wrap (Yh+1)) _ H _ rfl Q tt b1 b3 hE hR _ _  S hF
  ·exact wq (hE () (pur H).symm _ _  S hF)
theorem Oy:∀(a0:List Fm) (a1:Fm) (Yh:Int) out,Hn a0 a1 Yh=some out->∀c,Yf Tryz.f195 0=some c->∀(Q:QT) (tt:Sto) (b1:Nat),(∀(_u:Unit),out=Sum.inr ()->∀(T:TT) (ss:Sto),0+0=0->Fx tt ss [(b1,⟨26,5,[i6 a1.kind,.str a1.name,i6 a1.num,sf cI a1.sc,sf KY a1.kids]⟩)] []->Q (.ex 0) ⟨T,ss⟩)->(∀r,out=Sum.inl r->∀s',I6 KZ [.tmp 4] (fun r' ss'=>r'=.bool r/\ss'=tt) s'->Q .ret s')->∀(T:TT) (ss:Sto),T 0=sf KY a0/\T 3=.ptr b1 0/\T 5=i6 Yh->Fx tt ss [(b1,⟨26,5,[i6 a1.kind,.str a1.name,i6 a1.num,sf cI a1.sc,sf KY a1.kids]⟩)] []->aLp KZ c Q ⟨T,ss⟩:=by
 intro a0 a1 Yh;revert Yh;refine Hn.partial_correctness a0 a1 _ ?_;intro Hn IH Yh out H c hc Q tt b1 hE hR T ss tT hF;refine lpx tt hc rfl fun q hX=>go ?_;refine cdp H (fun h H=>go ?_) (fun h H=>go ?_)
 ·refine Yj E0 [.v,.v,.v,.v,.v,.v] (by kernel_rfl) ?_;obtain ⟨x14,f1,H⟩:=bil (g:=KY) Fm.X6 H;refine go1 ?_;refine bp H (Hh x14 a1) fun x17 h H=>cv h (go ?_);refine cdb H (fun h H=>go ?_) (fun h H=>go ?_)
  ·exact wq (hR _ (pur H).symm _ (rt _))
  ·exact IH  (i64.wrap (Yh+1)) _ H _ rfl Q tt b1 hE hR _ _  S hF
 ·exact wq (hE () (pur H).symm _ _  S hF)
theorem Cq:∀(a0:List Fm) (a1:Fm) r,AM a0 a1=some r->Y7 KZ 195 [sf KY a0,.agg (KY a1)] (.bool r):=by
 intro a0 a1 r H;intro ss;unfold AM at H;refine hdh mixed Tryz.func195 (rs:=[.tmp 4]) fun q tT hF hX=>?_;refine go ?_;refine X8 hF rfl fun b1 ss2 hF=>go ?_;obtain ⟨o3,ho3,H⟩:=bnd H;refine Oy a0 a1 0 _ ho3 _ rfl _ _ b1 ?_ ?_ _ _  S hF
 ·intro _ he T5 ss6 tT hF;have he:=he.symm;subst he
  try dsimp only at H
  refine go ?_;cases pur H;exact rt _
 ·intro r hr s' hs;subst hr;cases pur H;exact hsq hs
theorem Ep:∀(a0:List Fm) (Yw:Int) out,Wf a0 Yw=some out->∀c,Yf Tryz.f194 0=some c->∀(Q:QT) (tt:Sto),(∀(_u:Unit),out=Sum.inr ()->∀(T:TT) (ss:Sto),T 0=sf KY a0->Fx tt ss [] []->Q (.ex 0) ⟨T,ss⟩)->(∀r,out=Sum.inl r->∀s',I6 KZ [.tmp 2] (fun r' ss'=>r'=.bool r/\ss'=tt) s'->Q .ret s')->∀(T:TT) (ss:Sto),T 0=sf KY a0/\T 3=i6 Yw->Fx tt ss [] []->aLp KZ c Q ⟨T,ss⟩:=by
 intro a0 Yw;revert Yw;refine Wf.partial_correctness a0 _ ?_;intro Wf IH Yw out H c hc Q tt  hE hR T ss tT hF;refine lpx tt hc rfl fun q hX=>go ?_;obtain ⟨x11,g1,H⟩:=bnd H;refine Yb 2 9 11 (.bool x11) (gi q (fun q=>go ?_) (fun q=>go ?_)) (fun J=>go ?_)
 ·exact Yq 9 g1
 ·exact Yq 9 g1
 refine cdb H (fun h H=>go ?_) (fun h H=>go ?_)
 ·refine Yj E0 [.v,.v,.v,.v,.v,.v,.v,.v,.v,.v,.v,.v,.v,.v,.v,.v,.v,.v,.v,.v,.v,.v,.v,.v,.v,.v,.v,.v,.v,.v,.v,.v] (by kernel_rfl) ?_;obtain ⟨x16,f1,H⟩:=bil (g:=KY) Fm.X6 H;refine go1 ?_;refine bp H (MC x16) fun x18 h H=>cv h (go ?_);obtain ⟨x27,g3,H⟩:=bnd H;refine V5 6 21 27 (.bool x27) (tiN q (fun q=>?_) (fun q=>?_)) (fun J=>go ?_)
  ·rw [if_neg (dbf q)] at g3;obtain ⟨x23,f1,g3⟩:=bil (g:=KY) Fm.X6 g3;refine go1 ?_;refine go ?_;exact Yq 21 g3
  ·rw [if_pos (dbt q)] at g3;refine go ?_;exact Yq 21 g3
  obtain ⟨x35,g5,H⟩:=bnd H;refine V5 6 29 35 (.bool x35) (tiN q (fun q=>?_) (fun q=>?_)) (fun J=>go ?_)
  ·rw [if_neg (dbf q)] at g5;obtain ⟨x31,f1,g5⟩:=bil (g:=KY) Fm.X6 g5;refine go1 ?_;refine go ?_;exact Yq 29 g5
  ·rw [if_pos (dbt q)] at g5;refine go ?_;exact Yq 29 g5
  obtain ⟨x45,g7,H⟩:=bnd H;refine V5 8 37 45 (.bool x45) (tiN q (fun q=>?_) (fun q=>?_)) (fun J=>go ?_)
  ·rw [if_neg (dbf q)] at g7;obtain ⟨x39,f1,g7⟩:=bls (g:=KY) Fm.X6 (lo:=none) (hi:=some (i6 Yw)) rfl rfl g7;obtain ⟨x42,f2,g7⟩:=bil (g:=KY) Fm.X6 g7;refine go2 ?_;obtain ⟨x44,hx44,g7⟩:=bnd g7;refine cv (Cq x39 x42 _ hx44) (go ?_);exact Yq 37 g7
  ·rw [if_pos (dbt q)] at g7;refine go ?_;exact Yq 37 g7
  refine cdb H (fun h H=>go ?_) (fun h H=>go ?_)
  ·exact wq (hR _ (pur H).symm _ (rt _))
  ·exact IH  (i64.wrap (Yw+1)) _ H _ rfl Q tt  hE hR _ _  S hF
 ·exact wq (hE () (pur H).symm _ _  S hF)
theorem Cr:∀(a0:List Fm) r,HP a0=some r->Y7 KZ 194 [sf KY a0] (.bool r):=by
 intro a0 r H;intro ss;unfold HP at H;refine hdh mixed Tryz.func194 (rs:=[.tmp 2]) fun q tT hF hX=>?_;refine go ?_;obtain ⟨o9,ho9,H⟩:=bnd H;refine Ep a0 0 _ ho9 _ rfl _ _  ?_ ?_ _ _  S hF
 ·intro _ he T11 s12 tT hF;have he:=he.symm;subst he
  try dsimp only at H
  refine go ?_;cases pur H;exact rt _
 ·intro r hr s' hs;subst hr;cases pur H;exact hsq hs
theorem VF:∀(a0:Fm) r,YZ a0=some r->Y7 KZ 200 [.agg (KY a0)] (.bool r):=by
 intro a0 r H;intro ss;unfold YZ at H;refine hdh mixed Tryz.func200 (rs:=[.tmp 2]) fun q tT hF hX=>?_;refine go ?_;refine X8 hF rfl fun b1 ss2 hF=>go ?_;obtain ⟨x10,g3,H⟩:=bnd H;refine Yb 3 7 10 (.bool x10) (gi q (fun q=>go ?_) (fun q=>go ?_)) (fun J=>go ?_)
 ·exact Yq 7 g3
 ·exact Yq 7 g3
 cases pur H;exact rt _
theorem OD:∀(a0:Fm) r,H2 a0=some r->Y7 KZ 209 [.agg (KY a0)] (.bool r):=by
 refine H2.partial_correctness _ (motive_2:=fun a0 Yw YJ out=>∀c,Yf Tryz.f209 0=some c->∀(Q:QT) (tt:Sto) (b1:Nat),(∀(NY:Int),out=Sum.inr NY->∀(T:TT) (ss:Sto),T 3=i6 NY->Fx tt ss [(b1,⟨26,5,[i6 a0.kind,.str a0.name,i6 a0.num,sf cI a0.sc,sf KY a0.kids]⟩)] []->Q (.ex 0) ⟨T,ss⟩)->(∀r,out=Sum.inl r->∀s',I6 KZ [.tmp 2] (fun r' ss'=>r'=.bool r/\ss'=tt) s'->Q .ret s')->∀(T:TT) (ss:Sto),T 1=.ptr b1 0/\T 3=i6 Yw/\T 4=i6 YJ->Fx tt ss [(b1,⟨26,5,[i6 a0.kind,.str a0.name,i6 a0.num,sf cI a0.sc,sf KY a0.kids]⟩)] []->aLp KZ c Q ⟨T,ss⟩) ?_ ?_
 ·intro WZ L0 a0 r H;intro ss;refine hdh mixed Tryz.func209 (rs:=[.tmp 2]) fun q tT hF hX=>?_;refine go ?_;refine X8 hF rfl fun b1 ss2 hF=>go ?_;refine bp H (VF a0) fun x6 h H=>cl h (go ?_);refine cdb H (fun h H=>go ?_) (fun h H=>go ?_)
  ·cases pur H;exact rt _
  ·obtain ⟨o5,ho5,H⟩:=bnd H;refine L0 a0 0 0 _ ho5 _ rfl _ _ b1 ?_ ?_ _ _  S hF
   ·intro Qnx he T7 s8 tT hF;have he:=he.symm;subst he
    try dsimp only at H
    refine go ?_;cases pur H;exact rt _
   ·intro r hr s' hs;subst hr;cases pur H;exact hsq hs
 ·intro H2 WZ C0 L0 a0 Yw YJ out H c hc Q tt b1 hE hR T ss tT hF;refine lpx tt hc rfl fun q hX=>go ?_;refine cdp H (fun h H=>?_) (fun h H=>go ?_)
  ·obtain ⟨x17,f1,H⟩:=bil (g:=KY) Fm.X6 H;refine go1 ?_;refine bp H (VF x17) fun x19 h H=>cl h (go ?_);refine cdb H (fun h H=>go ?_) (fun h H=>?_)
   ·obtain ⟨x32,g3,H⟩:=bnd H;refine Yb 7 25 32 (.bool x32) (giN q (fun q=>?_) (fun q=>?_)) (fun J=>go ?_)
    ·rw [if_neg (df q)] at g3;obtain ⟨x29,f1,g3⟩:=bil (g:=KY) Fm.X6 g3;refine go1 ?_;obtain ⟨x31,hx31,g3⟩:=bnd g3;refine cl (VF x29 _ hx31) (go ?_);exact Yq 25 g3
    ·rw [if_pos (dt q)] at g3;refine go ?_;exact Yq 25 g3
    refine cdb H (fun h H=>go ?_) (fun h H=>go ?_)
    ·exact wq (hR _ (pur H).symm _ (rt _))
    ·exact L0 a0 (i64.wrap (Yw+1)) (i64.wrap (YJ+1)) _ H _ rfl Q tt b1 hE hR _ _  S hF
   ·obtain ⟨x36,f1,H⟩:=bil (g:=KY) Fm.X6 H;refine go1 ?_;refine bp H (C0 x36) fun x38 h H=>cl h (go ?_);refine cdb H (fun h H=>go ?_) (fun h H=>go ?_)
    ·exact wq (hR _ (pur H).symm _ (rt _))
    ·exact L0 a0 Yw (i64.wrap (YJ+1)) _ H _ rfl Q tt b1 hE hR _ _  S hF
  ·exact wq (hE _ (pur H).symm _ _  S hF)
theorem By:∀(a0:Fm) (a1:List Fm) r,Aq a0 a1=some r->Y7 KZ 216 [.agg (KY a0),sf KY a1] (.bool r):=by
 intro a0 a1 r H;intro ss;unfold Aq at H;refine hdh mixed Tryz.func216 (rs:=[.tmp 4]) fun q tT hF hX=>?_;refine go ?_;refine X8 hF rfl fun b1 ss2 hF=>go ?_;obtain ⟨x12,g3,H⟩:=bnd H;refine Yb 3 9 12 (.bool x12) (gi q (fun q=>go ?_) (fun q=>go ?_)) (fun J=>go ?_)
 ·exact Yq 9 g3
 ·exact Yq 9 g3
 obtain ⟨x17,g5,H⟩:=bnd H;refine Yb 3 14 17 (.bool x17) (gi q (fun q=>go ?_) (fun q=>go ?_)) (fun J=>go ?_)
 ·exact Yq 14 g5
 ·exact Yq 14 g5
 obtain ⟨x23,g7,H⟩:=bnd H;refine Yb 4 19 23 (.bool x23) (gi q (fun q=>?_) (fun q=>?_)) (fun J=>go ?_)
 ·rw [if_pos (dbt q)] at g7;refine go ?_;obtain ⟨x21,hx21,g7⟩:=bnd g7;refine cl (Cq a1 a0 _ hx21) (go ?_);exact Yq 19 g7
 ·rw [if_neg (dbf q)] at g7;refine go ?_;exact Yq 19 g7
 cases pur H;exact rt _
theorem Mf:∀(a0:List Fm) (a1:Fm) (a2:List Fm) r,JI a0 a1 a2=some r->∀  (p0:AV) (ss:Sto),Pre ss [] [⟨p0,26,5,rws KY a0⟩]->Ctr KZ 210 [p0,.agg (KY a1),sf KY a2] ss (fun r' ss'=>∃(tt':Sto) (w0:AV),r'=w0/\Tau (strip ss [⟨p0,26,5,rws KY a0⟩]) [] tt'/\Fx tt' ss' [] [⟨w0,26,5,rws KY r⟩]):=by
 intro a0 a1 a2;revert a0 a1;refine JI.partial_correctness a2 (motive_1:=fun a0 a1 r=>∀  (p0:AV) (ss:Sto),Pre ss [] [⟨p0,26,5,rws KY a0⟩]->Ctr KZ 210 [p0,.agg (KY a1),sf KY a2] ss (fun r' ss'=>∃(tt':Sto) (w0:AV),r'=w0/\Tau (strip ss [⟨p0,26,5,rws KY a0⟩]) [] tt'/\Fx tt' ss' [] [⟨w0,26,5,rws KY r⟩])) (motive_2:=fun a1 X7 Yt out=>∀c,Yf Tryz.f210 0=some c->∀(Q:QT) (tt0:Sto) (b1:Nat),(∀(YX:List Fm),out=YX->∀(T:TT) (ss tt:Sto) (e0v0:AV),T 0=e0v0->Tau tt0 [] tt->Fx tt ss [(b1,⟨26,5,[i6 a1.kind,.str a1.name,i6 a1.num,sf cI a1.sc,sf KY a1.kids]⟩)] [⟨e0v0,26,5,rws KY YX⟩]->Q (.ex 0) ⟨T,ss⟩)->True->∀(T:TT) (ss tt:Sto) (z0v0:AV),T 0=z0v0/\T 2=sf KY a2/\T 4=.ptr b1 0/\T 7=i6 Yt->Tau tt0 [] tt->Fx tt ss [(b1,⟨26,5,[i6 a1.kind,.str a1.name,i6 a1.num,sf cI a1.sc,sf KY a1.kids]⟩)] [⟨z0v0,26,5,rws KY X7⟩]->aLp KZ c Q ⟨T,ss⟩) ?_ ?_
 ·intro WH L0 a0 a1 r H;intro  p0 ss hP;refine hdg mixed Tryz.func210 (rs:=[.tmp 6]) fun q tT=>?_;obtain ⟨hF,hX⟩:=hP.start;generalize strip ss [⟨p0,26,5,rws KY a0⟩]=tt0 at hF hX ⊢;refine go ?_;refine X8 hF rfl fun b1 ss2 hF=>go ?_;refine bp H (By a1 a2) fun x10 h H=>cl h (go ?_);obtain ⟨Bn,j4,H⟩:=bnd H;refine V6 (fun s'=>∃(T:TT) (ss1 tt1:Sto) (y3v0:AV),s'=⟨T,ss1⟩/\(T 0=y3v0/\T 2=sf KY a2/\T 4=.ptr b1 0)/\Tau tt0 [] tt1/\Fx tt1 ss1 [(b1,⟨26,5,[i6 a1.kind,.str a1.name,i6 a1.num,sf cI a1.sc,sf KY a1.kids]⟩)] [⟨y3v0,26,5,rws KY Bn⟩]) (cdb j4 (fun h j4=>go ?_) (fun h j4=>go ?_)) ?_
  ·refine apd (g:=KY) hF 0 j4 (rdo (c:=true) (g:=KY) Fm.X6) fun x14 j4 v5 ss6 hF=>go ?_;cases pur j4;exact ⟨_,_,_,v5,rfl,S,hX,hF⟩
  ·cases pur j4;exact ⟨_,_,_,p0,rfl,S,hX,hF⟩
  ·rintro s' ⟨T7,s8,tt9,y3v0,rfl,tT,hX,hF⟩;refine go ?_;obtain ⟨o14,ho14,H⟩:=bnd H;refine L0 a1 Bn 0 _ ho14 _ rfl _ tt0 b1 ?_ ?_ _ _ _ y3v0 S hX hF
   ·intro Jm he T16 s17 t18 e15v0 tT hX hF;have he:=he.symm;subst he;refine go ?_;cases pur H;exact rg _ ⟨_,_,rfl,hX,hF.pick [] [0] (by decide) (by decide)⟩
   ·trivial
 ·intro JI WH C0 L0 a1 X7 Yt out H c hc Q tt0 b1 hE hR T ss tt z0v0 tT hX hF;refine lpy hc rfl fun q=>go ?_;refine cdp H (fun h H=>?_) (fun h H=>go ?_)
  ·obtain ⟨x26,f1,H⟩:=bil (g:=KY) Fm.X6 H;refine go1 ?_;obtain ⟨x29,hx29,H⟩:=bnd H;refine cx (C0 X7 x26 _ hx29  z0v0 _ (pre 0 0 1 hF hX)) ?_;rintro v10 s11 ⟨t12,_,rfl,hT,hG⟩;obtain ⟨t13,hX,hF⟩:=aft 0 0 1 hF hX hT hG;refine go ?_;exact L0 a1 x29 (i64.wrap (Yt+1)) _ H _ rfl Q tt0 b1 hE hR _ _ _ v10 S hX hF
  ·exact wq (hE _ (pur H).symm _ _ _ z0v0 S hX hF)
theorem Me:∀(a1:Fm) (a2 X7:List Fm) (Yt:Int) out,JH a1 a2 X7 Yt=some out->∀c,Yf Tryz.f210 0=some c->∀(Q:QT) (tt0:Sto) (b1:Nat),(∀(YX:List Fm),out=YX->∀(T:TT) (ss tt:Sto) (e0v0:AV),T 0=e0v0->Tau tt0 [] tt->Fx tt ss [(b1,⟨26,5,[i6 a1.kind,.str a1.name,i6 a1.num,sf cI a1.sc,sf KY a1.kids]⟩)] [⟨e0v0,26,5,rws KY YX⟩]->Q (.ex 0) ⟨T,ss⟩)->True->∀(T:TT) (ss tt:Sto) (z0v0:AV),T 0=z0v0/\T 2=sf KY a2/\T 4=.ptr b1 0/\T 7=i6 Yt->Tau tt0 [] tt->Fx tt ss [(b1,⟨26,5,[i6 a1.kind,.str a1.name,i6 a1.num,sf cI a1.sc,sf KY a1.kids]⟩)] [⟨z0v0,26,5,rws KY X7⟩]->aLp KZ c Q ⟨T,ss⟩:=by
 intro a1 a2 X7 Yt;revert X7 Yt;refine JH.partial_correctness a1 a2 _ ?_;intro JH IH X7 Yt out H c hc Q tt0 b1 hE hR T ss tt z0v0 tT hX hF;refine lpy hc rfl fun q=>go ?_;refine cdp H (fun h H=>?_) (fun h H=>go ?_)
 ·obtain ⟨x26,f1,H⟩:=bil (g:=KY) Fm.X6 H;refine go1 ?_;obtain ⟨x29,hx29,H⟩:=bnd H;refine cx (Mf X7 x26 a2 _ hx29  z0v0 _ (pre 0 0 1 hF hX)) ?_;rintro v10 s11 ⟨t12,_,rfl,hT,hG⟩;obtain ⟨t13,hX,hF⟩:=aft 0 0 1 hF hX hT hG;refine go ?_;exact IH  x29 (i64.wrap (Yt+1)) _ H _ rfl Q tt0 b1 hE hR _ _ _ v10 S hX hF
 ·exact wq (hE _ (pur H).symm _ _ _ z0v0 S hX hF)
theorem CJ:∀(a0:List Fm) (a1:Fm) (a2:List Fm) r,Al a0 a1 a2=some r->∀  (p0:AV) (ss:Sto),Pre ss [] [⟨p0,26,5,rws KY a0⟩]->Ctr KZ 210 [p0,.agg (KY a1),sf KY a2] ss (fun r' ss'=>∃(tt':Sto),r'=sf KY r/\Tau (strip ss [⟨p0,26,5,rws KY a0⟩]) [] tt'/\Fx tt' ss' [] []):=by
 intro a0 a1 a2 r H;intro  p0 ss hP;unfold Al at H;refine hdg mixed Tryz.func210 (rs:=[.tmp 6]) fun q tT=>?_;obtain ⟨hF,hX⟩:=hP.start;generalize strip ss [⟨p0,26,5,rws KY a0⟩]=tt0 at hF hX ⊢;refine go ?_;refine X8 hF rfl fun b1 ss2 hF=>go ?_;refine bp H (By a1 a2) fun x10 h H=>cl h (go ?_);obtain ⟨Bn,j4,H⟩:=bnd H;refine V6 (fun s'=>∃(T:TT) (ss1 tt1:Sto) (y3v0:AV),s'=⟨T,ss1⟩/\(T 0=y3v0/\T 2=sf KY a2/\T 4=.ptr b1 0)/\Tau tt0 [] tt1/\Fx tt1 ss1 [(b1,⟨26,5,[i6 a1.kind,.str a1.name,i6 a1.num,sf cI a1.sc,sf KY a1.kids]⟩)] [⟨y3v0,26,5,rws KY Bn⟩]) (cdb j4 (fun h j4=>go ?_) (fun h j4=>go ?_)) ?_
 ·refine apd (g:=KY) hF 0 j4 (rdo (c:=true) (g:=KY) Fm.X6) fun x14 j4 v5 ss6 hF=>go ?_;cases pur j4;exact ⟨_,_,_,v5,rfl,S,hX,hF⟩
 ·cases pur j4;exact ⟨_,_,_,p0,rfl,S,hX,hF⟩
 ·rintro s' ⟨T7,s8,tt9,y3v0,rfl,tT,hX,hF⟩;refine go ?_;obtain ⟨o14,ho14,H⟩:=bnd H;refine Me a1 a2 Bn 0 _ ho14 _ rfl _ tt0 b1 ?_ ?_ _ _ _ y3v0 S hX hF
  ·intro Jm he T16 s17 t18 e15v0 tT hX hF;have he:=he.symm;subst he;refine go ?_;cases pur H;exact rg _ ⟨_,rfl,hX,K1 _⟩
  ·trivial
theorem FE:∀(a0:List Int) (a1:Fm) (a2:List Fm) (a3:Int) r,VB a0 a1 a2 a3=some r->∀  (p0:AV) (ss:Sto),Pre ss [] [⟨p0,3,1,rws cI a0⟩]->Ctr KZ 211 [p0,.agg (KY a1),sf KY a2,i6 a3] ss (fun r' ss'=>∃(tt':Sto) (w0:AV),r'=w0/\Tau (strip ss [⟨p0,3,1,rws cI a0⟩]) [] tt'/\Fx tt' ss' [] [⟨w0,3,1,rws cI r⟩]):=by
 intro a0 a1 a2 a3;revert a0 a1 a3;refine VB.partial_correctness a2 (motive_1:=fun a0 a1 a3 r=>∀  (p0:AV) (ss:Sto),Pre ss [] [⟨p0,3,1,rws cI a0⟩]->Ctr KZ 211 [p0,.agg (KY a1),sf KY a2,i6 a3] ss (fun r' ss'=>∃(tt':Sto) (w0:AV),r'=w0/\Tau (strip ss [⟨p0,3,1,rws cI a0⟩]) [] tt'/\Fx tt' ss' [] [⟨w0,3,1,rws cI r⟩])) (motive_2:=fun a1 a3 X7 YU out=>∀c,Yf Tryz.f211 0=some c->∀(Q:QT) (tt0:Sto) (b1:Nat),(∀(YX:List Int),out=YX->∀(T:TT) (ss tt:Sto) (e0v0:AV),T 0=e0v0->Tau tt0 [] tt->Fx tt ss [(b1,⟨26,5,[i6 a1.kind,.str a1.name,i6 a1.num,sf cI a1.sc,sf KY a1.kids]⟩)] [⟨e0v0,3,1,rws cI YX⟩]->Q (.ex 0) ⟨T,ss⟩)->True->∀(T:TT) (ss tt:Sto) (z0v0:AV),T 0=z0v0/\T 2=sf KY a2/\T 3=i6 a3/\T 5=.ptr b1 0/\T 9=i6 YU->Tau tt0 [] tt->Fx tt ss [(b1,⟨26,5,[i6 a1.kind,.str a1.name,i6 a1.num,sf cI a1.sc,sf KY a1.kids]⟩)] [⟨z0v0,3,1,rws cI X7⟩]->aLp KZ c Q ⟨T,ss⟩) ?_ ?_
 ·intro VS L0 a0 a1 a3 r H;intro  p0 ss hP;refine hdg mixed Tryz.func211 (rs:=[.tmp 8]) fun q tT=>?_;obtain ⟨hF,hX⟩:=hP.start;generalize strip ss [⟨p0,3,1,rws cI a0⟩]=tt0 at hF hX ⊢;refine go ?_;refine X8 hF rfl fun b1 ss2 hF=>go ?_;refine bp H (By a1 a2) fun x13 h H=>cl h (go ?_);obtain ⟨Bn,j4,H⟩:=bnd H;refine V6 (fun s'=>∃(T:TT) (ss1 tt1:Sto) (y3v0:AV),s'=⟨T,ss1⟩/\(T 0=y3v0/\T 2=sf KY a2/\T 3=i6 a3/\T 5=.ptr b1 0)/\Tau tt0 [] tt1/\Fx tt1 ss1 [(b1,⟨26,5,[i6 a1.kind,.str a1.name,i6 a1.num,sf cI a1.sc,sf KY a1.kids]⟩)] [⟨y3v0,3,1,rws cI Bn⟩]) (cdb j4 (fun h j4=>go ?_) (fun h j4=>go ?_)) ?_
  ·refine apd (g:=cI) hF 0 j4 (rdo (c:=true) (g:=cI) (fun _=>rfl)) fun x17 j4 v5 ss6 hF=>go ?_;cases pur j4;exact ⟨_,_,_,v5,rfl,S,hX,hF⟩
  ·cases pur j4;exact ⟨_,_,_,p0,rfl,S,hX,hF⟩
  ·rintro s' ⟨T7,s8,tt9,y3v0,rfl,tT,hX,hF⟩;refine go ?_;obtain ⟨o21,ho21,H⟩:=bnd H;refine L0 a1 a3 Bn 0 _ ho21 _ rfl _ tt0 b1 ?_ ?_ _ _ _ y3v0 S hX hF
   ·intro DG he T23 s24 t25 e22v0 tT hX hF;have he:=he.symm;subst he;refine go ?_;cases pur H;exact rg _ ⟨_,_,rfl,hX,hF.pick [] [0] (by decide) (by decide)⟩
   ·trivial
 ·intro VB VS C0 L0 a1 a3 X7 YU out H c hc Q tt0 b1 hE hR T ss tt z0v0 tT hX hF;refine lpy hc rfl fun q=>go ?_;refine cdp H (fun h H=>go ?_) (fun h H=>go ?_)
  ·obtain ⟨x40,g10,H⟩:=bnd H;refine Yb 7 33 40 (.bool x40) (gi q (fun q=>?_) (fun q=>?_)) (fun J=>go ?_)
   ·rw [if_pos (dt q)] at g10;obtain ⟨x37,f1,g10⟩:=bil (g:=KY) Fm.X6 g10;refine go1 ?_;obtain ⟨x39,hx39,g10⟩:=bnd g10;refine cl (VF x37 _ hx39) (go ?_);exact Yq 33 g10
   ·rw [if_neg (df q)] at g10;refine go ?_;exact Yq 33 g10
   obtain ⟨A8,j13,H⟩:=bnd H;refine V6 (fun s'=>∃(T:TT) (ss1 tt1:Sto),s'=⟨T,ss1⟩/\(T 0=z0v0/\T 2=sf KY a2/\T 3=i6 a3/\T 5=.ptr b1 0/\T 9=i6 YU/\T 10=i6 A8)/\Tau tt0 [] tt1/\Fx tt1 ss1 [(b1,⟨26,5,[i6 a1.kind,.str a1.name,i6 a1.num,sf cI a1.sc,sf KY a1.kids]⟩)] [⟨z0v0,3,1,rws cI X7⟩]) (cdb j13 (fun h j13=>go ?_) (fun h j13=>go ?_)) ?_
   ·cases pur j13;exact ⟨_,_,_,rfl,S,hX,hF⟩
   ·cases pur j13;exact ⟨_,_,_,rfl,S,hX,hF⟩
   ·rintro s' ⟨T14,s15,t16,rfl,tT,hX,hF⟩;obtain ⟨x47,f1,H⟩:=bil (g:=KY) Fm.X6 H;refine go1 ?_;obtain ⟨x51,hx51,H⟩:=bnd H;refine cx (C0 X7 x47 A8 _ hx51  z0v0 _ (pre 0 0 1 hF hX)) ?_;rintro v17 s18 ⟨t19,_,rfl,hT,hG⟩;obtain ⟨tt20,hX,hF⟩:=aft 0 0 1 hF hX hT hG;refine go ?_;exact L0 a1 a3 x51 (i64.wrap (YU+1)) _ H _ rfl Q tt0 b1 hE hR _ _ _ v17 S hX hF
  ·exact wq (hE _ (pur H).symm _ _ _ z0v0 S hX hF)
theorem FD:∀(a1:Fm) (a2:List Fm) (a3:Int) (X7:List Int) (YU:Int) out,Ws a1 a2 a3 X7 YU=some out->∀c,Yf Tryz.f211 0=some c->∀(Q:QT) (tt0:Sto) (b1:Nat),(∀(YX:List Int),out=YX->∀(T:TT) (ss tt:Sto) (e0v0:AV),T 0=e0v0->Tau tt0 [] tt->Fx tt ss [(b1,⟨26,5,[i6 a1.kind,.str a1.name,i6 a1.num,sf cI a1.sc,sf KY a1.kids]⟩)] [⟨e0v0,3,1,rws cI YX⟩]->Q (.ex 0) ⟨T,ss⟩)->True->∀(T:TT) (ss tt:Sto) (z0v0:AV),T 0=z0v0/\T 2=sf KY a2/\T 3=i6 a3/\T 5=.ptr b1 0/\T 9=i6 YU->Tau tt0 [] tt->Fx tt ss [(b1,⟨26,5,[i6 a1.kind,.str a1.name,i6 a1.num,sf cI a1.sc,sf KY a1.kids]⟩)] [⟨z0v0,3,1,rws cI X7⟩]->aLp KZ c Q ⟨T,ss⟩:=by
 intro a1 a2 a3 X7 YU;revert X7 YU;refine Ws.partial_correctness a1 a2 a3 _ ?_;intro Ws IH X7 YU out H c hc Q tt0 b1 hE hR T ss tt z0v0 tT hX hF;refine lpy hc rfl fun q=>go ?_;refine cdp H (fun h H=>go ?_) (fun h H=>go ?_)
 ·obtain ⟨x40,g10,H⟩:=bnd H;refine Yb 7 33 40 (.bool x40) (gi q (fun q=>?_) (fun q=>?_)) (fun J=>go ?_)
  ·rw [if_pos (dt q)] at g10;obtain ⟨x37,f1,g10⟩:=bil (g:=KY) Fm.X6 g10;refine go1 ?_;obtain ⟨x39,hx39,g10⟩:=bnd g10;refine cl (VF x37 _ hx39) (go ?_);exact Yq 33 g10
  ·rw [if_neg (df q)] at g10;refine go ?_;exact Yq 33 g10
  obtain ⟨A8,j13,H⟩:=bnd H;refine V6 (fun s'=>∃(T:TT) (ss1 tt1:Sto),s'=⟨T,ss1⟩/\(T 0=z0v0/\T 2=sf KY a2/\T 3=i6 a3/\T 5=.ptr b1 0/\T 9=i6 YU/\T 10=i6 A8)/\Tau tt0 [] tt1/\Fx tt1 ss1 [(b1,⟨26,5,[i6 a1.kind,.str a1.name,i6 a1.num,sf cI a1.sc,sf KY a1.kids]⟩)] [⟨z0v0,3,1,rws cI X7⟩]) (cdb j13 (fun h j13=>go ?_) (fun h j13=>go ?_)) ?_
  ·cases pur j13;exact ⟨_,_,_,rfl,S,hX,hF⟩
  ·cases pur j13;exact ⟨_,_,_,rfl,S,hX,hF⟩
  ·rintro s' ⟨T14,s15,t16,rfl,tT,hX,hF⟩;obtain ⟨x47,f1,H⟩:=bil (g:=KY) Fm.X6 H;refine go1 ?_;obtain ⟨x51,hx51,H⟩:=bnd H;refine cx (FE X7 x47 a2 A8 _ hx51  z0v0 _ (pre 0 0 1 hF hX)) ?_;rintro v17 s18 ⟨t19,_,rfl,hT,hG⟩;obtain ⟨tt20,hX,hF⟩:=aft 0 0 1 hF hX hT hG;refine go ?_;exact IH  x51 (i64.wrap (YU+1)) _ H _ rfl Q tt0 b1 hE hR _ _ _ v17 S hX hF
 ·exact wq (hE _ (pur H).symm _ _ _ z0v0 S hX hF)
theorem Bm:∀(a0:List Int) (a1:Fm) (a2:List Fm) (a3:Int) r,Ia a0 a1 a2 a3=some r->∀  (p0:AV) (ss:Sto),Pre ss [] [⟨p0,3,1,rws cI a0⟩]->Ctr KZ 211 [p0,.agg (KY a1),sf KY a2,i6 a3] ss (fun r' ss'=>∃(tt':Sto),r'=sf cI r/\Tau (strip ss [⟨p0,3,1,rws cI a0⟩]) [] tt'/\Fx tt' ss' [] []):=by
 intro a0 a1 a2 a3 r H;intro  p0 ss hP;unfold Ia at H;refine hdg mixed Tryz.func211 (rs:=[.tmp 8]) fun q tT=>?_;obtain ⟨hF,hX⟩:=hP.start;generalize strip ss [⟨p0,3,1,rws cI a0⟩]=tt0 at hF hX ⊢;refine go ?_;refine X8 hF rfl fun b1 ss2 hF=>go ?_;refine bp H (By a1 a2) fun x13 h H=>cl h (go ?_);obtain ⟨Bn,j4,H⟩:=bnd H;refine V6 (fun s'=>∃(T:TT) (ss1 tt1:Sto) (y3v0:AV),s'=⟨T,ss1⟩/\(T 0=y3v0/\T 2=sf KY a2/\T 3=i6 a3/\T 5=.ptr b1 0)/\Tau tt0 [] tt1/\Fx tt1 ss1 [(b1,⟨26,5,[i6 a1.kind,.str a1.name,i6 a1.num,sf cI a1.sc,sf KY a1.kids]⟩)] [⟨y3v0,3,1,rws cI Bn⟩]) (cdb j4 (fun h j4=>go ?_) (fun h j4=>go ?_)) ?_
 ·refine apd (g:=cI) hF 0 j4 (rdo (c:=true) (g:=cI) (fun _=>rfl)) fun x17 j4 v5 ss6 hF=>go ?_;cases pur j4;exact ⟨_,_,_,v5,rfl,S,hX,hF⟩
 ·cases pur j4;exact ⟨_,_,_,p0,rfl,S,hX,hF⟩
 ·rintro s' ⟨T7,s8,tt9,y3v0,rfl,tT,hX,hF⟩;refine go ?_;obtain ⟨o21,ho21,H⟩:=bnd H;refine FD a1 a2 a3 Bn 0 _ ho21 _ rfl _ tt0 b1 ?_ ?_ _ _ _ y3v0 S hX hF
  ·intro DG he T23 s24 t25 e22v0 tT hX hF;have he:=he.symm;subst he;refine go ?_;cases pur H;exact rg _ ⟨_,rfl,hX,K1 _⟩
  ·trivial
theorem Oz:∀(a0:Fm) (a1 x25:List Fm) (Yy:Int) out,Ho a0 a1 x25 Yy=some out->∀c,Yf Tryz.f203 0=some c->∀(Q:QT) (tt:Sto) (b1:Nat),(∀(_u:Unit),out=Sum.inr ()->∀(T:TT) (ss:Sto),T 1=sf KY a1/\T 2=.ptr b1 0/\T 5=sf KY x25->Fx tt ss [(b1,⟨26,5,[i6 a0.kind,.str a0.name,i6 a0.num,sf cI a0.sc,sf KY a0.kids]⟩)] []->Q (.ex 0) ⟨T,ss⟩)->(∀r,out=Sum.inl r->∀s',I6 KZ [.tmp 4] (fun r' ss'=>r'=.bool r/\ss'=tt) s'->Q .ret s')->∀(T:TT) (ss:Sto),T 1=sf KY a1/\T 2=.ptr b1 0/\T 5=sf KY x25/\T 6=i6 Yy->Fx tt ss [(b1,⟨26,5,[i6 a0.kind,.str a0.name,i6 a0.num,sf cI a0.sc,sf KY a0.kids]⟩)] []->aLp KZ c Q ⟨T,ss⟩:=by
 intro a0 a1 x25 Yy;revert Yy;refine Ho.partial_correctness a0 a1 x25 _ ?_;intro Ho IH Yy out H c hc Q tt b1 hE hR T ss tT hF;refine lpx tt hc rfl fun q hX=>go ?_;refine cdp H (fun h H=>go ?_) (fun h H=>go ?_)
 ·refine Yj E0 [.v,.v,.v,.v,.v,.v,.v,.v] (by kernel_rfl) ?_;obtain ⟨x34,f1,H⟩:=bls (g:=KY) Fm.X6 (lo:=none) (hi:=some (i6 Yy)) rfl rfl H;obtain ⟨x37,f2,H⟩:=bil (g:=KY) Fm.X6 H;refine go2 ?_;refine bp H (Cq x34 x37) fun x39 h H=>cv h (go ?_);refine cdb H (fun h H=>go ?_) (fun h H=>go ?_)
  ·exact wq (hR _ (pur H).symm _ (rt _))
  ·exact IH  (i64.wrap (Yy+1)) _ H _ rfl Q tt b1 hE hR _ _  S hF
 ·exact wq (hE () (pur H).symm _ _  S hF)
theorem OA:∀(a0:Fm) (x25:List Fm) (x43:List Int) (Ja:Int) out,Hp a0 x25 x43 Ja=some out->∀c,Yf Tryz.f203 1=some c->∀(Q:QT) (tt:Sto) (b1:Nat),(∀(_u:Unit),out=Sum.inr ()->∀(T:TT) (ss:Sto),T 5=sf KY x25->Fx tt ss [(b1,⟨26,5,[i6 a0.kind,.str a0.name,i6 a0.num,sf cI a0.sc,sf KY a0.kids]⟩)] []->Q (.ex 2) ⟨T,ss⟩)->(∀r,out=Sum.inl r->∀s',I6 KZ [.tmp 4] (fun r' ss'=>r'=.bool r/\ss'=tt) s'->Q .ret s')->∀(T:TT) (ss:Sto),T 5=sf KY x25/\T 7=sf cI x43/\T 8=i6 Ja->Fx tt ss [(b1,⟨26,5,[i6 a0.kind,.str a0.name,i6 a0.num,sf cI a0.sc,sf KY a0.kids]⟩)] []->aLp KZ c Q ⟨T,ss⟩:=by
 intro a0 x25 x43 Ja;revert Ja;refine Hp.partial_correctness a0 x25 x43 _ ?_;intro Hp IH Ja out H c hc Q tt b1 hE hR T ss tT hF;refine lpx tt hc rfl fun q hX=>go ?_;refine cdp H (fun h H=>?_) (fun h H=>go ?_)
 ·obtain ⟨x52,f1,H⟩:=bil (g:=cI) (fun _=>rfl) H;refine go1 ?_;refine go ?_;refine cdp H (fun h H=>go ?_) (fun h H=>go ?_)
  ·exact wq (hR _ (pur H).symm _ (rt _))
  ·exact IH  (i64.wrap (Ja+1)) _ H _ rfl Q tt b1 hE hR _ _  S hF
 ·exact wq (hE () (pur H).symm _ _  S hF)
theorem TU:∀(a0:Fm) (a1:List Fm) r,Eo a0 a1=some r->Y7 KZ 203 [.agg (KY a0),sf KY a1] (.bool r):=by
 intro a0 a1 r H;intro ss;unfold Eo at H;refine hdh mixed Tryz.func203 (rs:=[.tmp 4]) fun q tT hF hX=>?_;refine go ?_;refine X8 hF rfl fun b1 ss2 hF=>go ?_;refine bp H (YW a0) fun x10 h H=>cl h (go ?_);obtain ⟨x16,g3,H⟩:=bnd H;refine Yb 3 13 16 (.bool x16) (giN q (fun q=>?_) (fun q=>?_)) (fun J=>go ?_)
 ·rw [if_neg (dbf q)] at g3;refine go ?_;obtain ⟨x14,hx14,g3⟩:=bnd g3;refine cl (Cr a1 _ hx14) (go ?_);exact Yq 13 g3
 ·rw [if_pos (dbt q)] at g3;refine go ?_;exact Yq 13 g3
 obtain ⟨x21,g5,H⟩:=bnd H;refine Yb 3 18 21 (.bool x21) (giN q (fun q=>?_) (fun q=>?_)) (fun J=>go ?_)
 ·rw [if_neg (dbf q)] at g5;refine go ?_;obtain ⟨x19,hx19,g5⟩:=bnd g5;refine cl (OD a0 _ hx19) (go ?_);exact Yq 18 g5
 ·rw [if_pos (dbt q)] at g5;refine go ?_;exact Yq 18 g5
 refine cdb H (fun h H=>go ?_) (fun h H=>?_)
 ·cases pur H;exact rt _
 ·have hF:=hF.lit 26 5 (rws KY []) rfl;refine go ?_;obtain ⟨x25,hx25,H⟩:=bnd H;refine cx (CJ [] a0 a1 _ hx25  (.sl true (rws KY [])) _ (pre 0 0 1 hF hX)) ?_;rintro _ s7 ⟨t8,rfl,hT,hG⟩;have hF:=Pm 0 1 hF hX hT hG;refine go ?_;obtain ⟨o10,ho10,H⟩:=bnd H;refine Oz a0 a1 x25 0 _ ho10 _ rfl _ _ b1 ?_ ?_ _ _  S hF
  ·intro _ he T12 s13 tT hF;have he:=he.symm;subst he
   try dsimp only at H
   have hF:=hF.lit 3 1 (rws cI []) rfl;refine go ?_;obtain ⟨x43,hx43,H⟩:=bnd H;refine cx (Bm [] a0 a1 0 _ hx43  (.sl true (rws cI [])) _ (pre 0 0 1 hF hX)) ?_;rintro _ s15 ⟨t16,rfl,hT,hG⟩;have hF:=Pm 0 1 hF hX hT hG;refine go ?_;obtain ⟨o18,ho18,H⟩:=bnd H;refine OA a0 x25 x43 0 _ ho18 _ rfl _ _ b1 ?_ ?_ _ _  S hF
   ·intro _ he T20 s21 tT hF;have he:=he.symm;subst he
    try dsimp only at H
    refine go ?_;cases pur H;exact rt _
   ·intro r hr s' hs;subst hr;cases pur H;exact hsq hs
  ·intro r hr s' hs;subst hr;cases pur H;exact hsq hs
theorem Ll:∀(a0:Fm) (x14:List Fm) (x18:List Int) (X7:List Hit) (YK:Int) out,Wq a0 x14 x18 X7 YK=some out->∀c,Yf Tryz.f205 0=some c->∀(Q:QT) (tt:Sto) (b1:Nat),(∀(YX:List Hit),out=YX->∀(T:TT) (ss:Sto) (e0v0:AV),T 5=e0v0->Fx tt ss [(b1,⟨26,5,[i6 a0.kind,.str a0.name,i6 a0.num,sf cI a0.sc,sf KY a0.kids]⟩)] [⟨e0v0,236,12,rws K4 YX⟩]->Q (.ex 0) ⟨T,ss⟩)->True->∀(T:TT) (ss:Sto) (z0v0:AV),T 5=z0v0/\T 6=sf KY x14/\T 7=sf cI x18/\T 8=i6 YK->Fx tt ss [(b1,⟨26,5,[i6 a0.kind,.str a0.name,i6 a0.num,sf cI a0.sc,sf KY a0.kids]⟩)] [⟨z0v0,236,12,rws K4 X7⟩]->aLp KZ c Q ⟨T,ss⟩:=by
 intro a0 x14 x18 X7 YK;revert X7 YK;refine Wq.partial_correctness a0 x14 x18 _ ?_;intro Wq IH X7 YK out H c hc Q tt b1 hE hR T ss z0v0 tT hF;refine lpx tt hc rfl fun q hX=>go ?_;refine cdp H (fun h H=>go ?_) (fun h H=>go ?_)
 ·refine Yj E0 [.v,.v,.v,.v,.v,.v,.v,.v,.v,.x,.z] (by kernel_rfl) ?_;obtain ⟨x27,f1,H⟩:=bil (g:=KY) Fm.X6 H;obtain ⟨x31,f2,H⟩:=bil (g:=cI) (fun _=>rfl) H;refine go2 ?_;refine J8 hF rfl fun b9 s10 hF=>go ?_;refine st hF 0 rfl fun s11 hF=>?_;refine go ?_;refine cdp H (fun h H=>?_) (fun h H=>go ?_)
  ·obtain ⟨x39,f1,H⟩:=bil (g:=KY) Fm.X6 H;refine go1 ?_;refine st hF 0 rfl fun s12 hF=>?_;refine go ?_;refine apw (g:=K4) (rows:=[[i6 x27.kind,.str x27.name,i6 x27.num,sf cI x27.sc,sf KY x27.kids,i6 x31,i6 x39.kind,.str x39.name,i6 x39.num,sf cI x39.sc,sf KY x39.kids,.X4]]) hF 0 H Hit.X6 true rfl (by simp only [sf,i6,zB,Vj,V7,cI,cU,cS,cL,Hit.Ya,Fm.Ya,Fm.kind,Fm.name,Fm.num,Fm.sc,Fm.kids,Zf,Zb,Hit.one,Zg,Zh,Cor.id,Zi,Cor.num,Cor.ids,Zj,Zk,Zl,Val.num,Zm,Zc,Val.fn,Val.env,Slt.id,Slt.val,Qr,K7,K8,Kh,QS];exact (.cons (.refl _) id (.cons (.refl _) id (.cons (.refl _) id (.cons (.refl _) id (.cons (.refl _) id (.cons (.refl _) id (.cons (.refl _) id (.cons (.refl _) id (.cons (.refl _) id (.cons (.refl _) id (.cons (.refl _) id (.cons .X4 (fun _=>rfl) .nil))))))))))))) fun x45 H v13 s14 hF=>go ?_;exact IH  x45 (i64.wrap (YK+1)) _ H _ rfl Q tt b1 hE hR _ _ v13 S (hF.drop 1 0)
  ·refine apw (g:=K4) (rows:=[[i6 x27.kind,.str x27.name,i6 x27.num,sf cI x27.sc,sf KY x27.kids,i6 x31,i6 0,.str zB,i6 0,.X4,.X4,.X4]]) hF 0 H Hit.X6 true rfl (by simp only [sf,i6,zB,Vj,V7,cI,cU,cS,cL,Hit.Ya,Fm.Ya,Fm.kind,Fm.name,Fm.num,Fm.sc,Fm.kids,Zf,Zb,Hit.one,Zg,Zh,Cor.id,Zi,Cor.num,Cor.ids,Zj,Zk,Zl,Val.num,Zm,Zc,Val.fn,Val.env,Slt.id,Slt.val,Qr,K7,K8,Kh,QS];exact (.cons (.refl _) id (.cons (.refl _) id (.cons (.refl _) id (.cons (.refl _) id (.cons (.refl _) id (.cons (.refl _) id (.cons (.refl _) id (.cons (.refl _) id (.cons (.refl _) id (.cons .X4 (fun _=>rfl) (.cons .X4 (fun _=>rfl) (.cons .X4 (fun _=>rfl) .nil))))))))))))) fun Lu H v15 s16 hF=>go ?_;exact IH  Lu (i64.wrap (YK+1)) _ H _ rfl Q tt b1 hE hR _ _ v15 S (hF.drop 1 0)
 ·exact wq (hE _ (pur H).symm _ _ z0v0 S hF)
theorem OG:∀(a0:Fm) (a1:List Fm) r,Bh a0 a1=some r->Y7 KZ 205 [.agg (KY a0),sf KY a1] (sf K4 r):=by
 intro a0 a1 r H;intro ss;unfold Bh at H;refine hdh mixed Tryz.func205 (rs:=[.tmp 4]) fun q tT hF hX=>?_;refine go ?_;refine X8 hF rfl fun b1 ss2 hF=>?_;have hF:=hF.lit 26 5 (rws KY []) rfl;refine go ?_;obtain ⟨x14,hx14,H⟩:=bnd H;refine cx (CJ [] a0 a1 _ hx14  (.sl true (rws KY [])) _ (pre 0 0 1 hF hX)) ?_;rintro _ ss3 ⟨tt4,rfl,hT,hG⟩;have hF:=Pm 0 1 hF hX hT hG;have hF:=hF.lit 3 1 (rws cI []) rfl;refine go ?_;obtain ⟨x18,hx18,H⟩:=bnd H;refine cx (Bm [] a0 a1 0 _ hx18  (.sl true (rws cI [])) _ (pre 0 0 1 hF hX)) ?_;rintro _ ss6 ⟨t7,rfl,hT,hG⟩;have hF:=Pm 0 1 hF hX hT hG;have hF:=hF.lit 236 12 (rws K4 []) rfl;refine go ?_;obtain ⟨o17,ho17,H⟩:=bnd H;refine Ll a0 x14 x18 [] 0 _ ho17 _ rfl _ _ b1 ?_ ?_ _ _ (.sl true (rws K4 [])) S hF
 ·intro Qmd he T19 s20 e18v0 tT hF;have he:=he.symm;subst he;refine go ?_;cases pur H;exact rt _
 ·trivial
theorem Mb:∀(a0:List Hit) (a1:Fm) (Yh:Int) out,JE a0 a1 Yh=some out->∀c,Yf Tryz.f199 0=some c->∀(Q:QT) (tt:Sto) (b1:Nat),(∀(_u:Unit),out=Sum.inr ()->∀(T:TT) (ss:Sto),0+0=0->Fx tt ss [(b1,⟨26,5,[i6 a1.kind,.str a1.name,i6 a1.num,sf cI a1.sc,sf KY a1.kids]⟩)] []->Q (.ex 0) ⟨T,ss⟩)->(∀r,out=Sum.inl r->∀s',I6 KZ [.tmp 4] (fun r' ss'=>r'=i6 r/\ss'=tt) s'->Q .ret s')->∀(T:TT) (ss:Sto),T 0=sf K4 a0/\T 3=.ptr b1 0/\T 5=i6 Yh->Fx tt ss [(b1,⟨26,5,[i6 a1.kind,.str a1.name,i6 a1.num,sf cI a1.sc,sf KY a1.kids]⟩)] []->aLp KZ c Q ⟨T,ss⟩:=by
 intro a0 a1 Yh;revert Yh;refine JE.partial_correctness a0 a1 _ ?_;intro JE IH Yh out H c hc Q tt b1 hE hR T ss tT hF;refine lpx tt hc rfl fun q hX=>go ?_;refine cdp H (fun h H=>go ?_) (fun h H=>go ?_)
 ·refine Yj E0 [.v,.v,.v,.v,.v,.v,.v] (by kernel_rfl) ?_;obtain ⟨x14,f1,H⟩:=bil (g:=K4) Hit.X6 H;refine go1 ?_;refine bp H (Hh x14.name a1) fun x18 h H=>cv h (go ?_);refine cdb H (fun h H=>go ?_) (fun h H=>go ?_)
  ·exact wq (hR _ (pur H).symm _ (rt _))
  ·exact IH  (i64.wrap (Yh+1)) _ H _ rfl Q tt b1 hE hR _ _  S hF
 ·exact wq (hE () (pur H).symm _ _  S hF)
theorem E7:∀(a0:List Hit) (a1:Fm) r,Ak a0 a1=some r->Y7 KZ 199 [sf K4 a0,.agg (KY a1)] (i6 r):=by
 intro a0 a1 r H;intro ss;unfold Ak at H;refine hdh mixed Tryz.func199 (rs:=[.tmp 4]) fun q tT hF hX=>?_;refine go ?_;refine X8 hF rfl fun b1 ss2 hF=>go ?_;obtain ⟨o3,ho3,H⟩:=bnd H;refine Mb a0 a1 0 _ ho3 _ rfl _ _ b1 ?_ ?_ _ _  S hF
 ·intro _ he T5 ss6 tT hF;have he:=he.symm;subst he
  try dsimp only at H
  refine go ?_;cases pur H;exact rt _
 ·intro r hr s' hs;subst hr;cases pur H;exact hsq hs
theorem Es:∀(a0:List Hit) (a1:Fm) r,As a0 a1=some r->Y7 KZ 212 [sf K4 a0,.agg (KY a1)] (i6 r):=by
 intro a0 a1 r H;intro ss;unfold As at H;refine hdh mixed Tryz.func212 (rs:=[.tmp 4]) fun q tT hF hX=>?_;refine go ?_;refine X8 hF rfl fun b1 ss2 hF=>go ?_;refine cdn H (fun h H=>go ?_) (fun h H=>go ?_)
 ·cases pur H;exact rt _
 ·refine bp H (E7 a0 a1) fun x11 h H=>cl h (go ?_);refine cdp H (fun h H=>go ?_) (fun h H=>?_)
  ·cases pur H;exact rt _
  ·obtain ⟨x16,f1,H⟩:=bil (g:=K4) Hit.X6 H;refine go1 ?_;refine go ?_;cases pur H;exact rt _
theorem PS:∀(a0:List Hit) (a1:Fm) r,Ib a0 a1=some r->Y7 KZ 213 [sf K4 a0,.agg (KY a1)] (.bool r):=by
 intro a0 a1;revert a1;refine Ib.partial_correctness a0 (motive_1:=fun a1 r=>Y7 KZ 213 [sf K4 a0,.agg (KY a1)] (.bool r)) (motive_2:=fun a1 Yh out=>∀c,Yf Tryz.f213 0=some c->∀(Q:QT) (tt:Sto) (b1:Nat),(∀(_u:Unit),out=Sum.inr ()->∀(T:TT) (ss:Sto),0+0=0->Fx tt ss [(b1,⟨26,5,[i6 a1.kind,.str a1.name,i6 a1.num,sf cI a1.sc,sf KY a1.kids]⟩)] []->Q (.ex 0) ⟨T,ss⟩)->(∀r,out=Sum.inl r->∀s',I6 KZ [.tmp 4] (fun r' ss'=>r'=.bool r/\ss'=tt) s'->Q .ret s')->∀(T:TT) (ss:Sto),T 0=sf K4 a0/\T 3=.ptr b1 0/\T 5=i6 Yh->Fx tt ss [(b1,⟨26,5,[i6 a1.kind,.str a1.name,i6 a1.num,sf cI a1.sc,sf KY a1.kids]⟩)] []->aLp KZ c Q ⟨T,ss⟩) ?_ ?_
 ·intro GH L0 a1 r H;intro ss;refine hdh mixed Tryz.func213 (rs:=[.tmp 4]) fun q tT hF hX=>?_;refine go ?_;refine X8 hF rfl fun b1 ss2 hF=>go ?_;refine bp H (Es a0 a1) fun x8 h H=>cl h (go ?_);refine cdp H (fun h H=>go ?_) (fun h H=>go ?_)
  ·cases pur H;exact rt _
  ·obtain ⟨o3,ho3,H⟩:=bnd H;refine L0 a1 0 _ ho3 _ rfl _ _ b1 ?_ ?_ _ _  S hF
   ·intro _ he T5 ss6 tT hF;have he:=he.symm;subst he
    try dsimp only at H
    refine go ?_;cases pur H;exact rt _
   ·intro r hr s' hs;subst hr;cases pur H;exact hsq hs
 ·intro Ib GH C0 L0 a1 Yh out H c hc Q tt b1 hE hR T ss tT hF;refine lpx tt hc rfl fun q hX=>go ?_;refine cdp H (fun h H=>?_) (fun h H=>go ?_)
  ·obtain ⟨x21,f1,H⟩:=bil (g:=KY) Fm.X6 H;refine go1 ?_;refine bp H (C0 x21) fun x23 h H=>cl h (go ?_);refine cdb H (fun h H=>go ?_) (fun h H=>go ?_)
   ·exact wq (hR _ (pur H).symm _ (rt _))
   ·exact L0 a1 (i64.wrap (Yh+1)) _ H _ rfl Q tt b1 hE hR _ _  S hF
  ·exact wq (hE () (pur H).symm _ _  S hF)
theorem Mh:∀(a0 X7:List Hit) (YJ:Int) out,JJ a0 X7 YJ=some out->∀c,Yf Tryz.f214 0=some c->∀(Q:QT) (tt:Sto),(∀(YX:List Hit),out=YX->∀(T:TT) (ss:Sto) (e0v0:AV),T 3=e0v0->Fx tt ss [] [⟨e0v0,236,12,rws K4 YX⟩]->Q (.ex 0) ⟨T,ss⟩)->True->∀(T:TT) (ss:Sto) (z0v0:AV),T 0=sf K4 a0/\T 3=z0v0/\T 4=i6 YJ->Fx tt ss [] [⟨z0v0,236,12,rws K4 X7⟩]->aLp KZ c Q ⟨T,ss⟩:=by
 intro a0 X7 YJ;revert X7 YJ;refine JJ.partial_correctness a0 _ ?_;intro JJ IH X7 YJ out H c hc Q tt  hE hR T ss z0v0 tT hF;refine lpx tt hc rfl fun q hX=>go ?_;refine cdp H (fun h H=>go ?_) (fun h H=>go ?_)
 ·refine Yj E0 [.v,.v,.v,.v,.v,.v,.v,.v,.v,.v,.v,.v,.v,.v,.v,.v,.x,.z] (by kernel_rfl) ?_;obtain ⟨x15,f1,H⟩:=bil (g:=K4) Hit.X6 H;refine go1 ?_;refine J8 hF rfl fun b1 ss2 hF=>go ?_;refine st hF 0 rfl fun ss3 hF=>?_;refine go ?_;obtain ⟨Mv,j5,H⟩:=bnd H;refine V6 (fun s'=>∃(T:TT) (ss1:Sto),s'=⟨T,ss1⟩/\(T 0=sf K4 a0/\T 3=z0v0/\T 4=i6 YJ/\T 5=.ptr b1 0)/\Fx tt ss1 [(b1,⟨236,12,[i6 x15.name.kind,.str x15.name.name,i6 x15.name.num,sf cI x15.name.sc,sf KY x15.name.kids,i6 Mv,i6 x15.one.kind,.str x15.one.name,i6 x15.one.num,sf cI x15.one.sc,sf KY x15.one.kids,.X4]⟩)] [⟨z0v0,236,12,rws K4 X7⟩]) (cdp j5 (fun h j5=>go ?_) (fun h j5=>go ?_)) ?_
  ·refine st hF 0 rfl fun ss6 hF=>?_;refine go ?_;cases pur j5;exact ⟨_,_,rfl,S,hF⟩
  ·cases pur j5;exact ⟨_,_,rfl,S,hF⟩
  ·rintro s' ⟨T7,s8,rfl,tT,hF⟩;refine go ?_;refine apw (g:=K4) (rows:=[[i6 x15.name.kind,.str x15.name.name,i6 x15.name.num,sf cI x15.name.sc,sf KY x15.name.kids,i6 Mv,i6 x15.one.kind,.str x15.one.name,i6 x15.one.num,sf cI x15.one.sc,sf KY x15.one.kids,.X4]]) hF 0 H Hit.X6 true rfl (by simp only [sf,i6,zB,Vj,V7,cI,cU,cS,cL,Hit.Ya,Fm.Ya,Fm.kind,Fm.name,Fm.num,Fm.sc,Fm.kids,Zf,Zb,Hit.one,Zg,Zh,Cor.id,Zi,Cor.num,Cor.ids,Zj,Zk,Zl,Val.num,Zm,Zc,Val.fn,Val.env,Slt.id,Slt.val,Qr,K7,K8,Kh,QS];exact (.cons (.refl _) id (.cons (.refl _) id (.cons (.refl _) id (.cons (.refl _) id (.cons (.refl _) id (.cons (.refl _) id (.cons (.refl _) id (.cons (.refl _) id (.cons (.refl _) id (.cons (.refl _) id (.cons (.refl _) id (.cons .X4 (fun _=>rfl) .nil))))))))))))) fun x39 H v10 s11 hF=>go ?_;exact IH  x39 (i64.wrap (YJ+1)) _ H _ rfl Q tt  hE hR _ _ v10 S (hF.drop 1 0)
 ·exact wq (hE _ (pur H).symm _ _ z0v0 S hF)
theorem PR:∀(a0:List Hit) r,A4 a0=some r->Y7 KZ 214 [sf K4 a0] (sf K4 r):=by
 intro a0 r H;intro ss;unfold A4 at H;refine hdh mixed Tryz.func214 (rs:=[.tmp 2]) fun q tT hF hX=>?_;have hF:=hF.lit 236 12 (rws K4 []) rfl;refine go ?_;obtain ⟨o12,ho12,H⟩:=bnd H;refine Mh a0 [] 0 _ ho12 _ rfl _ _  ?_ ?_ _ _ (.sl true (rws K4 [])) S hF
 ·intro Rz he T14 s15 e13v0 tT hF;have he:=he.symm;subst he;refine go ?_;cases pur H;exact rt _
 ·trivial
end Go.Proofs.SA
