/- Core programs, values, steps that came in. -/
import Derived.Test.YtiiamkelehfnoaaGreatDoorFmA
import Derived.Test.YtiiamkelehfnoaaGreatDoorGx
set_option linter.unusedVariables false
set_option linter.unusedSimpArgs false
namespace Go.Proofs.Shadow
open Go Go.RowKit
def Qrp (n:Int):Prop:=-9223372036854775808<=n/\n<=9223372036854775807
theorem Qng {n:Int} (h:(Lit.int .i64 n).wf=true):Qrp n:=by
 have h1:IntKind.i64.min=-9223372036854775808:=rfl;have h2:IntKind.i64.max=9223372036854775807:=rfl;simp [Lit.wf] at h;unfold Qrp;omega
inductive Cor.Ok:Cor->Prop
 | mk {k i:Int} {s:ByteArray} {n:Int} {l:List Int} {d:Fm} {ks:List Cor} (hs:s.size<=140737488355328) (hl:l.length<=140737488355328) (hd:d.Ok) (hk:ks.length<=140737488355328) (h:∀x∈ks,Cor.Ok x):Cor.Ok (.mk k i s n l d ks)
mutual
inductive Val.Ok:Val->Prop
 | mk {k n:Int} {s:ByteArray} {l:List Val} {f:Cor} {e:List Slt} (hn:Qrp n) (hs:s.size<=140737488355328) (hl:l.length<=140737488355328) (hf:f.Ok) (he:e.length<=140737488355328) (h1:∀x∈l,Val.Ok x) (h2:∀x∈e,Slt.Ok x):Val.Ok (.mk k n s l f e)
inductive Slt.Ok:Slt->Prop
 | mk {i:Int} {v:Val} (h:Val.Ok v):Slt.Ok (.mk i v)
end
structure Stp.Ok (s:Stp):Prop where
 use:s.use.Ok
 res:s.res.Ok
section
variable {H:Type} {enc:TypeId × Value->H} {P:Program} {w:World}
def At (w:World) (cs:List Value) (o:Nat) (A:List AV):Prop:=∀i c,A[i]?=some c->Rv SD w c (cs.getD (o+i) undef)
theorem At.app {cs:List Value} {o:Nat} {A B:List AV} (h:At w cs o A) (k:At w cs (o+A.length) B):At w cs o (A++B):=fun i c hi=>by
 rw [List.getElem?_append] at hi;split at hi
 ·exact h i c hi
 ·have:=k _ c hi;rwa [show o+A.length+(i - A.length)=o+i by omega] at this
theorem At.of {cs:List Value} {o k:Nat} {A:List AV} (hl:A.length=k) (h:∀i c,A[i]?=some c->Rv SD w c (((cs.drop o).take k).getD i undef)):At w cs o A:=fun i c hi=>by
 have:=h i c hi;rw [Qba (by have:=(List.getElem?_eq_some_iff.1 hi).1;omega)] at this;exact this
structure Qo6 (P:Program) (tC tI tS tLI tF tLC:TypeId):Prop where
 fC:Qh5 P tC=some [(tI,0),(tI,1),(tS,2),(tI,3),(tLI,4),(tF,5),(tLC,10)]
 cC:P.cellsOf tC=11
 cLC:P.cellsOf tLC=1
 uLC:Qlx P tLC=some (tC,11,true)
theorem Qnz {tF tI tS tLI tLF tC tLC:TypeId} (T:P4 P tF tI tS tLI tLF) (C:Qo6 P tC tI tS tLI tF tLC):∀fuel,Opn enc P w 11 Cor.cells Cor.Ok tC fuel:=by
 intro fuel
 induction fuel using Nat.strongRecOn with
 | ind fuel ih =>
 intro cs x h hwt;obtain ⟨n,rfl,h1,h2⟩:=F8 C.fC h;obtain ⟨y0,a0,b0⟩:=h2 0 _ _ rfl;obtain ⟨y1,a1,b1⟩:=h2 1 _ _ rfl;obtain ⟨y2,a2,b2⟩:=h2 2 _ _ rfl;obtain ⟨y3,a3,b3⟩:=h2 3 _ _ rfl;obtain ⟨y4,a4,b4⟩:=h2 4 _ _ rfl;obtain ⟨y5,a5,b5⟩:=h2 5 _ _ rfl;obtain ⟨y6,a6,b6⟩:=h2 6 _ _ rfl;obtain ⟨k,_,_,l0,_,r0⟩:=AY T.uI n _ _ a0 (fun m hm=>hwt m (b0 m hm));obtain ⟨i,_,_,l1,_,r1⟩:=AY T.uI n _ _ a1 (fun m hm=>hwt m (b1 m hm));obtain ⟨s,qs,_,l2,_,r2⟩:=UT T.uS n _ _ a2 (fun m hm=>hwt m (b2 m hm));obtain ⟨m,_,_,l3,_,r3⟩:=AY T.uI n _ _ a3 (fun m hm=>hwt m (b3 m hm));obtain ⟨v1,v2,v3⟩:=DO T.uLI;obtain ⟨v4,v5,v6⟩:=DO C.uLC;obtain ⟨l,ql,_,l4,_,r4⟩:=Ow (by omega) v1 v2 v3 (fun n _=>AY T.uI n) _ _ a4 (fun m hm=>hwt m (b4 m hm));obtain ⟨d,qd,_,l5,e5,r5⟩:=Qbl T n _ _ a5 (fun m hm=>hwt m (b5 m hm));obtain ⟨ks,qk,_,l6,_,r6⟩:=Ow (by omega) v4 v5 v6 (fun m hm=>ih m (by omega)) _ _ a6 (fun m hm=>hwt m (b6 m hm));refine ⟨.mk k i s m l d ks,.mk qs ql.1 qd qk.1 qk.2,by rw [h1,C.cC],Cor.X6 _,?_,?_⟩
 ·rw [Cor.Yb];simp [AV.Y8]
 ·have key:At w cs 0 ([.int .i64 k]++([.int .i64 i]++([.str s]++([.int .i64 m]++([.sl false (l.map fun n=>[.int .i64 n])]++(d.cells++[.sl false (ks.map Cor.cells)])))))) :=
   (At.of l0 (by rw [T.cI] at r0;exact r0)).app ((At.of l1 (by rw [T.cI] at r1;exact r1)).app ((At.of l2 (by rw [T.cS] at r2;exact r2)).app ((At.of l3 (by rw [T.cI] at r3;exact r3)).app ((At.of l4 (by rw [T.cLI] at r4;exact r4)).app ((At.of l5 (by rw [T.cF] at r5;exact r5)).app
    (by rw [l5];exact At.of l6 (by rw [C.cLC] at r6;exact r6)))))))
  intro j c hj;have:=key j c (by rw [← hj,Cor.Yb,Fm.Yb];rfl);simpa using this
structure Qpa (P:Program) (tV tI tS tLV tC tLE tE:TypeId):Prop where
 fV:Qh5 P tV=some [(tI,0),(tI,1),(tS,2),(tLV,3),(tC,4),(tLE,15)]
 cV:P.cellsOf tV=16
 cLV:P.cellsOf tLV=1
 uLV:Qlx P tLV=some (tV,16,true)
 cLE:P.cellsOf tLE=1
 uLE:Qlx P tLE=some (tE,17,true)
 fE:Qh5 P tE=some [(tI,0),(tV,1)]
 cE:P.cellsOf tE=17
theorem Qn0 {tF tI tS tLI tLF tC tV tLV tLE tE:TypeId} (T:P4 P tF tI tS tLI tLF) (V:Qpa P tV tI tS tLV tC tLE tE) (fuel:Nat) (ih:∀m,m < fuel->Opn enc P w 16 Val.cells Val.Ok tV m):Opn enc P w 17 Slt.cells Slt.Ok tE fuel:=by
 intro cs x h hwt;obtain ⟨n,rfl,h1,h2⟩:=F8 V.fE h;obtain ⟨y0,a0,b0⟩:=h2 0 _ _ rfl;obtain ⟨y1,a1,b1⟩:=h2 1 _ _ rfl;obtain ⟨k,_,_,l0,_,r0⟩:=AY T.uI n _ _ a0 (fun m hm=>hwt m (b0 m hm));obtain ⟨v,qv,_,l1,e1,r1⟩:=ih n (by omega) _ _ a1 (fun m hm=>hwt m (b1 m hm));refine ⟨.mk k v,.mk qv,by rw [h1,V.cE],Slt.X6 _,?_,?_⟩
 ·rw [Slt.Yb];simp [AV.Y8]
 ·have key:At w cs 0 ([.int .i64 k]++v.cells):=(At.of l0 (by rw [T.cI] at r0;exact r0)).app (At.of l1 (by rw [V.cV] at r1;exact r1));intro j c hj;have:=key j c (by rw [← hj,Slt.Yb,Val.Yb];rfl);simpa using this
theorem Qso {tF tI tS tLI tLF tC tLC tV tLV tLE tE:TypeId} (T:P4 P tF tI tS tLI tLF) (C:Qo6 P tC tI tS tLI tF tLC) (V:Qpa P tV tI tS tLV tC tLE tE):∀fuel,Opn enc P w 16 Val.cells Val.Ok tV fuel:=by
 intro fuel
 induction fuel using Nat.strongRecOn with
 | ind fuel ih =>
 intro cs x h hwt;obtain ⟨n,rfl,h1,h2⟩:=F8 V.fV h;obtain ⟨y0,a0,b0⟩:=h2 0 _ _ rfl;obtain ⟨y1,a1,b1⟩:=h2 1 _ _ rfl;obtain ⟨y2,a2,b2⟩:=h2 2 _ _ rfl;obtain ⟨y3,a3,b3⟩:=h2 3 _ _ rfl;obtain ⟨y4,a4,b4⟩:=h2 4 _ _ rfl;obtain ⟨y5,a5,b5⟩:=h2 5 _ _ rfl;obtain ⟨k,_,_,l0,_,r0⟩:=AY T.uI n _ _ a0 (fun m hm=>hwt m (b0 m hm));obtain ⟨i,qi,_,l1,_,r1⟩:=AY T.uI n _ _ a1 (fun m hm=>hwt m (b1 m hm));obtain ⟨s,qs,_,l2,_,r2⟩:=UT T.uS n _ _ a2 (fun m hm=>hwt m (b2 m hm));obtain ⟨v1,v2,v3⟩:=DO V.uLV;obtain ⟨v4,v5,v6⟩:=DO V.uLE;obtain ⟨l,ql,_,l3,_,r3⟩:=Ow (by omega) v1 v2 v3 (fun m hm=>ih m (by omega)) _ _ a3 (fun m hm=>hwt m (b3 m hm));obtain ⟨f,qf,_,l4,e4,r4⟩:=Qnz T C n _ _ a4 (fun m hm=>hwt m (b4 m hm));obtain ⟨e,qe,_,l5,_,r5⟩:=Ow (by omega) v4 v5 v6 (fun m hm=>Qn0 T V m fun m' hm'=>ih m' (by omega)) _ _ a5 (fun m hm=>hwt m (b5 m hm));refine ⟨.mk k i s l f e,.mk (Qng qi) qs ql.1 qf qe.1 ql.2 qe.2,by rw [h1,V.cV],Val.X6 _,?_,?_⟩
 ·rw [Val.Yb];simp [AV.Y8]
 ·have key:At w cs 0 ([.int .i64 k]++([.int .i64 i]++([.str s]++([.sl false (l.map Val.cells)]++(f.cells++[.sl false (e.map Slt.cells)]))))) :=
   (At.of l0 (by rw [T.cI] at r0;exact r0)).app ((At.of l1 (by rw [T.cI] at r1;exact r1)).app ((At.of l2 (by rw [T.cS] at r2;exact r2)).app ((At.of l3 (by rw [V.cLV] at r3;exact r3)).app ((At.of l4 (by rw [C.cC] at r4;exact r4)).app
    (by rw [l4];exact At.of l5 (by rw [V.cLE] at r5;exact r5))))))
  intro j c hj;have:=key j c (by rw [← hj,Val.Yb,Cor.Yb];rfl);simpa using this
structure Qrq (P:Program) (tS tI tF:TypeId):Prop where
 fS:Qh5 P tS=some [(tI,0),(tI,1),(tI,2),(tF,3),(tF,8)]
 cS:P.cellsOf tS=13
theorem Qsn {tF tI tSt tLI tLF tS:TypeId} (T:P4 P tF tI tSt tLI tLF) (S:Qrq P tS tI tF) (fuel:Nat):Opn enc P w 13 Stp.cells Stp.Ok tS fuel:=by
 intro cs x h hwt;obtain ⟨n,rfl,h1,h2⟩:=F8 S.fS h;obtain ⟨y0,a0,b0⟩:=h2 0 _ _ rfl;obtain ⟨y1,a1,b1⟩:=h2 1 _ _ rfl;obtain ⟨y2,a2,b2⟩:=h2 2 _ _ rfl;obtain ⟨y3,a3,b3⟩:=h2 3 _ _ rfl;obtain ⟨y4,a4,b4⟩:=h2 4 _ _ rfl;obtain ⟨k0,_,_,l0,_,r0⟩:=AY T.uI n _ _ a0 (fun m hm=>hwt m (b0 m hm));obtain ⟨k1,_,_,l1,_,r1⟩:=AY T.uI n _ _ a1 (fun m hm=>hwt m (b1 m hm));obtain ⟨k2,_,_,l2,_,r2⟩:=AY T.uI n _ _ a2 (fun m hm=>hwt m (b2 m hm));obtain ⟨f,qf,_,l3,e3,r3⟩:=Qbl T n _ _ a3 (fun m hm=>hwt m (b3 m hm));obtain ⟨g,qg,_,l4,e4,r4⟩:=Qbl T n _ _ a4 (fun m hm=>hwt m (b4 m hm));refine ⟨⟨k0,k1,k2,f,g⟩,⟨qf,qg⟩,by rw [h1,S.cS],Stp.X6 _,?_,?_⟩
 ·rw [Stp.Yb];simp [AV.Y8]
 ·have key:At w cs 0 ([.int .i64 k0]++([.int .i64 k1]++([.int .i64 k2]++(f.cells++g.cells)))) :=
   (At.of l0 (by rw [T.cI] at r0;exact r0)).app ((At.of l1 (by rw [T.cI] at r1;exact r1)).app ((At.of l2 (by rw [T.cI] at r2;exact r2)).app ((At.of l3 (by rw [T.cF] at r3;exact r3)).app (by rw [l3];exact At.of l4 (by rw [T.cF] at r4;exact r4)))))
  intro j c hj;have:=key j c (by rw [← hj,Stp.cells];rfl);simpa using this
theorem Qny {α:Type} {cells:α->List AV} {Q:α->Prop} {k:Nat} {t:TypeId} {l:List (TypeId × Nat)} (hO:∀fuel,Opn enc P w k cells Q t fuel) (hfl:Qh5 P t=some l) {v:Value} {d:DataW H} {ps:List MemPlace} {base:Nat} {ts:List TypeId} {ds:List (DataW H)} {j:Nat} (hv:Value.okWide P w .any base t v) (h:DataW.Trod enc P w 0 (fun _=>true) true t v d ps)
  (hsz:(DataW.weightsEach P ts ds).all (· <= reachBytes)=true) (ht:ts[j]?=some t) (hd:ds[j]?=some d):∃a:α,Q a/\Rv SD w (.agg (cells a)) v:=by
 obtain ⟨fuel,hf⟩:=h;unfold Qh5 at hfl;split at hfl
 ·rename_i fs hu;simp only [Value.okWide,hu] at hv;obtain ⟨cs,rfl,hcs,_⟩:=hv
  obtain ⟨f,hok,h1,h2,h3,h4⟩:=hO fuel _ _ hf (fun n hn=>by
   have:=List.all_eq_true.1 hsz n (DataW.weights_mem_each ht hd n hn)
   simpa using this)
  simp only [Value.cells] at h1 h4;refine ⟨f,hok,.agg (by rw [h2];simpa using h1.symm) h3 (fun i c hc=>?_)⟩;have:=h4 i c hc;simpa [List.getD_eq_getElem?_getD] using this
 ·cases hfl
end
end Go.Proofs.Shadow
