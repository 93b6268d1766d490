/- Evaluation as a plain function; the reference's evaluation is it. -/
import Derived.Test.YthdghhllcllneaaGreatDoorRm
import Derived.Test.YthdghhllcllneaaGreatDoorFmA
set_option linter.unusedVariables false
set_option linter.unusedSimpArgs false
set_option maxRecDepth 100000
open Go Go.Proofs Go.Proofs.Shadow
open _root_.ByteArray renaming mk → Qk
open _root_.Bool renaming false_eq_true → Qq, not_true → ZU, false_and → Z4, not_false → ZT, and_self → Xj, true_and → Z1, or_true → Xn, or_false → Xs, and_eq_true → QG, and_false → Xw, true_or → Xz, not_not → XA
open _root_.List renaming mem_cons_self → KB, mem_cons_of_mem → Kf, getD_eq_getElem?_getD → Qz, drop_eq_getElem_cons → Zx, getElem_mem → ZK, eq_nil_of_length_eq_zero → Kt, length_cons → ZE, drop_of_length_le → Zy, mem_append → QR, nil_append → QS, drop_zero → ZN, append_nil → K8, mem_singleton → ZG, find?_cons → Xk, append_assoc → QD, nodup_nil → Xl, length_append → QV, mem_cons → Kj, getElem?_eq_getElem → Qf, take_succ_eq_append_getElem → Xm, mem_of_getElem? → Qd, length_nil → ZD, mem_of_find?_eq_some → Xo, reverse_cons → Xp, find?_append → Xq, all_cons → Xr, length_drop → Xe, reverse_singleton → Xt, take_of_length_le → Xu, singleton_append → Xv, getElem?_eq_none → Q4, mem_of_mem_drop → QA, map_id → Xx, reverse_append → Xy, map_cons → QH, length → XC
open _root_.Nat renaming le_refl → Qt, lt_or_ge → KA
open Cor renaming mk → KR, nodes → Xh, eta → XD
open Fm renaming mk → KS, strip → Xi
open Val renaming mk → KT
open Slt renaming mk → XB
open Mch renaming fuel → XE
namespace Go.Proofs.Shadow
def zC:Cor:=KR 0 0 (Qk #[]) 0 [] (KS 0 (Qk #[]) 0 [] []) []
def zV:Val:=KT 0 0 (Qk #[]) [] zC []
instance:Inhabited Cor:=⟨zC⟩
instance:Inhabited Val:=⟨zV⟩
def TI (n:Int):Val:=KT 1 n (Qk #[]) [] zC []
def TC (l:List Val):Val:=KT 3 0 (Qk #[]) l zC []
def Oe (env:List Slt) (id:Int):Val:=match env.reverse.find? (fun s=>decide (s.id=id)) with | some s=>s.val | none=>zV
mutual
def DW:Fm->Val
 | .mk k s n _ ks=>if k=2 then TI n else if k=1 then KT 2 0 s [] zC [] else TC (Qay ks)
def Qay:List Fm->List Val
 | []=>[]
 | f :: fs=>DW f :: Qay fs
end
theorem Te:∀l,Qay l=l.map DW
 | []=>rfl
 | f :: fs=>by rw [Qay,Te fs];rfl
theorem EB (f:Fm):DW f=if f.kind=2 then TI f.num else if f.kind=1 then KT 2 0 f.name [] zC [] else TC (f.kids.map DW):=by cases f;rw [DW,Te];rfl
def NQ:ByteArray:=Qk #[43]
def LH:ByteArray:=Qk #[60]
def Qc8:ByteArray:=Qk #[61]
def S7:ByteArray:=Qk #[108,105,115,116]
def LG:ByteArray:=Qk #[104,101,97,100]
def LI:ByteArray:=Qk #[116,97,105,108]
def Pz:List ByteArray:=[NQ,LH,Qc8,S7,LG,LI]
def hasB (l:List ByteArray) (s:ByteArray):Bool:=l.any fun x=>decide (x=s)
def Qpk (args:List Val):Int:=args.foldl (fun s v=>(s+v.num).tmod 1000) 0
def CZ (name:ByteArray) (args:List Val):Val × Int :=
 if name=S7 then (TC args,0)
 else if name=NQ then (if args.all (fun v=>decide (v.kind=1))=true then (TI (Qpk args),0) else (zV,3))
 else if name=LG then (if args.length=1/\(args.getD 0 zV).kind=3/\(args.getD 0 zV).items.length≠0 then ((args.getD 0 zV).items.getD 0 zV,0) else (zV,3))
 else if name=LI then (if args.length=1/\(args.getD 0 zV).kind=3/\(args.getD 0 zV).items.length≠0 then (TC ((args.getD 0 zV).items.drop 1),0) else (zV,3))
 else if args.length=2/\(args.getD 0 zV).kind=1/\(args.getD 1 zV).kind=1 then (if name=LH/\(args.getD 0 zV).num < (args.getD 1 zV).num∨name=Qc8/\(args.getD 0 zV).num=(args.getD 1 zV).num then (TI 1,0) else (TI 0,0)) else (zV,3)
def JS (E:Cor->Nat->Val × Int × Nat):List Cor->Nat->(Int × Nat) ⊕ (List Val × Nat)
 | [],n=>.inr ([],n)
 | c :: cs,n=>if (E c n).2.1=0 then (match JS E cs (E c n).2.2 with | .inl x=>.inl x | .inr (vs,m)=>.inr ((E c n).1 :: vs,m)) else .inl ((E c n).2.1,(E c n).2.2)
def Cd:List Int->List Val->List Slt
 | i :: is,v :: vs=>.mk i v :: Cd is vs
 | _,_=>[]
def Ea (E:Cor->List Slt->Nat->Val × Int × Nat) (f:Val) (args:List Val) (n:Nat):Val × Int × Nat :=
 if f.kind=5 then ((CZ f.name args).1,(CZ f.name args).2,n)
 else if f.kind=4 then (if args.length=f.fn.ids.length then E (f.fn.kids.getD 0 default) (f.env++Cd f.fn.ids args) n else (zV,3,n))
 else (zV,2,n)
def evG : Nat -> Cor -> List Slt -> Nat -> Val × Int × Nat
  | 0, _, _, _ => (zV, 4, 0)
  | g + 1, c, env, n =>
    if n = 0 then (zV, 4, 0)
    else if c.kind = 1 then (Oe env c.id, 0, n - 1)
    else if c.kind = 3 then (TI c.num, 0, n - 1)
    else if c.kind = 4 then (DW c.data, 0, n - 1)
    else if c.kind = 5 then (KT 4 0 (Qk #[]) [] c env, 0, n - 1)
    else if c.kind = 2 then (if hasB Pz c.name = true then (KT 5 0 c.name [] zC [], 0, n - 1) else (zV, 1, n - 1))
    else if c.kind = 7 then
      (if (evG g (c.kids.getD 0 default) env (n - 1)).2.1 = 0 then
        (if (evG g (c.kids.getD 0 default) env (n - 1)).1.kind = 1 /\ (evG g (c.kids.getD 0 default) env (n - 1)).1.num = 0 then evG g (c.kids.getD 2 default) env (evG g (c.kids.getD 0 default) env (n - 1)).2.2
         else evG g (c.kids.getD 1 default) env (evG g (c.kids.getD 0 default) env (n - 1)).2.2)
       else (zV, (evG g (c.kids.getD 0 default) env (n - 1)).2.1, (evG g (c.kids.getD 0 default) env (n - 1)).2.2))
    else match JS (fun c n => evG g c env n) c.kids (n - 1) with
      | .inl (e, m) => (zV, e, m)
      | .inr ([], m) => (zV, 0, m)
      | .inr (f :: args, m) => Ea (evG g) f args m
mutual
def Val.nodes:Val->Nat
 | .mk _ _ _ l _ e=>1+Val.AF l+Slt.AF e
def Val.AF:List Val->Nat
 | []=>0
 | v :: l=>v.nodes+Val.AF l
def Slt.nodes:Slt->Nat
 | .mk _ v=>v.nodes
def Slt.AF:List Slt->Nat
 | []=>0
 | s :: l=>s.nodes+Slt.AF l
end
theorem Val.IB:∀l,Val.AF l=YY Val.nodes l
 | []=>rfl
 | v :: l=>by rw [Val.AF,YY,Val.IB l]
theorem Slt.Yx (s:Slt):s.nodes=s.val.nodes:=by cases s;rw [Slt.nodes];rfl
theorem Slt.IB:∀l,Slt.AF l=YY Slt.nodes l
 | []=>rfl
 | v :: l=>by rw [Slt.AF,YY,Slt.IB l]
theorem Val.Yx (v:Val):v.nodes=1+YY Val.nodes v.items+YY Slt.nodes v.env:=by cases v;rw [Val.nodes,Val.IB,Slt.IB];rfl
end Go.Proofs.Shadow
namespace Go.Proofs.SA
inductive AR:Cor->Prop
 | mk {k i:Int} {s:ByteArray} {n:Int} {l:List Int} {d:Fm} {ks:List Cor} (ha:arity k ks.length) (hs:s.size<=12) (hn:0<=n/\n<=999) (hl:l.length<=999) (hd:FV d∨d=zF) (hk:ks.length<=600) (h:∀x∈ks,AR x):AR (.mk k i s n l d ks)
theorem AR.out {c:Cor} (h:AR c):arity c.kind c.kids.length/\c.name.size<=12/\(0<=c.num/\c.num<=999)/\c.ids.length<=999/\(FV c.data∨c.data=zF)/\c.kids.length<=600/\∀x∈c.kids,AR x:=by
 cases h;exact ⟨by assumption,by assumption,by assumption,by assumption,by assumption,by assumption,by assumption⟩
theorem Qbv:∀(n:Nat) (l:List Int),l.Nodup->(∀i∈l,1<=i/\i<=(n:Int))->l.length<=n
 | 0,[],_,_=>Qt _
 | 0,x :: l,_,h=>by have:=h x (KB ..);omega
 | n+1,l,hn,h=>by
  have h1:=Qbv n (l.erase ((n+1:Nat):Int)) (hn.erase _) (fun i hi=>by
   have hm:=(hn.mem_erase_iff).1 hi;have:=h i hm.2;have:=hm.1
   omega)
  rw [List.length_erase] at h1;split at h1<;>omega
theorem Ol (l:List Int) (h:l.Nodup) (hr:∀i∈l,1<=i/\i<=999):l.length<=999:=Qbv 999 l h hr
theorem Fb:∀l:List Cor,l.length<=YY Xh l
 | []=>Qt _
 | c :: l=>by have:=Fb l;have:=Cor.Yx c;rw [YY,ZE];omega
theorem CIs.ar:∀(d:Nat) (sc:List Int) (c:Cor),CIs d sc c->c.nodes<=600->AR c
 | 0,_,_,h,_=>h.elim
 | d+1,sc,c,h,hn=>by
  obtain ⟨h1,h2,h3,h4,h5,h6⟩:=h;have hne:=Cor.Yx c;have hkl:=Fb c.kids;obtain ⟨_,f2,f3,f4,_⟩:=h2
  have:=AR.mk (i:=c.id) (d:=c.data) (l:=c.ids) (s:=c.name) (n:=c.num) h1 (by
   by_cases hk:c.kind=2
   ·exact NV.size (f2.1 hk)
   ·rw [f2.2 hk];decide) (by
   by_cases hk:c.kind=3
   ·exact f3.1 hk
   ·rw [f3.2 hk];decide) (Ol _ h5 fun i hi=>⟨(h4 i hi).1,(h4 i hi).2.1⟩) (by
   by_cases hk:c.kind=4
   ·exact .inl (f4.1 hk).1
   ·exact .inr (f4.2 hk)) (by omega) (fun x hx=>CIs.ar d _ x (h6 x hx) (by have:=Gl Xh c.kids x hx;omega))
  rwa [XD] at this
theorem CV.ar {c:Cor} (h:CV c):AR c:=CIs.ar _ _ _ h.1 h.2
inductive VI (m:Nat):Val->Prop
 | mk {k n:Int} {s:ByteArray} {l:List Val} {f:Cor} {e:List Slt} (hn:-1000<=n/\n<=1000) (hs:s.size<=12) (hl:l.length<=1000) (hf:(k=4/\AR f/\f.kind=5/\f.nodes<=600)∨(k≠4/\f=zC)) (he:e.length+1000 * (m+1)<=10000000) (h1:∀x∈l,VI m x) (h2:∀x∈e,VI m x.val):VI m (.mk k n s l f e)
theorem VI.out {m:Nat} {v:Val} (h:VI m v):(-1000<=v.num/\v.num<=1000)/\v.name.size<=12/\v.items.length<=1000/\((v.kind=4/\AR v.fn/\v.fn.kind=5/\v.fn.nodes<=600)∨(v.kind≠4/\v.fn=zC))/\v.env.length+1000 * (m+1)<=10000000/\(∀x∈v.items,VI m x)/\∀x∈v.env,VI m x.val:=by
 cases h;exact ⟨by assumption,by assumption,by assumption,by assumption,by assumption,by assumption,by assumption⟩
theorem VI.mono {m n:Nat} (hmn:m<=n):∀v:Val,VI n v->VI m v:=by
 intro v
 induction v using Val.ind with
 | h v ih1 ih2 =>
  intro h;obtain ⟨a1,a2,a3,a4,a5,a6,a7⟩:=h.out;have:=VI.mk (m:=m) a1 a2 a3 a4 (by omega) (fun x hx=>ih1 x hx (a6 x hx)) (fun x hx=>ih2 x hx (a7 x hx));rwa [Val.eta] at this
theorem VI.zero {m:Nat} (hm:m<=3001):VI m zV:=.mk (by decide) (by decide) (by simp) (.inr ⟨by decide,rfl⟩) (by simp;omega) (by simp) (by simp)
theorem VI.num {m:Nat} (hm:m<=3001) {n:Int} (hn:-1000<=n/\n<=1000):VI m (TI n):=.mk hn (by decide) (by simp) (.inr ⟨by decide,rfl⟩) (by simp;omega) (by simp) (by simp)
theorem VI.list {m:Nat} (hm:m<=3001) {l:List Val} (hl:l.length<=1000) (h:∀x∈l,VI m x):VI m (TC l):=.mk (by decide) (by decide) hl (.inr ⟨by decide,rfl⟩) (by simp;omega) h (by simp)
theorem VI.data {m:Nat} (hm:m<=3001):∀(d:Nat) (f:Fm),FIs d f->f.nodes<=400->VI m (DW f)
 | 0,_,h,_=>h.elim
 | d+1,f,h,hn=>by
  have hne:=Fm.Yx f;have hl:=W3 f.kids;rw [EB]
  rcases h with h | h | h
  ·rw [if_neg (by omega),if_pos h.1];exact .mk (by decide) (NV.size h.2.1) (by simp) (.inr ⟨by decide,rfl⟩) (by simp;omega) (by simp) (by simp)
  ·rw [if_pos h.1];exact VI.num hm (by omega)
  ·rw [if_neg (by omega),if_neg (by omega)];refine VI.list hm (by rw [List.length_map];omega) fun x hx=>?_;obtain ⟨y,hy,rfl⟩:=List.mem_map.1 hx;exact VI.data hm d y (h.2.2.2.2 y hy) (by have:=Gl Fm.nodes f.kids y hy;omega)
theorem Qjt:∀f:Fm,f.sz<=1000000->IN f=some (DW f):=by
 intro f
 induction f using Fm.ind with
 | h f ih =>
  intro hf;have hz:=Fm.Gb f;rw [IN,EB]
  by_cases h2:f.kind=2
  ·rw [if_pos h2,if_pos h2];rfl
  ·rw [if_neg h2,if_neg h2]
   by_cases h1:f.kind=1
   ·rw [if_pos h1,if_pos h1];rfl
   ·rw [if_neg h1,if_neg h1,Nn _ _ (by omega),G9 (HY f) DW (fun _ _=>rfl) f.kids [] 0 (fun x hx z i r hz=>by
     have:=Fm.Hb hx
     rw [HY,Yd,X5,ih x hx (by omega),X5,YB (by simp;omega),X5]) (by simp;omega)]
    rfl
theorem Qj2 (env:List Slt) (id:Int) (h:env.length<=1000000000):B6 env id=some (Oe env id):=by
 have key:∀(n:Nat),n<=env.length->GO env id ((n:Int) - 1)=some (match (env.take n).reverse.find? (fun s=>decide (s.id=id)) with | some s=>.inl s.val | none=>.inr ()):=by
  intro n
  induction n with
  | zero=>intro _;rw [GO,if_neg (by omega)];rfl
  | succ n ih =>
   intro hn
   have hl:n < env.length:=by omega
   rw [GO,if_pos (by omega),show ((n+1:Nat):Int) - 1=(n:Int) by omega,Yg env n hl,X5,Xm hl,Xy,Xt,Xv,Xk]
   by_cases hid:env[n].id=id
   ·rw [if_pos hid,X5,decide_eq_true hid];rfl
   ·rw [if_neg hid,decide_eq_false hid,YC (by omega) (by omega),ih (by omega)]
 rw [B6,YC (by omega) (by omega),key env.length (Qt _),List.take_length,X5,Oe];cases env.reverse.find? (fun s=>decide (s.id=id))<;>rfl
theorem Qkq {m:Nat} (hm:m<=3001) {env:List Slt} (h:∀x∈env,VI m x.val) (id:Int):VI m (Oe env id):=by
 unfold Oe
 cases hf:env.reverse.find? (fun s=>decide (s.id=id)) with
 | none=>exact VI.zero hm
 | some s=>exact h s (List.mem_reverse.1 (Xo hf))
theorem Qsb (l:List ByteArray) (s:ByteArray) (h:l.length<=1000000):En l s=some (hasB l s):=by
 rw [En,PE _ _ (by omega),Di (IU l s) (fun x=>decide (x=s)) true (fun _=>rfl) l 0 (fun x hx i r=>by
  rw [IU,Yd,X5];by_cases hx:x=s<;>simp [hx,Yd]),X5]
 unfold hasB;cases (l.any fun x=>decide (x=s))<;>rfl
theorem Mr (a:Int):-999<=a.tmod 1000/\a.tmod 1000<=999:=by
 have h1:=Int.tmod_lt_of_pos a (show (0:Int) < 1000 by decide);have h2:=Int.lt_tmod_of_pos a (show (0:Int) < 1000 by decide);omega
theorem Qd7 (args:List Val):-999<=Qpk args/\Qpk args<=999:=by
 unfold Qpk
 have:∀(l:List Val) (s:Int),-999<=s/\s<=999->-999<=l.foldl (fun s v=>(s+v.num).tmod 1000) s/\l.foldl (fun s v=>(s+v.num).tmod 1000) s<=999:=by
  intro l
  induction l with
  | nil=>intro s h;exact h
  | cons v l ih=>intro s h;exact ih _ (Mr _)
 exact this args 0 (by decide)
theorem Qph {m:Nat} (args:List Val) (h:args.length<=1000) (hv:∀x∈args,VI m x):De args=some (if args.all (fun v=>decide (v.kind=1))=true then (TI (Qpk args),0) else (zV,3)):=by
 have key:∀(r:List Val) (i:Nat) (s:Int),(∀x∈r,VI m x)->-999<=s/\s<=999->Iz args s i r=some (if r.all (fun v=>decide (v.kind=1))=true then .inr (r.foldl (fun s v=>(s+v.num).tmod 1000) s) else .inl (zV,3)):=by
  intro r
  induction r with
  | nil=>intro i s _ _;rfl
  | cons v r ih =>
   intro i s hr hs;have hvv:=(hr v (KB ..)).out.1;rw [Iz,Yd,X5,Xr]
   by_cases hk:v.kind=1
   ·rw [if_pos hk,X5,YC (by omega) (by omega),ih (i+1) _ (fun x hx=>hr x (Kf _ hx)) (Mr _),decide_eq_true hk,Z1];rfl
   ·rw [if_neg hk,decide_eq_false hk,Z4];rfl
 rw [De,OR _ _ (by omega),key args 0 0 hv (by decide),X5]
 by_cases h:args.all (fun v=>decide (v.kind=1))=true
 ·rw [if_pos h,if_pos h];rfl
 ·rw [if_neg h,if_neg h];rfl
theorem Qku {m:Nat} (hm:m<=3001) (name:ByteArray) (args:List Val) (h:args.length<=1000) (hv:∀x∈args,VI m x):B7 name args=some (CZ name args)/\VI m (CZ name args).1:=by
 rw [B7,CZ]
 by_cases h1:name=S7
 ·have h1':=h1;unfold S7 at h1';rw [if_pos h1',if_pos h1,YB (by simp;omega),X5];exact ⟨rfl,VI.list hm h hv⟩
 have h1':=h1;unfold S7 at h1';rw [if_neg h1',if_neg h1]
 by_cases h2:name=NQ
 ·have h2':=h2;unfold NQ at h2';rw [if_pos h2',if_pos h2,Qph args h hv,X5];refine ⟨rfl,?_⟩;split
  ·have:=Qd7 args;exact VI.num hm (by omega)
  ·exact VI.zero hm
 have h2':=h2;unfold NQ at h2';rw [if_neg h2',if_neg h2]
 have e1:∀(k:Int),((if (args.length:Int)=1 then (idx args 0>>=fun x28=>some (!decide (x28.kind=k))) else some true:Option Bool))=some (!decide (args.length=1/\(args.getD 0 zV).kind=k)):=fun k=>by
  by_cases hl:args.length=1
  ·have h0:0 < args.length:=by omega
   rw [if_pos (by omega),show idx args 0=some args[0] from Yg args 0 h0,X5,Vv h0]
   by_cases hk:args[0].kind=k
   ·rw [decide_eq_true hk,decide_eq_true ⟨hl,hk⟩]
   ·rw [decide_eq_false hk,decide_eq_false (fun h=>hk h.2)]
  ·rw [if_neg (by omega),decide_eq_false (fun h=>hl h.1)];rfl
 have e2:((if (args.length:Int)=2 then (idx args 0>>=fun x28=>some (!decide (x28.kind=1))) else some true:Option Bool))=some (!decide (args.length=2/\(args.getD 0 zV).kind=1)):=by
  by_cases hl:args.length=2
  ·have h0:0 < args.length:=by omega
   rw [if_pos (by omega),show idx args 0=some args[0] from Yg args 0 h0,X5,Vv h0]
   by_cases hk:args[0].kind=1
   ·rw [decide_eq_true hk,decide_eq_true ⟨hl,hk⟩]
   ·rw [decide_eq_false hk,decide_eq_false (fun h=>hk h.2)]
  ·rw [if_neg (by omega),decide_eq_false (fun h=>hl h.1)];rfl
 by_cases h3:name=LG
 ·have h3':=h3;unfold LG at h3';rw [if_pos h3];simp only [h3',if_true,decide_true,Yd,X5,e1]
  by_cases hc:args.length=1/\(args.getD 0 zV).kind=3
  rotate_left
  ·rw [decide_eq_false hc,if_neg (show ¬(args.length=1/\(args.getD 0 zV).kind=3/\(args.getD 0 zV).items.length≠0) from fun h=>hc ⟨h.1,h.2.1⟩)];simp only [ZT,if_true,X5];exact ⟨rfl,VI.zero hm⟩
  have h0:0 < args.length:=by omega
  have hvv:=(hv _ (ZK h0)).out;rw [decide_eq_true hc];obtain ⟨hc1,hc2⟩:=hc;simp only [Vv h0] at hc2 ⊢;simp only [ZU,Qq,if_false,show idx args 0=some args[0] from Yg args 0 h0,X5]
  by_cases hi:args[0].items.length=0
  ·rw [decide_eq_true (show (args[0].items.length:Int)=0 by omega),if_neg (show ¬(args.length=1/\args[0].kind=3/\args[0].items.length≠0) from fun h=>h.2.2 hi)];exact ⟨rfl,VI.zero hm⟩
  ·have hi0:0 < args[0].items.length:=by omega
   rw [decide_eq_false (show ¬(args[0].items.length:Int)=0 by omega),if_pos (show (args.length=1/\args[0].kind=3/\args[0].items.length≠0) from ⟨hc1,hc2,hi⟩),show idx args[0].items 0=some args[0].items[0] from Yg _ 0 hi0,Vv hi0];exact ⟨rfl,hvv.2.2.2.2.2.1 _ (ZK hi0)⟩
 have h3':=h3;unfold LG at h3'
 by_cases h4:name=LI
 ·have h4':=h4;unfold LI at h4';rw [if_neg h3,if_pos h4]
  have e7:¬(Qk #[116,97,105,108]=Qk #[104,101,97,100]):=by decide
  simp only [h4',e7,if_false,if_true,decide_true,Yd,X5,e1]
  by_cases hc:args.length=1/\(args.getD 0 zV).kind=3
  rotate_left
  ·rw [decide_eq_false hc,if_neg (show ¬(args.length=1/\(args.getD 0 zV).kind=3/\(args.getD 0 zV).items.length≠0) from fun h=>hc ⟨h.1,h.2.1⟩)];simp only [ZT,if_true,X5];exact ⟨rfl,VI.zero hm⟩
  have h0:0 < args.length:=by omega
  have hvv:=(hv _ (ZK h0)).out;rw [decide_eq_true hc];obtain ⟨hc1,hc2⟩:=hc;simp only [Vv h0] at hc2 ⊢;simp only [ZU,Qq,if_false,show idx args 0=some args[0] from Yg args 0 h0,X5]
  by_cases hi:args[0].items.length=0
  ·rw [decide_eq_true (show (args[0].items.length:Int)=0 by omega),if_neg (show ¬(args.length=1/\args[0].kind=3/\args[0].items.length≠0) from fun h=>h.2.2 hi)];exact ⟨rfl,VI.zero hm⟩
  ·have e6:E4 args[0].items 1 (args[0].items.length:Int)=some (args[0].items.drop 1):=by
    unfold E4;rw [if_pos ⟨by omega,by omega,by omega⟩]
    congr 1
    exact Xu (by rw [Xe];omega)
   rw [decide_eq_false (show ¬(args[0].items.length:Int)=0 by omega),if_pos (show (args.length=1/\args[0].kind=3/\args[0].items.length≠0) from ⟨hc1,hc2,hi⟩),e6];exact ⟨rfl,VI.list hm (by rw [Xe];have:=hvv.2.2.1;omega) fun y hy=>hvv.2.2.2.2.2.1 y (QA hy)⟩
 have h4':=h4;unfold LI at h4';rw [if_neg h3,if_neg h4];simp only [h3',h4',if_false,decide_false,Qq,Yd,X5,e2]
 by_cases hc:args.length=2/\(args.getD 0 zV).kind=1
 rotate_left
 ·rw [decide_eq_false hc,if_neg (show ¬(args.length=2/\(args.getD 0 zV).kind=1/\(args.getD 1 zV).kind=1) from fun h=>hc ⟨h.1,h.2.1⟩)];simp only [ZT,if_true,X5];exact ⟨rfl,VI.zero hm⟩
 rw [decide_eq_true hc]
 have h0:0 < args.length:=by omega
 have h11:1 < args.length:=by omega
 obtain ⟨hc1,hc2⟩:=hc;simp only [Vv h0,Vv h11] at hc2 ⊢;simp only [ZU,Qq,if_false,show idx args 0=some args[0] from Yg args 0 h0,show idx args 1=some args[1] from Yg args 1 h11,X5]
 by_cases hk:args[1].kind=1
 rotate_left
 ·rw [decide_eq_false hk,if_neg (show ¬(args.length=2/\args[0].kind=1/\args[1].kind=1) from fun h=>hk h.2.2)];exact ⟨rfl,VI.zero hm⟩
 rw [decide_eq_true hk,if_pos (show (args.length=2/\args[0].kind=1/\args[1].kind=1) from ⟨hc1,hc2,hk⟩)];simp only [ZU,Qq,if_false];constructor
 ·unfold LH Qc8
  by_cases n1:name=Qk #[60]
  ·have n2:¬name=Qk #[61]:=by rw [n1];decide
   by_cases c1:args[0].num < args[1].num
   ·rw [if_pos (show (name=Qk #[60]/\args[0].num < args[1].num∨name=Qk #[61]/\args[0].num=args[1].num) from .inl ⟨n1,c1⟩),if_pos n1,decide_eq_true c1];rfl
   ·rw [if_neg (show ¬(name=Qk #[60]/\args[0].num < args[1].num∨name=Qk #[61]/\args[0].num=args[1].num) from fun h=>h.elim (fun h=>c1 h.2) (fun h=>n2 h.1)),if_pos n1,decide_eq_false c1];simp only [X5,Qq,if_false,n2];rfl
  ·by_cases n3:name=Qk #[61]
   ·by_cases c1:args[0].num=args[1].num
    ·rw [if_pos (show (name=Qk #[60]/\args[0].num < args[1].num∨name=Qk #[61]/\args[0].num=args[1].num) from .inr ⟨n3,c1⟩),if_neg n1];simp only [X5,Qq,if_false];rw [if_pos n3,decide_eq_true c1];rfl
    ·rw [if_neg (show ¬(name=Qk #[60]/\args[0].num < args[1].num∨name=Qk #[61]/\args[0].num=args[1].num) from fun h=>h.elim (fun h=>n1 h.1) (fun h=>c1 h.2)),if_neg n1];simp only [X5,Qq,if_false];rw [if_pos n3,decide_eq_false c1];rfl
   ·rw [if_neg (show ¬(name=Qk #[60]/\args[0].num < args[1].num∨name=Qk #[61]/\args[0].num=args[1].num) from fun h=>h.elim (fun h=>n1 h.1) (fun h=>n3 h.1)),if_neg n1];simp only [X5,Qq,if_false];rw [if_neg n3];rfl
 ·split
  ·exact VI.num hm (by decide)
  ·exact VI.num hm (by decide)
end Go.Proofs.SA
open Go.IntKind (i64)
namespace Go.Proofs.SA
theorem NR:∀(is:List Int) (vs:List Val),is.length=vs.length->(Cd is vs).length=vs.length
 | [],[],_=>rfl
 | i :: is,v :: vs,h=>by rw [Cd,ZE,NR is vs (by simpa using h)];rfl
theorem FO:∀(is:List Int) (vs:List Val),∀s∈Cd is vs,s.val∈vs
 | [],_,s,h=>by cases h
 | i :: is,[],s,h=>by cases h
 | i :: is,v :: vs,s,h=>by
  rw [Cd] at h
  rcases Kj.1 h with rfl | h
  ·exact KB ..
  ·exact Kf _ (FO is vs s h)
theorem Qjp (f:Val) (args:List Val) (m:Int) (hl:args.length=f.fn.ids.length) (h1:args.length<=1000) (h2:f.env.length<=10000000):WT f args m f.env 0=some (f.env++Cd f.fn.ids args):=by
 rw [Nj _ _ _ _ (by omega)]
 have key:∀(r:List Val) (i:Nat) (z:List Slt),args.drop i=r->z.length+r.length<=20000000->G5 f args m z i r=some (z++Cd (f.fn.ids.drop i) r):=by
  intro r
  induction r with
  | nil =>
   intro i z hd _
   have:args.length<=i:=by
    rcases KA i args.length with h | h
    ·rw [Zx h] at hd;cases hd
    ·exact h
   rw [G5,Zy (by omega)];simp [Yd,Cd]
  | cons v r ih =>
   intro i z hd hz;simp only [ZE] at hz
   have hi:i < args.length:=by
    rcases KA i args.length with h | h
    ·exact h
    ·rw [Zy h] at hd;cases hd
   have hd2:args.drop (i+1)=r:=by rw [← List.drop_drop,hd];rfl
   rw [G5,Yg _ i (by omega),X5,Yd,X5,YB (by simp;omega),X5,ih (i+1) _ hd2 (by simp;omega),Zx (show i < f.fn.ids.length by omega),Cd,QD];rfl
 exact key args 0 f.env (ZN ..) (by omega)
def Qqf (n:Nat) (o:Option (Val × Int × Int)) (e:Val × Int × Nat):Prop:=o=some (e.1,e.2.1,(e.2.2:Int))/\VI e.2.2 e.1/\e.2.2<=n/\(0 < n->e.2.2 < n)
theorem evz {n k:Nat} {e:Int} (hk:k<=3001) (h1:k<=n) (h2:0 < n->k < n):Qqf n (some (zV,e,(k:Int))) (zV,e,k):=⟨rfl,VI.zero hk,h1,h2⟩
theorem evv {n k:Nat} {e:Int} {v:Val} (hv:VI k v) (h1:k<=n) (h2:0 < n->k < n):Qqf n (some (v,e,(k:Int))) (v,e,k):=⟨rfl,hv,h1,h2⟩
theorem E3 {c:Cor} (h:AR c) (hn:c.nodes<=600) {x:Cor} (hx:x∈c.kids):AR x/\x.nodes<=600:=by
 have:=Cor.Yx c;have:=Gl Xh c.kids x hx;exact ⟨h.out.2.2.2.2.2.2 x hx,by omega⟩
theorem LK:∀(g:Nat),g<=3001->∀(n:Nat),n<=g->∀(c:Cor),AR c->c.nodes<=600->∀env:List Slt,(∀s∈env,VI n s.val)->env.length+1000 * n<=10000000->Qqf n (VV c env (n:Int)) (evG g c env n):=by
 intro g
 induction g with
 | zero =>
  intro _ n hn c _ _ env _ _
  obtain rfl:n=0:=by omega
  rw [VV,if_pos (by rfl),evG];exact evz (by omega) (by omega) (fun h=>by omega)
 | succ g ih =>
  intro hg n hn c hc hcn env henv hel;have ihg:=ih (by omega);rw [VV,evG]
  by_cases h0:n=0
  ·subst h0;rw [if_pos (by rfl),if_pos rfl];exact evz (k:=0) (by decide) (Qt _) (fun h=>by omega)
  rw [if_neg (show ¬(n:Int)=0 by omega),if_neg h0,show i64.wrap ((n:Int) - 1)=((n - 1:Nat):Int) by rw [YC (by omega) (by omega)];omega];obtain ⟨c1,c2,c3,c4,c5,c6,c7⟩:=hc.out;have henv':∀s∈env,VI (n - 1) s.val:=fun s hs=>VI.mono (by omega) _ (henv s hs);have fin:∀{v:Val} {e:Int},VI (n - 1) v->Qqf n (some (v,e,((n - 1:Nat):Int))) (v,e,n - 1):=fun h=>⟨rfl,h,by show n - 1<=n;omega,fun _=>by show n - 1 < n;omega⟩
  by_cases k1:c.kind=1
  ·rw [if_pos k1,if_pos k1,Qj2 _ _ (by omega),X5];exact fin (Qkq (by omega) henv' _)
  by_cases k3:c.kind=3
  ·rw [if_neg k1,if_pos k3,if_neg k1,if_pos k3];exact fin (VI.num (by omega) (by omega))
  by_cases k4:c.kind=4
  ·rw [if_neg k1,if_neg k3,if_pos k4,if_neg k1,if_neg k3,if_pos k4]
   have hdz:c.data.sz<=1000000:=by
    rcases c5 with h | h
    ·have:=h.sz;omega
    ·rw [h];decide
   rw [Qjt _ hdz,X5];refine fin ?_
   rcases c5 with h | h
   ·exact VI.data (by omega) 40 _ h.1 h.2
   ·rw [h];rw [EB];exact VI.list (by omega) (by decide) (fun x hx=>by cases hx)
  by_cases k5:c.kind=5
  ·rw [if_neg k1,if_neg k3,if_neg k4,if_pos k5,if_neg k1,if_neg k3,if_neg k4,if_pos k5];exact fin (.mk (by decide) (by decide) (by simp) (.inl ⟨rfl,hc,k5,hcn⟩) (by omega) (by simp) henv')
  by_cases k2:c.kind=2
  ·rw [if_neg k1,if_neg k3,if_neg k4,if_neg k5,if_pos k2,if_neg k1,if_neg k3,if_neg k4,if_neg k5,if_pos k2];rw [show Cw=some Pz from rfl,X5,Qsb _ _ (by decide),X5]
   by_cases hb:hasB Pz c.name=true
   ·rw [if_pos hb,if_pos hb];exact fin (.mk (by decide) c2 (by simp) (.inr ⟨by decide,rfl⟩) (by simp;omega) (by simp) (by simp))
   ·rw [if_neg hb,if_neg hb];exact fin (VI.zero (by omega))
  by_cases k7:c.kind=7
  ·rw [if_neg k1,if_neg k3,if_neg k4,if_neg k5,if_neg k2,if_pos k7,if_neg k1,if_neg k3,if_neg k4,if_neg k5,if_neg k2,if_pos k7]
   have hl:c.kids.length=3:=by rcases c1 with h | h | h | h<;>omega
   have l0:0 < c.kids.length:=by omega
   have l1:1 < c.kids.length:=by omega
   have l2:2 < c.kids.length:=by omega
   rw [show idx c.kids 0=some c.kids[0] from Yg _ 0 l0,X5,Vv l0,Vv l1,Vv l2];have q0:=E3 hc hcn (ZK l0);have q1:=E3 hc hcn (ZK l1);have q2:=E3 hc hcn (ZK l2);obtain ⟨r1,r2,r3,r4⟩:=ihg (n - 1) (by omega) c.kids[0] q0.1 q0.2 env henv' (by omega);rw [r1,X5];generalize evG g c.kids[0] env (n - 1)=e at r1 r2 r3 r4
   simp only
   by_cases he:e.2.1=0
   rotate_left
   ·rw [if_neg he,if_neg he];exact evz (by omega) (by omega) (fun _=>by omega)
   rw [if_pos he,if_pos he]
   have sub:∀(k:Cor),AR k/\k.nodes<=600->Qqf n (VV k env (e.2.2:Int)>>=fun x=>pure (x.1,x.2.1,x.2.2)) (evG g k env e.2.2):=fun k hk=>by
    obtain ⟨s1,s2,s3,s4⟩:=ihg e.2.2 (by omega) k hk.1 hk.2 env (fun s hs=>VI.mono (by omega) _ (henv s hs)) (by omega);rw [s1,X5];exact ⟨rfl,s2,by omega,fun _=>by omega⟩
   by_cases hz:e.1.kind=1/\e.1.num=0
   ·rw [decide_eq_true hz.1,decide_eq_true hz.2,if_pos hz];simp only [Xj,Yd,X5,if_true,show idx c.kids 2=some c.kids[2] from Yg _ 2 l2];exact sub _ q2
   ·have hb:(decide (e.1.kind=1)&&decide (e.1.num=0))=false:=by
     by_cases ha:e.1.kind=1
     ·rw [decide_eq_false (fun h=>hz ⟨ha,h⟩),Xw]
     ·rw [decide_eq_false ha,Z4]
    rw [hb,if_neg hz];simp only [Yd,X5,Qq,if_false,show idx c.kids 1=some c.kids[1] from Yg _ 1 l1];exact sub _ q1
  rw [if_neg k1,if_neg k3,if_neg k4,if_neg k5,if_neg k2,if_neg k7,if_neg k1,if_neg k3,if_neg k4,if_neg k5,if_neg k2,if_neg k7]
  have hl:1<=c.kids.length:=by rcases c1 with h | h | h | h<;>omega
  rw [No _ _ _ _ (by omega)]
  have loop:∀(r:List Cor) (i:Nat) (z:List Val) (m:Nat),(∀x∈r,x∈c.kids)->m<=n - 1->z.length+r.length<=1000->(∀v∈z,VI m v) ->
    match JS (fun c n=>evG g c env n) r m with
    | .inl (e,k)=>JQ c env z (m:Int) i r=some (.inl (zV,e,(k:Int)))/\k<=m
    | .inr (vs,k)=>JQ c env z (m:Int) i r=some (.inr (z++vs,(k:Int)))/\k<=m/\(∀v∈z++vs,VI k v)/\vs.length=r.length:=by
   intro r
   induction r with
   | nil=>intro i z m _ _ _ hz;rw [JS];exact ⟨by rw [JQ,Yd,K8],Qt _,by simpa using hz,rfl⟩
   | cons k r ihr =>
    intro i z m hr hm hz hzv;simp only [ZE] at hz;have hk:=E3 hc hcn (hr k (KB ..));obtain ⟨r1,r2,r3,r4⟩:=ihg m (by omega) k hk.1 hk.2 env (fun s hs=>VI.mono (by omega) _ (henv s hs)) (by omega);rw [JS,JQ,Yd,X5,r1,X5];generalize evG g k env m=e at r1 r2 r3 r4
    simp only
    by_cases he:e.2.1=0
    rotate_left
    ·rw [if_neg he,if_neg he];exact ⟨rfl,r3⟩
    rw [if_pos he,if_pos he,YB (by simp;omega),X5]
    have hnext:=ihr (i+1) (z++[e.1]) e.2.2 (fun x hx=>hr x (Kf _ hx)) (by omega) (by simp;omega) (fun v hv=>by
     rcases QR.1 hv with hv | hv
     ·exact VI.mono r3 _ (hzv v hv)
     ·rw [ZG.1 hv];exact r2)
    cases hE:JS (fun c n=>evG g c env n) r e.2.2 with
    | inl x =>
     rw [hE] at hnext;exact ⟨hnext.1,by have:=hnext.2;omega⟩
    | inr x =>
     obtain ⟨vs,kk⟩:=x;rw [hE] at hnext;obtain ⟨t1,t2,t3,t4⟩:=hnext;refine ⟨?_,by omega,?_,by simp [t4]⟩
     ·rw [t1,QD];rfl
     ·rw [QD] at t3;exact t3
  have hloop:=loop c.kids 0 [] (n - 1) (fun _ h=>h) (Qt _) (by simp;omega) (by simp)
  cases hE:JS (fun c n=>evG g c env n) c.kids (n - 1) with
  | inl x =>
   obtain ⟨e,k⟩:=x;rw [hE] at hloop;rw [hloop.1,X5];have:=hloop.2;exact evz (by omega) (by omega) (fun _=>by omega)
  | inr x =>
   obtain ⟨vs,m⟩:=x;rw [hE] at hloop;obtain ⟨t1,t2,t3,t4⟩:=hloop;rw [QS] at t1 t3;rw [t1,X5]
   cases vs with
   | nil=>simp at t4;omega
   | cons f args =>
    have hf:=t3 f (KB ..);have ha:∀v∈args,VI m v:=fun v hv=>t3 v (Kf _ hv)
    have hal:args.length<=600:=by simp at t4;omega
    have hsub:E4 (f :: args) 1 ((f :: args).length:Int)=some args:=by
     unfold E4;rw [if_pos ⟨by omega,by simp;omega,by omega⟩]
     simp
    simp only [show idx (f :: args) 0=some f from rfl,X5,hsub];obtain ⟨f1,f2,f3,f4,f5,f6,f7⟩:=hf.out;rw [DB,Ea]
    by_cases h5:f.kind=5
    ·rw [if_pos h5,if_pos h5];obtain ⟨p1,p2⟩:=Qku (m:=m) (by omega) f.name args (by omega) ha;rw [p1,X5];exact evv p2 (by omega) (fun _=>by omega)
    rw [if_neg h5,if_neg h5]
    by_cases h4:f.kind=4
    rotate_left
    ·rw [if_neg h4,if_neg h4];exact evz (by omega) (by omega) (fun _=>by omega)
    rw [if_pos h4,if_pos h4]
    by_cases hal2:args.length=f.fn.ids.length
    rotate_left
    ·rw [if_neg (show ¬(args.length:Int)=(f.fn.ids.length:Int) by omega),if_neg hal2];exact evz (by omega) (by omega) (fun _=>by omega)
    rw [if_pos (show (args.length:Int)=(f.fn.ids.length:Int) by omega),if_pos hal2]
    have hfn:AR f.fn/\f.fn.kind=5/\f.fn.nodes<=600:=by
     rcases f4 with h | h
     ·exact h.2
     ·exact absurd h4 h.1
    have hk0:0 < f.fn.kids.length:=by
     have:=hfn.1.out.1
     rcases this with h | h | h | h<;>omega
    have hkid:=E3 hfn.1 hfn.2.2 (ZK hk0);rw [YB (by simp;omega),X5,QS,Qjp f args _ hal2 (by omega) (by omega),X5,show idx f.fn.kids 0=some f.fn.kids[0] from Yg _ 0 hk0,X5,Vv hk0];have hbl:=NR f.fn.ids args hal2.symm
    obtain ⟨s1,s2,s3,s4⟩:=ihg m (by omega) f.fn.kids[0] hkid.1 hkid.2 (f.env++Cd f.fn.ids args) (fun s hs=>by
     rcases QR.1 hs with hs | hs
     ·exact f7 s hs
     ·exact ha _ (FO _ _ s hs)) (by rw [QV,hbl];omega)
    rw [s1];exact ⟨rfl,s2,by omega,fun _=>by omega⟩
theorem Qd3 {m:Nat} : ∀(v:Val),VI m v->∀(most:Nat),most<=2000->Tot (Ig v (most:Int)) fun r=>∃k:Nat,r=(k:Int)/\1<=k/\k<=most+1/\(k<=most->k=v.nodes)/\(v.nodes<=most->k=v.nodes):=by
 intro v
 induction v using Val.ind with
 | h v ih1 ih2 =>
  intro hv most hmost;obtain ⟨a1,a2,a3,a4,a5,a6,a7⟩:=hv.out;have hne:=Val.Yx v
  have pos:∀w:Val,1<=w.nodes:=fun w=>by rw [Val.Yx];omega
  have step:∀(n k:Nat) (w:Val),n<=most->1<=k->k<=most - n+1->((i64.wrap ((n:Int)+(k:Int)))=((n+k:Nat):Int)):=fun n k w h1 h2 h3=>by rw [YC (by omega) (by omega)];omega
  have lp0:∀(d i n:Nat),i+d=v.items.length->1<=n->n<=most+1->Tot (HC v (most:Int) (n:Int) (i:Int)) fun r=>∃k:Nat,r=(k:Int)/\n<=k/\k<=most+1/\(k<=most->k=n+YY Val.nodes (v.items.drop i))/\(n+YY Val.nodes (v.items.drop i)<=most->k=n+YY Val.nodes (v.items.drop i)):=by
   intro d
   induction d with
   | zero =>
    intro i n hi h1 h2;rw [HC,Yd,X5,decide_eq_false (show ¬(i:Int) < (v.items.length:Int) by omega)];simp only [Z4,Qq,if_false];rw [show i=v.items.length by omega,List.drop_length];exact ⟨_,rfl,n,rfl,Qt _,h2,fun _=>by simp [YY],fun _=>by simp [YY]⟩
   | succ d ihd =>
    intro i n hi h1 h2
    have hil:i < v.items.length:=by omega
    have hm:=ZK hil;rw [HC,Yd,X5,decide_eq_true (show (i:Int) < (v.items.length:Int) by omega),Z1,Zx hil,YY];have hp:=pos v.items[i]
    by_cases hn:n<=most
    ·rw [decide_eq_true (show (n:Int)<=(most:Int) by omega)];simp only [if_true,Yg _ i hil,X5];rw [show i64.wrap ((most:Int) - (n:Int))=((most - n:Nat):Int) by rw [YC (by omega) (by omega)];omega];obtain ⟨r,hr,k,rfl,q1,q2,q3,q4⟩:=ih1 _ hm (a6 _ hm) (most - n) (by omega);rw [hr,X5,step n k v.items[i] hn q1 q2,Wu (i:=i) (by omega)];obtain ⟨r2,hr2,k2,rfl,u1,u2,u3,u4⟩:=ihd (i+1) (n+k) (by omega) (by omega) (by omega);refine ⟨_,hr2,k2,rfl,by omega,u2,fun h=>?_,fun h=>?_⟩
     ·have:=q3 (by omega);have:=u3 h;omega
     ·have:=q4 (by omega);have:=u4 (by omega);omega
    ·rw [decide_eq_false (show ¬(n:Int)<=(most:Int) by omega)];simp only [Qq,if_false];exact ⟨_,rfl,n,rfl,Qt _,h2,fun h=>by omega,fun h=>by omega⟩
  have lp1:∀(d i n:Nat),i+d=v.env.length->1<=n->n<=most+1->Tot (HD v (most:Int) (n:Int) (i:Int)) fun r=>∃k:Nat,r=(k:Int)/\n<=k/\k<=most+1/\(k<=most->k=n+YY Slt.nodes (v.env.drop i))/\(n+YY Slt.nodes (v.env.drop i)<=most->k=n+YY Slt.nodes (v.env.drop i)):=by
   intro d
   induction d with
   | zero =>
    intro i n hi h1 h2;rw [HD,Yd,X5,decide_eq_false (show ¬(i:Int) < (v.env.length:Int) by omega)];simp only [Z4,Qq,if_false];rw [show i=v.env.length by omega,List.drop_length];exact ⟨_,rfl,n,rfl,Qt _,h2,fun _=>by simp [YY],fun _=>by simp [YY]⟩
   | succ d ihd =>
    intro i n hi h1 h2
    have hil:i < v.env.length:=by omega
    have hm:=ZK hil;rw [HD,Yd,X5,decide_eq_true (show (i:Int) < (v.env.length:Int) by omega),Z1,Zx hil,YY];have hp:=pos v.env[i].val;have hsn:=Slt.Yx v.env[i]
    by_cases hn:n<=most
    ·rw [decide_eq_true (show (n:Int)<=(most:Int) by omega)];simp only [if_true,Yg _ i hil,X5];rw [show i64.wrap ((most:Int) - (n:Int))=((most - n:Nat):Int) by rw [YC (by omega) (by omega)];omega];obtain ⟨r,hr,k,rfl,q1,q2,q3,q4⟩:=ih2 _ hm (a7 _ hm) (most - n) (by omega);rw [hr,X5,step n k v.env[i].val hn q1 q2,Wu (i:=i) (by omega)];obtain ⟨r2,hr2,k2,rfl,u1,u2,u3,u4⟩:=ihd (i+1) (n+k) (by omega) (by omega) (by omega);refine ⟨_,hr2,k2,rfl,by omega,u2,fun h=>?_,fun h=>?_⟩
     ·have:=q3 (by omega);have:=u3 h;omega
     ·have:=q4 (by omega);have:=u4 (by omega);omega
    ·rw [decide_eq_false (show ¬(n:Int)<=(most:Int) by omega)];simp only [Qq,if_false];exact ⟨_,rfl,n,rfl,Qt _,h2,fun h=>by omega,fun h=>by omega⟩
  rw [Ig];obtain ⟨r,hr,k,rfl,q1,q2,q3,q4⟩:=lp0 v.items.length 0 1 (by omega) (Qt _) (by omega);rw [show ((0:Nat):Int)=0 from rfl,show ((1:Nat):Int)=1 from rfl] at hr;rw [hr,X5];obtain ⟨r2,hr2,k2,rfl,u1,u2,u3,u4⟩:=lp1 v.env.length 0 k (by omega) q1 q2;rw [show ((0:Nat):Int)=0 from rfl] at hr2;rw [hr2,X5];rw [ZN] at q3 q4 u3 u4;refine ⟨_,rfl,k2,rfl,by omega,u2,fun h=>?_,fun h=>?_⟩
  ·have:=u3 h;have:=q3 (by omega);omega
  ·have:=q4 (by omega);have:=u4 (by omega);omega
theorem AR.Qvt {c:Cor} (h:AR c):SO c:=by
 induction h with
 | mk ha hs hn hl hd hk _ ih =>
  refine .mk (by omega) ?_ (by omega) ih
  rcases hd with h | h
  ·have:=h.sz;omega
  ·rw [h];decide
theorem Qxr:SO zC:=.mk (by decide) (by decide) (by decide) (by simp)
theorem VI.fnB {m:Nat} {v:Val} (h:VI m v):SO v.fn:=by
 rcases h.out.2.2.2.1 with h | h
 ·exact h.2.1.Qvt
 ·rw [h.2];exact Qxr
theorem Qjr {m:Nat} : ∀v:Val,VI m v->G6 v=some v:=by
 intro v
 induction v using Val.ind with
 | h v ih1 ih2 =>
  intro hv;obtain ⟨a1,a2,a3,a4,a5,a6,a7⟩:=hv.out
  rw [G6,RW _ hv.fnB,X5,Nk _ _ _ (by omega),G9 (HW v v.fn) id (fun _ _=>rfl) v.items [] 0 (fun x hx z i r hz=>by
   rw [HW,Yd,X5,ih1 x hx (a6 x hx),X5,YB (by simp;omega),X5];rfl) (by simp;omega),X5,Nl _ _ _ _ (by omega),G9 (HX v v.fn _) id (fun _ _=>rfl) v.env [] 0 (fun x hx z i r hz=>by
   rw [HX,Yd,X5,ih2 x hx (a7 x hx),X5,YB (by simp;omega),X5,Slt.eta];rfl) (by simp;omega)]
  simp only [X5,Yd,QS,Xx,Val.eta]
open Classical in
noncomputable def LL (c : Cor) (fuel : Int) : Val × Int :=
  if CV c /\ 0 <= fuel /\ fuel <= 3000 then
    (if (evG fuel.toNat c [] fuel.toNat).2.1 = 0 then (if (evG fuel.toNat c [] fuel.toNat).1.nodes <= 2000 then ((evG fuel.toNat c [] fuel.toNat).1, 0) else (zV, 4))
     else (zV, (evG fuel.toNat c [] fuel.toNat).2.1))
  else (zV, 5)
theorem N6 {c:Cor} (hc:SO c) (hn:c.nodes<=1000000000) (fuel:Int):AK c fuel=some (LL c fuel)/\(∃m,VI m (LL c fuel).1)/\(LL c fuel).1.nodes<=2000:=by
 have hz:(∃m,VI m zV)/\zV.nodes<=2000:=⟨⟨0,VI.zero (by omega)⟩,by rw [Val.Yx];decide⟩;rw [AK];obtain ⟨b,e,hb⟩:=EZ hc hn;rw [e,X5];unfold LL;cases b
 ·rw [if_neg (fun h=>by have:=hb.2 h.1;cases this)];simp only [ZT,Xz,Yd,X5,if_true];exact ⟨rfl,hz⟩
 have hcv:=hb.1 rfl
 by_cases h0:fuel < 0
 ·rw [if_neg (fun h=>by omega),decide_eq_true h0];simp only [ZU,Xn,Xz,Yd,X5,if_true];exact ⟨rfl,hz⟩
 by_cases h1:fuel > 3000
 ·rw [if_neg (fun h=>by omega),decide_eq_true h1];simp only [Xn,Yd,X5,if_true];exact ⟨rfl,hz⟩
 rw [if_pos ⟨hcv,by omega,by omega⟩,decide_eq_false h0,decide_eq_false h1];simp only [ZU,Xs,Yd,X5,Qq,if_false]
 have hf:((fuel.toNat:Nat):Int)=fuel:=by omega
 obtain ⟨r1,r2,r3,r4⟩:=LK fuel.toNat (by omega) fuel.toNat (Qt _) c hcv.ar hcv.2 [] (by simp) (by simp;omega);rw [hf] at r1;rw [r1,X5];generalize evG fuel.toNat c [] fuel.toNat=e at r1 r2 r3 r4
 simp only
 by_cases he:e.2.1=0
 rotate_left
 ·rw [if_neg he,if_neg he];exact ⟨rfl,hz⟩
 rw [if_pos he,if_pos he];obtain ⟨r,hr,k,rfl,q1,q2,q3,q4⟩:=Qd3 e.1 r2 2000 (by omega);rw [show ((2000:Nat):Int)=2000 from rfl] at hr;rw [hr,X5]
 by_cases hk:e.1.nodes<=2000
 ·rw [if_pos hk,if_neg (by have:=q4 hk;omega),Qjr _ r2,X5,he];exact ⟨rfl,⟨_,r2⟩,hk⟩
 ·rw [if_neg hk,if_pos (by
   have:¬k<=2000:=fun h=>hk (by have:=q3 h;omega)
   omega)]
  exact ⟨rfl,hz⟩
end Go.Proofs.SA
namespace Go.Proofs.Shadow
end Go.Proofs.Shadow
namespace Go.Proofs.SA
theorem FM.Qsw {n:Nat} (hn:n<=4611686018427387904) (f:Fm):f.sz<=n->f.Ok:=by
 induction f using Fm.ind with
 | h f ih =>
  intro hs g hg;have hz:=Fm.Gb f;obtain ⟨k,s,m,sc,ks⟩:=f;simp only [Fm.name,Fm.sc,Fm.kids] at hz;rw [Fm.all] at hg
  rcases Kj.1 hg with rfl | hg
  ·simp only [Fm.name,Fm.sc,Fm.kids];omega
  ·obtain ⟨x,hx,hg⟩:=Fm.Uv ks g hg;have hxs:=Gl Fm.sz ks x hx;exact ih x hx (by omega) g hg
theorem Qtf:zF.Ok:=FM.Qsw (Qt _) zF (by decide)
theorem FV.ok (d:Nat) (f:Fm) (_:FIs d f) (h:f.sz<=100000):f.Ok:=FM.Qsw (n:=100000) (by omega) f h
theorem AR.ok {c:Cor} (h:AR c):c.Ok:=by
 induction h with
 | mk ha hs hn hl hd hk _ ih =>
  refine .mk (by omega) (by omega) ?_ (by omega) ih
  rcases hd with h | h
  ·exact FV.ok 40 _ h.1 (by have:=h.sz;omega)
  ·rw [h];exact Qtf
theorem Qvh:zC.Ok:=.mk (by decide) (by decide) Qtf (by decide) (fun x hx=>by cases hx)
theorem VI.ok {m:Nat} : ∀v:Val,VI m v->v.Ok:=by
 intro v
 induction v using Val.ind with
 | h v ih1 ih2 =>
  intro hv;obtain ⟨a1,a2,a3,a4,a5,a6,a7⟩:=hv.out;obtain ⟨k,n,s,l,f,e⟩:=v;simp only [Val.num,Val.name,Val.items,Val.fn,Val.env,Val.kind] at *;refine .mk (by unfold Qqg;omega) (by omega) (by omega) ?_ (by omega) (fun x hx=>ih1 x hx (a6 x hx)) (fun x hx=>?_)
  ·rcases a4 with h | h
   ·exact h.2.1.ok
   ·rw [h.2];exact Qvh
  ·obtain ⟨i,w⟩:=x;exact .mk (ih2 _ hx (a7 _ hx))
theorem AR.sz:∀c:Cor,AR c->c.sz+1<=20000 * c.nodes:=by
 intro c
 induction c using Cor.ind with
 | h c ih =>
  intro hc;obtain ⟨c1,c2,c3,c4,c5,c6,c7⟩:=hc.out
  have hd:c.data.sz<=14800:=by
   rcases c5 with h | h
   ·exact h.sz
   ·rw [h];decide
  have hs:∀l:List Cor,(∀x∈l,x.sz+1<=20000 * x.nodes)->YY Cor.sz l+l.length<=20000 * YY Xh l:=by
   intro l
   induction l with
   | nil=>intro _;exact Qt _
   | cons x l ihl =>
    intro h;have h1:=h x (KB ..);have h2:=ihl (fun y hy=>h y (Kf _ hy));simp only [YY,ZE];omega
  have:=hs c.kids (fun x hx=>ih x hx (c7 x hx));rw [Cor.Gb,Cor.Yx];omega
theorem VI.sz {m:Nat} : ∀v:Val,VI m v->v.sz+1<=12001000 * v.nodes:=by
 intro v
 induction v using Val.ind with
 | h v ih1 ih2 =>
  intro hv;obtain ⟨a1,a2,a3,a4,a5,a6,a7⟩:=hv.out
  have hf:v.fn.sz<=12000000:=by
   rcases a4 with h | h
   ·have:=AR.sz _ h.2.1;have:=h.2.2.2;omega
   ·rw [h.2];decide
  have s1:∀l:List Val,(∀x∈l,x.sz+1<=12001000 * x.nodes)->YY Val.sz l+l.length<=12001000 * YY Val.nodes l:=by
   intro l
   induction l with
   | nil=>intro _;exact Qt _
   | cons x l ihl =>
    intro h;have h1:=h x (KB ..);have h2:=ihl (fun y hy=>h y (Kf _ hy));simp only [YY,ZE];omega
  have s2:∀l:List Slt,(∀x∈l,x.sz+1<=12001000 * x.nodes)->YY Slt.sz l+l.length<=12001000 * YY Slt.nodes l:=by
   intro l
   induction l with
   | nil=>intro _;exact Qt _
   | cons x l ihl =>
    intro h;have h1:=h x (KB ..);have h2:=ihl (fun y hy=>h y (Kf _ hy));simp only [YY,ZE];omega
  have q1:=s1 v.items (fun x hx=>ih1 x hx (a6 x hx));have q2:=s2 v.env (fun x hx=>by rw [Slt.Gb,Slt.Yx];exact ih2 x hx (a7 x hx));rw [Val.Gb,Val.Yx];omega
def DV (v:Val):Prop:=(∃m,VI m v)/\v.nodes<=2000
theorem DV.out {v:Val} (h:DV v):v.Ok/\v.sz<=1099511627776:=by
 obtain ⟨⟨m,hm⟩,hn⟩:=h;refine ⟨hm.ok,?_⟩;have:=VI.sz v hm;have:12001000 * v.nodes<=12001000 * 2000:=Nat.mul_le_mul_left _ hn;omega
end Go.Proofs.SA
namespace Go.Proofs.SA
theorem US:∀f:Fm,f.sz<=1000000->Gm f=some (DW f):=by
 intro f
 induction f using Fm.ind with
 | h f ih =>
  intro hf;have hz:=Fm.Gb f;rw [Gm,EB]
  by_cases h2:f.kind=2
  ·rw [if_pos h2,if_pos h2];rfl
  ·rw [if_neg h2,if_neg h2]
   by_cases h1:f.kind=1
   ·rw [if_pos h1,if_pos h1];rfl
   ·rw [if_neg h1,if_neg h1,Fl _ _ (by omega),G9 (JV f) DW (fun _ _=>rfl) f.kids [] 0 (fun x hx z i r hz=>by
     have:=Fm.Hb hx
     rw [JV,Yd,X5,ih x hx (by omega),X5,YB (by simp;omega),X5]) (by simp;omega)]
    rfl
theorem Oc:∀f:Fm,f.sz<=1000000->Hk f=some f:=by
 intro f
 induction f using Fm.ind with
 | h f ih =>
  intro hf;have hz:=Fm.Gb f
  rw [Hk,Jb,YB (by simp only [ZD];omega),X5,QS,F7 _ _ _ (by omega),G9 (GQ f f.sc) id (fun _ _=>rfl) f.kids [] 0 (fun x hx z i r hz=>by
   have:=Fm.Hb hx
   rw [GQ,Yd,X5,ih x hx (by omega),X5,YB (by simp;omega),X5];rfl) (by simp;omega),X5,Yd,QS,Xx]
  cases f;rfl
theorem Ob:∀c:Cor,SO c->Hj c=some c:=by
 intro c
 induction c using Cor.ind with
 | h c ih =>
  intro hc;obtain ⟨c1,c2,c3,c4⟩:=hc.out
  rw [Hj,Jb,YB (by simp;omega),X5,QS,Oc _ (by omega),X5,F6 _ _ _ _ (by omega),G9 (GP c c.ids c.data) id (fun _ _=>rfl) c.kids [] 0 (fun x hx z i r hz=>by
   rw [GP,Yd,X5,ih x hx (c4 x hx),X5,YB (by simp;omega),X5];rfl) (by simp;omega)]
  simp only [X5,Yd,QS,Xx,XD]
theorem UQ {m:Nat} : ∀v:Val,VI m v->Wh v=some v:=by
 intro v
 induction v using Val.ind with
 | h v ih1 ih2 =>
  intro hv;obtain ⟨a1,a2,a3,a4,a5,a6,a7⟩:=hv.out
  rw [Wh,Ob _ hv.fnB,X5,Fj _ _ _ (by omega),G9 (JT v v.fn) id (fun _ _=>rfl) v.items [] 0 (fun x hx z i r hz=>by
   rw [JT,Yd,X5,ih1 x hx (a6 x hx),X5,YB (by simp;omega),X5];rfl) (by simp;omega),X5,Fk _ _ _ _ (by omega),G9 (JU v v.fn _) id (fun _ _=>rfl) v.env [] 0 (fun x hx z i r hz=>by
   rw [JU,Yd,X5,ih2 x hx (a7 x hx),X5,YB (by simp;omega),X5,Slt.eta];rfl) (by simp;omega)]
  simp only [X5,Yd,QS,Xx,Val.eta]
theorem Qax {α:Type} (F:Int->Nat->List α->Option ((Bool × Int) ⊕ Int)) (g:α->Nat) (hn:∀m i,F m i []=some (.inr m)):∀(l:List α) (m:Nat) (i:Nat),m<=2000->(∀x∈l,∀(m:Nat) i r,m<=2000->(g x<=m->F (m:Int) i (x :: r)=F ((m - g x:Nat):Int) (i+1) r)/\(m < g x->∃k,F (m:Int) i (x :: r)=some (.inl (false,k)))) ->
  (YY g l<=m->F (m:Int) i l=some (.inr ((m - YY g l:Nat):Int)))/\(m < YY g l->∃k,F (m:Int) i l=some (.inl (false,k))):=by
 intro l
 induction l with
 | nil=>intro m i _ _;exact ⟨fun _=>by rw [hn];rfl,fun h=>absurd h (Nat.not_lt_zero _)⟩
 | cons x l ih =>
  intro m i hm hc;obtain ⟨h1,h2⟩:=hc x (KB ..) m i l hm;have hs:YY g (x :: l)=g x+YY g l:=rfl;rw [hs]
  by_cases hx:g x<=m
  ·rw [h1 hx];obtain ⟨q1,q2⟩:=ih (m - g x) (i+1) (by omega) (fun y hy=>hc y (Kf _ hy));exact ⟨fun h=>by rw [q1 (by omega)];congr 3;omega,fun h=>q2 (by omega)⟩
  ·exact ⟨fun h=>by omega,fun _=>h2 (by omega)⟩
theorem Qia {k:Nat} : ∀v:Val,VI k v->∀m:Nat,m<=2000->(v.nodes<=m->J0 v (m:Int)=some (true,((m - v.nodes:Nat):Int)))/\(m < v.nodes->∃q,J0 v (m:Int)=some (false,q)):=by
 intro v
 induction v using Val.ind with
 | h v ih1 ih2 =>
  intro hv m hm;obtain ⟨a1,a2,a3,a4,a5,a6,a7⟩:=hv.out;have hne:=Val.Yx v;rw [J0,YC (by omega) (by omega)]
  by_cases h0:m=0
  ·subst h0;rw [if_pos (by omega)];exact ⟨fun h=>by omega,fun _=>⟨_,rfl⟩⟩
  rw [if_neg (by omega),show ((m:Int) - 1)=((m - 1:Nat):Int) by omega,MP _ _ (by omega)]
  obtain ⟨q1,q2⟩:=Qax (fun m i l=>WU v m i l) Val.nodes (fun _ _=>rfl) v.items (m - 1) 0 (by omega) (fun x hx m i r hm=>by
   obtain ⟨u1,u2⟩:=ih1 x hx (a6 x hx) m hm;refine ⟨fun h=>?_,fun h=>?_⟩
   ·show WU _ _ _ _=_;rw [WU,Yd,X5,u1 h,X5];rfl
   ·obtain ⟨q,hq⟩:=u2 h;refine ⟨q,?_⟩;show WU _ _ _ _=_
    rw [WU,Yd,X5,hq,X5];rfl)
  by_cases h1:YY Val.nodes v.items<=m - 1
  ·have q1:=q1 h1;rw [q1,X5]
   simp only
   rw [MQ _ _ (by omega)]
   obtain ⟨w1,w2⟩:=Qax (fun m i l=>WV v m i l) Slt.nodes (fun _ _=>rfl) v.env (m - 1 - YY Val.nodes v.items) 0 (by omega) (fun x hx m i r hm=>by
    obtain ⟨u1,u2⟩:=ih2 x hx (a7 x hx) m hm;rw [← Slt.Yx] at u1 u2;refine ⟨fun h=>?_,fun h=>?_⟩
    ·show WV _ _ _ _=_;rw [WV,Yd,X5,u1 h,X5];rfl
    ·obtain ⟨q,hq⟩:=u2 h;refine ⟨q,?_⟩;show WV _ _ _ _=_
     rw [WV,Yd,X5,hq,X5];rfl)
   by_cases h2:YY Slt.nodes v.env<=m - 1 - YY Val.nodes v.items
   ·have w1:=w1 h2;rw [w1,X5];exact ⟨fun _=>by show some (true,_)=some (true,_);congr 3;omega,fun h=>by omega⟩
   ·obtain ⟨q,hq⟩:=w2 (by omega);rw [hq,X5];exact ⟨fun h=>by omega,fun _=>⟨q,rfl⟩⟩
  ·obtain ⟨q,hq⟩:=q2 (by omega);rw [hq,X5];exact ⟨fun h=>by omega,fun _=>⟨q,rfl⟩⟩
theorem Qg5:∀f:Fm,f.sz<=1000000->YT f.strip []=some []:=by
 intro f
 induction f using Fm.ind with
 | h f ih =>
  intro hf;have hz:=Fm.Gb f;rw [YT,Af,Fm.EJ];rw [show (KS f.kind f.name f.num [] (f.kids.map Xi)).sc=[] from rfl,YB (by simp),X5,Yd,X5,K8,I8 _ _ (by show (f.kids.map Xi).length < _;rw [List.length_map];omega)]
  have key:∀(l:List Fm) (g:Fm) (i:Nat),(∀x∈l,x∈f.kids)->YR g [] i (l.map Xi)=some []:=by
   intro l
   induction l with
   | nil=>intro g i _;rfl
   | cons x l ihl =>
    intro g i h;have hx:=h x (KB ..);have:=Fm.Hb hx;rw [QH,YR,Yd,X5,ih x hx (by omega),X5];exact ihl g _ (fun y hy=>h y (Kf _ hy))
  show (YR _ [] 0 (f.kids.map Xi)>>=_)=_;rw [key f.kids _ 0 (fun _ h=>h)];rfl
theorem Qlc:GY []=some ():=by
 rw [GY,show IntKind.u64.wrap ((([]:List Int).length:Nat):Int)=0 by decide,Bv,AE,if_pos rfl,Yd,X5,Yd,X5,Jz,WI,if_pos (by decide),V0,Y1,if_neg (by decide)];rfl
theorem U7 {f:Fm} (hf:f.sz<=1000000):IS f.strip=some []:=by
 have hs:=Fm.Qb9 f;obtain ⟨b,hb,_⟩:=Qhb (f:=f.strip) (by omega);rw [IS,hb,X5];cases b
 ·rfl
 ·simp only [ZU,Qq,if_false];rw [Qg5 f hf,X5,Qlc,X5,Ha,if_pos (by decide)];rfl
theorem Fh (a b:List Int) (ha:a.length<=1000000):Jc a b=some (decide (a=b)):=by
 rw [Jc]
 by_cases hl:a.length=b.length
 rotate_left
 ·rw [if_neg (by omega),decide_eq_false (fun h=>hl (by rw [h]))];rfl
 rw [if_pos (by omega),CE _ _ (by omega)]
 have key:∀(l:List Int) (i:Nat),a.drop i=l->VM a b i l=some (if l=b.drop i then .inr () else .inl false):=by
  intro l
  induction l with
  | nil =>
   intro i h
   have:a.length<=i:=by have:=congrArg XC h;simp at this;omega
   rw [if_pos (by rw [Zy (by omega)])];rfl
  | cons x l ih =>
   intro i h
   have hi:i < a.length:=by
    rcases KA i a.length with h2 | h2
    ·exact h2
    ·rw [Zy h2] at h;cases h
   rw [Zx hi] at h
   injection h with e1 e2
   have hib:i < b.length:=by omega
   rw [VM,Yd,X5,Yg _ _ hib,X5,Zx hib]
   by_cases hx:x=b[i]
   ·rw [if_pos hx,ih _ e2];simp only [hx,List.cons.injEq,true_and]
   ·rw [if_neg hx,if_neg (fun h=>hx (by injection h))];rfl
 rw [key a 0 (ZN ..),ZN,X5]
 by_cases h:a=b
 ·rw [if_pos h,decide_eq_true h];rfl
 ·rw [if_neg h,decide_eq_false h];rfl
theorem UT:∀f:Fm,f.sz<=1000000->∀g:Fm,Gd f g=some (decide (f=g)):=by
 intro f
 induction f using Fm.ind with
 | h f ih =>
  intro hf g;have hz:=Fm.Gb f
  have kids:f.kids.length=g.kids.length->Ys f.kids g.kids 0 f.kids=some (if f.kids=g.kids then .inr () else .inl false):=by
   intro hl
   have key:∀(l:List Fm) (i:Nat),f.kids.drop i=l->Ys f.kids g.kids i l=some (if l=g.kids.drop i then .inr () else .inl false):=by
    intro l
    induction l with
    | nil =>
     intro i h
     have:f.kids.length<=i:=by have:=congrArg XC h;simp at this;omega
     rw [if_pos (by rw [Zy (by omega)])];rfl
    | cons x l ihl =>
     intro i h
     have hi:i < f.kids.length:=by
      rcases KA i f.kids.length with h2 | h2
      ·exact h2
      ·rw [Zy h2] at h;cases h
     rw [Zx hi] at h
     injection h with e1 e2
     have hib:i < g.kids.length:=by omega
     have hm:x∈f.kids:=e1▸ZK hi;have:=Fm.Hb hm;rw [Ys,Yd,X5,Yg _ _ hib,X5,ih x hm (by omega),X5,Zx hib]
     by_cases hx:x=g.kids[i]
     ·rw [decide_eq_true hx];simp only [ZU,Qq,if_false];rw [ihl _ e2];simp only [hx,List.cons.injEq,true_and]
     ·rw [decide_eq_false hx];show some (Sum.inl false)=_;rw [if_neg (fun h=>hx (by injection h))]
   have:=key f.kids 0 (ZN ..);rwa [ZN] at this
  rw [Gd,Yd,X5,Yd,X5]
  by_cases h:f=g
  ·subst h;simp only [decide_true,Xj,if_true,Fh _ _ (show f.sc.length<=1000000 by omega),X5,Yd];rw [YL,if_pos rfl,Vz _ _ (by omega),kids rfl,if_pos rfl];rfl
  ·rw [decide_eq_false h]
   by_cases c1:(decide (f.kind=g.kind)&&decide (f.name=g.name)&&decide (f.num=g.num))=true
   rotate_left
   ·rw [if_neg c1];rfl
   rw [if_pos c1,Fh _ _ (show f.sc.length<=1000000 by omega),X5,Yd,X5]
   by_cases c2:f.sc=g.sc
   rotate_left
   ·rw [decide_eq_false c2];rfl
   rw [decide_eq_true c2,if_pos rfl,YL]
   by_cases c3:f.kids.length=g.kids.length
   rotate_left
   ·rw [if_neg (by omega)];rfl
   rw [if_pos (by omega),Vz _ _ (by omega),kids c3,if_neg]
   ·rfl
   ·intro c4;simp only [QG,decide_eq_true_eq] at c1;apply h;cases f;cases g;simp only [Fm.kind,Fm.name,Fm.num,Fm.sc,Fm.kids] at c1 c2 c4;rw [c1.1.1,c1.1.2,c1.2,c2,c4]
end Go.Proofs.SA
namespace Go.Proofs.SA
inductive RJ:Cor->Prop
 | mk {k i:Int} {s:ByteArray} {n:Int} {l:List Int} {d:Fm} {ks:List Cor} (hl:l.length<=1000000) (hd:d.sz<=1000000) (hb:d.strip=d) (hs:s.size<=1000000) (hk:ks.length<=1000000) (h:∀x∈ks,RJ x):RJ (.mk k i s n l d ks)
theorem RJ.out {c:Cor} (h:RJ c):c.ids.length<=1000000/\c.data.sz<=1000000/\c.data.strip=c.data/\c.name.size<=1000000/\c.kids.length<=1000000/\∀x∈c.kids,RJ x:=by
 cases h;exact ⟨by assumption,by assumption,by assumption,by assumption,by assumption,by assumption⟩
theorem Qhg (l:List Int) (x:Int) (h:l.length<=1000000000):Vw l x=some (decide (x∈l)):=by
 have key:∀(r:List Int) (i:Nat),(x∈r->∃k:Nat,Vq l x i r=some (.inl (k:Int)))/\(x∉r->Vq l x i r=some (.inr ())):=by
  intro r
  induction r with
  | nil=>intro i;exact ⟨fun h=>(by cases h),fun _=>rfl⟩
  | cons y r ih =>
   intro i;rw [Vq,Yd,X5]
   by_cases hxy:x=y
   ·rw [if_pos hxy];exact ⟨fun _=>⟨i,rfl⟩,fun h=>absurd (hxy▸KB ..) h⟩
   ·rw [if_neg hxy];obtain ⟨h1,h2⟩:=ih (i+1);exact ⟨fun h=>h1 (by rcases Kj.1 h with h | h;exact absurd h hxy;exact h),fun h=>h2 fun h3=>h (Kf _ h3)⟩
 obtain ⟨h1,h2⟩:=key l 0;rw [Vw,HI,CF _ _ (by omega)]
 by_cases hx:x∈l
 ·obtain ⟨k,hk⟩:=h1 hx;rw [hk,X5,decide_eq_true hx];simp only [Yd,X5];rw [decide_eq_true (by omega)]
 ·rw [h2 hx,X5,decide_eq_false hx];rfl
noncomputable instance:DecidableEq Cor:=fun a b=>Classical.propDecidable (a=b)
theorem UR:∀a:Cor,RJ a->∀b:Cor,Jw a b=some (decide (a=b)):=by
 intro a
 induction a using Cor.ind with
 | h a ih =>
  intro ha b;obtain ⟨a1,a2,_,a3,a4,a5⟩:=ha.out
  have kids:a.kids.length=b.kids.length->Yr a.kids b.kids 0 a.kids=some (if a.kids=b.kids then .inr () else .inl false):=by
   intro hl
   have key:∀(l:List Cor) (i:Nat),a.kids.drop i=l->Yr a.kids b.kids i l=some (if l=b.kids.drop i then .inr () else .inl false):=by
    intro l
    induction l with
    | nil =>
     intro i h
     have:a.kids.length<=i:=by have:=congrArg XC h;simp at this;omega
     rw [if_pos (by rw [Zy (by omega)])];rfl
    | cons x l ihl =>
     intro i h
     have hi:i < a.kids.length:=by
      rcases KA i a.kids.length with h2 | h2
      ·exact h2
      ·rw [Zy h2] at h;cases h
     rw [Zx hi] at h
     injection h with e1 e2
     have hib:i < b.kids.length:=by omega
     have hm:x∈a.kids:=e1▸ZK hi;rw [Yr,Yd,X5,Yg _ _ hib,X5,ih x hm (a5 x hm),X5,Zx hib]
     by_cases hx:x=b.kids[i]
     ·rw [decide_eq_true hx];simp only [ZU,Qq,if_false];rw [ihl _ e2];simp only [hx,List.cons.injEq,true_and]
     ·rw [decide_eq_false hx];show some (Sum.inl false)=_;rw [if_neg (fun h=>hx (by injection h))]
   have:=key a.kids 0 (ZN ..);rwa [ZN] at this
  rw [Jw,Yd,X5,Yd,X5,Yd,X5]
  by_cases c1:(decide (a.kind=b.kind)&&decide (a.id=b.id)&&decide (a.name=b.name)&&decide (a.num=b.num))=true
  rotate_left
  ·rw [if_neg c1,decide_eq_false (fun h=>c1 (by subst h;simp))];rfl
  rw [if_pos c1,Fh _ _ a1,X5,Yd,X5];simp only [QG,decide_eq_true_eq] at c1
  by_cases c2:a.ids=b.ids
  rotate_left
  ·rw [decide_eq_false c2,decide_eq_false (fun h=>c2 (by rw [h]))];rfl
  rw [decide_eq_true c2,if_pos rfl,UT _ a2,X5,Yd,X5]
  by_cases c3:a.data=b.data
  rotate_left
  ·rw [decide_eq_false c3,decide_eq_false (fun h=>c3 (by rw [h]))];rfl
  rw [decide_eq_true c3,if_pos rfl,YV]
  by_cases c4:a.kids.length=b.kids.length
  rotate_left
  ·rw [if_neg (by omega),decide_eq_false (fun h=>c4 (by rw [h]))];rfl
  rw [if_pos (by omega),JR _ _ (by omega),kids c4]
  by_cases c5:a.kids=b.kids
  ·rw [if_pos c5,decide_eq_true]
   ·rfl
   ·cases a;cases b;simp only [Cor.kind,Cor.id,Cor.name,Cor.num,Cor.ids,Cor.data,Cor.kids] at c1 c2 c3 c5;rw [c1.1.1.1,c1.1.1.2,c1.1.2,c1.2,c2,c3,c5]
  ·rw [if_neg c5,decide_eq_false (fun h=>c5 (by rw [h]))];rfl
theorem Qbo (a b c:Int):Wv a b c=some (decide (b<=a/\a<=c)):=by
 rw [Wv,Yd,X5,Yd,Bool.decide_and]
theorem Qkb (c:Cor) (a2 c0:Int):∀(r:List Int) (i:Nat) (z:List Int),z.length+r.length<=900000000 ->
  (((∀x∈r,1<=x/\x<=999/\x∉z)/\r.Nodup)->GX c a2 c0 z i r=some (.inr (z++r)))/\(¬((∀x∈r,1<=x/\x<=999/\x∉z)/\r.Nodup)->GX c a2 c0 z i r=some (.inl (false,IntKind.i64.wrap (c0 - 1)))):=by
 intro r
 induction r with
 | nil=>intro i z _;exact ⟨fun _=>by rw [K8];rfl,fun h=>absurd ⟨by simp,Xl⟩ h⟩
 | cons x r ih =>
  intro i z hz;simp only [ZE] at hz
  have hs:((∀y∈x :: r,1<=y/\y<=999/\y∉z)/\(x :: r).Nodup)↔((1<=x/\x<=999/\x∉z)/\(∀y∈r,1<=y/\y<=999/\y∉z++[x])/\r.Nodup):=by
   constructor
   ·rintro ⟨h1,h2⟩;rw [List.nodup_cons] at h2;refine ⟨h1 x (KB ..),fun y hy=>?_,h2.2⟩;obtain ⟨q1,q2,q3⟩:=h1 y (Kf _ hy);refine ⟨q1,q2,fun h=>?_⟩
    rcases QR.1 h with h | h
    ·exact q3 h
    ·rw [ZG.1 h] at hy;exact h2.1 hy
   ·rintro ⟨h1,h2,h3⟩;refine ⟨fun y hy=>?_,List.nodup_cons.2 ⟨fun h=>(h2 x h).2.2 (QR.2 (.inr (ZG.2 rfl))),h3⟩⟩
    rcases Kj.1 hy with rfl | hy
    ·exact h1
    ·obtain ⟨q1,q2,q3⟩:=h2 y hy;exact ⟨q1,q2,fun h=>q3 (QR.2 (.inl h))⟩
  rw [hs,GX,Yd,X5,Qbo,X5];obtain ⟨h1,h2⟩:=ih (i+1) (z++[x]) (by rw [QV];simp;omega)
  by_cases hw:1<=x/\x<=999
  rotate_left
  ·rw [decide_eq_false hw];exact ⟨fun h=>absurd ⟨h.1.1,h.1.2.1⟩ hw,fun _=>rfl⟩
  rw [decide_eq_true hw];simp only [ZU,Qq,if_false];rw [Qhg z x (by omega),X5,Yd,X5]
  by_cases hm:x∈z
  ·rw [decide_eq_true hm];exact ⟨fun h=>absurd hm h.1.2.2,fun _=>rfl⟩
  rw [decide_eq_false hm];simp only [Qq,if_false];rw [YB (by simp only [ZE,ZD];omega),X5];refine ⟨fun h=>?_,fun h=>h2 fun h3=>h ⟨⟨hw.1,hw.2,hm⟩,h3⟩⟩;rw [h1 h.2,QD];rfl
def COk (d:Nat) (sc:List Int) (c:Cor) (m:Nat) (o:Option (Bool × Int)):Prop :=
 Tot o fun r=>(r.1=true↔CIs d sc c/\c.nodes<=m)/\(r.1=true->r.2=(m:Int) - (c.nodes:Int))
theorem UI:∀(d:Nat),d<=120->∀c:Cor,RJ c->∀sc:List Int,sc.length+d * 1000000<=800000000->∀m:Nat,m<=600->COk d sc c m (H5 c sc (121 - (d:Int)) (m:Int)):=by
 intro d
 induction d with
 | zero =>
  intro _ c _ sc _ m hm;refine ⟨(false,IntKind.i64.wrap ((m:Int) - 1)),?_,⟨fun h=>(by cases h),fun h=>(show False from h.1).elim⟩,fun h=>(by cases h)⟩;rw [H5];simp only [show decide ((121 - ((0:Nat):Int)) > 120)=true by decide,Xn,Yd,X5,if_true]
 | succ d ih =>
  intro hd c hc sc hsc m hm;obtain ⟨c1,c2,c3,c4,c5,c6⟩:=hc.out;have hne:=Cor.Yx c;have bad:¬(CIs (d+1) sc c/\c.nodes<=m)->∀q:Int,COk (d+1) sc c m (some (false,q)):=fun h q=>⟨_,rfl,⟨fun h2=>(by cases h2),fun h2=>absurd h2 h⟩,fun h2=>(by cases h2)⟩;rw [H5];have e0:decide (121 - ((d+1:Nat):Int) > 120)=false:=decide_eq_false (by omega);rw [e0,Xs,Yd,X5,YC (by omega) (by omega)]
  by_cases hm0:m=0
  ·subst hm0;rw [decide_eq_true (by omega),if_pos rfl];exact bad (fun h=>by omega) _
  rw [decide_eq_false (by omega),if_neg (by decide)]
  have em:(m:Int) - 1=((m - 1:Nat):Int):=by omega
  have loop:∀(y1:Int) (y2:ByteArray) (y3 y5:Int) (y6:ByteArray) (y7:Int) (z:List Int),z.length<=sc.length+1000000->∀(l:List Cor) (i m:Nat),(∀x∈l,x∈c.kids)->m<=600 ->
    (((∀x∈l,CIs d z x)/\YY Xh l<=m)->JL c (121 - ((d+1:Nat):Int)) y1 y2 y3 y5 y6 y7 z (m:Int) i l=some (.inr ((m:Int) - (YY Xh l:Nat)))) /\
    (¬((∀x∈l,CIs d z x)/\YY Xh l<=m)->∃q,JL c (121 - ((d+1:Nat):Int)) y1 y2 y3 y5 y6 y7 z (m:Int) i l=some (.inl (false,q))):=by
   intro y1 y2 y3 y5 y6 y7 z hz l
   induction l with
   | nil=>intro i m _ _;exact ⟨fun _=>by rw [JL,Yd];simp [YY],fun h=>absurd ⟨by simp,Nat.zero_le _⟩ h⟩
   | cons x l ihl =>
    intro i m hl hm;have hx:=hl x (KB ..);have hs:YY Xh (x :: l)=x.nodes+YY Xh l:=rfl;rw [JL,Yd,X5,YC (by omega) (by omega),show 121 - ((d+1:Nat):Int)+1=121 - (d:Int) by omega];obtain ⟨r,hr,h1,h2⟩:=ih (by omega) x (c6 x hx) z (by omega) m hm;rw [hr,X5,hs];cases hb:r.1
    ·simp only [ZT,if_true];refine ⟨fun h=>?_,fun _=>⟨_,rfl⟩⟩;have:=h1.2 ⟨h.1 x (KB ..),by omega⟩;rw [hb] at this;cases this
    ·simp only [ZU,Qq,if_false];have h3:=h1.1 hb;have h4:=h2 hb;rw [h4,show (m:Int) - (x.nodes:Int)=((m - x.nodes:Nat):Int) by omega];obtain ⟨q1,q2⟩:=ihl (i+1) (m - x.nodes) (fun y hy=>hl y (Kf _ hy)) (by omega);refine ⟨fun h=>?_,fun h=>q2 fun h5=>h ⟨fun y hy=>?_,by omega⟩⟩
     ·rw [q1 ⟨fun y hy=>h.1 y (Kf _ hy),by omega⟩];congr 2;omega
     ·rcases Kj.1 hy with rfl | hy
      ·exact h3.1
      ·exact h5.1 y hy
  have tail:∀(y1:Int) (y2:ByteArray) (y3:Int) (y4:List Int) (y5:Int) (y6:ByteArray) (y7:Int) (y8:List Int) (y9:List Fm) (many:Int) (z:List Int),z.length<=sc.length+1000000 ->
    (CIs (d+1) sc c↔(c.kids.length:Int)=many/\c=KR c.kind y1 y2 y3 y4 (KS y5 y6 y7 y8 y9) c.kids/\∀x∈c.kids,CIs d z x) ->
    COk (d+1) sc c m ((if (c.kids.length:Int)=many then (Jw c (KR c.kind y1 y2 y3 y4 (KS y5 y6 y7 y8 y9) c.kids)>>=fun x130=>pure (!x130)) else pure true:Option Bool)>>=fun x132 =>
     if x132=true then pure (false,(m:Int) - 1)
     else Jv c (121 - ((d+1:Nat):Int)) y1 y2 y3 y5 y6 y7 z 0 ((m:Int) - 1)>>=fun o=>match o with
      | .inl r=>pure r
      | .inr e=>pure (true,e)):=by
   intro y1 y2 y3 y4 y5 y6 y7 y8 y9 many z hz hcis
   by_cases k1:(c.kids.length:Int)=many
   rotate_left
   ·rw [if_neg k1];exact bad (fun h=>k1 (hcis.1 h.1).1) _
   rw [if_pos k1,UR c hc,X5,Yd,X5]
   by_cases k2:c=KR c.kind y1 y2 y3 y4 (KS y5 y6 y7 y8 y9) c.kids
   rotate_left
   ·rw [decide_eq_false k2];exact bad (fun h=>k2 (hcis.1 h.1).2.1) _
   rw [decide_eq_true k2];simp only [ZU,Qq,if_false];rw [MM _ _ _ _ _ _ _ _ _ _ (by omega),em];obtain ⟨q1,q2⟩:=loop y1 y2 y3 y5 y6 y7 z hz c.kids 0 (m - 1) (fun _ h=>h) (by omega)
   by_cases k3:(∀x∈c.kids,CIs d z x)/\YY Xh c.kids<=m - 1
   ·rw [q1 k3,X5];refine ⟨_,rfl,⟨fun _=>⟨hcis.2 ⟨k1,k2,k3.1⟩,by omega⟩,fun _=>rfl⟩,fun _=>?_⟩;show ((m - 1:Nat):Int) - _=_;omega
   ·obtain ⟨q,hq⟩:=q2 k3;rw [hq,X5];exact bad (fun h=>k3 ⟨(hcis.1 h.1).2.2,by omega⟩) _
  have z0:zF=KS 0 (Qk #[]) 0 [] []:=rfl;have nok:∀{p:Prop},(CIs (d+1) sc c->p)->¬p->∀q:Int,COk (d+1) sc c m (some (false,q)):=fun h1 h2 q=>bad (fun h=>h2 (h1 h.1)) q;have eta:=XD c
  by_cases h1:c.kind=1
  ·have hci:CIs (d+1) sc c↔((1<=c.id/\c.id<=999)/\c.id∈sc)/\(c.kids.length:Int)=0/\c=KR c.kind c.id (Qk #[]) 0 [] (KS 0 (Qk #[]) 0 [] []) c.kids:=by
    constructor
    ·rintro ⟨a1,⟨⟨b1,_⟩,⟨_,b2⟩,⟨_,b3⟩,⟨_,b4⟩,b5⟩,a3,_⟩
     have hk:c.kids.length=0:=by rcases a1 with h | h | h | h<;>omega
     refine ⟨⟨b1 h1,a3 h1⟩,by omega,?_⟩;have q:=eta;rw [b2 (by omega),b3 (by omega),b5 (by omega),b4 (by omega)] at q;exact q.symm
    ·rintro ⟨⟨a1,a2⟩,a3,a4⟩
     have e1:c.name=Qk #[]:=by rw [a4];rfl
     have e2:c.num=0:=by rw [a4];rfl
     have e3:c.ids=[]:=by rw [a4];rfl
     have e4:c.data=zF:=by rw [a4];rfl
     have hk:c.kids=[]:=Kt (by omega);refine ⟨.inl ⟨.inl h1,by omega⟩,⟨⟨fun _=>a1,fun h=>absurd h1 h⟩,⟨fun h=>by omega,fun _=>e1⟩,⟨fun h=>by omega,fun _=>e2⟩,⟨fun h=>by omega,fun _=>e4⟩,fun _=>e3⟩,fun _=>a2,by rw [e3];simp,by rw [e3];exact Xl,by rw [hk];simp⟩
   rw [if_pos h1,Qbo,X5]
   by_cases w:1<=c.id/\c.id<=999
   rotate_left
   ·rw [decide_eq_false w];exact nok (fun h=>(hci.1 h).1.1) w _
   rw [decide_eq_true w];simp only [ZU,Qq,if_false];rw [Qhg sc c.id (by omega),X5,Yd,X5]
   by_cases w2:c.id∈sc
   rotate_left
   ·rw [decide_eq_false w2];exact nok (fun h=>(hci.1 h).1.2) w2 _
   rw [decide_eq_true w2];refine tail c.id (Qk #[]) 0 [] 0 (Qk #[]) 0 [] [] 0 sc (by omega) ?_;rw [hci];constructor
   ·rintro ⟨_,a,b⟩;exact ⟨a,b,fun x hx=>by rw [Kt (show c.kids.length=0 by omega)] at hx;cases hx⟩
   ·rintro ⟨a,b,_⟩;exact ⟨⟨w,w2⟩,a,b⟩
  rw [if_neg h1]
  by_cases h2:c.kind=2
  ·have hci:CIs (d+1) sc c↔NV c.name/\(c.kids.length:Int)=0/\c=KR c.kind 0 c.name 0 [] (KS 0 (Qk #[]) 0 [] []) c.kids:=by
    constructor
    ·rintro ⟨a1,⟨⟨_,b1⟩,⟨b2,_⟩,⟨_,b3⟩,⟨_,b4⟩,b5⟩,a3,_⟩
     have hk:c.kids.length=0:=by rcases a1 with h | h | h | h<;>omega
     refine ⟨b2 h2,by omega,?_⟩;have q:=eta;rw [b1 (by omega),b3 (by omega),b5 (by omega),b4 (by omega)] at q;exact q.symm
    ·rintro ⟨a1,a3,a4⟩
     have e1:c.id=0:=by rw [a4];rfl
     have e2:c.num=0:=by rw [a4];rfl
     have e3:c.ids=[]:=by rw [a4];rfl
     have e4:c.data=zF:=by rw [a4];rfl
     have hk:c.kids=[]:=Kt (by omega);refine ⟨.inl ⟨.inr (.inl h2),by omega⟩,⟨⟨fun h=>by omega,fun _=>e1⟩,⟨fun _=>a1,fun h=>by omega⟩,⟨fun h=>by omega,fun _=>e2⟩,⟨fun h=>by omega,fun _=>e4⟩,fun _=>e3⟩,fun h=>by omega,by rw [e3];simp,by rw [e3];exact Xl,by rw [hk];simp⟩
   rw [if_pos h2];obtain ⟨b,eb,hb⟩:=Qht (s:=c.name) (by omega);rw [eb,X5];cases b
   ·exact nok (fun h=>(hci.1 h).1) (fun h=>by have:=hb.2 h;cases this) _
   refine tail 0 c.name 0 [] 0 (Qk #[]) 0 [] [] 0 sc (by omega) ?_;rw [hci];constructor
   ·rintro ⟨_,a,b⟩;exact ⟨a,b,fun x hx=>by rw [Kt (show c.kids.length=0 by omega)] at hx;cases hx⟩
   ·rintro ⟨a,b,_⟩;exact ⟨hb.1 rfl,a,b⟩
  rw [if_neg h2]
  by_cases h3:c.kind=3
  ·have hci:CIs (d+1) sc c↔(0<=c.num/\c.num<=999)/\(c.kids.length:Int)=0/\c=KR c.kind 0 (Qk #[]) c.num [] (KS 0 (Qk #[]) 0 [] []) c.kids:=by
    constructor
    ·rintro ⟨a1,⟨⟨_,b1⟩,⟨_,b2⟩,⟨b3,_⟩,⟨_,b4⟩,b5⟩,a3,_⟩
     have hk:c.kids.length=0:=by rcases a1 with h | h | h | h<;>omega
     refine ⟨b3 h3,by omega,?_⟩;have q:=eta;rw [b1 (by omega),b2 (by omega),b5 (by omega),b4 (by omega)] at q;exact q.symm
    ·rintro ⟨a1,a3,a4⟩
     have e1:c.id=0:=by rw [a4];rfl
     have e2:c.name=Qk #[]:=by rw [a4];rfl
     have e3:c.ids=[]:=by rw [a4];rfl
     have e4:c.data=zF:=by rw [a4];rfl
     have hk:c.kids=[]:=Kt (by omega);refine ⟨.inl ⟨.inr (.inr (.inl h3)),by omega⟩,⟨⟨fun h=>by omega,fun _=>e1⟩,⟨fun h=>by omega,fun _=>e2⟩,⟨fun _=>a1,fun h=>by omega⟩,⟨fun h=>by omega,fun _=>e4⟩,fun _=>e3⟩,fun h=>by omega,by rw [e3];simp,by rw [e3];exact Xl,by rw [hk];simp⟩
   rw [if_pos h3,Qbo,X5]
   by_cases w:0<=c.num/\c.num<=999
   rotate_left
   ·rw [decide_eq_false w];exact nok (fun h=>(hci.1 h).1) w _
   rw [decide_eq_true w];refine tail 0 (Qk #[]) c.num [] 0 (Qk #[]) 0 [] [] 0 sc (by omega) ?_;rw [hci];constructor
   ·rintro ⟨_,a,b⟩;exact ⟨a,b,fun x hx=>by rw [Kt (show c.kids.length=0 by omega)] at hx;cases hx⟩
   ·rintro ⟨a,b,_⟩;exact ⟨w,a,b⟩
  rw [if_neg h3]
  by_cases h4:c.kind=4
  ·have hci:CIs (d+1) sc c↔FV c.data/\(c.kids.length:Int)=0/\c=KR c.kind 0 (Qk #[]) 0 [] (KS c.data.kind c.data.name c.data.num c.data.sc c.data.kids) c.kids:=by
    have ed:KS c.data.kind c.data.name c.data.num c.data.sc c.data.kids=c.data:=by cases c.data;rfl
    rw [ed];constructor
    ·rintro ⟨a1,⟨⟨_,b1⟩,⟨_,b2⟩,⟨_,b3⟩,⟨b4,_⟩,b5⟩,a3,_⟩
     have hk:c.kids.length=0:=by rcases a1 with h | h | h | h<;>omega
     refine ⟨(b4 h4).1,by omega,?_⟩;have q:=eta;rw [b1 (by omega),b2 (by omega),b5 (by omega),b3 (by omega)] at q;exact q.symm
    ·rintro ⟨a1,a3,a4⟩
     have e1:c.id=0:=by rw [a4];rfl
     have e2:c.name=Qk #[]:=by rw [a4];rfl
     have e3:c.ids=[]:=by rw [a4];rfl
     have e4:c.num=0:=by rw [a4];rfl
     have hk:c.kids=[]:=Kt (by omega);refine ⟨.inl ⟨.inr (.inr (.inr h4)),by omega⟩,⟨⟨fun h=>by omega,fun _=>e1⟩,⟨fun h=>by omega,fun _=>e2⟩,⟨fun h=>by omega,fun _=>e4⟩,⟨fun _=>⟨a1,c3⟩,fun h=>by omega⟩,fun _=>e3⟩,fun h=>by omega,by rw [e3];simp,by rw [e3];exact Xl,by rw [hk];simp⟩
   rw [if_pos h4];obtain ⟨b,eb,hb⟩:=Qhb (f:=c.data) (by omega);rw [eb,X5];cases b
   ·exact nok (fun h=>(hci.1 h).1) (fun h=>by have:=hb.2 h;cases this) _
   have es:IS c.data=some []:=by rw [← c3];exact U7 c2
   simp only [ZU,Qq,if_false];rw [es,X5,Yd,X5];refine tail 0 (Qk #[]) 0 [] c.data.kind c.data.name c.data.num c.data.sc c.data.kids 0 sc (by omega) ?_;rw [hci];constructor
   ·rintro ⟨_,a,b⟩;exact ⟨a,b,fun x hx=>by rw [Kt (show c.kids.length=0 by omega)] at hx;cases hx⟩
   ·rintro ⟨a,b,_⟩;exact ⟨hb.1 rfl,a,b⟩
  rw [if_neg h4]
  by_cases h5:c.kind=5
  ·have hci:CIs (d+1) sc c↔((∀x∈c.ids,1<=x/\x<=999/\x∉sc)/\c.ids.Nodup)/\(c.kids.length:Int)=1/\c=KR c.kind 0 (Qk #[]) 0 c.ids (KS 0 (Qk #[]) 0 [] []) c.kids/\∀x∈c.kids,CIs d (sc++c.ids) x:=by
    constructor
    ·rintro ⟨a1,⟨⟨_,b1⟩,⟨_,b2⟩,⟨_,b3⟩,⟨_,b4⟩,b5⟩,a3,a4,a5,a6⟩
     have hk:c.kids.length=1:=by rcases a1 with h | h | h | h<;>omega
     refine ⟨⟨a4,a5⟩,by omega,?_,a6⟩;have q:=eta;rw [b1 (by omega),b2 (by omega),b4 (by omega),b3 (by omega)] at q;exact q.symm
    ·rintro ⟨⟨a1,a2⟩,a3,a4,a5⟩
     have e1:c.id=0:=by rw [a4];rfl
     have e2:c.name=Qk #[]:=by rw [a4];rfl
     have e3:c.num=0:=by rw [a4];rfl
     have e4:c.data=zF:=by rw [a4];rfl
     exact ⟨.inr (.inl ⟨h5,by omega⟩),⟨⟨fun h=>by omega,fun _=>e1⟩,⟨fun h=>by omega,fun _=>e2⟩,⟨fun h=>by omega,fun _=>e3⟩,⟨fun h=>by omega,fun _=>e4⟩,fun h=>absurd h5 h⟩,fun h=>by omega,a1,a2,a5⟩
   rw [if_pos h5,Ge,YB (by simp only [ZD];omega),X5,QS,ML _ _ _ _ (by omega)];obtain ⟨q1,q2⟩:=Qkb c (121 - ((d+1:Nat):Int)) (m:Int) c.ids 0 sc (by omega)
   by_cases w:(∀x∈c.ids,1<=x/\x<=999/\x∉sc)/\c.ids.Nodup
   ·rw [q1 w,X5];refine tail 0 (Qk #[]) 0 c.ids 0 (Qk #[]) 0 [] [] 1 (sc++c.ids) (by rw [QV];omega) ?_;rw [hci];exact ⟨fun h=>h.2,fun h=>⟨w,h⟩⟩
   ·rw [q2 w,X5];exact nok (fun h=>(hci.1 h).1) w _
  rw [if_neg h5]
  by_cases h6:c.kind=6
  ·have hci:CIs (d+1) sc c↔(c.kids.length:Int)=(if (c.kids.length:Int) > 1 then (c.kids.length:Int) else 1)/\c=KR c.kind 0 (Qk #[]) 0 [] (KS 0 (Qk #[]) 0 [] []) c.kids/\∀x∈c.kids,CIs d sc x:=by
    constructor
    ·rintro ⟨a1,⟨⟨_,b1⟩,⟨_,b2⟩,⟨_,b3⟩,⟨_,b4⟩,b5⟩,a3,a4,a5,a6⟩
     have hk:1<=c.kids.length:=by rcases a1 with h | h | h | h<;>omega
     rw [b5 (by omega),K8] at a6;refine ⟨by split<;>omega,?_,a6⟩;have q:=eta;rw [b1 (by omega),b2 (by omega),b4 (by omega),b3 (by omega),b5 (by omega)] at q;exact q.symm
    ·rintro ⟨a3,a4,a5⟩
     have e1:c.id=0:=by rw [a4];rfl
     have e2:c.name=Qk #[]:=by rw [a4];rfl
     have e3:c.num=0:=by rw [a4];rfl
     have e4:c.data=zF:=by rw [a4];rfl
     have e5:c.ids=[]:=by rw [a4];rfl
     have hk:1<=c.kids.length:=by split at a3<;>omega
     exact ⟨.inr (.inr (.inl ⟨h6,hk⟩)),⟨⟨fun h=>by omega,fun _=>e1⟩,⟨fun h=>by omega,fun _=>e2⟩,⟨fun h=>by omega,fun _=>e3⟩,⟨fun h=>by omega,fun _=>e4⟩,fun _=>e5⟩,fun h=>by omega,by rw [e5];simp,by rw [e5];exact Xl,by rw [e5,K8];exact a5⟩
   rw [if_pos h6];exact tail 0 (Qk #[]) 0 [] 0 (Qk #[]) 0 [] [] _ sc (by omega) hci
  rw [if_neg h6]
  by_cases h7:c.kind=7
  ·have hci:CIs (d+1) sc c↔(c.kids.length:Int)=3/\c=KR c.kind 0 (Qk #[]) 0 [] (KS 0 (Qk #[]) 0 [] []) c.kids/\∀x∈c.kids,CIs d sc x:=by
    constructor
    ·rintro ⟨a1,⟨⟨_,b1⟩,⟨_,b2⟩,⟨_,b3⟩,⟨_,b4⟩,b5⟩,a3,a4,a5,a6⟩
     have hk:c.kids.length=3:=by rcases a1 with h | h | h | h<;>omega
     rw [b5 (by omega),K8] at a6;refine ⟨by omega,?_,a6⟩;have q:=eta;rw [b1 (by omega),b2 (by omega),b4 (by omega),b3 (by omega),b5 (by omega)] at q;exact q.symm
    ·rintro ⟨a3,a4,a5⟩
     have e1:c.id=0:=by rw [a4];rfl
     have e2:c.name=Qk #[]:=by rw [a4];rfl
     have e3:c.num=0:=by rw [a4];rfl
     have e4:c.data=zF:=by rw [a4];rfl
     have e5:c.ids=[]:=by rw [a4];rfl
     exact ⟨.inr (.inr (.inr ⟨h7,by omega⟩)),⟨⟨fun h=>by omega,fun _=>e1⟩,⟨fun h=>by omega,fun _=>e2⟩,⟨fun h=>by omega,fun _=>e3⟩,⟨fun h=>by omega,fun _=>e4⟩,fun _=>e5⟩,fun h=>by omega,by rw [e5];simp,by rw [e5];exact Xl,by rw [e5,K8];exact a5⟩
   rw [if_pos h7];exact tail 0 (Qk #[]) 0 [] 0 (Qk #[]) 0 [] [] 3 sc (by omega) hci
  rw [if_neg h7];refine bad (fun h=>?_) _
  rcases h.1.1 with h | h | h | h<;>omega
theorem E2 {c:Cor} (hc:RJ c):Tot (Io c) fun b=>b=true↔CV c:=by
 rw [Io];obtain ⟨r,hr,h1,_⟩:=UI 120 (by omega) c hc [] (by simp) 600 (by omega);rw [show 121 - ((120:Nat):Int)=1 by decide,show ((600:Nat):Int)=600 by decide] at hr;rw [hr,X5];exact ⟨_,rfl,h1⟩
end Go.Proofs.SA
namespace Go.Proofs.SA
inductive PN:Val->Prop
 | mk {k n:Int} {s:ByteArray} {l:List Val} {f:Cor} {e:List Slt} (hp:k=5->hasB Pz s=true) (h1:∀x∈l,PN x) (h2:∀x∈e,PN x.val):PN (.mk k n s l f e)
theorem PN.out {v:Val} (h:PN v):(v.kind=5->hasB Pz v.name=true)/\(∀x∈v.items,PN x)/\∀x∈v.env,PN x.val:=by
 cases h;exact ⟨by assumption,by assumption,by assumption⟩
theorem PN.num (n:Int):PN (TI n):=.mk (fun h=>by cases h) (by simp) (by simp)
theorem PN.zero:PN zV:=.mk (fun h=>by cases h) (by simp) (by simp)
theorem PN.list {l:List Val} (h:∀x∈l,PN x):PN (TC l):=.mk (fun h=>by cases h) h (by simp)
theorem PN.data:∀f:Fm,PN (DW f):=by
 intro f
 induction f using Fm.ind with
 | h f ih =>
  rw [EB];split
  ·exact .num _
  ·split
   ·exact .mk (fun h=>by cases h) (by simp) (by simp)
   ·exact .list fun x hx=>by obtain ⟨y,hy,rfl⟩:=List.mem_map.1 hx;exact ih y hy
theorem Qfm (args:List Val) (h:args.length<=1000000):Yz args=some (!(args.all fun v=>decide (v.kind=1))):=by
 have key:∀(r:List Val) (i:Nat),(r.all (fun v=>decide (v.kind=1))=true->Yp args i r=some (.inr ()))/\(r.all (fun v=>decide (v.kind=1))=false->∃k:Nat,Yp args i r=some (.inl (k:Int))):=by
  intro r
  induction r with
  | nil=>intro i;exact ⟨fun _=>rfl,fun h=>by cases h⟩
  | cons x r ih =>
   intro i;rw [Yp,Yd,X5,Wi,Yd,X5,Xr];obtain ⟨h1,h2⟩:=ih (i+1);cases hx:decide (x.kind=1)
   ·exact ⟨fun h=>(by cases h),fun _=>⟨i,rfl⟩⟩
   ·exact ⟨fun h=>h1 h,fun h=>h2 h⟩
 obtain ⟨h1,h2⟩:=key args 0;rw [Yz,YP,Jp _ (by omega)];cases ha:args.all (fun v=>decide (v.kind=1))
 ·obtain ⟨k,hk⟩:=h2 ha;rw [hk,X5];simp only [Yd,X5];rw [decide_eq_true (by omega)];rfl
 ·rw [h1 ha,X5];rfl
theorem Qpi {m:Nat} (args:List Val) (c0:Mch):∀(l:List Val) (z:Int) (i:Nat),(-999<=z/\z<=999)->(∀x∈l,VI m x)->Vu args c0 z i l=some (l.foldl (fun s v=>(s+v.num).tmod 1000) z):=by
 intro l
 induction l with
 | nil=>intro z i _ _;rfl
 | cons x l ih =>
  intro z i hz h;have hx:=(h x (KB ..)).out.1;rw [Vu,Yd,X5,YC (by omega) (by omega),ih _ _ (Mr _) (fun y hy=>h y (Kf _ hy))];rfl
theorem UN (e k:Int):VD e ⟨k,0⟩=some (zV,⟨k,e⟩):=rfl
theorem Qsu (n:Int):H6 n=some (TI n):=rfl
theorem Qlm (b:Bool):BC b=some (TI (if b=true then 1 else 0)):=by cases b<;>rfl
theorem Qkv {m:Nat} (hm:m<=3001) (name:ByteArray) (args:List Val) (hn:hasB Pz name=true) (h:args.length<=1000) (hv:∀x∈args,VI m x) (k:Int):Jo name args ⟨k,0⟩=some ((CZ name args).1,⟨k,(CZ name args).2⟩):=by
 have e1:(if (args.length:Int)=1 then (idx args 0>>=fun x20=>pure (decide (x20.kind=3))) else pure false:Option Bool)=some (decide (args.length=1/\(args.getD 0 zV).kind=3)):=by
  by_cases hl:args.length=1
  ·rw [if_pos (by omega),show idx args 0=some args[0] from Yg _ 0 (by omega),X5,Yd];simp [hl,Qz]
  ·rw [if_neg (by omega)];simp [hl,Yd]
 have e2:(if decide (args.length=1/\(args.getD 0 zV).kind=3)=true then (idx args 0>>=fun x27=>pure (decide ((x27.items.length:Int) > 0))) else pure false:Option Bool)=some (decide (args.length=1/\(args.getD 0 zV).kind=3/\(args.getD 0 zV).items.length≠0)):=by
  by_cases hl:args.length=1/\(args.getD 0 zV).kind=3
  ·rw [decide_eq_true hl,if_pos rfl,show idx args 0=some args[0] from Yg _ 0 (by omega),X5,Yd]
   have hg:args.getD 0 zV=args[0]'(by omega):=by simp [Qz,hl.1]
   rw [← hg]
   by_cases hz:(args.getD 0 zV).items.length=0
   ·rw [decide_eq_false (by omega),decide_eq_false (fun h=>h.2.2 hz)]
   ·rw [decide_eq_true (by omega),decide_eq_true ⟨hl.1,hl.2,hz⟩]
  ·rw [decide_eq_false hl];simp only [Qq,if_false,Yd];rw [decide_eq_false (fun h=>hl ⟨h.1,h.2.1⟩)]
 rw [Jo,Qfm _ (by omega),X5,e1,X5,e2,X5]
 have two:∀p:Bool,(args.all fun v=>decide (v.kind=1))=true->args.length=2->(args.getD 0 zV).kind=1/\(args.getD 1 zV).kind=1:=by
  intro _ ha hl
  match args,hl with
  | [x,y],_=>simpa using ha
 have two':args.length=2->(args.getD 0 zV).kind=1->(args.getD 1 zV).kind=1->(args.all fun v=>decide (v.kind=1))=true:=by
  intro hl h1 h2
  match args,hl,h1,h2 with
  | [x,y],_,h1,h2=>simp at h1 h2;simp [h1,h2]
 have hnm:name=NQ∨name=LH∨name=Qc8∨name=S7∨name=LG∨name=LI:=by
  simp only [hasB,Pz,List.any_cons,List.any_nil,Xs,Bool.or_eq_true,decide_eq_true_eq] at hn
  rcases hn with h | h | h | h | h | h<;>simp [h]
 have cmp:∀(q:Val->Val->Bool) (rest:Option (Val × Mch)),(rest=some (zV,⟨k,3⟩))->(if ((!!(args.all fun v=>decide (v.kind=1)))&&decide ((args.length:Int)=2))=true then (idx args 0>>=fun x70=>idx args 1>>=fun x74=>BC (q x70 x74)>>=fun x78=>pure (x78,(⟨k,0⟩:Mch))) else rest) =
   some (if args.length=2/\(args.getD 0 zV).kind=1/\(args.getD 1 zV).kind=1 then (TI (if q (args.getD 0 zV) (args.getD 1 zV)=true then 1 else 0),⟨k,0⟩) else (zV,⟨k,3⟩)):=by
  intro q rest hr;rw [XA]
  by_cases hl:args.length=2/\(args.getD 0 zV).kind=1/\(args.getD 1 zV).kind=1
  ·rw [two' hl.1 hl.2.1 hl.2.2,decide_eq_true (by omega),if_pos hl];simp only [Xj,if_true];rw [show idx args 0=some args[0] from Yg _ 0 (by omega),X5,show idx args 1=some args[1] from Yg _ 1 (by omega),X5,Qlm,X5,Yd]
   have g0:args.getD 0 zV=args[0]'(by omega):=by simp [Qz,hl.1]
   have g1:args.getD 1 zV=args[1]'(by omega):=by simp [Qz,hl.1]
   rw [g0,g1]
  ·rw [if_neg hl,if_neg,hr];intro hc;rw [QG,decide_eq_true_eq] at hc
   have h2:args.length=2:=by omega
   exact hl ⟨h2,two true hc.1 h2⟩
 have d:∀a b:ByteArray,a≠b->decide (a=b)=false:=fun a b h=>decide_eq_false h
 rcases hnm with rfl | rfl | rfl | rfl | rfl | rfl
 ·rw [if_neg (show ¬NQ=_ by decide),show decide (NQ=(Qk #[43]))=true from rfl,CZ,if_neg (by decide),if_pos rfl];cases ha:args.all (fun v=>decide (v.kind=1))
  ·simp only [ZT,ZU,Xw,Yd,X5,Qq,if_false,Z4,show decide (NQ=(Qk #[104,101,97,100]))=false from rfl,show decide (NQ=(Qk #[116,97,105,108]))=false from rfl];rfl
  ·simp only [ZU,ZT,Xj,Yd,X5,if_true];rw [BN _ _ _ (by omega),Qpi (m:=m) _ _ _ _ _ (by decide) hv,X5];rfl
 ·rw [if_neg (show ¬LH=_ by decide),show decide (LH=(Qk #[43]))=false from rfl,CZ,if_neg (by decide),if_neg (by decide),if_neg (by decide),if_neg (by decide)];simp only [Z4,Yd,X5,Qq,if_false,show decide (LH=(Qk #[60]))=true from rfl,Z1];have hc:=cmp (fun x y=>decide (x.num < y.num)) _ rfl;simp only [Yd,X5,XA] at hc ⊢;rw [show decide (LH=(Qk #[61]))=false from rfl,show decide (LH=(Qk #[104,101,97,100]))=false from rfl,show decide (LH=(Qk #[116,97,105,108]))=false from rfl];simp only [Z4,Yd,X5,Qq,if_false];rw [show (VD 3 ⟨k,0⟩>>=fun x126=>some (x126.1,x126.2))=some (zV,⟨k,3⟩) from rfl,hc]
  by_cases hl:args.length=2/\(args.getD 0 zV).kind=1/\(args.getD 1 zV).kind=1
  ·rw [if_pos hl,if_pos hl]
   have hne:¬LH=Qc8:=by decide
   by_cases hlt:(args.getD 0 zV).num < (args.getD 1 zV).num
   ·simp only [hlt,hne,decide_true,if_true,and_self,true_or]
   ·simp only [hlt,hne,decide_false,Qq,if_false,and_false,false_and,or_self]
  ·rw [if_neg hl,if_neg hl]
 ·rw [if_neg (show ¬Qc8=_ by decide),show decide (Qc8=(Qk #[43]))=false from rfl,CZ,if_neg (by decide),if_neg (by decide),if_neg (by decide),if_neg (by decide)];simp only [Z4,Yd,X5,Qq,if_false,show decide (Qc8=(Qk #[60]))=false from rfl,show decide (Qc8=(Qk #[61]))=true from rfl,Z1];have hc:=cmp (fun x y=>decide (x.num=y.num)) _ rfl;simp only [Yd,X5,XA] at hc ⊢;rw [show decide (Qc8=(Qk #[104,101,97,100]))=false from rfl,show decide (Qc8=(Qk #[116,97,105,108]))=false from rfl];simp only [Z4,Yd,X5,Qq,if_false];rw [show (VD 3 ⟨k,0⟩>>=fun x126=>some (x126.1,x126.2))=some (zV,⟨k,3⟩) from rfl,hc]
  by_cases hl:args.length=2/\(args.getD 0 zV).kind=1/\(args.getD 1 zV).kind=1
  ·rw [if_pos hl,if_pos hl]
   have hne:¬Qc8=LH:=by decide
   by_cases hlt:(args.getD 0 zV).num=(args.getD 1 zV).num
   ·simp only [hlt,hne,decide_true,if_true,and_self,or_true]
   ·simp only [hlt,hne,decide_false,Qq,if_false,and_false,false_and,or_self]
  ·rw [if_neg hl,if_neg hl]
 ·rw [if_pos (show S7=(Qk #[108,105,115,116]) from rfl),CZ,if_pos rfl];rfl
 ·rw [if_neg (show ¬LG=_ by decide),show decide (LG=(Qk #[43]))=false from rfl,CZ,if_neg (by decide),if_neg (by decide),if_pos rfl];simp only [Z4,Yd,X5,Qq,if_false,show decide (LG=(Qk #[60]))=false from rfl,show decide (LG=(Qk #[61]))=false from rfl,show decide (LG=(Qk #[104,101,97,100]))=true from rfl,show decide (LG=(Qk #[116,97,105,108]))=false from rfl,Z1]
  by_cases hl:args.length=1/\(args.getD 0 zV).kind=3/\(args.getD 0 zV).items.length≠0
  ·have hg:args.getD 0 zV=args[0]'(by omega):=by simp [Qz,hl.1]
   rw [decide_eq_true hl,if_pos hl,if_pos rfl,show idx args 0=some args[0] from Yg _ 0 (by omega),X5,← hg,show idx (args.getD 0 zV).items 0=some (args.getD 0 zV).items[0] from Yg _ 0 (by omega),X5]
   have:(args.getD 0 zV).items.getD 0 zV=(args.getD 0 zV).items[0]'(by omega):=by
    rw [Qz,Qf (show 0 < (args.getD 0 zV).items.length by omega)];rfl
   rw [this]
  ·rw [decide_eq_false hl,if_neg hl];rfl
 ·rw [if_neg (show ¬LI=_ by decide),show decide (LI=(Qk #[43]))=false from rfl,CZ,if_neg (by decide),if_neg (by decide),if_neg (by decide),if_pos rfl];simp only [Z4,Yd,X5,Qq,if_false,show decide (LI=(Qk #[60]))=false from rfl,show decide (LI=(Qk #[61]))=false from rfl,show decide (LI=(Qk #[104,101,97,100]))=false from rfl,show decide (LI=(Qk #[116,97,105,108]))=true from rfl,Z1]
  by_cases hl:args.length=1/\(args.getD 0 zV).kind=3/\(args.getD 0 zV).items.length≠0
  ·have hg:args.getD 0 zV=args[0]'(by omega):=by simp [Qz,hl.1]
   rw [decide_eq_true hl,if_pos hl,if_pos rfl,show idx args 0=some args[0] from Yg _ 0 (by omega),X5,← hg]
   have hs:E4 (args.getD 0 zV).items 1 ((args.getD 0 zV).items.length:Int)=some ((args.getD 0 zV).items.drop 1):=by
    unfold E4;rw [if_pos ⟨by omega,by omega,by omega⟩];show some (List.take _ (List.drop 1 _))=_;rw [Xu (by rw [Xe];omega)]
   have hs2:∀l:List Val,WW l=some l:=fun l=>by
    rw [WW];unfold E4;rw [if_pos ⟨by omega,by omega,by omega⟩]
    simp
   rw [hs,X5,hs2,X5];rfl
  ·rw [decide_eq_false hl,if_neg hl];rfl
end Go.Proofs.SA
namespace Go.Proofs.SA
theorem Qj3 (c:Cor) (env:List Slt) (k:Mch) (h:env.length<=1000000000):∀(n:Nat),n<=env.length->VG c env k ((n:Int) - 1)=some (match (env.take n).reverse.find? (fun s=>decide (s.id=c.id)) with | some s=>.inl (s.val,Mch.mk (IntKind.i64.wrap (k.fuel - 1)) k.code) | none=>.inr ()):=by
 intro n
 induction n with
 | zero=>intro _;rw [VG,if_neg (by omega)];rfl
 | succ n ih =>
  intro hn
  have hl:n < env.length:=by omega
  rw [VG,if_pos (by omega),show ((n+1:Nat):Int) - 1=(n:Int) by omega,Yg env n hl,X5,Xm hl,Xy,Xt,Xv,Xk]
  by_cases hid:env[n].id=c.id
  ·rw [if_pos hid,X5,decide_eq_true hid];rfl
  ·rw [if_neg hid,decide_eq_false hid,YC (by omega) (by omega),ih (by omega)]
theorem Qoi (l:List ByteArray) (s:ByteArray) (h:l.length<=1000000):Vg l s=some (hasB l s):=by
 have key:∀(r:List ByteArray) (i:Nat),(hasB r s=true->∃k:Nat,Y3 l s i r=some (.inl (k:Int)))/\(hasB r s=false->Y3 l s i r=some (.inr ())):=by
  intro r
  induction r with
  | nil=>intro i;exact ⟨fun h=>(by cases h),fun _=>rfl⟩
  | cons y r ih =>
   intro i;have hc:hasB (y :: r) s=(decide (y=s)||hasB r s):=rfl;rw [Y3,Yd,X5,hc]
   by_cases hxy:s=y
   ·rw [if_pos hxy,decide_eq_true hxy.symm];exact ⟨fun _=>⟨i,rfl⟩,fun h=>by cases h⟩
   ·rw [if_neg hxy,decide_eq_false (fun h=>hxy h.symm),Bool.false_or];exact ih (i+1)
 obtain ⟨h1,h2⟩:=key l 0;rw [Vg,Jl,AY _ _ (by omega)];cases hx:hasB l s
 ·rw [h2 hx,X5];rfl
 ·obtain ⟨k,hk⟩:=h1 hx;rw [hk,X5];simp only [Yd,X5];rw [decide_eq_true (by omega)]
theorem Qhx (s:ByteArray):Vg [(Qk #[108,105,115,116]),(Qk #[43]),(Qk #[60]),(Qk #[61]),(Qk #[104,101,97,100]),(Qk #[116,97,105,108])] s=some (hasB Pz s):=by
 rw [Qoi _ _ (by decide)];simp only [hasB,Pz,List.any_cons,List.any_nil,Xs,NQ,LH,Qc8,S7,LG,LI]
 congr 1
 cases decide ((Qk #[108,105,115,116])=s)<;>cases decide ((Qk #[43])=s)<;>cases decide ((Qk #[60])=s)<;>cases decide ((Qk #[61])=s)<;>rfl
theorem Qqw (l:List Slt):VL l=some l:=by
 rw [VL];unfold E4;rw [if_pos ⟨by omega,by omega,by omega⟩]
 simp
theorem Qjm (c:Cor) (e0 e1:Int) (f:Val) (args:List Val) (hl:args.length=f.fn.ids.length) (h1:args.length<=1000):∀(r:List Int) (i:Nat) (z:List Slt),f.fn.ids.drop i=r->z.length+r.length<=20000000->VP c e0 e1 f args z i r=some (z++Cd r (args.drop i)):=by
 intro r
 induction r with
 | nil=>intro i z _ _;rw [VP,Yd,Cd.eq_def];simp
 | cons x r ih =>
  intro i z hd hz;simp only [ZE] at hz
  have hi:i < f.fn.ids.length:=by
   rcases KA i f.fn.ids.length with h | h
   ·exact h
   ·rw [Zy h] at hd;cases hd
  rw [Zx hi] at hd
  injection hd with e2 e3
  have hia:i < args.length:=by omega
  rw [VP,Yd,X5,Yg _ _ hia,X5,YB (by simp only [ZE,ZD];omega),X5,ih (i+1) _ e3 (by rw [QV];simp;omega),Zx hia,Cd,QD];rfl
theorem Qs5 (c:Cor) (env:List Slt) (q e:Int) (he:e≠0):YO c env ⟨q,e⟩=some (zV,⟨q,e⟩):=by
 rw [YO,if_neg (show ¬e=0 from he)];rfl
theorem Qu0 (c:Cor) (env:List Slt) (q e:Int) (he:e≠0):∀(r:List Cor) (i:Nat) (z:List Val),z.length+r.length<=100000->∃vs,Y2 c env z q e i r=some (vs,q,e):=by
 intro r
 induction r with
 | nil=>intro i z _;exact ⟨z,rfl⟩
 | cons x r ih =>
  intro i z hz;simp only [ZE] at hz;rw [Y2,Yd,X5,Qs5 x env q e he,X5,YB (by simp;omega),X5];exact ih _ _ (by simp;omega)
theorem Qkp {env:List Slt} (h:∀x∈env,PN x.val) (id:Int):PN (Oe env id):=by
 unfold Oe
 cases hf:env.reverse.find? (fun s=>decide (s.id=id)) with
 | none=>exact .zero
 | some s=>exact h s (List.mem_reverse.1 (Xo hf))
theorem Qkw (name:ByteArray) (args:List Val) (h:∀x∈args,PN x):PN (CZ name args).1:=by
 have hg:∀i,PN (args.getD i zV):=fun i=>by
  rw [Qz]
  cases hi:args[i]? with
  | none=>exact .zero
  | some x=>exact h x (Qd hi)
 unfold CZ;split
 ·exact .list h
 split
 ·split
  ·exact .num _
  ·exact .zero
 split
 ·split
  ·show PN ((args.getD 0 zV).items.getD 0 zV);rw [Qz]
   cases hi:(args.getD 0 zV).items[0]? with
   | none=>exact .zero
   | some x=>exact (hg 0).out.2.1 x (Qd hi)
  ·exact .zero
 split
 ·split
  ·exact .list fun x hx=>(hg 0).out.2.1 x (QA hx)
  ·exact .zero
 split
 ·split<;>exact .num _
 ·exact .zero
def EvI (o:Option (Val × Mch)) (e:Val × Int × Nat):Prop:=∃v k,o=some (v,⟨k,e.2.1⟩)/\(e.2.1=0->v=e.1/\k=(e.2.2:Int)/\PN e.1)
theorem Qde:∀(g:Nat),g<=3001->∀(n:Nat),n<=g->∀(c:Cor),AR c->c.nodes<=600->∀env:List Slt,(∀s∈env,VI n s.val)->(∀s∈env,PN s.val)->env.length+1000 * n<=10000000->EvI (YO c env ⟨(n:Int),0⟩) (evG g c env n):=by
 intro g
 induction g with
 | zero =>
  intro _ n hn c _ _ env _ _ _
  obtain rfl:n=0:=by omega
  rw [YO,if_pos (show Mch.code ⟨((0:Nat):Int),0⟩=0 from rfl),if_pos (show XE ⟨((0:Nat):Int),0⟩=0 from rfl),evG];exact ⟨_,_,rfl,fun h=>by cases h⟩
 | succ g ih =>
  intro hg n hn c hc hcn env henv hpn hel;have ihg:=ih (by omega);have v8:=LK g (by omega);rw [YO,if_pos rfl,evG]
  by_cases h0:n=0
  ·subst h0;rw [if_pos (show XE ⟨((0:Nat):Int),0⟩=0 from rfl),if_pos rfl];exact ⟨_,_,rfl,fun h=>by cases h⟩
  have ew:IntKind.i64.wrap (XE ⟨(n:Int),0⟩ - 1)=((n - 1:Nat):Int):=by show IntKind.i64.wrap ((n:Int) - 1)=_;rw [YC (by omega) (by omega)];omega
  rw [if_neg (show ¬XE ⟨(n:Int),0⟩=0 by show ¬(n:Int)=0;omega),if_neg h0];simp only [ew];obtain ⟨c1,c2,c3,c4,c5,c6,c7⟩:=hc.out;have henv':∀s∈env,VI (n - 1) s.val:=fun s hs=>VI.mono (by omega) _ (henv s hs);have fin:∀{v:Val},PN v->EvI (some (v,⟨((n - 1:Nat):Int),0⟩)) (v,0,n - 1):=fun h=>⟨_,_,rfl,fun _=>⟨rfl,rfl,h⟩⟩
  by_cases k1:c.kind=1
  ·rw [if_pos k1,if_pos k1,YC (by omega) (by omega),Qj3 c env _ (by omega) env.length (Qt _),List.take_length,X5];have hp:=Qkp hpn c.id;unfold Oe at hp ⊢
   cases hf:env.reverse.find? (fun s=>decide (s.id=c.id)) with
   | none=>rw [hf] at hp;exact fin hp
   | some s =>
    rw [hf] at hp;simp only [ew];exact fin hp
  by_cases k3:c.kind=3
  ·rw [if_neg k1,if_pos k3,if_neg k1,if_pos k3,Qsu,X5];exact fin (.num _)
  by_cases k4:c.kind=4
  ·rw [if_neg k1,if_neg k3,if_pos k4,if_neg k1,if_neg k3,if_pos k4]
   have hdz:c.data.sz<=1000000:=by
    rcases c5 with h | h
    ·have:=h.sz;omega
    ·rw [h];decide
   rw [US _ hdz,X5];exact fin (.data _)
  by_cases k5:c.kind=5
  ·rw [if_neg k1,if_neg k3,if_neg k4,if_pos k5,if_neg k1,if_neg k3,if_neg k4,if_pos k5];exact fin (.mk (fun h=>by cases h) (by simp) hpn)
  by_cases k2:c.kind=2
  ·rw [if_neg k1,if_neg k3,if_neg k4,if_neg k5,if_pos k2,if_neg k1,if_neg k3,if_neg k4,if_neg k5,if_pos k2,Qhx,X5]
   by_cases hb:hasB Pz c.name=true
   ·rw [if_pos hb,if_pos hb];exact fin (.mk (fun _=>hb) (by simp) (by simp))
   ·rw [if_neg hb,if_neg hb,UN,X5];exact ⟨_,_,rfl,fun h=>by cases h⟩
  by_cases k7:c.kind=7
  ·rw [if_neg k1,if_neg k3,if_neg k4,if_neg k5,if_neg k2,if_pos k7,if_neg k1,if_neg k3,if_neg k4,if_neg k5,if_neg k2,if_pos k7]
   have hl:c.kids.length=3:=by rcases c1 with h | h | h | h<;>omega
   have l0:0 < c.kids.length:=by omega
   have l1:1 < c.kids.length:=by omega
   have l2:2 < c.kids.length:=by omega
   rw [show idx c.kids 0=some c.kids[0] from Yg _ 0 l0,X5,Vv l0,Vv l1,Vv l2];have q0:=E3 hc hcn (ZK l0);have q1:=E3 hc hcn (ZK l1);have q2:=E3 hc hcn (ZK l2);obtain ⟨_,_,r3,r4⟩:=v8 (n - 1) (by omega) c.kids[0] q0.1 q0.2 env henv' (by omega);obtain ⟨v,k,r1,r2⟩:=ihg (n - 1) (by omega) c.kids[0] q0.1 q0.2 env henv' hpn (by omega);rw [r1,X5];generalize evG g c.kids[0] env (n - 1)=e at r1 r2 r3 r4
   simp only
   by_cases he:e.2.1=0
   rotate_left
   ·rw [if_neg he]
    have st:∀x:Cor,(YO x env ⟨k,e.2.1⟩>>=fun q=>(pure (q.1,q.2):Option (Val × Mch)))=some (zV,⟨k,e.2.1⟩):=fun x=>by rw [Qs5 _ _ _ _ he];rfl
    have fin2:EvI (some (zV,⟨k,e.2.1⟩)) (zV,e.2.1,e.2.2):=⟨_,_,rfl,fun h=>absurd h he⟩;simp only [Yd,X5];split
    ·rw [show idx c.kids 2=some c.kids[2] from Yg _ 2 l2,X5];have:=st c.kids[2];simp only [Yd] at this;rw [this];exact fin2
    ·rw [show idx c.kids 1=some c.kids[1] from Yg _ 1 l1,X5];have:=st c.kids[1];simp only [Yd] at this;rw [this];exact fin2
   obtain ⟨rfl,rfl,hpe⟩:=r2 he;rw [if_pos he,he]
   have sub:∀(x:Cor),AR x/\x.nodes<=600->EvI (YO x env ⟨(e.2.2:Int),0⟩>>=fun q=>some (q.1,q.2)) (evG g x env e.2.2):=fun x hx=>by
    obtain ⟨v,k,s1,s2⟩:=ihg e.2.2 (by omega) x hx.1 hx.2 env (fun s hs=>VI.mono (by omega) _ (henv s hs)) hpn (by omega);rw [s1,X5];exact ⟨v,k,rfl,s2⟩
   by_cases hz:e.1.kind=1/\e.1.num=0
   ·rw [decide_eq_true hz.1,decide_eq_true hz.2,if_pos hz];simp only [Xj,Yd,X5,if_true,show idx c.kids 2=some c.kids[2] from Yg _ 2 l2];exact sub _ q2
   ·have hb:(decide (e.1.kind=1)&&decide (e.1.num=0))=false:=by
     by_cases ha:e.1.kind=1
     ·rw [decide_eq_false (fun h=>hz ⟨ha,h⟩),Xw]
     ·rw [decide_eq_false ha,Z4]
    rw [hb,if_neg hz];simp only [Yd,X5,Qq,if_false,show idx c.kids 1=some c.kids[1] from Yg _ 1 l1];exact sub _ q1
  rw [if_neg k1,if_neg k3,if_neg k4,if_neg k5,if_neg k2,if_neg k7,if_neg k1,if_neg k3,if_neg k4,if_neg k5,if_neg k2,if_neg k7]
  have hl:1<=c.kids.length:=by rcases c1 with h | h | h | h<;>omega
  rw [DX _ _ _ _ _ (by omega)]
  have loop:∀(r:List Cor) (i:Nat) (z:List Val) (m:Nat),(∀x∈r,x∈c.kids)->m<=n - 1->z.length+r.length<=1000->(∀v∈z,VI m v)->(∀v∈z,PN v) ->
    match JS (fun c n=>evG g c env n) r m with
    | .inl (e,k)=>e≠0/\∃vs q,Y2 c env z (m:Int) 0 i r=some (vs,q,e)
    | .inr (vs,k)=>Y2 c env z (m:Int) 0 i r=some (z++vs,(k:Int),0)/\k<=m/\(∀v∈z++vs,VI k v)/\(∀v∈z++vs,PN v)/\vs.length=r.length:=by
   intro r
   induction r with
   | nil=>intro i z m _ _ _ hz hp;rw [JS];exact ⟨by rw [Y2,Yd,K8],Qt _,by simpa using hz,by simpa using hp,rfl⟩
   | cons k r ihr =>
    intro i z m hr hm hz hzv hzp;simp only [ZE] at hz;have hk:=E3 hc hcn (hr k (KB ..));obtain ⟨_,r2,r3,r4⟩:=v8 m (by omega) k hk.1 hk.2 env (fun s hs=>VI.mono (by omega) _ (henv s hs)) (by omega);obtain ⟨v,kk,r1,r5⟩:=ihg m (by omega) k hk.1 hk.2 env (fun s hs=>VI.mono (by omega) _ (henv s hs)) hpn (by omega);rw [JS,Y2,Yd,X5,r1,X5];generalize evG g k env m=e at r1 r2 r3 r4 r5
    simp only
    rw [YB (by simp;omega),X5]
    by_cases he:e.2.1=0
    rotate_left
    ·rw [if_neg he];obtain ⟨vs,hvs⟩:=Qu0 c env kk e.2.1 he r (i+1) (z++[v]) (by simp;omega);exact ⟨he,vs,kk,hvs⟩
    obtain ⟨rfl,rfl,hpe⟩:=r5 he;rw [if_pos he,he]
    have hnext:=ihr (i+1) (z++[e.1]) e.2.2 (fun x hx=>hr x (Kf _ hx)) (by omega) (by simp;omega) (fun v hv=>by
     rcases QR.1 hv with hv | hv
     ·exact VI.mono r3 _ (hzv v hv)
     ·rw [ZG.1 hv];exact r2) (fun v hv=>by
     rcases QR.1 hv with hv | hv
     ·exact hzp v hv
     ·rw [ZG.1 hv];exact hpe)
    cases hE:JS (fun c n=>evG g c env n) r e.2.2 with
    | inl x=>rw [hE] at hnext;exact hnext
    | inr x =>
     obtain ⟨vs,kk⟩:=x;rw [hE] at hnext;obtain ⟨t1,t2,t3,t4,t5⟩:=hnext;rw [QD] at t1 t3 t4;exact ⟨t1,by omega,t3,t4,by simp [t5]⟩
  have hloop:=loop c.kids 0 [] (n - 1) (fun _ h=>h) (Qt _) (by simp;omega) (by simp) (by simp);show EvI (Y2 c env [] ((n - 1:Nat):Int) 0 0 c.kids>>=_) _
  cases hE:JS (fun c n=>evG g c env n) c.kids (n - 1) with
  | inl x =>
   obtain ⟨e,k⟩:=x;rw [hE] at hloop;obtain ⟨he,vs,q,h1⟩:=hloop;rw [h1,X5]
   simp only
   rw [if_neg he];exact ⟨_,_,rfl,fun h=>absurd h he⟩
  | inr x =>
   obtain ⟨vs,m⟩:=x;rw [hE] at hloop;obtain ⟨t1,t2,t3,t4,t5⟩:=hloop;rw [QS] at t1 t3 t4;rw [t1,X5];simp only [if_true]
   cases vs with
   | nil=>simp at t5;omega
   | cons f args =>
    have hf:=t3 f (KB ..);have hfp:=t4 f (KB ..);have ha:∀v∈args,VI m v:=fun v hv=>t3 v (Kf _ hv);have hap:∀v∈args,PN v:=fun v hv=>t4 v (Kf _ hv)
    have hal:args.length<=600:=by simp at t5;omega
    have hsub:E4 (f :: args) 1 ((f :: args).length:Int)=some args:=by
     unfold E4;rw [if_pos ⟨by omega,by simp;omega,by omega⟩]
     simp
    simp only [show idx (f :: args) 0=some f from rfl,X5,hsub];obtain ⟨f1,f2,f3,f4,f5,f6,f7⟩:=hf.out;rw [Ea]
    by_cases h5:f.kind=5
    ·rw [if_pos h5,if_pos h5,Qkv (m:=m) (by omega) f.name args (hfp.out.1 h5) (by omega) ha,X5];exact ⟨_,_,rfl,fun _=>⟨rfl,rfl,Qkw _ _ hap⟩⟩
    rw [if_neg h5,if_neg h5]
    by_cases h4:f.kind=4
    rotate_left
    ·rw [if_neg h4,if_neg h4,UN,X5];exact ⟨_,_,rfl,fun h=>by cases h⟩
    rw [if_pos h4,if_pos h4]
    by_cases hal2:args.length=f.fn.ids.length
    rotate_left
    ·rw [if_neg (show ¬(args.length:Int)=(f.fn.ids.length:Int) by omega),if_neg hal2,UN,X5];exact ⟨_,_,rfl,fun h=>by cases h⟩
    rw [if_pos (show (args.length:Int)=(f.fn.ids.length:Int) by omega),if_pos hal2]
    have hfn:AR f.fn/\f.fn.kind=5/\f.fn.nodes<=600:=by
     rcases f4 with h | h
     ·exact h.2
     ·exact absurd h4 h.1
    have hk0:0 < f.fn.kids.length:=by
     have:=hfn.1.out.1
     rcases this with h | h | h | h<;>omega
    have hkid:=E3 hfn.1 hfn.2.2 (ZK hk0);have hfl:=hfn.1.out.2.2.2.1;rw [Qqw,X5,DY _ _ _ _ _ _ (by omega),Qjm c _ _ f args hal2 (by omega) _ 0 _ (ZN ..) (by omega),ZN,X5,show idx f.fn.kids 0=some f.fn.kids[0] from Yg _ 0 hk0,X5,Qqw,X5,Vv hk0];have hbl:=NR f.fn.ids args hal2.symm
    obtain ⟨v,k,s1,s2⟩:=ihg m (by omega) f.fn.kids[0] hkid.1 hkid.2 (f.env++Cd f.fn.ids args) (fun s hs=>by
     rcases QR.1 hs with hs | hs
     ·exact f7 s hs
     ·exact ha _ (FO _ _ s hs)) (fun s hs=>by
     rcases QR.1 hs with hs | hs
     ·exact hfp.out.2.2 s hs
     ·exact hap _ (FO _ _ s hs)) (by rw [QV,hbl];omega)
    rw [s1];exact ⟨v,k,rfl,s2⟩
theorem Eb {c:Cor} (hc:RJ c) (fuel:Int):IQ c fuel=some (LL c fuel):=by
 obtain ⟨b,hb,hbv⟩:=E2 hc;rw [IQ,hb,X5,Qbo,X5,LL];cases b
 ·simp only [ZT,if_true,Yd,X5];rw [if_neg (fun h=>by have:=hbv.2 h.1;cases this)];rfl
 have hv:=hbv.1 rfl;simp only [ZU,Qq,if_false,Yd,X5]
 by_cases hf:0<=fuel/\fuel<=3000
 rotate_left
 ·simp only [decide_eq_false hf,ZT,if_true];rw [if_neg (fun h=>hf h.2)];rfl
 simp only [decide_eq_true hf,ZU,Qq,if_false];rw [if_pos ⟨hv,hf⟩];obtain ⟨n,rfl⟩:=Int.eq_ofNat_of_zero_le hf.1;rw [Int.toNat_natCast];obtain ⟨v,k,h1,h2⟩:=Qde n (by omega) n (Qt _) c hv.ar hv.2 [] (by simp) (by simp) (by simp;omega);obtain ⟨_,h3,_⟩:=LK n (by omega) n (Qt _) c hv.ar hv.2 [] (by simp) (by simp;omega);rw [h1,X5];generalize evG n c [] n=e at h1 h2 h3
 simp only
 by_cases he:e.2.1=0
 rotate_left
 ·rw [if_neg he,if_neg he];rfl
 obtain ⟨rfl,rfl,_⟩:=h2 he;rw [if_pos he,if_pos he];obtain ⟨s1,s2⟩:=Qia e.1 h3 2000 (by omega);rw [show ((2000:Nat):Int)=2000 from rfl] at s1 s2
 by_cases hn:e.1.nodes<=2000
 ·rw [s1 hn,X5,if_pos hn,UQ _ h3];rfl
 ·obtain ⟨q,hq⟩:=s2 (by omega);rw [hq,X5,if_neg hn];rfl
end Go.Proofs.SA
namespace Go.Proofs.SA
theorem NK.d {m:Nat} (hm:m<=1000) {c:Cor} (h:NK m c):RJ c:=by
 induction h with
 | mk hl hd hs hk _ ih=>exact .mk (by omega) (by omega) hd.2 (by omega) (by omega) ih
theorem CIs.d:∀(d:Nat) (sc:List Int) (c:Cor),CIs d sc c->c.nodes<=600->RJ c
 | 0,_,_,h,_=>h.elim
 | d+1,sc,c,h,hn=>by
  have ha:=CIs.ar _ _ _ h hn;obtain ⟨_,a2,_,a4,a5,a6,_⟩:=ha.out;obtain ⟨h1,h2,h3,h4,h5,h6⟩:=h;have hne:=Cor.Yx c
  have:=RJ.mk (k:=c.kind) (i:=c.id) (n:=c.num) (l:=c.ids) (d:=c.data) (s:=c.name) (ks:=c.kids) (by omega) (by
   rcases a5 with h | h
   ·have:=h.sz;omega
   ·rw [h];decide) (by
   by_cases hk:c.kind=4
   ·exact (h2.2.2.2.1.1 hk).2
   ·rw [h2.2.2.2.1.2 hk];rfl) (by omega) (by omega) (fun x hx=>CIs.d d _ x (h6 x hx) (by have:=Gl Xh c.kids x hx;omega))
  rwa [XD] at this
theorem RJ.b {c:Cor} (h:RJ c):SO c:=by
 induction h with
 | mk hl hd _ hs hk _ ih=>exact .mk (by omega) (by omega) (by omega) ih
theorem drawn {l:List Int} (h:∀x∈l,0<=x/\x < 256):Tot (GR l) fun r=>RJ r.1/\r.1.nodes<=256000/\(r.2=200∨r.2∈[500,100,20,5,0,3001]) :=
 (MG h).mono fun r hr=>⟨by
  rcases hr.1 with h | h
  ·exact h.d (by omega)
  ·exact CIs.d _ _ _ h.2.1 h.2.2,hr.2⟩
theorem Qnv {k:Int} {s:ByteArray} (hs:s.size<=1000000) {n:Int} {l:List Int} (hl:l.length<=1000000) {ks:List Cor} (hk:ks.length<=1000000) (h:∀x∈ks,RJ x):RJ (.mk k 0 s n l (KS 0 (Qk #[]) 0 [] []) ks):=.mk hl (by decide) rfl hs hk h
theorem Qjz {c:Cor} {fuel:Int} (h:CV c) (h0:0<=fuel/\fuel<=3000):LL c fuel=(if (evG fuel.toNat c [] fuel.toNat).2.1=0 then (if (evG fuel.toNat c [] fuel.toNat).1.nodes<=2000 then ((evG fuel.toNat c [] fuel.toNat).1,0) else (zV,4)) else (zV,(evG fuel.toNat c [] fuel.toNat).2.1)):=by rw [LL,if_pos ⟨h,h0⟩]
end Go.Proofs.SA
namespace Go.Proofs.SA
theorem Qd1:∀(n:Nat) (v:Val),v.nodes<=n->v.Ok->v.sz<=1099511627776->Vt v v=some true:=by
 intro n
 induction n with
 | zero=>intro v hn;rw [Val.Yx] at hn;omega
 | succ n ih =>
  intro v hn hv hs;obtain ⟨g0,g1,g2,g3,g4,g5,g6⟩:=hv.out;have hz:=Val.Gb v;have hne:=Val.Yx v
  have loop:Ye v.items v.items 0 v.items=some (.inr ()):=by
   refine Qg6 (fun i l=>Ye v.items v.items i l) v.items (fun _=>rfl) (fun i hi r=>?_);have m1:=ZK hi;have s1:=Gl Val.sz _ _ m1;have s3:=Gl Val.nodes _ _ m1;show Ye _ _ _ _=_;rw [Ye,Yd,X5,Yg _ _ hi,X5,ih _ (by omega) (g5 _ m1) (by omega),X5];rfl
  rw [Vt];simp only [decide_true,Xj,Yd,X5,if_true];rw [YD,if_pos rfl,Vk _ _ (by omega),loop];simp only [Yd,X5,if_true,Dp v hv hs,decide_true]
theorem Qpd {v:Val} (h:(∃m,VI m v)/\v.nodes<=2000):Vt v v=some true:=by
 obtain ⟨h1,h2⟩:=DV.out h;exact Qd1 2000 v h.2 h1 h2
def Up (k:Nat) (a:Val × Int × Nat):Val × Int × Nat:=(a.1,a.2.1,a.2.2+k)
def UpK (k:Nat):(Int × Nat) ⊕ (List Val × Nat)->(Int × Nat) ⊕ (List Val × Nat)
 | .inl (e,q)=>.inl (e,q+k)
 | .inr (vs,q)=>.inr (vs,q+k)
theorem N4 {E E':Cor->Nat->Val × Int × Nat} {k:Nat} (h:∀x m,(E x m).2.1≠4->E' x (m+k)=Up k (E x m)):∀(l:List Cor) (m:Nat),(∀e q,JS E l m=.inl (e,q)->e≠4)->JS E' l (m+k)=UpK k (JS E l m)
 | [],m,_=>by rw [JS,JS];rfl
 | x :: l,m,h4=>by
  rw [JS] at h4;rw [JS,JS]
  by_cases he:(E x m).2.1=0
  ·rw [if_pos he] at h4;have hx:=h x m (by rw [he];decide);have hl:=N4 h l (E x m).2.2 (fun e q hq=>h4 e q (by rw [hq]));rw [hx];simp only [Up,he,if_true];rw [hl];cases JS E l (E x m).2.2<;>rfl
  ·rw [if_neg he] at h4;have hx:=h x m (h4 _ _ rfl);rw [hx];simp only [Up,he,if_false];rfl
theorem Qjx:∀(g:Nat) (c:Cor) (env:List Slt) (n:Nat),(evG g c env n).2.1≠4->∀(g' k:Nat),g<=g'->evG g' c env (n+k)=Up k (evG g c env n):=by
 intro g
 induction g with
 | zero=>intro c env n h;exact absurd rfl h
 | succ g ih =>
  intro c env n h g' k hg;obtain ⟨g',rfl⟩:∃q,g'=q+1:=⟨g' - 1,by omega⟩;rw [evG] at h;rw [evG,evG]
  by_cases h0:n=0
  ·subst h0;rw [if_pos rfl] at h;exact absurd rfl h
  rw [if_neg h0] at h;rw [if_neg h0,if_neg (show ¬n+k=0 by omega),show n+k - 1=n - 1+k by omega];generalize n - 1=m at *
  by_cases k1:c.kind=1
  ·rw [if_pos k1,if_pos k1];rfl
  rw [if_neg k1] at h;rw [if_neg k1,if_neg k1]
  by_cases k3:c.kind=3
  ·rw [if_pos k3,if_pos k3];rfl
  rw [if_neg k3] at h;rw [if_neg k3,if_neg k3]
  by_cases k4:c.kind=4
  ·rw [if_pos k4,if_pos k4];rfl
  rw [if_neg k4] at h;rw [if_neg k4,if_neg k4]
  by_cases k5:c.kind=5
  ·rw [if_pos k5,if_pos k5];rfl
  rw [if_neg k5] at h;rw [if_neg k5,if_neg k5]
  by_cases k2:c.kind=2
  ·rw [if_pos k2,if_pos k2];split<;>rfl
  rw [if_neg k2] at h;rw [if_neg k2,if_neg k2]
  by_cases k7:c.kind=7
  ·rw [if_pos k7] at h;rw [if_pos k7,if_pos k7];generalize hk0:c.kids.getD 0 default=c0 at *
   have i0:(evG g c0 env m).2.1≠4:=by
    intro h4;rw [if_neg (by rw [h4];decide)] at h;exact h h4
   have j0:=ih c0 env m i0 g' k (by omega);rw [j0];generalize evG g c0 env m=E at *;obtain ⟨v,e,q⟩:=E;change (if e=0 then (if v.kind=1/\v.num=0 then evG g' (c.kids.getD 2 default) env (q+k) else evG g' (c.kids.getD 1 default) env (q+k)) else (zV,e,q+k))=Up k (if e=0 then (if v.kind=1/\v.num=0 then evG g (c.kids.getD 2 default) env q else evG g (c.kids.getD 1 default) env q) else (zV,e,q));change (if e=0 then (if v.kind=1/\v.num=0 then evG g (c.kids.getD 2 default) env q else evG g (c.kids.getD 1 default) env q) else (zV,e,q)).2.1≠4 at h
   by_cases he:e=0
   ·rw [if_pos he] at h;rw [if_pos he,if_pos he]
    by_cases hz:v.kind=1/\v.num=0
    ·rw [if_pos hz] at h;rw [if_pos hz,if_pos hz];exact ih _ env q h g' k (by omega)
    ·rw [if_neg hz] at h;rw [if_neg hz,if_neg hz];exact ih _ env q h g' k (by omega)
   ·rw [if_neg he,if_neg he];rfl
  rw [if_neg k7] at h;rw [if_neg k7,if_neg k7];have hk:=N4 (E:=fun c n=>evG g c env n) (E':=fun c n=>evG g' c env n) (k:=k) (fun x q hx=>ih x env q hx g' k (by omega)) c.kids m (fun e q hq=>by rw [hq] at h;exact h);rw [hk]
  cases hE:JS (fun c n=>evG g c env n) c.kids m with
  | inl x=>rfl
  | inr x =>
   obtain ⟨vs,q⟩:=x;rw [hE] at h
   cases vs with
   | nil=>rfl
   | cons f args =>
    simp only [UpK] at *;rw [Ea] at h;rw [Ea,Ea]
    by_cases f5:f.kind=5
    ·rw [if_pos f5,if_pos f5];rfl
    rw [if_neg f5] at h;rw [if_neg f5,if_neg f5]
    by_cases f4:f.kind=4
    ·rw [if_pos f4] at h;rw [if_pos f4,if_pos f4]
     by_cases hl:args.length=f.fn.ids.length
     ·rw [if_pos hl] at h;rw [if_pos hl,if_pos hl];exact ih _ _ q h g' k (by omega)
     ·rw [if_neg hl,if_neg hl];rfl
    ·rw [if_neg f4,if_neg f4];rfl
theorem Ts {c:Cor} {n:Int} {v:Val} {e:Int} (h:LL c n=(v,e)) (h4:e≠4) (h5:e≠5):CV c/\(0<=n/\n<=3000)/\(evG n.toNat c [] n.toNat).2.1=e/\(e=0->(evG n.toNat c [] n.toNat).1=v/\v.nodes<=2000)/\(e≠0->v=zV):=by
 rw [LL] at h
 by_cases hc:CV c/\0<=n/\n<=3000
 rotate_left
 ·rw [if_neg hc] at h
  injection h with _ h;exact absurd h.symm h5
 rw [if_pos hc] at h;refine ⟨hc.1,hc.2,?_⟩;generalize evG n.toNat c [] n.toNat=E at *
 by_cases he:E.2.1=0
 ·rw [if_pos he] at h
  by_cases hn:E.1.nodes<=2000
  ·rw [if_pos hn] at h
   injection h with a b
   subst a;subst b;exact ⟨he,fun _=>⟨rfl,hn⟩,fun h=>absurd rfl h⟩
  ·rw [if_neg hn] at h
   injection h with _ h;exact absurd h.symm h4
 ·rw [if_neg he] at h
  injection h with a b
  subst a;subst b;exact ⟨rfl,fun h=>absurd h he,fun _=>rfl⟩
theorem Qjy {c:Cor} {n:Int} {v:Val} {m:Nat} (hc:CV c) (h0:0<=n/\n<=3000) (h:evG n.toNat c [] n.toNat=(v,0,m)):LL c n=if v.nodes<=2000 then (v,0) else (zV,4):=by
 rw [Qjz hc h0,h,if_pos rfl]
theorem evalApp {c:Cor} {n:Int} {v:Val} (h:LL c n=(v,0)) (k:Nat) (g:Nat) (hg:n.toNat<=g):0<=n/\n<=3000/\v.nodes<=2000/\∃m,evG g c [] (n.toNat+k)=(v,0,m):=by
 obtain ⟨h1,h2,h3,h6,h7⟩:=Ts h (by decide) (by decide);obtain ⟨a,b⟩:=h6 rfl;refine ⟨h2.1,h2.2,b,(evG n.toNat c [] n.toNat).2.2+k,?_⟩;rw [Qjx n.toNat c [] n.toNat (by rw [h3];decide) g k hg,Up,a,h3]
end Go.Proofs.SA
namespace Go.Proofs.SA
inductive EnR (R:Val->Val->Prop):List Slt->List Slt->Prop
 | nil:EnR R [] []
 | cons {i:Int} {v w:Val} {e f:List Slt} (h:R v w) (t:EnR R e f):EnR R (.mk i v :: e) (.mk i w :: f)
 | extra {w:Val} {e f:List Slt} (t:EnR R e f):EnR R e (.mk 995 w :: f)
inductive LsR (R:Val->Val->Prop):List Val->List Val->Prop
 | nil:LsR R [] []
 | cons {v w:Val} {e f:List Val} (h:R v w) (t:LsR R e f):LsR R (v :: e) (w :: f)
inductive N5:Cor->Prop
 | mk {k i:Int} {s:ByteArray} {n:Int} {l:List Int} {d:Fm} {ks:List Cor} (h:k=1->i≠995) (hk:∀x∈ks,N5 x):N5 (.mk k i s n l d ks)
theorem N5.out {c:Cor} (h:N5 c):(c.kind=1->c.id≠995)/\∀x∈c.kids,N5 x:=by cases h;exact ⟨by assumption,by assumption⟩
theorem N5.zero:N5 zC:=.mk (fun h=>by cases h) (by simp)
theorem N5.kid {c:Cor} (h:N5 c) (i:Nat):N5 (c.kids.getD i default):=by
 rw [Qz]
 cases hi:c.kids[i]? with
 | none=>exact N5.zero
 | some x=>exact h.out.2 x (Qd hi)
theorem N5.of:∀(d d':Nat) (sc sc':List Int) (c:Cor),CIs d sc c->CIs d' sc' c->995∉sc->995∈sc'->N5 c
 | 0,_,_,_,_,h,_,_,_=>h.elim
 | _+1,0,_,_,_,_,h,_,_=>h.elim
 | d+1,d'+1,sc,sc',c,h,h',hn,hm=>by
  obtain ⟨_,_,a1,_,_,a2⟩:=h;obtain ⟨_,_,_,b1,_,b2⟩:=h'
  have:=N5.mk (k:=c.kind) (i:=c.id) (s:=c.name) (n:=c.num) (l:=c.ids) (d:=c.data) (ks:=c.kids) (fun hk he=>hn (he▸a1 hk)) (fun x hx=>N5.of d d' _ _ x (a2 x hx) (b2 x hx) (fun hm2=>by
   rcases QR.1 hm2 with h | h
   ·exact hn h
   ·exact (b1 _ h).2.2 hm) (List.mem_append_left _ hm))
  rwa [XD] at this
inductive VR:Val->Val->Prop
 | mk {k n:Int} {s:ByteArray} {l l':List Val} {c:Cor} {e e':List Slt} (hl:LsR VR l l') (hc:k=4->N5 c) (he:EnR VR e e'):VR (.mk k n s l c e) (.mk k n s l' c e')
theorem VR.out {v w:Val} (h:VR v w):w.kind=v.kind/\w.num=v.num/\w.name=v.name/\w.fn=v.fn/\LsR VR v.items w.items/\(v.kind=4->N5 v.fn)/\EnR VR v.env w.env:=by
 cases h with
 | mk hl hc he=>exact ⟨rfl,rfl,rfl,rfl,hl,hc,he⟩
theorem VR.zero:VR zV zV:=.mk .nil (fun h=>by cases h) .nil
theorem VR.num (n:Int):VR (TI n) (TI n):=.mk .nil (fun h=>by cases h) .nil
theorem VR.list {l l':List Val} (h:LsR VR l l'):VR (TC l) (TC l'):=.mk h (fun h=>by cases h) .nil
theorem VR.data:∀f:Fm,VR (DW f) (DW f):=by
 intro f
 induction f using Fm.ind with
 | h f ih =>
  rw [EB];split
  ·exact .num _
  ·split
   ·exact .mk .nil (fun h=>by cases h) .nil
   ·refine .list ?_
    have:∀l:List Fm,(∀x∈l,VR (DW x) (DW x))->LsR VR (l.map DW) (l.map DW):=by
     intro l
     induction l with
     | nil=>intro _;exact .nil
     | cons x l ihl=>intro h;exact .cons (h x (KB ..)) (ihl fun y hy=>h y (Kf _ hy))
    exact this _ ih
theorem LsR.len {R:Val->Val->Prop} {l l':List Val} (h:LsR R l l'):l'.length=l.length:=by
 induction h with
 | nil=>rfl
 | cons _ _ ih=>rw [ZE,ZE,ih]
theorem LsR.get {R:Val->Val->Prop} {l l':List Val} (h:LsR R l l'):∀(i:Nat) (h1:i < l.length) (h2:i < l'.length),R l[i] l'[i]:=by
 induction h with
 | nil=>intro i h1;cases h1
 | cons hv _ ih =>
  intro i h1 h2
  cases i with
  | zero=>exact hv
  | succ i=>exact ih i (by simpa using h1) (by simpa using h2)
theorem LsR.getD {l l':List Val} (h:LsR VR l l') (i:Nat):VR (l.getD i zV) (l'.getD i zV):=by
 have hl:=h.len
 by_cases hi:i < l.length
 ·rw [Qz,Qz,Qf hi,Qf (by omega)];exact h.get i hi (by omega)
 ·rw [Qz,Qz,Q4 (by omega),Q4 (by omega)];exact .zero
theorem LsR.drop {R:Val->Val->Prop} {l l':List Val} (h:LsR R l l'):LsR R (l.drop 1) (l'.drop 1):=by
 cases h with
 | nil=>exact .nil
 | cons _ t=>exact t
theorem LsR.all {l l':List Val} (h:LsR VR l l'):l'.all (fun v=>decide (v.kind=1))=l.all (fun v=>decide (v.kind=1)):=by
 induction h with
 | nil=>rfl
 | cons hv _ ih=>rw [Xr,Xr,ih,hv.out.1]
theorem LsR.sum {l l':List Val} (h:LsR VR l l'):Qpk l'=Qpk l:=by
 have:∀s:Int,l'.foldl (fun s v=>(s+v.num).tmod 1000) s=l.foldl (fun s v=>(s+v.num).tmod 1000) s:=by
  induction h with
  | nil=>intro _;rfl
  | cons hv _ ih=>intro s;rw [List.foldl_cons,List.foldl_cons,ih,hv.out.2.1]
 exact this 0
theorem Qpb (name:ByteArray) {l l':List Val} (h:LsR VR l l'):(CZ name l').2=(CZ name l).2/\VR (CZ name l).1 (CZ name l').1:=by
 obtain ⟨a1,a2,_,_,a3,_⟩:=(h.getD 0).out;obtain ⟨b1,b2,_⟩:=(h.getD 1).out;unfold CZ;rw [h.all,h.sum,h.len,a1,a2,b1,b2,a3.len];split
 ·exact ⟨rfl,.list h⟩
 split
 ·split
  ·exact ⟨rfl,.num _⟩
  ·exact ⟨rfl,.zero⟩
 split
 ·split
  ·exact ⟨rfl,a3.getD 0⟩
  ·exact ⟨rfl,.zero⟩
 split
 ·split
  ·exact ⟨rfl,.list a3.drop⟩
  ·exact ⟨rfl,.zero⟩
 split
 ·split
  ·exact ⟨rfl,.num _⟩
  ·exact ⟨rfl,.num _⟩
 ·exact ⟨rfl,.zero⟩
theorem Qsp {id:Int} (hid:id≠995) {e f:List Slt} (h:EnR VR e f):(e.reverse.find? (fun s=>decide (s.id=id))=none/\f.reverse.find? (fun s=>decide (s.id=id))=none)∨∃s t,e.reverse.find? (fun s=>decide (s.id=id))=some s/\f.reverse.find? (fun s=>decide (s.id=id))=some t/\VR s.val t.val:=by
 induction h with
 | nil=>exact .inl ⟨rfl,rfl⟩
 | @cons i v w e f hv _ ih =>
  rw [Xp,Xp,Xq,Xq]
  rcases ih with ⟨h1,h2⟩ | ⟨s,t,h1,h2,h3⟩
  ·rw [h1,h2]
   by_cases hi:i=id
   ·refine .inr ⟨.mk i v,.mk i w,?_,?_,hv⟩
    ·show ([XB i v].find? (fun s=>decide (s.id=id)))=_
     rw [Xk];show (match decide (i=id) with | true=>_ | false=>_)=_;rw [decide_eq_true hi]
    ·show ([XB i w].find? (fun s=>decide (s.id=id)))=_
     rw [Xk];show (match decide (i=id) with | true=>_ | false=>_)=_;rw [decide_eq_true hi]
   ·refine .inl ⟨?_,?_⟩
    ·show ([XB i v].find? (fun s=>decide (s.id=id)))=_
     rw [Xk];show (match decide (i=id) with | true=>_ | false=>_)=_;rw [decide_eq_false hi];rfl
    ·show ([XB i w].find? (fun s=>decide (s.id=id)))=_
     rw [Xk];show (match decide (i=id) with | true=>_ | false=>_)=_;rw [decide_eq_false hi];rfl
  ·rw [h1,h2];exact .inr ⟨s,t,rfl,rfl,h3⟩
 | @extra w e f _ ih =>
  rw [Xp,Xq]
  have:[XB 995 w].find? (fun s=>decide (s.id=id))=none:=by
   rw [Xk];show (match decide (995=id) with | true=>_ | false=>_)=_;rw [decide_eq_false (fun h=>hid h.symm)];rfl
  rw [this,Option.or_none];exact ih
theorem Qot {id:Int} (hid:id≠995) {e f:List Slt} (h:EnR VR e f):VR (Oe e id) (Oe f id):=by
 unfold Oe
 rcases Qsp hid h with ⟨h1,h2⟩ | ⟨s,t,h1,h2,h3⟩
 ·rw [h1,h2];exact .zero
 ·rw [h1,h2];exact h3
theorem EnR.app {R:Val->Val->Prop} {e f e' f':List Slt} (h:EnR R e f) (h':EnR R e' f'):EnR R (e++e') (f++f'):=by
 induction h with
 | nil=>exact h'
 | cons hv _ ih=>exact .cons hv ih
 | extra _ ih=>exact .extra ih
theorem Ql7 {R:Val->Val->Prop} : ∀(ids:List Int) {l l':List Val},LsR R l l'->EnR R (Cd ids l) (Cd ids l')
 | [],_,_,_=>by rw [Cd.eq_def,Cd.eq_def];exact .nil
 | i :: is,_,_,h=>by
  cases h with
  | nil=>rw [Cd.eq_def];exact .nil
  | cons hv t=>rw [Cd,Cd];exact .cons hv (Ql7 is t)
def ER (a b:Val × Int × Nat):Prop:=b.2=a.2/\VR a.1 b.1
theorem Qbh {E E':Cor->Nat->Val × Int × Nat} : ∀(l:List Cor) (n:Nat),(∀x∈l,∀n,ER (E x n) (E' x n))->(∃x,JS E l n=.inl x/\JS E' l n=.inl x)∨∃vs vs' m,JS E l n=.inr (vs,m)/\JS E' l n=.inr (vs',m)/\LsR VR vs vs'
 | [],n,_=>.inr ⟨[],[],n,by rw [JS],by rw [JS],.nil⟩
 | x :: l,n,h=>by
  obtain ⟨h1,h2⟩:=h x (KB ..) n;rw [JS,JS,h1]
  by_cases he:(E x n).2.1=0
  ·rw [if_pos he,if_pos he]
   rcases Qbh l (E x n).2.2 (fun y hy=>h y (Kf _ hy)) with ⟨y,a,b⟩ | ⟨vs,vs',m,a,b,c⟩
   ·rw [a,b];exact .inl ⟨y,rfl,rfl⟩
   ·rw [a,b];exact .inr ⟨_,_,m,rfl,rfl,.cons h2 c⟩
  ·rw [if_neg he,if_neg he];exact .inl ⟨_,rfl,rfl⟩
theorem Qtu:∀(g:Nat) (c:Cor),N5 c->∀(e f:List Slt),EnR VR e f->∀n,ER (evG g c e n) (evG g c f n):=by
 intro g
 induction g with
 | zero=>intro c _ e f _ n;rw [evG,evG];exact ⟨rfl,.zero⟩
 | succ g ih =>
  intro c hc e f hef n;rw [evG,evG]
  by_cases h0:n=0
  ·rw [if_pos h0,if_pos h0];exact ⟨rfl,.zero⟩
  rw [if_neg h0,if_neg h0]
  by_cases k1:c.kind=1
  ·rw [if_pos k1,if_pos k1];exact ⟨rfl,Qot (hc.out.1 k1) hef⟩
  rw [if_neg k1,if_neg k1]
  by_cases k3:c.kind=3
  ·rw [if_pos k3,if_pos k3];exact ⟨rfl,.num _⟩
  rw [if_neg k3,if_neg k3]
  by_cases k4:c.kind=4
  ·rw [if_pos k4,if_pos k4];exact ⟨rfl,.data _⟩
  rw [if_neg k4,if_neg k4]
  by_cases k5:c.kind=5
  ·rw [if_pos k5,if_pos k5];exact ⟨rfl,.mk .nil (fun _=>hc) hef⟩
  rw [if_neg k5,if_neg k5]
  by_cases k2:c.kind=2
  ·rw [if_pos k2,if_pos k2];split
   ·exact ⟨rfl,.mk .nil (fun h=>by cases h) .nil⟩
   ·exact ⟨rfl,.zero⟩
  rw [if_neg k2,if_neg k2]
  by_cases k7:c.kind=7
  ·rw [if_pos k7,if_pos k7];obtain ⟨h1,h2⟩:=ih _ (hc.kid 0) e f hef (n - 1);generalize evG g (c.kids.getD 0 default) e (n - 1)=E at *;generalize evG g (c.kids.getD 0 default) f (n - 1)=F at *;obtain ⟨v,x⟩:=E;obtain ⟨w,y⟩:=F;simp only at h1;subst h1;simp only at h2 ⊢;rw [h2.out.1,h2.out.2.1]
   by_cases he:y.1=0
   ·rw [if_pos he,if_pos he]
    by_cases hz:v.kind=1/\v.num=0
    ·rw [if_pos hz,if_pos hz];exact ih _ (hc.kid 2) e f hef _
    ·rw [if_neg hz,if_neg hz];exact ih _ (hc.kid 1) e f hef _
   ·rw [if_neg he,if_neg he];exact ⟨rfl,.zero⟩
  rw [if_neg k7,if_neg k7]
  rcases Qbh (E:=fun c n=>evG g c e n) (E':=fun c n=>evG g c f n) c.kids (n - 1) (fun x hx n=>ih x (hc.out.2 x hx) e f hef n) with ⟨x,a,b⟩ | ⟨vs,vs',m,a,b,hvs⟩
  ·rw [a,b];exact ⟨rfl,.zero⟩
  rw [a,b]
  cases hvs with
  | nil=>exact ⟨rfl,.zero⟩
  | @cons v w l l' hv hl =>
   show ER (Ea (evG g) v l m) (Ea (evG g) w l' m);obtain ⟨o1,o2,o3,o4,o5,o6,o7⟩:=hv.out;rw [Ea,Ea,o1,o3,o4,hl.len]
   by_cases f5:v.kind=5
   ·rw [if_pos f5,if_pos f5];obtain ⟨p1,p2⟩:=Qpb v.name hl;exact ⟨by simp only [p1],p2⟩
   rw [if_neg f5,if_neg f5]
   by_cases f4:v.kind=4
   ·rw [if_pos f4,if_pos f4];split
    ·exact ih _ ((o6 f4).kid 0) _ _ (o7.app (Ql7 _ hl)) m
    ·exact ⟨rfl,.zero⟩
   ·rw [if_neg f4,if_neg f4];exact ⟨rfl,.zero⟩
theorem Qvj:∀(d:Nat) (v w:Val),VR v w->VT d w=VT d v
 | 0,_,_,_=>rfl
 | d+1,v,w,h=>by
  obtain ⟨o1,o2,o3,o4,o5,_⟩:=h.out
  have:∀{l l':List Val},LsR VR l l'->l'.map (VT d)=l.map (VT d):=by
   intro l l' hl
   induction hl with
   | nil=>rfl
   | cons hv _ ih=>rw [QH,QH,ih,Qvj d _ _ hv]
  rw [VT,VT,o1,o2,o3,o4,this o5]
theorem Quv:∀(n:Nat) (v:Val),v.nodes<=n->v.Ok->v.sz<=1099511627776->∀w:Val,w.Ok->w.sz<=1099511627776->VR v w->Vt w v=some true:=by
 intro n
 induction n with
 | zero=>intro v hn;rw [Val.Yx] at hn;omega
 | succ n ih =>
  intro v hn hv hs w hw hws h;obtain ⟨o1,o2,o3,o4,o5,_⟩:=h.out;obtain ⟨g0,g1,g2,g3,g4,g5,g6⟩:=hv.out;obtain ⟨q0,q1,q2,q3,q4,q5,q6⟩:=hw.out;have hz:=Val.Gb v;have hzw:=Val.Gb w;have hne:=Val.Yx v;have hl:=o5.len
  have loop:Ye w.items v.items 0 w.items=some (.inr ()):=by
   refine Qg6 (fun i l=>Ye w.items v.items i l) w.items (fun _=>rfl) (fun i hi r=>?_);have m1:=ZK hi
   have hiv:i < v.items.length:=by omega
   have m2:=ZK hiv;have s1:=Gl Val.sz _ _ m1;have s2:=Gl Val.sz _ _ m2;have s3:=Gl Val.nodes _ _ m2;show Ye _ _ _ _=_;rw [Ye,Yd,X5,Yg _ _ hiv,X5,ih _ (by omega) (g5 _ m2) (by omega) _ (q5 _ m1) (by omega) (o5.get i hiv hi),X5];rfl
  rw [Vt];simp only [o1,o2,o3,decide_true,Xj,Yd,X5,if_true];rw [YD,if_pos (by omega),Vk _ _ (by omega),loop];simp only [Yd,X5,if_true,Dp v hv hs,Dp w hw hws,Qvj 40 v w h,decide_true]
def Qs8 (c:Cor):Cor:=KR 6 0 (Qk #[]) 0 [] (KS 0 (Qk #[]) 0 [] []) [KR 5 0 (Qk #[]) 0 [995] (KS 0 (Qk #[]) 0 [] []) [c],KR 3 0 (Qk #[]) 1 [] (KS 0 (Qk #[]) 0 [] []) []]
theorem Qpx (g n:Nat) (c:Cor):evG (g+2) (Qs8 c) [] (n+3)=evG (g+1) c [XB 995 (TI 1)] n:=by
 have h1:evG (g+1) (KR 5 0 (Qk #[]) 0 [995] (KS 0 (Qk #[]) 0 [] []) [c]) [] (n+2)=(KT 4 0 (Qk #[]) [] (KR 5 0 (Qk #[]) 0 [995] (KS 0 (Qk #[]) 0 [] []) [c]) [],0,n+1):=by
  rw [evG,if_neg (by omega),if_neg (by show ¬(5:Int)=1;decide),if_neg (by show ¬(5:Int)=3;decide),if_neg (by show ¬(5:Int)=4;decide),if_pos (by show (5:Int)=5;rfl)];rfl
 have h2:evG (g+1) (KR 3 0 (Qk #[]) 1 [] (KS 0 (Qk #[]) 0 [] []) []) [] (n+1)=(TI 1,0,n):=by
  rw [evG,if_neg (by omega),if_neg (by show ¬(3:Int)=1;decide),if_pos (by show (3:Int)=3;rfl)];rfl
 rw [evG,if_neg (by omega),if_neg (by show ¬(6:Int)=1;decide),if_neg (by show ¬(6:Int)=3;decide),if_neg (by show ¬(6:Int)=4;decide),if_neg (by show ¬(6:Int)=5;decide),if_neg (by show ¬(6:Int)=2;decide),if_neg (by show ¬(6:Int)=7;decide)]
 show (match JS (fun c n=>evG (g+1) c [] n) [KR 5 0 (Qk #[]) 0 [995] (KS 0 (Qk #[]) 0 [] []) [c],KR 3 0 (Qk #[]) 1 [] (KS 0 (Qk #[]) 0 [] []) []] (n+2) with
   | .inl (e,m)=>(zV,e,m)
   | .inr ([],m)=>(zV,0,m)
   | .inr (f :: args,m)=>Ea (evG (g+1)) f args m)=_
 rw [JS,h1,JS];simp only [if_true,h2];rw [JS];rfl
theorem N7 {l:List Int} (h:∀x∈l,0<=x/\x < 256):IT l=some true:=by
 rw [IT];split
 ·rfl
 obtain ⟨⟨c,n⟩,hr,hd,hn,hf⟩:=drawn h;change RJ c at hd;change c.nodes<=256000 at hn;obtain ⟨q1,q2⟩:=N6 hd.b (by omega) n;rw [hr,X5,Eb hd,X5,q1,X5];have hs:=Qpd q2
 cases hE:LL c n with
 | mk v e =>
 rw [hE] at hs;rw [hE] at q2
 by_cases e0:e=0
 rotate_left
 ·simp only [hs,Yd,X5,decide_true,decide_eq_false e0,ZU,ZT,Xn,Xz,Xj,if_true]
 subst e0
 by_cases hn2:n > 2997
 ·simp only [hs,Yd,X5,decide_true,decide_eq_true hn2,Xn,Xj,if_true]
 have hd2:RJ (Qs8 c):=Qnv (by decide) (by simp) (by simp) fun x hx=>by
  rcases Kj.1 hx with rfl | hx
  ·exact Qnv (by decide) (by simp) (by simp) (by simp [hd])
  ·rw [ZG.1 hx];exact Qnv (by decide) (by simp) (by simp) (by simp)
 obtain ⟨b,hb,hbv⟩:=E2 hd2;obtain ⟨w1,w2,w3,m,w4⟩:=evalApp hE 0 (n.toNat+2) (by omega);obtain ⟨hcv,_⟩:=Ts hE (by decide) (by decide);have i1:=Eb hd2 (n+3);have j1:=N6 hd2.b (by rw [Cor.Yx];show 1+((KR 5 0 (Qk #[]) 0 [995] (KS 0 (Qk #[]) 0 [] []) [c]).nodes+((KR 3 0 (Qk #[]) 1 [] (KS 0 (Qk #[]) 0 [] []) []).nodes+0))<=_;rw [Cor.Yx,Cor.Yx];show 1+((1+(c.nodes+0))+((1+0)+0))<=_;omega) (n+3);simp only [Qs8] at hb;simp only [hs,Yd,X5,decide_true,decide_eq_false hn2,ZU,Bool.or_self,Qq,if_false,hb];cases b
 ·simp only [ZT,Yd,X5,if_true,hs,decide_true,Xj]
 have hv:=hbv.1 rfl
 have hn5:N5 c:=by
  obtain ⟨_,_,_,_,_,a⟩:=hv.1;obtain ⟨_,_,_,_,_,a⟩:=a _ (KB ..);exact N5.of _ _ _ _ c hcv.1 (a c (KB ..)) (by simp) (by show (995:Int)∈([]++[])++[995];simp)
 obtain ⟨r1,r2⟩:=Qtu (n.toNat+2) c hn5 [] [XB 995 (TI 1)] (.extra .nil) n.toNat;rw [← Qpx (n.toNat+1) n.toNat c,show n.toNat=n.toNat+0 from rfl,w4] at r1 r2;rw [show n.toNat+0+1+2=(n+3).toNat by omega] at r1 r2;generalize hW:evG (n+3).toNat (Qs8 c) [] (n+3).toNat=W at r1 r2;obtain ⟨w,y⟩:=W;simp only at r1 r2;subst r1;have j2:=Qjy hv (by omega) hW;rw [j2] at i1 j1;simp only [Qs8] at i1;rw [YC (by omega) (by omega)]
 by_cases h2:w.nodes<=2000
 ·rw [if_pos h2] at i1 j1;obtain ⟨v1,v2⟩:=DV.out q2;obtain ⟨u1,u2⟩:=DV.out j1.2;have hsame:=Quv 2000 v q2.2 v1 v2 w u1 u2 r2;simp only [i1,Yd,X5,ZU,Qq,if_false];rw [if_neg (by decide)];simp only [if_true,hsame,Yd,X5]
 ·rw [if_neg h2] at i1;simp only [i1,Yd,X5,ZU,Qq,if_false,if_true]
end Go.Proofs.SA
