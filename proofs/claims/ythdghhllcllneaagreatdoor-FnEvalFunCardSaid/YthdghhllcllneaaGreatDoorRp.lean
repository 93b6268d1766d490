/- Evaluation as a plain function; the reference's evaluation is it. -/
import Derived.Test.YthdghhllcllneaaGreatDoorRm
import Derived.Test.YthdghhllcllneaaGreatDoorFmA
set_option linter.unusedVariables false
set_option linter.unusedSimpArgs false
set_option maxRecDepth 100000
open Go Go.Proofs Go.Proofs.Shadow
open _root_.ByteArray renaming mk → Qk
open _root_.Bool renaming false_eq_true → Qq, not_true → ZS, false_and → Z3, not_false → ZR, true_and → Z0, and_self → Xj, or_false → Xm, and_eq_true → QG, and_false → Xq, or_true → Xt, not_not → Xu
open _root_.List renaming mem_cons_of_mem → Kf, mem_cons_self → KB, drop_eq_getElem_cons → Zw, eq_nil_of_length_eq_zero → Kz, getD_eq_getElem?_getD → Qz, getElem_mem → ZJ, length_cons → ZD, drop_of_length_le → Zx, nil_append → QS, drop_zero → ZZ, mem_append → QR, append_nil → K7, append_assoc → QD, nodup_nil → Xi, mem_singleton → ZF, length_append → QV, length_nil → ZC, take_succ_eq_append_getElem → Xk, mem_cons → Kj, mem_of_find?_eq_some → Xl, length_drop → Xd, reverse_singleton → Xn, take_of_length_le → Xo, singleton_append → Xp, mem_of_mem_drop → QA, map_id → Xr, mem_of_getElem? → Qd, reverse_append → Xs, length → Xv
open _root_.Nat renaming le_refl → Qt, lt_or_ge → KA
open Cor renaming nodes → Xg, mk → KQ
open Fm renaming mk → KR, strip → Xh
open Val renaming mk → KS
open Mch renaming fuel → Xw
namespace Go.Proofs.Shadow
def zC:Cor:=KQ 0 0 (Qk #[]) 0 [] (KR 0 (Qk #[]) 0 [] []) []
def zV:Val:=KS 0 0 (Qk #[]) [] zC []
instance:Inhabited Cor:=⟨zC⟩
instance:Inhabited Val:=⟨zV⟩
def Qeg (n:Int):Val:=KS 1 n (Qk #[]) [] zC []
def Qc3 (l:List Val):Val:=KS 3 0 (Qk #[]) l zC []
def Tn (env:List Slt) (id:Int):Val:=match env.reverse.find? (fun s=>decide (s.id=id)) with | some s=>s.val | none=>zV
mutual
def Mu:Fm->Val
 | .mk k s n _ ks=>if k=2 then Qeg n else if k=1 then KS 2 0 s [] zC [] else Qc3 (Qah ks)
def Qah:List Fm->List Val
 | []=>[]
 | f :: fs=>Mu f :: Qah fs
end
theorem SY:∀l,Qah l=l.map Mu
 | []=>rfl
 | f :: fs=>by rw [Qah,SY fs];rfl
theorem FC (f:Fm):Mu f=if f.kind=2 then Qeg f.num else if f.kind=1 then KS 2 0 f.name [] zC [] else Qc3 (f.kids.map Mu):=by cases f;rw [Mu,SY];rfl
def ND:ByteArray:=Qk #[43]
def Lu:ByteArray:=Qk #[60]
def Qcr:ByteArray:=Qk #[61]
def SQ:ByteArray:=Qk #[108,105,115,116]
def Lt:ByteArray:=Qk #[104,101,97,100]
def Lv:ByteArray:=Qk #[116,97,105,108]
def Pk:List ByteArray:=[ND,Lu,Qcr,SQ,Lt,Lv]
def hasB (l:List ByteArray) (s:ByteArray):Bool:=l.any fun x=>decide (x=s)
def Qsg (args:List Val):Int:=args.foldl (fun s v=>(s+v.num).tmod 1000) 0
def Ff (name:ByteArray) (args:List Val):Val × Int :=
 if name=SQ then (Qc3 args,0)
 else if name=ND then (if args.all (fun v=>decide (v.kind=1))=true then (Qeg (Qsg args),0) else (zV,3))
 else if name=Lt then (if args.length=1/\(args.getD 0 zV).kind=3/\(args.getD 0 zV).items.length≠0 then ((args.getD 0 zV).items.getD 0 zV,0) else (zV,3))
 else if name=Lv then (if args.length=1/\(args.getD 0 zV).kind=3/\(args.getD 0 zV).items.length≠0 then (Qc3 ((args.getD 0 zV).items.drop 1),0) else (zV,3))
 else if args.length=2/\(args.getD 0 zV).kind=1/\(args.getD 1 zV).kind=1 then (if name=Lu/\(args.getD 0 zV).num < (args.getD 1 zV).num∨name=Qcr/\(args.getD 0 zV).num=(args.getD 1 zV).num then (Qeg 1,0) else (Qeg 0,0)) else (zV,3)
def Dy (E:Cor->Nat->Val × Int × Nat):List Cor->Nat->(Int × Nat) ⊕ (List Val × Nat)
 | [],n=>.inr ([],n)
 | c :: cs,n=>if (E c n).2.1=0 then (match Dy E cs (E c n).2.2 with | .inl x=>.inl x | .inr (vs,m)=>.inr ((E c n).1 :: vs,m)) else .inl ((E c n).2.1,(E c n).2.2)
def EZ:List Int->List Val->List Slt
 | i :: is,v :: vs=>.mk i v :: EZ is vs
 | _,_=>[]
def Qgr (E:Cor->List Slt->Nat->Val × Int × Nat) (f:Val) (args:List Val) (n:Nat):Val × Int × Nat :=
 if f.kind=5 then ((Ff f.name args).1,(Ff f.name args).2,n)
 else if f.kind=4 then (if args.length=f.fn.ids.length then E (f.fn.kids.getD 0 default) (f.env++EZ f.fn.ids args) n else (zV,3,n))
 else (zV,2,n)
def evG : Nat -> Cor -> List Slt -> Nat -> Val × Int × Nat
  | 0, _, _, _ => (zV, 4, 0)
  | g + 1, c, env, n =>
    if n = 0 then (zV, 4, 0)
    else if c.kind = 1 then (Tn env c.id, 0, n - 1)
    else if c.kind = 3 then (Qeg c.num, 0, n - 1)
    else if c.kind = 4 then (Mu c.data, 0, n - 1)
    else if c.kind = 5 then (KS 4 0 (Qk #[]) [] c env, 0, n - 1)
    else if c.kind = 2 then (if hasB Pk c.name = true then (KS 5 0 c.name [] zC [], 0, n - 1) else (zV, 1, n - 1))
    else if c.kind = 7 then
      (if (evG g (c.kids.getD 0 default) env (n - 1)).2.1 = 0 then
        (if (evG g (c.kids.getD 0 default) env (n - 1)).1.kind = 1 /\ (evG g (c.kids.getD 0 default) env (n - 1)).1.num = 0 then evG g (c.kids.getD 2 default) env (evG g (c.kids.getD 0 default) env (n - 1)).2.2
         else evG g (c.kids.getD 1 default) env (evG g (c.kids.getD 0 default) env (n - 1)).2.2)
       else (zV, (evG g (c.kids.getD 0 default) env (n - 1)).2.1, (evG g (c.kids.getD 0 default) env (n - 1)).2.2))
    else match Dy (fun c n => evG g c env n) c.kids (n - 1) with
      | .inl (e, m) => (zV, e, m)
      | .inr ([], m) => (zV, 0, m)
      | .inr (f :: args, m) => Qgr (evG g) f args m
mutual
def Val.nodes:Val->Nat
 | .mk _ _ _ l _ e=>1+Val.Ax l+Slt.Ax e
def Val.Ax:List Val->Nat
 | []=>0
 | v :: l=>v.nodes+Val.Ax l
def Slt.nodes:Slt->Nat
 | .mk _ v=>v.nodes
def Slt.Ax:List Slt->Nat
 | []=>0
 | s :: l=>s.nodes+Slt.Ax l
end
theorem Val.Iv:∀l,Val.Ax l=YV Val.nodes l
 | []=>rfl
 | v :: l=>by rw [Val.Ax,YV,Val.Iv l]
theorem Slt.YA (s:Slt):s.nodes=s.val.nodes:=by cases s;rw [Slt.nodes];rfl
theorem Slt.Iv:∀l,Slt.Ax l=YV Slt.nodes l
 | []=>rfl
 | v :: l=>by rw [Slt.Ax,YV,Slt.Iv l]
theorem Val.YA (v:Val):v.nodes=1+YV Val.nodes v.items+YV Slt.nodes v.env:=by cases v;rw [Val.nodes,Val.Iv,Slt.Iv];rfl
end Go.Proofs.Shadow
namespace Go.Proofs.SA
inductive AR:Cor->Prop
 | mk {k i:Int} {s:ByteArray} {n:Int} {l:List Int} {d:Fm} {ks:List Cor} (ha:arity k ks.length) (hs:s.size<=12) (hn:0<=n/\n<=999) (hl:l.length<=999) (hd:FV d∨d=zF) (hk:ks.length<=600) (h:∀x∈ks,AR x):AR (.mk k i s n l d ks)
theorem AR.out {c:Cor} (h:AR c):arity c.kind c.kids.length/\c.name.size<=12/\(0<=c.num/\c.num<=999)/\c.ids.length<=999/\(FV c.data∨c.data=zF)/\c.kids.length<=600/\∀x∈c.kids,AR x:=by
 cases h;exact ⟨by assumption,by assumption,by assumption,by assumption,by assumption,by assumption,by assumption⟩
theorem Qbe:∀(n:Nat) (l:List Int),l.Nodup->(∀i∈l,1<=i/\i<=(n:Int))->l.length<=n
 | 0,[],_,_=>Qt _
 | 0,x :: l,_,h=>by have:=h x (KB ..);omega
 | n+1,l,hn,h=>by
  have h1:=Qbe n (l.erase ((n+1:Nat):Int)) (hn.erase _) (fun i hi=>by
   have hm:=(hn.mem_erase_iff).1 hi;have:=h i hm.2;have:=hm.1
   omega)
  rw [List.length_erase] at h1;split at h1<;>omega
theorem N4 (l:List Int) (h:l.Nodup) (hr:∀i∈l,1<=i/\i<=999):l.length<=999:=Qbe 999 l h hr
theorem EV:∀l:List Cor,l.length<=YV Xg l
 | []=>Qt _
 | c :: l=>by have:=EV l;have:=Cor.YA c;rw [YV,ZD];omega
theorem CIs.ar:∀(d:Nat) (sc:List Int) (c:Cor),CIs d sc c->c.nodes<=600->AR c
 | 0,_,_,h,_=>h.elim
 | d+1,sc,c,h,hn=>by
  obtain ⟨h1,h2,h3,h4,h5,h6⟩:=h;have hne:=Cor.YA c;have hkl:=EV c.kids;obtain ⟨_,f2,f3,f4,_⟩:=h2
  have:=AR.mk (i:=c.id) (d:=c.data) (l:=c.ids) (s:=c.name) (n:=c.num) h1 (by
   by_cases hk:c.kind=2
   ·exact NV.size (f2.1 hk)
   ·rw [f2.2 hk];decide) (by
   by_cases hk:c.kind=3
   ·exact f3.1 hk
   ·rw [f3.2 hk];decide) (N4 _ h5 fun i hi=>⟨(h4 i hi).1,(h4 i hi).2.1⟩) (by
   by_cases hk:c.kind=4
   ·exact .inl (f4.1 hk).1
   ·exact .inr (f4.2 hk)) (by omega) (fun x hx=>CIs.ar d _ x (h6 x hx) (by have:=It Xg c.kids x hx;omega))
  rwa [Cor.eta] at this
theorem CV.ar {c:Cor} (h:CV c):AR c:=CIs.ar _ _ _ h.1 h.2
inductive VI (m:Nat):Val->Prop
 | mk {k n:Int} {s:ByteArray} {l:List Val} {f:Cor} {e:List Slt} (hn:-1000<=n/\n<=1000) (hs:s.size<=12) (hl:l.length<=1000) (hf:(k=4/\AR f/\f.kind=5/\f.nodes<=600)∨(k≠4/\f=zC)) (he:e.length+1000 * (m+1)<=10000000) (h1:∀x∈l,VI m x) (h2:∀x∈e,VI m x.val):VI m (.mk k n s l f e)
theorem VI.out {m:Nat} {v:Val} (h:VI m v):(-1000<=v.num/\v.num<=1000)/\v.name.size<=12/\v.items.length<=1000/\((v.kind=4/\AR v.fn/\v.fn.kind=5/\v.fn.nodes<=600)∨(v.kind≠4/\v.fn=zC))/\v.env.length+1000 * (m+1)<=10000000/\(∀x∈v.items,VI m x)/\∀x∈v.env,VI m x.val:=by
 cases h;exact ⟨by assumption,by assumption,by assumption,by assumption,by assumption,by assumption,by assumption⟩
theorem VI.mono {m n:Nat} (hmn:m<=n):∀v:Val,VI n v->VI m v:=by
 intro v
 induction v using Val.ind with
 | h v ih1 ih2 =>
  intro h;obtain ⟨a1,a2,a3,a4,a5,a6,a7⟩:=h.out;have:=VI.mk (m:=m) a1 a2 a3 a4 (by omega) (fun x hx=>ih1 x hx (a6 x hx)) (fun x hx=>ih2 x hx (a7 x hx));rwa [Val.eta] at this
theorem VI.zero {m:Nat} (hm:m<=3001):VI m zV:=.mk (by decide) (by decide) (by simp) (.inr ⟨by decide,rfl⟩) (by simp;omega) (by simp) (by simp)
theorem VI.num {m:Nat} (hm:m<=3001) {n:Int} (hn:-1000<=n/\n<=1000):VI m (Qeg n):=.mk hn (by decide) (by simp) (.inr ⟨by decide,rfl⟩) (by simp;omega) (by simp) (by simp)
theorem VI.list {m:Nat} (hm:m<=3001) {l:List Val} (hl:l.length<=1000) (h:∀x∈l,VI m x):VI m (Qc3 l):=.mk (by decide) (by decide) hl (.inr ⟨by decide,rfl⟩) (by simp;omega) h (by simp)
theorem VI.data {m:Nat} (hm:m<=3001):∀(d:Nat) (f:Fm),FIs d f->f.nodes<=400->VI m (Mu f)
 | 0,_,h,_=>h.elim
 | d+1,f,h,hn=>by
  have hne:=Fm.YA f;have hl:=WW f.kids;rw [FC]
  rcases h with h | h | h
  ·rw [if_neg (by omega),if_pos h.1];exact .mk (by decide) (NV.size h.2.1) (by simp) (.inr ⟨by decide,rfl⟩) (by simp;omega) (by simp) (by simp)
  ·rw [if_pos h.1];exact VI.num hm (by omega)
  ·rw [if_neg (by omega),if_neg (by omega)];refine VI.list hm (by rw [List.length_map];omega) fun x hx=>?_;obtain ⟨y,hy,rfl⟩:=List.mem_map.1 hx;exact VI.data hm d y (h.2.2.2.2 y hy) (by have:=It Fm.nodes f.kids y hy;omega)
theorem Qje:∀f:Fm,f.sz<=1000000->IG f=some (Mu f):=by
 intro f
 induction f using Fm.ind with
 | h f ih =>
  intro hf;have hz:=Fm.GX f;rw [IG,FC]
  by_cases h2:f.kind=2
  ·rw [if_pos h2,if_pos h2];rfl
  ·rw [if_neg h2,if_neg h2]
   by_cases h1:f.kind=1
   ·rw [if_pos h1,if_pos h1];rfl
   ·rw [if_neg h1,if_neg h1,Na _ _ (by omega),G0 (HO f) Mu (fun _ _=>rfl) f.kids [] 0 (fun x hx z i r hz=>by
     have:=Fm.G2 hx
     rw [HO,Yd,X6,ih x hx (by omega),X6,Yy (by simp;omega),X6]) (by simp;omega)]
    rfl
theorem Qjk (env:List Slt) (id:Int) (h:env.length<=1000000000):B0 env id=some (Tn env id):=by
 have key:∀(n:Nat),n<=env.length->GD env id ((n:Int) - 1)=some (match (env.take n).reverse.find? (fun s=>decide (s.id=id)) with | some s=>.inl s.val | none=>.inr ()):=by
  intro n
  induction n with
  | zero=>intro _;rw [GD,if_neg (by omega)];rfl
  | succ n ih =>
   intro hn
   have hl:n < env.length:=by omega
   rw [GD,if_pos (by omega),show ((n+1:Nat):Int) - 1=(n:Int) by omega,Yf env n hl,X6,Xk hl,Xs,Xn,Xp,List.find?_cons]
   by_cases hid:env[n].id=id
   ·rw [if_pos hid,X6,decide_eq_true hid];rfl
   ·rw [if_neg hid,decide_eq_false hid,Yz (by omega) (by omega),ih (by omega)]
 rw [B0,Yz (by omega) (by omega),key env.length (Qt _),List.take_length,X6,Tn];cases env.reverse.find? (fun s=>decide (s.id=id))<;>rfl
theorem Qj8 {m:Nat} (hm:m<=3001) {env:List Slt} (h:∀x∈env,VI m x.val) (id:Int):VI m (Tn env id):=by
 unfold Tn
 cases hf:env.reverse.find? (fun s=>decide (s.id=id)) with
 | none=>exact VI.zero hm
 | some s=>exact h s (List.mem_reverse.1 (Xl hf))
theorem Qrm (l:List ByteArray) (s:ByteArray) (h:l.length<=1000000):Eb l s=some (hasB l s):=by
 rw [Eb,Po _ _ (by omega),Da (IK l s) (fun x=>decide (x=s)) true (fun _=>rfl) l 0 (fun x hx i r=>by
  rw [IK,Yd,X6];by_cases hx:x=s<;>simp [hx,Yd]),X6]
 unfold hasB;cases (l.any fun x=>decide (x=s))<;>rfl
theorem Mf (a:Int):-999<=a.tmod 1000/\a.tmod 1000<=999:=by
 have h1:=Int.tmod_lt_of_pos a (show (0:Int) < 1000 by decide);have h2:=Int.lt_tmod_of_pos a (show (0:Int) < 1000 by decide);omega
theorem Qdq (args:List Val):-999<=Qsg args/\Qsg args<=999:=by
 unfold Qsg
 have:∀(l:List Val) (s:Int),-999<=s/\s<=999->-999<=l.foldl (fun s v=>(s+v.num).tmod 1000) s/\l.foldl (fun s v=>(s+v.num).tmod 1000) s<=999:=by
  intro l
  induction l with
  | nil=>intro s h;exact h
  | cons v l ih=>intro s h;exact ih _ (Mf _)
 exact this args 0 (by decide)
theorem Qou {m:Nat} (args:List Val) (h:args.length<=1000) (hv:∀x∈args,VI m x):CZ args=some (if args.all (fun v=>decide (v.kind=1))=true then (Qeg (Qsg args),0) else (zV,3)):=by
 have key:∀(r:List Val) (i:Nat) (s:Int),(∀x∈r,VI m x)->-999<=s/\s<=999->Is args s i r=some (if r.all (fun v=>decide (v.kind=1))=true then .inr (r.foldl (fun s v=>(s+v.num).tmod 1000) s) else .inl (zV,3)):=by
  intro r
  induction r with
  | nil=>intro i s _ _;rfl
  | cons v r ih =>
   intro i s hr hs;have hvv:=(hr v (KB ..)).out.1;rw [Is,Yd,X6,List.all_cons]
   by_cases hk:v.kind=1
   ·rw [if_pos hk,X6,Yz (by omega) (by omega),ih (i+1) _ (fun x hx=>hr x (Kf _ hx)) (Mf _),decide_eq_true hk,Z0];rfl
   ·rw [if_neg hk,decide_eq_false hk,Z3];rfl
 rw [CZ,OB _ _ (by omega),key args 0 0 hv (by decide),X6]
 by_cases h:args.all (fun v=>decide (v.kind=1))=true
 ·rw [if_pos h,if_pos h];rfl
 ·rw [if_neg h,if_neg h];rfl
theorem Qkc {m:Nat} (hm:m<=3001) (name:ByteArray) (args:List Val) (h:args.length<=1000) (hv:∀x∈args,VI m x):B1 name args=some (Ff name args)/\VI m (Ff name args).1:=by
 rw [B1,Ff]
 by_cases h1:name=SQ
 ·have h1':=h1;unfold SQ at h1';rw [if_pos h1',if_pos h1,Yy (by simp;omega),X6];exact ⟨rfl,VI.list hm h hv⟩
 have h1':=h1;unfold SQ at h1';rw [if_neg h1',if_neg h1]
 by_cases h2:name=ND
 ·have h2':=h2;unfold ND at h2';rw [if_pos h2',if_pos h2,Qou args h hv,X6];refine ⟨rfl,?_⟩;split
  ·have:=Qdq args;exact VI.num hm (by omega)
  ·exact VI.zero hm
 have h2':=h2;unfold ND at h2';rw [if_neg h2',if_neg h2]
 have e1:∀(k:Int),((if (args.length:Int)=1 then (idx args 0>>=fun x28=>some (!decide (x28.kind=k))) else some true:Option Bool))=some (!decide (args.length=1/\(args.getD 0 zV).kind=k)):=fun k=>by
  by_cases hl:args.length=1
  ·have h0:0 < args.length:=by omega
   rw [if_pos (by omega),show idx args 0=some args[0] from Yf args 0 h0,X6,Vq h0]
   by_cases hk:args[0].kind=k
   ·rw [decide_eq_true hk,decide_eq_true ⟨hl,hk⟩]
   ·rw [decide_eq_false hk,decide_eq_false (fun h=>hk h.2)]
  ·rw [if_neg (by omega),decide_eq_false (fun h=>hl h.1)];rfl
 have e2:((if (args.length:Int)=2 then (idx args 0>>=fun x28=>some (!decide (x28.kind=1))) else some true:Option Bool))=some (!decide (args.length=2/\(args.getD 0 zV).kind=1)):=by
  by_cases hl:args.length=2
  ·have h0:0 < args.length:=by omega
   rw [if_pos (by omega),show idx args 0=some args[0] from Yf args 0 h0,X6,Vq h0]
   by_cases hk:args[0].kind=1
   ·rw [decide_eq_true hk,decide_eq_true ⟨hl,hk⟩]
   ·rw [decide_eq_false hk,decide_eq_false (fun h=>hk h.2)]
  ·rw [if_neg (by omega),decide_eq_false (fun h=>hl h.1)];rfl
 by_cases h3:name=Lt
 ·have h3':=h3;unfold Lt at h3';rw [if_pos h3];simp only [h3',if_true,decide_true,Yd,X6,e1]
  by_cases hc:args.length=1/\(args.getD 0 zV).kind=3
  rotate_left
  ·rw [decide_eq_false hc,if_neg (show ¬(args.length=1/\(args.getD 0 zV).kind=3/\(args.getD 0 zV).items.length≠0) from fun h=>hc ⟨h.1,h.2.1⟩)];simp only [ZR,if_true,X6];exact ⟨rfl,VI.zero hm⟩
  have h0:0 < args.length:=by omega
  have hvv:=(hv _ (ZJ h0)).out;rw [decide_eq_true hc];obtain ⟨hc1,hc2⟩:=hc;simp only [Vq h0] at hc2 ⊢;simp only [ZS,Qq,if_false,show idx args 0=some args[0] from Yf args 0 h0,X6]
  by_cases hi:args[0].items.length=0
  ·rw [decide_eq_true (show (args[0].items.length:Int)=0 by omega),if_neg (show ¬(args.length=1/\args[0].kind=3/\args[0].items.length≠0) from fun h=>h.2.2 hi)];exact ⟨rfl,VI.zero hm⟩
  ·have hi0:0 < args[0].items.length:=by omega
   rw [decide_eq_false (show ¬(args[0].items.length:Int)=0 by omega),if_pos (show (args.length=1/\args[0].kind=3/\args[0].items.length≠0) from ⟨hc1,hc2,hi⟩),show idx args[0].items 0=some args[0].items[0] from Yf _ 0 hi0,Vq hi0];exact ⟨rfl,hvv.2.2.2.2.2.1 _ (ZJ hi0)⟩
 have h3':=h3;unfold Lt at h3'
 by_cases h4:name=Lv
 ·have h4':=h4;unfold Lv at h4';rw [if_neg h3,if_pos h4]
  have e7:¬(Qk #[116,97,105,108]=Qk #[104,101,97,100]):=by decide
  simp only [h4',e7,if_false,if_true,decide_true,Yd,X6,e1]
  by_cases hc:args.length=1/\(args.getD 0 zV).kind=3
  rotate_left
  ·rw [decide_eq_false hc,if_neg (show ¬(args.length=1/\(args.getD 0 zV).kind=3/\(args.getD 0 zV).items.length≠0) from fun h=>hc ⟨h.1,h.2.1⟩)];simp only [ZR,if_true,X6];exact ⟨rfl,VI.zero hm⟩
  have h0:0 < args.length:=by omega
  have hvv:=(hv _ (ZJ h0)).out;rw [decide_eq_true hc];obtain ⟨hc1,hc2⟩:=hc;simp only [Vq h0] at hc2 ⊢;simp only [ZS,Qq,if_false,show idx args 0=some args[0] from Yf args 0 h0,X6]
  by_cases hi:args[0].items.length=0
  ·rw [decide_eq_true (show (args[0].items.length:Int)=0 by omega),if_neg (show ¬(args.length=1/\args[0].kind=3/\args[0].items.length≠0) from fun h=>h.2.2 hi)];exact ⟨rfl,VI.zero hm⟩
  ·have e6:EN args[0].items 1 (args[0].items.length:Int)=some (args[0].items.drop 1):=by
    unfold EN;rw [if_pos ⟨by omega,by omega,by omega⟩]
    congr 1
    exact Xo (by rw [Xd];omega)
   rw [decide_eq_false (show ¬(args[0].items.length:Int)=0 by omega),if_pos (show (args.length=1/\args[0].kind=3/\args[0].items.length≠0) from ⟨hc1,hc2,hi⟩),e6];exact ⟨rfl,VI.list hm (by rw [Xd];have:=hvv.2.2.1;omega) fun y hy=>hvv.2.2.2.2.2.1 y (QA hy)⟩
 have h4':=h4;unfold Lv at h4';rw [if_neg h3,if_neg h4];simp only [h3',h4',if_false,decide_false,Qq,Yd,X6,e2]
 by_cases hc:args.length=2/\(args.getD 0 zV).kind=1
 rotate_left
 ·rw [decide_eq_false hc,if_neg (show ¬(args.length=2/\(args.getD 0 zV).kind=1/\(args.getD 1 zV).kind=1) from fun h=>hc ⟨h.1,h.2.1⟩)];simp only [ZR,if_true,X6];exact ⟨rfl,VI.zero hm⟩
 rw [decide_eq_true hc]
 have h0:0 < args.length:=by omega
 have h11:1 < args.length:=by omega
 obtain ⟨hc1,hc2⟩:=hc;simp only [Vq h0,Vq h11] at hc2 ⊢;simp only [ZS,Qq,if_false,show idx args 0=some args[0] from Yf args 0 h0,show idx args 1=some args[1] from Yf args 1 h11,X6]
 by_cases hk:args[1].kind=1
 rotate_left
 ·rw [decide_eq_false hk,if_neg (show ¬(args.length=2/\args[0].kind=1/\args[1].kind=1) from fun h=>hk h.2.2)];exact ⟨rfl,VI.zero hm⟩
 rw [decide_eq_true hk,if_pos (show (args.length=2/\args[0].kind=1/\args[1].kind=1) from ⟨hc1,hc2,hk⟩)];simp only [ZS,Qq,if_false];constructor
 ·unfold Lu Qcr
  by_cases n1:name=Qk #[60]
  ·have n2:¬name=Qk #[61]:=by rw [n1];decide
   by_cases c1:args[0].num < args[1].num
   ·rw [if_pos (show (name=Qk #[60]/\args[0].num < args[1].num∨name=Qk #[61]/\args[0].num=args[1].num) from .inl ⟨n1,c1⟩),if_pos n1,decide_eq_true c1];rfl
   ·rw [if_neg (show ¬(name=Qk #[60]/\args[0].num < args[1].num∨name=Qk #[61]/\args[0].num=args[1].num) from fun h=>h.elim (fun h=>c1 h.2) (fun h=>n2 h.1)),if_pos n1,decide_eq_false c1];simp only [X6,Qq,if_false,n2];rfl
  ·by_cases n3:name=Qk #[61]
   ·by_cases c1:args[0].num=args[1].num
    ·rw [if_pos (show (name=Qk #[60]/\args[0].num < args[1].num∨name=Qk #[61]/\args[0].num=args[1].num) from .inr ⟨n3,c1⟩),if_neg n1];simp only [X6,Qq,if_false];rw [if_pos n3,decide_eq_true c1];rfl
    ·rw [if_neg (show ¬(name=Qk #[60]/\args[0].num < args[1].num∨name=Qk #[61]/\args[0].num=args[1].num) from fun h=>h.elim (fun h=>n1 h.1) (fun h=>c1 h.2)),if_neg n1];simp only [X6,Qq,if_false];rw [if_pos n3,decide_eq_false c1];rfl
   ·rw [if_neg (show ¬(name=Qk #[60]/\args[0].num < args[1].num∨name=Qk #[61]/\args[0].num=args[1].num) from fun h=>h.elim (fun h=>n1 h.1) (fun h=>n3 h.1)),if_neg n1];simp only [X6,Qq,if_false];rw [if_neg n3];rfl
 ·split
  ·exact VI.num hm (by decide)
  ·exact VI.num hm (by decide)
end Go.Proofs.SA
open Go.IntKind (i64)
namespace Go.Proofs.SA
theorem NF:∀(is:List Int) (vs:List Val),is.length=vs.length->(EZ is vs).length=vs.length
 | [],[],_=>rfl
 | i :: is,v :: vs,h=>by rw [EZ,ZD,NF is vs (by simpa using h)];rfl
theorem Fz:∀(is:List Int) (vs:List Val),∀s∈EZ is vs,s.val∈vs
 | [],_,s,h=>by cases h
 | i :: is,[],s,h=>by cases h
 | i :: is,v :: vs,s,h=>by
  rw [EZ] at h
  rcases Kj.1 h with rfl | h
  ·exact KB ..
  ·exact Kf _ (Fz is vs s h)
theorem Qja (f:Val) (args:List Val) (m:Int) (hl:args.length=f.fn.ids.length) (h1:args.length<=1000) (h2:f.env.length<=10000000):WL f args m f.env 0=some (f.env++EZ f.fn.ids args):=by
 rw [M7 _ _ _ _ (by omega)]
 have key:∀(r:List Val) (i:Nat) (z:List Slt),args.drop i=r->z.length+r.length<=20000000->GV f args m z i r=some (z++EZ (f.fn.ids.drop i) r):=by
  intro r
  induction r with
  | nil =>
   intro i z hd _
   have:args.length<=i:=by
    rcases KA i args.length with h | h
    ·rw [Zw h] at hd;cases hd
    ·exact h
   rw [GV,Zx (by omega)];simp [Yd,EZ]
  | cons v r ih =>
   intro i z hd hz;simp only [ZD] at hz
   have hi:i < args.length:=by
    rcases KA i args.length with h | h
    ·exact h
    ·rw [Zx h] at hd;cases hd
   have hd2:args.drop (i+1)=r:=by rw [← List.drop_drop,hd];rfl
   rw [GV,Yf _ i (by omega),X6,Yd,X6,Yy (by simp;omega),X6,ih (i+1) _ hd2 (by simp;omega),Zw (show i < f.fn.ids.length by omega),EZ,QD];rfl
 exact key args 0 f.env (ZZ ..) (by omega)
def Qpq (n:Nat) (o:Option (Val × Int × Int)) (e:Val × Int × Nat):Prop:=o=some (e.1,e.2.1,(e.2.2:Int))/\VI e.2.2 e.1/\e.2.2<=n/\(0 < n->e.2.2 < n)
theorem evz {n k:Nat} {e:Int} (hk:k<=3001) (h1:k<=n) (h2:0 < n->k < n):Qpq n (some (zV,e,(k:Int))) (zV,e,k):=⟨rfl,VI.zero hk,h1,h2⟩
theorem evv {n k:Nat} {e:Int} {v:Val} (hv:VI k v) (h1:k<=n) (h2:0 < n->k < n):Qpq n (some (v,e,(k:Int))) (v,e,k):=⟨rfl,hv,h1,h2⟩
theorem EM {c:Cor} (h:AR c) (hn:c.nodes<=600) {x:Cor} (hx:x∈c.kids):AR x/\x.nodes<=600:=by
 have:=Cor.YA c;have:=It Xg c.kids x hx;exact ⟨h.out.2.2.2.2.2.2 x hx,by omega⟩
theorem Lx:∀(g:Nat),g<=3001->∀(n:Nat),n<=g->∀(c:Cor),AR c->c.nodes<=600->∀env:List Slt,(∀s∈env,VI n s.val)->env.length+1000 * n<=10000000->Qpq n (VO c env (n:Int)) (evG g c env n):=by
 intro g
 induction g with
 | zero =>
  intro _ n hn c _ _ env _ _
  obtain rfl:n=0:=by omega
  rw [VO,if_pos (by rfl),evG];exact evz (by omega) (by omega) (fun h=>by omega)
 | succ g ih =>
  intro hg n hn c hc hcn env henv hel;have ihg:=ih (by omega);rw [VO,evG]
  by_cases h0:n=0
  ·subst h0;rw [if_pos (by rfl),if_pos rfl];exact evz (k:=0) (by decide) (Qt _) (fun h=>by omega)
  rw [if_neg (show ¬(n:Int)=0 by omega),if_neg h0,show i64.wrap ((n:Int) - 1)=((n - 1:Nat):Int) by rw [Yz (by omega) (by omega)];omega];obtain ⟨c1,c2,c3,c4,c5,c6,c7⟩:=hc.out;have henv':∀s∈env,VI (n - 1) s.val:=fun s hs=>VI.mono (by omega) _ (henv s hs);have fin:∀{v:Val} {e:Int},VI (n - 1) v->Qpq n (some (v,e,((n - 1:Nat):Int))) (v,e,n - 1):=fun h=>⟨rfl,h,by show n - 1<=n;omega,fun _=>by show n - 1 < n;omega⟩
  by_cases k1:c.kind=1
  ·rw [if_pos k1,if_pos k1,Qjk _ _ (by omega),X6];exact fin (Qj8 (by omega) henv' _)
  by_cases k3:c.kind=3
  ·rw [if_neg k1,if_pos k3,if_neg k1,if_pos k3];exact fin (VI.num (by omega) (by omega))
  by_cases k4:c.kind=4
  ·rw [if_neg k1,if_neg k3,if_pos k4,if_neg k1,if_neg k3,if_pos k4]
   have hdz:c.data.sz<=1000000:=by
    rcases c5 with h | h
    ·have:=h.sz;omega
    ·rw [h];decide
   rw [Qje _ hdz,X6];refine fin ?_
   rcases c5 with h | h
   ·exact VI.data (by omega) 40 _ h.1 h.2
   ·rw [h];rw [FC];exact VI.list (by omega) (by decide) (fun x hx=>by cases hx)
  by_cases k5:c.kind=5
  ·rw [if_neg k1,if_neg k3,if_neg k4,if_pos k5,if_neg k1,if_neg k3,if_neg k4,if_pos k5];exact fin (.mk (by decide) (by decide) (by simp) (.inl ⟨rfl,hc,k5,hcn⟩) (by omega) (by simp) henv')
  by_cases k2:c.kind=2
  ·rw [if_neg k1,if_neg k3,if_neg k4,if_neg k5,if_pos k2,if_neg k1,if_neg k3,if_neg k4,if_neg k5,if_pos k2];rw [show Co=some Pk from rfl,X6,Qrm _ _ (by decide),X6]
   by_cases hb:hasB Pk c.name=true
   ·rw [if_pos hb,if_pos hb];exact fin (.mk (by decide) c2 (by simp) (.inr ⟨by decide,rfl⟩) (by simp;omega) (by simp) (by simp))
   ·rw [if_neg hb,if_neg hb];exact fin (VI.zero (by omega))
  by_cases k7:c.kind=7
  ·rw [if_neg k1,if_neg k3,if_neg k4,if_neg k5,if_neg k2,if_pos k7,if_neg k1,if_neg k3,if_neg k4,if_neg k5,if_neg k2,if_pos k7]
   have hl:c.kids.length=3:=by rcases c1 with h | h | h | h<;>omega
   have l0:0 < c.kids.length:=by omega
   have l1:1 < c.kids.length:=by omega
   have l2:2 < c.kids.length:=by omega
   rw [show idx c.kids 0=some c.kids[0] from Yf _ 0 l0,X6,Vq l0,Vq l1,Vq l2];have q0:=EM hc hcn (ZJ l0);have q1:=EM hc hcn (ZJ l1);have q2:=EM hc hcn (ZJ l2);obtain ⟨r1,r2,r3,r4⟩:=ihg (n - 1) (by omega) c.kids[0] q0.1 q0.2 env henv' (by omega);rw [r1,X6];generalize evG g c.kids[0] env (n - 1)=e at r1 r2 r3 r4
   simp only
   by_cases he:e.2.1=0
   rotate_left
   ·rw [if_neg he,if_neg he];exact evz (by omega) (by omega) (fun _=>by omega)
   rw [if_pos he,if_pos he]
   have sub:∀(k:Cor),AR k/\k.nodes<=600->Qpq n (VO k env (e.2.2:Int)>>=fun x=>pure (x.1,x.2.1,x.2.2)) (evG g k env e.2.2):=fun k hk=>by
    obtain ⟨s1,s2,s3,s4⟩:=ihg e.2.2 (by omega) k hk.1 hk.2 env (fun s hs=>VI.mono (by omega) _ (henv s hs)) (by omega);rw [s1,X6];exact ⟨rfl,s2,by omega,fun _=>by omega⟩
   by_cases hz:e.1.kind=1/\e.1.num=0
   ·rw [decide_eq_true hz.1,decide_eq_true hz.2,if_pos hz];simp only [Xj,Yd,X6,if_true,show idx c.kids 2=some c.kids[2] from Yf _ 2 l2];exact sub _ q2
   ·have hb:(decide (e.1.kind=1)&&decide (e.1.num=0))=false:=by
     by_cases ha:e.1.kind=1
     ·rw [decide_eq_false (fun h=>hz ⟨ha,h⟩),Xq]
     ·rw [decide_eq_false ha,Z3]
    rw [hb,if_neg hz];simp only [Yd,X6,Qq,if_false,show idx c.kids 1=some c.kids[1] from Yf _ 1 l1];exact sub _ q1
  rw [if_neg k1,if_neg k3,if_neg k4,if_neg k5,if_neg k2,if_neg k7,if_neg k1,if_neg k3,if_neg k4,if_neg k5,if_neg k2,if_neg k7]
  have hl:1<=c.kids.length:=by rcases c1 with h | h | h | h<;>omega
  rw [Nb _ _ _ _ (by omega)]
  have loop:∀(r:List Cor) (i:Nat) (z:List Val) (m:Nat),(∀x∈r,x∈c.kids)->m<=n - 1->z.length+r.length<=1000->(∀v∈z,VI m v) ->
    match Dy (fun c n=>evG g c env n) r m with
    | .inl (e,k)=>JJ c env z (m:Int) i r=some (.inl (zV,e,(k:Int)))/\k<=m
    | .inr (vs,k)=>JJ c env z (m:Int) i r=some (.inr (z++vs,(k:Int)))/\k<=m/\(∀v∈z++vs,VI k v)/\vs.length=r.length:=by
   intro r
   induction r with
   | nil=>intro i z m _ _ _ hz;rw [Dy];exact ⟨by rw [JJ,Yd,K7],Qt _,by simpa using hz,rfl⟩
   | cons k r ihr =>
    intro i z m hr hm hz hzv;simp only [ZD] at hz;have hk:=EM hc hcn (hr k (KB ..));obtain ⟨r1,r2,r3,r4⟩:=ihg m (by omega) k hk.1 hk.2 env (fun s hs=>VI.mono (by omega) _ (henv s hs)) (by omega);rw [Dy,JJ,Yd,X6,r1,X6];generalize evG g k env m=e at r1 r2 r3 r4
    simp only
    by_cases he:e.2.1=0
    rotate_left
    ·rw [if_neg he,if_neg he];exact ⟨rfl,r3⟩
    rw [if_pos he,if_pos he,Yy (by simp;omega),X6]
    have hnext:=ihr (i+1) (z++[e.1]) e.2.2 (fun x hx=>hr x (Kf _ hx)) (by omega) (by simp;omega) (fun v hv=>by
     rcases QR.1 hv with hv | hv
     ·exact VI.mono r3 _ (hzv v hv)
     ·rw [ZF.1 hv];exact r2)
    cases hE:Dy (fun c n=>evG g c env n) r e.2.2 with
    | inl x =>
     rw [hE] at hnext;exact ⟨hnext.1,by have:=hnext.2;omega⟩
    | inr x =>
     obtain ⟨vs,kk⟩:=x;rw [hE] at hnext;obtain ⟨t1,t2,t3,t4⟩:=hnext;refine ⟨?_,by omega,?_,by simp [t4]⟩
     ·rw [t1,QD];rfl
     ·rw [QD] at t3;exact t3
  have hloop:=loop c.kids 0 [] (n - 1) (fun _ h=>h) (Qt _) (by simp;omega) (by simp)
  cases hE:Dy (fun c n=>evG g c env n) c.kids (n - 1) with
  | inl x =>
   obtain ⟨e,k⟩:=x;rw [hE] at hloop;rw [hloop.1,X6];have:=hloop.2;exact evz (by omega) (by omega) (fun _=>by omega)
  | inr x =>
   obtain ⟨vs,m⟩:=x;rw [hE] at hloop;obtain ⟨t1,t2,t3,t4⟩:=hloop;rw [QS] at t1 t3;rw [t1,X6]
   cases vs with
   | nil=>simp at t4;omega
   | cons f args =>
    have hf:=t3 f (KB ..);have ha:∀v∈args,VI m v:=fun v hv=>t3 v (Kf _ hv)
    have hal:args.length<=600:=by simp at t4;omega
    have hsub:EN (f :: args) 1 ((f :: args).length:Int)=some args:=by
     unfold EN;rw [if_pos ⟨by omega,by simp;omega,by omega⟩]
     simp
    simp only [show idx (f :: args) 0=some f from rfl,X6,hsub];obtain ⟨f1,f2,f3,f4,f5,f6,f7⟩:=hf.out;rw [Ds,Qgr]
    by_cases h5:f.kind=5
    ·rw [if_pos h5,if_pos h5];obtain ⟨p1,p2⟩:=Qkc (m:=m) (by omega) f.name args (by omega) ha;rw [p1,X6];exact evv p2 (by omega) (fun _=>by omega)
    rw [if_neg h5,if_neg h5]
    by_cases h4:f.kind=4
    rotate_left
    ·rw [if_neg h4,if_neg h4];exact evz (by omega) (by omega) (fun _=>by omega)
    rw [if_pos h4,if_pos h4]
    by_cases hal2:args.length=f.fn.ids.length
    rotate_left
    ·rw [if_neg (show ¬(args.length:Int)=(f.fn.ids.length:Int) by omega),if_neg hal2];exact evz (by omega) (by omega) (fun _=>by omega)
    rw [if_pos (show (args.length:Int)=(f.fn.ids.length:Int) by omega),if_pos hal2]
    have hfn:AR f.fn/\f.fn.kind=5/\f.fn.nodes<=600:=by
     rcases f4 with h | h
     ·exact h.2
     ·exact absurd h4 h.1
    have hk0:0 < f.fn.kids.length:=by
     have:=hfn.1.out.1
     rcases this with h | h | h | h<;>omega
    have hkid:=EM hfn.1 hfn.2.2 (ZJ hk0);rw [Yy (by simp;omega),X6,QS,Qja f args _ hal2 (by omega) (by omega),X6,show idx f.fn.kids 0=some f.fn.kids[0] from Yf _ 0 hk0,X6,Vq hk0];have hbl:=NF f.fn.ids args hal2.symm
    obtain ⟨s1,s2,s3,s4⟩:=ihg m (by omega) f.fn.kids[0] hkid.1 hkid.2 (f.env++EZ f.fn.ids args) (fun s hs=>by
     rcases QR.1 hs with hs | hs
     ·exact f7 s hs
     ·exact ha _ (Fz _ _ s hs)) (by rw [QV,hbl];omega)
    rw [s1];exact ⟨rfl,s2,by omega,fun _=>by omega⟩
theorem Qdm {m:Nat} : ∀(v:Val),VI m v->∀(most:Nat),most<=2000->Tot (H6 v (most:Int)) fun r=>∃k:Nat,r=(k:Int)/\1<=k/\k<=most+1/\(k<=most->k=v.nodes)/\(v.nodes<=most->k=v.nodes):=by
 intro v
 induction v using Val.ind with
 | h v ih1 ih2 =>
  intro hv most hmost;obtain ⟨a1,a2,a3,a4,a5,a6,a7⟩:=hv.out;have hne:=Val.YA v
  have pos:∀w:Val,1<=w.nodes:=fun w=>by rw [Val.YA];omega
  have step:∀(n k:Nat) (w:Val),n<=most->1<=k->k<=most - n+1->((i64.wrap ((n:Int)+(k:Int)))=((n+k:Nat):Int)):=fun n k w h1 h2 h3=>by rw [Yz (by omega) (by omega)];omega
  have lp0:∀(d i n:Nat),i+d=v.items.length->1<=n->n<=most+1->Tot (Hs v (most:Int) (n:Int) (i:Int)) fun r=>∃k:Nat,r=(k:Int)/\n<=k/\k<=most+1/\(k<=most->k=n+YV Val.nodes (v.items.drop i))/\(n+YV Val.nodes (v.items.drop i)<=most->k=n+YV Val.nodes (v.items.drop i)):=by
   intro d
   induction d with
   | zero =>
    intro i n hi h1 h2;rw [Hs,Yd,X6,decide_eq_false (show ¬(i:Int) < (v.items.length:Int) by omega)];simp only [Z3,Qq,if_false];rw [show i=v.items.length by omega,List.drop_length];exact ⟨_,rfl,n,rfl,Qt _,h2,fun _=>by simp [YV],fun _=>by simp [YV]⟩
   | succ d ihd =>
    intro i n hi h1 h2
    have hil:i < v.items.length:=by omega
    have hm:=ZJ hil;rw [Hs,Yd,X6,decide_eq_true (show (i:Int) < (v.items.length:Int) by omega),Z0,Zw hil,YV];have hp:=pos v.items[i]
    by_cases hn:n<=most
    ·rw [decide_eq_true (show (n:Int)<=(most:Int) by omega)];simp only [if_true,Yf _ i hil,X6];rw [show i64.wrap ((most:Int) - (n:Int))=((most - n:Nat):Int) by rw [Yz (by omega) (by omega)];omega];obtain ⟨r,hr,k,rfl,q1,q2,q3,q4⟩:=ih1 _ hm (a6 _ hm) (most - n) (by omega);rw [hr,X6,step n k v.items[i] hn q1 q2,Wn (i:=i) (by omega)];obtain ⟨r2,hr2,k2,rfl,u1,u2,u3,u4⟩:=ihd (i+1) (n+k) (by omega) (by omega) (by omega);refine ⟨_,hr2,k2,rfl,by omega,u2,fun h=>?_,fun h=>?_⟩
     ·have:=q3 (by omega);have:=u3 h;omega
     ·have:=q4 (by omega);have:=u4 (by omega);omega
    ·rw [decide_eq_false (show ¬(n:Int)<=(most:Int) by omega)];simp only [Qq,if_false];exact ⟨_,rfl,n,rfl,Qt _,h2,fun h=>by omega,fun h=>by omega⟩
  have lp1:∀(d i n:Nat),i+d=v.env.length->1<=n->n<=most+1->Tot (Ht v (most:Int) (n:Int) (i:Int)) fun r=>∃k:Nat,r=(k:Int)/\n<=k/\k<=most+1/\(k<=most->k=n+YV Slt.nodes (v.env.drop i))/\(n+YV Slt.nodes (v.env.drop i)<=most->k=n+YV Slt.nodes (v.env.drop i)):=by
   intro d
   induction d with
   | zero =>
    intro i n hi h1 h2;rw [Ht,Yd,X6,decide_eq_false (show ¬(i:Int) < (v.env.length:Int) by omega)];simp only [Z3,Qq,if_false];rw [show i=v.env.length by omega,List.drop_length];exact ⟨_,rfl,n,rfl,Qt _,h2,fun _=>by simp [YV],fun _=>by simp [YV]⟩
   | succ d ihd =>
    intro i n hi h1 h2
    have hil:i < v.env.length:=by omega
    have hm:=ZJ hil;rw [Ht,Yd,X6,decide_eq_true (show (i:Int) < (v.env.length:Int) by omega),Z0,Zw hil,YV];have hp:=pos v.env[i].val;have hsn:=Slt.YA v.env[i]
    by_cases hn:n<=most
    ·rw [decide_eq_true (show (n:Int)<=(most:Int) by omega)];simp only [if_true,Yf _ i hil,X6];rw [show i64.wrap ((most:Int) - (n:Int))=((most - n:Nat):Int) by rw [Yz (by omega) (by omega)];omega];obtain ⟨r,hr,k,rfl,q1,q2,q3,q4⟩:=ih2 _ hm (a7 _ hm) (most - n) (by omega);rw [hr,X6,step n k v.env[i].val hn q1 q2,Wn (i:=i) (by omega)];obtain ⟨r2,hr2,k2,rfl,u1,u2,u3,u4⟩:=ihd (i+1) (n+k) (by omega) (by omega) (by omega);refine ⟨_,hr2,k2,rfl,by omega,u2,fun h=>?_,fun h=>?_⟩
     ·have:=q3 (by omega);have:=u3 h;omega
     ·have:=q4 (by omega);have:=u4 (by omega);omega
    ·rw [decide_eq_false (show ¬(n:Int)<=(most:Int) by omega)];simp only [Qq,if_false];exact ⟨_,rfl,n,rfl,Qt _,h2,fun h=>by omega,fun h=>by omega⟩
  rw [H6];obtain ⟨r,hr,k,rfl,q1,q2,q3,q4⟩:=lp0 v.items.length 0 1 (by omega) (Qt _) (by omega);rw [show ((0:Nat):Int)=0 from rfl,show ((1:Nat):Int)=1 from rfl] at hr;rw [hr,X6];obtain ⟨r2,hr2,k2,rfl,u1,u2,u3,u4⟩:=lp1 v.env.length 0 k (by omega) q1 q2;rw [show ((0:Nat):Int)=0 from rfl] at hr2;rw [hr2,X6];rw [ZZ] at q3 q4 u3 u4;refine ⟨_,rfl,k2,rfl,by omega,u2,fun h=>?_,fun h=>?_⟩
  ·have:=u3 h;have:=q3 (by omega);omega
  ·have:=q4 (by omega);have:=u4 (by omega);omega
theorem AR.Qu0 {c:Cor} (h:AR c):Sy c:=by
 induction h with
 | mk ha hs hn hl hd hk _ ih =>
  refine .mk (by omega) ?_ (by omega) ih
  rcases hd with h | h
  ·have:=h.sz;omega
  ·rw [h];decide
theorem Qwy:Sy zC:=.mk (by decide) (by decide) (by decide) (by simp)
theorem VI.fnB {m:Nat} {v:Val} (h:VI m v):Sy v.fn:=by
 rcases h.out.2.2.2.1 with h | h
 ·exact h.2.1.Qu0
 ·rw [h.2];exact Qwy
theorem Qjc {m:Nat} : ∀v:Val,VI m v->GW v=some v:=by
 intro v
 induction v using Val.ind with
 | h v ih1 ih2 =>
  intro hv;obtain ⟨a1,a2,a3,a4,a5,a6,a7⟩:=hv.out
  rw [GW,RH _ hv.fnB,X6,M8 _ _ _ (by omega),G0 (HM v v.fn) id (fun _ _=>rfl) v.items [] 0 (fun x hx z i r hz=>by
   rw [HM,Yd,X6,ih1 x hx (a6 x hx),X6,Yy (by simp;omega),X6];rfl) (by simp;omega),X6,M9 _ _ _ _ (by omega),G0 (HN v v.fn _) id (fun _ _=>rfl) v.env [] 0 (fun x hx z i r hz=>by
   rw [HN,Yd,X6,ih2 x hx (a7 x hx),X6,Yy (by simp;omega),X6,Slt.eta];rfl) (by simp;omega)]
  simp only [X6,Yd,QS,Xr,Val.eta]
open Classical in
noncomputable def O8 (c : Cor) (fuel : Int) : Val × Int :=
  if CV c /\ 0 <= fuel /\ fuel <= 3000 then
    (if (evG fuel.toNat c [] fuel.toNat).2.1 = 0 then (if (evG fuel.toNat c [] fuel.toNat).1.nodes <= 2000 then ((evG fuel.toNat c [] fuel.toNat).1, 0) else (zV, 4))
     else (zV, (evG fuel.toNat c [] fuel.toNat).2.1))
  else (zV, 5)
theorem Uw {c:Cor} (hc:Sy c) (hn:c.nodes<=1000000000) (fuel:Int):AD c fuel=some (O8 c fuel)/\(∃m,VI m (O8 c fuel).1)/\(O8 c fuel).1.nodes<=2000:=by
 have hz:(∃m,VI m zV)/\zV.nodes<=2000:=⟨⟨0,VI.zero (by omega)⟩,by rw [Val.YA];decide⟩;rw [AD];obtain ⟨b,e,hb⟩:=EJ hc hn;rw [e,X6];unfold O8;cases b
 ·rw [if_neg (fun h=>by have:=hb.2 h.1;cases this)];simp only [ZR,Bool.true_or,Yd,X6,if_true];exact ⟨rfl,hz⟩
 have hcv:=hb.1 rfl
 by_cases h0:fuel < 0
 ·rw [if_neg (fun h=>by omega),decide_eq_true h0];simp only [ZS,Xt,Bool.true_or,Yd,X6,if_true];exact ⟨rfl,hz⟩
 by_cases h1:fuel > 3000
 ·rw [if_neg (fun h=>by omega),decide_eq_true h1];simp only [Xt,Yd,X6,if_true];exact ⟨rfl,hz⟩
 rw [if_pos ⟨hcv,by omega,by omega⟩,decide_eq_false h0,decide_eq_false h1];simp only [ZS,Xm,Yd,X6,Qq,if_false]
 have hf:((fuel.toNat:Nat):Int)=fuel:=by omega
 obtain ⟨r1,r2,r3,r4⟩:=Lx fuel.toNat (by omega) fuel.toNat (Qt _) c hcv.ar hcv.2 [] (by simp) (by simp;omega);rw [hf] at r1;rw [r1,X6];generalize evG fuel.toNat c [] fuel.toNat=e at r1 r2 r3 r4
 simp only
 by_cases he:e.2.1=0
 rotate_left
 ·rw [if_neg he,if_neg he];exact ⟨rfl,hz⟩
 rw [if_pos he,if_pos he];obtain ⟨r,hr,k,rfl,q1,q2,q3,q4⟩:=Qdm e.1 r2 2000 (by omega);rw [show ((2000:Nat):Int)=2000 from rfl] at hr;rw [hr,X6]
 by_cases hk:e.1.nodes<=2000
 ·rw [if_pos hk,if_neg (by have:=q4 hk;omega),Qjc _ r2,X6,he];exact ⟨rfl,⟨_,r2⟩,hk⟩
 ·rw [if_neg hk,if_pos (by
   have:¬k<=2000:=fun h=>hk (by have:=q3 h;omega)
   omega)]
  exact ⟨rfl,hz⟩
end Go.Proofs.SA
namespace Go.Proofs.Shadow
end Go.Proofs.Shadow
namespace Go.Proofs.SA
theorem FM.Qr6 {n:Nat} (hn:n<=4611686018427387904) (f:Fm):f.sz<=n->f.Ok:=by
 induction f using Fm.ind with
 | h f ih =>
  intro hs g hg;have hz:=Fm.GX f;obtain ⟨k,s,m,sc,ks⟩:=f;simp only [Fm.name,Fm.sc,Fm.kids] at hz;rw [Fm.all] at hg
  rcases Kj.1 hg with rfl | hg
  ·simp only [Fm.name,Fm.sc,Fm.kids];omega
  ·obtain ⟨x,hx,hg⟩:=Fm.Ue ks g hg;have hxs:=It Fm.sz ks x hx;exact ih x hx (by omega) g hg
theorem Qsp:zF.Ok:=FM.Qr6 (Qt _) zF (by decide)
theorem FV.ok (d:Nat) (f:Fm) (_:FIs d f) (h:f.sz<=100000):f.Ok:=FM.Qr6 (n:=100000) (by omega) f h
theorem AR.ok {c:Cor} (h:AR c):c.Ok:=by
 induction h with
 | mk ha hs hn hl hd hk _ ih =>
  refine .mk (by omega) (by omega) ?_ (by omega) ih
  rcases hd with h | h
  ·exact FV.ok 40 _ h.1 (by have:=h.sz;omega)
  ·rw [h];exact Qsp
theorem Quq:zC.Ok:=.mk (by decide) (by decide) Qsp (by decide) (fun x hx=>by cases hx)
theorem VI.ok {m:Nat} : ∀v:Val,VI m v->v.Ok:=by
 intro v
 induction v using Val.ind with
 | h v ih1 ih2 =>
  intro hv;obtain ⟨a1,a2,a3,a4,a5,a6,a7⟩:=hv.out;obtain ⟨k,n,s,l,f,e⟩:=v;simp only [Val.num,Val.name,Val.items,Val.fn,Val.env,Val.kind] at *;refine .mk (by unfold Qpr;omega) (by omega) (by omega) ?_ (by omega) (fun x hx=>ih1 x hx (a6 x hx)) (fun x hx=>?_)
  ·rcases a4 with h | h
   ·exact h.2.1.ok
   ·rw [h.2];exact Quq
  ·obtain ⟨i,w⟩:=x;exact .mk (ih2 _ hx (a7 _ hx))
theorem AR.sz:∀c:Cor,AR c->c.sz+1<=20000 * c.nodes:=by
 intro c
 induction c using Cor.ind with
 | h c ih =>
  intro hc;obtain ⟨c1,c2,c3,c4,c5,c6,c7⟩:=hc.out
  have hd:c.data.sz<=14800:=by
   rcases c5 with h | h
   ·exact h.sz
   ·rw [h];decide
  have hs:∀l:List Cor,(∀x∈l,x.sz+1<=20000 * x.nodes)->YV Cor.sz l+l.length<=20000 * YV Xg l:=by
   intro l
   induction l with
   | nil=>intro _;exact Qt _
   | cons x l ihl =>
    intro h;have h1:=h x (KB ..);have h2:=ihl (fun y hy=>h y (Kf _ hy));simp only [YV,ZD];omega
  have:=hs c.kids (fun x hx=>ih x hx (c7 x hx));rw [Cor.GX,Cor.YA];omega
theorem VI.sz {m:Nat} : ∀v:Val,VI m v->v.sz+1<=12001000 * v.nodes:=by
 intro v
 induction v using Val.ind with
 | h v ih1 ih2 =>
  intro hv;obtain ⟨a1,a2,a3,a4,a5,a6,a7⟩:=hv.out
  have hf:v.fn.sz<=12000000:=by
   rcases a4 with h | h
   ·have:=AR.sz _ h.2.1;have:=h.2.2.2;omega
   ·rw [h.2];decide
  have s1:∀l:List Val,(∀x∈l,x.sz+1<=12001000 * x.nodes)->YV Val.sz l+l.length<=12001000 * YV Val.nodes l:=by
   intro l
   induction l with
   | nil=>intro _;exact Qt _
   | cons x l ihl =>
    intro h;have h1:=h x (KB ..);have h2:=ihl (fun y hy=>h y (Kf _ hy));simp only [YV,ZD];omega
  have s2:∀l:List Slt,(∀x∈l,x.sz+1<=12001000 * x.nodes)->YV Slt.sz l+l.length<=12001000 * YV Slt.nodes l:=by
   intro l
   induction l with
   | nil=>intro _;exact Qt _
   | cons x l ihl =>
    intro h;have h1:=h x (KB ..);have h2:=ihl (fun y hy=>h y (Kf _ hy));simp only [YV,ZD];omega
  have q1:=s1 v.items (fun x hx=>ih1 x hx (a6 x hx));have q2:=s2 v.env (fun x hx=>by rw [Slt.GX,Slt.YA];exact ih2 x hx (a7 x hx));rw [Val.GX,Val.YA];omega
end Go.Proofs.SA
namespace Go.Proofs.SA
theorem UB:∀f:Fm,f.sz<=1000000->Gc f=some (Mu f):=by
 intro f
 induction f using Fm.ind with
 | h f ih =>
  intro hf;have hz:=Fm.GX f;rw [Gc,FC]
  by_cases h2:f.kind=2
  ·rw [if_pos h2,if_pos h2];rfl
  ·rw [if_neg h2,if_neg h2]
   by_cases h1:f.kind=1
   ·rw [if_pos h1,if_pos h1];rfl
   ·rw [if_neg h1,if_neg h1,E7 _ _ (by omega),G0 (JN f) Mu (fun _ _=>rfl) f.kids [] 0 (fun x hx z i r hz=>by
     have:=Fm.G2 hx
     rw [JN,Yd,X6,ih x hx (by omega),X6,Yy (by simp;omega),X6]) (by simp;omega)]
    rfl
theorem NX:∀f:Fm,f.sz<=1000000->Ha f=some f:=by
 intro f
 induction f using Fm.ind with
 | h f ih =>
  intro hf;have hz:=Fm.GX f
  rw [Ha,W5,Yy (by simp only [ZC];omega),X6,QS,FU _ _ _ (by omega),G0 (GG f f.sc) id (fun _ _=>rfl) f.kids [] 0 (fun x hx z i r hz=>by
   have:=Fm.G2 hx
   rw [GG,Yd,X6,ih x hx (by omega),X6,Yy (by simp;omega),X6];rfl) (by simp;omega),X6,Yd,QS,Xr]
  cases f;rfl
theorem NW:∀c:Cor,Sy c->G9 c=some c:=by
 intro c
 induction c using Cor.ind with
 | h c ih =>
  intro hc;obtain ⟨c1,c2,c3,c4⟩:=hc.out
  rw [G9,W5,Yy (by simp;omega),X6,QS,NX _ (by omega),X6,FQ _ _ _ _ (by omega),G0 (GF c c.ids c.data) id (fun _ _=>rfl) c.kids [] 0 (fun x hx z i r hz=>by
   rw [GF,Yd,X6,ih x hx (c4 x hx),X6,Yy (by simp;omega),X6];rfl) (by simp;omega)]
  simp only [X6,Yd,QS,Xr,Cor.eta]
theorem UA {m:Nat} : ∀v:Val,VI m v->V9 v=some v:=by
 intro v
 induction v using Val.ind with
 | h v ih1 ih2 =>
  intro hv;obtain ⟨a1,a2,a3,a4,a5,a6,a7⟩:=hv.out
  rw [V9,NW _ hv.fnB,X6,E5 _ _ _ (by omega),G0 (JL v v.fn) id (fun _ _=>rfl) v.items [] 0 (fun x hx z i r hz=>by
   rw [JL,Yd,X6,ih1 x hx (a6 x hx),X6,Yy (by simp;omega),X6];rfl) (by simp;omega),X6,E6 _ _ _ _ (by omega),G0 (JM v v.fn _) id (fun _ _=>rfl) v.env [] 0 (fun x hx z i r hz=>by
   rw [JM,Yd,X6,ih2 x hx (a7 x hx),X6,Yy (by simp;omega),X6,Slt.eta];rfl) (by simp;omega)]
  simp only [X6,Yd,QS,Xr,Val.eta]
theorem Qag {α:Type} (F:Int->Nat->List α->Option ((Bool × Int) ⊕ Int)) (g:α->Nat) (hn:∀m i,F m i []=some (.inr m)):∀(l:List α) (m:Nat) (i:Nat),m<=2000->(∀x∈l,∀(m:Nat) i r,m<=2000->(g x<=m->F (m:Int) i (x :: r)=F ((m - g x:Nat):Int) (i+1) r)/\(m < g x->∃k,F (m:Int) i (x :: r)=some (.inl (false,k)))) ->
  (YV g l<=m->F (m:Int) i l=some (.inr ((m - YV g l:Nat):Int)))/\(m < YV g l->∃k,F (m:Int) i l=some (.inl (false,k))):=by
 intro l
 induction l with
 | nil=>intro m i _ _;exact ⟨fun _=>by rw [hn];rfl,fun h=>absurd h (Nat.not_lt_zero _)⟩
 | cons x l ih =>
  intro m i hm hc;obtain ⟨h1,h2⟩:=hc x (KB ..) m i l hm;have hs:YV g (x :: l)=g x+YV g l:=rfl;rw [hs]
  by_cases hx:g x<=m
  ·rw [h1 hx];obtain ⟨q1,q2⟩:=ih (m - g x) (i+1) (by omega) (fun y hy=>hc y (Kf _ hy));exact ⟨fun h=>by rw [q1 (by omega)];congr 3;omega,fun h=>q2 (by omega)⟩
  ·exact ⟨fun h=>by omega,fun _=>h2 (by omega)⟩
theorem Qhv {k:Nat} : ∀v:Val,VI k v->∀m:Nat,m<=2000->(v.nodes<=m->JS v (m:Int)=some (true,((m - v.nodes:Nat):Int)))/\(m < v.nodes->∃q,JS v (m:Int)=some (false,q)):=by
 intro v
 induction v using Val.ind with
 | h v ih1 ih2 =>
  intro hv m hm;obtain ⟨a1,a2,a3,a4,a5,a6,a7⟩:=hv.out;have hne:=Val.YA v;rw [JS,Yz (by omega) (by omega)]
  by_cases h0:m=0
  ·subst h0;rw [if_pos (by omega)];exact ⟨fun h=>by omega,fun _=>⟨_,rfl⟩⟩
  rw [if_neg (by omega),show ((m:Int) - 1)=((m - 1:Nat):Int) by omega,ME _ _ (by omega)]
  obtain ⟨q1,q2⟩:=Qag (fun m i l=>WM v m i l) Val.nodes (fun _ _=>rfl) v.items (m - 1) 0 (by omega) (fun x hx m i r hm=>by
   obtain ⟨u1,u2⟩:=ih1 x hx (a6 x hx) m hm;refine ⟨fun h=>?_,fun h=>?_⟩
   ·show WM _ _ _ _=_;rw [WM,Yd,X6,u1 h,X6];rfl
   ·obtain ⟨q,hq⟩:=u2 h;refine ⟨q,?_⟩;show WM _ _ _ _=_
    rw [WM,Yd,X6,hq,X6];rfl)
  by_cases h1:YV Val.nodes v.items<=m - 1
  ·have q1:=q1 h1;rw [q1,X6]
   simp only
   rw [MF _ _ (by omega)]
   obtain ⟨w1,w2⟩:=Qag (fun m i l=>WN v m i l) Slt.nodes (fun _ _=>rfl) v.env (m - 1 - YV Val.nodes v.items) 0 (by omega) (fun x hx m i r hm=>by
    obtain ⟨u1,u2⟩:=ih2 x hx (a7 x hx) m hm;rw [← Slt.YA] at u1 u2;refine ⟨fun h=>?_,fun h=>?_⟩
    ·show WN _ _ _ _=_;rw [WN,Yd,X6,u1 h,X6];rfl
    ·obtain ⟨q,hq⟩:=u2 h;refine ⟨q,?_⟩;show WN _ _ _ _=_
     rw [WN,Yd,X6,hq,X6];rfl)
   by_cases h2:YV Slt.nodes v.env<=m - 1 - YV Val.nodes v.items
   ·have w1:=w1 h2;rw [w1,X6];exact ⟨fun _=>by show some (true,_)=some (true,_);congr 3;omega,fun h=>by omega⟩
   ·obtain ⟨q,hq⟩:=w2 (by omega);rw [hq,X6];exact ⟨fun h=>by omega,fun _=>⟨q,rfl⟩⟩
  ·obtain ⟨q,hq⟩:=q2 (by omega);rw [hq,X6];exact ⟨fun h=>by omega,fun _=>⟨q,rfl⟩⟩
theorem Qgq:∀f:Fm,f.sz<=1000000->YQ f.strip []=some []:=by
 intro f
 induction f using Fm.ind with
 | h f ih =>
  intro hf;have hz:=Fm.GX f;rw [YQ,I7,Fm.Ev];rw [show (KR f.kind f.name f.num [] (f.kids.map Xh)).sc=[] from rfl,Yy (by simp),X6,Yd,X6,K7,I0 _ _ (by show (f.kids.map Xh).length < _;rw [List.length_map];omega)]
  have key:∀(l:List Fm) (g:Fm) (i:Nat),(∀x∈l,x∈f.kids)->YO g [] i (l.map Xh)=some []:=by
   intro l
   induction l with
   | nil=>intro g i _;rfl
   | cons x l ihl =>
    intro g i h;have hx:=h x (KB ..);have:=Fm.G2 hx;rw [List.map_cons,YO,Yd,X6,ih x hx (by omega),X6];exact ihl g _ (fun y hy=>h y (Kf _ hy))
  show (YO _ [] 0 (f.kids.map Xh)>>=_)=_;rw [key f.kids _ 0 (fun _ h=>h)];rfl
theorem Qku:GN []=some ():=by
 rw [GN,show IntKind.u64.wrap ((([]:List Int).length:Nat):Int)=0 by decide,Bp,Aw,if_pos rfl,Yd,X6,Yd,X6,Js,WA,if_pos (by decide),VU,YY,if_neg (by decide)];rfl
theorem UP {f:Fm} (hf:f.sz<=1000000):IJ f.strip=some []:=by
 have hs:=Fm.Qbs f;obtain ⟨b,hb,_⟩:=Qgw (f:=f.strip) (by omega);rw [IJ,hb,X6];cases b
 ·rfl
 ·simp only [ZS,Qq,if_false];rw [Qgq f hf,X6,Qku,X6,G1,if_pos (by decide)];rfl
theorem E2 (a b:List Int) (ha:a.length<=1000000):W6 a b=some (decide (a=b)):=by
 rw [W6]
 by_cases hl:a.length=b.length
 rotate_left
 ·rw [if_neg (by omega),decide_eq_false (fun h=>hl (by rw [h]))];rfl
 rw [if_pos (by omega),Cw _ _ (by omega)]
 have key:∀(l:List Int) (i:Nat),a.drop i=l->VG a b i l=some (if l=b.drop i then .inr () else .inl false):=by
  intro l
  induction l with
  | nil =>
   intro i h
   have:a.length<=i:=by have:=congrArg Xv h;simp at this;omega
   rw [if_pos (by rw [Zx (by omega)])];rfl
  | cons x l ih =>
   intro i h
   have hi:i < a.length:=by
    rcases KA i a.length with h2 | h2
    ·exact h2
    ·rw [Zx h2] at h;cases h
   rw [Zw hi] at h
   injection h with e1 e2
   have hib:i < b.length:=by omega
   rw [VG,Yd,X6,Yf _ _ hib,X6,Zw hib]
   by_cases hx:x=b[i]
   ·rw [if_pos hx,ih _ e2];simp only [hx,List.cons.injEq,true_and]
   ·rw [if_neg hx,if_neg (fun h=>hx (by injection h))];rfl
 rw [key a 0 (ZZ ..),ZZ,X6]
 by_cases h:a=b
 ·rw [if_pos h,decide_eq_true h];rfl
 ·rw [if_neg h,decide_eq_false h];rfl
theorem UC:∀f:Fm,f.sz<=1000000->∀g:Fm,J4 f g=some (decide (f=g)):=by
 intro f
 induction f using Fm.ind with
 | h f ih =>
  intro hf g;have hz:=Fm.GX f
  have kids:f.kids.length=g.kids.length->Yp f.kids g.kids 0 f.kids=some (if f.kids=g.kids then .inr () else .inl false):=by
   intro hl
   have key:∀(l:List Fm) (i:Nat),f.kids.drop i=l->Yp f.kids g.kids i l=some (if l=g.kids.drop i then .inr () else .inl false):=by
    intro l
    induction l with
    | nil =>
     intro i h
     have:f.kids.length<=i:=by have:=congrArg Xv h;simp at this;omega
     rw [if_pos (by rw [Zx (by omega)])];rfl
    | cons x l ihl =>
     intro i h
     have hi:i < f.kids.length:=by
      rcases KA i f.kids.length with h2 | h2
      ·exact h2
      ·rw [Zx h2] at h;cases h
     rw [Zw hi] at h
     injection h with e1 e2
     have hib:i < g.kids.length:=by omega
     have hm:x∈f.kids:=e1▸ZJ hi;have:=Fm.G2 hm;rw [Yp,Yd,X6,Yf _ _ hib,X6,ih x hm (by omega),X6,Zw hib]
     by_cases hx:x=g.kids[i]
     ·rw [decide_eq_true hx];simp only [ZS,Qq,if_false];rw [ihl _ e2];simp only [hx,List.cons.injEq,true_and]
     ·rw [decide_eq_false hx];show some (Sum.inl false)=_;rw [if_neg (fun h=>hx (by injection h))]
   have:=key f.kids 0 (ZZ ..);rwa [ZZ] at this
  rw [J4,Yd,X6,Yd,X6]
  by_cases h:f=g
  ·subst h;simp only [decide_true,Xj,if_true,E2 _ _ (show f.sc.length<=1000000 by omega),X6,Yd];rw [YI,if_pos rfl,Vu _ _ (by omega),kids rfl,if_pos rfl];rfl
  ·rw [decide_eq_false h]
   by_cases c1:(decide (f.kind=g.kind)&&decide (f.name=g.name)&&decide (f.num=g.num))=true
   rotate_left
   ·rw [if_neg c1];rfl
   rw [if_pos c1,E2 _ _ (show f.sc.length<=1000000 by omega),X6,Yd,X6]
   by_cases c2:f.sc=g.sc
   rotate_left
   ·rw [decide_eq_false c2];rfl
   rw [decide_eq_true c2,if_pos rfl,YI]
   by_cases c3:f.kids.length=g.kids.length
   rotate_left
   ·rw [if_neg (by omega)];rfl
   rw [if_pos (by omega),Vu _ _ (by omega),kids c3,if_neg]
   ·rfl
   ·intro c4;simp only [QG,decide_eq_true_eq] at c1;apply h;cases f;cases g;simp only [Fm.kind,Fm.name,Fm.num,Fm.sc,Fm.kids] at c1 c2 c4;rw [c1.1.1,c1.1.2,c1.2,c2,c4]
end Go.Proofs.SA
namespace Go.Proofs.SA
inductive Ru:Cor->Prop
 | mk {k i:Int} {s:ByteArray} {n:Int} {l:List Int} {d:Fm} {ks:List Cor} (hl:l.length<=1000000) (hd:d.sz<=1000000) (hb:d.strip=d) (hs:s.size<=1000000) (hk:ks.length<=1000000) (h:∀x∈ks,Ru x):Ru (.mk k i s n l d ks)
theorem Ru.out {c:Cor} (h:Ru c):c.ids.length<=1000000/\c.data.sz<=1000000/\c.data.strip=c.data/\c.name.size<=1000000/\c.kids.length<=1000000/\∀x∈c.kids,Ru x:=by
 cases h;exact ⟨by assumption,by assumption,by assumption,by assumption,by assumption,by assumption⟩
theorem Qg1 (l:List Int) (x:Int) (h:l.length<=1000000000):Vr l x=some (decide (x∈l)):=by
 have key:∀(r:List Int) (i:Nat),(x∈r->∃k:Nat,Vm l x i r=some (.inl (k:Int)))/\(x∉r->Vm l x i r=some (.inr ())):=by
  intro r
  induction r with
  | nil=>intro i;exact ⟨fun h=>(by cases h),fun _=>rfl⟩
  | cons y r ih =>
   intro i;rw [Vm,Yd,X6]
   by_cases hxy:x=y
   ·rw [if_pos hxy];exact ⟨fun _=>⟨i,rfl⟩,fun h=>absurd (hxy▸KB ..) h⟩
   ·rw [if_neg hxy];obtain ⟨h1,h2⟩:=ih (i+1);exact ⟨fun h=>h1 (by rcases Kj.1 h with h | h;exact absurd h hxy;exact h),fun h=>h2 fun h3=>h (Kf _ h3)⟩
 obtain ⟨h1,h2⟩:=key l 0;rw [Vr,Hy,Cx _ _ (by omega)]
 by_cases hx:x∈l
 ·obtain ⟨k,hk⟩:=h1 hx;rw [hk,X6,decide_eq_true hx];simp only [Yd,X6];rw [decide_eq_true (by omega)]
 ·rw [h2 hx,X6,decide_eq_false hx];rfl
noncomputable instance:DecidableEq Cor:=fun a b=>Classical.propDecidable (a=b)
theorem NY:∀a:Cor,Ru a->∀b:Cor,Wi a b=some (decide (a=b)):=by
 intro a
 induction a using Cor.ind with
 | h a ih =>
  intro ha b;obtain ⟨a1,a2,_,a3,a4,a5⟩:=ha.out
  have kids:a.kids.length=b.kids.length->Yo a.kids b.kids 0 a.kids=some (if a.kids=b.kids then .inr () else .inl false):=by
   intro hl
   have key:∀(l:List Cor) (i:Nat),a.kids.drop i=l->Yo a.kids b.kids i l=some (if l=b.kids.drop i then .inr () else .inl false):=by
    intro l
    induction l with
    | nil =>
     intro i h
     have:a.kids.length<=i:=by have:=congrArg Xv h;simp at this;omega
     rw [if_pos (by rw [Zx (by omega)])];rfl
    | cons x l ihl =>
     intro i h
     have hi:i < a.kids.length:=by
      rcases KA i a.kids.length with h2 | h2
      ·exact h2
      ·rw [Zx h2] at h;cases h
     rw [Zw hi] at h
     injection h with e1 e2
     have hib:i < b.kids.length:=by omega
     have hm:x∈a.kids:=e1▸ZJ hi;rw [Yo,Yd,X6,Yf _ _ hib,X6,ih x hm (a5 x hm),X6,Zw hib]
     by_cases hx:x=b.kids[i]
     ·rw [decide_eq_true hx];simp only [ZS,Qq,if_false];rw [ihl _ e2];simp only [hx,List.cons.injEq,true_and]
     ·rw [decide_eq_false hx];show some (Sum.inl false)=_;rw [if_neg (fun h=>hx (by injection h))]
   have:=key a.kids 0 (ZZ ..);rwa [ZZ] at this
  rw [Wi,Yd,X6,Yd,X6,Yd,X6]
  by_cases c1:(decide (a.kind=b.kind)&&decide (a.id=b.id)&&decide (a.name=b.name)&&decide (a.num=b.num))=true
  rotate_left
  ·rw [if_neg c1,decide_eq_false (fun h=>c1 (by subst h;simp))];rfl
  rw [if_pos c1,E2 _ _ a1,X6,Yd,X6];simp only [QG,decide_eq_true_eq] at c1
  by_cases c2:a.ids=b.ids
  rotate_left
  ·rw [decide_eq_false c2,decide_eq_false (fun h=>c2 (by rw [h]))];rfl
  rw [decide_eq_true c2,if_pos rfl,UC _ a2,X6,Yd,X6]
  by_cases c3:a.data=b.data
  rotate_left
  ·rw [decide_eq_false c3,decide_eq_false (fun h=>c3 (by rw [h]))];rfl
  rw [decide_eq_true c3,if_pos rfl,YS]
  by_cases c4:a.kids.length=b.kids.length
  rotate_left
  ·rw [if_neg (by omega),decide_eq_false (fun h=>c4 (by rw [h]))];rfl
  rw [if_pos (by omega),JK _ _ (by omega),kids c4]
  by_cases c5:a.kids=b.kids
  ·rw [if_pos c5,decide_eq_true]
   ·rfl
   ·cases a;cases b;simp only [Cor.kind,Cor.id,Cor.name,Cor.num,Cor.ids,Cor.data,Cor.kids] at c1 c2 c3 c5;rw [c1.1.1.1,c1.1.1.2,c1.1.2,c1.2,c2,c3,c5]
  ·rw [if_neg c5,decide_eq_false (fun h=>c5 (by rw [h]))];rfl
theorem Qa7 (a b c:Int):Wo a b c=some (decide (b<=a/\a<=c)):=by
 rw [Wo,Yd,X6,Yd,Bool.decide_and]
theorem Qjt (c:Cor) (a2 c0:Int):∀(r:List Int) (i:Nat) (z:List Int),z.length+r.length<=900000000 ->
  (((∀x∈r,1<=x/\x<=999/\x∉z)/\r.Nodup)->GM c a2 c0 z i r=some (.inr (z++r)))/\(¬((∀x∈r,1<=x/\x<=999/\x∉z)/\r.Nodup)->GM c a2 c0 z i r=some (.inl (false,IntKind.i64.wrap (c0 - 1)))):=by
 intro r
 induction r with
 | nil=>intro i z _;exact ⟨fun _=>by rw [K7];rfl,fun h=>absurd ⟨by simp,Xi⟩ h⟩
 | cons x r ih =>
  intro i z hz;simp only [ZD] at hz
  have hs:((∀y∈x :: r,1<=y/\y<=999/\y∉z)/\(x :: r).Nodup)↔((1<=x/\x<=999/\x∉z)/\(∀y∈r,1<=y/\y<=999/\y∉z++[x])/\r.Nodup):=by
   constructor
   ·rintro ⟨h1,h2⟩;rw [List.nodup_cons] at h2;refine ⟨h1 x (KB ..),fun y hy=>?_,h2.2⟩;obtain ⟨q1,q2,q3⟩:=h1 y (Kf _ hy);refine ⟨q1,q2,fun h=>?_⟩
    rcases QR.1 h with h | h
    ·exact q3 h
    ·rw [ZF.1 h] at hy;exact h2.1 hy
   ·rintro ⟨h1,h2,h3⟩;refine ⟨fun y hy=>?_,List.nodup_cons.2 ⟨fun h=>(h2 x h).2.2 (QR.2 (.inr (ZF.2 rfl))),h3⟩⟩
    rcases Kj.1 hy with rfl | hy
    ·exact h1
    ·obtain ⟨q1,q2,q3⟩:=h2 y hy;exact ⟨q1,q2,fun h=>q3 (QR.2 (.inl h))⟩
  rw [hs,GM,Yd,X6,Qa7,X6];obtain ⟨h1,h2⟩:=ih (i+1) (z++[x]) (by rw [QV];simp;omega)
  by_cases hw:1<=x/\x<=999
  rotate_left
  ·rw [decide_eq_false hw];exact ⟨fun h=>absurd ⟨h.1.1,h.1.2.1⟩ hw,fun _=>rfl⟩
  rw [decide_eq_true hw];simp only [ZS,Qq,if_false];rw [Qg1 z x (by omega),X6,Yd,X6]
  by_cases hm:x∈z
  ·rw [decide_eq_true hm];exact ⟨fun h=>absurd hm h.1.2.2,fun _=>rfl⟩
  rw [decide_eq_false hm];simp only [Qq,if_false];rw [Yy (by simp only [ZD,ZC];omega),X6];refine ⟨fun h=>?_,fun h=>h2 fun h3=>h ⟨⟨hw.1,hw.2,hm⟩,h3⟩⟩;rw [h1 h.2,QD];rfl
def COk (d:Nat) (sc:List Int) (c:Cor) (m:Nat) (o:Option (Bool × Int)):Prop :=
 Tot o fun r=>(r.1=true↔CIs d sc c/\c.nodes<=m)/\(r.1=true->r.2=(m:Int) - (c.nodes:Int))
theorem Ur:∀(d:Nat),d<=120->∀c:Cor,Ru c->∀sc:List Int,sc.length+d * 1000000<=800000000->∀m:Nat,m<=600->COk d sc c m (HW c sc (121 - (d:Int)) (m:Int)):=by
 intro d
 induction d with
 | zero =>
  intro _ c _ sc _ m hm;refine ⟨(false,IntKind.i64.wrap ((m:Int) - 1)),?_,⟨fun h=>(by cases h),fun h=>(show False from h.1).elim⟩,fun h=>(by cases h)⟩;rw [HW];simp only [show decide ((121 - ((0:Nat):Int)) > 120)=true by decide,Xt,Yd,X6,if_true]
 | succ d ih =>
  intro hd c hc sc hsc m hm;obtain ⟨c1,c2,c3,c4,c5,c6⟩:=hc.out;have hne:=Cor.YA c;have bad:¬(CIs (d+1) sc c/\c.nodes<=m)->∀q:Int,COk (d+1) sc c m (some (false,q)):=fun h q=>⟨_,rfl,⟨fun h2=>(by cases h2),fun h2=>absurd h2 h⟩,fun h2=>(by cases h2)⟩;rw [HW];have e0:decide (121 - ((d+1:Nat):Int) > 120)=false:=decide_eq_false (by omega);rw [e0,Xm,Yd,X6,Yz (by omega) (by omega)]
  by_cases hm0:m=0
  ·subst hm0;rw [decide_eq_true (by omega),if_pos rfl];exact bad (fun h=>by omega) _
  rw [decide_eq_false (by omega),if_neg (by decide)]
  have em:(m:Int) - 1=((m - 1:Nat):Int):=by omega
  have loop:∀(y1:Int) (y2:ByteArray) (y3 y5:Int) (y6:ByteArray) (y7:Int) (z:List Int),z.length<=sc.length+1000000->∀(l:List Cor) (i m:Nat),(∀x∈l,x∈c.kids)->m<=600 ->
    (((∀x∈l,CIs d z x)/\YV Xg l<=m)->JE c (121 - ((d+1:Nat):Int)) y1 y2 y3 y5 y6 y7 z (m:Int) i l=some (.inr ((m:Int) - (YV Xg l:Nat)))) /\
    (¬((∀x∈l,CIs d z x)/\YV Xg l<=m)->∃q,JE c (121 - ((d+1:Nat):Int)) y1 y2 y3 y5 y6 y7 z (m:Int) i l=some (.inl (false,q))):=by
   intro y1 y2 y3 y5 y6 y7 z hz l
   induction l with
   | nil=>intro i m _ _;exact ⟨fun _=>by rw [JE,Yd];simp [YV],fun h=>absurd ⟨by simp,Nat.zero_le _⟩ h⟩
   | cons x l ihl =>
    intro i m hl hm;have hx:=hl x (KB ..);have hs:YV Xg (x :: l)=x.nodes+YV Xg l:=rfl;rw [JE,Yd,X6,Yz (by omega) (by omega),show 121 - ((d+1:Nat):Int)+1=121 - (d:Int) by omega];obtain ⟨r,hr,h1,h2⟩:=ih (by omega) x (c6 x hx) z (by omega) m hm;rw [hr,X6,hs];cases hb:r.1
    ·simp only [ZR,if_true];refine ⟨fun h=>?_,fun _=>⟨_,rfl⟩⟩;have:=h1.2 ⟨h.1 x (KB ..),by omega⟩;rw [hb] at this;cases this
    ·simp only [ZS,Qq,if_false];have h3:=h1.1 hb;have h4:=h2 hb;rw [h4,show (m:Int) - (x.nodes:Int)=((m - x.nodes:Nat):Int) by omega];obtain ⟨q1,q2⟩:=ihl (i+1) (m - x.nodes) (fun y hy=>hl y (Kf _ hy)) (by omega);refine ⟨fun h=>?_,fun h=>q2 fun h5=>h ⟨fun y hy=>?_,by omega⟩⟩
     ·rw [q1 ⟨fun y hy=>h.1 y (Kf _ hy),by omega⟩];congr 2;omega
     ·rcases Kj.1 hy with rfl | hy
      ·exact h3.1
      ·exact h5.1 y hy
  have tail:∀(y1:Int) (y2:ByteArray) (y3:Int) (y4:List Int) (y5:Int) (y6:ByteArray) (y7:Int) (y8:List Int) (y9:List Fm) (many:Int) (z:List Int),z.length<=sc.length+1000000 ->
    (CIs (d+1) sc c↔(c.kids.length:Int)=many/\c=KQ c.kind y1 y2 y3 y4 (KR y5 y6 y7 y8 y9) c.kids/\∀x∈c.kids,CIs d z x) ->
    COk (d+1) sc c m ((if (c.kids.length:Int)=many then (Wi c (KQ c.kind y1 y2 y3 y4 (KR y5 y6 y7 y8 y9) c.kids)>>=fun x130=>pure (!x130)) else pure true:Option Bool)>>=fun x132 =>
     if x132=true then pure (false,(m:Int) - 1)
     else Jp c (121 - ((d+1:Nat):Int)) y1 y2 y3 y5 y6 y7 z 0 ((m:Int) - 1)>>=fun o=>match o with
      | .inl r=>pure r
      | .inr e=>pure (true,e)):=by
   intro y1 y2 y3 y4 y5 y6 y7 y8 y9 many z hz hcis
   by_cases k1:(c.kids.length:Int)=many
   rotate_left
   ·rw [if_neg k1];exact bad (fun h=>k1 (hcis.1 h.1).1) _
   rw [if_pos k1,NY c hc,X6,Yd,X6]
   by_cases k2:c=KQ c.kind y1 y2 y3 y4 (KR y5 y6 y7 y8 y9) c.kids
   rotate_left
   ·rw [decide_eq_false k2];exact bad (fun h=>k2 (hcis.1 h.1).2.1) _
   rw [decide_eq_true k2];simp only [ZS,Qq,if_false];rw [MC _ _ _ _ _ _ _ _ _ _ (by omega),em];obtain ⟨q1,q2⟩:=loop y1 y2 y3 y5 y6 y7 z hz c.kids 0 (m - 1) (fun _ h=>h) (by omega)
   by_cases k3:(∀x∈c.kids,CIs d z x)/\YV Xg c.kids<=m - 1
   ·rw [q1 k3,X6];refine ⟨_,rfl,⟨fun _=>⟨hcis.2 ⟨k1,k2,k3.1⟩,by omega⟩,fun _=>rfl⟩,fun _=>?_⟩;show ((m - 1:Nat):Int) - _=_;omega
   ·obtain ⟨q,hq⟩:=q2 k3;rw [hq,X6];exact bad (fun h=>k3 ⟨(hcis.1 h.1).2.2,by omega⟩) _
  have z0:zF=KR 0 (Qk #[]) 0 [] []:=rfl;have nok:∀{p:Prop},(CIs (d+1) sc c->p)->¬p->∀q:Int,COk (d+1) sc c m (some (false,q)):=fun h1 h2 q=>bad (fun h=>h2 (h1 h.1)) q;have eta:=Cor.eta c
  by_cases h1:c.kind=1
  ·have hci:CIs (d+1) sc c↔((1<=c.id/\c.id<=999)/\c.id∈sc)/\(c.kids.length:Int)=0/\c=KQ c.kind c.id (Qk #[]) 0 [] (KR 0 (Qk #[]) 0 [] []) c.kids:=by
    constructor
    ·rintro ⟨a1,⟨⟨b1,_⟩,⟨_,b2⟩,⟨_,b3⟩,⟨_,b4⟩,b5⟩,a3,_⟩
     have hk:c.kids.length=0:=by rcases a1 with h | h | h | h<;>omega
     refine ⟨⟨b1 h1,a3 h1⟩,by omega,?_⟩;have q:=eta;rw [b2 (by omega),b3 (by omega),b5 (by omega),b4 (by omega)] at q;exact q.symm
    ·rintro ⟨⟨a1,a2⟩,a3,a4⟩
     have e1:c.name=Qk #[]:=by rw [a4];rfl
     have e2:c.num=0:=by rw [a4];rfl
     have e3:c.ids=[]:=by rw [a4];rfl
     have e4:c.data=zF:=by rw [a4];rfl
     have hk:c.kids=[]:=Kz (by omega);refine ⟨.inl ⟨.inl h1,by omega⟩,⟨⟨fun _=>a1,fun h=>absurd h1 h⟩,⟨fun h=>by omega,fun _=>e1⟩,⟨fun h=>by omega,fun _=>e2⟩,⟨fun h=>by omega,fun _=>e4⟩,fun _=>e3⟩,fun _=>a2,by rw [e3];simp,by rw [e3];exact Xi,by rw [hk];simp⟩
   rw [if_pos h1,Qa7,X6]
   by_cases w:1<=c.id/\c.id<=999
   rotate_left
   ·rw [decide_eq_false w];exact nok (fun h=>(hci.1 h).1.1) w _
   rw [decide_eq_true w];simp only [ZS,Qq,if_false];rw [Qg1 sc c.id (by omega),X6,Yd,X6]
   by_cases w2:c.id∈sc
   rotate_left
   ·rw [decide_eq_false w2];exact nok (fun h=>(hci.1 h).1.2) w2 _
   rw [decide_eq_true w2];refine tail c.id (Qk #[]) 0 [] 0 (Qk #[]) 0 [] [] 0 sc (by omega) ?_;rw [hci];constructor
   ·rintro ⟨_,a,b⟩;exact ⟨a,b,fun x hx=>by rw [Kz (show c.kids.length=0 by omega)] at hx;cases hx⟩
   ·rintro ⟨a,b,_⟩;exact ⟨⟨w,w2⟩,a,b⟩
  rw [if_neg h1]
  by_cases h2:c.kind=2
  ·have hci:CIs (d+1) sc c↔NV c.name/\(c.kids.length:Int)=0/\c=KQ c.kind 0 c.name 0 [] (KR 0 (Qk #[]) 0 [] []) c.kids:=by
    constructor
    ·rintro ⟨a1,⟨⟨_,b1⟩,⟨b2,_⟩,⟨_,b3⟩,⟨_,b4⟩,b5⟩,a3,_⟩
     have hk:c.kids.length=0:=by rcases a1 with h | h | h | h<;>omega
     refine ⟨b2 h2,by omega,?_⟩;have q:=eta;rw [b1 (by omega),b3 (by omega),b5 (by omega),b4 (by omega)] at q;exact q.symm
    ·rintro ⟨a1,a3,a4⟩
     have e1:c.id=0:=by rw [a4];rfl
     have e2:c.num=0:=by rw [a4];rfl
     have e3:c.ids=[]:=by rw [a4];rfl
     have e4:c.data=zF:=by rw [a4];rfl
     have hk:c.kids=[]:=Kz (by omega);refine ⟨.inl ⟨.inr (.inl h2),by omega⟩,⟨⟨fun h=>by omega,fun _=>e1⟩,⟨fun _=>a1,fun h=>by omega⟩,⟨fun h=>by omega,fun _=>e2⟩,⟨fun h=>by omega,fun _=>e4⟩,fun _=>e3⟩,fun h=>by omega,by rw [e3];simp,by rw [e3];exact Xi,by rw [hk];simp⟩
   rw [if_pos h2];obtain ⟨b,eb,hb⟩:=Qhe (s:=c.name) (by omega);rw [eb,X6];cases b
   ·exact nok (fun h=>(hci.1 h).1) (fun h=>by have:=hb.2 h;cases this) _
   refine tail 0 c.name 0 [] 0 (Qk #[]) 0 [] [] 0 sc (by omega) ?_;rw [hci];constructor
   ·rintro ⟨_,a,b⟩;exact ⟨a,b,fun x hx=>by rw [Kz (show c.kids.length=0 by omega)] at hx;cases hx⟩
   ·rintro ⟨a,b,_⟩;exact ⟨hb.1 rfl,a,b⟩
  rw [if_neg h2]
  by_cases h3:c.kind=3
  ·have hci:CIs (d+1) sc c↔(0<=c.num/\c.num<=999)/\(c.kids.length:Int)=0/\c=KQ c.kind 0 (Qk #[]) c.num [] (KR 0 (Qk #[]) 0 [] []) c.kids:=by
    constructor
    ·rintro ⟨a1,⟨⟨_,b1⟩,⟨_,b2⟩,⟨b3,_⟩,⟨_,b4⟩,b5⟩,a3,_⟩
     have hk:c.kids.length=0:=by rcases a1 with h | h | h | h<;>omega
     refine ⟨b3 h3,by omega,?_⟩;have q:=eta;rw [b1 (by omega),b2 (by omega),b5 (by omega),b4 (by omega)] at q;exact q.symm
    ·rintro ⟨a1,a3,a4⟩
     have e1:c.id=0:=by rw [a4];rfl
     have e2:c.name=Qk #[]:=by rw [a4];rfl
     have e3:c.ids=[]:=by rw [a4];rfl
     have e4:c.data=zF:=by rw [a4];rfl
     have hk:c.kids=[]:=Kz (by omega);refine ⟨.inl ⟨.inr (.inr (.inl h3)),by omega⟩,⟨⟨fun h=>by omega,fun _=>e1⟩,⟨fun h=>by omega,fun _=>e2⟩,⟨fun _=>a1,fun h=>by omega⟩,⟨fun h=>by omega,fun _=>e4⟩,fun _=>e3⟩,fun h=>by omega,by rw [e3];simp,by rw [e3];exact Xi,by rw [hk];simp⟩
   rw [if_pos h3,Qa7,X6]
   by_cases w:0<=c.num/\c.num<=999
   rotate_left
   ·rw [decide_eq_false w];exact nok (fun h=>(hci.1 h).1) w _
   rw [decide_eq_true w];refine tail 0 (Qk #[]) c.num [] 0 (Qk #[]) 0 [] [] 0 sc (by omega) ?_;rw [hci];constructor
   ·rintro ⟨_,a,b⟩;exact ⟨a,b,fun x hx=>by rw [Kz (show c.kids.length=0 by omega)] at hx;cases hx⟩
   ·rintro ⟨a,b,_⟩;exact ⟨w,a,b⟩
  rw [if_neg h3]
  by_cases h4:c.kind=4
  ·have hci:CIs (d+1) sc c↔FV c.data/\(c.kids.length:Int)=0/\c=KQ c.kind 0 (Qk #[]) 0 [] (KR c.data.kind c.data.name c.data.num c.data.sc c.data.kids) c.kids:=by
    have ed:KR c.data.kind c.data.name c.data.num c.data.sc c.data.kids=c.data:=by cases c.data;rfl
    rw [ed];constructor
    ·rintro ⟨a1,⟨⟨_,b1⟩,⟨_,b2⟩,⟨_,b3⟩,⟨b4,_⟩,b5⟩,a3,_⟩
     have hk:c.kids.length=0:=by rcases a1 with h | h | h | h<;>omega
     refine ⟨(b4 h4).1,by omega,?_⟩;have q:=eta;rw [b1 (by omega),b2 (by omega),b5 (by omega),b3 (by omega)] at q;exact q.symm
    ·rintro ⟨a1,a3,a4⟩
     have e1:c.id=0:=by rw [a4];rfl
     have e2:c.name=Qk #[]:=by rw [a4];rfl
     have e3:c.ids=[]:=by rw [a4];rfl
     have e4:c.num=0:=by rw [a4];rfl
     have hk:c.kids=[]:=Kz (by omega);refine ⟨.inl ⟨.inr (.inr (.inr h4)),by omega⟩,⟨⟨fun h=>by omega,fun _=>e1⟩,⟨fun h=>by omega,fun _=>e2⟩,⟨fun h=>by omega,fun _=>e4⟩,⟨fun _=>⟨a1,c3⟩,fun h=>by omega⟩,fun _=>e3⟩,fun h=>by omega,by rw [e3];simp,by rw [e3];exact Xi,by rw [hk];simp⟩
   rw [if_pos h4];obtain ⟨b,eb,hb⟩:=Qgw (f:=c.data) (by omega);rw [eb,X6];cases b
   ·exact nok (fun h=>(hci.1 h).1) (fun h=>by have:=hb.2 h;cases this) _
   have es:IJ c.data=some []:=by rw [← c3];exact UP c2
   simp only [ZS,Qq,if_false];rw [es,X6,Yd,X6];refine tail 0 (Qk #[]) 0 [] c.data.kind c.data.name c.data.num c.data.sc c.data.kids 0 sc (by omega) ?_;rw [hci];constructor
   ·rintro ⟨_,a,b⟩;exact ⟨a,b,fun x hx=>by rw [Kz (show c.kids.length=0 by omega)] at hx;cases hx⟩
   ·rintro ⟨a,b,_⟩;exact ⟨hb.1 rfl,a,b⟩
  rw [if_neg h4]
  by_cases h5:c.kind=5
  ·have hci:CIs (d+1) sc c↔((∀x∈c.ids,1<=x/\x<=999/\x∉sc)/\c.ids.Nodup)/\(c.kids.length:Int)=1/\c=KQ c.kind 0 (Qk #[]) 0 c.ids (KR 0 (Qk #[]) 0 [] []) c.kids/\∀x∈c.kids,CIs d (sc++c.ids) x:=by
    constructor
    ·rintro ⟨a1,⟨⟨_,b1⟩,⟨_,b2⟩,⟨_,b3⟩,⟨_,b4⟩,b5⟩,a3,a4,a5,a6⟩
     have hk:c.kids.length=1:=by rcases a1 with h | h | h | h<;>omega
     refine ⟨⟨a4,a5⟩,by omega,?_,a6⟩;have q:=eta;rw [b1 (by omega),b2 (by omega),b4 (by omega),b3 (by omega)] at q;exact q.symm
    ·rintro ⟨⟨a1,a2⟩,a3,a4,a5⟩
     have e1:c.id=0:=by rw [a4];rfl
     have e2:c.name=Qk #[]:=by rw [a4];rfl
     have e3:c.num=0:=by rw [a4];rfl
     have e4:c.data=zF:=by rw [a4];rfl
     exact ⟨.inr (.inl ⟨h5,by omega⟩),⟨⟨fun h=>by omega,fun _=>e1⟩,⟨fun h=>by omega,fun _=>e2⟩,⟨fun h=>by omega,fun _=>e3⟩,⟨fun h=>by omega,fun _=>e4⟩,fun h=>absurd h5 h⟩,fun h=>by omega,a1,a2,a5⟩
   rw [if_pos h5,J5,Yy (by simp only [ZC];omega),X6,QS,MB _ _ _ _ (by omega)];obtain ⟨q1,q2⟩:=Qjt c (121 - ((d+1:Nat):Int)) (m:Int) c.ids 0 sc (by omega)
   by_cases w:(∀x∈c.ids,1<=x/\x<=999/\x∉sc)/\c.ids.Nodup
   ·rw [q1 w,X6];refine tail 0 (Qk #[]) 0 c.ids 0 (Qk #[]) 0 [] [] 1 (sc++c.ids) (by rw [QV];omega) ?_;rw [hci];exact ⟨fun h=>h.2,fun h=>⟨w,h⟩⟩
   ·rw [q2 w,X6];exact nok (fun h=>(hci.1 h).1) w _
  rw [if_neg h5]
  by_cases h6:c.kind=6
  ·have hci:CIs (d+1) sc c↔(c.kids.length:Int)=(if (c.kids.length:Int) > 1 then (c.kids.length:Int) else 1)/\c=KQ c.kind 0 (Qk #[]) 0 [] (KR 0 (Qk #[]) 0 [] []) c.kids/\∀x∈c.kids,CIs d sc x:=by
    constructor
    ·rintro ⟨a1,⟨⟨_,b1⟩,⟨_,b2⟩,⟨_,b3⟩,⟨_,b4⟩,b5⟩,a3,a4,a5,a6⟩
     have hk:1<=c.kids.length:=by rcases a1 with h | h | h | h<;>omega
     rw [b5 (by omega),K7] at a6;refine ⟨by split<;>omega,?_,a6⟩;have q:=eta;rw [b1 (by omega),b2 (by omega),b4 (by omega),b3 (by omega),b5 (by omega)] at q;exact q.symm
    ·rintro ⟨a3,a4,a5⟩
     have e1:c.id=0:=by rw [a4];rfl
     have e2:c.name=Qk #[]:=by rw [a4];rfl
     have e3:c.num=0:=by rw [a4];rfl
     have e4:c.data=zF:=by rw [a4];rfl
     have e5:c.ids=[]:=by rw [a4];rfl
     have hk:1<=c.kids.length:=by split at a3<;>omega
     exact ⟨.inr (.inr (.inl ⟨h6,hk⟩)),⟨⟨fun h=>by omega,fun _=>e1⟩,⟨fun h=>by omega,fun _=>e2⟩,⟨fun h=>by omega,fun _=>e3⟩,⟨fun h=>by omega,fun _=>e4⟩,fun _=>e5⟩,fun h=>by omega,by rw [e5];simp,by rw [e5];exact Xi,by rw [e5,K7];exact a5⟩
   rw [if_pos h6];exact tail 0 (Qk #[]) 0 [] 0 (Qk #[]) 0 [] [] _ sc (by omega) hci
  rw [if_neg h6]
  by_cases h7:c.kind=7
  ·have hci:CIs (d+1) sc c↔(c.kids.length:Int)=3/\c=KQ c.kind 0 (Qk #[]) 0 [] (KR 0 (Qk #[]) 0 [] []) c.kids/\∀x∈c.kids,CIs d sc x:=by
    constructor
    ·rintro ⟨a1,⟨⟨_,b1⟩,⟨_,b2⟩,⟨_,b3⟩,⟨_,b4⟩,b5⟩,a3,a4,a5,a6⟩
     have hk:c.kids.length=3:=by rcases a1 with h | h | h | h<;>omega
     rw [b5 (by omega),K7] at a6;refine ⟨by omega,?_,a6⟩;have q:=eta;rw [b1 (by omega),b2 (by omega),b4 (by omega),b3 (by omega),b5 (by omega)] at q;exact q.symm
    ·rintro ⟨a3,a4,a5⟩
     have e1:c.id=0:=by rw [a4];rfl
     have e2:c.name=Qk #[]:=by rw [a4];rfl
     have e3:c.num=0:=by rw [a4];rfl
     have e4:c.data=zF:=by rw [a4];rfl
     have e5:c.ids=[]:=by rw [a4];rfl
     exact ⟨.inr (.inr (.inr ⟨h7,by omega⟩)),⟨⟨fun h=>by omega,fun _=>e1⟩,⟨fun h=>by omega,fun _=>e2⟩,⟨fun h=>by omega,fun _=>e3⟩,⟨fun h=>by omega,fun _=>e4⟩,fun _=>e5⟩,fun h=>by omega,by rw [e5];simp,by rw [e5];exact Xi,by rw [e5,K7];exact a5⟩
   rw [if_pos h7];exact tail 0 (Qk #[]) 0 [] 0 (Qk #[]) 0 [] [] 3 sc (by omega) hci
  rw [if_neg h7];refine bad (fun h=>?_) _
  rcases h.1.1 with h | h | h | h<;>omega
theorem EL {c:Cor} (hc:Ru c):Tot (Ig c) fun b=>b=true↔CV c:=by
 rw [Ig];obtain ⟨r,hr,h1,_⟩:=Ur 120 (by omega) c hc [] (by simp) 600 (by omega);rw [show 121 - ((120:Nat):Int)=1 by decide,show ((600:Nat):Int)=600 by decide] at hr;rw [hr,X6];exact ⟨_,rfl,h1⟩
end Go.Proofs.SA
namespace Go.Proofs.SA
inductive PN:Val->Prop
 | mk {k n:Int} {s:ByteArray} {l:List Val} {f:Cor} {e:List Slt} (hp:k=5->hasB Pk s=true) (h1:∀x∈l,PN x) (h2:∀x∈e,PN x.val):PN (.mk k n s l f e)
theorem PN.out {v:Val} (h:PN v):(v.kind=5->hasB Pk v.name=true)/\(∀x∈v.items,PN x)/\∀x∈v.env,PN x.val:=by
 cases h;exact ⟨by assumption,by assumption,by assumption⟩
theorem PN.num (n:Int):PN (Qeg n):=.mk (fun h=>by cases h) (by simp) (by simp)
theorem PN.zero:PN zV:=.mk (fun h=>by cases h) (by simp) (by simp)
theorem PN.list {l:List Val} (h:∀x∈l,PN x):PN (Qc3 l):=.mk (fun h=>by cases h) h (by simp)
theorem PN.data:∀f:Fm,PN (Mu f):=by
 intro f
 induction f using Fm.ind with
 | h f ih =>
  rw [FC];split
  ·exact .num _
  ·split
   ·exact .mk (fun h=>by cases h) (by simp) (by simp)
   ·exact .list fun x hx=>by obtain ⟨y,hy,rfl⟩:=List.mem_map.1 hx;exact ih y hy
theorem Qe7 (args:List Val) (h:args.length<=1000000):Yw args=some (!(args.all fun v=>decide (v.kind=1))):=by
 have key:∀(r:List Val) (i:Nat),(r.all (fun v=>decide (v.kind=1))=true->Yn args i r=some (.inr ()))/\(r.all (fun v=>decide (v.kind=1))=false->∃k:Nat,Yn args i r=some (.inl (k:Int))):=by
  intro r
  induction r with
  | nil=>intro i;exact ⟨fun _=>rfl,fun h=>by cases h⟩
  | cons x r ih =>
   intro i;rw [Yn,Yd,X6,Wa,Yd,X6,List.all_cons];obtain ⟨h1,h2⟩:=ih (i+1);cases hx:decide (x.kind=1)
   ·exact ⟨fun h=>(by cases h),fun _=>⟨i,rfl⟩⟩
   ·exact ⟨fun h=>h1 h,fun h=>h2 h⟩
 obtain ⟨h1,h2⟩:=key args 0;rw [Yw,YM,Jj _ (by omega)];cases ha:args.all (fun v=>decide (v.kind=1))
 ·obtain ⟨k,hk⟩:=h2 ha;rw [hk,X6];simp only [Yd,X6];rw [decide_eq_true (by omega)];rfl
 ·rw [h1 ha,X6];rfl
theorem Qov {m:Nat} (args:List Val) (c0:Mch):∀(l:List Val) (z:Int) (i:Nat),(-999<=z/\z<=999)->(∀x∈l,VI m x)->Vp args c0 z i l=some (l.foldl (fun s v=>(s+v.num).tmod 1000) z):=by
 intro l
 induction l with
 | nil=>intro z i _ _;rfl
 | cons x l ih =>
  intro z i hz h;have hx:=(h x (KB ..)).out.1;rw [Vp,Yd,X6,Yz (by omega) (by omega),ih _ _ (Mf _) (fun y hy=>h y (Kf _ hy))];rfl
theorem Ux (e k:Int):Vy e ⟨k,0⟩=some (zV,⟨k,e⟩):=rfl
theorem Qr4 (n:Int):HX n=some (Qeg n):=rfl
theorem Qk4 (b:Bool):Bw b=some (Qeg (if b=true then 1 else 0)):=by cases b<;>rfl
theorem Qkd {m:Nat} (hm:m<=3001) (name:ByteArray) (args:List Val) (hn:hasB Pk name=true) (h:args.length<=1000) (hv:∀x∈args,VI m x) (k:Int):Ji name args ⟨k,0⟩=some ((Ff name args).1,⟨k,(Ff name args).2⟩):=by
 have e1:(if (args.length:Int)=1 then (idx args 0>>=fun x20=>pure (decide (x20.kind=3))) else pure false:Option Bool)=some (decide (args.length=1/\(args.getD 0 zV).kind=3)):=by
  by_cases hl:args.length=1
  ·rw [if_pos (by omega),show idx args 0=some args[0] from Yf _ 0 (by omega),X6,Yd];simp [hl,Qz]
  ·rw [if_neg (by omega)];simp [hl,Yd]
 have e2:(if decide (args.length=1/\(args.getD 0 zV).kind=3)=true then (idx args 0>>=fun x27=>pure (decide ((x27.items.length:Int) > 0))) else pure false:Option Bool)=some (decide (args.length=1/\(args.getD 0 zV).kind=3/\(args.getD 0 zV).items.length≠0)):=by
  by_cases hl:args.length=1/\(args.getD 0 zV).kind=3
  ·rw [decide_eq_true hl,if_pos rfl,show idx args 0=some args[0] from Yf _ 0 (by omega),X6,Yd]
   have hg:args.getD 0 zV=args[0]'(by omega):=by simp [Qz,hl.1]
   rw [← hg]
   by_cases hz:(args.getD 0 zV).items.length=0
   ·rw [decide_eq_false (by omega),decide_eq_false (fun h=>h.2.2 hz)]
   ·rw [decide_eq_true (by omega),decide_eq_true ⟨hl.1,hl.2,hz⟩]
  ·rw [decide_eq_false hl];simp only [Qq,if_false,Yd];rw [decide_eq_false (fun h=>hl ⟨h.1,h.2.1⟩)]
 rw [Ji,Qe7 _ (by omega),X6,e1,X6,e2,X6]
 have two:∀p:Bool,(args.all fun v=>decide (v.kind=1))=true->args.length=2->(args.getD 0 zV).kind=1/\(args.getD 1 zV).kind=1:=by
  intro _ ha hl
  match args,hl with
  | [x,y],_=>simpa using ha
 have two':args.length=2->(args.getD 0 zV).kind=1->(args.getD 1 zV).kind=1->(args.all fun v=>decide (v.kind=1))=true:=by
  intro hl h1 h2
  match args,hl,h1,h2 with
  | [x,y],_,h1,h2=>simp at h1 h2;simp [h1,h2]
 have hnm:name=ND∨name=Lu∨name=Qcr∨name=SQ∨name=Lt∨name=Lv:=by
  simp only [hasB,Pk,List.any_cons,List.any_nil,Xm,Bool.or_eq_true,decide_eq_true_eq] at hn
  rcases hn with h | h | h | h | h | h<;>simp [h]
 have cmp:∀(q:Val->Val->Bool) (rest:Option (Val × Mch)),(rest=some (zV,⟨k,3⟩))->(if ((!!(args.all fun v=>decide (v.kind=1)))&&decide ((args.length:Int)=2))=true then (idx args 0>>=fun x70=>idx args 1>>=fun x74=>Bw (q x70 x74)>>=fun x78=>pure (x78,(⟨k,0⟩:Mch))) else rest) =
   some (if args.length=2/\(args.getD 0 zV).kind=1/\(args.getD 1 zV).kind=1 then (Qeg (if q (args.getD 0 zV) (args.getD 1 zV)=true then 1 else 0),⟨k,0⟩) else (zV,⟨k,3⟩)):=by
  intro q rest hr;rw [Xu]
  by_cases hl:args.length=2/\(args.getD 0 zV).kind=1/\(args.getD 1 zV).kind=1
  ·rw [two' hl.1 hl.2.1 hl.2.2,decide_eq_true (by omega),if_pos hl];simp only [Xj,if_true];rw [show idx args 0=some args[0] from Yf _ 0 (by omega),X6,show idx args 1=some args[1] from Yf _ 1 (by omega),X6,Qk4,X6,Yd]
   have g0:args.getD 0 zV=args[0]'(by omega):=by simp [Qz,hl.1]
   have g1:args.getD 1 zV=args[1]'(by omega):=by simp [Qz,hl.1]
   rw [g0,g1]
  ·rw [if_neg hl,if_neg,hr];intro hc;rw [QG,decide_eq_true_eq] at hc
   have h2:args.length=2:=by omega
   exact hl ⟨h2,two true hc.1 h2⟩
 have d:∀a b:ByteArray,a≠b->decide (a=b)=false:=fun a b h=>decide_eq_false h
 rcases hnm with rfl | rfl | rfl | rfl | rfl | rfl
 ·rw [if_neg (show ¬ND=_ by decide),show decide (ND=(Qk #[43]))=true from rfl,Ff,if_neg (by decide),if_pos rfl];cases ha:args.all (fun v=>decide (v.kind=1))
  ·simp only [ZR,ZS,Xq,Yd,X6,Qq,if_false,Z3,show decide (ND=(Qk #[104,101,97,100]))=false from rfl,show decide (ND=(Qk #[116,97,105,108]))=false from rfl];rfl
  ·simp only [ZS,ZR,Xj,Yd,X6,if_true];rw [BH _ _ _ (by omega),Qov (m:=m) _ _ _ _ _ (by decide) hv,X6];rfl
 ·rw [if_neg (show ¬Lu=_ by decide),show decide (Lu=(Qk #[43]))=false from rfl,Ff,if_neg (by decide),if_neg (by decide),if_neg (by decide),if_neg (by decide)];simp only [Z3,Yd,X6,Qq,if_false,show decide (Lu=(Qk #[60]))=true from rfl,Z0];have hc:=cmp (fun x y=>decide (x.num < y.num)) _ rfl;simp only [Yd,X6,Xu] at hc ⊢;rw [show decide (Lu=(Qk #[61]))=false from rfl,show decide (Lu=(Qk #[104,101,97,100]))=false from rfl,show decide (Lu=(Qk #[116,97,105,108]))=false from rfl];simp only [Z3,Yd,X6,Qq,if_false];rw [show (Vy 3 ⟨k,0⟩>>=fun x126=>some (x126.1,x126.2))=some (zV,⟨k,3⟩) from rfl,hc]
  by_cases hl:args.length=2/\(args.getD 0 zV).kind=1/\(args.getD 1 zV).kind=1
  ·rw [if_pos hl,if_pos hl]
   have hne:¬Lu=Qcr:=by decide
   by_cases hlt:(args.getD 0 zV).num < (args.getD 1 zV).num
   ·simp only [hlt,hne,decide_true,if_true,and_self,true_or]
   ·simp only [hlt,hne,decide_false,Qq,if_false,and_false,false_and,or_self]
  ·rw [if_neg hl,if_neg hl]
 ·rw [if_neg (show ¬Qcr=_ by decide),show decide (Qcr=(Qk #[43]))=false from rfl,Ff,if_neg (by decide),if_neg (by decide),if_neg (by decide),if_neg (by decide)];simp only [Z3,Yd,X6,Qq,if_false,show decide (Qcr=(Qk #[60]))=false from rfl,show decide (Qcr=(Qk #[61]))=true from rfl,Z0];have hc:=cmp (fun x y=>decide (x.num=y.num)) _ rfl;simp only [Yd,X6,Xu] at hc ⊢;rw [show decide (Qcr=(Qk #[104,101,97,100]))=false from rfl,show decide (Qcr=(Qk #[116,97,105,108]))=false from rfl];simp only [Z3,Yd,X6,Qq,if_false];rw [show (Vy 3 ⟨k,0⟩>>=fun x126=>some (x126.1,x126.2))=some (zV,⟨k,3⟩) from rfl,hc]
  by_cases hl:args.length=2/\(args.getD 0 zV).kind=1/\(args.getD 1 zV).kind=1
  ·rw [if_pos hl,if_pos hl]
   have hne:¬Qcr=Lu:=by decide
   by_cases hlt:(args.getD 0 zV).num=(args.getD 1 zV).num
   ·simp only [hlt,hne,decide_true,if_true,and_self,or_true]
   ·simp only [hlt,hne,decide_false,Qq,if_false,and_false,false_and,or_self]
  ·rw [if_neg hl,if_neg hl]
 ·rw [if_pos (show SQ=(Qk #[108,105,115,116]) from rfl),Ff,if_pos rfl];rfl
 ·rw [if_neg (show ¬Lt=_ by decide),show decide (Lt=(Qk #[43]))=false from rfl,Ff,if_neg (by decide),if_neg (by decide),if_pos rfl];simp only [Z3,Yd,X6,Qq,if_false,show decide (Lt=(Qk #[60]))=false from rfl,show decide (Lt=(Qk #[61]))=false from rfl,show decide (Lt=(Qk #[104,101,97,100]))=true from rfl,show decide (Lt=(Qk #[116,97,105,108]))=false from rfl,Z0]
  by_cases hl:args.length=1/\(args.getD 0 zV).kind=3/\(args.getD 0 zV).items.length≠0
  ·have hg:args.getD 0 zV=args[0]'(by omega):=by simp [Qz,hl.1]
   rw [decide_eq_true hl,if_pos hl,if_pos rfl,show idx args 0=some args[0] from Yf _ 0 (by omega),X6,← hg,show idx (args.getD 0 zV).items 0=some (args.getD 0 zV).items[0] from Yf _ 0 (by omega),X6]
   have:(args.getD 0 zV).items.getD 0 zV=(args.getD 0 zV).items[0]'(by omega):=by
    rw [Qz,List.getElem?_eq_getElem (show 0 < (args.getD 0 zV).items.length by omega)];rfl
   rw [this]
  ·rw [decide_eq_false hl,if_neg hl];rfl
 ·rw [if_neg (show ¬Lv=_ by decide),show decide (Lv=(Qk #[43]))=false from rfl,Ff,if_neg (by decide),if_neg (by decide),if_neg (by decide),if_pos rfl];simp only [Z3,Yd,X6,Qq,if_false,show decide (Lv=(Qk #[60]))=false from rfl,show decide (Lv=(Qk #[61]))=false from rfl,show decide (Lv=(Qk #[104,101,97,100]))=false from rfl,show decide (Lv=(Qk #[116,97,105,108]))=true from rfl,Z0]
  by_cases hl:args.length=1/\(args.getD 0 zV).kind=3/\(args.getD 0 zV).items.length≠0
  ·have hg:args.getD 0 zV=args[0]'(by omega):=by simp [Qz,hl.1]
   rw [decide_eq_true hl,if_pos hl,if_pos rfl,show idx args 0=some args[0] from Yf _ 0 (by omega),X6,← hg]
   have hs:EN (args.getD 0 zV).items 1 ((args.getD 0 zV).items.length:Int)=some ((args.getD 0 zV).items.drop 1):=by
    unfold EN;rw [if_pos ⟨by omega,by omega,by omega⟩];show some (List.take _ (List.drop 1 _))=_;rw [Xo (by rw [Xd];omega)]
   have hs2:∀l:List Val,WO l=some l:=fun l=>by
    rw [WO];unfold EN;rw [if_pos ⟨by omega,by omega,by omega⟩]
    simp
   rw [hs,X6,hs2,X6];rfl
  ·rw [decide_eq_false hl,if_neg hl];rfl
end Go.Proofs.SA
namespace Go.Proofs.SA
theorem Qjl (c:Cor) (env:List Slt) (k:Mch) (h:env.length<=1000000000):∀(n:Nat),n<=env.length->VB c env k ((n:Int) - 1)=some (match (env.take n).reverse.find? (fun s=>decide (s.id=c.id)) with | some s=>.inl (s.val,Mch.mk (IntKind.i64.wrap (k.fuel - 1)) k.code) | none=>.inr ()):=by
 intro n
 induction n with
 | zero=>intro _;rw [VB,if_neg (by omega)];rfl
 | succ n ih =>
  intro hn
  have hl:n < env.length:=by omega
  rw [VB,if_pos (by omega),show ((n+1:Nat):Int) - 1=(n:Int) by omega,Yf env n hl,X6,Xk hl,Xs,Xn,Xp,List.find?_cons]
  by_cases hid:env[n].id=c.id
  ·rw [if_pos hid,X6,decide_eq_true hid];rfl
  ·rw [if_neg hid,decide_eq_false hid,Yz (by omega) (by omega),ih (by omega)]
theorem Qny (l:List ByteArray) (s:ByteArray) (h:l.length<=1000000):Vd l s=some (hasB l s):=by
 have key:∀(r:List ByteArray) (i:Nat),(hasB r s=true->∃k:Nat,Y0 l s i r=some (.inl (k:Int)))/\(hasB r s=false->Y0 l s i r=some (.inr ())):=by
  intro r
  induction r with
  | nil=>intro i;exact ⟨fun h=>(by cases h),fun _=>rfl⟩
  | cons y r ih =>
   intro i;have hc:hasB (y :: r) s=(decide (y=s)||hasB r s):=rfl;rw [Y0,Yd,X6,hc]
   by_cases hxy:s=y
   ·rw [if_pos hxy,decide_eq_true hxy.symm];exact ⟨fun _=>⟨i,rfl⟩,fun h=>by cases h⟩
   ·rw [if_neg hxy,decide_eq_false (fun h=>hxy h.symm),Bool.false_or];exact ih (i+1)
 obtain ⟨h1,h2⟩:=key l 0;rw [Vd,Jf,AM _ _ (by omega)];cases hx:hasB l s
 ·rw [h2 hx,X6];rfl
 ·obtain ⟨k,hk⟩:=h1 hx;rw [hk,X6];simp only [Yd,X6];rw [decide_eq_true (by omega)]
theorem Qhi (s:ByteArray):Vd [(Qk #[108,105,115,116]),(Qk #[43]),(Qk #[60]),(Qk #[61]),(Qk #[104,101,97,100]),(Qk #[116,97,105,108])] s=some (hasB Pk s):=by
 rw [Qny _ _ (by decide)];simp only [hasB,Pk,List.any_cons,List.any_nil,Xm,ND,Lu,Qcr,SQ,Lt,Lv]
 congr 1
 cases decide ((Qk #[108,105,115,116])=s)<;>cases decide ((Qk #[43])=s)<;>cases decide ((Qk #[60])=s)<;>cases decide ((Qk #[61])=s)<;>rfl
theorem Qp7 (l:List Slt):VF l=some l:=by
 rw [VF];unfold EN;rw [if_pos ⟨by omega,by omega,by omega⟩]
 simp
theorem Qi7 (c:Cor) (e0 e1:Int) (f:Val) (args:List Val) (hl:args.length=f.fn.ids.length) (h1:args.length<=1000):∀(r:List Int) (i:Nat) (z:List Slt),f.fn.ids.drop i=r->z.length+r.length<=20000000->VK c e0 e1 f args z i r=some (z++EZ r (args.drop i)):=by
 intro r
 induction r with
 | nil=>intro i z _ _;rw [VK,Yd,EZ.eq_def];simp
 | cons x r ih =>
  intro i z hd hz;simp only [ZD] at hz
  have hi:i < f.fn.ids.length:=by
   rcases KA i f.fn.ids.length with h | h
   ·exact h
   ·rw [Zx h] at hd;cases hd
  rw [Zw hi] at hd
  injection hd with e2 e3
  have hia:i < args.length:=by omega
  rw [VK,Yd,X6,Yf _ _ hia,X6,Yy (by simp only [ZD,ZC];omega),X6,ih (i+1) _ e3 (by rw [QV];simp;omega),Zw hia,EZ,QD];rfl
theorem Qsf (c:Cor) (env:List Slt) (q e:Int) (he:e≠0):YL c env ⟨q,e⟩=some (zV,⟨q,e⟩):=by
 rw [YL,if_neg (show ¬e=0 from he)];rfl
theorem Qt9 (c:Cor) (env:List Slt) (q e:Int) (he:e≠0):∀(r:List Cor) (i:Nat) (z:List Val),z.length+r.length<=100000->∃vs,YZ c env z q e i r=some (vs,q,e):=by
 intro r
 induction r with
 | nil=>intro i z _;exact ⟨z,rfl⟩
 | cons x r ih =>
  intro i z hz;simp only [ZD] at hz;rw [YZ,Yd,X6,Qsf x env q e he,X6,Yy (by simp;omega),X6];exact ih _ _ (by simp;omega)
theorem Qj7 {env:List Slt} (h:∀x∈env,PN x.val) (id:Int):PN (Tn env id):=by
 unfold Tn
 cases hf:env.reverse.find? (fun s=>decide (s.id=id)) with
 | none=>exact .zero
 | some s=>exact h s (List.mem_reverse.1 (Xl hf))
theorem Qke (name:ByteArray) (args:List Val) (h:∀x∈args,PN x):PN (Ff name args).1:=by
 have hg:∀i,PN (args.getD i zV):=fun i=>by
  rw [Qz]
  cases hi:args[i]? with
  | none=>exact .zero
  | some x=>exact h x (Qd hi)
 unfold Ff;split
 ·exact .list h
 split
 ·split
  ·exact .num _
  ·exact .zero
 split
 ·split
  ·show PN ((args.getD 0 zV).items.getD 0 zV);rw [Qz]
   cases hi:(args.getD 0 zV).items[0]? with
   | none=>exact .zero
   | some x=>exact (hg 0).out.2.1 x (Qd hi)
  ·exact .zero
 split
 ·split
  ·exact .list fun x hx=>(hg 0).out.2.1 x (QA hx)
  ·exact .zero
 split
 ·split<;>exact .num _
 ·exact .zero
def EvI (o:Option (Val × Mch)) (e:Val × Int × Nat):Prop:=∃v k,o=some (v,⟨k,e.2.1⟩)/\(e.2.1=0->v=e.1/\k=(e.2.2:Int)/\PN e.1)
theorem Qcx:∀(g:Nat),g<=3001->∀(n:Nat),n<=g->∀(c:Cor),AR c->c.nodes<=600->∀env:List Slt,(∀s∈env,VI n s.val)->(∀s∈env,PN s.val)->env.length+1000 * n<=10000000->EvI (YL c env ⟨(n:Int),0⟩) (evG g c env n):=by
 intro g
 induction g with
 | zero =>
  intro _ n hn c _ _ env _ _ _
  obtain rfl:n=0:=by omega
  rw [YL,if_pos (show Mch.code ⟨((0:Nat):Int),0⟩=0 from rfl),if_pos (show Xw ⟨((0:Nat):Int),0⟩=0 from rfl),evG];exact ⟨_,_,rfl,fun h=>by cases h⟩
 | succ g ih =>
  intro hg n hn c hc hcn env henv hpn hel;have ihg:=ih (by omega);have v8:=Lx g (by omega);rw [YL,if_pos rfl,evG]
  by_cases h0:n=0
  ·subst h0;rw [if_pos (show Xw ⟨((0:Nat):Int),0⟩=0 from rfl),if_pos rfl];exact ⟨_,_,rfl,fun h=>by cases h⟩
  have ew:IntKind.i64.wrap (Xw ⟨(n:Int),0⟩ - 1)=((n - 1:Nat):Int):=by show IntKind.i64.wrap ((n:Int) - 1)=_;rw [Yz (by omega) (by omega)];omega
  rw [if_neg (show ¬Xw ⟨(n:Int),0⟩=0 by show ¬(n:Int)=0;omega),if_neg h0];simp only [ew];obtain ⟨c1,c2,c3,c4,c5,c6,c7⟩:=hc.out;have henv':∀s∈env,VI (n - 1) s.val:=fun s hs=>VI.mono (by omega) _ (henv s hs);have fin:∀{v:Val},PN v->EvI (some (v,⟨((n - 1:Nat):Int),0⟩)) (v,0,n - 1):=fun h=>⟨_,_,rfl,fun _=>⟨rfl,rfl,h⟩⟩
  by_cases k1:c.kind=1
  ·rw [if_pos k1,if_pos k1,Yz (by omega) (by omega),Qjl c env _ (by omega) env.length (Qt _),List.take_length,X6];have hp:=Qj7 hpn c.id;unfold Tn at hp ⊢
   cases hf:env.reverse.find? (fun s=>decide (s.id=c.id)) with
   | none=>rw [hf] at hp;exact fin hp
   | some s =>
    rw [hf] at hp;simp only [ew];exact fin hp
  by_cases k3:c.kind=3
  ·rw [if_neg k1,if_pos k3,if_neg k1,if_pos k3,Qr4,X6];exact fin (.num _)
  by_cases k4:c.kind=4
  ·rw [if_neg k1,if_neg k3,if_pos k4,if_neg k1,if_neg k3,if_pos k4]
   have hdz:c.data.sz<=1000000:=by
    rcases c5 with h | h
    ·have:=h.sz;omega
    ·rw [h];decide
   rw [UB _ hdz,X6];exact fin (.data _)
  by_cases k5:c.kind=5
  ·rw [if_neg k1,if_neg k3,if_neg k4,if_pos k5,if_neg k1,if_neg k3,if_neg k4,if_pos k5];exact fin (.mk (fun h=>by cases h) (by simp) hpn)
  by_cases k2:c.kind=2
  ·rw [if_neg k1,if_neg k3,if_neg k4,if_neg k5,if_pos k2,if_neg k1,if_neg k3,if_neg k4,if_neg k5,if_pos k2,Qhi,X6]
   by_cases hb:hasB Pk c.name=true
   ·rw [if_pos hb,if_pos hb];exact fin (.mk (fun _=>hb) (by simp) (by simp))
   ·rw [if_neg hb,if_neg hb,Ux,X6];exact ⟨_,_,rfl,fun h=>by cases h⟩
  by_cases k7:c.kind=7
  ·rw [if_neg k1,if_neg k3,if_neg k4,if_neg k5,if_neg k2,if_pos k7,if_neg k1,if_neg k3,if_neg k4,if_neg k5,if_neg k2,if_pos k7]
   have hl:c.kids.length=3:=by rcases c1 with h | h | h | h<;>omega
   have l0:0 < c.kids.length:=by omega
   have l1:1 < c.kids.length:=by omega
   have l2:2 < c.kids.length:=by omega
   rw [show idx c.kids 0=some c.kids[0] from Yf _ 0 l0,X6,Vq l0,Vq l1,Vq l2];have q0:=EM hc hcn (ZJ l0);have q1:=EM hc hcn (ZJ l1);have q2:=EM hc hcn (ZJ l2);obtain ⟨_,_,r3,r4⟩:=v8 (n - 1) (by omega) c.kids[0] q0.1 q0.2 env henv' (by omega);obtain ⟨v,k,r1,r2⟩:=ihg (n - 1) (by omega) c.kids[0] q0.1 q0.2 env henv' hpn (by omega);rw [r1,X6];generalize evG g c.kids[0] env (n - 1)=e at r1 r2 r3 r4
   simp only
   by_cases he:e.2.1=0
   rotate_left
   ·rw [if_neg he]
    have st:∀x:Cor,(YL x env ⟨k,e.2.1⟩>>=fun q=>(pure (q.1,q.2):Option (Val × Mch)))=some (zV,⟨k,e.2.1⟩):=fun x=>by rw [Qsf _ _ _ _ he];rfl
    have fin2:EvI (some (zV,⟨k,e.2.1⟩)) (zV,e.2.1,e.2.2):=⟨_,_,rfl,fun h=>absurd h he⟩;simp only [Yd,X6];split
    ·rw [show idx c.kids 2=some c.kids[2] from Yf _ 2 l2,X6];have:=st c.kids[2];simp only [Yd] at this;rw [this];exact fin2
    ·rw [show idx c.kids 1=some c.kids[1] from Yf _ 1 l1,X6];have:=st c.kids[1];simp only [Yd] at this;rw [this];exact fin2
   obtain ⟨rfl,rfl,hpe⟩:=r2 he;rw [if_pos he,he]
   have sub:∀(x:Cor),AR x/\x.nodes<=600->EvI (YL x env ⟨(e.2.2:Int),0⟩>>=fun q=>some (q.1,q.2)) (evG g x env e.2.2):=fun x hx=>by
    obtain ⟨v,k,s1,s2⟩:=ihg e.2.2 (by omega) x hx.1 hx.2 env (fun s hs=>VI.mono (by omega) _ (henv s hs)) hpn (by omega);rw [s1,X6];exact ⟨v,k,rfl,s2⟩
   by_cases hz:e.1.kind=1/\e.1.num=0
   ·rw [decide_eq_true hz.1,decide_eq_true hz.2,if_pos hz];simp only [Xj,Yd,X6,if_true,show idx c.kids 2=some c.kids[2] from Yf _ 2 l2];exact sub _ q2
   ·have hb:(decide (e.1.kind=1)&&decide (e.1.num=0))=false:=by
     by_cases ha:e.1.kind=1
     ·rw [decide_eq_false (fun h=>hz ⟨ha,h⟩),Xq]
     ·rw [decide_eq_false ha,Z3]
    rw [hb,if_neg hz];simp only [Yd,X6,Qq,if_false,show idx c.kids 1=some c.kids[1] from Yf _ 1 l1];exact sub _ q1
  rw [if_neg k1,if_neg k3,if_neg k4,if_neg k5,if_neg k2,if_neg k7,if_neg k1,if_neg k3,if_neg k4,if_neg k5,if_neg k2,if_neg k7]
  have hl:1<=c.kids.length:=by rcases c1 with h | h | h | h<;>omega
  rw [DN _ _ _ _ _ (by omega)]
  have loop:∀(r:List Cor) (i:Nat) (z:List Val) (m:Nat),(∀x∈r,x∈c.kids)->m<=n - 1->z.length+r.length<=1000->(∀v∈z,VI m v)->(∀v∈z,PN v) ->
    match Dy (fun c n=>evG g c env n) r m with
    | .inl (e,k)=>e≠0/\∃vs q,YZ c env z (m:Int) 0 i r=some (vs,q,e)
    | .inr (vs,k)=>YZ c env z (m:Int) 0 i r=some (z++vs,(k:Int),0)/\k<=m/\(∀v∈z++vs,VI k v)/\(∀v∈z++vs,PN v)/\vs.length=r.length:=by
   intro r
   induction r with
   | nil=>intro i z m _ _ _ hz hp;rw [Dy];exact ⟨by rw [YZ,Yd,K7],Qt _,by simpa using hz,by simpa using hp,rfl⟩
   | cons k r ihr =>
    intro i z m hr hm hz hzv hzp;simp only [ZD] at hz;have hk:=EM hc hcn (hr k (KB ..));obtain ⟨_,r2,r3,r4⟩:=v8 m (by omega) k hk.1 hk.2 env (fun s hs=>VI.mono (by omega) _ (henv s hs)) (by omega);obtain ⟨v,kk,r1,r5⟩:=ihg m (by omega) k hk.1 hk.2 env (fun s hs=>VI.mono (by omega) _ (henv s hs)) hpn (by omega);rw [Dy,YZ,Yd,X6,r1,X6];generalize evG g k env m=e at r1 r2 r3 r4 r5
    simp only
    rw [Yy (by simp;omega),X6]
    by_cases he:e.2.1=0
    rotate_left
    ·rw [if_neg he];obtain ⟨vs,hvs⟩:=Qt9 c env kk e.2.1 he r (i+1) (z++[v]) (by simp;omega);exact ⟨he,vs,kk,hvs⟩
    obtain ⟨rfl,rfl,hpe⟩:=r5 he;rw [if_pos he,he]
    have hnext:=ihr (i+1) (z++[e.1]) e.2.2 (fun x hx=>hr x (Kf _ hx)) (by omega) (by simp;omega) (fun v hv=>by
     rcases QR.1 hv with hv | hv
     ·exact VI.mono r3 _ (hzv v hv)
     ·rw [ZF.1 hv];exact r2) (fun v hv=>by
     rcases QR.1 hv with hv | hv
     ·exact hzp v hv
     ·rw [ZF.1 hv];exact hpe)
    cases hE:Dy (fun c n=>evG g c env n) r e.2.2 with
    | inl x=>rw [hE] at hnext;exact hnext
    | inr x =>
     obtain ⟨vs,kk⟩:=x;rw [hE] at hnext;obtain ⟨t1,t2,t3,t4,t5⟩:=hnext;rw [QD] at t1 t3 t4;exact ⟨t1,by omega,t3,t4,by simp [t5]⟩
  have hloop:=loop c.kids 0 [] (n - 1) (fun _ h=>h) (Qt _) (by simp;omega) (by simp) (by simp);show EvI (YZ c env [] ((n - 1:Nat):Int) 0 0 c.kids>>=_) _
  cases hE:Dy (fun c n=>evG g c env n) c.kids (n - 1) with
  | inl x =>
   obtain ⟨e,k⟩:=x;rw [hE] at hloop;obtain ⟨he,vs,q,h1⟩:=hloop;rw [h1,X6]
   simp only
   rw [if_neg he];exact ⟨_,_,rfl,fun h=>absurd h he⟩
  | inr x =>
   obtain ⟨vs,m⟩:=x;rw [hE] at hloop;obtain ⟨t1,t2,t3,t4,t5⟩:=hloop;rw [QS] at t1 t3 t4;rw [t1,X6];simp only [if_true]
   cases vs with
   | nil=>simp at t5;omega
   | cons f args =>
    have hf:=t3 f (KB ..);have hfp:=t4 f (KB ..);have ha:∀v∈args,VI m v:=fun v hv=>t3 v (Kf _ hv);have hap:∀v∈args,PN v:=fun v hv=>t4 v (Kf _ hv)
    have hal:args.length<=600:=by simp at t5;omega
    have hsub:EN (f :: args) 1 ((f :: args).length:Int)=some args:=by
     unfold EN;rw [if_pos ⟨by omega,by simp;omega,by omega⟩]
     simp
    simp only [show idx (f :: args) 0=some f from rfl,X6,hsub];obtain ⟨f1,f2,f3,f4,f5,f6,f7⟩:=hf.out;rw [Qgr]
    by_cases h5:f.kind=5
    ·rw [if_pos h5,if_pos h5,Qkd (m:=m) (by omega) f.name args (hfp.out.1 h5) (by omega) ha,X6];exact ⟨_,_,rfl,fun _=>⟨rfl,rfl,Qke _ _ hap⟩⟩
    rw [if_neg h5,if_neg h5]
    by_cases h4:f.kind=4
    rotate_left
    ·rw [if_neg h4,if_neg h4,Ux,X6];exact ⟨_,_,rfl,fun h=>by cases h⟩
    rw [if_pos h4,if_pos h4]
    by_cases hal2:args.length=f.fn.ids.length
    rotate_left
    ·rw [if_neg (show ¬(args.length:Int)=(f.fn.ids.length:Int) by omega),if_neg hal2,Ux,X6];exact ⟨_,_,rfl,fun h=>by cases h⟩
    rw [if_pos (show (args.length:Int)=(f.fn.ids.length:Int) by omega),if_pos hal2]
    have hfn:AR f.fn/\f.fn.kind=5/\f.fn.nodes<=600:=by
     rcases f4 with h | h
     ·exact h.2
     ·exact absurd h4 h.1
    have hk0:0 < f.fn.kids.length:=by
     have:=hfn.1.out.1
     rcases this with h | h | h | h<;>omega
    have hkid:=EM hfn.1 hfn.2.2 (ZJ hk0);have hfl:=hfn.1.out.2.2.2.1;rw [Qp7,X6,DO _ _ _ _ _ _ (by omega),Qi7 c _ _ f args hal2 (by omega) _ 0 _ (ZZ ..) (by omega),ZZ,X6,show idx f.fn.kids 0=some f.fn.kids[0] from Yf _ 0 hk0,X6,Qp7,X6,Vq hk0];have hbl:=NF f.fn.ids args hal2.symm
    obtain ⟨v,k,s1,s2⟩:=ihg m (by omega) f.fn.kids[0] hkid.1 hkid.2 (f.env++EZ f.fn.ids args) (fun s hs=>by
     rcases QR.1 hs with hs | hs
     ·exact f7 s hs
     ·exact ha _ (Fz _ _ s hs)) (fun s hs=>by
     rcases QR.1 hs with hs | hs
     ·exact hfp.out.2.2 s hs
     ·exact hap _ (Fz _ _ s hs)) (by rw [QV,hbl];omega)
    rw [s1];exact ⟨v,k,rfl,s2⟩
theorem BG {c:Cor} (hc:Ru c) (fuel:Int):HV c fuel=some (O8 c fuel):=by
 obtain ⟨b,hb,hbv⟩:=EL hc;rw [HV,hb,X6,Qa7,X6,O8];cases b
 ·simp only [ZR,if_true,Yd,X6];rw [if_neg (fun h=>by have:=hbv.2 h.1;cases this)];rfl
 have hv:=hbv.1 rfl;simp only [ZS,Qq,if_false,Yd,X6]
 by_cases hf:0<=fuel/\fuel<=3000
 rotate_left
 ·simp only [decide_eq_false hf,ZR,if_true];rw [if_neg (fun h=>hf h.2)];rfl
 simp only [decide_eq_true hf,ZS,Qq,if_false];rw [if_pos ⟨hv,hf⟩];obtain ⟨n,rfl⟩:=Int.eq_ofNat_of_zero_le hf.1;rw [Int.toNat_natCast];obtain ⟨v,k,h1,h2⟩:=Qcx n (by omega) n (Qt _) c hv.ar hv.2 [] (by simp) (by simp) (by simp;omega);obtain ⟨_,h3,_⟩:=Lx n (by omega) n (Qt _) c hv.ar hv.2 [] (by simp) (by simp;omega);rw [h1,X6];generalize evG n c [] n=e at h1 h2 h3
 simp only
 by_cases he:e.2.1=0
 rotate_left
 ·rw [if_neg he,if_neg he];rfl
 obtain ⟨rfl,rfl,_⟩:=h2 he;rw [if_pos he,if_pos he];obtain ⟨s1,s2⟩:=Qhv e.1 h3 2000 (by omega);rw [show ((2000:Nat):Int)=2000 from rfl] at s1 s2
 by_cases hn:e.1.nodes<=2000
 ·rw [s1 hn,X6,if_pos hn,UA _ h3];rfl
 ·obtain ⟨q,hq⟩:=s2 (by omega);rw [hq,X6,if_neg hn];rfl
end Go.Proofs.SA
namespace Go.Proofs.SA
theorem Ny.d {m:Nat} (hm:m<=1000) {c:Cor} (h:Ny m c):Ru c:=by
 induction h with
 | mk hl hd hs hk _ ih=>exact .mk (by omega) (by omega) hd.2 (by omega) (by omega) ih
theorem CIs.d:∀(d:Nat) (sc:List Int) (c:Cor),CIs d sc c->c.nodes<=600->Ru c
 | 0,_,_,h,_=>h.elim
 | d+1,sc,c,h,hn=>by
  have ha:=CIs.ar _ _ _ h hn;obtain ⟨_,a2,_,a4,a5,a6,_⟩:=ha.out;obtain ⟨h1,h2,h3,h4,h5,h6⟩:=h;have hne:=Cor.YA c
  have:=Ru.mk (k:=c.kind) (i:=c.id) (n:=c.num) (l:=c.ids) (d:=c.data) (s:=c.name) (ks:=c.kids) (by omega) (by
   rcases a5 with h | h
   ·have:=h.sz;omega
   ·rw [h];decide) (by
   by_cases hk:c.kind=4
   ·exact (h2.2.2.2.1.1 hk).2
   ·rw [h2.2.2.2.1.2 hk];rfl) (by omega) (by omega) (fun x hx=>CIs.d d _ x (h6 x hx) (by have:=It Xg c.kids x hx;omega))
  rwa [Cor.eta] at this
theorem Ru.b {c:Cor} (h:Ru c):Sy c:=by
 induction h with
 | mk hl hd _ hs hk _ ih=>exact .mk (by omega) (by omega) (by omega) ih
theorem drawn {l:List Int} (h:∀x∈l,0<=x/\x < 256):Tot (GH l) fun r=>Ru r.1/\r.1.nodes<=256000/\(r.2=200∨r.2∈[500,100,20,5,0,3001]) :=
 (Mv h).mono fun r hr=>⟨by
  rcases hr.1 with h | h
  ·exact h.d (by omega)
  ·exact CIs.d _ _ _ h.2.1 h.2.2,hr.2⟩
theorem Qs2 {k:Int} {s:ByteArray} (hs:s.size<=1000000) {n:Int} {l:List Int} (hl:l.length<=1000000) {ks:List Cor} (hk:ks.length<=1000000) (h:∀x∈ks,Ru x):Ru (.mk k 0 s n l (KR 0 (Qk #[]) 0 [] []) ks):=.mk hl (by decide) rfl hs hk h
theorem Qa0 {c:Cor} {fuel:Int} (h:CV c) (h0:0<=fuel/\fuel<=3000):O8 c fuel=(if (evG fuel.toNat c [] fuel.toNat).2.1=0 then (if (evG fuel.toNat c [] fuel.toNat).1.nodes<=2000 then ((evG fuel.toNat c [] fuel.toNat).1,0) else (zV,4)) else (zV,(evG fuel.toNat c [] fuel.toNat).2.1)):=by rw [O8,if_pos ⟨h,h0⟩]
def Qef (c:Cor):Cor:=KQ 5 0 (Qk #[]) 0 [995] (KR 0 (Qk #[]) 0 [] []) [c]
theorem Td {l:List Int} (h:∀x∈l,0<=x/\x < 256):A1 l=some true:=by
 rw [A1];split
 ·rfl
 obtain ⟨⟨c,n⟩,hr,hd,hn,hf⟩:=drawn h;change Ru c at hd;change c.nodes<=256000 at hn;have hfd:Ru (Qef c):=Qs2 (by decide) (by simp) (by simp) (by simp [hd]);obtain ⟨b,hb,hbv⟩:=EL hfd;rw [hr,X6,BG hd,X6,(Uw hd.b (by omega) n).1,X6];simp only [if_true,Yd,X6,decide_true];rw [Qef] at hb;rw [hb,X6,X6];cases b
 ·rfl
 have hv:=hbv.1 rfl
 have e0:O8 (Qef c) 0=(zV,4):=by rw [Qa0 hv (by omega)];rfl
 have e1:O8 (Qef c) 1=(KS 4 0 (Qk #[]) [] (Qef c) [],0):=by
  rw [Qa0 hv (by omega)];have:evG (1:Int).toNat (Qef c) [] (1:Int).toNat=(KS 4 0 (Qk #[]) [] (Qef c) [],0,0):=rfl;rw [this,if_pos rfl,if_pos (by rw [Val.YA];show 1+0+0<=2000;omega)]
 have i0:=BG hfd 0;have i1:=BG hfd 1;have hc:=NY _ hfd (Qef c);have hvi:VI 0 (KS 4 0 (Qk #[]) [] (Qef c) []):=.mk (by decide) (by decide) (by simp) (.inl ⟨rfl,hv.ar,rfl,hv.2⟩) (by simp) (by simp) (by simp);have hsz:=VI.sz _ hvi;rw [show (KS 4 0 (Qk #[]) [] (Qef c) []).nodes=1 by rw [Val.YA];rfl] at hsz;have ht:=RT _ hvi.ok (by omega);rw [e0] at i0;rw [e1] at i1;rw [show VT 40 (KS 4 0 (Qk #[]) [] (Qef c) [])=[35,102,117,110,49] from by rw [VT,if_neg (by show ¬(4:Int)=1;decide),if_neg (by show ¬((4:Int)=2∨(4:Int)=5);decide),if_pos (by show (4:Int)=4;rfl)];show [35,102,117,110]++Lib.itoa 1=_;rw [Lib.itoa,if_neg (by decide),Lib.decDigits_one (by decide)];rfl] at ht;rw [decide_eq_true rfl] at hc;rw [Qef] at i0 i1 hc ht
 have hs:Ar (KS 4 0 (Qk #[]) [] (KQ 5 0 (Qk #[]) 0 [995] (KR 0 (Qk #[]) 0 [] []) [c]) []).fn (KQ 5 0 (Qk #[]) 0 [995] (KR 0 (Qk #[]) 0 [] []) [c])=some true:=by rw [Ar];show (Wi (KQ 5 0 (Qk #[]) 0 [995] (KR 0 (Qk #[]) 0 [] []) [c]) _>>=_)=_;rw [hc];rfl
 have hk:(KS 4 0 (Qk #[]) [] (KQ 5 0 (Qk #[]) 0 [995] (KR 0 (Qk #[]) 0 [] []) [c]) []).kind=4:=rfl;have he:(KS 4 0 (Qk #[]) [] (KQ 5 0 (Qk #[]) 0 [995] (KR 0 (Qk #[]) 0 [] []) [c]) []).env=[]:=rfl;simp only [i0,i1,hs,hk,he,ht,Yd,X6,ZS,Qq,if_false,decide_true,Xj,if_true,ZC,Int.natCast_zero];rfl
end Go.Proofs.SA
