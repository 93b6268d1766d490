/- Patterns, matches and templates as plain functions: what both sides compute. -/
import Derived.Test.YthdghhllcllneaaGreatDoorQa
set_option linter.unusedVariables false
set_option linter.unusedSimpArgs false
set_option maxRecDepth 100000
open Go Go.Proofs Go.Proofs.Shadow
open _root_.Bool renaming false_eq_true → Qq, not_false → ZT, not_true → ZU
open _root_.List renaming mem_cons_of_mem → Kf, length_cons → ZE, getElem?_eq_getElem → Qf, length_append → QV, mem_cons_self → KB, getElem_mem → ZK, getElem?_eq_none → Q4, mem_iff_getElem → ZV, drop_eq_getElem_cons → Zx, pairwise_iff_getElem → Kn, any_cons → ZW, eq_nil_of_length_eq_zero → Kt, getD_eq_getElem?_getD → Qz, length_take → ZX, length_pos_of_mem → ZY, nil_append → QS, length_nil → ZD, mem_cons → Kj, append_assoc → QD, ext_getElem? → Kx, getElem_take → ZZ, range → Z0
open _root_.Nat renaming le_refl → Qt, zero_le → QZ
open Fm renaming nodes → ZL
open _root_.ByteArray renaming mk → Qk
open Tot renaming bind → ZA
namespace Go.Proofs.Shadow
noncomputable instance:DecidableEq Fm:=fun a b=>Classical.propDecidable (a=b)
instance:Inhabited Hit:=⟨.mk Fm.zero 0 Fm.zero []⟩
instance:Inhabited Bnd:=⟨⟨Qk #[],[],0⟩⟩
theorem Hit.eta (h:Hit):Hit.mk h.name h.depth h.one h.many=h:=by cases h;rfl
def FN:ByteArray:=Qk #[46,46,46]
def S6:ByteArray:=Qk #[95]
def Y8 (f:Fm):Bool:=decide (f.kind=1)&&decide (f.name=FN)
def Jt:List Fm->Bool
 | f :: _=>Y8 f
 | []=>false
def Qlg (a b:List Int):Bool:=a.all fun x=>decide (x∈b)
def Qbi (n:Fm):Nat->List Bnd->List Int
 | _,[]=>[]
 | i,b :: l=>if b.name=n.name/\Qlg b.sc n.sc=true then (i:Int) :: Qbi n (i+1) l else Qbi n (i+1) l
def Qew (l:List Bnd) (i:Int):List Int:=(l.getD i.toNat default).sc
def Qti (l:List Bnd) (fit:List Int) (i:Int):Bool:=fit.all fun k=>Qlg (Qew l k) (Qew l i)
def findF (l:List Bnd) (n:Fm):Int × Int :=
 match (Qbi n 0 l).find? (Qti l (Qbi n 0 l)) with
 | some i=>(i,1)
 | none=>if (Qbi n 0 l).length=0 then (0,0) else (0,2)
theorem ED (n:Fm):∀(l:List Bnd) (i:Nat),∀k∈Qbi n i l,(i:Int)<=k/\k < i+l.length
 | [],i,k,hk=>by cases hk
 | b :: l,i,k,hk=>by
  unfold Qbi at hk;simp only [ZE];split at hk
  ·rcases Kj.1 hk with rfl | hk
   ·omega
   ·have:=ED n l (i+1) k hk;omega
  ·have:=ED n l (i+1) k hk;omega
theorem Qbj (n:Fm):∀(l:List Bnd) (i:Nat),(Qbi n i l).length<=l.length
 | [],i=>Qt _
 | b :: l,i=>by
  unfold Qbi;have:=Qbj n l (i+1);split<;>simp only [ZE]<;>omega
theorem Fg {l:List Bnd} {n:Fm} (h:(findF l n).2=1):0<=(findF l n).1/\(findF l n).1 < l.length:=by
 unfold findF at h ⊢;split at h
 ·rename_i i hi;have:=ED n l 0 i (List.mem_of_find?_eq_some hi)
  simp only;omega
 ·split at h<;>cases h
def Oo (l:List Bnd) (a b:Fm):Bool :=
 if (findF l a).2≠(findF l b).2∨(findF l a).2=2 then false
 else if (findF l a).2=0 then decide (a.name=b.name)
 else decide ((l.getD (findF l a).1.toNat default).id=(l.getD (findF l b).1.toNat default).id)
noncomputable def Ul (ls:List Fm) (f:Fm):Bool:=decide (f.kind=1)&&(!decide (f.name=FN))&&(!decide (f.name=S6))&&!decide (f∈ls)
section
variable (ls:List Fm)
mutual
noncomputable def vrs:Fm->List Fm
 | .mk k s n c ks=>(if Ul ls (.mk k s n c ks)=true then [.mk k s n c ks] else [])++RH ks
noncomputable def RH:List Fm->List Fm
 | []=>[]
 | f :: fs=>vrs f++RH fs
end
mutual
noncomputable def dps:Int->Fm->List Int
 | d,.mk k s n c ks=>(if Ul ls (.mk k s n c ks)=true then [d] else [])++UJ d ks
noncomputable def UJ:Int->List Fm->List Int
 | d,[]=>[]
 | d,f :: fs=>dps (if Jt fs=true then d+1 else d) f++UJ d fs
end
mutual
def Qh6:Fm->Bool
 | .mk k s n c ks=>if Y8 (.mk k s n c ks)=true then false else Qaa true 0 ks
def Qaa:Bool->Nat->List Fm->Bool
 | _,n,[]=>decide (n<=1)
 | b,n,f :: fs=>if Y8 f=true then (if b=true then false else Qaa true (n+1) fs) else if Qh6 f=true then Qaa false n fs else false
end
theorem OZ (p:Fm):vrs ls p=(if Ul ls p=true then [p] else [])++RH ls p.kids:=by cases p;rw [vrs];rfl
theorem Qaz (d:Int) (p:Fm):dps ls d p=(if Ul ls p=true then [d] else [])++UJ ls d p.kids:=by cases p;rw [dps];rfl
theorem Sy (p:Fm):Qh6 p=if Y8 p=true then false else Qaa true 0 p.kids:=by cases p;rw [Qh6];rfl
theorem Oq:∀(l:List Fm) (b:Bool) (n:Nat),Qaa b n l=true->(l.filter Y8).length+n<=1
 | [],b,n,h=>by rw [Qaa] at h;simpa using h
 | f :: fs,b,n,h=>by
  rw [Qaa] at h
  by_cases hd:Y8 f=true
  ·rw [if_pos hd] at h;cases b
   ·have:=Oq fs true (n+1) (by simpa using h);rw [List.filter_cons_of_pos hd,ZE];omega
   ·simp at h
  ·rw [if_neg hd] at h;split at h
   ·have:=Oq fs false n h;rw [List.filter_cons_of_neg hd];exact this
   ·cases h
theorem Qh9 {l:List Fm} {n:Nat} (h:Qaa true n l=true):Jt l=false:=by
 cases l with
 | nil=>rfl
 | cons f fs =>
  rw [Qaa] at h;cases hd:Y8 f
  ·exact hd
  ·rw [if_pos hd] at h;simp at h
theorem Sz:∀(l:List Fm) (b:Bool) (n:Nat),Qaa b n l=true->∀f∈l,Y8 f=true∨Qh6 f=true
 | [],b,n,h,f,hf=>by cases hf
 | g :: fs,b,n,h,f,hf=>by
  rw [Qaa] at h
  by_cases hd:Y8 g=true
  ·rw [if_pos hd] at h;cases b
   ·rcases Kj.1 hf with rfl | hf
    ·exact .inl hd
    ·exact Sz fs true (n+1) (by simpa using h) f hf
   ·simp at h
  ·rw [if_neg hd] at h;split at h
   ·rename_i hs
    rcases Kj.1 hf with rfl | hf
    ·exact .inr hs
    ·exact Sz fs false n h f hf
   ·cases h
theorem Qcf:∀(l:List Fm),(∀f∈l,∀d,(vrs ls f).length=(dps ls d f).length)->∀d,(RH ls l).length=(UJ ls d l).length
 | [],_,d=>rfl
 | f :: fs,h,d=>by
  rw [RH,UJ,QV,QV,h f (KB ..),Qcf fs (fun g hg=>h g (Kf _ hg))]
theorem OY (p:Fm):∀d,(vrs ls p).length=(dps ls d p).length:=by
 induction p using Fm.ind with
 | h p ih =>
  intro d;rw [OZ,Qaz,QV,QV,Qcf ls p.kids ih d];split<;>rfl
theorem Qcg:∀(l:List Fm),(∀f∈l,(vrs ls f).length<=f.nodes)->(RH ls l).length<=YY ZL l
 | [],_=>Qt _
 | f :: fs,h=>by
  rw [RH,QV,YY];have:=h f (KB ..);have:=Qcg fs (fun g hg=>h g (Kf _ hg));omega
theorem CM (p:Fm):(vrs ls p).length<=p.nodes:=by
 induction p using Fm.ind with
 | h p ih =>
  rw [OZ,QV,Fm.Yx];have:=Qcg ls p.kids ih;split<;>simp<;>omega
end
noncomputable def Qms (ls:List Fm) (p:Fm) (rows:List (List Hit)):List Hit :=
 (Z0 (vrs ls p).length).map fun i=>.mk ((vrs ls p).getD i default) ((dps ls 0 p).getD i 0+1) Fm.zero (rows.map fun r=>r.getD i default)
def Mx {α β:Type} (g:α->Option β):List α->Option (List β)
 | []=>some []
 | x :: l=>match g x with
  | none=>none
  | some y=>(Mx g l).map (y :: ·)
section
variable (B:List Bnd) (ls:List Fm)
mutual
noncomputable def pm : Fm -> Fm -> Option (List Hit)
  | .mk k s n c ks, f =>
    if k = 1 then
      (if s = S6 then some [] else if .mk k s n c ks ∈ ls then (if f.kind = 1 /\ Oo B (.mk k s n c ks) f = true then some [] else none) else some [.mk (.mk k s n c ks) 0 f []])
    else if k = 2 then (if .mk k s n c ks = f then some [] else none)
    else if f.kind = 3 then
      (if ks.any Y8 = true then (if f.kids.length + 2 < ks.length then none else pmL ks f.kids (f.kids.length + 2 - ks.length))
       else if ks.length = f.kids.length then pmL ks f.kids 0 else none)
    else none
noncomputable def pmL : List Fm -> List Fm -> Nat -> Option (List Hit)
  | [], _, _ => some []
  | p :: ps, fs, n =>
    if Y8 p = true then pmL ps fs n
    else if Jt ps = true then
      (match Mx (pm p) (fs.take n) with
       | none => none
       | some rows => (pmL ps (fs.drop n) n).map (Qms ls p rows ++ ·))
    else match fs with
      | [] => none
      | f :: fs => match pm p f with
        | none => none
        | some hs => (pmL ps fs n).map (hs ++ ·)
end
end
theorem U4 (B:List Bnd) (ls:List Fm) (fs:List Fm) (n:Nat):pmL B ls [] fs n=some []:=by rw [pmL.eq_def]
theorem Sq (B : List Bnd) (ls : List Fm) (p : Fm) (ps fs : List Fm) (n : Nat) : pmL B ls (p :: ps) fs n = if Y8 p = true then pmL B ls ps fs n
    else if Jt ps = true then
      (match Mx (pm B ls p) (fs.take n) with
       | none => none
       | some rows => (pmL B ls ps (fs.drop n) n).map (Qms ls p rows ++ ·))
    else match fs with
      | [] => none
      | f :: fs => match pm B ls p f with
        | none => none
        | some hs => (pmL B ls ps fs n).map (hs ++ ·) := by rw [pmL.eq_def]
theorem Qpa (B : List Bnd) (ls : List Fm) (p f : Fm) : pm B ls p f = if p.kind = 1 then
      (if p.name = S6 then some [] else if p ∈ ls then (if f.kind = 1 /\ Oo B p f = true then some [] else none) else some [.mk p 0 f []])
    else if p.kind = 2 then (if p = f then some [] else none)
    else if f.kind = 3 then
      (if p.kids.any Y8 = true then (if f.kids.length + 2 < p.kids.length then none else pmL B ls p.kids f.kids (f.kids.length + 2 - p.kids.length))
       else if p.kids.length = f.kids.length then pmL B ls p.kids f.kids 0 else none)
    else none := by cases p; rw [pm]; rfl
end Go.Proofs.Shadow
namespace Go.Proofs.Shadow
noncomputable def Qr5 (H:List Hit) (f:Fm):Option Hit:=H.find? fun h=>decide (h.name=f)
noncomputable def Qeu (H:List Hit) (f:Fm):Int:=if f.kind=1 then (match Qr5 H f with | some h=>h.depth | none=>-1) else -1
mutual
noncomputable def PB (H:List Hit):Fm->Bool
 | .mk k s n c ks=>decide (0 < Qeu H (.mk k s n c ks))||Qk4 H ks
noncomputable def Qk4 (H:List Hit):List Fm->Bool
 | []=>false
 | f :: fs=>PB H f||Qk4 H fs
end
def Sk (H:List Hit):List Hit:=H.map fun h=>.mk h.name (if 0 < h.depth then h.depth - 1 else h.depth) h.one []
mutual
noncomputable def Qmv:Fm->List Hit->Bool
 | .mk k s n c ks,H=>!(Y8 (.mk k s n c ks)||decide (0 < Qeu H (.mk k s n c ks)))&&Qlk true ks H
noncomputable def Qlk:Bool->List Fm->List Hit->Bool
 | _,[],_=>true
 | b,t :: ts,H=>if Y8 t=true then !b&&Qlk true ts H
  else if Jt ts=true then PB H t&&Qmv t (Sk H)&&Qlk false ts H
  else Qmv t H&&Qlk false ts H
end
noncomputable def Ls (t x:Fm):Bool:=t.all.any fun g=>decide (g.kind=1)&&decide (g=x)
noncomputable def Dk (t:Fm):List Hit->Int->Int
 | [],n=>n
 | h :: H,n=>if h.depth=0∨Ls t h.name=false then Dk t H n else if 0<=n/\n≠(h.many.length:Int) then -1 else Dk t H h.many.length
noncomputable def Qo1 (t:Fm) (n:Nat) (h:Hit):Hit:=if 0 < h.depth/\Ls t h.name=true then h.many.getD n default else h
noncomputable def Qbw (t:Fm) (H:List Hit) (n:Nat):List Hit:=H.map (Qo1 t n)
mutual
noncomputable def fl:Fm->List Hit->Option Fm
 | .mk k s n c ks,H =>
  match (if k=1 then Qr5 H (.mk k s n c ks) else none) with
  | some h=>if h.depth=0 then some h.one else none
  | none=>match flL ks H with
   | none=>none
   | some out=>if YY ZL out<=400 then some (.mk k s n c out) else none
noncomputable def flL : List Fm -> List Hit -> Option (List Fm)
  | [], _ => some []
  | t :: ts, H =>
    if Y8 t = true then flL ts H
    else if Jt ts = true then
      (if Dk t H (-1) < 0 then none
       else match Mx (fun n => fl t (Qbw t H n)) (Z0 (Dk t H (-1)).toNat) with
        | none => none
        | some ks => (flL ts H).map (ks ++ ·))
    else match fl t H with
      | none => none
      | some k => (flL ts H).map (k :: ·)
end
noncomputable def Mz (p:Fm) (ls:List Fm):List Hit :=
 (Z0 (vrs ls p).length).map fun i=>.mk ((vrs ls p).getD i default) ((dps ls 0 p).getD i 0) (if (dps ls 0 p).getD i 0=0 then (vrs ls p).getD i default else Fm.zero) []
end Go.Proofs.Shadow
namespace Go.Proofs.SA
theorem FIs.mono:∀(d:Nat) (f:Fm),FIs d f->FIs (d+1) f:=by
 intro d
 induction d with
 | zero=>intro f h;exact h.elim
 | succ d ih =>
  intro f h
  rcases h with h | h | h
  ·exact .inl h
  ·exact .inr (.inl h)
  ·exact .inr (.inr ⟨h.1,h.2.1,h.2.2.1,h.2.2.2.1,fun k hk=>ih k (h.2.2.2.2 k hk)⟩)
theorem FIs.kid {d:Nat} {f k:Fm} (h:FIs (d+1) f) (hk:k∈f.kids):FIs d k:=by
 rcases h with h | h | h
 ·have:=ZY hk;omega
 ·have:=ZY hk;omega
 ·exact h.2.2.2.2 k hk
theorem I9 {f k:Fm} (hk:k∈f.kids):k.nodes+1<=f.nodes:=by
 rw [Fm.Yx f];have:=Gl ZL f.kids k hk;omega
theorem Be (f:Fm):1<=f.nodes:=by rw [Fm.Yx];omega
theorem FV.kid {f k:Fm} (h:FV f) (hk:k∈f.kids):FV k:=⟨FIs.mono _ _ (FIs.kid h.1 hk),by have:=I9 hk;have:=h.2;omega⟩
theorem W3:∀l:List Fm,l.length<=YY ZL l
 | []=>Qt _
 | f :: l=>by have:=W3 l;have:=Be f;rw [YY,ZE];omega
theorem FIs.sz:∀(d:Nat) (f:Fm),FIs d f->f.sz+1<=37 * f.nodes:=by
 intro d
 induction d with
 | zero=>intro f h;exact h.elim
 | succ d ih =>
  intro f h;rw [Fm.Gb,Fm.Yx]
  have hsum:∀l:List Fm,(∀g∈l,FIs d g)->YY Fm.sz l+l.length<=37 * YY ZL l:=by
   intro l
   induction l with
   | nil=>intro _;exact Qt _
   | cons g l ihl =>
    intro hg;have h1:=ih g (hg g (KB ..));have h2:=ihl (fun x hx=>hg x (Kf _ hx));simp only [YY,ZE];omega
  rcases h with h | h | h
  ·obtain ⟨h1,h2,h3,h4,h5⟩:=h;have hk:f.kids=[]:=Kt h5
   have hn:f.name.size<=12:=by
    rcases h2 with h2 | h2 | h2
    ·rw [h2];decide
    ·rw [h2];decide
    ·exact h2.2.1
   have:=h4.1;rw [hk];simp [YY];omega
  ·obtain ⟨h1,h2,h3,h4,h5,h6⟩:=h;have hk:f.kids=[]:=Kt h6;rw [hk,h2,h5];have:(Qk #[]).size=0:=rfl;simp [YY,this]
  ·obtain ⟨h1,h2,h3,h4,h5⟩:=h;have:=hsum f.kids h5;rw [h2,h4];have:(Qk #[]).size=0:=rfl;omega
theorem FV.sz {f:Fm} (h:FV f):f.sz<=14800:=by have:=FIs.sz _ _ h.1;have:=h.2;omega
theorem FV.LU {f:Fm} (h:FV f):f.kids.length<=399:=by have:=W3 f.kids;have:=Fm.Yx f;have:=h.2;omega
end Go.Proofs.SA
namespace Go.Proofs.Shadow
def Qkx (n:Int):List Int->List Int
 | []=>[n]
 | x :: l=>if x > n then n :: x :: l else x :: Qkx n l
def Qth (l:List Int) (n:Int):List Int:=if n∈l then l else Qkx n l
def Qac (l:List Int) (n:Int):List Int:=l.filter fun x=>decide (x≠n)
def chS (sc:List Int) (s way:Int):List Int:=if way=2∨(way=1/\s∈sc) then Qac sc s else Qth sc s
mutual
def chg (s way:Int):Fm->Fm
 | .mk k n m sc ks=>.mk k n m (if k=1 then chS sc s way else sc) (Qtj s way ks)
def Qtj (s way:Int):List Fm->List Fm
 | []=>[]
 | f :: fs=>chg s way f :: Qtj s way fs
end
theorem Qgd (s way:Int):∀l,Qtj s way l=l.map (chg s way)
 | []=>rfl
 | f :: fs=>by rw [Qtj,Qgd s way fs];rfl
theorem Qge (s way:Int) (f:Fm):chg s way f=.mk f.kind f.name f.num (if f.kind=1 then chS f.sc s way else f.sc) (f.kids.map (chg s way)):=by cases f;rw [chg,Qgd];rfl
theorem FP (s way:Int) (f:Fm):(chg s way f).nodes=f.nodes:=by
 induction f using Fm.ind with
 | h f ih =>
  rw [Fm.Yx,Fm.Yx f,Qge]
  have:∀l:List Fm,(∀g∈l,(chg s way g).nodes=g.nodes)->YY ZL (l.map (chg s way))=YY ZL l:=by
   intro l
   induction l with
   | nil=>intro _;rfl
   | cons g l ihl=>intro h;rw [List.map_cons,YY,YY,h g (KB ..),ihl (fun x hx=>h x (Kf _ hx))]
  show 1+YY ZL (f.kids.map (chg s way))=_;rw [this _ ih]
theorem Qb3 (n:Int):∀l,(Qkx n l).length=l.length+1
 | []=>rfl
 | x :: l=>by unfold Qkx;split<;>simp [Qb3 n l]
theorem Qnt (sc:List Int) (s way:Int):(chS sc s way).length<=sc.length+1:=by
 unfold chS Qth Qac;split
 ·exact Nat.le_trans (List.length_filter_le _ _) (Nat.le_succ _)
 ·split
  ·omega
  ·rw [Qb3];omega
theorem Qqv (s way:Int) (f:Fm):(chg s way f).sz<=f.sz+f.nodes:=by
 induction f using Fm.ind with
 | h f ih =>
  rw [Fm.Gb,Fm.Gb f,Fm.Yx,Qge]
  have:∀l:List Fm,(∀g∈l,(chg s way g).sz<=g.sz+g.nodes)->YY Fm.sz (l.map (chg s way))<=YY Fm.sz l+YY ZL l:=by
   intro l
   induction l with
   | nil=>intro _;exact Qt _
   | cons g l ihl =>
    intro h;have h1:=h g (KB ..);have h2:=ihl (fun x hx=>h x (Kf _ hx));simp only [List.map_cons,YY];omega
  have h1:=this _ ih;have h2:=Qnt f.sc s way;show f.name.size+(if f.kind=1 then chS f.sc s way else f.sc).length+(f.kids.map (chg s way)).length+YY Fm.sz (f.kids.map (chg s way))<=_;rw [List.length_map];split<;>omega
end Go.Proofs.Shadow
namespace Go.Proofs.Shadow
theorem Di {α β:Type} (F:Nat->List α->Option (β ⊕ Unit)) (p:α->Bool) (b:β) (hn:∀i,F i []=some (.inr ())):∀(l:List α) (i:Nat),(∀x∈l,∀i r,F i (x :: r)=if p x=true then some (.inl b) else F (i+1) r)->F i l=some (if l.any p=true then .inl b else .inr ()):=by
 intro l
 induction l with
 | nil=>intro i _;rw [hn];rfl
 | cons x l ih =>
  intro i hc;rw [hc x (KB ..),ZW];cases hp:p x
  ·rw [if_neg (by simp),ih _ (fun y hy=>hc y (Kf _ hy))];rfl
  ·rfl
theorem Qfq {α β:Type} (F:Nat->List α->Option (β ⊕ Unit)) (a:List α) (p:Nat->α->Bool) (b:β) (hn:∀i,F i []=some (.inr ())) (hc:∀(i:Nat) (hi:i < a.length) r,F i (a[i] :: r)=if p i a[i]=true then some (.inl b) else F (i+1) r) :
  (F 0 a=some (.inl b)/\∃i,∃hi:i < a.length,p i a[i]=true)∨(F 0 a=some (.inr ())/\∀i,∀hi:i < a.length,p i a[i]=false):=by
 have key:∀(n i:Nat),i+n=a.length->(F i (a.drop i)=some (.inl b)/\∃j,i<=j/\∃hj:j < a.length,p j a[j]=true)∨(F i (a.drop i)=some (.inr ())/\∀j,i<=j->∀hj:j < a.length,p j a[j]=false):=by
  intro n
  induction n with
  | zero=>intro i hi;right;rw [show i=a.length by omega,List.drop_length];exact ⟨hn _,fun j h1 h2=>by omega⟩
  | succ n ih =>
   intro i hi
   have hil:i < a.length:=by omega
   rw [Zx hil,hc i hil];cases hp:p i a[i]
   ·rw [if_neg (by simp)]
    rcases ih (i+1) (by omega) with ⟨h1,j,h2,h3,h4⟩ | ⟨h1,h2⟩
    ·exact .inl ⟨h1,j,by omega,h3,h4⟩
    ·refine .inr ⟨h1,fun j hj hjl=>?_⟩
     by_cases hji:j=i
     ·subst hji;exact hp
     ·exact h2 j (by omega) hjl
   ·exact .inl ⟨rfl,i,Qt _,hil,hp⟩
 rcases key a.length 0 (by omega) with ⟨h1,j,_,h3,h4⟩ | ⟨h1,h2⟩
 ·exact .inl ⟨h1,j,h3,h4⟩
 ·exact .inr ⟨h1,fun i hi=>h2 i (QZ _) hi⟩
theorem Qni (l:List Int) (n:Int):(l.any fun x=>decide (x=n))=decide (n∈l):=by
 induction l with
 | nil=>rfl
 | cons x l ih =>
  rw [ZW,ih]
  by_cases h:x=n
  ·subst h;simp
  ·have h2:¬n=x:=fun e=>h e.symm;simp [h,h2]
end Go.Proofs.Shadow
namespace Go.Proofs.SA
abbrev Sm (n:Nat):Prop:=n<=1099511627776
theorem Tx (l:List Int) (n:Int) (h:Sm l.length):GV l n=some (decide (n∈l)):=by
 rw [GV,Ow _ _ (by omega),Di (Iv l n) (fun x=>decide (x=n)) true (fun _=>rfl) l 0 (fun x _ i r=>by
  rw [Iv,Yd,X5];by_cases hx:x=n<;>simp [hx,Yd]),Qni,X5]
 cases decide (n∈l)<;>rfl
theorem Uf (a b:List Int) (h:Sm a.length) (hb:Sm b.length):WB a b=some (Qlg a b):=by
 rw [WB,D0 _ _ (by omega),Di (WC a b) (fun x=>!decide (x∈b)) false (fun _=>rfl) a 0 (fun x _ i r=>by
  rw [WC,Yd,X5,Tx _ _ hb,X5];rfl),X5]
 have:Qlg a b=!(a.any fun x=>!decide (x∈b)):=by unfold Qlg;rw [List.all_eq_not_any_not]
 rw [this];cases (a.any fun x=>!decide (x∈b))<;>rfl
def BS (l:List Bnd):Prop:=Sm l.length/\∀b∈l,Sm b.sc.length
theorem Qdg (l:List Bnd) (n:Fm) (h:BS l) (hn:Sm n.sc.length):Ad l n=some (Qbi n 0 l):=by
 have key:∀(r:List Bnd) (z:List Int) (i:Nat),(∀b∈r,Sm b.sc.length)->z.length+r.length<=1099511627776->We l n z i r=some (z++Qbi n i r):=by
  intro r
  induction r with
  | nil=>intro z i _ _;rw [We,Yd];simp [Qbi]
  | cons b r ih =>
   intro z i hb hz;simp only [ZE] at hz;have hb':=fun x hx=>hb x (Kf b hx);rw [We,Qbi,Yd,X5]
   by_cases hnm:b.name=n.name
   ·rw [if_pos hnm];simp only [X5,Uf _ _ (hb b (KB ..)) hn,Yd];cases hs:Qlg b.sc n.sc
    ·rw [if_neg (by simp),ih z (i+1) hb' (by omega),if_neg (by simp)]
    ·rw [if_pos rfl,YB (by simp;omega),X5,ih _ (i+1) hb' (by simp;omega),if_pos ⟨hnm,rfl⟩,QD];rfl
   ·rw [if_neg hnm];simp only [Yd,X5];rw [if_neg (by simp),ih z (i+1) hb' (by omega),if_neg (by simp [hnm])]
 rw [Ad,FC _ _ _ (by have:=h.1;omega),key l [] 0 h.2 (by have:=h.1;simp;omega)];rfl
theorem EF {α:Type} [Inhabited α] {l:List α} {i:Int} (h0:0<=i) (h:i < l.length):idx l i=some (l.getD i.toNat default):=by
 rw [UP l i h0 h,Qz,Qf (by omega)];rfl
theorem R7 (l:List Bnd) (n:Fm) (h:BS l) (hn:Sm n.sc.length):Aj l n=some (findF l n):=by
 have hr:=ED n l 0;have hlen:=Qbj n l 0;rw [Aj,Qdg l n h hn,X5,findF];have hL:=h.1;generalize hx:Qbi n 0 l=X at hr hlen
 have sm:∀i,Sm (Qew l i).length:=fun i=>by
  unfold Qew;rw [Qz]
  cases hg:l[i.toNat]? with
  | none=>decide
  | some b=>exact h.2 b (List.mem_of_getElem? hg)
 have inner:∀(i:Nat) (hi:i < X.length) (r:List Int) (b:Bool) (j:Nat),(∀k∈r,k∈X)->G1 l n X (i:Int) b j r=some (b&&r.all fun k=>Qlg (Qew l k) (Qew l X[i])):=by
  intro i hi r;have h1:=hr X[i] (ZK hi)
  induction r with
  | nil=>intro b j _;rw [G1,Yd];simp
  | cons k r ih =>
   intro b j hk;have h2:=hr k (hk k (KB ..));have hs:=Uf _ _ (sm k) (sm X[i]);unfold Qew at hs;rw [G1,Yg X i hi];cases b
   ·simp only [Qq,if_false,Yd,X5];rw [ih _ _ (fun x hx=>hk x (Kf _ hx))];rfl
   ·simp only [if_true,Yd,X5,EF (l:=l) (i:=k) (by omega) (by omega),EF (l:=l) (i:=X[i]) (by omega) (by omega),hs];rw [ih _ _ (fun x hx=>hk x (Kf _ hx)),List.all_cons];unfold Qew;simp
 have outer:∀(m i:Nat),i+m=X.length->HN l n X i (X.drop i)=some (match (X.drop i).find? (Qti l X) with | some k=>Sum.inl (k,1) | none=>Sum.inr ()):=by
  intro m
  induction m with
  | zero=>intro i hi;rw [show i=X.length by omega,List.drop_length];rfl
  | succ m ihm =>
   intro i hi
   have hil:i < X.length:=by omega
   rw [Zx hil,HN,M3 _ _ _ _ _ (by omega),inner i hil X true 0 (fun _ hk=>hk),X5,List.find?_cons]
   have hb:Qti l X X[i]=(true&&X.all fun k=>Qlg (Qew l k) (Qew l X[i])):=by rw [Bool.true_and];rfl
   rw [hb];cases (true&&X.all fun k=>Qlg (Qew l k) (Qew l X[i]))
   ·rw [if_neg (by simp),ihm (i+1) (by omega)]
   ·rw [if_pos rfl,Yd,X5];rfl
 have:=outer X.length 0 (by omega);rw [List.drop_zero] at this;rw [M1 _ _ _ (by omega),this,X5]
 cases hf:X.find? (Qti l X) with
 | some k=>rfl
 | none =>
  simp only
  by_cases h0:X.length=0
  ·rw [if_neg (by omega),if_pos h0];rfl
  ·rw [if_pos (by omega),if_neg h0];rfl
theorem Qk7 (l:List Bnd) (a b:Fm) (h:BS l) (ha:Sm a.sc.length) (hb:Sm b.sc.length):BW l a b=some (Oo l a b):=by
 rw [BW,R7 l a h ha,R7 l b h hb,X5,X5,Oo];have ra:=@Fg l a;have rb:=@Fg l b
 have ha3:(findF l a).2=0∨(findF l a).2=1∨(findF l a).2=2:=by
  unfold findF;split
  ·exact .inr (.inl rfl)
  ·split
   ·exact .inl rfl
   ·exact .inr (.inr rfl)
 generalize findF l a=x at *;generalize findF l b=y at *;obtain ⟨x1,x2⟩:=x;obtain ⟨y1,y2⟩:=y;simp only at ra rb ha3 ⊢
 by_cases h1:x2=y2
 ·subst h1
  rcases ha3 with h | h | h
  ·subst h;rfl
  ·subst h;have q1:=ra rfl;have q2:=rb rfl;rw [Yd,X5,if_neg (by simp),if_neg (by simp),EF (l:=l) q1.1 q1.2,EF (l:=l) q2.1 q2.2,X5,X5];rfl
  ·subst h;rfl
 ·rw [Yd,X5,if_pos (by simp [h1]),if_pos (.inl h1)];rfl
end Go.Proofs.SA
namespace Go.Proofs.SA
theorem R9 (a b:List Int) (h:Sm a.length):A2 a b=some (decide (a=b)):=by
 rw [A2]
 by_cases hl:a.length=b.length
 ·rw [if_pos (by omega),MW _ _ (by omega)]
  rcases Qfq (HM a b) a (fun i x=>!decide (some x=b[i]?)) false (fun _=>rfl) (fun i hi r=>by
   rw [HM,Yd,X5,Yg b i (by omega),X5];have:b[i]?=some b[i]:=Qf _
   by_cases hx:a[i]=b[i]<;>simp [hx,this,Yd]) with ⟨h1,i,hi,hp⟩ | ⟨h1,hp⟩
  ·rw [h1,X5,decide_eq_false];rfl;rintro rfl;simp at hp
  ·rw [h1,X5,decide_eq_true];rfl;apply Kx;intro i
   by_cases hi:i < a.length
   ·have:=hp i hi;rw [Qf hi];simpa using this
   ·rw [Q4 (by omega),Q4 (by omega)]
 ·rw [if_neg (by omega),decide_eq_false (fun h=>hl (by rw [h]))];rfl
def bOk (b:Bnd):Prop:=NV b.name/\SV b.sc/\1<=b.id/\b.id<=999
def bEq (a b:Bnd):Prop:=a.name=b.name/\a.sc=b.sc
def BV (l:List Bnd):Prop:=l.length<=60/\(∀b∈l,bOk b)/\l.Pairwise fun a b=>¬bEq a b
theorem SV.len {l:List Int} (h:SV l):l.length<=24:=h.1
theorem BV.bs {l:List Bnd} (h:BV l):BS l:=⟨by have:=h.1;unfold Sm;omega,fun b hb=>by have:=(h.2.1 b hb).2.1.len;unfold Sm;omega⟩
theorem bv1 {l:List Bnd} (hs:BS l) {j:Nat} (hj:j < l.length):∀(n k:Nat),k+n=j->Tot (Wa l j k) fun o=>match o with | .inl r=>r=false/\∃k',∃h:k' < j,bEq l[k'] l[j] | .inr _=>∀k',k<=k'->∀h:k' < j,¬bEq l[k'] l[j]:=by
 intro n
 induction n with
 | zero=>intro k hk;rw [Wa,if_neg (by omega)];exact ⟨_,rfl,fun k' h1 h2=>by omega⟩
 | succ n ih =>
  intro k hk;rw [Wa,if_pos (by omega),Yg l k (by omega),Yg l j hj];simp only [X5];have w:=Wu (i:=k) (by have:=hs.1;unfold Sm at this;omega);have hi:=R9 l[k].sc l[j].sc (hs.2 _ (ZK _))
  by_cases h1:l[k].name=l[j].name
  ·rw [if_pos h1];simp only [hi,Yd,X5,w]
   by_cases h2:l[k].sc=l[j].sc
   ·rw [if_pos (by simp [h2])];exact ⟨_,rfl,rfl,k,by omega,h1,h2⟩
   ·rw [if_neg (by simp [h2])];refine (ih (k+1) (by omega)).mono fun o ho=>?_
    cases o with
    | inl r=>exact ho
    | inr u =>
     exact fun k' h3 h4=>by
      by_cases hk':k'=k
      ·subst hk';exact fun h5=>h2 h5.2
      ·exact ho k' (by omega) h4
  ·rw [if_neg h1];simp only [Yd,X5,w,Qq,if_false];refine (ih (k+1) (by omega)).mono fun o ho=>?_
   cases o with
   | inl r=>exact ho
   | inr u =>
    exact fun k' h3 h4=>by
     by_cases hk':k'=k
     ·subst hk';exact fun h5=>h1 h5.1
     ·exact ho k' (by omega) h4
theorem bv0 {l:List Bnd} (hs:BS l):∀(n j:Nat),j+n=61->Tot (V9 l j) fun o=>match o with | .inl r=>r=false/\∃j',∃h:j' < l.length,¬(bOk l[j']/\∀k',∀h2:k' < j',¬bEq l[k'] l[j']) | .inr _=>∀j',j<=j'->j'<=60->∀h:j' < l.length,bOk l[j']/\∀k',∀h2:k' < j',¬bEq l[k'] l[j']:=by
 intro n
 induction n with
 | zero=>intro j hj;rw [V9,Yd,X5,if_neg (by simp;omega)];exact ⟨_,rfl,fun j' h1 h2=>by omega⟩
 | succ n ih =>
  intro j hj;rw [V9,Yd,X5]
  by_cases hjl:j < l.length
  rotate_left
  ·rw [if_neg (by simp;omega)];exact ⟨_,rfl,fun j' h1 h2 h3=>by omega⟩
  rw [if_pos (by simp;omega),Yg l j hjl];simp only [X5];refine ZA (UX _) fun b1 hb1=>?_
  have bad:¬bOk l[j]->Tot (pure (Sum.inl false):Option (Bool ⊕ Unit)) fun o=>match o with | .inl r=>r=false/\∃j',∃h:j' < l.length,¬(bOk l[j']/\∀k',∀h2:k' < j',¬bEq l[k'] l[j']) | .inr _=>∀j',j<=j'->j'<=60->∀h:j' < l.length,bOk l[j']/\∀k',∀h2:k' < j',¬bEq l[k'] l[j']:=fun h=>⟨_,rfl,rfl,j,hjl,fun h2=>h h2.1⟩
  cases b1
  ·simp only [ZT,if_true,Yd,X5]
   exact bad fun h=>by have:=hb1.2 h.1;cases this
  simp only [ZU,Qq,if_false];obtain ⟨b2,e2,hb2⟩:=Qii l[j].sc;rw [e2];simp only [Yd,X5];cases b2
  ·simp only [ZT,if_true,Yd,X5]
   exact bad fun h=>by have:=hb2.2 h.2.1;cases this
  simp only [ZU,Qq,if_false,Yd,X5]
  by_cases h3:l[j].id < 1
  ·simp only [h3,decide_true,if_true,Yd,X5]
   exact bad fun h=>by have:=h.2.2.1;omega
  simp only [h3,decide_false,Qq,if_false,Yd,X5]
  by_cases h4:l[j].id > 999
  ·simp only [h4,decide_true,if_true]
   exact bad fun h=>by have:=h.2.2.2;omega
  simp only [h4,decide_false,Qq,if_false];have hok:bOk l[j]:=⟨hb1.1 rfl,hb2.1 rfl,by omega,by omega⟩;refine ZA (bv1 hs hjl j 0 (by omega)) fun o ho=>?_
  cases o with
  | inl r=>exact ⟨_,rfl,ho.1,j,hjl,fun h=>by obtain ⟨k',h5,h6⟩:=ho.2;exact h.2 k' h5 h6⟩
  | inr u =>
   simp only [Wu (i:=j) (by omega)];refine (ih (j+1) (by omega)).mono fun o ho2=>?_
   cases o with
   | inl r=>exact ho2
   | inr u =>
    exact fun j' h5 h6 h7=>by
     by_cases hj':j'=j
     ·subst hj';exact ⟨hok,fun k' h8=>ho k' (QZ _) h8⟩
     ·exact ho2 j' (by omega) h6 h7
theorem BG {l:List Bnd} (hs:BS l):Tot (GZ l) fun b=>b=true↔BV l:=by
 rw [GZ];refine ZA (bv0 hs 61 0 (by omega)) fun o ho=>?_
 cases o with
 | inl r =>
  obtain ⟨h0,j,hj,hn⟩:=ho;subst h0;refine ⟨_,rfl,fun h=>(by cases h),fun h=>absurd ⟨h.2.1 _ (ZK hj),fun k' h2=>?_⟩ hn⟩;exact Kn.1 h.2.2 k' j (by omega) hj h2
 | inr u =>
  refine ⟨_,rfl,?_⟩;simp only [decide_eq_true_iff];constructor
  ·intro hl;refine ⟨by omega,fun b hb=>?_,Kn.2 fun i j hi hj hij=>(ho j (QZ _) (by omega) hj).2 i hij⟩;obtain ⟨i,hi,rfl⟩:=ZV.1 hb;exact (ho i (QZ _) (by omega) hi).1
  ·intro h;have:=h.1;omega
theorem Qbp {f:Fm} (hf:f.sz < 1000000000):Tot (Db f) fun b=>b=true↔f.kind=1/\FV f:=by
 rw [Db]
 by_cases h:f.kind=1
 ·rw [if_pos h];refine ZA (ZA (Ah hf) fun b hb=>⟨b,rfl,hb⟩) fun b hb=>⟨b,rfl,?_⟩;simp only [hb,h,true_and]
 ·rw [if_neg h];refine ⟨false,rfl,?_⟩;simp [h]
theorem Qjq (l:List Bnd) (h:BS l) (h2:l.length<=1000000):Ac l=some l:=by
 rw [Ac,FA _ _ (by omega),G9 (JY l) id (fun _ _=>rfl) l [] 0 (fun x hx z i r hz=>by
  have:=h.2 x hx;unfold Sm at this
  rw [JY,Yd,X5,YB (by simp;omega),X5,YB (by simp;omega),X5];rfl) (by simp;omega)]
 simp [X5,Yd]
theorem SY {l:List Bnd} (hs:BS l) (h2:l.length<=1000000) {f:Fm} (hf:f.sz < 1000000000) (id:Int):Tot (Bf l f id) fun r=>(r.2=true/\r.1=l++[⟨f.name,f.sc,id⟩]/\f.kind=1/\FV f/\BV l/\BV (l++[⟨f.name,f.sc,id⟩]))∨(r.2=false/\r.1=[]/\¬(f.kind=1/\FV f/\BV l/\BV (l++[⟨f.name,f.sc,id⟩]))):=by
 have hz:=Fm.T1 f;rw [Bf];refine ZA (BG hs) fun b hb=>?_;cases b
 ·simp only [ZT,if_true,Yd,X5];exact ⟨_,rfl,.inr ⟨rfl,rfl,fun h=>by have:=hb.2 h.2.2.1;cases this⟩⟩
 simp only [ZU,Qq,if_false];obtain ⟨b2,e2,hb2⟩:=Qbp hf;rw [e2];simp only [Yd,X5];cases b2
 ·simp only [ZT,if_true];exact ⟨_,rfl,.inr ⟨rfl,rfl,fun h=>by have:=hb2.2 ⟨h.1,h.2.1⟩;cases this⟩⟩
 simp only [ZU,Qq,if_false];rw [Qjq l hs h2,X5,YB (by simp;omega),X5,YB (by simp;omega),X5];simp only [QS]
 have hs':BS (l++[⟨f.name,f.sc,id⟩]):=⟨by simp only [QV,ZE,ZD];unfold Sm;omega,fun b hb=>by
  rcases List.mem_append.1 hb with h | h
  ·exact hs.2 b h
  ·rw [List.mem_singleton.1 h];show f.sc.length<=_;omega⟩
 obtain ⟨b3,e3,hb3⟩:=BG hs';rw [e3,X5];cases b3
 ·simp only [ZT,if_true];exact ⟨_,rfl,.inr ⟨rfl,rfl,fun h=>by have:=hb3.2 h.2.2.2;cases this⟩⟩
 ·simp only [ZU,Qq,if_false];exact ⟨_,rfl,.inl ⟨rfl,rfl,(hb2.1 rfl).1,(hb2.1 rfl).2,hb.1 rfl,hb3.1 rfl⟩⟩
theorem Qcc (l:List Int) (n:Int) (h:l.length<=1000000):A3 l n=some (Qac l n):=by
 have key:∀(r z:List Int) (i:Nat),z.length+r.length<=1000000->JM l n z i r=some (z++Qac r n):=by
  intro r
  induction r with
  | nil=>intro z i _;rw [JM,Yd];simp [Qac]
  | cons x r ih =>
   intro z i hz;simp only [ZE] at hz;rw [JM,Yd,X5]
   by_cases hx:x=n
   ·rw [if_pos hx,ih _ _ (by omega)];simp [Qac,hx]
   ·rw [if_neg hx,X5,YB (by simp;omega),X5,ih _ _ (by simp;omega)];simp [Qac,hx]
 rw [A3,M0 _ _ _ (by omega),key l [] 0 (by simp;omega)];rfl
theorem Qhy (l:List Int) (n:Int) (h:l.length<=1000000):BD l n=some (Qth l n):=by
 have key:∀(r z:List Int) (b:Bool) (i:Nat),z.length+r.length+(if b=true then 0 else 1)<=1000002->Hx l n z b i r=some (if b=true then (z++r,true) else if r.any (fun x=>decide (x > n))=true then (z++Qkx n r,true) else (z++r,false)):=by
  intro r
  induction r with
  | nil=>intro z b i _;rw [Hx,Yd];cases b<;>simp
  | cons x r ih =>
   intro z b i hz;simp only [ZE] at hz;rw [Hx];cases b
   ·rw [if_neg (by simp)] at hz;simp only [ZT,if_true,Yd,X5,Qq,if_false,ZW,Bool.or_eq_true,decide_eq_true_eq]
    by_cases hx:x > n
    ·rw [if_pos hx,YB (by simp only [QV,ZE,ZD];omega)];simp only [X5];rw [YB (by simp;omega)];simp only [X5];rw [ih _ true _ (by simp;omega),if_pos rfl,if_pos (.inl hx),Qkx,if_pos hx]
     simp
    ·rw [if_neg hx];simp only [X5];rw [YB (by simp;omega)];simp only [X5];rw [ih _ false _ (by simp;omega),if_neg (by simp),Qkx,if_neg hx]
     have e:(x > n∨(r.any fun x=>decide (x > n))=true)↔(r.any fun x=>decide (x > n))=true:=by simp [hx]
     simp only [QD,List.singleton_append]
     by_cases hr:(r.any fun x=>decide (x > n))=true
     ·rw [if_pos hr,if_pos (e.2 hr)]
     ·rw [if_neg hr,if_neg (fun h=>hr (e.1 h))]
   ·rw [if_pos rfl] at hz;simp only [ZU,Qq,if_false,Yd,X5,if_true];rw [YB (by simp;omega)];simp only [X5];rw [ih _ true _ (by simp;omega),if_pos rfl]
    simp
 have tail:∀r:List Int,(r.any fun x=>decide (x > n))=false->Qkx n r=r++[n]:=by
  intro r
  induction r with
  | nil=>intro _;rfl
  | cons x r ih =>
   intro hr;rw [ZW,Bool.or_eq_false_iff] at hr;rw [Qkx,if_neg (by simpa using hr.1),ih hr.2];rfl
 rw [BD,Tx _ _ (by unfold Sm;omega),X5,Ox _ _ _ _ (by omega),key l [] _ 0 (by simp only [ZD];split<;>omega),X5,Qth]
 by_cases hm:n∈l
 ·simp [hm,Yd]
 ·simp only [hm,decide_false,Qq,if_false,QS]
  by_cases hr:(l.any fun x=>decide (x > n))=true
  ·rw [if_pos hr];rfl
  ·rw [if_neg hr];simp only [ZT,if_true];rw [YB (by simp;omega),tail l (by simpa using hr)];rfl
theorem BH (s w:Int):∀f:Fm,f.sz<=1000000->Vi f s w=some (chg s w f):=by
 intro f
 induction f using Fm.ind with
 | h f ih =>
  intro hf;have hz:=Fm.Gb f
  have hS:(if f.kind=1 then
   (((if w=2 then pure true else ((if w=1 then (GV f.sc s>>=fun x32=>pure x32) else pure false:Option Bool)>>=fun x33=>pure x33):Option Bool))>>=fun x34 =>
    if x34=true then (A3 f.sc s>>=fun x38=>pure x38) else (BD f.sc s>>=fun x43=>pure x43)) else pure f.sc:Option (List Int))=some (if f.kind=1 then chS f.sc s w else f.sc):=by
   by_cases h1:f.kind=1
   ·rw [if_pos h1,if_pos h1,chS]
    by_cases h2:w=2
    ·simp [h2,Yd,X5,Qcc f.sc s (by omega)]
    ·by_cases h3:w=1
     ·subst h3;simp only [h2,if_false,if_true,Tx _ _ (show Sm f.sc.length by unfold Sm;omega),Yd,X5,false_or,true_and]
      by_cases h4:s∈f.sc
      ·simp [h4,Qcc f.sc s (by omega),X5]
      ·simp [h4,Qhy f.sc s (by omega),X5]
     ·simp [h2,h3,Yd,X5,Qhy f.sc s (by omega)]
   ·rw [if_neg h1,if_neg h1];rfl
  rw [Vi,YB (by simp;omega),X5,QS,hS,X5,Li _ _ _ _ _ (by omega),
   G9 (GU f s w _) (chg s w) (fun _ _=>rfl) f.kids [] 0 (fun x hx z i r hzb=>by
    have:=Fm.Hb hx
    rw [GU,Yd,X5,ih x hx (by omega),X5,YB (by simp;omega),X5]) (by simp;omega),X5,Qge]
  simp [Yd]
end Go.Proofs.SA
open Go.IntKind (i64)
namespace Go.Proofs.SA
theorem Fm.ext_iff {a b:Fm} : a=b↔a.kind=b.kind/\a.name=b.name/\a.num=b.num/\a.sc=b.sc/\a.kids=b.kids:=by
 cases a;cases b;simp [Fm.kind,Fm.name,Fm.num,Fm.sc,Fm.kids]
theorem EI:∀a:Fm,a.sz<=1000000->∀b:Fm,Vh a b=some (decide (a=b)):=by
 intro a
 induction a using Fm.ind with
 | h a ih =>
  intro ha b;have hz:=Fm.Gb a
  have hd:∀(P:Prop) [Decidable P],(a=b↔P)->decide (a=b)=decide P:=fun P _ h=>by simp only [h]
  rw [Vh]
  by_cases h1:a.kind=b.kind
  rotate_left
  ·rw [decide_eq_false (fun h=>h1 (Fm.ext_iff.1 h).1)];simp [h1,Yd,X5]
  by_cases h2:a.name=b.name
  rotate_left
  ·rw [decide_eq_false (fun h=>h2 (Fm.ext_iff.1 h).2.1)];simp [h1,h2,Yd,X5]
  by_cases h3:a.num=b.num
  rotate_left
  ·rw [decide_eq_false (fun h=>h3 (Fm.ext_iff.1 h).2.2.1)];simp [h1,h2,h3,Yd,X5]
  by_cases h4:a.sc=b.sc
  rotate_left
  ·rw [decide_eq_false (fun h=>h4 (Fm.ext_iff.1 h).2.2.2.1)];simp [h1,h2,h3,h4,Yd,X5,R9 a.sc b.sc (by unfold Sm;omega)]
  by_cases h5:a.kids.length=b.kids.length
  rotate_left
  ·rw [show decide (a=b)=false from decide_eq_false (fun h=>h5 (by rw [h]))]
   have:¬(a.kids.length:Int)=(b.kids.length:Int):=by omega
   simp [h1,h2,h3,h4,h5,this,Yd,X5,R9 b.sc b.sc (by rw [← h4];unfold Sm;omega)]
  have h6:(a.kids.length:Int)=(b.kids.length:Int):=by omega
  simp only [h1,h2,h3,h4,h6,decide_true,ZU,Bool.or_false,Yd,X5,Qq,if_false,R9 b.sc b.sc (show Sm b.sc.length by rw [← h4];unfold Sm;omega)];rw [Lf _ _ (by omega)]
  rcases Qfq (GS a b) a.kids (fun i x=>!decide (some x=b.kids[i]?)) false (fun _=>rfl) (fun i hi r=>by
   have hm:a.kids[i]∈a.kids:=ZK hi;have:=Fm.Hb hm;rw [GS,Yd,X5,Yg b.kids i (by omega),X5,ih _ hm (by omega),X5];have hg:b.kids[i]?=some (b.kids[i]'(by omega)):=Qf _;rw [hg];simp only [Option.some.injEq]
   by_cases hx:a.kids[i]=b.kids[i]<;>simp [hx,Yd]) with ⟨h7,i,hi,hp⟩ | ⟨h7,hp⟩
  ·have e:decide (a=b)=false:=decide_eq_false (fun h=>by
    have h8:some a.kids[i]=b.kids[i]?:=by rw [← h];exact (Qf hi).symm
    rw [decide_eq_true h8] at hp
    cases hp)
   rw [h7,e];rfl
  ·have e:decide (a=b)=true:=decide_eq_true ?_
   ·rw [h7,e];rfl
   refine Fm.ext_iff.2 ⟨h1,h2,h3,h4,Kx fun i=>?_⟩
   by_cases hi:i < a.kids.length
   ·have:=hp i hi;rw [Qf hi];simpa using this
   ·rw [Q4 (by omega),Q4 (by omega)]
def FS (l:List Fm):Prop:=Sm l.length/\∀f∈l,f.sz<=1000000
theorem Qbn (l:List Fm) (f:Fm) (h:FS l):AM l f=some (decide (f∈l)):=by
 have:∀l:List Fm,(l.any fun x=>decide (x=f))=decide (f∈l):=by
  intro l
  induction l with
  | nil=>rfl
  | cons x l ih =>
   rw [ZW,ih]
   by_cases h:x=f
   ·subst h;simp
   ·have h2:¬f=x:=fun e=>h e.symm;simp [h,h2]
 rw [AM,PK _ _ (by have:=h.1;omega),Di (IV l f) (fun x=>decide (x=f)) true (fun _=>rfl) l 0 (fun x hx i r=>by
  rw [IV,Yd,X5,EI x (h.2 x hx),X5];rfl),this,X5]
 cases decide (f∈l)<;>rfl
theorem Cx (f:Fm):YZ f=some (Y8 f):=rfl
def Qex (l:List Fm):Prop:=l.length < 10/\(∀x∈l,x.kind=1/\FV x/\x.name≠FN/\x.name≠S6)/\l.Nodup
theorem EH {α:Type} {l:List α} : l.Nodup↔∀i,∀h:i < l.length,l[i]∉l.take i:=by
 rw [List.Nodup,Kn];constructor
 ·intro h i hi hm;obtain ⟨j,hj,e⟩:=ZV.1 hm;rw [ZX] at hj;rw [ZZ] at e;exact h j i (by omega) hi (by omega) e
 ·intro h i j hi hj hij e;refine h j hj (ZV.2 ⟨i,by rw [ZX];omega,?_⟩);rw [ZZ];exact e
theorem TD {α:Type} (l:List α) (i:Nat) (h:i<=l.length):E4 l 0 (i:Int)=some (l.take i):=by
 unfold E4;rw [if_pos ⟨by omega,by omega,by omega⟩]
 simp
theorem Qup {l:List Fm} (hs:FS l):∀(n i:Nat),i+n=10->Tot (Wf l i) fun o=>match o with
  | .inl r=>r=false/\∃j,∃h:j < l.length,¬((l[j].kind=1/\FV l[j]/\l[j].name≠FN/\l[j].name≠S6)/\l[j]∉l.take j)
  | .inr _=>∀j,i<=j->j < 10->∀h:j < l.length,(l[j].kind=1/\FV l[j]/\l[j].name≠FN/\l[j].name≠S6)/\l[j]∉l.take j:=by
 intro n
 induction n with
 | zero=>intro i hi;rw [Wf,Yd,X5,if_neg (by simp;omega)];exact ⟨_,rfl,fun j h1 h2=>by omega⟩
 | succ n ih =>
  intro i hi;rw [Wf,Yd,X5]
  by_cases hil:i < l.length
  rotate_left
  ·rw [if_neg (by simp;omega)];exact ⟨_,rfl,fun j h1 h2 h3=>by omega⟩
  rw [if_pos (by simp;omega),Yg l i hil];simp only [X5];have hm:l[i]∈l:=ZK hil
  have bad:¬((l[i].kind=1/\FV l[i]/\l[i].name≠FN/\l[i].name≠S6)/\l[i]∉l.take i)->Tot (pure (Sum.inl false):Option (Bool ⊕ Unit)) fun o=>match o with
   | .inl r=>r=false/\∃j,∃h:j < l.length,¬((l[j].kind=1/\FV l[j]/\l[j].name≠FN/\l[j].name≠S6)/\l[j]∉l.take j)
   | .inr _=>∀j,i<=j->j < 10->∀h:j < l.length,(l[j].kind=1/\FV l[j]/\l[j].name≠FN/\l[j].name≠S6)/\l[j]∉l.take j:=fun h=>⟨_,rfl,rfl,i,hil,h⟩
  obtain ⟨b1,e1,hb1⟩:=Qbp (f:=l[i]) (by have:=hs.2 _ hm;omega);rw [e1,X5];cases b1
  ·simp only [ZT,if_true,Yd,X5]
   exact bad fun h=>by have:=hb1.2 ⟨h.1.1,h.1.2.1⟩;cases this
  simp only [ZU,Qq,if_false,Yd,X5];have hb:=hb1.1 rfl
  by_cases h2:l[i].name=FN
  ·have h2':=h2;unfold FN at h2';simp only [h2',decide_true,if_true,Yd,X5];exact bad fun h=>h.1.2.2.1 h2
  have h2':=h2;unfold FN at h2';simp only [h2',decide_false,Qq,if_false,Yd,X5]
  by_cases h3:l[i].name=S6
  ·have h3':=h3;unfold S6 at h3';simp only [h3',decide_true,if_true,Yd,X5];exact bad fun h=>h.1.2.2.2 h3
  have h3':=h3;unfold S6 at h3';simp only [h3',decide_false,Qq,if_false,Yd,X5,TD l i (by omega)];rw [Qbn (l.take i) l[i] ⟨by have:=hs.1;unfold Sm at *;rw [ZX];omega,fun f hf=>hs.2 f (List.mem_of_mem_take hf)⟩,X5];simp only [X5]
  by_cases h4:l[i]∈l.take i
  ·simp only [h4,decide_true,if_true];exact bad fun h=>h.2 h4
  simp only [h4,decide_false,Qq,if_false,Wu (i:=i) (by omega)];refine (ih (i+1) (by omega)).mono fun o ho=>?_
  cases o with
  | inl r=>exact ho
  | inr u =>
   exact fun j h5 h6 h7=>by
    by_cases hj:j=i
    ·subst hj;exact ⟨⟨hb.1,hb.2,h2,h3⟩,h4⟩
    ·exact ho j (by omega) h6 h7
theorem F9 {l:List Fm} (hs:FS l):Tot (HP l) fun b=>b=true↔Qex l:=by
 rw [HP];refine ZA (Qup hs 10 0 (by omega)) fun o ho=>?_
 cases o with
 | inl r =>
  obtain ⟨h0,j,hj,hn⟩:=ho;subst h0;exact ⟨_,rfl,fun h=>(by cases h),fun h=>absurd ⟨h.2.1 _ (ZK hj),EH.1 h.2.2 j hj⟩ hn⟩
 | inr u =>
  refine ⟨_,rfl,?_⟩;simp only [decide_eq_true_iff];constructor
  ·intro hl;refine ⟨by omega,fun b hb=>?_,EH.2 fun i hi=>(ho i (QZ _) (by omega) hi).2⟩;obtain ⟨i,hi,rfl⟩:=ZV.1 hb;exact (ho i (QZ _) (by omega) hi).1
  ·intro h;have:=h.1;omega
theorem Qh8:∀p:Fm,p.sz<=1000000->H2 p=some (Qh6 p):=by
 intro p
 induction p using Fm.ind with
 | h p ih =>
  intro hp;have hz:=Fm.Gb p
  have loop:∀(r:List Fm) (i:Nat) (n:Nat) (b:Bool),p.kids.drop i=r->n<=i->(b=true↔i=0∨∃h:i - 1 < p.kids.length,0 < i/\Y8 p.kids[i - 1]=true) ->
    Tot (J2 p (n:Int) i r) fun o=>match o with | .inl r'=>r'=false/\Qaa b n r=false | .inr m=>decide (m<=1)=Qaa b n r:=by
   intro r
   induction r with
   | nil=>intro i n b _ _ _;exact ⟨_,rfl,by rw [Qaa];by_cases h:n<=1<;>simp [h]<;>omega⟩
   | cons f r ihr =>
    intro i n b hd hn hb
    have hi:i < p.kids.length:=by
     rcases Nat.lt_or_ge i p.kids.length with h | h
     ·exact h
     ·rw [List.drop_of_length_le h] at hd;cases hd
    rw [Zx hi] at hd
    injection hd with e1 e2
    have hm:f∈p.kids:=e1▸ZK hi;rw [J2,Qaa,Yd,X5,Cx,X5]
    have hb2:∀b',b'=Y8 f->(b'=true↔i+1=0∨∃h:i+1 - 1 < p.kids.length,0 < i+1/\Y8 p.kids[i+1 - 1]=true):=by
     rintro b' rfl;simp only [Nat.add_sub_cancel];constructor
     ·intro h;exact .inr ⟨hi,by omega,by rw [e1];exact h⟩
     ·rintro (h | ⟨_,_,h⟩)
      ·omega
      ·rw [e1] at h;exact h
    cases hf:Y8 f
    ·simp only [Qq,if_false];have hk:=Fm.Hb hm;rw [X5,ih f hm (by omega),X5];cases hs:Qh6 f
     ·simp only [ZT,if_true,Qq,if_false];exact ⟨_,rfl,by simp⟩
     ·simp only [ZU,Qq,if_false,if_true];exact ihr (i+1) n false e2 (by omega) (hb2 false hf.symm)
    ·simp only [if_true]
     by_cases hi0:i=0
     ·subst hi0;have:b=true:=hb.2 (.inl rfl);subst this;simp only [Int.ofNat_zero,if_true,Yd,X5];exact ⟨_,rfl,by simp⟩
     ·rw [if_neg (by omega),show i64.wrap ((i:Int) - 1)=((i - 1:Nat):Int) by rw [YC (by omega) (by omega)];omega,Yg _ _ (by omega)];simp only [X5,Cx,Yd];cases hpd:Y8 p.kids[i - 1]
      ·have:b=false:=by
        cases b with
        | false=>rfl
        | true =>
         rcases hb.1 rfl with h | ⟨_,_,h⟩
         ·exact absurd h hi0
         ·rw [h] at hpd;cases hpd
       subst this;simp only [Qq,if_false];have hw:i64.wrap ((n:Int)+1)=((n+1:Nat):Int):=Wu (by omega);rw [hw];exact ihr (i+1) (n+1) true e2 (by omega) (hb2 true hf.symm)
      ·have:b=true:=hb.2 (.inr ⟨by omega,by omega,hpd⟩);subst this;simp only [if_true];exact ⟨_,rfl,by simp⟩
  rw [H2,Sy,Cx,X5];cases hd:Y8 p
  ·simp only [Qq,if_false];rw [Md _ _ (by omega)];obtain ⟨o,ho,hp⟩:=loop p.kids 0 0 true (List.drop_zero ..) (Qt _) ⟨fun _=>.inl rfl,fun _=>rfl⟩;rw [show ((0:Nat):Int)=0 from rfl] at ho;rw [ho,X5]
   cases o with
   | inl r=>rw [hp.1,hp.2];rfl
   | inr m=>rw [← hp];rfl
  ·rfl
end Go.Proofs.SA
