/- Patterns, matches and templates as plain functions: what both sides compute. -/
import Derived.Test.YtiiamkelehfnoaaGreatQa
set_option linter.unusedVariables false
set_option linter.unusedSimpArgs false
set_option maxRecDepth 100000
open Go Go.Proofs Go.Proofs.Shadow
open _root_.Bool renaming false_eq_true → Qq, not_false → ZX, not_true → ZY
open _root_.List renaming mem_cons_of_mem → Kf, length_cons → ZO, getElem?_eq_getElem → Qh, length_append → QV, mem_cons_self → Kx, getElem_mem → ZR, getElem?_eq_none → Q4, mem_iff_getElem → ZZ, drop_eq_getElem_cons → ZH, pairwise_iff_getElem → Kn, any_cons → Z0, eq_nil_of_length_eq_zero → KB, getD_eq_getElem?_getD → Qz, length_take → Z1, length_pos_of_mem → Z2, nil_append → QS, length_nil → ZN, mem_cons → Kj, append_assoc → QD, ext_getElem? → Ky, getElem_take → Z3, range → Z4
open _root_.Nat renaming le_refl → Qt, zero_le → QZ
open Fm renaming nodes → ZU
open _root_.ByteArray renaming mk → Qk
open Tot renaming bind → ZK
namespace Go.Proofs.Shadow
noncomputable instance:DecidableEq Fm:=fun a b=>Classical.propDecidable (a=b)
instance:Inhabited Hit:=⟨.mk Fm.zero 0 Fm.zero []⟩
instance:Inhabited Bnd:=⟨⟨Qk #[],[],0⟩⟩
theorem Hit.eta (h:Hit):Hit.mk h.name h.depth h.one h.many=h:=by cases h;rfl
def Es:ByteArray:=Qk #[46,46,46]
def PD:ByteArray:=Qk #[95]
def Y2 (f:Fm):Bool:=decide (f.kind=1)&&decide (f.name=Es)
def WU:List Fm->Bool
 | f :: _=>Y2 f
 | []=>false
def Qgh (a b:List Int):Bool:=a.all fun x=>decide (x∈b)
def Ti (n:Fm):Nat->List Bnd->List Int
 | _,[]=>[]
 | i,b :: l=>if b.name=n.name/\Qgh b.sc n.sc=true then (i:Int) :: Ti n (i+1) l else Ti n (i+1) l
def Qaa (l:List Bnd) (i:Int):List Int:=(l.getD i.toNat default).sc
def Qnt (l:List Bnd) (fit:List Int) (i:Int):Bool:=fit.all fun k=>Qgh (Qaa l k) (Qaa l i)
def findF (l:List Bnd) (n:Fm):Int × Int :=
 match (Ti n 0 l).find? (Qnt l (Ti n 0 l)) with
 | some i=>(i,1)
 | none=>if (Ti n 0 l).length=0 then (0,0) else (0,2)
theorem Du (n:Fm):∀(l:List Bnd) (i:Nat),∀k∈Ti n i l,(i:Int)<=k/\k < i+l.length
 | [],i,k,hk=>by cases hk
 | b :: l,i,k,hk=>by
  unfold Ti at hk;simp only [ZO];split at hk
  ·rcases Kj.1 hk with rfl | hk
   ·omega
   ·have:=Du n l (i+1) k hk;omega
  ·have:=Du n l (i+1) k hk;omega
theorem Tj (n:Fm):∀(l:List Bnd) (i:Nat),(Ti n i l).length<=l.length
 | [],i=>Qt _
 | b :: l,i=>by
  unfold Ti;have:=Tj n l (i+1);split<;>simp only [ZO]<;>omega
theorem D1 {l:List Bnd} {n:Fm} (h:(findF l n).2=1):0<=(findF l n).1/\(findF l n).1 < l.length:=by
 unfold findF at h ⊢;split at h
 ·rename_i i hi;have:=Du n l 0 i (List.mem_of_find?_eq_some hi)
  simp only;omega
 ·split at h<;>cases h
def Mz (l:List Bnd) (a b:Fm):Bool :=
 if (findF l a).2≠(findF l b).2∨(findF l a).2=2 then false
 else if (findF l a).2=0 then decide (a.name=b.name)
 else decide ((l.getD (findF l a).1.toNat default).id=(l.getD (findF l b).1.toNat default).id)
noncomputable def RQ (ls:List Fm) (f:Fm):Bool:=decide (f.kind=1)&&(!decide (f.name=Es))&&(!decide (f.name=PD))&&!decide (f∈ls)
section
variable (ls:List Fm)
mutual
noncomputable def vrs:Fm->List Fm
 | .mk k s n c ks=>(if RQ ls (.mk k s n c ks)=true then [.mk k s n c ks] else [])++Oj ks
noncomputable def Oj:List Fm->List Fm
 | []=>[]
 | f :: fs=>vrs f++Oj fs
end
mutual
noncomputable def dps:Int->Fm->List Int
 | d,.mk k s n c ks=>(if RQ ls (.mk k s n c ks)=true then [d] else [])++Se d ks
noncomputable def Se:Int->List Fm->List Int
 | d,[]=>[]
 | d,f :: fs=>dps (if WU fs=true then d+1 else d) f++Se d fs
end
mutual
def Qdc:Fm->Bool
 | .mk k s n c ks=>if Y2 (.mk k s n c ks)=true then false else SC true 0 ks
def SC:Bool->Nat->List Fm->Bool
 | _,n,[]=>decide (n<=1)
 | b,n,f :: fs=>if Y2 f=true then (if b=true then false else SC true (n+1) fs) else if Qdc f=true then SC false n fs else false
end
theorem M5 (p:Fm):vrs ls p=(if RQ ls p=true then [p] else [])++Oj ls p.kids:=by cases p;rw [vrs];rfl
theorem S3 (d:Int) (p:Fm):dps ls d p=(if RQ ls p=true then [d] else [])++Se ls d p.kids:=by cases p;rw [dps];rfl
theorem O1 (p:Fm):Qdc p=if Y2 p=true then false else SC true 0 p.kids:=by cases p;rw [Qdc];rfl
theorem MA:∀(l:List Fm) (b:Bool) (n:Nat),SC b n l=true->(l.filter Y2).length+n<=1
 | [],b,n,h=>by rw [SC] at h;simpa using h
 | f :: fs,b,n,h=>by
  rw [SC] at h
  by_cases hd:Y2 f=true
  ·rw [if_pos hd] at h;cases b
   ·have:=MA fs true (n+1) (by simpa using h);rw [List.filter_cons_of_pos hd,ZO];omega
   ·simp at h
  ·rw [if_neg hd] at h;split at h
   ·have:=MA fs false n h;rw [List.filter_cons_of_neg hd];exact this
   ·cases h
theorem Qdf {l:List Fm} {n:Nat} (h:SC true n l=true):WU l=false:=by
 cases l with
 | nil=>rfl
 | cons f fs =>
  rw [SC] at h;cases hd:Y2 f
  ·exact hd
  ·rw [if_pos hd] at h;simp at h
theorem O2:∀(l:List Fm) (b:Bool) (n:Nat),SC b n l=true->∀f∈l,Y2 f=true∨Qdc f=true
 | [],b,n,h,f,hf=>by cases hf
 | g :: fs,b,n,h,f,hf=>by
  rw [SC] at h
  by_cases hd:Y2 g=true
  ·rw [if_pos hd] at h;cases b
   ·rcases Kj.1 hf with rfl | hf
    ·exact .inl hd
    ·exact O2 fs true (n+1) (by simpa using h) f hf
   ·simp at h
  ·rw [if_neg hd] at h;split at h
   ·rename_i hs
    rcases Kj.1 hf with rfl | hf
    ·exact .inr hs
    ·exact O2 fs false n h f hf
   ·cases h
theorem TJ:∀(l:List Fm),(∀f∈l,∀d,(vrs ls f).length=(dps ls d f).length)->∀d,(Oj ls l).length=(Se ls d l).length
 | [],_,d=>rfl
 | f :: fs,h,d=>by
  rw [Oj,Se,QV,QV,h f (Kx ..),TJ fs (fun g hg=>h g (Kf _ hg))]
theorem M4 (p:Fm):∀d,(vrs ls p).length=(dps ls d p).length:=by
 induction p using Fm.ind with
 | h p ih =>
  intro d;rw [M5,S3,QV,QV,TJ ls p.kids ih d];split<;>rfl
theorem TK:∀(l:List Fm),(∀f∈l,(vrs ls f).length<=f.nodes)->(Oj ls l).length<=Y7 ZU l
 | [],_=>Qt _
 | f :: fs,h=>by
  rw [Oj,QV,Y7];have:=h f (Kx ..);have:=TK fs (fun g hg=>h g (Kf _ hg));omega
theorem B2 (p:Fm):(vrs ls p).length<=p.nodes:=by
 induction p using Fm.ind with
 | h p ih =>
  rw [M5,QV,Fm.YO];have:=TK ls p.kids ih;split<;>simp<;>omega
end
noncomputable def Qhr (ls:List Fm) (p:Fm) (rows:List (List Hit)):List Hit :=
 (Z4 (vrs ls p).length).map fun i=>.mk ((vrs ls p).getD i default) ((dps ls 0 p).getD i 0+1) Fm.zero (rows.map fun r=>r.getD i default)
def FX {α β:Type} (g:α->Option β):List α->Option (List β)
 | []=>some []
 | x :: l=>match g x with
  | none=>none
  | some y=>(FX g l).map (y :: ·)
section
variable (B:List Bnd) (ls:List Fm)
mutual
noncomputable def pm : Fm -> Fm -> Option (List Hit)
  | .mk k s n c ks, f =>
    if k = 1 then
      (if s = PD then some [] else if .mk k s n c ks ∈ ls then (if f.kind = 1 /\ Mz B (.mk k s n c ks) f = true then some [] else none) else some [.mk (.mk k s n c ks) 0 f []])
    else if k = 2 then (if .mk k s n c ks = f then some [] else none)
    else if f.kind = 3 then
      (if ks.any Y2 = true then (if f.kids.length + 2 < ks.length then none else pmL ks f.kids (f.kids.length + 2 - ks.length))
       else if ks.length = f.kids.length then pmL ks f.kids 0 else none)
    else none
noncomputable def pmL : List Fm -> List Fm -> Nat -> Option (List Hit)
  | [], _, _ => some []
  | p :: ps, fs, n =>
    if Y2 p = true then pmL ps fs n
    else if WU ps = true then
      (match FX (pm p) (fs.take n) with
       | none => none
       | some rows => (pmL ps (fs.drop n) n).map (Qhr ls p rows ++ ·))
    else match fs with
      | [] => none
      | f :: fs => match pm p f with
        | none => none
        | some hs => (pmL ps fs n).map (hs ++ ·)
end
end
theorem Sv (B:List Bnd) (ls:List Fm) (fs:List Fm) (n:Nat):pmL B ls [] fs n=some []:=by rw [pmL.eq_def]
theorem OV (B : List Bnd) (ls : List Fm) (p : Fm) (ps fs : List Fm) (n : Nat) : pmL B ls (p :: ps) fs n = if Y2 p = true then pmL B ls ps fs n
    else if WU ps = true then
      (match FX (pm B ls p) (fs.take n) with
       | none => none
       | some rows => (pmL B ls ps (fs.drop n) n).map (Qhr ls p rows ++ ·))
    else match fs with
      | [] => none
      | f :: fs => match pm B ls p f with
        | none => none
        | some hs => (pmL B ls ps fs n).map (hs ++ ·) := by rw [pmL.eq_def]
theorem Qkb (B : List Bnd) (ls : List Fm) (p f : Fm) : pm B ls p f = if p.kind = 1 then
      (if p.name = PD then some [] else if p ∈ ls then (if f.kind = 1 /\ Mz B p f = true then some [] else none) else some [.mk p 0 f []])
    else if p.kind = 2 then (if p = f then some [] else none)
    else if f.kind = 3 then
      (if p.kids.any Y2 = true then (if f.kids.length + 2 < p.kids.length then none else pmL B ls p.kids f.kids (f.kids.length + 2 - p.kids.length))
       else if p.kids.length = f.kids.length then pmL B ls p.kids f.kids 0 else none)
    else none := by cases p; rw [pm]; rfl
end Go.Proofs.Shadow
namespace Go.Proofs.Shadow
noncomputable def Qmq (H:List Hit) (f:Fm):Option Hit:=H.find? fun h=>decide (h.name=f)
noncomputable def U9 (H:List Hit) (f:Fm):Int:=if f.kind=1 then (match Qmq H f with | some h=>h.depth | none=>-1) else -1
mutual
noncomputable def Nx (H:List Hit):Fm->Bool
 | .mk k s n c ks=>decide (0 < U9 H (.mk k s n c ks))||Qf3 H ks
noncomputable def Qf3 (H:List Hit):List Fm->Bool
 | []=>false
 | f :: fs=>Nx H f||Qf3 H fs
end
def OO (H:List Hit):List Hit:=H.map fun h=>.mk h.name (if 0 < h.depth then h.depth - 1 else h.depth) h.one []
mutual
noncomputable def Qhu:Fm->List Hit->Bool
 | .mk k s n c ks,H=>!(Y2 (.mk k s n c ks)||decide (0 < U9 H (.mk k s n c ks)))&&Qgl true ks H
noncomputable def Qgl:Bool->List Fm->List Hit->Bool
 | _,[],_=>true
 | b,t :: ts,H=>if Y2 t=true then !b&&Qgl true ts H
  else if WU ts=true then Nx H t&&Qhu t (OO H)&&Qgl false ts H
  else Qhu t H&&Qgl false ts H
end
noncomputable def EY (t x:Fm):Bool:=t.all.any fun g=>decide (g.kind=1)&&decide (g=x)
noncomputable def Cg (t:Fm):List Hit->Int->Int
 | [],n=>n
 | h :: H,n=>if h.depth=0∨EY t h.name=false then Cg t H n else if 0<=n/\n≠(h.many.length:Int) then -1 else Cg t H h.many.length
noncomputable def Qj1 (t:Fm) (n:Nat) (h:Hit):Hit:=if 0 < h.depth/\EY t h.name=true then h.many.getD n default else h
noncomputable def Ts (t:Fm) (H:List Hit) (n:Nat):List Hit:=H.map (Qj1 t n)
mutual
noncomputable def fl:Fm->List Hit->Option Fm
 | .mk k s n c ks,H =>
  match (if k=1 then Qmq H (.mk k s n c ks) else none) with
  | some h=>if h.depth=0 then some h.one else none
  | none=>match flL ks H with
   | none=>none
   | some out=>if Y7 ZU out<=400 then some (.mk k s n c out) else none
noncomputable def flL : List Fm -> List Hit -> Option (List Fm)
  | [], _ => some []
  | t :: ts, H =>
    if Y2 t = true then flL ts H
    else if WU ts = true then
      (if Cg t H (-1) < 0 then none
       else match FX (fun n => fl t (Ts t H n)) (Z4 (Cg t H (-1)).toNat) with
        | none => none
        | some ks => (flL ts H).map (ks ++ ·))
    else match fl t H with
      | none => none
      | some k => (flL ts H).map (k :: ·)
end
noncomputable def F2 (p:Fm) (ls:List Fm):List Hit :=
 (Z4 (vrs ls p).length).map fun i=>.mk ((vrs ls p).getD i default) ((dps ls 0 p).getD i 0) (if (dps ls 0 p).getD i 0=0 then (vrs ls p).getD i default else Fm.zero) []
end Go.Proofs.Shadow
namespace Go.Proofs.SA
theorem FIs.mono:∀(d:Nat) (f:Fm),FIs d f->FIs (d+1) f:=by
 intro d
 induction d with
 | zero=>intro f h;exact h.elim
 | succ d ih =>
  intro f h
  rcases h with h | h | h
  ·exact .inl h
  ·exact .inr (.inl h)
  ·exact .inr (.inr ⟨h.1,h.2.1,h.2.2.1,h.2.2.2.1,fun k hk=>ih k (h.2.2.2.2 k hk)⟩)
theorem FIs.kid {d:Nat} {f k:Fm} (h:FIs (d+1) f) (hk:k∈f.kids):FIs d k:=by
 rcases h with h | h | h
 ·have:=Z2 hk;omega
 ·have:=Z2 hk;omega
 ·exact h.2.2.2.2 k hk
theorem V7 {f k:Fm} (hk:k∈f.kids):k.nodes+1<=f.nodes:=by
 rw [Fm.YO f];have:=Ax ZU f.kids k hk;omega
theorem HH (f:Fm):1<=f.nodes:=by rw [Fm.YO];omega
theorem FV.kid {f k:Fm} (h:FV f) (hk:k∈f.kids):FV k:=⟨FIs.mono _ _ (FIs.kid h.1 hk),by have:=V7 hk;have:=h.2;omega⟩
theorem Ja:∀l:List Fm,l.length<=Y7 ZU l
 | []=>Qt _
 | f :: l=>by have:=Ja l;have:=HH f;rw [Y7,ZO];omega
theorem FIs.sz:∀(d:Nat) (f:Fm),FIs d f->f.sz+1<=37 * f.nodes:=by
 intro d
 induction d with
 | zero=>intro f h;exact h.elim
 | succ d ih =>
  intro f h;rw [Fm.Jt,Fm.YO]
  have hsum:∀l:List Fm,(∀g∈l,FIs d g)->Y7 Fm.sz l+l.length<=37 * Y7 ZU l:=by
   intro l
   induction l with
   | nil=>intro _;exact Qt _
   | cons g l ihl =>
    intro hg;have h1:=ih g (hg g (Kx ..));have h2:=ihl (fun x hx=>hg x (Kf _ hx));simp only [Y7,ZO];omega
  rcases h with h | h | h
  ·obtain ⟨h1,h2,h3,h4,h5⟩:=h;have hk:f.kids=[]:=KB h5
   have hn:f.name.size<=12:=by
    rcases h2 with h2 | h2 | h2
    ·rw [h2];decide
    ·rw [h2];decide
    ·exact h2.2.1
   have:=h4.1;rw [hk];simp [Y7];omega
  ·obtain ⟨h1,h2,h3,h4,h5,h6⟩:=h;have hk:f.kids=[]:=KB h6;rw [hk,h2,h5];have:(Qk #[]).size=0:=rfl;simp [Y7,this]
  ·obtain ⟨h1,h2,h3,h4,h5⟩:=h;have:=hsum f.kids h5;rw [h2,h4];have:(Qk #[]).size=0:=rfl;omega
theorem FV.sz {f:Fm} (h:FV f):f.sz<=14800:=by have:=FIs.sz _ _ h.1;have:=h.2;omega
theorem FV.Ik {f:Fm} (h:FV f):f.kids.length<=399:=by have:=Ja f.kids;have:=Fm.YO f;have:=h.2;omega
end Go.Proofs.SA
namespace Go.Proofs.Shadow
def Qfx (n:Int):List Int->List Int
 | []=>[n]
 | x :: l=>if x > n then n :: x :: l else x :: Qfx n l
def Qns (l:List Int) (n:Int):List Int:=if n∈l then l else Qfx n l
def SF (l:List Int) (n:Int):List Int:=l.filter fun x=>decide (x≠n)
def chS (sc:List Int) (s way:Int):List Int:=if way=2∨(way=1/\s∈sc) then SF sc s else Qns sc s
mutual
def chg (s way:Int):Fm->Fm
 | .mk k n m sc ks=>.mk k n m (if k=1 then chS sc s way else sc) (Qnu s way ks)
def Qnu (s way:Int):List Fm->List Fm
 | []=>[]
 | f :: fs=>chg s way f :: Qnu s way fs
end
theorem Qbs (s way:Int):∀l,Qnu s way l=l.map (chg s way)
 | []=>rfl
 | f :: fs=>by rw [Qnu,Qbs s way fs];rfl
theorem Qbt (s way:Int) (f:Fm):chg s way f=.mk f.kind f.name f.num (if f.kind=1 then chS f.sc s way else f.sc) (f.kids.map (chg s way)):=by cases f;rw [chg,Qbs];rfl
theorem AA (s way:Int) (f:Fm):(chg s way f).nodes=f.nodes:=by
 induction f using Fm.ind with
 | h f ih =>
  rw [Fm.YO,Fm.YO f,Qbt]
  have:∀l:List Fm,(∀g∈l,(chg s way g).nodes=g.nodes)->Y7 ZU (l.map (chg s way))=Y7 ZU l:=by
   intro l
   induction l with
   | nil=>intro _;rfl
   | cons g l ihl=>intro h;rw [List.map_cons,Y7,Y7,h g (Kx ..),ihl (fun x hx=>h x (Kf _ hx))]
  show 1+Y7 ZU (f.kids.map (chg s way))=_;rw [this _ ih]
theorem Ty (n:Int):∀l,(Qfx n l).length=l.length+1
 | []=>rfl
 | x :: l=>by unfold Qfx;split<;>simp [Ty n l]
theorem Qis (sc:List Int) (s way:Int):(chS sc s way).length<=sc.length+1:=by
 unfold chS Qns SF;split
 ·exact Nat.le_trans (List.length_filter_le _ _) (Nat.le_succ _)
 ·split
  ·omega
  ·rw [Ty];omega
theorem Qlp (s way:Int) (f:Fm):(chg s way f).sz<=f.sz+f.nodes:=by
 induction f using Fm.ind with
 | h f ih =>
  rw [Fm.Jt,Fm.Jt f,Fm.YO,Qbt]
  have:∀l:List Fm,(∀g∈l,(chg s way g).sz<=g.sz+g.nodes)->Y7 Fm.sz (l.map (chg s way))<=Y7 Fm.sz l+Y7 ZU l:=by
   intro l
   induction l with
   | nil=>intro _;exact Qt _
   | cons g l ihl =>
    intro h;have h1:=h g (Kx ..);have h2:=ihl (fun x hx=>h x (Kf _ hx));simp only [List.map_cons,Y7];omega
  have h1:=this _ ih;have h2:=Qis f.sc s way;show f.name.size+(if f.kind=1 then chS f.sc s way else f.sc).length+(f.kids.map (chg s way)).length+Y7 Fm.sz (f.kids.map (chg s way))<=_;rw [List.length_map];split<;>omega
end Go.Proofs.Shadow
namespace Go.Proofs.Shadow
theorem Dp {α β:Type} (F:Nat->List α->Option (β ⊕ Unit)) (p:α->Bool) (b:β) (hn:∀i,F i []=some (.inr ())):∀(l:List α) (i:Nat),(∀x∈l,∀i r,F i (x :: r)=if p x=true then some (.inl b) else F (i+1) r)->F i l=some (if l.any p=true then .inl b else .inr ()):=by
 intro l
 induction l with
 | nil=>intro i _;rw [hn];rfl
 | cons x l ih =>
  intro i hc;rw [hc x (Kx ..),Z0];cases hp:p x
  ·rw [if_neg (by simp),ih _ (fun y hy=>hc y (Kf _ hy))];rfl
  ·rfl
theorem Qa3 {α β:Type} (F:Nat->List α->Option (β ⊕ Unit)) (a:List α) (p:Nat->α->Bool) (b:β) (hn:∀i,F i []=some (.inr ())) (hc:∀(i:Nat) (hi:i < a.length) r,F i (a[i] :: r)=if p i a[i]=true then some (.inl b) else F (i+1) r) :
  (F 0 a=some (.inl b)/\∃i,∃hi:i < a.length,p i a[i]=true)∨(F 0 a=some (.inr ())/\∀i,∀hi:i < a.length,p i a[i]=false):=by
 have key:∀(n i:Nat),i+n=a.length->(F i (a.drop i)=some (.inl b)/\∃j,i<=j/\∃hj:j < a.length,p j a[j]=true)∨(F i (a.drop i)=some (.inr ())/\∀j,i<=j->∀hj:j < a.length,p j a[j]=false):=by
  intro n
  induction n with
  | zero=>intro i hi;right;rw [show i=a.length by omega,List.drop_length];exact ⟨hn _,fun j h1 h2=>by omega⟩
  | succ n ih =>
   intro i hi
   have hil:i < a.length:=by omega
   rw [ZH hil,hc i hil];cases hp:p i a[i]
   ·rw [if_neg (by simp)]
    rcases ih (i+1) (by omega) with ⟨h1,j,h2,h3,h4⟩ | ⟨h1,h2⟩
    ·exact .inl ⟨h1,j,by omega,h3,h4⟩
    ·refine .inr ⟨h1,fun j hj hjl=>?_⟩
     by_cases hji:j=i
     ·subst hji;exact hp
     ·exact h2 j (by omega) hjl
   ·exact .inl ⟨rfl,i,Qt _,hil,hp⟩
 rcases key a.length 0 (by omega) with ⟨h1,j,_,h3,h4⟩ | ⟨h1,h2⟩
 ·exact .inl ⟨h1,j,h3,h4⟩
 ·exact .inr ⟨h1,fun i hi=>h2 i (QZ _) hi⟩
theorem Qii (l:List Int) (n:Int):(l.any fun x=>decide (x=n))=decide (n∈l):=by
 induction l with
 | nil=>rfl
 | cons x l ih =>
  rw [Z0,ih]
  by_cases h:x=n
  ·subst h;simp
  ·have h2:¬n=x:=fun e=>h e.symm;simp [h,h2]
end Go.Proofs.Shadow
namespace Go.Proofs.SA
abbrev Sm (n:Nat):Prop:=n<=1099511627776
theorem Mi (l:List Int) (n:Int) (h:Sm l.length):WS l n=some (decide (n∈l)):=by
 rw [WS,ME _ _ (by omega),Dp (Hv l n) (fun x=>decide (x=n)) true (fun _=>rfl) l 0 (fun x _ i r=>by
  rw [Hv,Yd,X7];by_cases hx:x=n<;>simp [hx,Yd]),Qii,X7]
 cases decide (n∈l)<;>rfl
theorem RM (a b:List Int) (h:Sm a.length) (hb:Sm b.length):V9 a b=some (Qgh a b):=by
 rw [V9,CK _ _ (by omega),Dp (Wa a b) (fun x=>!decide (x∈b)) false (fun _=>rfl) a 0 (fun x _ i r=>by
  rw [Wa,Yd,X7,Mi _ _ hb,X7];rfl),X7]
 have:Qgh a b=!(a.any fun x=>!decide (x∈b)):=by unfold Qgh;rw [List.all_eq_not_any_not]
 rw [this];cases (a.any fun x=>!decide (x∈b))<;>rfl
def BS (l:List Bnd):Prop:=Sm l.length/\∀b∈l,Sm b.sc.length
theorem Up (l:List Bnd) (n:Fm) (h:BS l) (hn:Sm n.sc.length):Ix l n=some (Ti n 0 l):=by
 have key:∀(r:List Bnd) (z:List Int) (i:Nat),(∀b∈r,Sm b.sc.length)->z.length+r.length<=1099511627776->VS l n z i r=some (z++Ti n i r):=by
  intro r
  induction r with
  | nil=>intro z i _ _;rw [VS,Yd];simp [Ti]
  | cons b r ih =>
   intro z i hb hz;simp only [ZO] at hz;have hb':=fun x hx=>hb x (Kf b hx);rw [VS,Ti,Yd,X7]
   by_cases hnm:b.name=n.name
   ·rw [if_pos hnm];simp only [X7,RM _ _ (hb b (Kx ..)) hn,Yd];cases hs:Qgh b.sc n.sc
    ·rw [if_neg (by simp),ih z (i+1) hb' (by omega),if_neg (by simp)]
    ·rw [if_pos rfl,YK (by simp;omega),X7,ih _ (i+1) hb' (by simp;omega),if_pos ⟨hnm,rfl⟩,QD];rfl
   ·rw [if_neg hnm];simp only [Yd,X7];rw [if_neg (by simp),ih z (i+1) hb' (by omega),if_neg (by simp [hnm])]
 rw [Ix,Ej _ _ _ (by have:=h.1;omega),key l [] 0 h.2 (by have:=h.1;simp;omega)];rfl
theorem BB {α:Type} [Inhabited α] {l:List α} {i:Int} (h0:0<=i) (h:i < l.length):idx l i=some (l.getD i.toNat default):=by
 rw [Sk l i h0 h,Qz,Qh (by omega)];rfl
theorem OI (l:List Bnd) (n:Fm) (h:BS l) (hn:Sm n.sc.length):IJ l n=some (findF l n):=by
 have hr:=Du n l 0;have hlen:=Tj n l 0;rw [IJ,Up l n h hn,X7,findF];have hL:=h.1;generalize hx:Ti n 0 l=X at hr hlen
 have sm:∀i,Sm (Qaa l i).length:=fun i=>by
  unfold Qaa;rw [Qz]
  cases hg:l[i.toNat]? with
  | none=>decide
  | some b=>exact h.2 b (List.mem_of_getElem? hg)
 have inner:∀(i:Nat) (hi:i < X.length) (r:List Int) (b:Bool) (j:Nat),(∀k∈r,k∈X)->J3 l n X (i:Int) b j r=some (b&&r.all fun k=>Qgh (Qaa l k) (Qaa l X[i])):=by
  intro i hi r;have h1:=hr X[i] (ZR hi)
  induction r with
  | nil=>intro b j _;rw [J3,Yd];simp
  | cons k r ih =>
   intro b j hk;have h2:=hr k (hk k (Kx ..));have hs:=RM _ _ (sm k) (sm X[i]);unfold Qaa at hs;rw [J3,Yg X i hi];cases b
   ·simp only [Qq,if_false,Yd,X7];rw [ih _ _ (fun x hx=>hk x (Kf _ hx))];rfl
   ·simp only [if_true,Yd,X7,BB (l:=l) (i:=k) (by omega) (by omega),BB (l:=l) (i:=X[i]) (by omega) (by omega),hs];rw [ih _ _ (fun x hx=>hk x (Kf _ hx)),List.all_cons];unfold Qaa;simp
 have outer:∀(m i:Nat),i+m=X.length->GW l n X i (X.drop i)=some (match (X.drop i).find? (Qnt l X) with | some k=>Sum.inl (k,1) | none=>Sum.inr ()):=by
  intro m
  induction m with
  | zero=>intro i hi;rw [show i=X.length by omega,List.drop_length];rfl
  | succ m ihm =>
   intro i hi
   have hil:i < X.length:=by omega
   rw [ZH hil,GW,Lm _ _ _ _ _ (by omega),inner i hil X true 0 (fun _ hk=>hk),X7,List.find?_cons]
   have hb:Qnt l X X[i]=(true&&X.all fun k=>Qgh (Qaa l k) (Qaa l X[i])):=by rw [Bool.true_and];rfl
   rw [hb];cases (true&&X.all fun k=>Qgh (Qaa l k) (Qaa l X[i]))
   ·rw [if_neg (by simp),ihm (i+1) (by omega)]
   ·rw [if_pos rfl,Yd,X7];rfl
 have:=outer X.length 0 (by omega);rw [List.drop_zero] at this;rw [Ll _ _ _ (by omega),this,X7]
 cases hf:X.find? (Qnt l X) with
 | some k=>rfl
 | none =>
  simp only
  by_cases h0:X.length=0
  ·rw [if_neg (by omega),if_pos h0];rfl
  ·rw [if_pos (by omega),if_neg h0];rfl
theorem Qf6 (l:List Bnd) (a b:Fm) (h:BS l) (ha:Sm a.sc.length) (hb:Sm b.sc.length):Bf l a b=some (Mz l a b):=by
 rw [Bf,OI l a h ha,OI l b h hb,X7,X7,Mz];have ra:=@D1 l a;have rb:=@D1 l b
 have ha3:(findF l a).2=0∨(findF l a).2=1∨(findF l a).2=2:=by
  unfold findF;split
  ·exact .inr (.inl rfl)
  ·split
   ·exact .inl rfl
   ·exact .inr (.inr rfl)
 generalize findF l a=x at *;generalize findF l b=y at *;obtain ⟨x1,x2⟩:=x;obtain ⟨y1,y2⟩:=y;simp only at ra rb ha3 ⊢
 by_cases h1:x2=y2
 ·subst h1
  rcases ha3 with h | h | h
  ·subst h;rfl
  ·subst h;have q1:=ra rfl;have q2:=rb rfl;rw [Yd,X7,if_neg (by simp),if_neg (by simp),BB (l:=l) q1.1 q1.2,BB (l:=l) q2.1 q2.2,X7,X7];rfl
  ·subst h;rfl
 ·rw [Yd,X7,if_pos (by simp [h1]),if_pos (.inl h1)];rfl
end Go.Proofs.SA
namespace Go.Proofs.SA
theorem OM (a b:List Int) (h:Sm a.length):Ap a b=some (decide (a=b)):=by
 rw [Ap]
 by_cases hl:a.length=b.length
 ·rw [if_pos (by omega),Lg _ _ (by omega)]
  rcases Qa3 (GV a b) a (fun i x=>!decide (some x=b[i]?)) false (fun _=>rfl) (fun i hi r=>by
   rw [GV,Yd,X7,Yg b i (by omega),X7];have:b[i]?=some b[i]:=Qh _
   by_cases hx:a[i]=b[i]<;>simp [hx,this,Yd]) with ⟨h1,i,hi,hp⟩ | ⟨h1,hp⟩
  ·rw [h1,X7,decide_eq_false];rfl;rintro rfl;simp at hp
  ·rw [h1,X7,decide_eq_true];rfl;apply Ky;intro i
   by_cases hi:i < a.length
   ·have:=hp i hi;rw [Qh hi];simpa using this
   ·rw [Q4 (by omega),Q4 (by omega)]
 ·rw [if_neg (by omega),decide_eq_false (fun h=>hl (by rw [h]))];rfl
def bOk (b:Bnd):Prop:=NV b.name/\SV b.sc/\1<=b.id/\b.id<=999
def bEq (a b:Bnd):Prop:=a.name=b.name/\a.sc=b.sc
def BV (l:List Bnd):Prop:=l.length<=60/\(∀b∈l,bOk b)/\l.Pairwise fun a b=>¬bEq a b
theorem SV.len {l:List Int} (h:SV l):l.length<=24:=h.1
theorem BV.bs {l:List Bnd} (h:BV l):BS l:=⟨by have:=h.1;unfold Sm;omega,fun b hb=>by have:=(h.2.1 b hb).2.1.len;unfold Sm;omega⟩
theorem bv1 {l:List Bnd} (hs:BS l) {j:Nat} (hj:j < l.length):∀(n k:Nat),k+n=j->Tot (VO l j k) fun o=>match o with | .inl r=>r=false/\∃k',∃h:k' < j,bEq l[k'] l[j] | .inr _=>∀k',k<=k'->∀h:k' < j,¬bEq l[k'] l[j]:=by
 intro n
 induction n with
 | zero=>intro k hk;rw [VO,if_neg (by omega)];exact ⟨_,rfl,fun k' h1 h2=>by omega⟩
 | succ n ih =>
  intro k hk;rw [VO,if_pos (by omega),Yg l k (by omega),Yg l j hj];simp only [X7];have w:=WC (i:=k) (by have:=hs.1;unfold Sm at this;omega);have hi:=OM l[k].sc l[j].sc (hs.2 _ (ZR _))
  by_cases h1:l[k].name=l[j].name
  ·rw [if_pos h1];simp only [hi,Yd,X7,w]
   by_cases h2:l[k].sc=l[j].sc
   ·rw [if_pos (by simp [h2])];exact ⟨_,rfl,rfl,k,by omega,h1,h2⟩
   ·rw [if_neg (by simp [h2])];refine (ih (k+1) (by omega)).mono fun o ho=>?_
    cases o with
    | inl r=>exact ho
    | inr u =>
     exact fun k' h3 h4=>by
      by_cases hk':k'=k
      ·subst hk';exact fun h5=>h2 h5.2
      ·exact ho k' (by omega) h4
  ·rw [if_neg h1];simp only [Yd,X7,w,Qq,if_false];refine (ih (k+1) (by omega)).mono fun o ho=>?_
   cases o with
   | inl r=>exact ho
   | inr u =>
    exact fun k' h3 h4=>by
     by_cases hk':k'=k
     ·subst hk';exact fun h5=>h1 h5.1
     ·exact ho k' (by omega) h4
theorem bv0 {l:List Bnd} (hs:BS l):∀(n j:Nat),j+n=61->Tot (VN l j) fun o=>match o with | .inl r=>r=false/\∃j',∃h:j' < l.length,¬(bOk l[j']/\∀k',∀h2:k' < j',¬bEq l[k'] l[j']) | .inr _=>∀j',j<=j'->j'<=60->∀h:j' < l.length,bOk l[j']/\∀k',∀h2:k' < j',¬bEq l[k'] l[j']:=by
 intro n
 induction n with
 | zero=>intro j hj;rw [VN,Yd,X7,if_neg (by simp;omega)];exact ⟨_,rfl,fun j' h1 h2=>by omega⟩
 | succ n ih =>
  intro j hj;rw [VN,Yd,X7]
  by_cases hjl:j < l.length
  rotate_left
  ·rw [if_neg (by simp;omega)];exact ⟨_,rfl,fun j' h1 h2 h3=>by omega⟩
  rw [if_pos (by simp;omega),Yg l j hjl];simp only [X7];refine ZK (Sr _) fun b1 hb1=>?_
  have bad:¬bOk l[j]->Tot (pure (Sum.inl false):Option (Bool ⊕ Unit)) fun o=>match o with | .inl r=>r=false/\∃j',∃h:j' < l.length,¬(bOk l[j']/\∀k',∀h2:k' < j',¬bEq l[k'] l[j']) | .inr _=>∀j',j<=j'->j'<=60->∀h:j' < l.length,bOk l[j']/\∀k',∀h2:k' < j',¬bEq l[k'] l[j']:=fun h=>⟨_,rfl,rfl,j,hjl,fun h2=>h h2.1⟩
  cases b1
  ·simp only [ZX,if_true,Yd,X7]
   exact bad fun h=>by have:=hb1.2 h.1;cases this
  simp only [ZY,Qq,if_false];obtain ⟨b2,e2,hb2⟩:=Qdn l[j].sc;rw [e2];simp only [Yd,X7];cases b2
  ·simp only [ZX,if_true,Yd,X7]
   exact bad fun h=>by have:=hb2.2 h.2.1;cases this
  simp only [ZY,Qq,if_false,Yd,X7]
  by_cases h3:l[j].id < 1
  ·simp only [h3,decide_true,if_true,Yd,X7]
   exact bad fun h=>by have:=h.2.2.1;omega
  simp only [h3,decide_false,Qq,if_false,Yd,X7]
  by_cases h4:l[j].id > 999
  ·simp only [h4,decide_true,if_true]
   exact bad fun h=>by have:=h.2.2.2;omega
  simp only [h4,decide_false,Qq,if_false];have hok:bOk l[j]:=⟨hb1.1 rfl,hb2.1 rfl,by omega,by omega⟩;refine ZK (bv1 hs hjl j 0 (by omega)) fun o ho=>?_
  cases o with
  | inl r=>exact ⟨_,rfl,ho.1,j,hjl,fun h=>by obtain ⟨k',h5,h6⟩:=ho.2;exact h.2 k' h5 h6⟩
  | inr u =>
   simp only [WC (i:=j) (by omega)];refine (ih (j+1) (by omega)).mono fun o ho2=>?_
   cases o with
   | inl r=>exact ho2
   | inr u =>
    exact fun j' h5 h6 h7=>by
     by_cases hj':j'=j
     ·subst hj';exact ⟨hok,fun k' h8=>ho k' (QZ _) h8⟩
     ·exact ho2 j' (by omega) h6 h7
theorem A2 {l:List Bnd} (hs:BS l):Tot (JZ l) fun b=>b=true↔BV l:=by
 rw [JZ];refine ZK (bv0 hs 61 0 (by omega)) fun o ho=>?_
 cases o with
 | inl r =>
  obtain ⟨h0,j,hj,hn⟩:=ho;subst h0;refine ⟨_,rfl,fun h=>(by cases h),fun h=>absurd ⟨h.2.1 _ (ZR hj),fun k' h2=>?_⟩ hn⟩;exact Kn.1 h.2.2 k' j (by omega) hj h2
 | inr u =>
  refine ⟨_,rfl,?_⟩;simp only [decide_eq_true_iff];constructor
  ·intro hl;refine ⟨by omega,fun b hb=>?_,Kn.2 fun i j hi hj hij=>(ho j (QZ _) (by omega) hj).2 i hij⟩;obtain ⟨i,hi,rfl⟩:=ZZ.1 hb;exact (ho i (QZ _) (by omega) hi).1
  ·intro h;have:=h.1;omega
theorem Tp {f:Fm} (hf:f.sz < 1000000000):Tot (Cd f) fun b=>b=true↔f.kind=1/\FV f:=by
 rw [Cd]
 by_cases h:f.kind=1
 ·rw [if_pos h];refine ZK (ZK (Gv hf) fun b hb=>⟨b,rfl,hb⟩) fun b hb=>⟨b,rfl,?_⟩;simp only [hb,h,true_and]
 ·rw [if_neg h];refine ⟨false,rfl,?_⟩;simp [h]
theorem Qex (l:List Bnd) (h:BS l) (h2:l.length<=1000000):Iw l=some l:=by
 rw [Iw,Ei _ _ (by omega),H0 (Jk l) id (fun _ _=>rfl) l [] 0 (fun x hx z i r hz=>by
  have:=h.2 x hx;unfold Sm at this
  rw [Jk,Yd,X7,YK (by simp;omega),X7,YK (by simp;omega),X7];rfl) (by simp;omega)]
 simp [X7,Yd]
theorem Pt {l:List Bnd} (hs:BS l) (h2:l.length<=1000000) {f:Fm} (hf:f.sz < 1000000000) (id:Int):Tot (AF l f id) fun r=>(r.2=true/\r.1=l++[⟨f.name,f.sc,id⟩]/\f.kind=1/\FV f/\BV l/\BV (l++[⟨f.name,f.sc,id⟩]))∨(r.2=false/\r.1=[]/\¬(f.kind=1/\FV f/\BV l/\BV (l++[⟨f.name,f.sc,id⟩]))):=by
 have hz:=Fm.RE f;rw [AF];refine ZK (A2 hs) fun b hb=>?_;cases b
 ·simp only [ZX,if_true,Yd,X7];exact ⟨_,rfl,.inr ⟨rfl,rfl,fun h=>by have:=hb.2 h.2.2.1;cases this⟩⟩
 simp only [ZY,Qq,if_false];obtain ⟨b2,e2,hb2⟩:=Tp hf;rw [e2];simp only [Yd,X7];cases b2
 ·simp only [ZX,if_true];exact ⟨_,rfl,.inr ⟨rfl,rfl,fun h=>by have:=hb2.2 ⟨h.1,h.2.1⟩;cases this⟩⟩
 simp only [ZY,Qq,if_false];rw [Qex l hs h2,X7,YK (by simp;omega),X7,YK (by simp;omega),X7];simp only [QS]
 have hs':BS (l++[⟨f.name,f.sc,id⟩]):=⟨by simp only [QV,ZO,ZN];unfold Sm;omega,fun b hb=>by
  rcases List.mem_append.1 hb with h | h
  ·exact hs.2 b h
  ·rw [List.mem_singleton.1 h];show f.sc.length<=_;omega⟩
 obtain ⟨b3,e3,hb3⟩:=A2 hs';rw [e3,X7];cases b3
 ·simp only [ZX,if_true];exact ⟨_,rfl,.inr ⟨rfl,rfl,fun h=>by have:=hb3.2 h.2.2.2;cases this⟩⟩
 ·simp only [ZY,Qq,if_false];exact ⟨_,rfl,.inl ⟨rfl,rfl,(hb2.1 rfl).1,(hb2.1 rfl).2,hb.1 rfl,hb3.1 rfl⟩⟩
theorem TH (l:List Int) (n:Int) (h:l.length<=1000000):Aq l n=some (SF l n):=by
 have key:∀(r z:List Int) (i:Nat),z.length+r.length<=1000000->Je l n z i r=some (z++SF r n):=by
  intro r
  induction r with
  | nil=>intro z i _;rw [Je,Yd];simp [SF]
  | cons x r ih =>
   intro z i hz;simp only [ZO] at hz;rw [Je,Yd,X7]
   by_cases hx:x=n
   ·rw [if_pos hx,ih _ _ (by omega)];simp [SF,hx]
   ·rw [if_neg hx,X7,YK (by simp;omega),X7,ih _ _ (by simp;omega)];simp [SF,hx]
 rw [Aq,Lk _ _ _ (by omega),key l [] 0 (by simp;omega)];rfl
theorem Qc3 (l:List Int) (n:Int) (h:l.length<=1000000):AY l n=some (Qns l n):=by
 have key:∀(r z:List Int) (b:Bool) (i:Nat),z.length+r.length+(if b=true then 0 else 1)<=1000002->GG l n z b i r=some (if b=true then (z++r,true) else if r.any (fun x=>decide (x > n))=true then (z++Qfx n r,true) else (z++r,false)):=by
  intro r
  induction r with
  | nil=>intro z b i _;rw [GG,Yd];cases b<;>simp
  | cons x r ih =>
   intro z b i hz;simp only [ZO] at hz;rw [GG];cases b
   ·rw [if_neg (by simp)] at hz;simp only [ZX,if_true,Yd,X7,Qq,if_false,Z0,Bool.or_eq_true,decide_eq_true_eq]
    by_cases hx:x > n
    ·rw [if_pos hx,YK (by simp only [QV,ZO,ZN];omega)];simp only [X7];rw [YK (by simp;omega)];simp only [X7];rw [ih _ true _ (by simp;omega),if_pos rfl,if_pos (.inl hx),Qfx,if_pos hx]
     simp
    ·rw [if_neg hx];simp only [X7];rw [YK (by simp;omega)];simp only [X7];rw [ih _ false _ (by simp;omega),if_neg (by simp),Qfx,if_neg hx]
     have e:(x > n∨(r.any fun x=>decide (x > n))=true)↔(r.any fun x=>decide (x > n))=true:=by simp [hx]
     simp only [QD,List.singleton_append]
     by_cases hr:(r.any fun x=>decide (x > n))=true
     ·rw [if_pos hr,if_pos (e.2 hr)]
     ·rw [if_neg hr,if_neg (fun h=>hr (e.1 h))]
   ·rw [if_pos rfl] at hz;simp only [ZY,Qq,if_false,Yd,X7,if_true];rw [YK (by simp;omega)];simp only [X7];rw [ih _ true _ (by simp;omega),if_pos rfl]
    simp
 have tail:∀r:List Int,(r.any fun x=>decide (x > n))=false->Qfx n r=r++[n]:=by
  intro r
  induction r with
  | nil=>intro _;rfl
  | cons x r ih =>
   intro hr;rw [Z0,Bool.or_eq_false_iff] at hr;rw [Qfx,if_neg (by simpa using hr.1),ih hr.2];rfl
 rw [AY,Mi _ _ (by unfold Sm;omega),X7,MF _ _ _ _ (by omega),key l [] _ 0 (by simp only [ZN];split<;>omega),X7,Qns]
 by_cases hm:n∈l
 ·simp [hm,Yd]
 ·simp only [hm,decide_false,Qq,if_false,QS]
  by_cases hr:(l.any fun x=>decide (x > n))=true
  ·rw [if_pos hr];rfl
  ·rw [if_neg hr];simp only [ZX,if_true];rw [YK (by simp;omega),tail l (by simpa using hr)];rfl
theorem GO (s w:Int):∀f:Fm,f.sz<=1000000->YQ f s w=some (chg s w f):=by
 intro f
 induction f using Fm.ind with
 | h f ih =>
  intro hf;have hz:=Fm.Jt f
  have hS:(if f.kind=1 then
   (((if w=2 then pure true else ((if w=1 then (WS f.sc s>>=fun x32=>pure x32) else pure false:Option Bool)>>=fun x33=>pure x33):Option Bool))>>=fun x34 =>
    if x34=true then (Aq f.sc s>>=fun x38=>pure x38) else (AY f.sc s>>=fun x43=>pure x43)) else pure f.sc:Option (List Int))=some (if f.kind=1 then chS f.sc s w else f.sc):=by
   by_cases h1:f.kind=1
   ·rw [if_pos h1,if_pos h1,chS]
    by_cases h2:w=2
    ·simp [h2,Yd,X7,TH f.sc s (by omega)]
    ·by_cases h3:w=1
     ·subst h3;simp only [h2,if_false,if_true,Mi _ _ (show Sm f.sc.length by unfold Sm;omega),Yd,X7,false_or,true_and]
      by_cases h4:s∈f.sc
      ·simp [h4,TH f.sc s (by omega),X7]
      ·simp [h4,Qc3 f.sc s (by omega),X7]
     ·simp [h2,h3,Yd,X7,Qc3 f.sc s (by omega)]
   ·rw [if_neg h1,if_neg h1];rfl
  rw [YQ,YK (by simp;omega),X7,QS,hS,X7,EL _ _ _ _ _ (by omega),
   H0 (JW f s w _) (chg s w) (fun _ _=>rfl) f.kids [] 0 (fun x hx z i r hzb=>by
    have:=Fm.WR hx
    rw [JW,Yd,X7,ih x hx (by omega),X7,YK (by simp;omega),X7]) (by simp;omega),X7,Qbt]
  simp [Yd]
end Go.Proofs.SA
open Go.IntKind (i64)
namespace Go.Proofs.SA
theorem Fm.ext_iff {a b:Fm} : a=b↔a.kind=b.kind/\a.name=b.name/\a.num=b.num/\a.sc=b.sc/\a.kids=b.kids:=by
 cases a;cases b;simp [Fm.kind,Fm.name,Fm.num,Fm.sc,Fm.kids]
theorem Dy:∀a:Fm,a.sz<=1000000->∀b:Fm,Vf a b=some (decide (a=b)):=by
 intro a
 induction a using Fm.ind with
 | h a ih =>
  intro ha b;have hz:=Fm.Jt a
  have hd:∀(P:Prop) [Decidable P],(a=b↔P)->decide (a=b)=decide P:=fun P _ h=>by simp only [h]
  rw [Vf]
  by_cases h1:a.kind=b.kind
  rotate_left
  ·rw [decide_eq_false (fun h=>h1 (Fm.ext_iff.1 h).1)];simp [h1,Yd,X7]
  by_cases h2:a.name=b.name
  rotate_left
  ·rw [decide_eq_false (fun h=>h2 (Fm.ext_iff.1 h).2.1)];simp [h1,h2,Yd,X7]
  by_cases h3:a.num=b.num
  rotate_left
  ·rw [decide_eq_false (fun h=>h3 (Fm.ext_iff.1 h).2.2.1)];simp [h1,h2,h3,Yd,X7]
  by_cases h4:a.sc=b.sc
  rotate_left
  ·rw [decide_eq_false (fun h=>h4 (Fm.ext_iff.1 h).2.2.2.1)];simp [h1,h2,h3,h4,Yd,X7,OM a.sc b.sc (by unfold Sm;omega)]
  by_cases h5:a.kids.length=b.kids.length
  rotate_left
  ·rw [show decide (a=b)=false from decide_eq_false (fun h=>h5 (by rw [h]))]
   have:¬(a.kids.length:Int)=(b.kids.length:Int):=by omega
   simp [h1,h2,h3,h4,h5,this,Yd,X7,OM b.sc b.sc (by rw [← h4];unfold Sm;omega)]
  have h6:(a.kids.length:Int)=(b.kids.length:Int):=by omega
  simp only [h1,h2,h3,h4,h6,decide_true,ZY,Bool.or_false,Yd,X7,Qq,if_false,OM b.sc b.sc (show Sm b.sc.length by rw [← h4];unfold Sm;omega)];rw [EI _ _ (by omega)]
  rcases Qa3 (JU a b) a.kids (fun i x=>!decide (some x=b.kids[i]?)) false (fun _=>rfl) (fun i hi r=>by
   have hm:a.kids[i]∈a.kids:=ZR hi;have:=Fm.WR hm;rw [JU,Yd,X7,Yg b.kids i (by omega),X7,ih _ hm (by omega),X7];have hg:b.kids[i]?=some (b.kids[i]'(by omega)):=Qh _;rw [hg];simp only [Option.some.injEq]
   by_cases hx:a.kids[i]=b.kids[i]<;>simp [hx,Yd]) with ⟨h7,i,hi,hp⟩ | ⟨h7,hp⟩
  ·have e:decide (a=b)=false:=decide_eq_false (fun h=>by
    have h8:some a.kids[i]=b.kids[i]?:=by rw [← h];exact (Qh hi).symm
    rw [decide_eq_true h8] at hp
    cases hp)
   rw [h7,e];rfl
  ·have e:decide (a=b)=true:=decide_eq_true ?_
   ·rw [h7,e];rfl
   refine Fm.ext_iff.2 ⟨h1,h2,h3,h4,Ky fun i=>?_⟩
   by_cases hi:i < a.kids.length
   ·have:=hp i hi;rw [Qh hi];simpa using this
   ·rw [Q4 (by omega),Q4 (by omega)]
def FS (l:List Fm):Prop:=Sm l.length/\∀f∈l,f.sz<=1000000
theorem Ob (l:List Fm) (f:Fm) (h:FS l):HU l f=some (decide (f∈l)):=by
 have:∀l:List Fm,(l.any fun x=>decide (x=f))=decide (f∈l):=by
  intro l
  induction l with
  | nil=>rfl
  | cons x l ih =>
   rw [Z0,ih]
   by_cases h:x=f
   ·subst h;simp
   ·have h2:¬f=x:=fun e=>h e.symm;simp [h,h2]
 rw [HU,NI _ _ (by have:=h.1;omega),Dp (Ia l f) (fun x=>decide (x=f)) true (fun _=>rfl) l 0 (fun x hx i r=>by
  rw [Ia,Yd,X7,Dy x (h.2 x hx),X7];rfl),this,X7]
 cases decide (f∈l)<;>rfl
theorem BO (f:Fm):YY f=some (Y2 f):=rfl
def Qac (l:List Fm):Prop:=l.length < 10/\(∀x∈l,x.kind=1/\FV x/\x.name≠Es/\x.name≠PD)/\l.Nodup
theorem Dw {α:Type} {l:List α} : l.Nodup↔∀i,∀h:i < l.length,l[i]∉l.take i:=by
 rw [List.Nodup,Kn];constructor
 ·intro h i hi hm;obtain ⟨j,hj,e⟩:=ZZ.1 hm;rw [Z1] at hj;rw [Z3] at e;exact h j i (by omega) hi (by omega) e
 ·intro h i j hi hj hij e;refine h j hj (ZZ.2 ⟨i,by rw [Z1];omega,?_⟩);rw [Z3];exact e
theorem P3 {α:Type} (l:List α) (i:Nat) (h:i<=l.length):Fc l 0 (i:Int)=some (l.take i):=by
 unfold Fc;rw [if_pos ⟨by omega,by omega,by omega⟩]
 simp
theorem Qo1 {l:List Fm} (hs:FS l):∀(n i:Nat),i+n=10->Tot (VT l i) fun o=>match o with
  | .inl r=>r=false/\∃j,∃h:j < l.length,¬((l[j].kind=1/\FV l[j]/\l[j].name≠Es/\l[j].name≠PD)/\l[j]∉l.take j)
  | .inr _=>∀j,i<=j->j < 10->∀h:j < l.length,(l[j].kind=1/\FV l[j]/\l[j].name≠Es/\l[j].name≠PD)/\l[j]∉l.take j:=by
 intro n
 induction n with
 | zero=>intro i hi;rw [VT,Yd,X7,if_neg (by simp;omega)];exact ⟨_,rfl,fun j h1 h2=>by omega⟩
 | succ n ih =>
  intro i hi;rw [VT,Yd,X7]
  by_cases hil:i < l.length
  rotate_left
  ·rw [if_neg (by simp;omega)];exact ⟨_,rfl,fun j h1 h2 h3=>by omega⟩
  rw [if_pos (by simp;omega),Yg l i hil];simp only [X7];have hm:l[i]∈l:=ZR hil
  have bad:¬((l[i].kind=1/\FV l[i]/\l[i].name≠Es/\l[i].name≠PD)/\l[i]∉l.take i)->Tot (pure (Sum.inl false):Option (Bool ⊕ Unit)) fun o=>match o with
   | .inl r=>r=false/\∃j,∃h:j < l.length,¬((l[j].kind=1/\FV l[j]/\l[j].name≠Es/\l[j].name≠PD)/\l[j]∉l.take j)
   | .inr _=>∀j,i<=j->j < 10->∀h:j < l.length,(l[j].kind=1/\FV l[j]/\l[j].name≠Es/\l[j].name≠PD)/\l[j]∉l.take j:=fun h=>⟨_,rfl,rfl,i,hil,h⟩
  obtain ⟨b1,e1,hb1⟩:=Tp (f:=l[i]) (by have:=hs.2 _ hm;omega);rw [e1,X7];cases b1
  ·simp only [ZX,if_true,Yd,X7]
   exact bad fun h=>by have:=hb1.2 ⟨h.1.1,h.1.2.1⟩;cases this
  simp only [ZY,Qq,if_false,Yd,X7];have hb:=hb1.1 rfl
  by_cases h2:l[i].name=Es
  ·have h2':=h2;unfold Es at h2';simp only [h2',decide_true,if_true,Yd,X7];exact bad fun h=>h.1.2.2.1 h2
  have h2':=h2;unfold Es at h2';simp only [h2',decide_false,Qq,if_false,Yd,X7]
  by_cases h3:l[i].name=PD
  ·have h3':=h3;unfold PD at h3';simp only [h3',decide_true,if_true,Yd,X7];exact bad fun h=>h.1.2.2.2 h3
  have h3':=h3;unfold PD at h3';simp only [h3',decide_false,Qq,if_false,Yd,X7,P3 l i (by omega)];rw [Ob (l.take i) l[i] ⟨by have:=hs.1;unfold Sm at *;rw [Z1];omega,fun f hf=>hs.2 f (List.mem_of_mem_take hf)⟩,X7];simp only [X7]
  by_cases h4:l[i]∈l.take i
  ·simp only [h4,decide_true,if_true];exact bad fun h=>h.2 h4
  simp only [h4,decide_false,Qq,if_false,WC (i:=i) (by omega)];refine (ih (i+1) (by omega)).mono fun o ho=>?_
  cases o with
  | inl r=>exact ho
  | inr u =>
   exact fun j h5 h6 h7=>by
    by_cases hj:j=i
    ·subst hj;exact ⟨⟨hb.1,hb.2,h2,h3⟩,h4⟩
    ·exact ho j (by omega) h6 h7
theorem EB {l:List Fm} (hs:FS l):Tot (GY l) fun b=>b=true↔Qac l:=by
 rw [GY];refine ZK (Qo1 hs 10 0 (by omega)) fun o ho=>?_
 cases o with
 | inl r =>
  obtain ⟨h0,j,hj,hn⟩:=ho;subst h0;exact ⟨_,rfl,fun h=>(by cases h),fun h=>absurd ⟨h.2.1 _ (ZR hj),Dw.1 h.2.2 j hj⟩ hn⟩
 | inr u =>
  refine ⟨_,rfl,?_⟩;simp only [decide_eq_true_iff];constructor
  ·intro hl;refine ⟨by omega,fun b hb=>?_,Dw.2 fun i hi=>(ho i (QZ _) (by omega) hi).2⟩;obtain ⟨i,hi,rfl⟩:=ZZ.1 hb;exact (ho i (QZ _) (by omega) hi).1
  ·intro h;have:=h.1;omega
theorem Qde:∀p:Fm,p.sz<=1000000->G6 p=some (Qdc p):=by
 intro p
 induction p using Fm.ind with
 | h p ih =>
  intro hp;have hz:=Fm.Jt p
  have loop:∀(r:List Fm) (i:Nat) (n:Nat) (b:Bool),p.kids.drop i=r->n<=i->(b=true↔i=0∨∃h:i - 1 < p.kids.length,0 < i/\Y2 p.kids[i - 1]=true) ->
    Tot (Jn p (n:Int) i r) fun o=>match o with | .inl r'=>r'=false/\SC b n r=false | .inr m=>decide (m<=1)=SC b n r:=by
   intro r
   induction r with
   | nil=>intro i n b _ _ _;exact ⟨_,rfl,by rw [SC];by_cases h:n<=1<;>simp [h]<;>omega⟩
   | cons f r ihr =>
    intro i n b hd hn hb
    have hi:i < p.kids.length:=by
     rcases Nat.lt_or_ge i p.kids.length with h | h
     ·exact h
     ·rw [List.drop_of_length_le h] at hd;cases hd
    rw [ZH hi] at hd
    injection hd with e1 e2
    have hm:f∈p.kids:=e1▸ZR hi;rw [Jn,SC,Yd,X7,BO,X7]
    have hb2:∀b',b'=Y2 f->(b'=true↔i+1=0∨∃h:i+1 - 1 < p.kids.length,0 < i+1/\Y2 p.kids[i+1 - 1]=true):=by
     rintro b' rfl;simp only [Nat.add_sub_cancel];constructor
     ·intro h;exact .inr ⟨hi,by omega,by rw [e1];exact h⟩
     ·rintro (h | ⟨_,_,h⟩)
      ·omega
      ·rw [e1] at h;exact h
    cases hf:Y2 f
    ·simp only [Qq,if_false];have hk:=Fm.WR hm;rw [X7,ih f hm (by omega),X7];cases hs:Qdc f
     ·simp only [ZX,if_true,Qq,if_false];exact ⟨_,rfl,by simp⟩
     ·simp only [ZY,Qq,if_false,if_true];exact ihr (i+1) n false e2 (by omega) (hb2 false hf.symm)
    ·simp only [if_true]
     by_cases hi0:i=0
     ·subst hi0;have:b=true:=hb.2 (.inl rfl);subst this;simp only [Int.ofNat_zero,if_true,Yd,X7];exact ⟨_,rfl,by simp⟩
     ·rw [if_neg (by omega),show i64.wrap ((i:Int) - 1)=((i - 1:Nat):Int) by rw [YP (by omega) (by omega)];omega,Yg _ _ (by omega)];simp only [X7,BO,Yd];cases hpd:Y2 p.kids[i - 1]
      ·have:b=false:=by
        cases b with
        | false=>rfl
        | true =>
         rcases hb.1 rfl with h | ⟨_,_,h⟩
         ·exact absurd h hi0
         ·rw [h] at hpd;cases hpd
       subst this;simp only [Qq,if_false];have hw:i64.wrap ((n:Int)+1)=((n+1:Nat):Int):=WC (by omega);rw [hw];exact ihr (i+1) (n+1) true e2 (by omega) (hb2 true hf.symm)
      ·have:b=true:=hb.2 (.inr ⟨by omega,by omega,hpd⟩);subst this;simp only [if_true];exact ⟨_,rfl,by simp⟩
  rw [G6,O1,BO,X7];cases hd:Y2 p
  ·simp only [Qq,if_false];rw [FC _ _ (by omega)];obtain ⟨o,ho,hp⟩:=loop p.kids 0 0 true (List.drop_zero ..) (Qt _) ⟨fun _=>.inl rfl,fun _=>rfl⟩;rw [show ((0:Nat):Int)=0 from rfl] at ho;rw [ho,X7]
   cases o with
   | inl r=>rw [hp.1,hp.2];rfl
   | inr m=>rw [← hp];rfl
  ·rfl
end Go.Proofs.SA
