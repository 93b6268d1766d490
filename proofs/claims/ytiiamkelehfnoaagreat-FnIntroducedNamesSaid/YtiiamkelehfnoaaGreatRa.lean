/- Patterns, matches and templates as plain functions: what both sides compute. -/
import Derived.Test.YtiiamkelehfnoaaGreatQa
set_option linter.unusedVariables false
set_option linter.unusedSimpArgs false
set_option maxRecDepth 100000
open Go Go.Proofs Go.Proofs.Shadow
open _root_.Bool renaming false_eq_true → Qq, not_false → ZV, not_true → ZW
open _root_.List renaming mem_cons_of_mem → Kf, length_cons → ZM, getElem?_eq_getElem → Qh, length_append → QV, mem_cons_self → Kx, getElem_mem → ZP, getElem?_eq_none → Q4, mem_iff_getElem → ZX, drop_eq_getElem_cons → ZF, pairwise_iff_getElem → Kn, any_cons → ZY, eq_nil_of_length_eq_zero → KB, getD_eq_getElem?_getD → Qz, length_take → ZZ, length_pos_of_mem → Z0, nil_append → QS, length_nil → ZL, mem_cons → Kj, append_assoc → QD, ext_getElem? → Ky, getElem_take → Z1, range → Z2
open _root_.Nat renaming le_refl → Qt, zero_le → QZ
open Fm renaming nodes → ZS
open _root_.ByteArray renaming mk → Qk
open Tot renaming bind → ZI
namespace Go.Proofs.Shadow
noncomputable instance:DecidableEq Fm:=fun a b=>Classical.propDecidable (a=b)
instance:Inhabited Hit:=⟨.mk Fm.zero 0 Fm.zero []⟩
instance:Inhabited Bnd:=⟨⟨Qk #[],[],0⟩⟩
theorem Hit.eta (h:Hit):Hit.mk h.name h.depth h.one h.many=h:=by cases h;rfl
def D0:ByteArray:=Qk #[46,46,46]
def OV:ByteArray:=Qk #[95]
def YW (f:Fm):Bool:=decide (f.kind=1)&&decide (f.name=D0)
def WK:List Fm->Bool
 | f :: _=>YW f
 | []=>false
def Qes (a b:List Int):Bool:=a.all fun x=>decide (x∈b)
def Ss (n:Fm):Nat->List Bnd->List Int
 | _,[]=>[]
 | i,b :: l=>if b.name=n.name/\Qes b.sc n.sc=true then (i:Int) :: Ss n (i+1) l else Ss n (i+1) l
def Uq (l:List Bnd) (i:Int):List Int:=(l.getD i.toNat default).sc
def Qlm (l:List Bnd) (fit:List Int) (i:Int):Bool:=fit.all fun k=>Qes (Uq l k) (Uq l i)
def findF (l:List Bnd) (n:Fm):Int × Int :=
 match (Ss n 0 l).find? (Qlm l (Ss n 0 l)) with
 | some i=>(i,1)
 | none=>if (Ss n 0 l).length=0 then (0,0) else (0,2)
theorem C8 (n:Fm):∀(l:List Bnd) (i:Nat),∀k∈Ss n i l,(i:Int)<=k/\k < i+l.length
 | [],i,k,hk=>by cases hk
 | b :: l,i,k,hk=>by
  unfold Ss at hk;simp only [ZM];split at hk
  ·rcases Kj.1 hk with rfl | hk
   ·omega
   ·have:=C8 n l (i+1) k hk;omega
  ·have:=C8 n l (i+1) k hk;omega
theorem St (n:Fm):∀(l:List Bnd) (i:Nat),(Ss n i l).length<=l.length
 | [],i=>Qt _
 | b :: l,i=>by
  unfold Ss;have:=St n l (i+1);split<;>simp only [ZM]<;>omega
theorem DE {l:List Bnd} {n:Fm} (h:(findF l n).2=1):0<=(findF l n).1/\(findF l n).1 < l.length:=by
 unfold findF at h ⊢;split at h
 ·rename_i i hi;have:=C8 n l 0 i (List.mem_of_find?_eq_some hi)
  simp only;omega
 ·split at h<;>cases h
def L5 (l:List Bnd) (a b:Fm):Bool :=
 if (findF l a).2≠(findF l b).2∨(findF l a).2=2 then false
 else if (findF l a).2=0 then decide (a.name=b.name)
 else decide ((l.getD (findF l a).1.toNat default).id=(l.getD (findF l b).1.toNat default).id)
noncomputable def PW (ls:List Fm) (f:Fm):Bool:=decide (f.kind=1)&&(!decide (f.name=D0))&&(!decide (f.name=OV))&&!decide (f∈ls)
section
variable (ls:List Fm)
mutual
noncomputable def vrs:Fm->List Fm
 | .mk k s n c ks=>(if PW ls (.mk k s n c ks)=true then [.mk k s n c ks] else [])++NL ks
noncomputable def NL:List Fm->List Fm
 | []=>[]
 | f :: fs=>vrs f++NL fs
end
mutual
noncomputable def dps:Int->Fm->List Int
 | d,.mk k s n c ks=>(if PW ls (.mk k s n c ks)=true then [d] else [])++Rw d ks
noncomputable def Rw:Int->List Fm->List Int
 | d,[]=>[]
 | d,f :: fs=>dps (if WK fs=true then d+1 else d) f++Rw d fs
end
mutual
def Qbx:Fm->Bool
 | .mk k s n c ks=>if YW (.mk k s n c ks)=true then false else RO true 0 ks
def RO:Bool->Nat->List Fm->Bool
 | _,n,[]=>decide (n<=1)
 | b,n,f :: fs=>if YW f=true then (if b=true then false else RO true (n+1) fs) else if Qbx f=true then RO false n fs else false
end
theorem Mx (p:Fm):vrs ls p=(if PW ls p=true then [p] else [])++NL ls p.kids:=by cases p;rw [vrs];rfl
theorem Sg (d:Int) (p:Fm):dps ls d p=(if PW ls p=true then [d] else [])++Rw ls d p.kids:=by cases p;rw [dps];rfl
theorem Oq (p:Fm):Qbx p=if YW p=true then false else RO true 0 p.kids:=by cases p;rw [Qbx];rfl
theorem L6:∀(l:List Fm) (b:Bool) (n:Nat),RO b n l=true->(l.filter YW).length+n<=1
 | [],b,n,h=>by rw [RO] at h;simpa using h
 | f :: fs,b,n,h=>by
  rw [RO] at h
  by_cases hd:YW f=true
  ·rw [if_pos hd] at h;cases b
   ·have:=L6 fs true (n+1) (by simpa using h);rw [List.filter_cons_of_pos hd,ZM];omega
   ·simp at h
  ·rw [if_neg hd] at h;split at h
   ·have:=L6 fs false n h;rw [List.filter_cons_of_neg hd];exact this
   ·cases h
theorem Qb0 {l:List Fm} {n:Nat} (h:RO true n l=true):WK l=false:=by
 cases l with
 | nil=>rfl
 | cons f fs =>
  rw [RO] at h;cases hd:YW f
  ·exact hd
  ·rw [if_pos hd] at h;simp at h
theorem Ot:∀(l:List Fm) (b:Bool) (n:Nat),RO b n l=true->∀f∈l,YW f=true∨Qbx f=true
 | [],b,n,h,f,hf=>by cases hf
 | g :: fs,b,n,h,f,hf=>by
  rw [RO] at h
  by_cases hd:YW g=true
  ·rw [if_pos hd] at h;cases b
   ·rcases Kj.1 hf with rfl | hf
    ·exact .inl hd
    ·exact Ot fs true (n+1) (by simpa using h) f hf
   ·simp at h
  ·rw [if_neg hd] at h;split at h
   ·rename_i hs
    rcases Kj.1 hf with rfl | hf
    ·exact .inr hs
    ·exact Ot fs false n h f hf
   ·cases h
theorem SY:∀(l:List Fm),(∀f∈l,∀d,(vrs ls f).length=(dps ls d f).length)->∀d,(NL ls l).length=(Rw ls d l).length
 | [],_,d=>rfl
 | f :: fs,h,d=>by
  rw [NL,Rw,QV,QV,h f (Kx ..),SY fs (fun g hg=>h g (Kf _ hg))]
theorem Mw (p:Fm):∀d,(vrs ls p).length=(dps ls d p).length:=by
 induction p using Fm.ind with
 | h p ih =>
  intro d;rw [Mx,Sg,QV,QV,SY ls p.kids ih d];split<;>rfl
theorem SZ:∀(l:List Fm),(∀f∈l,(vrs ls f).length<=f.nodes)->(NL ls l).length<=Y4 ZS l
 | [],_=>Qt _
 | f :: fs,h=>by
  rw [NL,QV,Y4];have:=h f (Kx ..);have:=SZ fs (fun g hg=>h g (Kf _ hg));omega
theorem BI (p:Fm):(vrs ls p).length<=p.nodes:=by
 induction p using Fm.ind with
 | h p ih =>
  rw [Mx,QV,Fm.YK];have:=SZ ls p.kids ih;split<;>simp<;>omega
end
noncomputable def Qfv (ls:List Fm) (p:Fm) (rows:List (List Hit)):List Hit :=
 (Z2 (vrs ls p).length).map fun i=>.mk ((vrs ls p).getD i default) ((dps ls 0 p).getD i 0+1) Fm.zero (rows.map fun r=>r.getD i default)
def Fq {α β:Type} (g:α->Option β):List α->Option (List β)
 | []=>some []
 | x :: l=>match g x with
  | none=>none
  | some y=>(Fq g l).map (y :: ·)
section
variable (B:List Bnd) (ls:List Fm)
mutual
noncomputable def pm : Fm -> Fm -> Option (List Hit)
  | .mk k s n c ks, f =>
    if k = 1 then
      (if s = OV then some [] else if .mk k s n c ks ∈ ls then (if f.kind = 1 /\ L5 B (.mk k s n c ks) f = true then some [] else none) else some [.mk (.mk k s n c ks) 0 f []])
    else if k = 2 then (if .mk k s n c ks = f then some [] else none)
    else if f.kind = 3 then
      (if ks.any YW = true then (if f.kids.length + 2 < ks.length then none else pmL ks f.kids (f.kids.length + 2 - ks.length))
       else if ks.length = f.kids.length then pmL ks f.kids 0 else none)
    else none
noncomputable def pmL : List Fm -> List Fm -> Nat -> Option (List Hit)
  | [], _, _ => some []
  | p :: ps, fs, n =>
    if YW p = true then pmL ps fs n
    else if WK ps = true then
      (match Fq (pm p) (fs.take n) with
       | none => none
       | some rows => (pmL ps (fs.drop n) n).map (Qfv ls p rows ++ ·))
    else match fs with
      | [] => none
      | f :: fs => match pm p f with
        | none => none
        | some hs => (pmL ps fs n).map (hs ++ ·)
end
end
theorem RK (B:List Bnd) (ls:List Fm) (fs:List Fm) (n:Nat):pmL B ls [] fs n=some []:=by rw [pmL.eq_def]
theorem Oi (B : List Bnd) (ls : List Fm) (p : Fm) (ps fs : List Fm) (n : Nat) : pmL B ls (p :: ps) fs n = if YW p = true then pmL B ls ps fs n
    else if WK ps = true then
      (match Fq (pm B ls p) (fs.take n) with
       | none => none
       | some rows => (pmL B ls ps (fs.drop n) n).map (Qfv ls p rows ++ ·))
    else match fs with
      | [] => none
      | f :: fs => match pm B ls p f with
        | none => none
        | some hs => (pmL B ls ps fs n).map (hs ++ ·) := by rw [pmL.eq_def]
theorem Qic (B : List Bnd) (ls : List Fm) (p f : Fm) : pm B ls p f = if p.kind = 1 then
      (if p.name = OV then some [] else if p ∈ ls then (if f.kind = 1 /\ L5 B p f = true then some [] else none) else some [.mk p 0 f []])
    else if p.kind = 2 then (if p = f then some [] else none)
    else if f.kind = 3 then
      (if p.kids.any YW = true then (if f.kids.length + 2 < p.kids.length then none else pmL B ls p.kids f.kids (f.kids.length + 2 - p.kids.length))
       else if p.kids.length = f.kids.length then pmL B ls p.kids f.kids 0 else none)
    else none := by cases p; rw [pm]; rfl
end Go.Proofs.Shadow
namespace Go.Proofs.Shadow
noncomputable def Qko (H:List Hit) (f:Fm):Option Hit:=H.find? fun h=>decide (h.name=f)
noncomputable def Up (H:List Hit) (f:Fm):Int:=if f.kind=1 then (match Qko H f with | some h=>h.depth | none=>-1) else -1
mutual
noncomputable def MZ (H:List Hit):Fm->Bool
 | .mk k s n c ks=>decide (0 < Up H (.mk k s n c ks))||Qeg H ks
noncomputable def Qeg (H:List Hit):List Fm->Bool
 | []=>false
 | f :: fs=>MZ H f||Qeg H fs
end
def Oc (H:List Hit):List Hit:=H.map fun h=>.mk h.name (if 0 < h.depth then h.depth - 1 else h.depth) h.one []
mutual
noncomputable def Qfy:Fm->List Hit->Bool
 | .mk k s n c ks,H=>!(YW (.mk k s n c ks)||decide (0 < Up H (.mk k s n c ks)))&&Qew true ks H
noncomputable def Qew:Bool->List Fm->List Hit->Bool
 | _,[],_=>true
 | b,t :: ts,H=>if YW t=true then !b&&Qew true ts H
  else if WK ts=true then MZ H t&&Qfy t (Oc H)&&Qew false ts H
  else Qfy t H&&Qew false ts H
end
noncomputable def Ev (t x:Fm):Bool:=t.all.any fun g=>decide (g.kind=1)&&decide (g=x)
noncomputable def BY (t:Fm):List Hit->Int->Int
 | [],n=>n
 | h :: H,n=>if h.depth=0∨Ev t h.name=false then BY t H n else if 0<=n/\n≠(h.many.length:Int) then -1 else BY t H h.many.length
noncomputable def Qh2 (t:Fm) (n:Nat) (h:Hit):Hit:=if 0 < h.depth/\Ev t h.name=true then h.many.getD n default else h
noncomputable def SE (t:Fm) (H:List Hit) (n:Nat):List Hit:=H.map (Qh2 t n)
mutual
noncomputable def fl:Fm->List Hit->Option Fm
 | .mk k s n c ks,H =>
  match (if k=1 then Qko H (.mk k s n c ks) else none) with
  | some h=>if h.depth=0 then some h.one else none
  | none=>match flL ks H with
   | none=>none
   | some out=>if Y4 ZS out<=400 then some (.mk k s n c out) else none
noncomputable def flL : List Fm -> List Hit -> Option (List Fm)
  | [], _ => some []
  | t :: ts, H =>
    if YW t = true then flL ts H
    else if WK ts = true then
      (if BY t H (-1) < 0 then none
       else match Fq (fun n => fl t (SE t H n)) (Z2 (BY t H (-1)).toNat) with
        | none => none
        | some ks => (flL ts H).map (ks ++ ·))
    else match fl t H with
      | none => none
      | some k => (flL ts H).map (k :: ·)
end
noncomputable def Fv (p:Fm) (ls:List Fm):List Hit :=
 (Z2 (vrs ls p).length).map fun i=>.mk ((vrs ls p).getD i default) ((dps ls 0 p).getD i 0) (if (dps ls 0 p).getD i 0=0 then (vrs ls p).getD i default else Fm.zero) []
end Go.Proofs.Shadow
namespace Go.Proofs.SA
theorem FIs.mono:∀(d:Nat) (f:Fm),FIs d f->FIs (d+1) f:=by
 intro d
 induction d with
 | zero=>intro f h;exact h.elim
 | succ d ih =>
  intro f h
  rcases h with h | h | h
  ·exact .inl h
  ·exact .inr (.inl h)
  ·exact .inr (.inr ⟨h.1,h.2.1,h.2.2.1,h.2.2.2.1,fun k hk=>ih k (h.2.2.2.2 k hk)⟩)
theorem FIs.kid {d:Nat} {f k:Fm} (h:FIs (d+1) f) (hk:k∈f.kids):FIs d k:=by
 rcases h with h | h | h
 ·have:=Z0 hk;omega
 ·have:=Z0 hk;omega
 ·exact h.2.2.2.2 k hk
theorem V1 {f k:Fm} (hk:k∈f.kids):k.nodes+1<=f.nodes:=by
 rw [Fm.YK f];have:=Ad ZS f.kids k hk;omega
theorem Hw (f:Fm):1<=f.nodes:=by rw [Fm.YK];omega
theorem FV.kid {f k:Fm} (h:FV f) (hk:k∈f.kids):FV k:=⟨FIs.mono _ _ (FIs.kid h.1 hk),by have:=V1 hk;have:=h.2;omega⟩
theorem W0:∀l:List Fm,l.length<=Y4 ZS l
 | []=>Qt _
 | f :: l=>by have:=W0 l;have:=Hw f;rw [Y4,ZM];omega
theorem FIs.sz:∀(d:Nat) (f:Fm),FIs d f->f.sz+1<=37 * f.nodes:=by
 intro d
 induction d with
 | zero=>intro f h;exact h.elim
 | succ d ih =>
  intro f h;rw [Fm.JM,Fm.YK]
  have hsum:∀l:List Fm,(∀g∈l,FIs d g)->Y4 Fm.sz l+l.length<=37 * Y4 ZS l:=by
   intro l
   induction l with
   | nil=>intro _;exact Qt _
   | cons g l ihl =>
    intro hg;have h1:=ih g (hg g (Kx ..));have h2:=ihl (fun x hx=>hg x (Kf _ hx));simp only [Y4,ZM];omega
  rcases h with h | h | h
  ·obtain ⟨h1,h2,h3,h4,h5⟩:=h;have hk:f.kids=[]:=KB h5
   have hn:f.name.size<=12:=by
    rcases h2 with h2 | h2 | h2
    ·rw [h2];decide
    ·rw [h2];decide
    ·exact h2.2.1
   have:=h4.1;rw [hk];simp [Y4];omega
  ·obtain ⟨h1,h2,h3,h4,h5,h6⟩:=h;have hk:f.kids=[]:=KB h6;rw [hk,h2,h5];have:(Qk #[]).size=0:=rfl;simp [Y4,this]
  ·obtain ⟨h1,h2,h3,h4,h5⟩:=h;have:=hsum f.kids h5;rw [h2,h4];have:(Qk #[]).size=0:=rfl;omega
theorem FV.sz {f:Fm} (h:FV f):f.sz<=14800:=by have:=FIs.sz _ _ h.1;have:=h.2;omega
theorem FV.H5 {f:Fm} (h:FV f):f.kids.length<=399:=by have:=W0 f.kids;have:=Fm.YK f;have:=h.2;omega
end Go.Proofs.SA
namespace Go.Proofs.Shadow
def Qea (n:Int):List Int->List Int
 | []=>[n]
 | x :: l=>if x > n then n :: x :: l else x :: Qea n l
def Qll (l:List Int) (n:Int):List Int:=if n∈l then l else Qea n l
def RR (l:List Int) (n:Int):List Int:=l.filter fun x=>decide (x≠n)
def chS (sc:List Int) (s way:Int):List Int:=if way=2∨(way=1/\s∈sc) then RR sc s else Qll sc s
mutual
def chg (s way:Int):Fm->Fm
 | .mk k n m sc ks=>.mk k n m (if k=1 then chS sc s way else sc) (Qln s way ks)
def Qln (s way:Int):List Fm->List Fm
 | []=>[]
 | f :: fs=>chg s way f :: Qln s way fs
end
theorem Qai (s way:Int):∀l,Qln s way l=l.map (chg s way)
 | []=>rfl
 | f :: fs=>by rw [Qln,Qai s way fs];rfl
theorem Qaj (s way:Int) (f:Fm):chg s way f=.mk f.kind f.name f.num (if f.kind=1 then chS f.sc s way else f.sc) (f.kids.map (chg s way)):=by cases f;rw [chg,Qai];rfl
theorem Ag (s way:Int) (f:Fm):(chg s way f).nodes=f.nodes:=by
 induction f using Fm.ind with
 | h f ih =>
  rw [Fm.YK,Fm.YK f,Qaj]
  have:∀l:List Fm,(∀g∈l,(chg s way g).nodes=g.nodes)->Y4 ZS (l.map (chg s way))=Y4 ZS l:=by
   intro l
   induction l with
   | nil=>intro _;rfl
   | cons g l ihl=>intro h;rw [List.map_cons,Y4,Y4,h g (Kx ..),ihl (fun x hx=>h x (Kf _ hx))]
  show 1+Y4 ZS (f.kids.map (chg s way))=_;rw [this _ ih]
theorem SK (n:Int):∀l,(Qea n l).length=l.length+1
 | []=>rfl
 | x :: l=>by unfold Qea;split<;>simp [SK n l]
theorem Qgt (sc:List Int) (s way:Int):(chS sc s way).length<=sc.length+1:=by
 unfold chS Qll RR;split
 ·exact Nat.le_trans (List.length_filter_le _ _) (Nat.le_succ _)
 ·split
  ·omega
  ·rw [SK];omega
theorem Qjq (s way:Int) (f:Fm):(chg s way f).sz<=f.sz+f.nodes:=by
 induction f using Fm.ind with
 | h f ih =>
  rw [Fm.JM,Fm.JM f,Fm.YK,Qaj]
  have:∀l:List Fm,(∀g∈l,(chg s way g).sz<=g.sz+g.nodes)->Y4 Fm.sz (l.map (chg s way))<=Y4 Fm.sz l+Y4 ZS l:=by
   intro l
   induction l with
   | nil=>intro _;exact Qt _
   | cons g l ihl =>
    intro h;have h1:=h g (Kx ..);have h2:=ihl (fun x hx=>h x (Kf _ hx));simp only [List.map_cons,Y4];omega
  have h1:=this _ ih;have h2:=Qgt f.sc s way;show f.name.size+(if f.kind=1 then chS f.sc s way else f.sc).length+(f.kids.map (chg s way)).length+Y4 Fm.sz (f.kids.map (chg s way))<=_;rw [List.length_map];split<;>omega
end Go.Proofs.Shadow
namespace Go.Proofs.Shadow
theorem CX {α β:Type} (F:Nat->List α->Option (β ⊕ Unit)) (p:α->Bool) (b:β) (hn:∀i,F i []=some (.inr ())):∀(l:List α) (i:Nat),(∀x∈l,∀i r,F i (x :: r)=if p x=true then some (.inl b) else F (i+1) r)->F i l=some (if l.any p=true then .inl b else .inr ()):=by
 intro l
 induction l with
 | nil=>intro i _;rw [hn];rfl
 | cons x l ih =>
  intro i hc;rw [hc x (Kx ..),ZY];cases hp:p x
  ·rw [if_neg (by simp),ih _ (fun y hy=>hc y (Kf _ hy))];rfl
  ·rfl
theorem US {α β:Type} (F:Nat->List α->Option (β ⊕ Unit)) (a:List α) (p:Nat->α->Bool) (b:β) (hn:∀i,F i []=some (.inr ())) (hc:∀(i:Nat) (hi:i < a.length) r,F i (a[i] :: r)=if p i a[i]=true then some (.inl b) else F (i+1) r) :
  (F 0 a=some (.inl b)/\∃i,∃hi:i < a.length,p i a[i]=true)∨(F 0 a=some (.inr ())/\∀i,∀hi:i < a.length,p i a[i]=false):=by
 have key:∀(n i:Nat),i+n=a.length->(F i (a.drop i)=some (.inl b)/\∃j,i<=j/\∃hj:j < a.length,p j a[j]=true)∨(F i (a.drop i)=some (.inr ())/\∀j,i<=j->∀hj:j < a.length,p j a[j]=false):=by
  intro n
  induction n with
  | zero=>intro i hi;right;rw [show i=a.length by omega,List.drop_length];exact ⟨hn _,fun j h1 h2=>by omega⟩
  | succ n ih =>
   intro i hi
   have hil:i < a.length:=by omega
   rw [ZF hil,hc i hil];cases hp:p i a[i]
   ·rw [if_neg (by simp)]
    rcases ih (i+1) (by omega) with ⟨h1,j,h2,h3,h4⟩ | ⟨h1,h2⟩
    ·exact .inl ⟨h1,j,by omega,h3,h4⟩
    ·refine .inr ⟨h1,fun j hj hjl=>?_⟩
     by_cases hji:j=i
     ·subst hji;exact hp
     ·exact h2 j (by omega) hjl
   ·exact .inl ⟨rfl,i,Qt _,hil,hp⟩
 rcases key a.length 0 (by omega) with ⟨h1,j,_,h3,h4⟩ | ⟨h1,h2⟩
 ·exact .inl ⟨h1,j,h3,h4⟩
 ·exact .inr ⟨h1,fun i hi=>h2 i (QZ _) hi⟩
theorem Qgj (l:List Int) (n:Int):(l.any fun x=>decide (x=n))=decide (n∈l):=by
 induction l with
 | nil=>rfl
 | cons x l ih =>
  rw [ZY,ih]
  by_cases h:x=n
  ·subst h;simp
  ·have h2:¬n=x:=fun e=>h e.symm;simp [h,h2]
end Go.Proofs.Shadow
namespace Go.Proofs.SA
abbrev Sm (n:Nat):Prop:=n<=1099511627776
theorem LO (l:List Int) (n:Int) (h:Sm l.length):WI l n=some (decide (n∈l)):=by
 rw [WI,Ma _ _ (by omega),CX (Hl l n) (fun x=>decide (x=n)) true (fun _=>rfl) l 0 (fun x _ i r=>by
  rw [Hl,Ye,X7];by_cases hx:x=n<;>simp [hx,Ye]),Qgj,X7]
 cases decide (n∈l)<;>rfl
theorem PS (a b:List Int) (h:Sm a.length) (hb:Sm b.length):V3 a b=some (Qes a b):=by
 rw [V3,Cs _ _ (by omega),CX (V4 a b) (fun x=>!decide (x∈b)) false (fun _=>rfl) a 0 (fun x _ i r=>by
  rw [V4,Ye,X7,LO _ _ hb,X7];rfl),X7]
 have:Qes a b=!(a.any fun x=>!decide (x∈b)):=by unfold Qes;rw [List.all_eq_not_any_not]
 rw [this];cases (a.any fun x=>!decide (x∈b))<;>rfl
def BS (l:List Bnd):Prop:=Sm l.length/\∀b∈l,Sm b.sc.length
theorem Ty (l:List Bnd) (n:Fm) (h:BS l) (hn:Sm n.sc.length):Ig l n=some (Ss n 0 l):=by
 have key:∀(r:List Bnd) (z:List Int) (i:Nat),(∀b∈r,Sm b.sc.length)->z.length+r.length<=1099511627776->VM l n z i r=some (z++Ss n i r):=by
  intro r
  induction r with
  | nil=>intro z i _ _;rw [VM,Ye];simp [Ss]
  | cons b r ih =>
   intro z i hb hz;simp only [ZM] at hz;have hb':=fun x hx=>hb x (Kf b hx);rw [VM,Ss,Ye,X7]
   by_cases hnm:b.name=n.name
   ·rw [if_pos hnm];simp only [X7,PS _ _ (hb b (Kx ..)) hn,Ye];cases hs:Qes b.sc n.sc
    ·rw [if_neg (by simp),ih z (i+1) hb' (by omega),if_neg (by simp)]
    ·rw [if_pos rfl,YH (by simp;omega),X7,ih _ (i+1) hb' (by simp;omega),if_pos ⟨hnm,rfl⟩,QD];rfl
   ·rw [if_neg hnm];simp only [Ye,X7];rw [if_neg (by simp),ih z (i+1) hb' (by omega),if_neg (by simp [hnm])]
 rw [Ig,DT _ _ _ (by have:=h.1;omega),key l [] 0 h.2 (by have:=h.1;simp;omega)];rfl
theorem Bj {α:Type} [Inhabited α] {l:List α} {i:Int} (h0:0<=i) (h:i < l.length):idx l i=some (l.getD i.toNat default):=by
 rw [RB l i h0 h,Qz,Qh (by omega)];rfl
theorem N7 (l:List Bnd) (n:Fm) (h:BS l) (hn:Sm n.sc.length):Ir l n=some (findF l n):=by
 have hr:=C8 n l 0;have hlen:=St n l 0;rw [Ir,Ty l n h hn,X7,findF];have hL:=h.1;generalize hx:Ss n 0 l=X at hr hlen
 have sm:∀i,Sm (Uq l i).length:=fun i=>by
  unfold Uq;rw [Qz]
  cases hg:l[i.toNat]? with
  | none=>decide
  | some b=>exact h.2 b (List.mem_of_getElem? hg)
 have inner:∀(i:Nat) (hi:i < X.length) (r:List Int) (b:Bool) (j:Nat),(∀k∈r,k∈X)->JU l n X (i:Int) b j r=some (b&&r.all fun k=>Qes (Uq l k) (Uq l X[i])):=by
  intro i hi r;have h1:=hr X[i] (ZP hi)
  induction r with
  | nil=>intro b j _;rw [JU,Ye];simp
  | cons k r ih =>
   intro b j hk;have h2:=hr k (hk k (Kx ..));have hs:=PS _ _ (sm k) (sm X[i]);unfold Uq at hs;rw [JU,Yg X i hi];cases b
   ·simp only [Qq,if_false,Ye,X7];rw [ih _ _ (fun x hx=>hk x (Kf _ hx))];rfl
   ·simp only [if_true,Ye,X7,Bj (l:=l) (i:=k) (by omega) (by omega),Bj (l:=l) (i:=X[i]) (by omega) (by omega),hs];rw [ih _ _ (fun x hx=>hk x (Kf _ hx)),List.all_cons];unfold Uq;simp
 have outer:∀(m i:Nat),i+m=X.length->GK l n X i (X.drop i)=some (match (X.drop i).find? (Qlm l X) with | some k=>Sum.inl (k,1) | none=>Sum.inr ()):=by
  intro m
  induction m with
  | zero=>intro i hi;rw [show i=X.length by omega,List.drop_length];rfl
  | succ m ihm =>
   intro i hi
   have hil:i < X.length:=by omega
   rw [ZF hil,GK,FX _ _ _ _ _ (by omega),inner i hil X true 0 (fun _ hk=>hk),X7,List.find?_cons]
   have hb:Qlm l X X[i]=(true&&X.all fun k=>Qes (Uq l k) (Uq l X[i])):=by rw [Bool.true_and];rfl
   rw [hb];cases (true&&X.all fun k=>Qes (Uq l k) (Uq l X[i]))
   ·rw [if_neg (by simp),ihm (i+1) (by omega)]
   ·rw [if_pos rfl,Ye,X7];rfl
 have:=outer X.length 0 (by omega);rw [List.drop_zero] at this;rw [FW _ _ _ (by omega),this,X7]
 cases hf:X.find? (Qlm l X) with
 | some k=>rfl
 | none =>
  simp only
  by_cases h0:X.length=0
  ·rw [if_neg (by omega),if_pos h0];rfl
  ·rw [if_pos (by omega),if_neg h0];rfl
theorem Qej (l:List Bnd) (a b:Fm) (h:BS l) (ha:Sm a.sc.length) (hb:Sm b.sc.length):AW l a b=some (L5 l a b):=by
 rw [AW,N7 l a h ha,N7 l b h hb,X7,X7,L5];have ra:=@DE l a;have rb:=@DE l b
 have ha3:(findF l a).2=0∨(findF l a).2=1∨(findF l a).2=2:=by
  unfold findF;split
  ·exact .inr (.inl rfl)
  ·split
   ·exact .inl rfl
   ·exact .inr (.inr rfl)
 generalize findF l a=x at *;generalize findF l b=y at *;obtain ⟨x1,x2⟩:=x;obtain ⟨y1,y2⟩:=y;simp only at ra rb ha3 ⊢
 by_cases h1:x2=y2
 ·subst h1
  rcases ha3 with h | h | h
  ·subst h;rfl
  ·subst h;have q1:=ra rfl;have q2:=rb rfl;rw [Ye,X7,if_neg (by simp),if_neg (by simp),Bj (l:=l) q1.1 q1.2,Bj (l:=l) q2.1 q2.2,X7,X7];rfl
  ·subst h;rfl
 ·rw [Ye,X7,if_pos (by simp [h1]),if_pos (.inl h1)];rfl
end Go.Proofs.SA
namespace Go.Proofs.SA
theorem Oa (a b:List Int) (h:Sm a.length):I5 a b=some (decide (a=b)):=by
 rw [I5]
 by_cases hl:a.length=b.length
 ·rw [if_pos (by omega),FN _ _ (by omega)]
  rcases US (GJ a b) a (fun i x=>!decide (some x=b[i]?)) false (fun _=>rfl) (fun i hi r=>by
   rw [GJ,Ye,X7,Yg b i (by omega),X7];have:b[i]?=some b[i]:=Qh _
   by_cases hx:a[i]=b[i]<;>simp [hx,this,Ye]) with ⟨h1,i,hi,hp⟩ | ⟨h1,hp⟩
  ·rw [h1,X7,decide_eq_false];rfl;rintro rfl;simp at hp
  ·rw [h1,X7,decide_eq_true];rfl;apply Ky;intro i
   by_cases hi:i < a.length
   ·have:=hp i hi;rw [Qh hi];simpa using this
   ·rw [Q4 (by omega),Q4 (by omega)]
 ·rw [if_neg (by omega),decide_eq_false (fun h=>hl (by rw [h]))];rfl
def bOk (b:Bnd):Prop:=NV b.name/\SV b.sc/\1<=b.id/\b.id<=999
def bEq (a b:Bnd):Prop:=a.name=b.name/\a.sc=b.sc
def BV (l:List Bnd):Prop:=l.length<=60/\(∀b∈l,bOk b)/\l.Pairwise fun a b=>¬bEq a b
theorem SV.len {l:List Int} (h:SV l):l.length<=24:=h.1
theorem BV.bs {l:List Bnd} (h:BV l):BS l:=⟨by have:=h.1;unfold Sm;omega,fun b hb=>by have:=(h.2.1 b hb).2.1.len;unfold Sm;omega⟩
theorem bv1 {l:List Bnd} (hs:BS l) {j:Nat} (hj:j < l.length):∀(n k:Nat),k+n=j->Tot (VI l j k) fun o=>match o with | .inl r=>r=false/\∃k',∃h:k' < j,bEq l[k'] l[j] | .inr _=>∀k',k<=k'->∀h:k' < j,¬bEq l[k'] l[j]:=by
 intro n
 induction n with
 | zero=>intro k hk;rw [VI,if_neg (by omega)];exact ⟨_,rfl,fun k' h1 h2=>by omega⟩
 | succ n ih =>
  intro k hk;rw [VI,if_pos (by omega),Yg l k (by omega),Yg l j hj];simp only [X7];have w:=Wb (i:=k) (by have:=hs.1;unfold Sm at this;omega);have hi:=Oa l[k].sc l[j].sc (hs.2 _ (ZP _))
  by_cases h1:l[k].name=l[j].name
  ·rw [if_pos h1];simp only [hi,Ye,X7,w]
   by_cases h2:l[k].sc=l[j].sc
   ·rw [if_pos (by simp [h2])];exact ⟨_,rfl,rfl,k,by omega,h1,h2⟩
   ·rw [if_neg (by simp [h2])];refine (ih (k+1) (by omega)).mono fun o ho=>?_
    cases o with
    | inl r=>exact ho
    | inr u =>
     exact fun k' h3 h4=>by
      by_cases hk':k'=k
      ·subst hk';exact fun h5=>h2 h5.2
      ·exact ho k' (by omega) h4
  ·rw [if_neg h1];simp only [Ye,X7,w,Qq,if_false];refine (ih (k+1) (by omega)).mono fun o ho=>?_
   cases o with
   | inl r=>exact ho
   | inr u =>
    exact fun k' h3 h4=>by
     by_cases hk':k'=k
     ·subst hk';exact fun h5=>h1 h5.1
     ·exact ho k' (by omega) h4
theorem bv0 {l:List Bnd} (hs:BS l):∀(n j:Nat),j+n=61->Tot (VH l j) fun o=>match o with | .inl r=>r=false/\∃j',∃h:j' < l.length,¬(bOk l[j']/\∀k',∀h2:k' < j',¬bEq l[k'] l[j']) | .inr _=>∀j',j<=j'->j'<=60->∀h:j' < l.length,bOk l[j']/\∀k',∀h2:k' < j',¬bEq l[k'] l[j']:=by
 intro n
 induction n with
 | zero=>intro j hj;rw [VH,Ye,X7,if_neg (by simp;omega)];exact ⟨_,rfl,fun j' h1 h2=>by omega⟩
 | succ n ih =>
  intro j hj;rw [VH,Ye,X7]
  by_cases hjl:j < l.length
  rotate_left
  ·rw [if_neg (by simp;omega)];exact ⟨_,rfl,fun j' h1 h2 h3=>by omega⟩
  rw [if_pos (by simp;omega),Yg l j hjl];simp only [X7];refine ZI (RG _) fun b1 hb1=>?_
  have bad:¬bOk l[j]->Tot (pure (Sum.inl false):Option (Bool ⊕ Unit)) fun o=>match o with | .inl r=>r=false/\∃j',∃h:j' < l.length,¬(bOk l[j']/\∀k',∀h2:k' < j',¬bEq l[k'] l[j']) | .inr _=>∀j',j<=j'->j'<=60->∀h:j' < l.length,bOk l[j']/\∀k',∀h2:k' < j',¬bEq l[k'] l[j']:=fun h=>⟨_,rfl,rfl,j,hjl,fun h2=>h h2.1⟩
  cases b1
  ·simp only [ZV,if_true,Ye,X7]
   exact bad fun h=>by have:=hb1.2 h.1;cases this
  simp only [ZW,Qq,if_false];obtain ⟨b2,e2,hb2⟩:=Qb7 l[j].sc;rw [e2];simp only [Ye,X7];cases b2
  ·simp only [ZV,if_true,Ye,X7]
   exact bad fun h=>by have:=hb2.2 h.2.1;cases this
  simp only [ZW,Qq,if_false,Ye,X7]
  by_cases h3:l[j].id < 1
  ·simp only [h3,decide_true,if_true,Ye,X7]
   exact bad fun h=>by have:=h.2.2.1;omega
  simp only [h3,decide_false,Qq,if_false,Ye,X7]
  by_cases h4:l[j].id > 999
  ·simp only [h4,decide_true,if_true]
   exact bad fun h=>by have:=h.2.2.2;omega
  simp only [h4,decide_false,Qq,if_false];have hok:bOk l[j]:=⟨hb1.1 rfl,hb2.1 rfl,by omega,by omega⟩;refine ZI (bv1 hs hjl j 0 (by omega)) fun o ho=>?_
  cases o with
  | inl r=>exact ⟨_,rfl,ho.1,j,hjl,fun h=>by obtain ⟨k',h5,h6⟩:=ho.2;exact h.2 k' h5 h6⟩
  | inr u =>
   simp only [Wb (i:=j) (by omega)];refine (ih (j+1) (by omega)).mono fun o ho2=>?_
   cases o with
   | inl r=>exact ho2
   | inr u =>
    exact fun j' h5 h6 h7=>by
     by_cases hj':j'=j
     ·subst hj';exact ⟨hok,fun k' h8=>ho k' (QZ _) h8⟩
     ·exact ho2 j' (by omega) h6 h7
theorem AH {l:List Bnd} (hs:BS l):Tot (JQ l) fun b=>b=true↔BV l:=by
 rw [JQ];refine ZI (bv0 hs 61 0 (by omega)) fun o ho=>?_
 cases o with
 | inl r =>
  obtain ⟨h0,j,hj,hn⟩:=ho;subst h0;refine ⟨_,rfl,fun h=>(by cases h),fun h=>absurd ⟨h.2.1 _ (ZP hj),fun k' h2=>?_⟩ hn⟩;exact Kn.1 h.2.2 k' j (by omega) hj h2
 | inr u =>
  refine ⟨_,rfl,?_⟩;simp only [decide_eq_true_iff];constructor
  ·intro hl;refine ⟨by omega,fun b hb=>?_,Kn.2 fun i j hi hj hij=>(ho j (QZ _) (by omega) hj).2 i hij⟩;obtain ⟨i,hi,rfl⟩:=ZX.1 hb;exact (ho i (QZ _) (by omega) hi).1
  ·intro h;have:=h.1;omega
theorem Sz {f:Fm} (hf:f.sz < 1000000000):Tot (BU f) fun b=>b=true↔f.kind=1/\FV f:=by
 rw [BU]
 by_cases h:f.kind=1
 ·rw [if_pos h];refine ZI (ZI (Gh hf) fun b hb=>⟨b,rfl,hb⟩) fun b hb=>⟨b,rfl,?_⟩;simp only [hb,h,true_and]
 ·rw [if_neg h];refine ⟨false,rfl,?_⟩;simp [h]
theorem Qdd (l:List Bnd) (h:BS l) (h2:l.length<=1000000):Ie l=some l:=by
 rw [Ie,DS _ _ (by omega),IF (Ja l) id (fun _ _=>rfl) l [] 0 (fun x hx z i r hz=>by
  have:=h.2 x hx;unfold Sm at this
  rw [Ja,Ye,X7,YH (by simp;omega),X7,YH (by simp;omega),X7];rfl) (by simp;omega)]
 simp [X7,Ye]
theorem OM {l:List Bnd} (hs:BS l) (h2:l.length<=1000000) {f:Fm} (hf:f.sz < 1000000000) (id:Int):Tot (Aj l f id) fun r=>(r.2=true/\r.1=l++[⟨f.name,f.sc,id⟩]/\f.kind=1/\FV f/\BV l/\BV (l++[⟨f.name,f.sc,id⟩]))∨(r.2=false/\r.1=[]/\¬(f.kind=1/\FV f/\BV l/\BV (l++[⟨f.name,f.sc,id⟩]))):=by
 have hz:=Fm.PJ f;rw [Aj];refine ZI (AH hs) fun b hb=>?_;cases b
 ·simp only [ZV,if_true,Ye,X7];exact ⟨_,rfl,.inr ⟨rfl,rfl,fun h=>by have:=hb.2 h.2.2.1;cases this⟩⟩
 simp only [ZW,Qq,if_false];obtain ⟨b2,e2,hb2⟩:=Sz hf;rw [e2];simp only [Ye,X7];cases b2
 ·simp only [ZV,if_true];exact ⟨_,rfl,.inr ⟨rfl,rfl,fun h=>by have:=hb2.2 ⟨h.1,h.2.1⟩;cases this⟩⟩
 simp only [ZW,Qq,if_false];rw [Qdd l hs h2,X7,YH (by simp;omega),X7,YH (by simp;omega),X7];simp only [QS]
 have hs':BS (l++[⟨f.name,f.sc,id⟩]):=⟨by simp only [QV,ZM,ZL];unfold Sm;omega,fun b hb=>by
  rcases List.mem_append.1 hb with h | h
  ·exact hs.2 b h
  ·rw [List.mem_singleton.1 h];show f.sc.length<=_;omega⟩
 obtain ⟨b3,e3,hb3⟩:=AH hs';rw [e3,X7];cases b3
 ·simp only [ZV,if_true];exact ⟨_,rfl,.inr ⟨rfl,rfl,fun h=>by have:=hb3.2 h.2.2.2;cases this⟩⟩
 ·simp only [ZW,Qq,if_false];exact ⟨_,rfl,.inl ⟨rfl,rfl,(hb2.1 rfl).1,(hb2.1 rfl).2,hb.1 rfl,hb3.1 rfl⟩⟩
theorem SW (l:List Int) (n:Int) (h:l.length<=1000000):I6 l n=some (RR l n):=by
 have key:∀(r z:List Int) (i:Nat),z.length+r.length<=1000000->W3 l n z i r=some (z++RR r n):=by
  intro r
  induction r with
  | nil=>intro z i _;rw [W3,Ye];simp [RR]
  | cons x r ih =>
   intro z i hz;simp only [ZM] at hz;rw [W3,Ye,X7]
   by_cases hx:x=n
   ·rw [if_pos hx,ih _ _ (by omega)];simp [RR,hx]
   ·rw [if_neg hx,X7,YH (by simp;omega),X7,ih _ _ (by simp;omega)];simp [RR,hx]
 rw [I6,FU _ _ _ (by omega),key l [] 0 (by simp;omega)];rfl
theorem Qbp (l:List Int) (n:Int) (h:l.length<=1000000):AD l n=some (Qll l n):=by
 have key:∀(r z:List Int) (b:Bool) (i:Nat),z.length+r.length+(if b=true then 0 else 1)<=1000002->Gn l n z b i r=some (if b=true then (z++r,true) else if r.any (fun x=>decide (x > n))=true then (z++Qea n r,true) else (z++r,false)):=by
  intro r
  induction r with
  | nil=>intro z b i _;rw [Gn,Ye];cases b<;>simp
  | cons x r ih =>
   intro z b i hz;simp only [ZM] at hz;rw [Gn];cases b
   ·rw [if_neg (by simp)] at hz;simp only [ZV,if_true,Ye,X7,Qq,if_false,ZY,Bool.or_eq_true,decide_eq_true_eq]
    by_cases hx:x > n
    ·rw [if_pos hx,YH (by simp only [QV,ZM,ZL];omega)];simp only [X7];rw [YH (by simp;omega)];simp only [X7];rw [ih _ true _ (by simp;omega),if_pos rfl,if_pos (.inl hx),Qea,if_pos hx]
     simp
    ·rw [if_neg hx];simp only [X7];rw [YH (by simp;omega)];simp only [X7];rw [ih _ false _ (by simp;omega),if_neg (by simp),Qea,if_neg hx]
     have e:(x > n∨(r.any fun x=>decide (x > n))=true)↔(r.any fun x=>decide (x > n))=true:=by simp [hx]
     simp only [QD,List.singleton_append]
     by_cases hr:(r.any fun x=>decide (x > n))=true
     ·rw [if_pos hr,if_pos (e.2 hr)]
     ·rw [if_neg hr,if_neg (fun h=>hr (e.1 h))]
   ·rw [if_pos rfl] at hz;simp only [ZW,Qq,if_false,Ye,X7,if_true];rw [YH (by simp;omega)];simp only [X7];rw [ih _ true _ (by simp;omega),if_pos rfl]
    simp
 have tail:∀r:List Int,(r.any fun x=>decide (x > n))=false->Qea n r=r++[n]:=by
  intro r
  induction r with
  | nil=>intro _;rfl
  | cons x r ih =>
   intro hr;rw [ZY,Bool.or_eq_false_iff] at hr;rw [Qea,if_neg (by simpa using hr.1),ih hr.2];rfl
 rw [AD,LO _ _ (by unfold Sm;omega),X7,Mb _ _ _ _ (by omega),key l [] _ 0 (by simp only [ZL];split<;>omega),X7,Qll]
 by_cases hm:n∈l
 ·simp [hm,Ye]
 ·simp only [hm,decide_false,Qq,if_false,QS]
  by_cases hr:(l.any fun x=>decide (x > n))=true
  ·rw [if_pos hr];rfl
  ·rw [if_neg hr];simp only [ZV,if_true];rw [YH (by simp;omega),tail l (by simpa using hr)];rfl
theorem GC (s w:Int):∀f:Fm,f.sz<=1000000->YL f s w=some (chg s w f):=by
 intro f
 induction f using Fm.ind with
 | h f ih =>
  intro hf;have hz:=Fm.JM f
  have hS:(if f.kind=1 then
   (((if w=2 then pure true else ((if w=1 then (WI f.sc s>>=fun x32=>pure x32) else pure false:Option Bool)>>=fun x33=>pure x33):Option Bool))>>=fun x34 =>
    if x34=true then (I6 f.sc s>>=fun x38=>pure x38) else (AD f.sc s>>=fun x43=>pure x43)) else pure f.sc:Option (List Int))=some (if f.kind=1 then chS f.sc s w else f.sc):=by
   by_cases h1:f.kind=1
   ·rw [if_pos h1,if_pos h1,chS]
    by_cases h2:w=2
    ·simp [h2,Ye,X7,SW f.sc s (by omega)]
    ·by_cases h3:w=1
     ·subst h3;simp only [h2,if_false,if_true,LO _ _ (show Sm f.sc.length by unfold Sm;omega),Ye,X7,false_or,true_and]
      by_cases h4:s∈f.sc
      ·simp [h4,SW f.sc s (by omega),X7]
      ·simp [h4,Qbp f.sc s (by omega),X7]
     ·simp [h2,h3,Ye,X7,Qbp f.sc s (by omega)]
   ·rw [if_neg h1,if_neg h1];rfl
  rw [YL,YH (by simp;omega),X7,QS,hS,X7,Ei _ _ _ _ _ (by omega),
   IF (JL f s w _) (chg s w) (fun _ _=>rfl) f.kids [] 0 (fun x hx z i r hzb=>by
    have:=Fm.W7 hx
    rw [JL,Ye,X7,ih x hx (by omega),X7,YH (by simp;omega),X7]) (by simp;omega),X7,Qaj]
  simp [Ye]
end Go.Proofs.SA
open Go.IntKind (i64)
namespace Go.Proofs.SA
theorem Fm.ext_iff {a b:Fm} : a=b↔a.kind=b.kind/\a.name=b.name/\a.num=b.num/\a.sc=b.sc/\a.kids=b.kids:=by
 cases a;cases b;simp [Fm.kind,Fm.name,Fm.num,Fm.sc,Fm.kids]
theorem Dc:∀a:Fm,a.sz<=1000000->∀b:Fm,Y9 a b=some (decide (a=b)):=by
 intro a
 induction a using Fm.ind with
 | h a ih =>
  intro ha b;have hz:=Fm.JM a
  have hd:∀(P:Prop) [Decidable P],(a=b↔P)->decide (a=b)=decide P:=fun P _ h=>by simp only [h]
  rw [Y9]
  by_cases h1:a.kind=b.kind
  rotate_left
  ·rw [decide_eq_false (fun h=>h1 (Fm.ext_iff.1 h).1)];simp [h1,Ye,X7]
  by_cases h2:a.name=b.name
  rotate_left
  ·rw [decide_eq_false (fun h=>h2 (Fm.ext_iff.1 h).2.1)];simp [h1,h2,Ye,X7]
  by_cases h3:a.num=b.num
  rotate_left
  ·rw [decide_eq_false (fun h=>h3 (Fm.ext_iff.1 h).2.2.1)];simp [h1,h2,h3,Ye,X7]
  by_cases h4:a.sc=b.sc
  rotate_left
  ·rw [decide_eq_false (fun h=>h4 (Fm.ext_iff.1 h).2.2.2.1)];simp [h1,h2,h3,h4,Ye,X7,Oa a.sc b.sc (by unfold Sm;omega)]
  by_cases h5:a.kids.length=b.kids.length
  rotate_left
  ·rw [show decide (a=b)=false from decide_eq_false (fun h=>h5 (by rw [h]))]
   have:¬(a.kids.length:Int)=(b.kids.length:Int):=by omega
   simp [h1,h2,h3,h4,h5,this,Ye,X7,Oa b.sc b.sc (by rw [← h4];unfold Sm;omega)]
  have h6:(a.kids.length:Int)=(b.kids.length:Int):=by omega
  simp only [h1,h2,h3,h4,h6,decide_true,ZW,Bool.or_false,Ye,X7,Qq,if_false,Oa b.sc b.sc (show Sm b.sc.length by rw [← h4];unfold Sm;omega)];rw [Ef _ _ (by omega)]
  rcases US (JJ a b) a.kids (fun i x=>!decide (some x=b.kids[i]?)) false (fun _=>rfl) (fun i hi r=>by
   have hm:a.kids[i]∈a.kids:=ZP hi;have:=Fm.W7 hm;rw [JJ,Ye,X7,Yg b.kids i (by omega),X7,ih _ hm (by omega),X7];have hg:b.kids[i]?=some (b.kids[i]'(by omega)):=Qh _;rw [hg];simp only [Option.some.injEq]
   by_cases hx:a.kids[i]=b.kids[i]<;>simp [hx,Ye]) with ⟨h7,i,hi,hp⟩ | ⟨h7,hp⟩
  ·have e:decide (a=b)=false:=decide_eq_false (fun h=>by
    have h8:some a.kids[i]=b.kids[i]?:=by rw [← h];exact (Qh hi).symm
    rw [decide_eq_true h8] at hp
    cases hp)
   rw [h7,e];rfl
  ·have e:decide (a=b)=true:=decide_eq_true ?_
   ·rw [h7,e];rfl
   refine Fm.ext_iff.2 ⟨h1,h2,h3,h4,Ky fun i=>?_⟩
   by_cases hi:i < a.kids.length
   ·have:=hp i hi;rw [Qh hi];simpa using this
   ·rw [Q4 (by omega),Q4 (by omega)]
def FS (l:List Fm):Prop:=Sm l.length/\∀f∈l,f.sz<=1000000
theorem ND (l:List Fm) (f:Fm) (h:FS l):HI l f=some (decide (f∈l)):=by
 have:∀l:List Fm,(l.any fun x=>decide (x=f))=decide (f∈l):=by
  intro l
  induction l with
  | nil=>rfl
  | cons x l ih =>
   rw [ZY,ih]
   by_cases h:x=f
   ·subst h;simp
   ·have h2:¬f=x:=fun e=>h e.symm;simp [h,h2]
 rw [HI,Na _ _ (by have:=h.1;omega),CX (HX l f) (fun x=>decide (x=f)) true (fun _=>rfl) l 0 (fun x hx i r=>by
  rw [HX,Ye,X7,Dc x (h.2 x hx),X7];rfl),this,X7]
 cases decide (f∈l)<;>rfl
theorem Bw (f:Fm):YO f=some (YW f):=rfl
def Us (l:List Fm):Prop:=l.length < 10/\(∀x∈l,x.kind=1/\FV x/\x.name≠D0/\x.name≠OV)/\l.Nodup
theorem Da {α:Type} {l:List α} : l.Nodup↔∀i,∀h:i < l.length,l[i]∉l.take i:=by
 rw [List.Nodup,Kn];constructor
 ·intro h i hi hm;obtain ⟨j,hj,e⟩:=ZX.1 hm;rw [ZZ] at hj;rw [Z1] at e;exact h j i (by omega) hi (by omega) e
 ·intro h i j hi hj hij e;refine h j hj (ZX.2 ⟨i,by rw [ZZ];omega,?_⟩);rw [Z1];exact e
theorem Po {α:Type} (l:List α) (i:Nat) (h:i<=l.length):EK l 0 (i:Int)=some (l.take i):=by
 unfold EK;rw [if_pos ⟨by omega,by omega,by omega⟩]
 simp
theorem Qmr {l:List Fm} (hs:FS l):∀(n i:Nat),i+n=10->Tot (VN l i) fun o=>match o with
  | .inl r=>r=false/\∃j,∃h:j < l.length,¬((l[j].kind=1/\FV l[j]/\l[j].name≠D0/\l[j].name≠OV)/\l[j]∉l.take j)
  | .inr _=>∀j,i<=j->j < 10->∀h:j < l.length,(l[j].kind=1/\FV l[j]/\l[j].name≠D0/\l[j].name≠OV)/\l[j]∉l.take j:=by
 intro n
 induction n with
 | zero=>intro i hi;rw [VN,Ye,X7,if_neg (by simp;omega)];exact ⟨_,rfl,fun j h1 h2=>by omega⟩
 | succ n ih =>
  intro i hi;rw [VN,Ye,X7]
  by_cases hil:i < l.length
  rotate_left
  ·rw [if_neg (by simp;omega)];exact ⟨_,rfl,fun j h1 h2 h3=>by omega⟩
  rw [if_pos (by simp;omega),Yg l i hil];simp only [X7];have hm:l[i]∈l:=ZP hil
  have bad:¬((l[i].kind=1/\FV l[i]/\l[i].name≠D0/\l[i].name≠OV)/\l[i]∉l.take i)->Tot (pure (Sum.inl false):Option (Bool ⊕ Unit)) fun o=>match o with
   | .inl r=>r=false/\∃j,∃h:j < l.length,¬((l[j].kind=1/\FV l[j]/\l[j].name≠D0/\l[j].name≠OV)/\l[j]∉l.take j)
   | .inr _=>∀j,i<=j->j < 10->∀h:j < l.length,(l[j].kind=1/\FV l[j]/\l[j].name≠D0/\l[j].name≠OV)/\l[j]∉l.take j:=fun h=>⟨_,rfl,rfl,i,hil,h⟩
  obtain ⟨b1,e1,hb1⟩:=Sz (f:=l[i]) (by have:=hs.2 _ hm;omega);rw [e1,X7];cases b1
  ·simp only [ZV,if_true,Ye,X7]
   exact bad fun h=>by have:=hb1.2 ⟨h.1.1,h.1.2.1⟩;cases this
  simp only [ZW,Qq,if_false,Ye,X7];have hb:=hb1.1 rfl
  by_cases h2:l[i].name=D0
  ·have h2':=h2;unfold D0 at h2';simp only [h2',decide_true,if_true,Ye,X7];exact bad fun h=>h.1.2.2.1 h2
  have h2':=h2;unfold D0 at h2';simp only [h2',decide_false,Qq,if_false,Ye,X7]
  by_cases h3:l[i].name=OV
  ·have h3':=h3;unfold OV at h3';simp only [h3',decide_true,if_true,Ye,X7];exact bad fun h=>h.1.2.2.2 h3
  have h3':=h3;unfold OV at h3';simp only [h3',decide_false,Qq,if_false,Ye,X7,Po l i (by omega)];rw [ND (l.take i) l[i] ⟨by have:=hs.1;unfold Sm at *;rw [ZZ];omega,fun f hf=>hs.2 f (List.mem_of_mem_take hf)⟩,X7];simp only [X7]
  by_cases h4:l[i]∈l.take i
  ·simp only [h4,decide_true,if_true];exact bad fun h=>h.2 h4
  simp only [h4,decide_false,Qq,if_false,Wb (i:=i) (by omega)];refine (ih (i+1) (by omega)).mono fun o ho=>?_
  cases o with
  | inl r=>exact ho
  | inr u =>
   exact fun j h5 h6 h7=>by
    by_cases hj:j=i
    ·subst hj;exact ⟨⟨hb.1,hb.2,h2,h3⟩,h4⟩
    ·exact ho j (by omega) h6 h7
theorem D9 {l:List Fm} (hs:FS l):Tot (GM l) fun b=>b=true↔Us l:=by
 rw [GM];refine ZI (Qmr hs 10 0 (by omega)) fun o ho=>?_
 cases o with
 | inl r =>
  obtain ⟨h0,j,hj,hn⟩:=ho;subst h0;exact ⟨_,rfl,fun h=>(by cases h),fun h=>absurd ⟨h.2.1 _ (ZP hj),Da.1 h.2.2 j hj⟩ hn⟩
 | inr u =>
  refine ⟨_,rfl,?_⟩;simp only [decide_eq_true_iff];constructor
  ·intro hl;refine ⟨by omega,fun b hb=>?_,Da.2 fun i hi=>(ho i (QZ _) (by omega) hi).2⟩;obtain ⟨i,hi,rfl⟩:=ZX.1 hb;exact (ho i (QZ _) (by omega) hi).1
  ·intro h;have:=h.1;omega
theorem Qbz:∀p:Fm,p.sz<=1000000->GW p=some (Qbx p):=by
 intro p
 induction p using Fm.ind with
 | h p ih =>
  intro hp;have hz:=Fm.JM p
  have loop:∀(r:List Fm) (i:Nat) (n:Nat) (b:Bool),p.kids.drop i=r->n<=i->(b=true↔i=0∨∃h:i - 1 < p.kids.length,0 < i/\YW p.kids[i - 1]=true) ->
    Tot (Jd p (n:Int) i r) fun o=>match o with | .inl r'=>r'=false/\RO b n r=false | .inr m=>decide (m<=1)=RO b n r:=by
   intro r
   induction r with
   | nil=>intro i n b _ _ _;exact ⟨_,rfl,by rw [RO];by_cases h:n<=1<;>simp [h]<;>omega⟩
   | cons f r ihr =>
    intro i n b hd hn hb
    have hi:i < p.kids.length:=by
     rcases Nat.lt_or_ge i p.kids.length with h | h
     ·exact h
     ·rw [List.drop_of_length_le h] at hd;cases hd
    rw [ZF hi] at hd
    injection hd with e1 e2
    have hm:f∈p.kids:=e1▸ZP hi;rw [Jd,RO,Ye,X7,Bw,X7]
    have hb2:∀b',b'=YW f->(b'=true↔i+1=0∨∃h:i+1 - 1 < p.kids.length,0 < i+1/\YW p.kids[i+1 - 1]=true):=by
     rintro b' rfl;simp only [Nat.add_sub_cancel];constructor
     ·intro h;exact .inr ⟨hi,by omega,by rw [e1];exact h⟩
     ·rintro (h | ⟨_,_,h⟩)
      ·omega
      ·rw [e1] at h;exact h
    cases hf:YW f
    ·simp only [Qq,if_false];have hk:=Fm.W7 hm;rw [X7,ih f hm (by omega),X7];cases hs:Qbx f
     ·simp only [ZV,if_true,Qq,if_false];exact ⟨_,rfl,by simp⟩
     ·simp only [ZW,Qq,if_false,if_true];exact ihr (i+1) n false e2 (by omega) (hb2 false hf.symm)
    ·simp only [if_true]
     by_cases hi0:i=0
     ·subst hi0;have:b=true:=hb.2 (.inl rfl);subst this;simp only [Int.ofNat_zero,if_true,Ye,X7];exact ⟨_,rfl,by simp⟩
     ·rw [if_neg (by omega),show i64.wrap ((i:Int) - 1)=((i - 1:Nat):Int) by rw [YJ (by omega) (by omega)];omega,Yg _ _ (by omega)];simp only [X7,Bw,Ye];cases hpd:YW p.kids[i - 1]
      ·have:b=false:=by
        cases b with
        | false=>rfl
        | true =>
         rcases hb.1 rfl with h | ⟨_,_,h⟩
         ·exact absurd h hi0
         ·rw [h] at hpd;cases hpd
       subst this;simp only [Qq,if_false];have hw:i64.wrap ((n:Int)+1)=((n+1:Nat):Int):=Wb (by omega);rw [hw];exact ihr (i+1) (n+1) true e2 (by omega) (hb2 true hf.symm)
      ·have:b=true:=hb.2 (.inr ⟨by omega,by omega,hpd⟩);subst this;simp only [if_true];exact ⟨_,rfl,by simp⟩
  rw [GW,Oq,Bw,X7];cases hd:YW p
  ·simp only [Qq,if_false];rw [E7 _ _ (by omega)];obtain ⟨o,ho,hp⟩:=loop p.kids 0 0 true (List.drop_zero ..) (Qt _) ⟨fun _=>.inl rfl,fun _=>rfl⟩;rw [show ((0:Nat):Int)=0 from rfl] at ho;rw [ho,X7]
   cases o with
   | inl r=>rw [hp.1,hp.2];rfl
   | inr m=>rw [← hp];rfl
  ·rfl
end Go.Proofs.SA
