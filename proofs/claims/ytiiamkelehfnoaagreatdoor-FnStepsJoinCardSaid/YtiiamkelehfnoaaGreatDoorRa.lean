/- Patterns, matches and templates as plain functions: what both sides compute. -/
import Derived.Test.YtiiamkelehfnoaaGreatDoorQa
set_option linter.unusedVariables false
set_option linter.unusedSimpArgs false
set_option maxRecDepth 100000
open Go Go.Proofs Go.Proofs.Shadow
open _root_.Bool renaming false_eq_true → Qr, not_false → Z7, not_true → Z8
open _root_.List renaming mem_cons_of_mem → Kg, length_cons → ZO, getElem?_eq_getElem → Qj, length_append → QW, mem_cons_self → Kw, getElem_mem → ZR, getElem?_eq_none → Q5, mem_iff_getElem → Z9, drop_eq_getElem_cons → ZH, pairwise_iff_getElem → Ko, any_cons → Xa, eq_nil_of_length_eq_zero → KB, getD_eq_getElem?_getD → QA, length_take → Xb, length_pos_of_mem → Xc, nil_append → QU, length_nil → ZN, mem_cons → Kk, append_assoc → QE, ext_getElem? → Kx, getElem_take → Xd, range → Xe
open _root_.Nat renaming le_refl → Qu, zero_le → Q0
open Fm renaming nodes → ZX
open _root_.ByteArray renaming mk → Ql
open Tot renaming bind → ZK
namespace Go.Proofs.Shadow
noncomputable instance:DecidableEq Fm:=fun a b=>Classical.propDecidable (a=b)
instance:Inhabited Hit:=⟨.mk Fm.zero 0 Fm.zero []⟩
instance:Inhabited Bnd:=⟨⟨Ql #[],[],0⟩⟩
theorem Hit.eta (h:Hit):Hit.mk h.name h.depth h.one h.many=h:=by cases h;rfl
def Dp:ByteArray:=Ql #[46,46,46]
def Od:ByteArray:=Ql #[95]
def YL (f:Fm):Bool:=decide (f.kind=1)&&decide (f.name=Dp)
def Wl:List Fm->Bool
 | f :: _=>YL f
 | []=>false
def Qd9 (a b:List Int):Bool:=a.all fun x=>decide (x∈b)
def RN (n:Fm):Nat->List Bnd->List Int
 | _,[]=>[]
 | i,b :: l=>if b.name=n.name/\Qd9 b.sc n.sc=true then (i:Int) :: RN n (i+1) l else RN n (i+1) l
def TI (l:List Bnd) (i:Int):List Int:=(l.getD i.toNat default).sc
def Qld (l:List Bnd) (fit:List Int) (i:Int):Bool:=fit.all fun k=>Qd9 (TI l k) (TI l i)
def findF (l:List Bnd) (n:Fm):Int × Int :=
 match (RN n 0 l).find? (Qld l (RN n 0 l)) with
 | some i=>(i,1)
 | none=>if (RN n 0 l).length=0 then (0,0) else (0,2)
theorem Cm (n:Fm):∀(l:List Bnd) (i:Nat),∀k∈RN n i l,(i:Int)<=k/\k < i+l.length
 | [],i,k,hk=>by cases hk
 | b :: l,i,k,hk=>by
  unfold RN at hk;simp only [ZO];split at hk
  ·rcases Kk.1 hk with rfl | hk
   ·omega
   ·have:=Cm n l (i+1) k hk;omega
  ·have:=Cm n l (i+1) k hk;omega
theorem RO (n:Fm):∀(l:List Bnd) (i:Nat),(RN n i l).length<=l.length
 | [],i=>Qu _
 | b :: l,i=>by
  unfold RN;have:=RO n l (i+1);split<;>simp only [ZO]<;>omega
theorem CR {l:List Bnd} {n:Fm} (h:(findF l n).2=1):0<=(findF l n).1/\(findF l n).1 < l.length:=by
 unfold findF at h ⊢;split at h
 ·rename_i i hi;have:=Cm n l 0 i (List.mem_of_find?_eq_some hi)
  simp only;omega
 ·split at h<;>cases h
def Ln (l:List Bnd) (a b:Fm):Bool :=
 if (findF l a).2≠(findF l b).2∨(findF l a).2=2 then false
 else if (findF l a).2=0 then decide (a.name=b.name)
 else decide ((l.getD (findF l a).1.toNat default).id=(l.getD (findF l b).1.toNat default).id)
noncomputable def Pj (ls:List Fm) (f:Fm):Bool:=decide (f.kind=1)&&(!decide (f.name=Dp))&&(!decide (f.name=Od))&&!decide (f∈ls)
section
variable (ls:List Fm)
mutual
noncomputable def vrs:Fm->List Fm
 | .mk k s n c ks=>(if Pj ls (.mk k s n c ks)=true then [.mk k s n c ks] else [])++M0 ks
noncomputable def M0:List Fm->List Fm
 | []=>[]
 | f :: fs=>vrs f++M0 fs
end
mutual
noncomputable def dps:Int->Fm->List Int
 | d,.mk k s n c ks=>(if Pj ls (.mk k s n c ks)=true then [d] else [])++PG d ks
noncomputable def PG:Int->List Fm->List Int
 | d,[]=>[]
 | d,f :: fs=>dps (if Wl fs=true then d+1 else d) f++PG d fs
end
mutual
def Qa6:Fm->Bool
 | .mk k s n c ks=>if YL (.mk k s n c ks)=true then false else PZ true 0 ks
def PZ:Bool->Nat->List Fm->Bool
 | _,n,[]=>decide (n<=1)
 | b,n,f :: fs=>if YL f=true then (if b=true then false else PZ true (n+1) fs) else if Qa6 f=true then PZ false n fs else false
end
theorem LO (p:Fm):vrs ls p=(if Pj ls p=true then [p] else [])++M0 ls p.kids:=by cases p;rw [vrs];rfl
theorem RD (d:Int) (p:Fm):dps ls d p=(if Pj ls p=true then [d] else [])++PG ls d p.kids:=by cases p;rw [dps];rfl
theorem NG (p:Fm):Qa6 p=if YL p=true then false else PZ true 0 p.kids:=by cases p;rw [Qa6];rfl
theorem Lo:∀(l:List Fm) (b:Bool) (n:Nat),PZ b n l=true->(l.filter YL).length+n<=1
 | [],b,n,h=>by rw [PZ] at h;simpa using h
 | f :: fs,b,n,h=>by
  rw [PZ] at h
  by_cases hd:YL f=true
  ·rw [if_pos hd] at h;cases b
   ·have:=Lo fs true (n+1) (by simpa using h);rw [List.filter_cons_of_pos hd,ZO];omega
   ·simp at h
  ·rw [if_neg hd] at h;split at h
   ·have:=Lo fs false n h;rw [List.filter_cons_of_neg hd];exact this
   ·cases h
theorem Qa9 {l:List Fm} {n:Nat} (h:PZ true n l=true):Wl l=false:=by
 cases l with
 | nil=>rfl
 | cons f fs =>
  rw [PZ] at h;cases hd:YL f
  ·exact hd
  ·rw [if_pos hd] at h;simp at h
theorem NH:∀(l:List Fm) (b:Bool) (n:Nat),PZ b n l=true->∀f∈l,YL f=true∨Qa6 f=true
 | [],b,n,h,f,hf=>by cases hf
 | g :: fs,b,n,h,f,hf=>by
  rw [PZ] at h
  by_cases hd:YL g=true
  ·rw [if_pos hd] at h;cases b
   ·rcases Kk.1 hf with rfl | hf
    ·exact .inl hd
    ·exact NH fs true (n+1) (by simpa using h) f hf
   ·simp at h
  ·rw [if_neg hd] at h;split at h
   ·rename_i hs
    rcases Kk.1 hf with rfl | hf
    ·exact .inr hs
    ·exact NH fs false n h f hf
   ·cases h
theorem Si:∀(l:List Fm),(∀f∈l,∀d,(vrs ls f).length=(dps ls d f).length)->∀d,(M0 ls l).length=(PG ls d l).length
 | [],_,d=>rfl
 | f :: fs,h,d=>by
  rw [M0,PG,QW,QW,h f (Kw ..),Si fs (fun g hg=>h g (Kg _ hg))]
theorem LM (p:Fm):∀d,(vrs ls p).length=(dps ls d p).length:=by
 induction p using Fm.ind with
 | h p ih =>
  intro d;rw [LO,RD,QW,QW,Si ls p.kids ih d];split<;>rfl
theorem Sj:∀(l:List Fm),(∀f∈l,(vrs ls f).length<=f.nodes)->(M0 ls l).length<=YT ZX l
 | [],_=>Qu _
 | f :: fs,h=>by
  rw [M0,QW,YT];have:=h f (Kw ..);have:=Sj fs (fun g hg=>h g (Kg _ hg));omega
theorem A1 (p:Fm):(vrs ls p).length<=p.nodes:=by
 induction p using Fm.ind with
 | h p ih =>
  rw [LO,QW,Fm.YM];have:=Sj ls p.kids ih;split<;>simp<;>omega
end
noncomputable def Qfg (ls:List Fm) (p:Fm) (rows:List (List Hit)):List Hit :=
 (Xe (vrs ls p).length).map fun i=>.mk ((vrs ls p).getD i default) ((dps ls 0 p).getD i 0+1) Fm.zero (rows.map fun r=>r.getD i default)
def EN {α β:Type} (g:α->Option β):List α->Option (List β)
 | []=>some []
 | x :: l=>match g x with
  | none=>none
  | some y=>(EN g l).map (y :: ·)
section
variable (B:List Bnd) (ls:List Fm)
mutual
noncomputable def pm : Fm -> Fm -> Option (List Hit)
  | .mk k s n c ks, f =>
    if k = 1 then
      (if s = Od then some [] else if .mk k s n c ks ∈ ls then (if f.kind = 1 /\ Ln B (.mk k s n c ks) f = true then some [] else none) else some [.mk (.mk k s n c ks) 0 f []])
    else if k = 2 then (if .mk k s n c ks = f then some [] else none)
    else if f.kind = 3 then
      (if ks.any YL = true then (if f.kids.length + 2 < ks.length then none else pmL ks f.kids (f.kids.length + 2 - ks.length))
       else if ks.length = f.kids.length then pmL ks f.kids 0 else none)
    else none
noncomputable def pmL : List Fm -> List Fm -> Nat -> Option (List Hit)
  | [], _, _ => some []
  | p :: ps, fs, n =>
    if YL p = true then pmL ps fs n
    else if Wl ps = true then
      (match EN (pm p) (fs.take n) with
       | none => none
       | some rows => (pmL ps (fs.drop n) n).map (Qfg ls p rows ++ ·))
    else match fs with
      | [] => none
      | f :: fs => match pm p f with
        | none => none
        | some hs => (pmL ps fs n).map (hs ++ ·)
end
end
theorem PV (B:List Bnd) (ls:List Fm) (fs:List Fm) (n:Nat):pmL B ls [] fs n=some []:=by rw [pmL.eq_def]
theorem Ny (B : List Bnd) (ls : List Fm) (p : Fm) (ps fs : List Fm) (n : Nat) : pmL B ls (p :: ps) fs n = if YL p = true then pmL B ls ps fs n
    else if Wl ps = true then
      (match EN (pm B ls p) (fs.take n) with
       | none => none
       | some rows => (pmL B ls ps (fs.drop n) n).map (Qfg ls p rows ++ ·))
    else match fs with
      | [] => none
      | f :: fs => match pm B ls p f with
        | none => none
        | some hs => (pmL B ls ps fs n).map (hs ++ ·) := by rw [pmL.eq_def]
theorem Qhu (B : List Bnd) (ls : List Fm) (p f : Fm) : pm B ls p f = if p.kind = 1 then
      (if p.name = Od then some [] else if p ∈ ls then (if f.kind = 1 /\ Ln B p f = true then some [] else none) else some [.mk p 0 f []])
    else if p.kind = 2 then (if p = f then some [] else none)
    else if f.kind = 3 then
      (if p.kids.any YL = true then (if f.kids.length + 2 < p.kids.length then none else pmL B ls p.kids f.kids (f.kids.length + 2 - p.kids.length))
       else if p.kids.length = f.kids.length then pmL B ls p.kids f.kids 0 else none)
    else none := by cases p; rw [pm]; rfl
end Go.Proofs.Shadow
namespace Go.Proofs.Shadow
noncomputable def Qkd (H:List Hit) (f:Fm):Option Hit:=H.find? fun h=>decide (h.name=f)
noncomputable def TH (H:List Hit) (f:Fm):Int:=if f.kind=1 then (match Qkd H f with | some h=>h.depth | none=>-1) else -1
mutual
noncomputable def Mg (H:List Hit):Fm->Bool
 | .mk k s n c ks=>decide (0 < TH H (.mk k s n c ks))||Qdx H ks
noncomputable def Qdx (H:List Hit):List Fm->Bool
 | []=>false
 | f :: fs=>Mg H f||Qdx H fs
end
def Ns (H:List Hit):List Hit:=H.map fun h=>.mk h.name (if 0 < h.depth then h.depth - 1 else h.depth) h.one []
mutual
noncomputable def Qfk:Fm->List Hit->Bool
 | .mk k s n c ks,H=>!(YL (.mk k s n c ks)||decide (0 < TH H (.mk k s n c ks)))&&Qeb true ks H
noncomputable def Qeb:Bool->List Fm->List Hit->Bool
 | _,[],_=>true
 | b,t :: ts,H=>if YL t=true then !b&&Qeb true ts H
  else if Wl ts=true then Mg H t&&Qfk t (Ns H)&&Qeb false ts H
  else Qfk t H&&Qeb false ts H
end
noncomputable def DS (t x:Fm):Bool:=t.all.any fun g=>decide (g.kind=1)&&decide (g=x)
noncomputable def Bg (t:Fm):List Hit->Int->Int
 | [],n=>n
 | h :: H,n=>if h.depth=0∨DS t h.name=false then Bg t H n else if 0<=n/\n≠(h.many.length:Int) then -1 else Bg t H h.many.length
noncomputable def Qhk (t:Fm) (n:Nat) (h:Hit):Hit:=if 0 < h.depth/\DS t h.name=true then h.many.getD n default else h
noncomputable def RX (t:Fm) (H:List Hit) (n:Nat):List Hit:=H.map (Qhk t n)
mutual
noncomputable def fl:Fm->List Hit->Option Fm
 | .mk k s n c ks,H =>
  match (if k=1 then Qkd H (.mk k s n c ks) else none) with
  | some h=>if h.depth=0 then some h.one else none
  | none=>match flL ks H with
   | none=>none
   | some out=>if YT ZX out<=400 then some (.mk k s n c out) else none
noncomputable def flL : List Fm -> List Hit -> Option (List Fm)
  | [], _ => some []
  | t :: ts, H =>
    if YL t = true then flL ts H
    else if Wl ts = true then
      (if Bg t H (-1) < 0 then none
       else match EN (fun n => fl t (RX t H n)) (Xe (Bg t H (-1)).toNat) with
        | none => none
        | some ks => (flL ts H).map (ks ++ ·))
    else match fl t H with
      | none => none
      | some k => (flL ts H).map (k :: ·)
end
noncomputable def EW (p:Fm) (ls:List Fm):List Hit :=
 (Xe (vrs ls p).length).map fun i=>.mk ((vrs ls p).getD i default) ((dps ls 0 p).getD i 0) (if (dps ls 0 p).getD i 0=0 then (vrs ls p).getD i default else Fm.zero) []
end Go.Proofs.Shadow
namespace Go.Proofs.SA
theorem FIs.mono:∀(d:Nat) (f:Fm),FIs d f->FIs (d+1) f:=by
 intro d
 induction d with
 | zero=>intro f h;exact h.elim
 | succ d ih =>
  intro f h
  rcases h with h | h | h
  ·exact .inl h
  ·exact .inr (.inl h)
  ·exact .inr (.inr ⟨h.1,h.2.1,h.2.2.1,h.2.2.2.1,fun k hk=>ih k (h.2.2.2.2 k hk)⟩)
theorem FIs.kid {d:Nat} {f k:Fm} (h:FIs (d+1) f) (hk:k∈f.kids):FIs d k:=by
 rcases h with h | h | h
 ·have:=Xc hk;omega
 ·have:=Xc hk;omega
 ·exact h.2.2.2.2 k hk
theorem VL {f k:Fm} (hk:k∈f.kids):k.nodes+1<=f.nodes:=by
 rw [Fm.YM f];have:=GC ZX f.kids k hk;omega
theorem Hy (f:Fm):1<=f.nodes:=by rw [Fm.YM];omega
theorem FV.kid {f k:Fm} (h:FV f) (hk:k∈f.kids):FV k:=⟨FIs.mono _ _ (FIs.kid h.1 hk),by have:=VL hk;have:=h.2;omega⟩
theorem WA:∀l:List Fm,l.length<=YT ZX l
 | []=>Qu _
 | f :: l=>by have:=WA l;have:=Hy f;rw [YT,ZO];omega
theorem FIs.sz:∀(d:Nat) (f:Fm),FIs d f->f.sz+1<=37 * f.nodes:=by
 intro d
 induction d with
 | zero=>intro f h;exact h.elim
 | succ d ih =>
  intro f h;rw [Fm.Ge,Fm.YM]
  have hsum:∀l:List Fm,(∀g∈l,FIs d g)->YT Fm.sz l+l.length<=37 * YT ZX l:=by
   intro l
   induction l with
   | nil=>intro _;exact Qu _
   | cons g l ihl =>
    intro hg;have h1:=ih g (hg g (Kw ..));have h2:=ihl (fun x hx=>hg x (Kg _ hx));simp only [YT,ZO];omega
  rcases h with h | h | h
  ·obtain ⟨h1,h2,h3,h4,h5⟩:=h;have hk:f.kids=[]:=KB h5
   have hn:f.name.size<=12:=by
    rcases h2 with h2 | h2 | h2
    ·rw [h2];decide
    ·rw [h2];decide
    ·exact h2.2.1
   have:=h4.1;rw [hk];simp [YT];omega
  ·obtain ⟨h1,h2,h3,h4,h5,h6⟩:=h;have hk:f.kids=[]:=KB h6;rw [hk,h2,h5];have:(Ql #[]).size=0:=rfl;simp [YT,this]
  ·obtain ⟨h1,h2,h3,h4,h5⟩:=h;have:=hsum f.kids h5;rw [h2,h4];have:(Ql #[]).size=0:=rfl;omega
theorem FV.sz {f:Fm} (h:FV f):f.sz<=14800:=by have:=FIs.sz _ _ h.1;have:=h.2;omega
theorem FV.Ht {f:Fm} (h:FV f):f.kids.length<=399:=by have:=WA f.kids;have:=Fm.YM f;have:=h.2;omega
end Go.Proofs.SA
namespace Go.Proofs.Shadow
def Qdr (n:Int):List Int->List Int
 | []=>[n]
 | x :: l=>if x > n then n :: x :: l else x :: Qdr n l
def Qlc (l:List Int) (n:Int):List Int:=if n∈l then l else Qdr n l
def P2 (l:List Int) (n:Int):List Int:=l.filter fun x=>decide (x≠n)
def chS (sc:List Int) (s way:Int):List Int:=if way=2∨(way=1/\s∈sc) then P2 sc s else Qlc sc s
mutual
def chg (s way:Int):Fm->Fm
 | .mk k n m sc ks=>.mk k n m (if k=1 then chS sc s way else sc) (Qle s way ks)
def Qle (s way:Int):List Fm->List Fm
 | []=>[]
 | f :: fs=>chg s way f :: Qle s way fs
end
theorem UM (s way:Int):∀l,Qle s way l=l.map (chg s way)
 | []=>rfl
 | f :: fs=>by rw [Qle,UM s way fs];rfl
theorem UN (s way:Int) (f:Fm):chg s way f=.mk f.kind f.name f.num (if f.kind=1 then chS f.sc s way else f.sc) (f.kids.map (chg s way)):=by cases f;rw [chg,UM];rfl
theorem IF (s way:Int) (f:Fm):(chg s way f).nodes=f.nodes:=by
 induction f using Fm.ind with
 | h f ih =>
  rw [Fm.YM,Fm.YM f,UN]
  have:∀l:List Fm,(∀g∈l,(chg s way g).nodes=g.nodes)->YT ZX (l.map (chg s way))=YT ZX l:=by
   intro l
   induction l with
   | nil=>intro _;rfl
   | cons g l ihl=>intro h;rw [List.map_cons,YT,YT,h g (Kw ..),ihl (fun x hx=>h x (Kg _ hx))]
  show 1+YT ZX (f.kids.map (chg s way))=_;rw [this _ ih]
theorem R5 (n:Int):∀l,(Qdr n l).length=l.length+1
 | []=>rfl
 | x :: l=>by unfold Qdr;split<;>simp [R5 n l]
theorem Qgd (sc:List Int) (s way:Int):(chS sc s way).length<=sc.length+1:=by
 unfold chS Qlc P2;split
 ·exact Nat.le_trans (List.length_filter_le _ _) (Nat.le_succ _)
 ·split
  ·omega
  ·rw [R5];omega
theorem Qi8 (s way:Int) (f:Fm):(chg s way f).sz<=f.sz+f.nodes:=by
 induction f using Fm.ind with
 | h f ih =>
  rw [Fm.Ge,Fm.Ge f,Fm.YM,UN]
  have:∀l:List Fm,(∀g∈l,(chg s way g).sz<=g.sz+g.nodes)->YT Fm.sz (l.map (chg s way))<=YT Fm.sz l+YT ZX l:=by
   intro l
   induction l with
   | nil=>intro _;exact Qu _
   | cons g l ihl =>
    intro h;have h1:=h g (Kw ..);have h2:=ihl (fun x hx=>h x (Kg _ hx));simp only [List.map_cons,YT];omega
  have h1:=this _ ih;have h2:=Qgd f.sc s way;show f.name.size+(if f.kind=1 then chS f.sc s way else f.sc).length+(f.kids.map (chg s way)).length+YT Fm.sz (f.kids.map (chg s way))<=_;rw [List.length_map];split<;>omega
end Go.Proofs.Shadow
namespace Go.Proofs.Shadow
theorem Ch {α β:Type} (F:Nat->List α->Option (β ⊕ Unit)) (p:α->Bool) (b:β) (hn:∀i,F i []=some (.inr ())):∀(l:List α) (i:Nat),(∀x∈l,∀i r,F i (x :: r)=if p x=true then some (.inl b) else F (i+1) r)->F i l=some (if l.any p=true then .inl b else .inr ()):=by
 intro l
 induction l with
 | nil=>intro i _;rw [hn];rfl
 | cons x l ih =>
  intro i hc;rw [hc x (Kw ..),Xa];cases hp:p x
  ·rw [if_neg (by simp),ih _ (fun y hy=>hc y (Kg _ hy))];rfl
  ·rfl
theorem Ul {α β:Type} (F:Nat->List α->Option (β ⊕ Unit)) (a:List α) (p:Nat->α->Bool) (b:β) (hn:∀i,F i []=some (.inr ())) (hc:∀(i:Nat) (hi:i < a.length) r,F i (a[i] :: r)=if p i a[i]=true then some (.inl b) else F (i+1) r) :
  (F 0 a=some (.inl b)/\∃i,∃hi:i < a.length,p i a[i]=true)∨(F 0 a=some (.inr ())/\∀i,∀hi:i < a.length,p i a[i]=false):=by
 have key:∀(n i:Nat),i+n=a.length->(F i (a.drop i)=some (.inl b)/\∃j,i<=j/\∃hj:j < a.length,p j a[j]=true)∨(F i (a.drop i)=some (.inr ())/\∀j,i<=j->∀hj:j < a.length,p j a[j]=false):=by
  intro n
  induction n with
  | zero=>intro i hi;right;rw [show i=a.length by omega,List.drop_length];exact ⟨hn _,fun j h1 h2=>by omega⟩
  | succ n ih =>
   intro i hi
   have hil:i < a.length:=by omega
   rw [ZH hil,hc i hil];cases hp:p i a[i]
   ·rw [if_neg (by simp)]
    rcases ih (i+1) (by omega) with ⟨h1,j,h2,h3,h4⟩ | ⟨h1,h2⟩
    ·exact .inl ⟨h1,j,by omega,h3,h4⟩
    ·refine .inr ⟨h1,fun j hj hjl=>?_⟩
     by_cases hji:j=i
     ·subst hji;exact hp
     ·exact h2 j (by omega) hjl
   ·exact .inl ⟨rfl,i,Qu _,hil,hp⟩
 rcases key a.length 0 (by omega) with ⟨h1,j,_,h3,h4⟩ | ⟨h1,h2⟩
 ·exact .inl ⟨h1,j,h3,h4⟩
 ·exact .inr ⟨h1,fun i hi=>h2 i (Q0 _) hi⟩
theorem Qf3 (l:List Int) (n:Int):(l.any fun x=>decide (x=n))=decide (n∈l):=by
 induction l with
 | nil=>rfl
 | cons x l ih =>
  rw [Xa,ih]
  by_cases h:x=n
  ·subst h;simp
  ·have h2:¬n=x:=fun e=>h e.symm;simp [h,h2]
end Go.Proofs.Shadow
namespace Go.Proofs.SA
abbrev Sm (n:Nat):Prop:=n<=1099511627776
theorem Oz (l:List Int) (n:Int) (h:Sm l.length):Jq l n=some (decide (n∈l)):=by
 rw [Jq,Lq _ _ (by omega),Ch (GO l n) (fun x=>decide (x=n)) true (fun _=>rfl) l 0 (fun x _ i r=>by
  rw [GO,Ye,X7];by_cases hx:x=n<;>simp [hx,Ye]),Qf3,X7]
 cases decide (n∈l)<;>rfl
theorem Pf (a b:List Int) (h:Sm a.length) (hb:Sm b.length):VM a b=some (Qd9 a b):=by
 rw [VM,BG _ _ (by omega),Ch (VN a b) (fun x=>!decide (x∈b)) false (fun _=>rfl) a 0 (fun x _ i r=>by
  rw [VN,Ye,X7,Oz _ _ hb,X7];rfl),X7]
 have:Qd9 a b=!(a.any fun x=>!decide (x∈b)):=by unfold Qd9;rw [List.all_eq_not_any_not]
 rw [this];cases (a.any fun x=>!decide (x∈b))<;>rfl
def BS (l:List Bnd):Prop:=Sm l.length/\∀b∈l,Sm b.sc.length
theorem SY (l:List Bnd) (n:Fm) (h:BS l) (hn:Sm n.sc.length):HE l n=some (RN n 0 l):=by
 have key:∀(r:List Bnd) (z:List Int) (i:Nat),(∀b∈r,Sm b.sc.length)->z.length+r.length<=1099511627776->Vw l n z i r=some (z++RN n i r):=by
  intro r
  induction r with
  | nil=>intro z i _ _;rw [Vw,Ye];simp [RN]
  | cons b r ih =>
   intro z i hb hz;simp only [ZO] at hz;have hb':=fun x hx=>hb x (Kg b hx);rw [Vw,RN,Ye,X7]
   by_cases hnm:b.name=n.name
   ·rw [if_pos hnm];simp only [X7,Pf _ _ (hb b (Kw ..)) hn,Ye];cases hs:Qd9 b.sc n.sc
    ·rw [if_neg (by simp),ih z (i+1) hb' (by omega),if_neg (by simp)]
    ·rw [if_pos rfl,YD (by simp;omega),X7,ih _ (i+1) hb' (by simp;omega),if_pos ⟨hnm,rfl⟩,QE];rfl
   ·rw [if_neg hnm];simp only [Ye,X7];rw [if_neg (by simp),ih z (i+1) hb' (by omega),if_neg (by simp [hnm])]
 rw [HE,Df _ _ _ (by have:=h.1;omega),key l [] 0 h.2 (by have:=h.1;simp;omega)];rfl
theorem Av {α:Type} [Inhabited α] {l:List α} {i:Int} (h0:0<=i) (h:i < l.length):idx l i=some (l.getD i.toNat default):=by
 rw [PM l i h0 h,QA,Qj (by omega)];rfl
theorem Nn (l:List Bnd) (n:Fm) (h:BS l) (hn:Sm n.sc.length):HO l n=some (findF l n):=by
 have hr:=Cm n l 0;have hlen:=RO n l 0;rw [HO,SY l n h hn,X7,findF];have hL:=h.1;generalize hx:RN n 0 l=X at hr hlen
 have sm:∀i,Sm (TI l i).length:=fun i=>by
  unfold TI;rw [QA]
  cases hg:l[i.toNat]? with
  | none=>decide
  | some b=>exact h.2 b (List.mem_of_getElem? hg)
 have inner:∀(i:Nat) (hi:i < X.length) (r:List Int) (b:Bool) (j:Nat),(∀k∈r,k∈X)->Jx l n X (i:Int) b j r=some (b&&r.all fun k=>Qd9 (TI l k) (TI l X[i])):=by
  intro i hi r;have h1:=hr X[i] (ZR hi)
  induction r with
  | nil=>intro b j _;rw [Jx,Ye];simp
  | cons k r ih =>
   intro b j hk;have h2:=hr k (hk k (Kw ..));have hs:=Pf _ _ (sm k) (sm X[i]);unfold TI at hs;rw [Jx,Yn X i hi];cases b
   ·simp only [Qr,if_false,Ye,X7];rw [ih _ _ (fun x hx=>hk x (Kg _ hx))];rfl
   ·simp only [if_true,Ye,X7,Av (l:=l) (i:=k) (by omega) (by omega),Av (l:=l) (i:=X[i]) (by omega) (by omega),hs];rw [ih _ _ (fun x hx=>hk x (Kg _ hx)),List.all_cons];unfold TI;simp
 have outer:∀(m i:Nat),i+m=X.length->J6 l n X i (X.drop i)=some (match (X.drop i).find? (Qld l X) with | some k=>Sum.inl (k,1) | none=>Sum.inr ()):=by
  intro m
  induction m with
  | zero=>intro i hi;rw [show i=X.length by omega,List.drop_length];rfl
  | succ m ihm =>
   intro i hi
   have hil:i < X.length:=by omega
   rw [ZH hil,J6,Fj _ _ _ _ _ (by omega),inner i hil X true 0 (fun _ hk=>hk),X7,List.find?_cons]
   have hb:Qld l X X[i]=(true&&X.all fun k=>Qd9 (TI l k) (TI l X[i])):=by rw [Bool.true_and];rfl
   rw [hb];cases (true&&X.all fun k=>Qd9 (TI l k) (TI l X[i]))
   ·rw [if_neg (by simp),ihm (i+1) (by omega)]
   ·rw [if_pos rfl,Ye,X7];rfl
 have:=outer X.length 0 (by omega);rw [List.drop_zero] at this;rw [Fi _ _ _ (by omega),this,X7]
 cases hf:X.find? (Qld l X) with
 | some k=>rfl
 | none =>
  simp only
  by_cases h0:X.length=0
  ·rw [if_neg (by omega),if_pos h0];rfl
  ·rw [if_pos (by omega),if_neg h0];rfl
theorem Qd0 (l:List Bnd) (a b:Fm) (h:BS l) (ha:Sm a.sc.length) (hb:Sm b.sc.length):Ag l a b=some (Ln l a b):=by
 rw [Ag,Nn l a h ha,Nn l b h hb,X7,X7,Ln];have ra:=@CR l a;have rb:=@CR l b
 have ha3:(findF l a).2=0∨(findF l a).2=1∨(findF l a).2=2:=by
  unfold findF;split
  ·exact .inr (.inl rfl)
  ·split
   ·exact .inl rfl
   ·exact .inr (.inr rfl)
 generalize findF l a=x at *;generalize findF l b=y at *;obtain ⟨x1,x2⟩:=x;obtain ⟨y1,y2⟩:=y;simp only at ra rb ha3 ⊢
 by_cases h1:x2=y2
 ·subst h1
  rcases ha3 with h | h | h
  ·subst h;rfl
  ·subst h;have q1:=ra rfl;have q2:=rb rfl;rw [Ye,X7,if_neg (by simp),if_neg (by simp),Av (l:=l) q1.1 q1.2,Av (l:=l) q2.1 q2.2,X7,X7];rfl
  ·subst h;rfl
 ·rw [Ye,X7,if_pos (by simp [h1]),if_pos (.inl h1)];rfl
end Go.Proofs.SA
namespace Go.Proofs.SA
theorem Np (a b:List Int) (h:Sm a.length):It a b=some (decide (a=b)):=by
 rw [It]
 by_cases hl:a.length=b.length
 ·rw [if_pos (by omega),Fa _ _ (by omega)]
  rcases Ul (J4 a b) a (fun i x=>!decide (some x=b[i]?)) false (fun _=>rfl) (fun i hi r=>by
   rw [J4,Ye,X7,Yn b i (by omega),X7];have:b[i]?=some b[i]:=Qj _
   by_cases hx:a[i]=b[i]<;>simp [hx,this,Ye]) with ⟨h1,i,hi,hp⟩ | ⟨h1,hp⟩
  ·rw [h1,X7,decide_eq_false];rfl;rintro rfl;simp at hp
  ·rw [h1,X7,decide_eq_true];rfl;apply Kx;intro i
   by_cases hi:i < a.length
   ·have:=hp i hi;rw [Qj hi];simpa using this
   ·rw [Q5 (by omega),Q5 (by omega)]
 ·rw [if_neg (by omega),decide_eq_false (fun h=>hl (by rw [h]))];rfl
def bOk (b:Bnd):Prop:=NV b.name/\SV b.sc/\1<=b.id/\b.id<=999
def bEq (a b:Bnd):Prop:=a.name=b.name/\a.sc=b.sc
def BV (l:List Bnd):Prop:=l.length<=60/\(∀b∈l,bOk b)/\l.Pairwise fun a b=>¬bEq a b
theorem SV.len {l:List Int} (h:SV l):l.length<=24:=h.1
theorem BV.bs {l:List Bnd} (h:BV l):BS l:=⟨by have:=h.1;unfold Sm;omega,fun b hb=>by have:=(h.2.1 b hb).2.1.len;unfold Sm;omega⟩
theorem bv1 {l:List Bnd} (hs:BS l) {j:Nat} (hj:j < l.length):∀(n k:Nat),k+n=j->Tot (Vs l j k) fun o=>match o with | .inl r=>r=false/\∃k',∃h:k' < j,bEq l[k'] l[j] | .inr _=>∀k',k<=k'->∀h:k' < j,¬bEq l[k'] l[j]:=by
 intro n
 induction n with
 | zero=>intro k hk;rw [Vs,if_neg (by omega)];exact ⟨_,rfl,fun k' h1 h2=>by omega⟩
 | succ n ih =>
  intro k hk;rw [Vs,if_pos (by omega),Yn l k (by omega),Yn l j hj];simp only [X7];have w:=VI (i:=k) (by have:=hs.1;unfold Sm at this;omega);have hi:=Np l[k].sc l[j].sc (hs.2 _ (ZR _))
  by_cases h1:l[k].name=l[j].name
  ·rw [if_pos h1];simp only [hi,Ye,X7,w]
   by_cases h2:l[k].sc=l[j].sc
   ·rw [if_pos (by simp [h2])];exact ⟨_,rfl,rfl,k,by omega,h1,h2⟩
   ·rw [if_neg (by simp [h2])];refine (ih (k+1) (by omega)).mono fun o ho=>?_
    cases o with
    | inl r=>exact ho
    | inr u =>
     exact fun k' h3 h4=>by
      by_cases hk':k'=k
      ·subst hk';exact fun h5=>h2 h5.2
      ·exact ho k' (by omega) h4
  ·rw [if_neg h1];simp only [Ye,X7,w,Qr,if_false];refine (ih (k+1) (by omega)).mono fun o ho=>?_
   cases o with
   | inl r=>exact ho
   | inr u =>
    exact fun k' h3 h4=>by
     by_cases hk':k'=k
     ·subst hk';exact fun h5=>h1 h5.1
     ·exact ho k' (by omega) h4
theorem bv0 {l:List Bnd} (hs:BS l):∀(n j:Nat),j+n=61->Tot (Vr l j) fun o=>match o with | .inl r=>r=false/\∃j',∃h:j' < l.length,¬(bOk l[j']/\∀k',∀h2:k' < j',¬bEq l[k'] l[j']) | .inr _=>∀j',j<=j'->j'<=60->∀h:j' < l.length,bOk l[j']/\∀k',∀h2:k' < j',¬bEq l[k'] l[j']:=by
 intro n
 induction n with
 | zero=>intro j hj;rw [Vr,Ye,X7,if_neg (by simp;omega)];exact ⟨_,rfl,fun j' h1 h2=>by omega⟩
 | succ n ih =>
  intro j hj;rw [Vr,Ye,X7]
  by_cases hjl:j < l.length
  rotate_left
  ·rw [if_neg (by simp;omega)];exact ⟨_,rfl,fun j' h1 h2 h3=>by omega⟩
  rw [if_pos (by simp;omega),Yn l j hjl];simp only [X7];refine ZK (PR _) fun b1 hb1=>?_
  have bad:¬bOk l[j]->Tot (pure (Sum.inl false):Option (Bool ⊕ Unit)) fun o=>match o with | .inl r=>r=false/\∃j',∃h:j' < l.length,¬(bOk l[j']/\∀k',∀h2:k' < j',¬bEq l[k'] l[j']) | .inr _=>∀j',j<=j'->j'<=60->∀h:j' < l.length,bOk l[j']/\∀k',∀h2:k' < j',¬bEq l[k'] l[j']:=fun h=>⟨_,rfl,rfl,j,hjl,fun h2=>h h2.1⟩
  cases b1
  ·simp only [Z7,if_true,Ye,X7]
   exact bad fun h=>by have:=hb1.2 h.1;cases this
  simp only [Z8,Qr,if_false];obtain ⟨b2,e2,hb2⟩:=Qbh l[j].sc;rw [e2];simp only [Ye,X7];cases b2
  ·simp only [Z7,if_true,Ye,X7]
   exact bad fun h=>by have:=hb2.2 h.2.1;cases this
  simp only [Z8,Qr,if_false,Ye,X7]
  by_cases h3:l[j].id < 1
  ·simp only [h3,decide_true,if_true,Ye,X7]
   exact bad fun h=>by have:=h.2.2.1;omega
  simp only [h3,decide_false,Qr,if_false,Ye,X7]
  by_cases h4:l[j].id > 999
  ·simp only [h4,decide_true,if_true]
   exact bad fun h=>by have:=h.2.2.2;omega
  simp only [h4,decide_false,Qr,if_false];have hok:bOk l[j]:=⟨hb1.1 rfl,hb2.1 rfl,by omega,by omega⟩;refine ZK (bv1 hs hjl j 0 (by omega)) fun o ho=>?_
  cases o with
  | inl r=>exact ⟨_,rfl,ho.1,j,hjl,fun h=>by obtain ⟨k',h5,h6⟩:=ho.2;exact h.2 k' h5 h6⟩
  | inr u =>
   simp only [VI (i:=j) (by omega)];refine (ih (j+1) (by omega)).mono fun o ho2=>?_
   cases o with
   | inl r=>exact ho2
   | inr u =>
    exact fun j' h5 h6 h7=>by
     by_cases hj':j'=j
     ·subst hj';exact ⟨hok,fun k' h8=>ho k' (Q0 _) h8⟩
     ·exact ho2 j' (by omega) h6 h7
theorem I5 {l:List Bnd} (hs:BS l):Tot (Jt l) fun b=>b=true↔BV l:=by
 rw [Jt];refine ZK (bv0 hs 61 0 (by omega)) fun o ho=>?_
 cases o with
 | inl r =>
  obtain ⟨h0,j,hj,hn⟩:=ho;subst h0;refine ⟨_,rfl,fun h=>(by cases h),fun h=>absurd ⟨h.2.1 _ (ZR hj),fun k' h2=>?_⟩ hn⟩;exact Ko.1 h.2.2 k' j (by omega) hj h2
 | inr u =>
  refine ⟨_,rfl,?_⟩;simp only [decide_eq_true_iff];constructor
  ·intro hl;refine ⟨by omega,fun b hb=>?_,Ko.2 fun i j hi hj hij=>(ho j (Q0 _) (by omega) hj).2 i hij⟩;obtain ⟨i,hi,rfl⟩:=Z9.1 hb;exact (ho i (Q0 _) (by omega) hi).1
  ·intro h;have:=h.1;omega
theorem RU {f:Fm} (hf:f.sz < 1000000000):Tot (Bd f) fun b=>b=true↔f.kind=1/\FV f:=by
 rw [Bd]
 by_cases h:f.kind=1
 ·rw [if_pos h];refine ZK (ZK (JP hf) fun b hb=>⟨b,rfl,hb⟩) fun b hb=>⟨b,rfl,?_⟩;simp only [hb,h,true_and]
 ·rw [if_neg h];refine ⟨false,rfl,?_⟩;simp [h]
theorem Qcp (l:List Bnd) (h:BS l) (h2:l.length<=1000000):HD l=some l:=by
 rw [HD,De _ _ (by omega),Iz (WQ l) id (fun _ _=>rfl) l [] 0 (fun x hx z i r hz=>by
  have:=h.2 x hx;unfold Sm at this
  rw [WQ,Ye,X7,YD (by simp;omega),X7,YD (by simp;omega),X7];rfl) (by simp;omega)]
 simp [X7,Ye]
theorem N4 {l:List Bnd} (hs:BS l) (h2:l.length<=1000000) {f:Fm} (hf:f.sz < 1000000000) (id:Int):Tot (IG l f id) fun r=>(r.2=true/\r.1=l++[⟨f.name,f.sc,id⟩]/\f.kind=1/\FV f/\BV l/\BV (l++[⟨f.name,f.sc,id⟩]))∨(r.2=false/\r.1=[]/\¬(f.kind=1/\FV f/\BV l/\BV (l++[⟨f.name,f.sc,id⟩]))):=by
 have hz:=Fm.O2 f;rw [IG];refine ZK (I5 hs) fun b hb=>?_;cases b
 ·simp only [Z7,if_true,Ye,X7];exact ⟨_,rfl,.inr ⟨rfl,rfl,fun h=>by have:=hb.2 h.2.2.1;cases this⟩⟩
 simp only [Z8,Qr,if_false];obtain ⟨b2,e2,hb2⟩:=RU hf;rw [e2];simp only [Ye,X7];cases b2
 ·simp only [Z7,if_true];exact ⟨_,rfl,.inr ⟨rfl,rfl,fun h=>by have:=hb2.2 ⟨h.1,h.2.1⟩;cases this⟩⟩
 simp only [Z8,Qr,if_false];rw [Qcp l hs h2,X7,YD (by simp;omega),X7,YD (by simp;omega),X7];simp only [QU]
 have hs':BS (l++[⟨f.name,f.sc,id⟩]):=⟨by simp only [QW,ZO,ZN];unfold Sm;omega,fun b hb=>by
  rcases List.mem_append.1 hb with h | h
  ·exact hs.2 b h
  ·rw [List.mem_singleton.1 h];show f.sc.length<=_;omega⟩
 obtain ⟨b3,e3,hb3⟩:=I5 hs';rw [e3,X7];cases b3
 ·simp only [Z7,if_true];exact ⟨_,rfl,.inr ⟨rfl,rfl,fun h=>by have:=hb3.2 h.2.2.2;cases this⟩⟩
 ·simp only [Z8,Qr,if_false];exact ⟨_,rfl,.inl ⟨rfl,rfl,(hb2.1 rfl).1,(hb2.1 rfl).2,hb.1 rfl,hb3.1 rfl⟩⟩
theorem Sd (l:List Int) (n:Int) (h:l.length<=1000000):Iu l n=some (P2 l n):=by
 have key:∀(r z:List Int) (i:Nat),z.length+r.length<=1000000->WG l n z i r=some (z++P2 r n):=by
  intro r
  induction r with
  | nil=>intro z i _;rw [WG,Ye];simp [P2]
  | cons x r ih =>
   intro z i hz;simp only [ZO] at hz;rw [WG,Ye,X7]
   by_cases hx:x=n
   ·rw [if_pos hx,ih _ _ (by omega)];simp [P2,hx]
   ·rw [if_neg hx,X7,YD (by simp;omega),X7,ih _ _ (by simp;omega)];simp [P2,hx]
 rw [Iu,Fh _ _ _ (by omega),key l [] 0 (by simp;omega)];rfl
theorem Qay (l:List Int) (n:Int) (h:l.length<=1000000):I2 l n=some (Qlc l n):=by
 have key:∀(r z:List Int) (b:Bool) (i:Nat),z.length+r.length+(if b=true then 0 else 1)<=1000002->JW l n z b i r=some (if b=true then (z++r,true) else if r.any (fun x=>decide (x > n))=true then (z++Qdr n r,true) else (z++r,false)):=by
  intro r
  induction r with
  | nil=>intro z b i _;rw [JW,Ye];cases b<;>simp
  | cons x r ih =>
   intro z b i hz;simp only [ZO] at hz;rw [JW];cases b
   ·rw [if_neg (by simp)] at hz;simp only [Z7,if_true,Ye,X7,Qr,if_false,Xa,Bool.or_eq_true,decide_eq_true_eq]
    by_cases hx:x > n
    ·rw [if_pos hx,YD (by simp only [QW,ZO,ZN];omega)];simp only [X7];rw [YD (by simp;omega)];simp only [X7];rw [ih _ true _ (by simp;omega),if_pos rfl,if_pos (.inl hx),Qdr,if_pos hx]
     simp
    ·rw [if_neg hx];simp only [X7];rw [YD (by simp;omega)];simp only [X7];rw [ih _ false _ (by simp;omega),if_neg (by simp),Qdr,if_neg hx]
     have e:(x > n∨(r.any fun x=>decide (x > n))=true)↔(r.any fun x=>decide (x > n))=true:=by simp [hx]
     simp only [QE,List.singleton_append]
     by_cases hr:(r.any fun x=>decide (x > n))=true
     ·rw [if_pos hr,if_pos (e.2 hr)]
     ·rw [if_neg hr,if_neg (fun h=>hr (e.1 h))]
   ·rw [if_pos rfl] at hz;simp only [Z8,Qr,if_false,Ye,X7,if_true];rw [YD (by simp;omega)];simp only [X7];rw [ih _ true _ (by simp;omega),if_pos rfl]
    simp
 have tail:∀r:List Int,(r.any fun x=>decide (x > n))=false->Qdr n r=r++[n]:=by
  intro r
  induction r with
  | nil=>intro _;rfl
  | cons x r ih =>
   intro hr;rw [Xa,Bool.or_eq_false_iff] at hr;rw [Qdr,if_neg (by simpa using hr.1),ih hr.2];rfl
 rw [I2,Oz _ _ (by unfold Sm;omega),X7,Lr _ _ _ _ (by omega),key l [] _ 0 (by simp only [ZN];split<;>omega),X7,Qlc]
 by_cases hm:n∈l
 ·simp [hm,Ye]
 ·simp only [hm,decide_false,Qr,if_false,QU]
  by_cases hr:(l.any fun x=>decide (x > n))=true
  ·rw [if_pos hr];rfl
  ·rw [if_neg hr];simp only [Z7,if_true];rw [YD (by simp;omega),tail l (by simpa using hr)];rfl
theorem J0 (s w:Int):∀f:Fm,f.sz<=1000000->YB f s w=some (chg s w f):=by
 intro f
 induction f using Fm.ind with
 | h f ih =>
  intro hf;have hz:=Fm.Ge f
  have hS:(if f.kind=1 then
   (((if w=2 then pure true else ((if w=1 then (Jq f.sc s>>=fun x32=>pure x32) else pure false:Option Bool)>>=fun x33=>pure x33):Option Bool))>>=fun x34 =>
    if x34=true then (Iu f.sc s>>=fun x38=>pure x38) else (I2 f.sc s>>=fun x43=>pure x43)) else pure f.sc:Option (List Int))=some (if f.kind=1 then chS f.sc s w else f.sc):=by
   by_cases h1:f.kind=1
   ·rw [if_pos h1,if_pos h1,chS]
    by_cases h2:w=2
    ·simp [h2,Ye,X7,Sd f.sc s (by omega)]
    ·by_cases h3:w=1
     ·subst h3;simp only [h2,if_false,if_true,Oz _ _ (show Sm f.sc.length by unfold Sm;omega),Ye,X7,false_or,true_and]
      by_cases h4:s∈f.sc
      ·simp [h4,Sd f.sc s (by omega),X7]
      ·simp [h4,Qay f.sc s (by omega),X7]
     ·simp [h2,h3,Ye,X7,Qay f.sc s (by omega)]
   ·rw [if_neg h1,if_neg h1];rfl
  rw [YB,YD (by simp;omega),X7,QU,hS,X7,DH _ _ _ _ _ (by omega),
   Iz (Jp f s w _) (chg s w) (fun _ _=>rfl) f.kids [] 0 (fun x hx z i r hzb=>by
    have:=Fm.Gf hx
    rw [Jp,Ye,X7,ih x hx (by omega),X7,YD (by simp;omega),X7]) (by simp;omega),X7,UN]
  simp [Ye]
end Go.Proofs.SA
open Go.IntKind (i64)
namespace Go.Proofs.SA
theorem Fm.ext_iff {a b:Fm} : a=b↔a.kind=b.kind/\a.name=b.name/\a.num=b.num/\a.sc=b.sc/\a.kids=b.kids:=by
 cases a;cases b;simp [Fm.kind,Fm.name,Fm.num,Fm.sc,Fm.kids]
theorem Cq:∀a:Fm,a.sz<=1000000->∀b:Fm,YU a b=some (decide (a=b)):=by
 intro a
 induction a using Fm.ind with
 | h a ih =>
  intro ha b;have hz:=Fm.Ge a
  have hd:∀(P:Prop) [Decidable P],(a=b↔P)->decide (a=b)=decide P:=fun P _ h=>by simp only [h]
  rw [YU]
  by_cases h1:a.kind=b.kind
  rotate_left
  ·rw [decide_eq_false (fun h=>h1 (Fm.ext_iff.1 h).1)];simp [h1,Ye,X7]
  by_cases h2:a.name=b.name
  rotate_left
  ·rw [decide_eq_false (fun h=>h2 (Fm.ext_iff.1 h).2.1)];simp [h1,h2,Ye,X7]
  by_cases h3:a.num=b.num
  rotate_left
  ·rw [decide_eq_false (fun h=>h3 (Fm.ext_iff.1 h).2.2.1)];simp [h1,h2,h3,Ye,X7]
  by_cases h4:a.sc=b.sc
  rotate_left
  ·rw [decide_eq_false (fun h=>h4 (Fm.ext_iff.1 h).2.2.2.1)];simp [h1,h2,h3,h4,Ye,X7,Np a.sc b.sc (by unfold Sm;omega)]
  by_cases h5:a.kids.length=b.kids.length
  rotate_left
  ·rw [show decide (a=b)=false from decide_eq_false (fun h=>h5 (by rw [h]))]
   have:¬(a.kids.length:Int)=(b.kids.length:Int):=by omega
   simp [h1,h2,h3,h4,h5,this,Ye,X7,Np b.sc b.sc (by rw [← h4];unfold Sm;omega)]
  have h6:(a.kids.length:Int)=(b.kids.length:Int):=by omega
  simp only [h1,h2,h3,h4,h6,decide_true,Z8,Bool.or_false,Ye,X7,Qr,if_false,Np b.sc b.sc (show Sm b.sc.length by rw [← h4];unfold Sm;omega)];rw [DE _ _ (by omega)]
  rcases Ul (Jo a b) a.kids (fun i x=>!decide (some x=b.kids[i]?)) false (fun _=>rfl) (fun i hi r=>by
   have hm:a.kids[i]∈a.kids:=ZR hi;have:=Fm.Gf hm;rw [Jo,Ye,X7,Yn b.kids i (by omega),X7,ih _ hm (by omega),X7];have hg:b.kids[i]?=some (b.kids[i]'(by omega)):=Qj _;rw [hg];simp only [Option.some.injEq]
   by_cases hx:a.kids[i]=b.kids[i]<;>simp [hx,Ye]) with ⟨h7,i,hi,hp⟩ | ⟨h7,hp⟩
  ·have e:decide (a=b)=false:=decide_eq_false (fun h=>by
    have h8:some a.kids[i]=b.kids[i]?:=by rw [← h];exact (Qj hi).symm
    rw [decide_eq_true h8] at hp
    cases hp)
   rw [h7,e];rfl
  ·have e:decide (a=b)=true:=decide_eq_true ?_
   ·rw [h7,e];rfl
   refine Fm.ext_iff.2 ⟨h1,h2,h3,h4,Kx fun i=>?_⟩
   by_cases hi:i < a.kids.length
   ·have:=hp i hi;rw [Qj hi];simpa using this
   ·rw [Q5 (by omega),Q5 (by omega)]
def FS (l:List Fm):Prop:=Sm l.length/\∀f∈l,f.sz<=1000000
theorem RT (l:List Fm) (f:Fm) (h:FS l):Ih l f=some (decide (f∈l)):=by
 have:∀l:List Fm,(l.any fun x=>decide (x=f))=decide (f∈l):=by
  intro l
  induction l with
  | nil=>rfl
  | cons x l ih =>
   rw [Xa,ih]
   by_cases h:x=f
   ·subst h;simp
   ·have h2:¬f=x:=fun e=>h e.symm;simp [h,h2]
 rw [Ih,Ms _ _ (by have:=h.1;omega),Ch (Hm l f) (fun x=>decide (x=f)) true (fun _=>rfl) l 0 (fun x hx i r=>by
  rw [Hm,Ye,X7,Cq x (h.2 x hx),X7];rfl),this,X7]
 cases decide (f∈l)<;>rfl
theorem AO (f:Fm):YF f=some (YL f):=rfl
def TM (l:List Fm):Prop:=l.length < 10/\(∀x∈l,x.kind=1/\FV x/\x.name≠Dp/\x.name≠Od)/\l.Nodup
theorem Cp {α:Type} {l:List α} : l.Nodup↔∀i,∀h:i < l.length,l[i]∉l.take i:=by
 rw [List.Nodup,Ko];constructor
 ·intro h i hi hm;obtain ⟨j,hj,e⟩:=Z9.1 hm;rw [Xb] at hj;rw [Xd] at e;exact h j i (by omega) hi (by omega) e
 ·intro h i j hi hj hij e;refine h j hj (Z9.2 ⟨i,by rw [Xb];omega,?_⟩);rw [Xd];exact e
theorem OH {α:Type} (l:List α) (i:Nat) (h:i<=l.length):Dk l 0 (i:Int)=some (l.take i):=by
 unfold Dk;rw [if_pos ⟨by omega,by omega,by omega⟩]
 simp
theorem Qml {l:List Fm} (hs:FS l):∀(n i:Nat),i+n=10->Tot (Vx l i) fun o=>match o with
  | .inl r=>r=false/\∃j,∃h:j < l.length,¬((l[j].kind=1/\FV l[j]/\l[j].name≠Dp/\l[j].name≠Od)/\l[j]∉l.take j)
  | .inr _=>∀j,i<=j->j < 10->∀h:j < l.length,(l[j].kind=1/\FV l[j]/\l[j].name≠Dp/\l[j].name≠Od)/\l[j]∉l.take j:=by
 intro n
 induction n with
 | zero=>intro i hi;rw [Vx,Ye,X7,if_neg (by simp;omega)];exact ⟨_,rfl,fun j h1 h2=>by omega⟩
 | succ n ih =>
  intro i hi;rw [Vx,Ye,X7]
  by_cases hil:i < l.length
  rotate_left
  ·rw [if_neg (by simp;omega)];exact ⟨_,rfl,fun j h1 h2 h3=>by omega⟩
  rw [if_pos (by simp;omega),Yn l i hil];simp only [X7];have hm:l[i]∈l:=ZR hil
  have bad:¬((l[i].kind=1/\FV l[i]/\l[i].name≠Dp/\l[i].name≠Od)/\l[i]∉l.take i)->Tot (pure (Sum.inl false):Option (Bool ⊕ Unit)) fun o=>match o with
   | .inl r=>r=false/\∃j,∃h:j < l.length,¬((l[j].kind=1/\FV l[j]/\l[j].name≠Dp/\l[j].name≠Od)/\l[j]∉l.take j)
   | .inr _=>∀j,i<=j->j < 10->∀h:j < l.length,(l[j].kind=1/\FV l[j]/\l[j].name≠Dp/\l[j].name≠Od)/\l[j]∉l.take j:=fun h=>⟨_,rfl,rfl,i,hil,h⟩
  obtain ⟨b1,e1,hb1⟩:=RU (f:=l[i]) (by have:=hs.2 _ hm;omega);rw [e1,X7];cases b1
  ·simp only [Z7,if_true,Ye,X7]
   exact bad fun h=>by have:=hb1.2 ⟨h.1.1,h.1.2.1⟩;cases this
  simp only [Z8,Qr,if_false,Ye,X7];have hb:=hb1.1 rfl
  by_cases h2:l[i].name=Dp
  ·have h2':=h2;unfold Dp at h2';simp only [h2',decide_true,if_true,Ye,X7];exact bad fun h=>h.1.2.2.1 h2
  have h2':=h2;unfold Dp at h2';simp only [h2',decide_false,Qr,if_false,Ye,X7]
  by_cases h3:l[i].name=Od
  ·have h3':=h3;unfold Od at h3';simp only [h3',decide_true,if_true,Ye,X7];exact bad fun h=>h.1.2.2.2 h3
  have h3':=h3;unfold Od at h3';simp only [h3',decide_false,Qr,if_false,Ye,X7,OH l i (by omega)];rw [RT (l.take i) l[i] ⟨by have:=hs.1;unfold Sm at *;rw [Xb];omega,fun f hf=>hs.2 f (List.mem_of_mem_take hf)⟩,X7];simp only [X7]
  by_cases h4:l[i]∈l.take i
  ·simp only [h4,decide_true,if_true];exact bad fun h=>h.2 h4
  simp only [h4,decide_false,Qr,if_false,VI (i:=i) (by omega)];refine (ih (i+1) (by omega)).mono fun o ho=>?_
  cases o with
  | inl r=>exact ho
  | inr u =>
   exact fun j h5 h6 h7=>by
    by_cases hj:j=i
    ·subst hj;exact ⟨⟨hb.1,hb.2,h2,h3⟩,h4⟩
    ·exact ho j (by omega) h6 h7
theorem Dx {l:List Fm} (hs:FS l):Tot (J8 l) fun b=>b=true↔TM l:=by
 rw [J8];refine ZK (Qml hs 10 0 (by omega)) fun o ho=>?_
 cases o with
 | inl r =>
  obtain ⟨h0,j,hj,hn⟩:=ho;subst h0;exact ⟨_,rfl,fun h=>(by cases h),fun h=>absurd ⟨h.2.1 _ (ZR hj),Cp.1 h.2.2 j hj⟩ hn⟩
 | inr u =>
  refine ⟨_,rfl,?_⟩;simp only [decide_eq_true_iff];constructor
  ·intro hl;refine ⟨by omega,fun b hb=>?_,Cp.2 fun i hi=>(ho i (Q0 _) (by omega) hi).2⟩;obtain ⟨i,hi,rfl⟩:=Z9.1 hb;exact (ho i (Q0 _) (by omega) hi).1
  ·intro h;have:=h.1;omega
theorem Qa8:∀p:Fm,p.sz<=1000000->Gh p=some (Qa6 p):=by
 intro p
 induction p using Fm.ind with
 | h p ih =>
  intro hp;have hz:=Fm.Ge p
  have loop:∀(r:List Fm) (i:Nat) (n:Nat) (b:Bool),p.kids.drop i=r->n<=i->(b=true↔i=0∨∃h:i - 1 < p.kids.length,0 < i/\YL p.kids[i - 1]=true) ->
    Tot (WS p (n:Int) i r) fun o=>match o with | .inl r'=>r'=false/\PZ b n r=false | .inr m=>decide (m<=1)=PZ b n r:=by
   intro r
   induction r with
   | nil=>intro i n b _ _ _;exact ⟨_,rfl,by rw [PZ];by_cases h:n<=1<;>simp [h]<;>omega⟩
   | cons f r ihr =>
    intro i n b hd hn hb
    have hi:i < p.kids.length:=by
     rcases Nat.lt_or_ge i p.kids.length with h | h
     ·exact h
     ·rw [List.drop_of_length_le h] at hd;cases hd
    rw [ZH hi] at hd
    injection hd with e1 e2
    have hm:f∈p.kids:=e1▸ZR hi;rw [WS,PZ,Ye,X7,AO,X7]
    have hb2:∀b',b'=YL f->(b'=true↔i+1=0∨∃h:i+1 - 1 < p.kids.length,0 < i+1/\YL p.kids[i+1 - 1]=true):=by
     rintro b' rfl;simp only [Nat.add_sub_cancel];constructor
     ·intro h;exact .inr ⟨hi,by omega,by rw [e1];exact h⟩
     ·rintro (h | ⟨_,_,h⟩)
      ·omega
      ·rw [e1] at h;exact h
    cases hf:YL f
    ·simp only [Qr,if_false];have hk:=Fm.Gf hm;rw [X7,ih f hm (by omega),X7];cases hs:Qa6 f
     ·simp only [Z7,if_true,Qr,if_false];exact ⟨_,rfl,by simp⟩
     ·simp only [Z8,Qr,if_false,if_true];exact ihr (i+1) n false e2 (by omega) (hb2 false hf.symm)
    ·simp only [if_true]
     by_cases hi0:i=0
     ·subst hi0;have:b=true:=hb.2 (.inl rfl);subst this;simp only [Int.ofNat_zero,if_true,Ye,X7];exact ⟨_,rfl,by simp⟩
     ·rw [if_neg (by omega),show i64.wrap ((i:Int) - 1)=((i - 1:Nat):Int) by rw [Yz (by omega) (by omega)];omega,Yn _ _ (by omega)];simp only [X7,AO,Ye];cases hpd:YL p.kids[i - 1]
      ·have:b=false:=by
        cases b with
        | false=>rfl
        | true =>
         rcases hb.1 rfl with h | ⟨_,_,h⟩
         ·exact absurd h hi0
         ·rw [h] at hpd;cases hpd
       subst this;simp only [Qr,if_false];have hw:i64.wrap ((n:Int)+1)=((n+1:Nat):Int):=VI (by omega);rw [hw];exact ihr (i+1) (n+1) true e2 (by omega) (hb2 true hf.symm)
      ·have:b=true:=hb.2 (.inr ⟨by omega,by omega,hpd⟩);subst this;simp only [if_true];exact ⟨_,rfl,by simp⟩
  rw [Gh,NG,AO,X7];cases hd:YL p
  ·simp only [Qr,if_false];rw [Ev _ _ (by omega)];obtain ⟨o,ho,hp⟩:=loop p.kids 0 0 true (List.drop_zero ..) (Qu _) ⟨fun _=>.inl rfl,fun _=>rfl⟩;rw [show ((0:Nat):Int)=0 from rfl] at ho;rw [ho,X7]
   cases o with
   | inl r=>rw [hp.1,hp.2];rfl
   | inr m=>rw [← hp];rfl
  ·rfl
end Go.Proofs.SA
