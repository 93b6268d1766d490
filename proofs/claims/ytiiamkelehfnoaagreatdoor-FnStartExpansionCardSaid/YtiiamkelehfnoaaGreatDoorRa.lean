/- Patterns, matches and templates as plain functions: what both sides compute. -/
import Derived.Test.YtiiamkelehfnoaaGreatDoorQa
set_option linter.unusedVariables false
set_option linter.unusedSimpArgs false
set_option maxRecDepth 100000
open Go Go.Proofs Go.Proofs.Shadow
open _root_.Bool renaming false_eq_true → Qo, not_false → ZZ, not_true → Z0
open _root_.List renaming mem_cons_of_mem → Kh, length_cons → ZR, getElem?_eq_getElem → Qj, length_append → QX, mem_cons_self → KF, getElem_mem → ZU, getElem?_eq_none → Q6, mem_iff_getElem → Z1, drop_eq_getElem_cons → ZL, pairwise_iff_getElem → Kp, any_cons → Z2, eq_nil_of_length_eq_zero → Kv, getD_eq_getElem?_getD → Qy, length_take → Z3, length_pos_of_mem → Z4, nil_append → QU, length_nil → ZQ, mem_cons → Kl, append_assoc → QD, ext_getElem? → KC, getElem_take → Z5, range → Z6
open _root_.Nat renaming le_refl → Qt, zero_le → Q1
open Fm renaming nodes → ZW
open _root_.ByteArray renaming mk → Qd
open Tot renaming bind → ZN
namespace Go.Proofs.Shadow
noncomputable instance:DecidableEq Fm:=fun a b=>Classical.propDecidable (a=b)
instance:Inhabited Hit:=⟨.mk Fm.zero 0 Fm.zero []⟩
instance:Inhabited Bnd:=⟨⟨Qd #[],[],0⟩⟩
theorem Hit.eta (h:Hit):Hit.mk h.name h.depth h.one h.many=h:=by cases h;rfl
def BT:ByteArray:=Qd #[46,46,46]
def LY:ByteArray:=Qd #[95]
def YT (f:Fm):Bool:=decide (f.kind=1)&&decide (f.name=BT)
def Wo:List Fm->Bool
 | f :: _=>YT f
 | []=>false
def SO (a b:List Int):Bool:=a.all fun x=>decide (x∈b)
def LS (n:Fm):Nat->List Bnd->List Int
 | _,[]=>[]
 | i,b :: l=>if b.name=n.name/\SO b.sc n.sc=true then (i:Int) :: LS n (i+1) l else LS n (i+1) l
def PB (l:List Bnd) (i:Int):List Int:=(l.getD i.toNat default).sc
def Qec (l:List Bnd) (fit:List Int) (i:Int):Bool:=fit.all fun k=>SO (PB l k) (PB l i)
def findF (l:List Bnd) (n:Fm):Int × Int :=
 match (LS n 0 l).find? (Qec l (LS n 0 l)) with
 | some i=>(i,1)
 | none=>if (LS n 0 l).length=0 then (0,0) else (0,2)
theorem Di (n:Fm):∀(l:List Bnd) (i:Nat),∀k∈LS n i l,(i:Int)<=k/\k < i+l.length
 | [],i,k,hk=>by cases hk
 | b :: l,i,k,hk=>by
  unfold LS at hk;simp only [ZR];split at hk
  ·rcases Kl.1 hk with rfl | hk
   ·omega
   ·have:=Di n l (i+1) k hk;omega
  ·have:=Di n l (i+1) k hk;omega
theorem Sb (n:Fm):∀(l:List Bnd) (i:Nat),(LS n i l).length<=l.length
 | [],i=>Qt _
 | b :: l,i=>by
  unfold LS;have:=Sb n l (i+1);split<;>simp only [ZR]<;>omega
theorem DG {l:List Bnd} {n:Fm} (h:(findF l n).2=1):0<=(findF l n).1/\(findF l n).1 < l.length:=by
 unfold findF at h ⊢;split at h
 ·rename_i i hi;have:=Di n l 0 i (List.mem_of_find?_eq_some hi)
  simp only;omega
 ·split at h<;>cases h
def OA (l:List Bnd) (a b:Fm):Bool :=
 if (findF l a).2≠(findF l b).2∨(findF l a).2=2 then false
 else if (findF l a).2=0 then decide (a.name=b.name)
 else decide ((l.getD (findF l a).1.toNat default).id=(l.getD (findF l b).1.toNat default).id)
noncomputable def Sn (ls:List Fm) (f:Fm):Bool:=decide (f.kind=1)&&(!decide (f.name=BT))&&(!decide (f.name=LY))&&!decide (f∈ls)
section
variable (ls:List Fm)
mutual
noncomputable def vrs:Fm->List Fm
 | .mk k s n c ks=>(if Sn ls (.mk k s n c ks)=true then [.mk k s n c ks] else [])++Nv ks
noncomputable def Nv:List Fm->List Fm
 | []=>[]
 | f :: fs=>vrs f++Nv fs
end
mutual
noncomputable def dps:Int->Fm->List Int
 | d,.mk k s n c ks=>(if Sn ls (.mk k s n c ks)=true then [d] else [])++Rt d ks
noncomputable def Rt:Int->List Fm->List Int
 | d,[]=>[]
 | d,f :: fs=>dps (if Wo fs=true then d+1 else d) f++Rt d fs
end
mutual
def Qbv:Fm->Bool
 | .mk k s n c ks=>if YT (.mk k s n c ks)=true then false else PC true 0 ks
def PC:Bool->Nat->List Fm->Bool
 | _,n,[]=>decide (n<=1)
 | b,n,f :: fs=>if YT f=true then (if b=true then false else PC true (n+1) fs) else if Qbv f=true then PC false n fs else false
end
theorem MZ (p:Fm):vrs ls p=(if Sn ls p=true then [p] else [])++Nv ls p.kids:=by cases p;rw [vrs];rfl
theorem S6 (d:Int) (p:Fm):dps ls d p=(if Sn ls p=true then [d] else [])++Rt ls d p.kids:=by cases p;rw [dps];rfl
theorem OB (p:Fm):Qbv p=if YT p=true then false else PC true 0 p.kids:=by cases p;rw [Qbv];rfl
theorem OC:∀(l:List Fm) (b:Bool) (n:Nat),PC b n l=true->(l.filter YT).length+n<=1
 | [],b,n,h=>by rw [PC] at h;simpa using h
 | f :: fs,b,n,h=>by
  rw [PC] at h
  by_cases hd:YT f=true
  ·rw [if_pos hd] at h;cases b
   ·have:=OC fs true (n+1) (by simpa using h);rw [List.filter_cons_of_pos hd,ZR];omega
   ·simp at h
  ·rw [if_neg hd] at h;split at h
   ·have:=OC fs false n h;rw [List.filter_cons_of_neg hd];exact this
   ·cases h
theorem Qhk {l:List Fm} {n:Nat} (h:PC true n l=true):Wo l=false:=by
 cases l with
 | nil=>rfl
 | cons f fs =>
  rw [PC] at h;cases hd:YT f
  ·exact hd
  ·rw [if_pos hd] at h;simp at h
theorem Su:∀(l:List Fm) (b:Bool) (n:Nat),PC b n l=true->∀f∈l,YT f=true∨Qbv f=true
 | [],b,n,h,f,hf=>by cases hf
 | g :: fs,b,n,h,f,hf=>by
  rw [PC] at h
  by_cases hd:YT g=true
  ·rw [if_pos hd] at h;cases b
   ·rcases Kl.1 hf with rfl | hf
    ·exact .inl hd
    ·exact Su fs true (n+1) (by simpa using h) f hf
   ·simp at h
  ·rw [if_neg hd] at h;split at h
   ·rename_i hs
    rcases Kl.1 hf with rfl | hf
    ·exact .inr hs
    ·exact Su fs false n h f hf
   ·cases h
theorem Qb4:∀(l:List Fm),(∀f∈l,∀d,(vrs ls f).length=(dps ls d f).length)->∀d,(Nv ls l).length=(Rt ls d l).length
 | [],_,d=>rfl
 | f :: fs,h,d=>by
  rw [Nv,Rt,QX,QX,h f (KF ..),Qb4 fs (fun g hg=>h g (Kh _ hg))]
theorem FN (p:Fm):∀d,(vrs ls p).length=(dps ls d p).length:=by
 induction p using Fm.ind with
 | h p ih =>
  intro d;rw [MZ,S6,QX,QX,Qb4 ls p.kids ih d];split<;>rfl
theorem Qb5:∀(l:List Fm),(∀f∈l,(vrs ls f).length<=f.nodes)->(Nv ls l).length<=VF ZW l
 | [],_=>Qt _
 | f :: fs,h=>by
  rw [Nv,QX,VF];have:=h f (KF ..);have:=Qb5 fs (fun g hg=>h g (Kh _ hg));omega
theorem BL (p:Fm):(vrs ls p).length<=p.nodes:=by
 induction p using Fm.ind with
 | h p ih =>
  rw [MZ,QX,Fm.Vr];have:=Qb5 ls p.kids ih;split<;>simp<;>omega
end
noncomputable def Qlw (ls:List Fm) (p:Fm) (rows:List (List Hit)):List Hit :=
 (Z6 (vrs ls p).length).map fun i=>.mk ((vrs ls p).getD i default) ((dps ls 0 p).getD i 0+1) Fm.zero (rows.map fun r=>r.getD i default)
def MM {α β:Type} (g:α->Option β):List α->Option (List β)
 | []=>some []
 | x :: l=>match g x with
  | none=>none
  | some y=>(MM g l).map (y :: ·)
section
variable (B:List Bnd) (ls:List Fm)
mutual
noncomputable def pm : Fm -> Fm -> Option (List Hit)
  | .mk k s n c ks, f =>
    if k = 1 then
      (if s = LY then some [] else if .mk k s n c ks ∈ ls then (if f.kind = 1 /\ OA B (.mk k s n c ks) f = true then some [] else none) else some [.mk (.mk k s n c ks) 0 f []])
    else if k = 2 then (if .mk k s n c ks = f then some [] else none)
    else if f.kind = 3 then
      (if ks.any YT = true then (if f.kids.length + 2 < ks.length then none else pmL ks f.kids (f.kids.length + 2 - ks.length))
       else if ks.length = f.kids.length then pmL ks f.kids 0 else none)
    else none
noncomputable def pmL : List Fm -> List Fm -> Nat -> Option (List Hit)
  | [], _, _ => some []
  | p :: ps, fs, n =>
    if YT p = true then pmL ps fs n
    else if Wo ps = true then
      (match MM (pm p) (fs.take n) with
       | none => none
       | some rows => (pmL ps (fs.drop n) n).map (Qlw ls p rows ++ ·))
    else match fs with
      | [] => none
      | f :: fs => match pm p f with
        | none => none
        | some hs => (pmL ps fs n).map (hs ++ ·)
end
end
theorem UZ (B:List Bnd) (ls:List Fm) (fs:List Fm) (n:Nat):pmL B ls [] fs n=some []:=by rw [pmL.eq_def]
theorem Sp (B : List Bnd) (ls : List Fm) (p : Fm) (ps fs : List Fm) (n : Nat) : pmL B ls (p :: ps) fs n = if YT p = true then pmL B ls ps fs n
    else if Wo ps = true then
      (match MM (pm B ls p) (fs.take n) with
       | none => none
       | some rows => (pmL B ls ps (fs.drop n) n).map (Qlw ls p rows ++ ·))
    else match fs with
      | [] => none
      | f :: fs => match pm B ls p f with
        | none => none
        | some hs => (pmL B ls ps fs n).map (hs ++ ·) := by rw [pmL.eq_def]
theorem Qn3 (B : List Bnd) (ls : List Fm) (p f : Fm) : pm B ls p f = if p.kind = 1 then
      (if p.name = LY then some [] else if p ∈ ls then (if f.kind = 1 /\ OA B p f = true then some [] else none) else some [.mk p 0 f []])
    else if p.kind = 2 then (if p = f then some [] else none)
    else if f.kind = 3 then
      (if p.kids.any YT = true then (if f.kids.length + 2 < p.kids.length then none else pmL B ls p.kids f.kids (f.kids.length + 2 - p.kids.length))
       else if p.kids.length = f.kids.length then pmL B ls p.kids f.kids 0 else none)
    else none := by cases p; rw [pm]; rfl
end Go.Proofs.Shadow
namespace Go.Proofs.Shadow
noncomputable def Qgu (H:List Hit) (f:Fm):Option Hit:=H.find? fun h=>decide (h.name=f)
noncomputable def D7 (H:List Hit) (f:Fm):Int:=if f.kind=1 then (match Qgu H f with | some h=>h.depth | none=>-1) else -1
mutual
noncomputable def Me (H:List Hit):Fm->Bool
 | .mk k s n c ks=>decide (0 < D7 H (.mk k s n c ks))||Qj9 H ks
noncomputable def Qj9 (H:List Hit):List Fm->Bool
 | []=>false
 | f :: fs=>Me H f||Qj9 H fs
end
def Ln (H:List Hit):List Hit:=H.map fun h=>.mk h.name (if 0 < h.depth then h.depth - 1 else h.depth) h.one []
mutual
noncomputable def Qh8:Fm->List Hit->Bool
 | .mk k s n c ks,H=>!(YT (.mk k s n c ks)||decide (0 < D7 H (.mk k s n c ks)))&&Qef true ks H
noncomputable def Qef:Bool->List Fm->List Hit->Bool
 | _,[],_=>true
 | b,t :: ts,H=>if YT t=true then !b&&Qef true ts H
  else if Wo ts=true then Me H t&&Qh8 t (Ln H)&&Qef false ts H
  else Qh8 t H&&Qef false ts H
end
noncomputable def LK (t x:Fm):Bool:=t.all.any fun g=>decide (g.kind=1)&&decide (g=x)
noncomputable def DD (t:Fm):List Hit->Int->Int
 | [],n=>n
 | h :: H,n=>if h.depth=0∨LK t h.name=false then DD t H n else if 0<=n/\n≠(h.many.length:Int) then -1 else DD t H h.many.length
noncomputable def Qnu (t:Fm) (n:Nat) (h:Hit):Hit:=if 0 < h.depth/\LK t h.name=true then h.many.getD n default else h
noncomputable def Qbi (t:Fm) (H:List Hit) (n:Nat):List Hit:=H.map (Qnu t n)
mutual
noncomputable def fl:Fm->List Hit->Option Fm
 | .mk k s n c ks,H =>
  match (if k=1 then Qgu H (.mk k s n c ks) else none) with
  | some h=>if h.depth=0 then some h.one else none
  | none=>match flL ks H with
   | none=>none
   | some out=>if VF ZW out<=400 then some (.mk k s n c out) else none
noncomputable def flL : List Fm -> List Hit -> Option (List Fm)
  | [], _ => some []
  | t :: ts, H =>
    if YT t = true then flL ts H
    else if Wo ts = true then
      (if DD t H (-1) < 0 then none
       else match MM (fun n => fl t (Qbi t H n)) (Z6 (DD t H (-1)).toNat) with
        | none => none
        | some ks => (flL ts H).map (ks ++ ·))
    else match fl t H with
      | none => none
      | some k => (flL ts H).map (k :: ·)
end
noncomputable def DW (p:Fm) (ls:List Fm):List Hit :=
 (Z6 (vrs ls p).length).map fun i=>.mk ((vrs ls p).getD i default) ((dps ls 0 p).getD i 0) (if (dps ls 0 p).getD i 0=0 then (vrs ls p).getD i default else Fm.zero) []
end Go.Proofs.Shadow
namespace Go.Proofs.SA
theorem FIs.mono:∀(d:Nat) (f:Fm),FIs d f->FIs (d+1) f:=by
 intro d
 induction d with
 | zero=>intro f h;exact h.elim
 | succ d ih =>
  intro f h
  rcases h with h | h | h
  ·exact .inl h
  ·exact .inr (.inl h)
  ·exact .inr (.inr ⟨h.1,h.2.1,h.2.2.1,h.2.2.2.1,fun k hk=>ih k (h.2.2.2.2 k hk)⟩)
theorem FIs.kid {d:Nat} {f k:Fm} (h:FIs (d+1) f) (hk:k∈f.kids):FIs d k:=by
 rcases h with h | h | h
 ·have:=Z4 hk;omega
 ·have:=Z4 hk;omega
 ·exact h.2.2.2.2 k hk
theorem Ip {f k:Fm} (hk:k∈f.kids):k.nodes+1<=f.nodes:=by
 rw [Fm.Vr f];have:=CO ZW f.kids k hk;omega
theorem BC (f:Fm):1<=f.nodes:=by rw [Fm.Vr];omega
theorem FV.kid {f k:Fm} (h:FV f) (hk:k∈f.kids):FV k:=⟨FIs.mono _ _ (FIs.kid h.1 hk),by have:=Ip hk;have:=h.2;omega⟩
theorem Jd:∀l:List Fm,l.length<=VF ZW l
 | []=>Qt _
 | f :: l=>by have:=Jd l;have:=BC f;rw [VF,ZR];omega
theorem FIs.sz:∀(d:Nat) (f:Fm),FIs d f->f.sz+1<=37 * f.nodes:=by
 intro d
 induction d with
 | zero=>intro f h;exact h.elim
 | succ d ih =>
  intro f h;rw [Fm.G6,Fm.Vr]
  have hsum:∀l:List Fm,(∀g∈l,FIs d g)->VF Fm.sz l+l.length<=37 * VF ZW l:=by
   intro l
   induction l with
   | nil=>intro _;exact Qt _
   | cons g l ihl =>
    intro hg;have h1:=ih g (hg g (KF ..));have h2:=ihl (fun x hx=>hg x (Kh _ hx));simp only [VF,ZR];omega
  rcases h with h | h | h
  ·obtain ⟨h1,h2,h3,h4,h5⟩:=h;have hk:f.kids=[]:=Kv h5
   have hn:f.name.size<=12:=by
    rcases h2 with h2 | h2 | h2
    ·rw [h2];decide
    ·rw [h2];decide
    ·exact h2.2.1
   have:=h4.1;rw [hk];simp [VF];omega
  ·obtain ⟨h1,h2,h3,h4,h5,h6⟩:=h;have hk:f.kids=[]:=Kv h6;rw [hk,h2,h5];have:(Qd #[]).size=0:=rfl;simp [VF,this]
  ·obtain ⟨h1,h2,h3,h4,h5⟩:=h;have:=hsum f.kids h5;rw [h2,h4];have:(Qd #[]).size=0:=rfl;omega
theorem FV.sz {f:Fm} (h:FV f):f.sz<=14800:=by have:=FIs.sz _ _ h.1;have:=h.2;omega
theorem FV.L9 {f:Fm} (h:FV f):f.kids.length<=399:=by have:=Jd f.kids;have:=Fm.Vr f;have:=h.2;omega
end Go.Proofs.SA
namespace Go.Proofs.Shadow
def Qj4 (n:Int):List Int->List Int
 | []=>[n]
 | x :: l=>if x > n then n :: x :: l else x :: Qj4 n l
def Qrk (l:List Int) (n:Int):List Int:=if n∈l then l else Qj4 n l
def U6 (l:List Int) (n:Int):List Int:=l.filter fun x=>decide (x≠n)
def chS (sc:List Int) (s way:Int):List Int:=if way=2∨(way=1/\s∈sc) then U6 sc s else Qrk sc s
mutual
def chg (s way:Int):Fm->Fm
 | .mk k n m sc ks=>.mk k n m (if k=1 then chS sc s way else sc) (Qrl s way ks)
def Qrl (s way:Int):List Fm->List Fm
 | []=>[]
 | f :: fs=>chg s way f :: Qrl s way fs
end
theorem Qfw (s way:Int):∀l,Qrl s way l=l.map (chg s way)
 | []=>rfl
 | f :: fs=>by rw [Qrl,Qfw s way fs];rfl
theorem Qfx (s way:Int) (f:Fm):chg s way f=.mk f.kind f.name f.num (if f.kind=1 then chS f.sc s way else f.sc) (f.kids.map (chg s way)):=by cases f;rw [chg,Qfw];rfl
theorem FX (s way:Int) (f:Fm):(chg s way f).nodes=f.nodes:=by
 induction f using Fm.ind with
 | h f ih =>
  rw [Fm.Vr,Fm.Vr f,Qfx]
  have:∀l:List Fm,(∀g∈l,(chg s way g).nodes=g.nodes)->VF ZW (l.map (chg s way))=VF ZW l:=by
   intro l
   induction l with
   | nil=>intro _;rfl
   | cons g l ihl=>intro h;rw [List.map_cons,VF,VF,h g (KF ..),ihl (fun x hx=>h x (Kh _ hx))]
  show 1+VF ZW (f.kids.map (chg s way))=_;rw [this _ ih]
theorem Qbq (n:Int):∀l,(Qj4 n l).length=l.length+1
 | []=>rfl
 | x :: l=>by unfold Qj4;split<;>simp [Qbq n l]
theorem Qmt (sc:List Int) (s way:Int):(chS sc s way).length<=sc.length+1:=by
 unfold chS Qrk U6;split
 ·exact Nat.le_trans (List.length_filter_le _ _) (Nat.le_succ _)
 ·split
  ·omega
  ·rw [Qbq];omega
theorem Qpm (s way:Int) (f:Fm):(chg s way f).sz<=f.sz+f.nodes:=by
 induction f using Fm.ind with
 | h f ih =>
  rw [Fm.G6,Fm.G6 f,Fm.Vr,Qfx]
  have:∀l:List Fm,(∀g∈l,(chg s way g).sz<=g.sz+g.nodes)->VF Fm.sz (l.map (chg s way))<=VF Fm.sz l+VF ZW l:=by
   intro l
   induction l with
   | nil=>intro _;exact Qt _
   | cons g l ihl =>
    intro h;have h1:=h g (KF ..);have h2:=ihl (fun x hx=>h x (Kh _ hx));simp only [List.map_cons,VF];omega
  have h1:=this _ ih;have h2:=Qmt f.sc s way;show f.name.size+(if f.kind=1 then chS f.sc s way else f.sc).length+(f.kids.map (chg s way)).length+VF Fm.sz (f.kids.map (chg s way))<=_;rw [List.length_map];split<;>omega
end Go.Proofs.Shadow
namespace Go.Proofs.Shadow
theorem ER {α β:Type} (F:Nat->List α->Option (β ⊕ Unit)) (p:α->Bool) (b:β) (hn:∀i,F i []=some (.inr ())):∀(l:List α) (i:Nat),(∀x∈l,∀i r,F i (x :: r)=if p x=true then some (.inl b) else F (i+1) r)->F i l=some (if l.any p=true then .inl b else .inr ()):=by
 intro l
 induction l with
 | nil=>intro i _;rw [hn];rfl
 | cons x l ih =>
  intro i hc;rw [hc x (KF ..),Z2];cases hp:p x
  ·rw [if_neg (by simp),ih _ (fun y hy=>hc y (Kh _ hy))];rfl
  ·rfl
theorem NX {α β:Type} (F:Nat->List α->Option (β ⊕ Unit)) (a:List α) (p:Nat->α->Bool) (b:β) (hn:∀i,F i []=some (.inr ())) (hc:∀(i:Nat) (hi:i < a.length) r,F i (a[i] :: r)=if p i a[i]=true then some (.inl b) else F (i+1) r) :
  (F 0 a=some (.inl b)/\∃i,∃hi:i < a.length,p i a[i]=true)∨(F 0 a=some (.inr ())/\∀i,∀hi:i < a.length,p i a[i]=false):=by
 have key:∀(n i:Nat),i+n=a.length->(F i (a.drop i)=some (.inl b)/\∃j,i<=j/\∃hj:j < a.length,p j a[j]=true)∨(F i (a.drop i)=some (.inr ())/\∀j,i<=j->∀hj:j < a.length,p j a[j]=false):=by
  intro n
  induction n with
  | zero=>intro i hi;right;rw [show i=a.length by omega,List.drop_length];exact ⟨hn _,fun j h1 h2=>by omega⟩
  | succ n ih =>
   intro i hi
   have hil:i < a.length:=by omega
   rw [ZL hil,hc i hil];cases hp:p i a[i]
   ·rw [if_neg (by simp)]
    rcases ih (i+1) (by omega) with ⟨h1,j,h2,h3,h4⟩ | ⟨h1,h2⟩
    ·exact .inl ⟨h1,j,by omega,h3,h4⟩
    ·refine .inr ⟨h1,fun j hj hjl=>?_⟩
     by_cases hji:j=i
     ·subst hji;exact hp
     ·exact h2 j (by omega) hjl
   ·exact .inl ⟨rfl,i,Qt _,hil,hp⟩
 rcases key a.length 0 (by omega) with ⟨h1,j,_,h3,h4⟩ | ⟨h1,h2⟩
 ·exact .inl ⟨h1,j,h3,h4⟩
 ·exact .inr ⟨h1,fun i hi=>h2 i (Q1 _) hi⟩
theorem Qe7 (l:List Int) (n:Int):(l.any fun x=>decide (x=n))=decide (n∈l):=by
 induction l with
 | nil=>rfl
 | cons x l ih =>
  rw [Z2,ih]
  by_cases h:x=n
  ·subst h;simp
  ·have h2:¬n=x:=fun e=>h e.symm;simp [h,h2]
end Go.Proofs.Shadow
namespace Go.Proofs.SA
abbrev Sm (n:Nat):Prop:=n<=1099511627776
theorem Tp (l:List Int) (n:Int) (h:Sm l.length):GG l n=some (decide (n∈l)):=by
 rw [GG,OF _ _ (by omega),ER (Iz l n) (fun x=>decide (x=n)) true (fun _=>rfl) l 0 (fun x _ i r=>by
  rw [Iz,Yf,X8];by_cases hx:x=n<;>simp [hx,Yf]),Qe7,X8]
 cases decide (n∈l)<;>rfl
theorem Ul (a b:List Int) (h:Sm a.length) (hb:Sm b.length):WL a b=some (SO a b):=by
 rw [WL,D2 _ _ (by omega),ER (WM a b) (fun x=>!decide (x∈b)) false (fun _=>rfl) a 0 (fun x _ i r=>by
  rw [WM,Yf,X8,Tp _ _ hb,X8];rfl),X8]
 have:SO a b=!(a.any fun x=>!decide (x∈b)):=by unfold SO;rw [List.all_eq_not_any_not]
 rw [this];cases (a.any fun x=>!decide (x∈b))<;>rfl
def BS (l:List Bnd):Prop:=Sm l.length/\∀b∈l,Sm b.sc.length
theorem Qc3 (l:List Bnd) (n:Fm) (h:BS l) (hn:Sm n.sc.length):Am l n=some (LS n 0 l):=by
 have key:∀(r:List Bnd) (z:List Int) (i:Nat),(∀b∈r,Sm b.sc.length)->z.length+r.length<=1099511627776->Wu l n z i r=some (z++LS n i r):=by
  intro r
  induction r with
  | nil=>intro z i _ _;rw [Wu,Yf];simp [LS]
  | cons b r ih =>
   intro z i hb hz;simp only [ZR] at hz;have hb':=fun x hx=>hb x (Kh b hx);rw [Wu,LS,Yf,X8]
   by_cases hnm:b.name=n.name
   ·rw [if_pos hnm];simp only [X8,Ul _ _ (hb b (KF ..)) hn,Yf];cases hs:SO b.sc n.sc
    ·rw [if_neg (by simp),ih z (i+1) hb' (by omega),if_neg (by simp)]
    ·rw [if_pos rfl,Y6 (by simp;omega),X8,ih _ (i+1) hb' (by simp;omega),if_pos ⟨hnm,rfl⟩,QD];rfl
   ·rw [if_neg hnm];simp only [Yf,X8];rw [if_neg (by simp),ih z (i+1) hb' (by omega),if_neg (by simp [hnm])]
 rw [Am,FI _ _ _ (by have:=h.1;omega),key l [] 0 h.2 (by have:=h.1;simp;omega)];rfl
theorem CG {α:Type} [Inhabited α] {l:List α} {i:Int} (h0:0<=i) (h:i < l.length):idx l i=some (l.getD i.toNat default):=by
 rw [UL l i h0 h,Qy,Qj (by omega)];rfl
theorem R9 (l:List Bnd) (n:Fm) (h:BS l) (hn:Sm n.sc.length):Au l n=some (findF l n):=by
 have hr:=Di n l 0;have hlen:=Sb n l 0;rw [Au,Qc3 l n h hn,X8,findF];have hL:=h.1;generalize hx:LS n 0 l=X at hr hlen
 have sm:∀i,Sm (PB l i).length:=fun i=>by
  unfold PB;rw [Qy]
  cases hg:l[i.toNat]? with
  | none=>decide
  | some b=>exact h.2 b (List.mem_of_getElem? hg)
 have inner:∀(i:Nat) (hi:i < X.length) (r:List Int) (b:Bool) (j:Nat),(∀k∈r,k∈X)->GR l n X (i:Int) b j r=some (b&&r.all fun k=>SO (PB l k) (PB l X[i])):=by
  intro i hi r;have h1:=hr X[i] (ZU hi)
  induction r with
  | nil=>intro b j _;rw [GR,Yf];simp
  | cons k r ih =>
   intro b j hk;have h2:=hr k (hk k (KF ..));have hs:=Ul _ _ (sm k) (sm X[i]);unfold PB at hs;rw [GR,Yk X i hi];cases b
   ·simp only [Qo,if_false,Yf,X8];rw [ih _ _ (fun x hx=>hk x (Kh _ hx))];rfl
   ·simp only [if_true,Yf,X8,CG (l:=l) (i:=k) (by omega) (by omega),CG (l:=l) (i:=X[i]) (by omega) (by omega),hs];rw [ih _ _ (fun x hx=>hk x (Kh _ hx)),List.all_cons];unfold PB;simp
 have outer:∀(m i:Nat),i+m=X.length->HT l n X i (X.drop i)=some (match (X.drop i).find? (Qec l X) with | some k=>Sum.inl (k,1) | none=>Sum.inr ()):=by
  intro m
  induction m with
  | zero=>intro i hi;rw [show i=X.length by omega,List.drop_length];rfl
  | succ m ihm =>
   intro i hi
   have hil:i < X.length:=by omega
   rw [ZL hil,HT,Ng _ _ _ _ _ (by omega),inner i hil X true 0 (fun _ hk=>hk),X8,List.find?_cons]
   have hb:Qec l X X[i]=(true&&X.all fun k=>SO (PB l k) (PB l X[i])):=by rw [Bool.true_and];rfl
   rw [hb];cases (true&&X.all fun k=>SO (PB l k) (PB l X[i]))
   ·rw [if_neg (by simp),ihm (i+1) (by omega)]
   ·rw [if_pos rfl,Yf,X8];rfl
 have:=outer X.length 0 (by omega);rw [List.drop_zero] at this;rw [Nf _ _ _ (by omega),this,X8]
 cases hf:X.find? (Qec l X) with
 | some k=>rfl
 | none =>
  simp only
  by_cases h0:X.length=0
  ·rw [if_neg (by omega),if_pos h0];rfl
  ·rw [if_pos (by omega),if_neg h0];rfl
theorem Qkc (l:List Bnd) (a b:Fm) (h:BS l) (ha:Sm a.sc.length) (hb:Sm b.sc.length):Ck l a b=some (OA l a b):=by
 rw [Ck,R9 l a h ha,R9 l b h hb,X8,X8,OA];have ra:=@DG l a;have rb:=@DG l b
 have ha3:(findF l a).2=0∨(findF l a).2=1∨(findF l a).2=2:=by
  unfold findF;split
  ·exact .inr (.inl rfl)
  ·split
   ·exact .inl rfl
   ·exact .inr (.inr rfl)
 generalize findF l a=x at *;generalize findF l b=y at *;obtain ⟨x1,x2⟩:=x;obtain ⟨y1,y2⟩:=y;simp only at ra rb ha3 ⊢
 by_cases h1:x2=y2
 ·subst h1
  rcases ha3 with h | h | h
  ·subst h;rfl
  ·subst h;have q1:=ra rfl;have q2:=rb rfl;rw [Yf,X8,if_neg (by simp),if_neg (by simp),CG (l:=l) q1.1 q1.2,CG (l:=l) q2.1 q2.2,X8,X8];rfl
  ·subst h;rfl
 ·rw [Yf,X8,if_pos (by simp [h1]),if_pos (.inl h1)];rfl
end Go.Proofs.SA
namespace Go.Proofs.SA
theorem Sh (a b:List Int) (h:Sm a.length):Bl a b=some (decide (a=b)):=by
 rw [Bl]
 by_cases hl:a.length=b.length
 ·rw [if_pos (by omega),M9 _ _ (by omega)]
  rcases NX (HR a b) a (fun i x=>!decide (some x=b[i]?)) false (fun _=>rfl) (fun i hi r=>by
   rw [HR,Yf,X8,Yk b i (by omega),X8];have:b[i]?=some b[i]:=Qj _
   by_cases hx:a[i]=b[i]<;>simp [hx,this,Yf]) with ⟨h1,i,hi,hp⟩ | ⟨h1,hp⟩
  ·rw [h1,X8,decide_eq_false];rfl;rintro rfl;simp at hp
  ·rw [h1,X8,decide_eq_true];rfl;apply KC;intro i
   by_cases hi:i < a.length
   ·have:=hp i hi;rw [Qj hi];simpa using this
   ·rw [Q6 (by omega),Q6 (by omega)]
 ·rw [if_neg (by omega),decide_eq_false (fun h=>hl (by rw [h]))];rfl
def bOk (b:Bnd):Prop:=NV b.name/\SV b.sc/\1<=b.id/\b.id<=999
def bEq (a b:Bnd):Prop:=a.name=b.name/\a.sc=b.sc
def BV (l:List Bnd):Prop:=l.length<=60/\(∀b∈l,bOk b)/\l.Pairwise fun a b=>¬bEq a b
theorem SV.len {l:List Int} (h:SV l):l.length<=24:=h.1
theorem BV.bs {l:List Bnd} (h:BV l):BS l:=⟨by have:=h.1;unfold Sm;omega,fun b hb=>by have:=(h.2.1 b hb).2.1.len;unfold Sm;omega⟩
theorem bv1 {l:List Bnd} (hs:BS l) {j:Nat} (hj:j < l.length):∀(n k:Nat),k+n=j->Tot (Wq l j k) fun o=>match o with | .inl r=>r=false/\∃k',∃h:k' < j,bEq l[k'] l[j] | .inr _=>∀k',k<=k'->∀h:k' < j,¬bEq l[k'] l[j]:=by
 intro n
 induction n with
 | zero=>intro k hk;rw [Wq,if_neg (by omega)];exact ⟨_,rfl,fun k' h1 h2=>by omega⟩
 | succ n ih =>
  intro k hk;rw [Wq,if_pos (by omega),Yk l k (by omega),Yk l j hj];simp only [X8];have w:=VV (i:=k) (by have:=hs.1;unfold Sm at this;omega);have hi:=Sh l[k].sc l[j].sc (hs.2 _ (ZU _))
  by_cases h1:l[k].name=l[j].name
  ·rw [if_pos h1];simp only [hi,Yf,X8,w]
   by_cases h2:l[k].sc=l[j].sc
   ·rw [if_pos (by simp [h2])];exact ⟨_,rfl,rfl,k,by omega,h1,h2⟩
   ·rw [if_neg (by simp [h2])];refine (ih (k+1) (by omega)).mono fun o ho=>?_
    cases o with
    | inl r=>exact ho
    | inr u =>
     exact fun k' h3 h4=>by
      by_cases hk':k'=k
      ·subst hk';exact fun h5=>h2 h5.2
      ·exact ho k' (by omega) h4
  ·rw [if_neg h1];simp only [Yf,X8,w,Qo,if_false];refine (ih (k+1) (by omega)).mono fun o ho=>?_
   cases o with
   | inl r=>exact ho
   | inr u =>
    exact fun k' h3 h4=>by
     by_cases hk':k'=k
     ·subst hk';exact fun h5=>h1 h5.1
     ·exact ho k' (by omega) h4
theorem bv0 {l:List Bnd} (hs:BS l):∀(n j:Nat),j+n=61->Tot (Wp l j) fun o=>match o with | .inl r=>r=false/\∃j',∃h:j' < l.length,¬(bOk l[j']/\∀k',∀h2:k' < j',¬bEq l[k'] l[j']) | .inr _=>∀j',j<=j'->j'<=60->∀h:j' < l.length,bOk l[j']/\∀k',∀h2:k' < j',¬bEq l[k'] l[j']:=by
 intro n
 induction n with
 | zero=>intro j hj;rw [Wp,Yf,X8,if_neg (by simp;omega)];exact ⟨_,rfl,fun j' h1 h2=>by omega⟩
 | succ n ih =>
  intro j hj;rw [Wp,Yf,X8]
  by_cases hjl:j < l.length
  rotate_left
  ·rw [if_neg (by simp;omega)];exact ⟨_,rfl,fun j' h1 h2 h3=>by omega⟩
  rw [if_pos (by simp;omega),Yk l j hjl];simp only [X8];refine ZN (US _) fun b1 hb1=>?_
  have bad:¬bOk l[j]->Tot (pure (Sum.inl false):Option (Bool ⊕ Unit)) fun o=>match o with | .inl r=>r=false/\∃j',∃h:j' < l.length,¬(bOk l[j']/\∀k',∀h2:k' < j',¬bEq l[k'] l[j']) | .inr _=>∀j',j<=j'->j'<=60->∀h:j' < l.length,bOk l[j']/\∀k',∀h2:k' < j',¬bEq l[k'] l[j']:=fun h=>⟨_,rfl,rfl,j,hjl,fun h2=>h h2.1⟩
  cases b1
  ·simp only [ZZ,if_true,Yf,X8]
   exact bad fun h=>by have:=hb1.2 h.1;cases this
  simp only [Z0,Qo,if_false];obtain ⟨b2,e2,hb2⟩:=Qhu l[j].sc;rw [e2];simp only [Yf,X8];cases b2
  ·simp only [ZZ,if_true,Yf,X8]
   exact bad fun h=>by have:=hb2.2 h.2.1;cases this
  simp only [Z0,Qo,if_false,Yf,X8]
  by_cases h3:l[j].id < 1
  ·simp only [h3,decide_true,if_true,Yf,X8]
   exact bad fun h=>by have:=h.2.2.1;omega
  simp only [h3,decide_false,Qo,if_false,Yf,X8]
  by_cases h4:l[j].id > 999
  ·simp only [h4,decide_true,if_true]
   exact bad fun h=>by have:=h.2.2.2;omega
  simp only [h4,decide_false,Qo,if_false];have hok:bOk l[j]:=⟨hb1.1 rfl,hb2.1 rfl,by omega,by omega⟩;refine ZN (bv1 hs hjl j 0 (by omega)) fun o ho=>?_
  cases o with
  | inl r=>exact ⟨_,rfl,ho.1,j,hjl,fun h=>by obtain ⟨k',h5,h6⟩:=ho.2;exact h.2 k' h5 h6⟩
  | inr u =>
   simp only [VV (i:=j) (by omega)];refine (ih (j+1) (by omega)).mono fun o ho2=>?_
   cases o with
   | inl r=>exact ho2
   | inr u =>
    exact fun j' h5 h6 h7=>by
     by_cases hj':j'=j
     ·subst hj';exact ⟨hok,fun k' h8=>ho k' (Q1 _) h8⟩
     ·exact ho2 j' (by omega) h6 h7
theorem B3 {l:List Bnd} (hs:BS l):Tot (GO l) fun b=>b=true↔BV l:=by
 rw [GO];refine ZN (bv0 hs 61 0 (by omega)) fun o ho=>?_
 cases o with
 | inl r =>
  obtain ⟨h0,j,hj,hn⟩:=ho;subst h0;refine ⟨_,rfl,fun h=>(by cases h),fun h=>absurd ⟨h.2.1 _ (ZU hj),fun k' h2=>?_⟩ hn⟩;exact Kp.1 h.2.2 k' j (by omega) hj h2
 | inr u =>
  refine ⟨_,rfl,?_⟩;simp only [decide_eq_true_iff];constructor
  ·intro hl;refine ⟨by omega,fun b hb=>?_,Kp.2 fun i j hi hj hij=>(ho j (Q1 _) (by omega) hj).2 i hij⟩;obtain ⟨i,hi,rfl⟩:=Z1.1 hb;exact (ho i (Q1 _) (by omega) hi).1
  ·intro h;have:=h.1;omega
theorem Qbd {f:Fm} (hf:f.sz < 1000000000):Tot (Du f) fun b=>b=true↔f.kind=1/\FV f:=by
 rw [Du]
 by_cases h:f.kind=1
 ·rw [if_pos h];refine ZN (ZN (Ao hf) fun b hb=>⟨b,rfl,hb⟩) fun b hb=>⟨b,rfl,?_⟩;simp only [hb,h,true_and]
 ·rw [if_neg h];refine ⟨false,rfl,?_⟩;simp [h]
theorem RX (l:List Bnd) (h:BS l) (h2:l.length<=1000000):JB l=some l:=by
 rw [JB,FH _ _ (by omega),BR (JW l) id (fun _ _=>rfl) l [] 0 (fun x hx z i r hz=>by
  have:=h.2 x hx;unfold Sm at this
  rw [JW,Yf,X8,Y6 (by simp;omega),X8,Y6 (by simp;omega),X8];rfl) (by simp;omega)]
 simp [X8,Yf]
theorem SS {l:List Bnd} (hs:BS l) (h2:l.length<=1000000) {f:Fm} (hf:f.sz < 1000000000) (id:Int):Tot (BD l f id) fun r=>(r.2=true/\r.1=l++[⟨f.name,f.sc,id⟩]/\f.kind=1/\FV f/\BV l/\BV (l++[⟨f.name,f.sc,id⟩]))∨(r.2=false/\r.1=[]/\¬(f.kind=1/\FV f/\BV l/\BV (l++[⟨f.name,f.sc,id⟩]))):=by
 have hz:=Fm.TZ f;rw [BD];refine ZN (B3 hs) fun b hb=>?_;cases b
 ·simp only [ZZ,if_true,Yf,X8];exact ⟨_,rfl,.inr ⟨rfl,rfl,fun h=>by have:=hb.2 h.2.2.1;cases this⟩⟩
 simp only [Z0,Qo,if_false];obtain ⟨b2,e2,hb2⟩:=Qbd hf;rw [e2];simp only [Yf,X8];cases b2
 ·simp only [ZZ,if_true];exact ⟨_,rfl,.inr ⟨rfl,rfl,fun h=>by have:=hb2.2 ⟨h.1,h.2.1⟩;cases this⟩⟩
 simp only [Z0,Qo,if_false];rw [RX l hs h2,X8,Y6 (by simp;omega),X8,Y6 (by simp;omega),X8];simp only [QU]
 have hs':BS (l++[⟨f.name,f.sc,id⟩]):=⟨by simp only [QX,ZR,ZQ];unfold Sm;omega,fun b hb=>by
  rcases List.mem_append.1 hb with h | h
  ·exact hs.2 b h
  ·rw [List.mem_singleton.1 h];show f.sc.length<=_;omega⟩
 obtain ⟨b3,e3,hb3⟩:=B3 hs';rw [e3,X8];cases b3
 ·simp only [ZZ,if_true];exact ⟨_,rfl,.inr ⟨rfl,rfl,fun h=>by have:=hb3.2 h.2.2.2;cases this⟩⟩
 ·simp only [Z0,Qo,if_false];exact ⟨_,rfl,.inl ⟨rfl,rfl,(hb2.1 rfl).1,(hb2.1 rfl).2,hb.1 rfl,hb3.1 rfl⟩⟩
theorem Qb2 (l:List Int) (n:Int) (h:l.length<=1000000):Bm l n=some (U6 l n):=by
 have key:∀(r z:List Int) (i:Nat),z.length+r.length<=1000000->JO l n z i r=some (z++U6 r n):=by
  intro r
  induction r with
  | nil=>intro z i _;rw [JO,Yf];simp [U6]
  | cons x r ih =>
   intro z i hz;simp only [ZR] at hz;rw [JO,Yf,X8]
   by_cases hx:x=n
   ·rw [if_pos hx,ih _ _ (by omega)];simp [U6,hx]
   ·rw [if_neg hx,X8,Y6 (by simp;omega),X8,ih _ _ (by simp;omega)];simp [U6,hx]
 rw [Bm,Nd _ _ _ (by omega),key l [] 0 (by simp;omega)];rfl
theorem Qha (l:List Int) (n:Int) (h:l.length<=1000000):B0 l n=some (Qrk l n):=by
 have key:∀(r z:List Int) (b:Bool) (i:Nat),z.length+r.length+(if b=true then 0 else 1)<=1000002->Hx l n z b i r=some (if b=true then (z++r,true) else if r.any (fun x=>decide (x > n))=true then (z++Qj4 n r,true) else (z++r,false)):=by
  intro r
  induction r with
  | nil=>intro z b i _;rw [Hx,Yf];cases b<;>simp
  | cons x r ih =>
   intro z b i hz;simp only [ZR] at hz;rw [Hx];cases b
   ·rw [if_neg (by simp)] at hz;simp only [ZZ,if_true,Yf,X8,Qo,if_false,Z2,Bool.or_eq_true,decide_eq_true_eq]
    by_cases hx:x > n
    ·rw [if_pos hx,Y6 (by simp only [QX,ZR,ZQ];omega)];simp only [X8];rw [Y6 (by simp;omega)];simp only [X8];rw [ih _ true _ (by simp;omega),if_pos rfl,if_pos (.inl hx),Qj4,if_pos hx]
     simp
    ·rw [if_neg hx];simp only [X8];rw [Y6 (by simp;omega)];simp only [X8];rw [ih _ false _ (by simp;omega),if_neg (by simp),Qj4,if_neg hx]
     have e:(x > n∨(r.any fun x=>decide (x > n))=true)↔(r.any fun x=>decide (x > n))=true:=by simp [hx]
     simp only [QD,List.singleton_append]
     by_cases hr:(r.any fun x=>decide (x > n))=true
     ·rw [if_pos hr,if_pos (e.2 hr)]
     ·rw [if_neg hr,if_neg (fun h=>hr (e.1 h))]
   ·rw [if_pos rfl] at hz;simp only [Z0,Qo,if_false,Yf,X8,if_true];rw [Y6 (by simp;omega)];simp only [X8];rw [ih _ true _ (by simp;omega),if_pos rfl]
    simp
 have tail:∀r:List Int,(r.any fun x=>decide (x > n))=false->Qj4 n r=r++[n]:=by
  intro r
  induction r with
  | nil=>intro _;rfl
  | cons x r ih =>
   intro hr;rw [Z2,Bool.or_eq_false_iff] at hr;rw [Qj4,if_neg (by simpa using hr.1),ih hr.2];rfl
 rw [B0,Tp _ _ (by unfold Sm;omega),X8,OG _ _ _ _ (by omega),key l [] _ 0 (by simp only [ZQ];split<;>omega),X8,Qrk]
 by_cases hm:n∈l
 ·simp [hm,Yf]
 ·simp only [hm,decide_false,Qo,if_false,QU]
  by_cases hr:(l.any fun x=>decide (x > n))=true
  ·rw [if_pos hr];rfl
  ·rw [if_neg hr];simp only [ZZ,if_true];rw [Y6 (by simp;omega),tail l (by simpa using hr)];rfl
theorem B4 (s w:Int):∀f:Fm,f.sz<=1000000->VI f s w=some (chg s w f):=by
 intro f
 induction f using Fm.ind with
 | h f ih =>
  intro hf;have hz:=Fm.G6 f
  have hS:(if f.kind=1 then
   (((if w=2 then pure true else ((if w=1 then (GG f.sc s>>=fun x32=>pure x32) else pure false:Option Bool)>>=fun x33=>pure x33):Option Bool))>>=fun x34 =>
    if x34=true then (Bm f.sc s>>=fun x38=>pure x38) else (B0 f.sc s>>=fun x43=>pure x43)) else pure f.sc:Option (List Int))=some (if f.kind=1 then chS f.sc s w else f.sc):=by
   by_cases h1:f.kind=1
   ·rw [if_pos h1,if_pos h1,chS]
    by_cases h2:w=2
    ·simp [h2,Yf,X8,Qb2 f.sc s (by omega)]
    ·by_cases h3:w=1
     ·subst h3;simp only [h2,if_false,if_true,Tp _ _ (show Sm f.sc.length by unfold Sm;omega),Yf,X8,false_or,true_and]
      by_cases h4:s∈f.sc
      ·simp [h4,Qb2 f.sc s (by omega),X8]
      ·simp [h4,Qha f.sc s (by omega),X8]
     ·simp [h2,h3,Yf,X8,Qha f.sc s (by omega)]
   ·rw [if_neg h1,if_neg h1];rfl
  rw [VI,Y6 (by simp;omega),X8,QU,hS,X8,Lz _ _ _ _ _ (by omega),
   BR (GF f s w _) (chg s w) (fun _ _=>rfl) f.kids [] 0 (fun x hx z i r hzb=>by
    have:=Fm.J7 hx
    rw [GF,Yf,X8,ih x hx (by omega),X8,Y6 (by simp;omega),X8]) (by simp;omega),X8,Qfx]
  simp [Yf]
end Go.Proofs.SA
open Go.IntKind (i64)
namespace Go.Proofs.SA
theorem Fm.ext_iff {a b:Fm} : a=b↔a.kind=b.kind/\a.name=b.name/\a.num=b.num/\a.sc=b.sc/\a.kids=b.kids:=by
 cases a;cases b;simp [Fm.kind,Fm.name,Fm.num,Fm.sc,Fm.kids]
theorem EX:∀a:Fm,a.sz<=1000000->∀b:Fm,VH a b=some (decide (a=b)):=by
 intro a
 induction a using Fm.ind with
 | h a ih =>
  intro ha b;have hz:=Fm.G6 a
  have hd:∀(P:Prop) [Decidable P],(a=b↔P)->decide (a=b)=decide P:=fun P _ h=>by simp only [h]
  rw [VH]
  by_cases h1:a.kind=b.kind
  rotate_left
  ·rw [decide_eq_false (fun h=>h1 (Fm.ext_iff.1 h).1)];simp [h1,Yf,X8]
  by_cases h2:a.name=b.name
  rotate_left
  ·rw [decide_eq_false (fun h=>h2 (Fm.ext_iff.1 h).2.1)];simp [h1,h2,Yf,X8]
  by_cases h3:a.num=b.num
  rotate_left
  ·rw [decide_eq_false (fun h=>h3 (Fm.ext_iff.1 h).2.2.1)];simp [h1,h2,h3,Yf,X8]
  by_cases h4:a.sc=b.sc
  rotate_left
  ·rw [decide_eq_false (fun h=>h4 (Fm.ext_iff.1 h).2.2.2.1)];simp [h1,h2,h3,h4,Yf,X8,Sh a.sc b.sc (by unfold Sm;omega)]
  by_cases h5:a.kids.length=b.kids.length
  rotate_left
  ·rw [show decide (a=b)=false from decide_eq_false (fun h=>h5 (by rw [h]))]
   have:¬(a.kids.length:Int)=(b.kids.length:Int):=by omega
   simp [h1,h2,h3,h4,h5,this,Yf,X8,Sh b.sc b.sc (by rw [← h4];unfold Sm;omega)]
  have h6:(a.kids.length:Int)=(b.kids.length:Int):=by omega
  simp only [h1,h2,h3,h4,h6,decide_true,Z0,Bool.or_false,Yf,X8,Qo,if_false,Sh b.sc b.sc (show Sm b.sc.length by rw [← h4];unfold Sm;omega)];rw [Lw _ _ (by omega)]
  rcases NX (GD a b) a.kids (fun i x=>!decide (some x=b.kids[i]?)) false (fun _=>rfl) (fun i hi r=>by
   have hm:a.kids[i]∈a.kids:=ZU hi;have:=Fm.J7 hm;rw [GD,Yf,X8,Yk b.kids i (by omega),X8,ih _ hm (by omega),X8];have hg:b.kids[i]?=some (b.kids[i]'(by omega)):=Qj _;rw [hg];simp only [Option.some.injEq]
   by_cases hx:a.kids[i]=b.kids[i]<;>simp [hx,Yf]) with ⟨h7,i,hi,hp⟩ | ⟨h7,hp⟩
  ·have e:decide (a=b)=false:=decide_eq_false (fun h=>by
    have h8:some a.kids[i]=b.kids[i]?:=by rw [← h];exact (Qj hi).symm
    rw [decide_eq_true h8] at hp
    cases hp)
   rw [h7,e];rfl
  ·have e:decide (a=b)=true:=decide_eq_true ?_
   ·rw [h7,e];rfl
   refine Fm.ext_iff.2 ⟨h1,h2,h3,h4,KC fun i=>?_⟩
   by_cases hi:i < a.kids.length
   ·have:=hp i hi;rw [Qj hi];simpa using this
   ·rw [Q6 (by omega),Q6 (by omega)]
def FS (l:List Fm):Prop:=Sm l.length/\∀f∈l,f.sz<=1000000
theorem Qbc (l:List Fm) (f:Fm) (h:FS l):A2 l f=some (decide (f∈l)):=by
 have:∀l:List Fm,(l.any fun x=>decide (x=f))=decide (f∈l):=by
  intro l
  induction l with
  | nil=>rfl
  | cons x l ih =>
   rw [Z2,ih]
   by_cases h:x=f
   ·subst h;simp
   ·have h2:¬f=x:=fun e=>h e.symm;simp [h,h2]
 rw [A2,PL _ _ (by have:=h.1;omega),ER (I4 l f) (fun x=>decide (x=f)) true (fun _=>rfl) l 0 (fun x hx i r=>by
  rw [I4,Yf,X8,EX x (h.2 x hx),X8];rfl),this,X8]
 cases decide (f∈l)<;>rfl
theorem CR (f:Fm):Vi f=some (YT f):=rfl
def Qal (l:List Fm):Prop:=l.length < 10/\(∀x∈l,x.kind=1/\FV x/\x.name≠BT/\x.name≠LY)/\l.Nodup
theorem AD {α:Type} {l:List α} : l.Nodup↔∀i,∀h:i < l.length,l[i]∉l.take i:=by
 rw [List.Nodup,Kp];constructor
 ·intro h i hi hm;obtain ⟨j,hj,e⟩:=Z1.1 hm;rw [Z3] at hj;rw [Z5] at e;exact h j i (by omega) hi (by omega) e
 ·intro h i j hi hj hij e;refine h j hj (Z1.2 ⟨i,by rw [Z3];omega,?_⟩);rw [Z5];exact e
theorem B9 {α:Type} (l:List α) (i:Nat) (h:i<=l.length):Lp l 0 (i:Int)=some (l.take i):=by
 unfold Lp;rw [if_pos ⟨by omega,by omega,by omega⟩]
 simp
theorem Qsm {l:List Fm} (hs:FS l):∀(n i:Nat),i+n=10->Tot (Wv l i) fun o=>match o with
  | .inl r=>r=false/\∃j,∃h:j < l.length,¬((l[j].kind=1/\FV l[j]/\l[j].name≠BT/\l[j].name≠LY)/\l[j]∉l.take j)
  | .inr _=>∀j,i<=j->j < 10->∀h:j < l.length,(l[j].kind=1/\FV l[j]/\l[j].name≠BT/\l[j].name≠LY)/\l[j]∉l.take j:=by
 intro n
 induction n with
 | zero=>intro i hi;rw [Wv,Yf,X8,if_neg (by simp;omega)];exact ⟨_,rfl,fun j h1 h2=>by omega⟩
 | succ n ih =>
  intro i hi;rw [Wv,Yf,X8]
  by_cases hil:i < l.length
  rotate_left
  ·rw [if_neg (by simp;omega)];exact ⟨_,rfl,fun j h1 h2 h3=>by omega⟩
  rw [if_pos (by simp;omega),Yk l i hil];simp only [X8];have hm:l[i]∈l:=ZU hil
  have bad:¬((l[i].kind=1/\FV l[i]/\l[i].name≠BT/\l[i].name≠LY)/\l[i]∉l.take i)->Tot (pure (Sum.inl false):Option (Bool ⊕ Unit)) fun o=>match o with
   | .inl r=>r=false/\∃j,∃h:j < l.length,¬((l[j].kind=1/\FV l[j]/\l[j].name≠BT/\l[j].name≠LY)/\l[j]∉l.take j)
   | .inr _=>∀j,i<=j->j < 10->∀h:j < l.length,(l[j].kind=1/\FV l[j]/\l[j].name≠BT/\l[j].name≠LY)/\l[j]∉l.take j:=fun h=>⟨_,rfl,rfl,i,hil,h⟩
  obtain ⟨b1,e1,hb1⟩:=Qbd (f:=l[i]) (by have:=hs.2 _ hm;omega);rw [e1,X8];cases b1
  ·simp only [ZZ,if_true,Yf,X8]
   exact bad fun h=>by have:=hb1.2 ⟨h.1.1,h.1.2.1⟩;cases this
  simp only [Z0,Qo,if_false,Yf,X8];have hb:=hb1.1 rfl
  by_cases h2:l[i].name=BT
  ·have h2':=h2;unfold BT at h2';simp only [h2',decide_true,if_true,Yf,X8];exact bad fun h=>h.1.2.2.1 h2
  have h2':=h2;unfold BT at h2';simp only [h2',decide_false,Qo,if_false,Yf,X8]
  by_cases h3:l[i].name=LY
  ·have h3':=h3;unfold LY at h3';simp only [h3',decide_true,if_true,Yf,X8];exact bad fun h=>h.1.2.2.2 h3
  have h3':=h3;unfold LY at h3';simp only [h3',decide_false,Qo,if_false,Yf,X8,B9 l i (by omega)];rw [Qbc (l.take i) l[i] ⟨by have:=hs.1;unfold Sm at *;rw [Z3];omega,fun f hf=>hs.2 f (List.mem_of_mem_take hf)⟩,X8];simp only [X8]
  by_cases h4:l[i]∈l.take i
  ·simp only [h4,decide_true,if_true];exact bad fun h=>h.2 h4
  simp only [h4,decide_false,Qo,if_false,VV (i:=i) (by omega)];refine (ih (i+1) (by omega)).mono fun o ho=>?_
  cases o with
  | inl r=>exact ho
  | inr u =>
   exact fun j h5 h6 h7=>by
    by_cases hj:j=i
    ·subst hj;exact ⟨⟨hb.1,hb.2,h2,h3⟩,h4⟩
    ·exact ho j (by omega) h6 h7
theorem Lo {l:List Fm} (hs:FS l):Tot (HV l) fun b=>b=true↔Qal l:=by
 rw [HV];refine ZN (Qsm hs 10 0 (by omega)) fun o ho=>?_
 cases o with
 | inl r =>
  obtain ⟨h0,j,hj,hn⟩:=ho;subst h0;exact ⟨_,rfl,fun h=>(by cases h),fun h=>absurd ⟨h.2.1 _ (ZU hj),AD.1 h.2.2 j hj⟩ hn⟩
 | inr u =>
  refine ⟨_,rfl,?_⟩;simp only [decide_eq_true_iff];constructor
  ·intro hl;refine ⟨by omega,fun b hb=>?_,AD.2 fun i hi=>(ho i (Q1 _) (by omega) hi).2⟩;obtain ⟨i,hi,rfl⟩:=Z1.1 hb;exact (ho i (Q1 _) (by omega) hi).1
  ·intro h;have:=h.1;omega
theorem Qhj:∀p:Fm,p.sz<=1000000->H5 p=some (Qbv p):=by
 intro p
 induction p using Fm.ind with
 | h p ih =>
  intro hp;have hz:=Fm.G6 p
  have loop:∀(r:List Fm) (i:Nat) (n:Nat) (b:Bool),p.kids.drop i=r->n<=i->(b=true↔i=0∨∃h:i - 1 < p.kids.length,0 < i/\YT p.kids[i - 1]=true) ->
    Tot (J1 p (n:Int) i r) fun o=>match o with | .inl r'=>r'=false/\PC b n r=false | .inr m=>decide (m<=1)=PC b n r:=by
   intro r
   induction r with
   | nil=>intro i n b _ _ _;exact ⟨_,rfl,by rw [PC];by_cases h:n<=1<;>simp [h]<;>omega⟩
   | cons f r ihr =>
    intro i n b hd hn hb
    have hi:i < p.kids.length:=by
     rcases Nat.lt_or_ge i p.kids.length with h | h
     ·exact h
     ·rw [List.drop_of_length_le h] at hd;cases hd
    rw [ZL hi] at hd
    injection hd with e1 e2
    have hm:f∈p.kids:=e1▸ZU hi;rw [J1,PC,Yf,X8,CR,X8]
    have hb2:∀b',b'=YT f->(b'=true↔i+1=0∨∃h:i+1 - 1 < p.kids.length,0 < i+1/\YT p.kids[i+1 - 1]=true):=by
     rintro b' rfl;simp only [Nat.add_sub_cancel];constructor
     ·intro h;exact .inr ⟨hi,by omega,by rw [e1];exact h⟩
     ·rintro (h | ⟨_,_,h⟩)
      ·omega
      ·rw [e1] at h;exact h
    cases hf:YT f
    ·simp only [Qo,if_false];have hk:=Fm.J7 hm;rw [X8,ih f hm (by omega),X8];cases hs:Qbv f
     ·simp only [ZZ,if_true,Qo,if_false];exact ⟨_,rfl,by simp⟩
     ·simp only [Z0,Qo,if_false,if_true];exact ihr (i+1) n false e2 (by omega) (hb2 false hf.symm)
    ·simp only [if_true]
     by_cases hi0:i=0
     ·subst hi0;have:b=true:=hb.2 (.inl rfl);subst this;simp only [Int.ofNat_zero,if_true,Yf,X8];exact ⟨_,rfl,by simp⟩
     ·rw [if_neg (by omega),show i64.wrap ((i:Int) - 1)=((i - 1:Nat):Int) by rw [Y3 (by omega) (by omega)];omega,Yk _ _ (by omega)];simp only [X8,CR,Yf];cases hpd:YT p.kids[i - 1]
      ·have:b=false:=by
        cases b with
        | false=>rfl
        | true =>
         rcases hb.1 rfl with h | ⟨_,_,h⟩
         ·exact absurd h hi0
         ·rw [h] at hpd;cases hpd
       subst this;simp only [Qo,if_false];have hw:i64.wrap ((n:Int)+1)=((n+1:Nat):Int):=VV (by omega);rw [hw];exact ihr (i+1) (n+1) true e2 (by omega) (hb2 true hf.symm)
      ·have:b=true:=hb.2 (.inr ⟨by omega,by omega,hpd⟩);subst this;simp only [if_true];exact ⟨_,rfl,by simp⟩
  rw [H5,OB,CR,X8];cases hd:YT p
  ·simp only [Qo,if_false];rw [Mu _ _ (by omega)];obtain ⟨o,ho,hp⟩:=loop p.kids 0 0 true (List.drop_zero ..) (Qt _) ⟨fun _=>.inl rfl,fun _=>rfl⟩;rw [show ((0:Nat):Int)=0 from rfl] at ho;rw [ho,X8]
   cases o with
   | inl r=>rw [hp.1,hp.2];rfl
   | inr m=>rw [← hp];rfl
  ·rfl
end Go.Proofs.SA
