/- Forms as data; small laws of rows and numbers for the walks. -/
import Derived.Test.YtiiamkelehfnoaaGreatDoorShM
import Derived.Laws.BitsLemmas
import Derived.WalkKit
import Derived.ProofKit
import Derived.ChangeOld
import Derived.Below
import Derived.SizedLaws
import Derived.Laws.BitsAllLaws
import Derived.Lib.LaidTab
import Derived.Stop.LaidErr
open _root_.List renaming getElem?_eq_getElem → Qj, getElem?_eq_some_iff → Qb, getElem?_map → QE, mem_cons → Kl, getD_eq_getElem?_getD → Qy, mem_append → QS, getElem?_eq_none → Q6, getElem?_drop → Qk, mem_map → QZ
open _root_.Option renaming map_eq_some_iff → Qx, bind_eq_some_iff → Ko
open _root_.Int renaming toNat_natCast → Kn
open _root_.Nat renaming le_refl → Qt
set_option linter.unusedVariables false
set_option linter.unusedSimpArgs false
namespace Go.Proofs.Shadow
open Go Go.RowKit
inductive Fm where
 | mk (kind:Int) (name:ByteArray) (n:Int) (sc:List Int) (kids:List Fm)
def ints (l:List Int):List (List AV):=l.map fun x=>[.int .i64 x]
def strs (l:List ByteArray):List (List AV):=l.map fun x=>[.str x]
mutual
def Fm.cells:Fm->List AV
 | .mk k s n sc ks=>[.int .i64 k,.str s,.int .i64 n,.sl false (ints sc),.sl false (Fm.rows ks)]
def Fm.rows:List Fm->List (List AV)
 | []=>[]
 | f :: fs=>f.cells :: Fm.rows fs
end
def Fm.kind:Fm->Int | .mk k _ _ _ _=>k
def Fm.name:Fm->ByteArray | .mk _ s _ _ _=>s
def Fm.num:Fm->Int | .mk _ _ n _ _=>n
def Fm.sc:Fm->List Int | .mk _ _ _ c _=>c
def Fm.kids:Fm->List Fm | .mk _ _ _ _ ks=>ks
def Fm.zero:Fm:=.mk 0 (ByteArray.mk #[]) 0 [] []
instance:Inhabited Fm:=⟨Fm.zero⟩
theorem Fm.X6 (f:Fm):f.cells.length=5:=by cases f;simp [Fm.cells]
theorem Fm.Ae:∀fs:List Fm,Fm.rows fs=fs.map Fm.cells
 | []=>rfl
 | f :: fs=>by rw [Fm.rows,Fm.Ae fs];rfl
theorem Fm.Qka (fs:List Fm):(Fm.rows fs).length=fs.length:=by rw [Fm.Ae];simp
theorem Qjs (l:List Int):(ints l).length=l.length:=by simp [ints]
theorem Qkm (l:List ByteArray):(strs l).length=l.length:=by simp [strs]
theorem Qez {xs:List (List AV)} {i:Nat} {sz by_:Nat} {e:TypeId} {c:Bool} {k:IntKind} {σ:Sto} (hi:i < xs.length) (hs:(xs[i]).length=sz):Ur σ (some (e,sz,by_)) (.sl c xs) (.int k (i:Int))=some (.ept xs[i]):=by
 have h1:xs.getD i []=xs[i]:=by simp [hi]
 simp only [Ur,Kn,h1];rw [if_pos ⟨by omega,by omega,hs⟩]
theorem Y3 {a:Int} (h1:-9223372036854775808<=a) (h2:a < 9223372036854775808):IntKind.wrap .i64 a=a:=by
 rw [IntKind.wrap_i64];omega
theorem Cw {i:Nat} (h:i < 4611686018427387904):IntKind.wrap .i64 ((i:Int)+1)=((i+1:Nat):Int):=by rw [Y3 (by omega) (by omega)];omega
section
variable (k:Int) (s:ByteArray) (n:Int) (sc:List Int) (ks:List Fm)
theorem Fm.Qnj:(Fm.mk k s n sc ks).kind=k:=(rfl)
theorem Fm.Qns:(Fm.mk k s n sc ks).name=s:=(rfl)
theorem Fm.Qq2:(Fm.mk k s n sc ks).num=n:=(rfl)
theorem Fm.Qsu:(Fm.mk k s n sc ks).sc=sc:=(rfl)
theorem Fm.En:(Fm.mk k s n sc ks).kids=ks:=(rfl)
end
attribute [go_sem] Fm.Qka Qjs Qkm Fm.Qnj Fm.Qns Fm.Qq2 Fm.Qsu Fm.En Option.isSome_some Option.isSome_none Bool.or_true Bool.or_false Bool.true_or Bool.false_or
end Go.Proofs.Shadow
namespace Go.Proofs.Shadow
open Go Go.RowKit
section
variable {P:Program}
theorem Qiq {σ:Sto} {e:TypeId} {sz by_:Nat} {b l c i:Nat} {k:IntKind} (hi:i < l):Ur σ (some (e,sz,by_)) (.ref b l c) (.int k (i:Int))=some (.optr b (i * sz)):=by
 simp only [Ur,Kn];rw [if_pos ⟨by omega,by omega⟩]
theorem Qe1 (b n c:Nat):Fs false (.ref b n c)=some (.int .i64 (n:Int)):=(rfl)
theorem St {α:Type} {sz:Nat} (r:List α) (hr:r.length=sz):∀(rows:List (List α)) (i:Nat),(∀x∈rows,x.length=sz)->i < rows.length->rows.flatten.take (i * sz)++r++rows.flatten.drop (i * sz+r.length)=(rows.set i r).flatten
 | [],i,_,h=>by simp at h
 | x :: rows,0,hx,h=>by
  have hl:x.length=sz:=hx x (by simp);simp [hr,← hl]
 | x :: rows,i+1,hx,h=>by
  have hl:x.length=sz:=hx x (by simp);have ih:=St r hr rows i (fun y hy=>hx y (by simp [hy])) (by simpa using h);simp only [List.flatten_cons,List.set_cons_succ,Nat.add_mul,Nat.one_mul];rw [← ih,Nat.add_comm (i * sz) sz,← hl,List.take_length_add_append,Nat.add_assoc,List.drop_length_add_append]
  simp
theorem Ss (σ:Sto) (b:Nat) (e e':Ent):(σ.Vo b e).Vo b e'=σ.Vo b e':=by
 simp only [Sto.Vo]
 congr 1
 funext i;split<;>rfl
theorem Wk.DL {ss0 σ:Sto} {e:TypeId} {sz:Nat} {v:AV} {xs:List (List AV)} (h:EZ ss0 σ e sz v xs) (hs:Sub ss0 σ):Wk σ v ss0 (.sl false xs):=by
 obtain ⟨ss1,h1,h2,_,_,h5⟩:=h.freeze hs;exact h5.trans (Wk.sub h1 _)
theorem Qma {rs:List ResultVar} {s:AS} {vs:List AV} {σ:Sto} {v:AV} (h:M1 P s rs=some vs) (hw:Wk s.σ (packed vs) σ v):ID P rs (fun r ss'=>r=v/\ss'=σ) s:=⟨vs,h,v,σ,hw,rfl,rfl⟩
theorem SW {lo d e:Nat} {T T':Nat->AV} {v:AV} (h:(decide (lo<=e)||e == d)=true) (k:∀i,i < lo->i≠d->T' i=T i):∀i,i < lo->i≠d->upd T' e v i=T i:=fun i h1 h2=>by
 simp only [upd]
 rw [if_neg (fun he=>by
  subst he;simp only [Bool.or_eq_true,decide_eq_true_eq,beq_iff_eq] at h
  rcases h with h | h
  ·omega
  ·exact h2 h)]
 exact k i h1 h2
theorem SU {lo lo' d:Nat} {T T' J:Nat->AV} (h:lo<=lo') (k:∀i,i < lo->i≠d->T' i=T i):∀i,i < lo->i≠d->low lo' J T' i=T i:=fun i h1 h2=>by
 simp only [low];rw [if_pos (by omega)];exact k i h1 h2
end
theorem Fm.ind {p:Fm->Prop} (h:∀f,(∀g∈f.kids,p g)->p f) (f:Fm):p f:=by
 have:∀n (f:Fm),SizeOf.sizeOf f<=n->p f:=by
  intro n
  induction n with
  | zero=>intro f hf;cases f;simp at hf
  | succ n ih =>
   intro f hf;refine h f (fun g hg=>ih g ?_)
   cases f with
   | mk k s m sc ks =>
    have:=List.sizeOf_lt_of_mem (show g∈ks from hg);simp at hf;omega
 exact this _ f (Qt _)
attribute [go_sem] Qe1 Ss
end Go.Proofs.Shadow
namespace Go.Proofs.Shadow
open Go Go.RowKit
theorem Qcq {lo d e:Nat} {T T':Nat->AV} {v:AV} (h:(decide (lo<=e)||e == d)=true) (k:∀i,i < lo->i≠d->T' i=T i):∀i,i < lo->i≠d->T' i=upd T e v i:=fun i h1 h2=>(SW h (fun i h1 h2=>(k i h1 h2).symm) i h1 h2).symm
theorem Qcp {lo lo' d:Nat} {T T' J:Nat->AV} (h:lo<=lo') (k:∀i,i < lo->i≠d->T' i=T i):∀i,i < lo->i≠d->T' i=low lo' J T i:=fun i h1 h2=>(SU h (fun i h1 h2=>(k i h1 h2).symm) i h1 h2).symm
theorem Qdj (v:AV):packed [v]=v:=(rfl)
theorem Qdk (a b:AV):packed [a,b]=.tup [a,b]:=(rfl)
theorem TG (a b c:AV):packed [a,b,c]=.tup [a,b,c]:=(rfl)
theorem Qdi:packed []=.tup []:=(rfl)
mutual
def Fm.sz:Fm->Nat
 | .mk _ s _ sc ks=>s.size+sc.length+ks.length+Fm.szL ks
def Fm.szL:List Fm->Nat
 | []=>0
 | f :: fs=>f.sz+Fm.szL fs
end
def hit (x:ByteArray) (k:Int) (s:ByteArray):Nat:=if k=1/\s=x then 1 else 0
def VF {α:Type} (g:α->Nat):List α->Nat
 | []=>0
 | a :: as=>g a+VF g as
theorem EY {α:Type} (g:α->Nat):∀a b,VF g (a++b)=VF g a+VF g b
 | [],b=>by simp [VF]
 | f :: a,b=>by simp [VF,EY g a b];omega
theorem Qhs {α:Type} (g:α->Nat) (ks:List α) (i:Nat) (h:i < ks.length):VF g (ks.take (i+1))=VF g (ks.take i)+g ks[i]:=by
 rw [List.take_succ_eq_append_getElem h,EY];simp [VF]
theorem Qn9 {α:Type} (g:α->Nat) (ks:List α) (i:Nat):VF g (ks.take i)<=VF g ks:=by
 conv=>rhs;rw [← List.take_append_drop i ks,EY]
 omega
theorem CO {α:Type} (g:α->Nat):∀(ks:List α) (a:α),a∈ks->g a<=VF g ks
 | [],_,h=>by simp at h
 | k :: ks,a,h=>by
  simp only [VF]
  rcases Kl.1 h with rfl | h
  ·omega
  ·have:=CO g ks a h;omega
theorem TY {α:Type} (g g':α->Nat):∀(ks:List α),(∀a∈ks,g a<=g' a)->VF g ks<=VF g' ks
 | [],_=>Qt _
 | k :: ks,h=>by
  simp only [VF];have:=TY g g' ks (fun a ha=>h a (by simp [ha]));have:=h k (by simp);omega
mutual
def Fm.nodes:Fm->Nat
 | .mk _ _ _ _ ks=>1+Fm.AW ks
def Fm.AW:List Fm->Nat
 | []=>0
 | f :: fs=>f.nodes+Fm.AW fs
end
theorem Fm.IS:∀ks,Fm.AW ks=VF Fm.nodes ks
 | []=>rfl
 | f :: fs=>by rw [Fm.AW,Fm.IS fs];rfl
theorem Fm.Vr (f:Fm):f.nodes=1+VF Fm.nodes f.kids:=by cases f;simp [Fm.nodes,Fm.IS,Fm.kids]
theorem Fm.MX:∀ks,Fm.szL ks=VF Fm.sz ks
 | []=>rfl
 | f :: fs=>by rw [Fm.szL,Fm.MX fs];rfl
theorem Fm.G6 (f:Fm):f.sz=f.name.size+f.sc.length+f.kids.length+VF Fm.sz f.kids:=by cases f;simp [Fm.sz,Fm.MX,Fm.name,Fm.sc,Fm.kids]
theorem Fm.J7 {f g:Fm} (h:g∈f.kids):g.sz<=f.sz:=by
 have:=CO Fm.sz f.kids g h;rw [Fm.G6 f];omega
theorem OX {α:Type} (g g':α->Nat):∀(ks:List α),(∀a∈ks,g a<=g' a+1)->VF g ks<=VF g' ks+ks.length
 | [],_=>by simp [VF]
 | k :: ks,h=>by
  simp only [VF,List.length_cons];have:=OX g g' ks (fun a ha=>h a (by simp [ha]));have:=h k (by simp);omega
theorem Fm.Qs1 (f:Fm):f.cells.take 5=f.cells:=List.take_of_length_le (by rw [f.X6];exact Qt _)
theorem Fm.Qrx (f:Fm):f.cells.drop 5=[]:=List.drop_eq_nil_of_le (by rw [f.X6];exact Qt _)
theorem Fm.ND (f:Fm):f.nodes<=f.sz+1:=by
 induction f using Fm.ind with
 | h f ih =>
 rw [Fm.Vr,Fm.G6];have:=OX Fm.nodes Fm.sz f.kids ih;omega
noncomputable instance:DecidableEq Fm:=fun _ _=>Classical.propDecidable _
mutual
def Fm.all:Fm->List Fm
 | .mk k s n sc ks=>.mk k s n sc ks :: Fm.Qis ks
def Fm.Qis:List Fm->List Fm
 | []=>[]
 | f :: fs=>f.all++Fm.Qis fs
end
def Fm.Ok (f:Fm):Prop:=∀g∈f.all,g.name.size<=4611686018427387904/\g.sc.length<=4611686018427387904/\g.kids.length<=4611686018427387904
attribute [go_sem] Fm.Qs1 Fm.Qrx Fm.X6 M1 Qfm Qdj Qdk TG Qdi
end Go.Proofs.Shadow
namespace Go.Proofs.Shadow
open Go Go.RowKit
def SD:Sto:=⟨fun _=>none,fun _=>none⟩
theorem OW (b:Nat):SD.dead b:=⟨rfl,rfl⟩
section
variable {H:Type} {enc:TypeId × Value->H} {P:Program} {w:World}
def Opn {α:Type} (enc:TypeId × Value->H) (P:Program) (w:World) (k:Nat) (cells:α->List AV) (Q:α->Prop) (e:TypeId) (fuel:Nat):Prop :=
 ∀cs x,DataW.trod enc P w 0 (fun _=>true) true fuel e cs=some x->(∀n∈x.1.weights P e,n<=reachBytes) ->
  ∃a,Q a/\cs.length=k/\(cells a).length=k/\(∀c∈cells a,c.Y8=true)/\∀i c,(cells a)[i]?=some c->Rv SD w c (cs.getD i undef)
theorem AY {k:IntKind} {t:TypeId} (hu:P.underlying t=some (.int k)) (fuel:Nat):Opn enc P w 1 (fun n=>[.int k n]) (fun n=>(Lit.int k n).wf=true) t fuel:=by
 intro cs x h _;obtain ⟨n,rfl,rfl,hw⟩:=DataW.trod_int hu h;refine ⟨n,hw,rfl,rfl,by simp [AV.Y8],fun i c hc=>?_⟩
 cases i with
 | zero=>simp at hc;subst hc;exact .int
 | succ i=>simp at hc
theorem UT {t:TypeId} (hu:P.underlying t=some .string) (fuel:Nat):Opn enc P w 1 (fun s=>[.str s]) (fun s=>s.size<=140737488355328) t fuel:=by
 intro cs x h hwt;obtain ⟨s,rfl,rfl,hw⟩:=DataW.trod_string hu h
 have hs:s.size<=140737488355328:=by
  have:=hwt s.data.toList.length (by simp [DataW.weights]);simp [reachBytes] at this;have e:s.size=s.data.size:=rfl;omega
 refine ⟨s,hs,rfl,rfl,by simp [AV.Y8],fun i c hc=>?_⟩
 cases i with
 | zero=>simp at hc;subst hc;exact .str (by omega)
 | succ i=>simp at hc
theorem Fo {e:TypeId} : ∀(ds:List (DataW H)) (d:DataW H),d∈ds->∀n∈d.weights P e,n∈DataW.weightsAll P e ds
 | [],_,h,_,_=>by simp at h
 | d' :: ds,d,h,n,hn=>by
  simp only [DataW.weightsAll,QS]
  rcases Kl.1 h with rfl | h
  ·exact .inl hn
  ·exact .inr (Fo ds d h n hn)
theorem Ow {α:Type} {cells:α->List AV} {Q:α->Prop} {t e:TypeId} {k:Nat} (hk:0 < k) (hu:P.underlying t=some (.slice e)) (hc:P.cellsOf e=k) (hb:0 < P.bytesOf e) {fuel:Nat} (he:∀n,n < fuel->Opn enc P w k cells Q e n) :
  Opn enc P w 1 (fun xs:List α=>[AV.sl false (xs.map cells)]) (fun xs:List α=>xs.length<=140737488355328/\∀x∈xs,Q x) t fuel:=by
 intro cs x h hwt
 rcases DataW.trod_slice hu h with ⟨rfl,rfl⟩ | ⟨a,len,cap,elems,rest,n,rfl,rfl,rfl,hba,hl,hm,hlen,hel,hsp,hns⟩
 ·refine ⟨[],⟨by simp,by simp⟩,rfl,rfl,by simp [AV.Y8],fun i c hc=>?_⟩
  cases i with
  | zero=>simp at hc;subst hc;exact .slE (fun h=>by cases h)
  | succ i=>simp at hc
 subst hc
 have hlb:len<=140737488355328:=by
  have:=hwt ((elems.map (·.1)).length * P.bytesOf e+(rest.map (·.1)).length * P.bytesOf e) (by simp [DataW.weights,hu,Nat.add_mul]);simp [reachBytes,hlen] at this;have h2:len * 1<=len * P.bytesOf e:=Nat.mul_le_mul_left _ hb;omega
 have hex:∀i:Fin len,∃z:α,Q z/\(cells z).length=P.cellsOf e/\(∀c∈cells z,c.Y8=true)/\∀j c,(cells z)[j]?=some c->∃v,w.cell? (a.add (i.val * P.cellsOf e) |>.add j)=some v/\Rv SD w c v:=by
  intro i;have h1:=hel i.val i.isLt
  have hi:i.val < elems.length:=by rw [hlen];exact i.isLt
  rw [Qj hi] at h1;obtain ⟨cs',h2,h3⟩:=Ko.1 h1
  obtain ⟨z,z1,z2,z3,z4,z5⟩:=he n (by omega) cs' _ h3 (fun m hm=>hwt m (by
   simp only [DataW.weights,hu,Kl,QS]
   exact .inr (.inl (Fo _ _ (QZ.2 ⟨_,List.getElem_mem hi,rfl⟩) m hm))))
  obtain ⟨_,h5,h6⟩:=World.cells?_some h2;refine ⟨z,z1,z3,z4,fun j c hjc=>?_⟩
  have hj:j < P.cellsOf e:=by rw [← z3];exact (Qb.1 hjc).1
  have h7:=h6 j hj
  have hj2:j < cs'.length:=by omega
  rw [Qj hj2] at h7;refine ⟨_,h7,?_⟩;have:=z5 j c hjc;simpa [hj2] using this
 have hxs:∃xs:List α,xs.length=len/\∀i (hi:i < len),∃z,xs[i]?=some z/\Q z/\(cells z).length=P.cellsOf e/\(∀c∈cells z,c.Y8=true)/\∀j c,(cells z)[j]?=some c->∃v,w.cell? (a.add (i * P.cellsOf e) |>.add j)=some v/\Rv SD w c v :=
  ⟨List.ofFn fun i=>(hex i).choose,by simp,fun i hi=>⟨_,by simp [hi],(hex ⟨i,hi⟩).choose_spec⟩⟩
 obtain ⟨xs,hxl,hx⟩:=hxs
 have hmem:∀z∈xs,Q z/\(cells z).length=P.cellsOf e/\∀c∈cells z,c.Y8=true:=by
  intro z hz;obtain ⟨i,hi⟩:=List.mem_iff_getElem?.1 hz;have hil:=(Qb.1 hi).1;obtain ⟨z',h1,h2,h3,h4,_⟩:=hx i (by omega);rw [hi] at h1
  injection h1 with h1
  subst h1;exact ⟨h2,h3,h4⟩
 refine ⟨xs,⟨by omega,fun z hz=>(hmem z hz).1⟩,rfl,rfl,by simp [AV.Y8],fun i c hc=>?_⟩
 cases i with
 | succ i=>simp at hc
 | zero =>
 simp at hc;subst hc;show Rv SD w (.sl false (xs.map cells)) (.slice (some a) len cap)
 by_cases h0:len=0
 ·have:xs=[]:=by simpa [h0] using hxl
  subst this;subst h0;exact .slE (fun h=>by cases h)
 have hrow:∀r∈xs.map cells,r.length=P.cellsOf e:=by
  intro r hr;obtain ⟨z,hz,rfl⟩:=QZ.1 hr;exact (hmem z hz).2.1
 have hcell:∀i c,(xs.map cells).flatten[i]?=some c->∃v,w.cell? (a.add i)=some v/\Rv SD w c v:=by
  intro i c hic
  have hd:i=(i / P.cellsOf e) * P.cellsOf e+i % P.cellsOf e:=by rw [Nat.mul_comm];exact (Nat.div_add_mod _ _).symm
  have hlt:=Nat.mod_lt i hk;rw [hd,BZ _ _ _ hrow hlt] at hic;obtain ⟨r,hr1,hr2⟩:=Ko.1 hic;rw [QE] at hr1;obtain ⟨z,hz1,rfl⟩:=Qx.1 hr1;have hil:=(Qb.1 hz1).1;obtain ⟨z',h1,h2,h3,h4,h5⟩:=hx (i / P.cellsOf e) (by omega);rw [hz1] at h1
  injection h1 with h1
  subst h1;obtain ⟨v,hv1,hv2⟩:=h5 _ c hr2;refine ⟨v,?_,hv2⟩;rw [← hv1]
  conv=>lhs;rw [hd]
  unfold Addr.add;generalize i / P.cellsOf e * P.cellsOf e=A;generalize i % P.cellsOf e=B
  by_cases hA:A=0
  ·subst hA;simp
  ·by_cases hB:B=0
   ·subst hB;simp
   ·rw [if_neg (by omega),if_neg hB,if_neg hA];simp [Nat.add_assoc]
 obtain ⟨z0,q1,q2,q3,q4,q5⟩:=hx 0 (by omega);have hz0:∃c0,(cells z0)[0]?=some c0:=⟨_,Qj (by omega)⟩;obtain ⟨c0,hc0⟩:=hz0;obtain ⟨v0,hv0,_⟩:=q5 0 c0 hc0
 have ha:a.spot=none/\a.block < w.heap.size:=by
  simp only [Nat.zero_mul,Addr.add,if_true] at hv0;unfold World.cell? at hv0;split at hv0
  ·rename_i c1 _ _ hh;split at hv0
   ·cases hv0
   ·rename_i hs;exact ⟨by simpa using hs,(Array.getElem?_eq_some_iff.1 hh).1⟩
  ·cases hv0
 obtain ⟨b,o,sp⟩:=a;obtain ⟨ha1,ha2⟩:=ha;simp only at ha1 ha2;subst ha1
 have hadd:∀i,(⟨b,o,none⟩:Addr).add i=⟨b,o+i,none⟩:=by
  intro i;unfold Addr.add;split
  ·rename_i h;subst h;rfl
  ·rfl
 refine Rv.slC (sz:=P.cellsOf e) (f:=fun i=>(w.cell? ⟨b,o+i,none⟩).getD undef) (by intro he;simp at he;subst he;simp at hxl;omega) (by simp [hxl]) (by omega) hl hrow (fun h=>by cases h) (OW b) ha2 ?_ ?_ ?_
 ·intro c hc;obtain ⟨r,hr,hcr⟩:=List.mem_flatten.1 hc;obtain ⟨z,hz,rfl⟩:=QZ.1 hr;exact (hmem z hz).2.2 c hcr
 ·intro i c hic;obtain ⟨v,hv,_⟩:=hcell i c hic;rw [hadd] at hv;rw [hv];rfl
 ·intro i c hic;obtain ⟨v,hv,hr⟩:=hcell i c hic;rw [hadd] at hv;rw [hv];exact hr
end
end Go.Proofs.Shadow
namespace Go.Proofs.Shadow
open Go Go.RowKit
def Qh5 (P:Program) (t:TypeId):Option (List (TypeId × Nat)):=match P.underlying t with | some (.struct fs)=>some (fs.toList.map fun f=>(f.type,f.offset)) | _=>none
def Qlx (P:Program) (t:TypeId):Option (TypeId × Nat × Bool):=match P.underlying t with | some (.slice e)=>some (e,P.cellsOf e,decide (0 < P.bytesOf e)) | _=>none
section
variable {H:Type} {enc:TypeId × Value->H} {P:Program} {w:World}
theorem Fm.Qe4:∀(ks:List Fm) (g:Fm),g∈Fm.Qis ks->∃k∈ks,g∈k.all
 | [],_,h=>by simp [Fm.Qis] at h
 | k :: ks,g,h=>by
  simp only [Fm.Qis,QS] at h
  rcases h with h | h
  ·exact ⟨k,by simp,h⟩
  ·obtain ⟨k',h1,h2⟩:=Fm.Qe4 ks g h;exact ⟨k',by simp [h1],h2⟩
theorem F8 {t:TypeId} {l:List (TypeId × Nat)} (hl:Qh5 P t=some l) {fuel:Nat} {cs:List Value} {x:DataW H × List MemPlace} (h:DataW.trod enc P w 0 (fun _=>true) true fuel t cs=some x) :
  ∃n,fuel=n+1/\cs.length=P.cellsOf t/\∀(i:Nat) (ty:TypeId) (off:Nat),l[i]?=some (ty,off)->∃y,DataW.trod enc P w 0 (fun _=>true) true n ty ((cs.drop off).take (P.cellsOf ty))=some y/\∀m∈y.1.weights P ty,m∈x.1.weights P t:=by
 unfold Qh5 at hl;split at hl
 ·rename_i fs hu
  injection hl with hl
  subst hl;obtain ⟨xs,n,rfl,rfl,h1,h2,h3⟩:=DataW.trod_struct hu h;refine ⟨n,rfl,h1,fun i ty off hi=>?_⟩;rw [QE] at hi;obtain ⟨f,hf,he⟩:=Qx.1 hi
  injection he with he1 he2
  subst he1;subst he2
  have hi2:i < xs.length:=by rw [h2];have:=(Qb.1 hf).1;simpa using this
  have h4:=h3 i f (by simpa using hf);rw [Qj hi2] at h4;refine ⟨_,h4,fun m hm=>?_⟩;simp only [DataW.weights,hu];exact DataW.weights_mem_each (j:=i) (t:=f.type) (d:=(xs[i]).1) (by rw [QE,hf];rfl) (by rw [QE,Qj hi2];rfl) m hm
 ·cases hl
theorem DO {t e:TypeId} {k:Nat} (h:Qlx P t=some (e,k,true)):P.underlying t=some (.slice e)/\P.cellsOf e=k/\0 < P.bytesOf e:=by
 unfold Qlx at h;split at h
 ·rename_i e' hu
  injection h with h
  injection h with h1 h2
  injection h2 with h2 h3
  subst h1;exact ⟨hu,h2,by simpa using h3⟩
 ·cases h
theorem Qba {cs:List Value} {o k j:Nat} (hj:j < k):((cs.drop o).take k).getD j undef=cs.getD (o+j) undef:=by
 simp only [Qy];rw [List.getElem?_take_of_lt hj,Qk]
structure P4 (P:Program) (tF tI tS tLI tLF:TypeId):Prop where
 fF:Qh5 P tF=some [(tI,0),(tS,1),(tI,2),(tLI,3),(tLF,4)]
 cF:P.cellsOf tF=5
 cI:P.cellsOf tI=1
 cS:P.cellsOf tS=1
 cLI:P.cellsOf tLI=1
 cLF:P.cellsOf tLF=1
 uI:P.underlying tI=some (.int .i64)
 uS:P.underlying tS=some .string
 uLI:Qlx P tLI=some (tI,1,true)
 uLF:Qlx P tLF=some (tF,5,true)
theorem Lr {cs:List Value} {o k:Nat} {c:AV} (hk:k=1) (h:∀i c',[c][i]?=some c'->Rv SD w c' (((cs.drop o).take k).getD i undef)):Rv SD w c (cs.getD o undef):=by
 have:=h 0 c rfl;rw [Qba (by omega)] at this;exact this
theorem Qbl {tF tI tS tLI tLF:TypeId} (T:P4 P tF tI tS tLI tLF):∀fuel,Opn enc P w 5 Fm.cells Fm.Ok tF fuel:=by
 intro fuel
 induction fuel using Nat.strongRecOn with
 | ind fuel ih =>
 intro cs x h hwt;obtain ⟨n,rfl,h1,h2⟩:=F8 T.fF h;obtain ⟨y0,a0,b0⟩:=h2 0 _ _ rfl;obtain ⟨y1,a1,b1⟩:=h2 1 _ _ rfl;obtain ⟨y2,a2,b2⟩:=h2 2 _ _ rfl;obtain ⟨y3,a3,b3⟩:=h2 3 _ _ rfl;obtain ⟨y4,a4,b4⟩:=h2 4 _ _ rfl;obtain ⟨k,_,_,_,_,r0⟩:=AY T.uI n _ _ a0 (fun m hm=>hwt m (b0 m hm));obtain ⟨s,qs,_,_,_,r1⟩:=UT T.uS n _ _ a1 (fun m hm=>hwt m (b1 m hm));obtain ⟨m,_,_,_,_,r2⟩:=AY T.uI n _ _ a2 (fun m hm=>hwt m (b2 m hm));obtain ⟨v1,v2,v3⟩:=DO T.uLI;obtain ⟨v4,v5,v6⟩:=DO T.uLF;obtain ⟨sc,qc,_,_,_,r3⟩:=Ow (by omega) v1 v2 v3 (fun n _=>AY T.uI n) _ _ a3 (fun m hm=>hwt m (b3 m hm));obtain ⟨ks,qk,_,_,_,r4⟩:=Ow (by omega) v4 v5 v6 (fun m hm=>ih m (by omega)) _ _ a4 (fun m hm=>hwt m (b4 m hm));have e0:=Lr T.cI r0;have e1:=Lr T.cS r1;have e2:=Lr T.cI r2;have e3:=Lr T.cLI r3;have e4:=Lr T.cLF r4;refine ⟨.mk k s m sc ks,?_,by rw [h1,T.cF],Fm.X6 _,?_,?_⟩
 ·intro g hg;simp only [Fm.all,Kl] at hg
  rcases hg with rfl | hg
  ·exact ⟨by simp only [Fm.name];omega,by simp only [Fm.sc];have:=qc.1;omega,by simp only [Fm.kids];have:=qk.1;omega⟩
  ·obtain ⟨g',h5,h6⟩:=Fm.Qe4 ks g hg;exact qk.2 g' h5 g h6
 ·simp [Fm.cells,AV.Y8]
 ·rw [Fm.cells,Fm.Ae];intro i c hc
  match i,hc with
  | 0,hc=>simp at hc;subst hc;exact e0
  | 1,hc=>simp at hc;subst hc;exact e1
  | 2,hc=>simp at hc;subst hc;exact e2
  | 3,hc=>simp at hc;subst hc;exact e3
  | 4,hc=>simp at hc;subst hc;exact e4
  | i+5,hc=>simp at hc
theorem Qq3 {tF tI tS tLI tLF:TypeId} (T:P4 P tF tI tS tLI tLF) {v:Value} {d:DataW H} {ps:List MemPlace} {base:Nat} {ts:List TypeId} {ds:List (DataW H)} {j:Nat} (hv:Value.okWide P w .any base tF v) (h:DataW.Trod enc P w 0 (fun _=>true) true tF v d ps)
  (hsz:(DataW.weightsEach P ts ds).all (· <= reachBytes)=true) (ht:ts[j]?=some tF) (hd:ds[j]?=some d):∃f:Fm,f.Ok/\Rv SD w (.agg f.cells) v:=by
 obtain ⟨fuel,hf⟩:=h;have hfl:=T.fF;unfold Qh5 at hfl;split at hfl
 ·rename_i fs hu;simp only [Value.okWide,hu] at hv;obtain ⟨cs,rfl,hcs,_⟩:=hv
  obtain ⟨f,hok,h1,h2,h3,h4⟩:=Qbl T fuel _ _ hf (fun n hn=>by
   have:=List.all_eq_true.1 hsz n (DataW.weights_mem_each ht hd n hn)
   simpa using this)
  simp only [Value.cells] at h1 h4;refine ⟨f,hok,.agg (by rw [h2];simpa using h1.symm) h3 (fun i c hc=>?_)⟩;have:=h4 i c hc;simpa [Qy] using this
 ·cases hfl
theorem Qnx {t:TypeId} {v:Value} {d:DataW H} {ps:List MemPlace} {base:Nat} {ts:List TypeId} {ds:List (DataW H)} {j:Nat} (hu:P.underlying t=some .string) (hv:Value.okWide P w .any base t v) (h:DataW.Trod enc P w 0 (fun _=>true) true t v d ps)
  (hsz:(DataW.weightsEach P ts ds).all (· <= reachBytes)=true) (ht:ts[j]?=some t) (hd:ds[j]?=some d):∃s:ByteArray,s.size<=140737488355328/\Rv SD w (.str s) v:=by
 obtain ⟨s,rfl,rfl,rfl,_⟩:=Go.ChangeMaps.open_string hu hv h;have:=sized_string hsz ht hd;simp [reachBytes] at this;have e:s.size=s.data.size:=rfl;exact ⟨s,by omega,.str (by omega)⟩
theorem Pz {α:Type} {cells:α->List AV} {Q:α->Prop} {t e:TypeId} {k:Nat} (hk:0 < k) (hu:Qlx P t=some (e,k,true)) (he:∀n,Opn enc P w k cells Q e n) {v:Value} {d:DataW H} {ps:List MemPlace} {base:Nat} {ts:List TypeId} {ds:List (DataW H)} {j:Nat}
  (hv:Value.okWide P w .any base t v) (h:DataW.Trod enc P w 0 (fun _=>true) true t v d ps) (hsz:(DataW.weightsEach P ts ds).all (· <= reachBytes)=true) (ht:ts[j]?=some t) (hd:ds[j]?=some d) :
  ∃xs:List α,xs.length<=140737488355328/\(∀x∈xs,Q x)/\Rv SD w (.sl false (xs.map cells)) v:=by
 obtain ⟨u1,u2,u3⟩:=DO hu;obtain ⟨a,len,cap,rfl⟩:=Go.WideShapes.okWide_slice u1 hv;obtain ⟨fuel,hf⟩:=h
 obtain ⟨xs,⟨h1,h2⟩,_,_,_,h3⟩:=Ow hk u1 u2 u3 (fun n _=>he n) _ _ hf (fun n hn=>by
  have:=List.all_eq_true.1 hsz n (DataW.weights_mem_each ht hd n hn)
  simpa using this)
 exact ⟨xs,h1,h2,h3 0 _ rfl⟩
theorem VP.Qtm {f:FuncId} {as:List AV} {vs:List Value} {b:Bool} (h:VP P f as (.bool b)) (htb:Tb P SD w) (hl:vs.length=as.length) (hr:∀i a,as[i]?=some a->Rv SD w a (vs.getD i undef)) :
  Calls P f vs.toArray w fun e w'=>e=.returned (.bool b)/\Below w.heap.size w w':=by
 have h:=h SD;refine Calls.mono (h.2 w vs ?_ htb hl hr) (fun e w' he=>?_)
 ·exact ⟨(fun b e hb=>by cases hb),(fun b e hb=>by cases hb)⟩
 ·obtain ⟨v,r,ss',rfl,hs,hsim,hrv,rfl,rfl⟩:=he;cases hrv;exact ⟨rfl,hs.os,hs.tape,hs.output,hs.size,fun k hk=>(hs.dead k hk (OW k)).1⟩
end
end Go.Proofs.Shadow
namespace Go.Proofs.Shadow
open Go Go.RowKit
def bys (l:List Nat):List (List AV):=l.map fun (x:Nat)=>[.int .u8 (x:Int)]
theorem Wk.Qo4 {σ ss':Sto} {r r':AV} (h:WkV r r') (hs:Sub ss' σ):Wk σ r ss' r':=(Wk.val h).trans (Wk.sub hs r')
theorem Qms (l:List Nat):(bys l).length=l.length:=by simp [bys]
theorem Qkq (a b:Nat):(a:Int).tmod (b:Int)=((a % b:Nat):Int):=(rfl)
theorem Qko (a b:Nat):(a:Int).tdiv (b:Int)=((a / b:Nat):Int):=(rfl)
theorem Qne (a b:Nat) (ha:a < 4611686018427387904) (hb:b < 4611686018427387904):bits .xor .i64 (a:Int) (b:Int)=((a ^^^ b:Nat):Int)/\a ^^^ b < 4611686018427387904:=by
 have hx:a ^^^ b < 2 ^ 62:=Nat.xor_lt_two_pow (by omega) (by omega);refine ⟨?_,by omega⟩
 have e1:(BitVec.ofInt 64 (a:Int) ^^^ BitVec.ofInt 64 (b:Int)).toNat=a ^^^ b:=by
  rw [BitVec.toNat_xor,BitVec.toNat_ofInt,BitVec.toNat_ofInt]
  congr 1<;>omega
 show IntKind.i64.wrap (((BitVec.ofInt 64 (a:Int) ^^^ BitVec.ofInt 64 (b:Int)).toNat:Nat):Int)=_;rw [e1,Y3 (by omega) (by omega)]
theorem Qmq (k:IntKind) (n:Int):aun .neg (.int k n)=some (.int k (k.wrap (0 - n))):=(rfl)
theorem Qew (k:IntKind) (u s:Bool) (k':IntKind) (n:Int):Up (some k) u s (.int k' n)=some (.int k (k.wrap n)):=(rfl)
theorem Qey (ps:List (Nat × Nat)) (cells:List AV):Pn ps cells []=some cells:=(rfl)
theorem Qco (ps:List (Nat × Nat)) (cells:List AV) (i:Nat) (v:AV) (rest:List (Nat × AV)):Pn ps cells ((i,v) :: rest)=(ps[i]?).bind fun p=>(Vx v).bind fun cs=>if cs.length=p.2/\p.1+p.2<=cells.length then Pn ps (Ww cells p.1 cs) rest else none:=by
 simp only [Pn];cases ps[i]?<;>cases Vx v<;>rfl
theorem Qet (z:List AV) (ps:List (Nat × Nat)) (parts:List (Nat × AV)):P9 (some z) (some ps) parts=(Pn ps z parts).map .agg:=(rfl)
theorem Qdn (sz k:Nat):rowsOf sz k []=some []:=by cases k<;>rfl
theorem U0 (sz k i:Nat) (v:AV) (rest:List (Nat × AV)):rowsOf sz k ((i,v) :: rest)=(Vx v).bind fun cs=>if i=k/\cs.length=sz then (rowsOf sz (k+1) rest).map (cs :: ·) else none:=by
 simp only [rowsOf];cases Vx v<;>rfl
theorem Qcf (e:TypeId) (sz by_:Nat) (z:Bool) (len:Nat) (parts:List (Nat × AV)):LV (some (e,sz,by_)) z len parts=if z=true/\len<=16777216/\len * sz<=16777216/\parts.length=len then (rowsOf sz 0 parts).map (.sl true) else none:=(rfl)
theorem Qfo {k:Option (TypeId × Nat × Nat)} {s:ByteArray} {l:Nat} {k1:IntKind} (hl:l<=s.size):Bx true k (.str s) (some (.int k1 (l:Int))) none none=some (.str (s.extract l s.size)):=by
 simp only [Bx,bound,Option.bind_some,Option.isNone_none,Bool.and_self,if_true,Kn,and_self];rw [if_pos ⟨by omega,by omega,by omega⟩]
theorem Qcc {P:Program} {t:Bool} {o:Oper} {s:AS} {K:AS->Prop} (h1:t=false->aop P o s K) (h2:t=true->K (s.put o.dst Jm)):aGd P (some (!t)) o s K :=
 SQ (fun h=>h1 (by simpa using h)) (fun h=>h2 (by simpa using h))
theorem Qdv {P:Program} {E:Nat->Prop} {t:Bool} {c:Cl} {o:Oper} {s:AS} {K:AS->Prop} (h1:t=false->tGd P E (some true) c o s K) (h2:t=true->K (s.put o.dst Jm)):tGd P E (some (!t)) c o s K :=
 T2 (fun h=>h1 (by simpa using h)) (fun h=>h2 (by simpa using h))
def byt (s:ByteArray) (i:Nat):Int:=((s.data.toList.getD i 0).toNat:Int)
theorem Qla (s:ByteArray) (i:Nat):0<=byt s i/\byt s i < 256:=by
 unfold byt;have:=(s.data.toList.getD i 0).toNat_lt;omega
theorem Qcr {s:ByteArray} {i:Nat} {k:IntKind} (h:i < s.size):ML true (.str s) (.int k (i:Int))=some (.int .u8 (byt s i)):=by
 simp only [ML,Kn,byt];rw [if_pos ⟨by omega,by omega⟩]
structure Qrr (rb:Nat) (σ ss':Sto):Prop where
 var:∀b e,b≠rb->σ.var b=some e->ss'.var b=some e
 own:∀b e,σ.own b=some e->ss'.own b=some e
theorem Qrr.TC {rb:Nat} {σ ss':Sto} (h:Qrr rb σ ss') {b:Nat} (hb:σ.dead b) (e:Ent):Qrr rb σ (ss'.Vo b e):=⟨h.var,fun x e' he=>by
 simp only [Sto.Vo];rw [if_neg (fun hh=>by subst hh;rw [hb.2] at he;cases he)];exact h.own x e' he⟩
theorem Qit (a b:Int):Qmj (.int .i64 a) (.int .i64 b)=some (.int .i64 (if b > a then b else a)):=(rfl)
attribute [go_sem] Qit Qey Qco Qet Qdn U0 Qcf Option.map_none true_and and_true and_self Nat.zero_mul Nat.mul_one Nat.one_mul Qmq Qew Qms Qkq Qko
end Go.Proofs.Shadow
namespace Go.Proofs.Shadow
open Go Go.RowKit
def SE {H:Type} (zs:List ByteArray):DataW H:=.agg (zs.map fun z=>.lit (.string z.data.toList))
theorem RW {H:Type} {enc:TypeId × Value->H} {P:Program} {w:World} {base:Nat} {sp:Nat->Bool} {held:Bool} {fuel:Nat} {t e:TypeId} {n:Nat} {cs:List Value} {zs:List ByteArray} {p:List MemPlace}
  (ht:P.underlying t=some (.array n e)) (he:P.underlying e=some .string) (hce:P.cellsOf e=1) (hct:P.cellsOf t=n)
  (h:DataW.trod enc P w base sp held fuel t cs=some (SE zs,p)):cs=zs.map fun z=>Value.string z:=by
 cases fuel with
 | zero=>simp [DataW.trod] at h
 | succ fuel =>
  simp only [DataW.trod,ht,hce,hct,Nat.mul_one] at h;split at h
  ·rename_i hl;obtain ⟨xs,hm,hx⟩:=Qx.1 h
   have hxs:xs.map (·.1)=zs.map fun z=>(DataW.lit (.string z.data.toList):DataW H):=by
    have:=congrArg Prod.fst hx;simpa [SE] using this
   have hxl:xs.length=n:=by simpa using Lib.mapM_length hm
   have hzl:zs.length=n:=by
    have:=congrArg List.length hxs;simp at this;omega
   apply List.ext_getElem?;intro i
   by_cases hi:i < n
   ·obtain ⟨b,hb,hf⟩:=Lib.mapM_at hm i i (by simp [hi]);obtain ⟨z,hc,rfl,_⟩:=DataW.trod_string he hf
    have h1:cs[i]?=some (.string z):=by
     have:=congrArg (·[0]?) hc;simpa [List.getElem?_take,Qk] using this
    have h2:(xs.map (·.1))[i]?=some (DataW.lit (.string z.data.toList):DataW H):=by simp [hb]
    rw [hxs] at h2;simp only [QE,Qx,DataW.lit.injEq,Lit.string.injEq] at h2;obtain ⟨z',hz',hz2⟩:=h2
    have:z'=z:=by
     cases z';cases z;simp at hz2 ⊢;exact hz2
    simp [h1,hz',this]
   ·rw [Q6 (by omega),Q6 (by simp;omega)]
  ·cases h
theorem TX {P:Program} {W:World} {name:String} {zs:List ByteArray} {rest:List (String × DataW Unit)} {g:Nat} {t e:TypeId} {n:Nat}
  (hg:P.globalNamed name=some g) (hty:(P.globals[g]?).map (·.type)=some t) (ht:P.underlying t=some (.array n e)) (he:P.underlying e=some .string) (hce:P.cellsOf e=1) (hct:P.cellsOf t=n)
  (h:laidMet P ((name,SE zs) :: rest) W):W.var? P name=some (zs.map fun z=>Value.string z).toArray:=by
 obtain ⟨ps,⟨g',t',cs,fuel,p,q,hg',ht',hvar,hd,_,_⟩,_⟩:=h;obtain rfl:=Option.some.inj (hg.symm.trans hg');obtain rfl:=Option.some.inj (hty.symm.trans ht');rw [hvar,← RW ht he hce hct hd]
theorem Tb.Qnv {P : Program} {W : World} {rest : List (String × DataW Unit)} {g : Nat} {t e : TypeId} {n : Nat} (hg : P.globalNamed "loop.example/macroexpander/impl.coreForms" = some g) (hty : (P.globals[g]?).map (·.type) = some t) (ht : P.underlying t = some (.array n e)) (he : P.underlying e = some .string) (hce : P.cellsOf e = 1) (hct : P.cellsOf t = n)
  (h : laidMet P (("loop.example/macroexpander/impl.coreForms", SE Jq) :: rest) W) : Tb P SD W := fun x hx g' hg' => by
 simp only [Qo3,Kl,List.not_mem_nil,or_false] at hx;subst hx;exact ⟨OW _,TX hg hty ht he hce hct h⟩
end Go.Proofs.Shadow
