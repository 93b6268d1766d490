/- Plain functions: small laws. -/
import Derived.Test.YtiiamkelehfnoaaGreatDoorGx
open _root_.List renaming drop_eq_getElem_cons → ZL, drop_of_length_le → KR
open _root_.Nat renaming zero_add → Qp
open _root_.Int renaming eq_ofNat_of_zero_le → ZM
set_option linter.unusedVariables false
set_option linter.unusedSimpArgs false
namespace Go.Proofs.Shadow
open Go
abbrev W (x:Int):Int:=IntKind.wrap .i64 x
theorem X8 {α β:Type} (a:α) (f:α->Option β):((some a:Option α)>>=f)=f a:=rfl
theorem Yf {α:Type} (a:α):(pure a:Option α)=some a:=rfl
theorem Yk {α:Type} (l:List α) (i:Nat) (h:i < l.length):idx l (i:Int)=some l[i]:=by
 simp [idx,h]
theorem UL {α:Type} (l:List α) (i:Int) (h0:0<=i) (h:i < l.length):idx l i=some (l[i.toNat]'(by omega)):=by
 have:=Yk l i.toNat (by omega);rwa [Int.toNat_of_nonneg h0] at this
theorem VV {i:Nat} (h:i < 4611686018427387904):IntKind.wrap .i64 ((i:Int)+1)=((i+1:Nat):Int):=Cw h
theorem Qbx (s:ByteArray) (i:Nat) (h:i < s.size):MU s (i:Int)=some (byt s i):=by
 simp only [MU,Int.toNat_natCast];rw [if_pos ⟨by omega,by omega⟩]
theorem Y6 {α:Type} {n:Nat} {xs ys:List α} (h:(xs.length+ys.length) * n<=140737488355328):WT n xs ys=some (xs++ys):=if_pos h
theorem Qqv {α S:Type} (l:List α) (step:S->α->Option S) (F:S->Int->Option S) (hl:l.length < 4611686018427387904)
  (hF:∀s (i:Nat),i < l.length->∀x,l[i]?=some x->F s i=(step s x).bind fun s'=>F s' (IntKind.i64.wrap ((i:Int)+1))) (hE:∀s,F s l.length=some s):∀s,F s 0=l.foldlM step s:=by
 have key:∀n (i:Nat),i+n=l.length->∀s,F s i=(l.drop i).foldlM step s:=by
  intro n
  induction n with
  | zero =>
   intro i hi s
   have:i=l.length:=by omega
   subst this;rw [hE,List.drop_length];rfl
  | succ n ih =>
   intro i hi s
   have hil:i < l.length:=by omega
   rw [hF s i hil l[i] (List.getElem?_eq_getElem hil),Cw (by omega),ZL hil,List.foldlM_cons];show (step s l[i]).bind _=(step s l[i]).bind _
   congr 1
   funext s';exact ih (i+1) (by omega) s'
 intro s;have:=key l.length 0 (by omega) s;simpa using this
def Tot {α:Type} (o:Option α) (p:α->Prop):Prop:=∃a,o=some a/\p a
theorem Tot.bind {α β:Type} {o:Option α} {p:α->Prop} {k:α->Option β} {q:β->Prop} (h:Tot o p) (hk:∀a,p a->Tot (k a) q):Tot (o>>=k) q:=by
 obtain ⟨a,rfl,ha⟩:=h;exact hk a ha
theorem Tot.pure {α:Type} {a:α} {p:α->Prop} (h:p a):Tot (pure a:Option α) p:=⟨a,rfl,h⟩
theorem Tot.mono {α:Type} {o:Option α} {p q:α->Prop} (h:Tot o p) (hk:∀a,p a->q a):Tot o q:=by
 obtain ⟨a,h1,h2⟩:=h;exact ⟨a,h1,hk a h2⟩
theorem Tot.ite {α:Type} {c:Prop} [Decidable c] {x y:Option α} {p:α->Prop} (h1:c->Tot x p) (h2:¬c->Tot y p):Tot (if c then x else y) p:=by
 split
 ·exact h1 (by assumption)
 ·exact h2 (by assumption)
theorem Tot.true {α:Type} {o:Option α} {p:α->Prop} (h:Tot o p):Tot o fun _=>True:=h.mono fun _ _=>trivial
theorem H8 {α:Type} {l:List α} {i:Int} (h0:0<=i) (h:i < l.length):Tot (idx l i) fun x=>x∈l:=by
 rw [UL l i h0 h];exact ⟨_,rfl,List.getElem_mem _⟩
theorem Ib {s:ByteArray} {i:Int} (h0:0<=i) (h:i < s.size):Tot (MU s i) fun x=>0<=x/\x < 256:=by
 simp only [MU];rw [if_pos ⟨h0,h⟩];exact ⟨_,rfl,Qla s _⟩
theorem AT {α:Type} {n:Nat} {xs ys:List α} (h:(xs.length+ys.length) * n<=140737488355328):Tot (WT n xs ys) fun z=>z=xs++ys:=⟨_,Y6 h,rfl⟩
theorem NG {s:ByteArray} {lo hi:Int} (h0:0<=lo) (h1:lo<=hi) (h2:hi<=s.size):Tot (Qkj s lo hi) fun z=>(z.size:Int)=hi - lo:=by
 simp only [Qkj];rw [if_pos ⟨h0,h1,h2⟩];exact ⟨_,rfl,by simp only [ByteArray.size_extract];omega⟩
theorem Qj0 {α:Type} {l:List α} {lo hi:Int} (h0:0<=lo) (h1:lo<=hi) (h2:hi<=l.length):Tot (Lp l lo hi) fun z=>(z.length:Int)=hi - lo/\∀x∈z,x∈l:=by
 simp only [Lp];rw [if_pos ⟨h0,h1,h2⟩];exact ⟨_,rfl,by simp only [List.length_take,List.length_drop];omega,fun x hx=>List.mem_of_mem_drop (List.mem_of_mem_take hx)⟩
theorem NB {a b:Int} (h:0<=a) (hb:1<=b):Tot (Qju a b) fun r=>0<=r/\r < b:=by
 simp only [Qju];rw [if_neg (by omega)];exact ⟨_,rfl,Int.tmod_nonneg _ h,Int.tmod_lt_of_pos _ (by omega)⟩
theorem Qjt {a b:Int} (h:0<=a) (ha:a < 4611686018427387904) (hb:1<=b):Tot (Qo1 a b) fun r=>0<=r/\r<=a:=by
 have h1:0<=a.tdiv b:=Int.tdiv_nonneg h (by omega);have h2:a.tdiv b<=a:=Int.tdiv_le_self _ h;simp only [Qo1];rw [if_neg (by omega),Y3 (by omega) (by omega)];exact ⟨_,rfl,h1,h2⟩
theorem Qi6 {a b:Int} (ha:0<=a) (ha2:a < 4611686018427387904) (hb:0<=b) (hb2:b < 4611686018427387904):0<=bits .xor .i64 a b/\bits .xor .i64 a b < 4611686018427387904:=by
 obtain ⟨x,rfl⟩:=ZM ha;obtain ⟨y,rfl⟩:=ZM hb;have:=Qne x y (by omega) (by omega);rw [this.1];omega
theorem EW {α β:Type} {xs:List α} (hl:xs.length < 4611686018427387904) (F:Int->Option β) (G:Nat->List α->Option β) (h0:∀(i:Nat),¬(i:Int) < (xs.length:Int)->F (i:Int)=G i [])
  (hs:∀(i:Nat) (h:i < xs.length),(i:Int) < (xs.length:Int)->IntKind.i64.wrap ((i:Int)+1)=((i+1:Nat):Int)->(F ((i+1:Nat):Int)=G (i+1) (xs.drop (i+1)))->F (i:Int)=G i (xs[i] :: xs.drop (i+1))):F 0=G 0 xs:=by
 have key:∀(n i:Nat),i+n=xs.length->F (i:Int)=G i (xs.drop i):=by
  intro n
  induction n with
  | zero=>intro i hi;rw [h0  i (by omega),KR (by omega)]
  | succ n ih =>
   intro i hi;rw [ZL (show i < xs.length by omega)];exact hs  i (by omega) (by omega) (Cw (by omega)) (ih (i+1) (by omega))
 exact key xs.length 0 (Qp _)
theorem NC {α β s0:Type} {xs:List α} (hl:xs.length < 4611686018427387904) (F:s0->Int->Option β) (G:s0->Nat->List α->Option β) (h0:∀(a0:s0) (i:Nat),¬(i:Int) < (xs.length:Int)->F a0 (i:Int)=G a0 i [])
  (hs:∀(a0:s0) (i:Nat) (h:i < xs.length),(i:Int) < (xs.length:Int)->IntKind.i64.wrap ((i:Int)+1)=((i+1:Nat):Int)->(∀a0,F a0 ((i+1:Nat):Int)=G a0 (i+1) (xs.drop (i+1)))->F a0 (i:Int)=G a0 i (xs[i] :: xs.drop (i+1))) (a0:s0):F a0 0=G a0 0 xs:=by
 have key:∀(n i:Nat),i+n=xs.length->∀a0,F a0 (i:Int)=G a0 i (xs.drop i):=by
  intro n
  induction n with
  | zero=>intro i hi a0;rw [h0 a0 i (by omega),KR (by omega)]
  | succ n ih =>
   intro i hi a0;rw [ZL (show i < xs.length by omega)];exact hs a0 i (by omega) (by omega) (Cw (by omega)) (ih (i+1) (by omega))
 exact key xs.length 0 (Qp _) a0
theorem Qqw {α β s0 s1:Type} {xs:List α} (hl:xs.length < 4611686018427387904) (F:s0->s1->Int->Option β) (G:s0->s1->Nat->List α->Option β) (h0:∀(a0:s0) (a1:s1) (i:Nat),¬(i:Int) < (xs.length:Int)->F a0 a1 (i:Int)=G a0 a1 i [])
  (hs:∀(a0:s0) (a1:s1) (i:Nat) (h:i < xs.length),(i:Int) < (xs.length:Int)->IntKind.i64.wrap ((i:Int)+1)=((i+1:Nat):Int)->(∀a0 a1,F a0 a1 ((i+1:Nat):Int)=G a0 a1 (i+1) (xs.drop (i+1)))->F a0 a1 (i:Int)=G a0 a1 i (xs[i] :: xs.drop (i+1))) (a0:s0) (a1:s1):F a0 a1 0=G a0 a1 0 xs:=by
 have key:∀(n i:Nat),i+n=xs.length->∀a0 a1,F a0 a1 (i:Int)=G a0 a1 i (xs.drop i):=by
  intro n
  induction n with
  | zero=>intro i hi a0 a1;rw [h0 a0 a1 i (by omega),KR (by omega)]
  | succ n ih =>
   intro i hi a0 a1;rw [ZL (show i < xs.length by omega)];exact hs a0 a1 i (by omega) (by omega) (Cw (by omega)) (ih (i+1) (by omega))
 exact key xs.length 0 (Qp _) a0 a1
theorem Qug {α β s0 s1 s2 s3 s4:Type} {xs:List α} (hl:xs.length < 4611686018427387904) (F:s0->s1->s2->s3->s4->Int->Option β) (G:s0->s1->s2->s3->s4->Nat->List α->Option β) (h0:∀(a0:s0) (a1:s1) (a2:s2) (a3:s3) (a4:s4) (i:Nat),¬(i:Int) < (xs.length:Int)->F a0 a1 a2 a3 a4 (i:Int)=G a0 a1 a2 a3 a4 i [])
  (hs:∀(a0:s0) (a1:s1) (a2:s2) (a3:s3) (a4:s4) (i:Nat) (h:i < xs.length),(i:Int) < (xs.length:Int)->IntKind.i64.wrap ((i:Int)+1)=((i+1:Nat):Int)->(∀a0 a1 a2 a3 a4,F a0 a1 a2 a3 a4 ((i+1:Nat):Int)=G a0 a1 a2 a3 a4 (i+1) (xs.drop (i+1)))->F a0 a1 a2 a3 a4 (i:Int)=G a0 a1 a2 a3 a4 i (xs[i] :: xs.drop (i+1))) (a0:s0) (a1:s1) (a2:s2) (a3:s3) (a4:s4):F a0 a1 a2 a3 a4 0=G a0 a1 a2 a3 a4 0 xs:=by
 have key:∀(n i:Nat),i+n=xs.length->∀a0 a1 a2 a3 a4,F a0 a1 a2 a3 a4 (i:Int)=G a0 a1 a2 a3 a4 i (xs.drop i):=by
  intro n
  induction n with
  | zero=>intro i hi a0 a1 a2 a3 a4;rw [h0 a0 a1 a2 a3 a4 i (by omega),KR (by omega)]
  | succ n ih =>
   intro i hi a0 a1 a2 a3 a4;rw [ZL (show i < xs.length by omega)];exact hs a0 a1 a2 a3 a4 i (by omega) (by omega) (Cw (by omega)) (ih (i+1) (by omega))
 exact key xs.length 0 (Qp _) a0 a1 a2 a3 a4
theorem Qtg {α β s0 s1 s2 s3 s4 s5:Type} {xs:List α} (hl:xs.length < 4611686018427387904) (F:s0->s1->s2->s3->s4->s5->Int->Option β) (G:s0->s1->s2->s3->s4->s5->Nat->List α->Option β) (h0:∀(a0:s0) (a1:s1) (a2:s2) (a3:s3) (a4:s4) (a5:s5) (i:Nat),¬(i:Int) < (xs.length:Int)->F a0 a1 a2 a3 a4 a5 (i:Int)=G a0 a1 a2 a3 a4 a5 i [])
  (hs:∀(a0:s0) (a1:s1) (a2:s2) (a3:s3) (a4:s4) (a5:s5) (i:Nat) (h:i < xs.length),(i:Int) < (xs.length:Int)->IntKind.i64.wrap ((i:Int)+1)=((i+1:Nat):Int)->(∀a0 a1 a2 a3 a4 a5,F a0 a1 a2 a3 a4 a5 ((i+1:Nat):Int)=G a0 a1 a2 a3 a4 a5 (i+1) (xs.drop (i+1)))->F a0 a1 a2 a3 a4 a5 (i:Int)=G a0 a1 a2 a3 a4 a5 i (xs[i] :: xs.drop (i+1))) (a0:s0) (a1:s1) (a2:s2) (a3:s3) (a4:s4) (a5:s5):F a0 a1 a2 a3 a4 a5 0=G a0 a1 a2 a3 a4 a5 0 xs:=by
 have key:∀(n i:Nat),i+n=xs.length->∀a0 a1 a2 a3 a4 a5,F a0 a1 a2 a3 a4 a5 (i:Int)=G a0 a1 a2 a3 a4 a5 i (xs.drop i):=by
  intro n
  induction n with
  | zero=>intro i hi a0 a1 a2 a3 a4 a5;rw [h0 a0 a1 a2 a3 a4 a5 i (by omega),KR (by omega)]
  | succ n ih =>
   intro i hi a0 a1 a2 a3 a4 a5;rw [ZL (show i < xs.length by omega)];exact hs a0 a1 a2 a3 a4 a5 i (by omega) (by omega) (Cw (by omega)) (ih (i+1) (by omega))
 exact key xs.length 0 (Qp _) a0 a1 a2 a3 a4 a5
end Go.Proofs.Shadow
