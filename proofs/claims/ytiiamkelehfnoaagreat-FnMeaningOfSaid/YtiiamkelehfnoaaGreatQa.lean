/- The frame of the exact laws, over forms: sizes, copies, comparisons. -/
import Derived.Test.YtiiamkelehfnoaaGreatmeL
import Derived.Test.YtiiamkelehfnoaaGreatFmA
import Derived.Test.YtiiamkelehfnoaaGreatGx
import Derived.Lib.Join
import Derived.Lib.AppendIntMem
import Derived.Laws.BitsAllLaws
import Derived.Lib.Bytealg
import Derived.Test.YtiiamkelehfnoaaGreatPa
import Derived.Test.YtiiamkelehfnoaaGreatmeD
import Derived.Test.YtiiamkelehfnoaaGreatFmH
set_option linter.unusedVariables false
set_option linter.unusedSimpArgs false
set_option maxRecDepth 100000
open Go Go.Proofs Go.Proofs.Shadow
open _root_.Bool renaming and_eq_true → QG, or_eq_true → Q9, not_eq_true' → ZW
open Tot renaming ite → ZN, bind → ZL, pure → ZM
open _root_.ByteArray renaming mk → Qk
open _root_.List renaming getElem_mem → ZS, drop_eq_getElem_cons → ZJ
open Fm renaming nodes → ZU
open _root_.Nat renaming lt_or_ge → KB
open Lib renaming indexByte → ZV
namespace Go.Proofs.Shadow
theorem Fm.Ui (f:Fm):f.name.size<=f.sz/\f.sc.length<=f.sz/\f.kids.length<=f.sz:=by rw [Fm.G3];omega
end Go.Proofs.Shadow
namespace Go.Proofs.SA
end Go.Proofs.SA
namespace Go.Proofs.Shadow
def bs (l:List UInt8):ByteArray:=⟨l.toArray⟩
end Go.Proofs.Shadow
namespace Go.Proofs.SA
end Go.Proofs.SA
namespace Go.Proofs.SA
theorem bsm {α β:Type} (a:α) (f:α->Option β):((some a:Option α)>>=f)=f a:=rfl
theorem psm {α:Type} (a:α):(pure a:Option α)=some a:=rfl
def ltG (c:Int):Bool:=((((((decide (c≥97))&&(decide (c<=122)))||decide (c=42))||decide (c=63))||decide (c=61))||decide (c=43))||decide (c=60)
def ltD (c:Int):Bool:=((decide (c≥48))&&(decide (c<=57)))||decide (c=45)
def ltr (c:Int) (b:Bool):Bool:=if ltG c=true then true else if (!b)=true then ltD c else false
theorem Qg6 (c:Int) (b:Bool):It c b=some (ltr c b):=by
 unfold It ltr;simp only [psm,bsm];show (if ltG c=true then some true else (if (!b)=true then some (ltD c) else some false)>>=fun x44=>some x44)=_;cases ltG c<;>cases b<;>rfl
theorem Qqf:∀n:Fin 256,decide (ZV [42,63,61,43,60] n.val.toUInt8≥0)=((((decide (n.val=42)||decide (n.val=63))||decide (n.val=61))||decide (n.val=43))||decide (n.val=60)):=by decide +kernel
theorem Qrz {c:Int} (h:0<=c/\c < 256):Ac (Qk #[42,63,61,43,60]) c=some (ZV [42,63,61,43,60] c.toNat.toUInt8):=rfl
theorem Qqd {c:Int} (h:0<=c/\c < 256):decide (ZV [42,63,61,43,60] c.toNat.toUInt8≥0)=((((decide (c=42)||decide (c=63))||decide (c=61))||decide (c=43))||decide (c=60)):=by
 obtain ⟨n,rfl⟩:=Int.eq_ofNat_of_zero_le h.1;have:=Qqf ⟨n,by omega⟩;simp only [Int.toNat_natCast] at this ⊢;rw [this]
 have e:∀k:Nat,decide (n=k)=decide ((n:Int)=(k:Int)):=fun k=>by simp only [Int.ofNat_inj]
 rw [e 42,e 63,e 61,e 43,e 60];rfl
def NP (s:ByteArray) (j:Nat):Prop:=ltr (byt s j) (decide ((j:Int)=0))=true
def NV (s:ByteArray):Prop:=s=Qk #[46,46,46]∨s=Qk #[95]∨(1<=s.size/\s.size<=12/\∀j,j < s.size->NP s j)
theorem Qdq {s : ByteArray} (hs : s.size < 1099511627776) : ∀ (n : Nat) (i : Nat), i + n = s.size -> Tot (V0 s i) fun o => match o with | .inl r => r = false /\ ∃ j, j < s.size /\ ¬ NP s j | .inr _ => ∀ j, i <= j -> j < s.size -> NP s j := by
  intro n
  induction n with
  | zero =>
    intro i hi
    rw [V0, if_neg (by omega)]
    exact ZM (by intro j h1 h2; omega)
  | succ n ih =>
    intro i hi
    have hb := Qlb s i
    rw [V0, if_pos (by omega), Qb9 s i (by omega), bsm, psm, bsm]
    have e : (if (decide (byt s i ≥ 97) && decide (byt s i <= 122)) = true then pure true else (Ac (Qk #[42, 63, 61, 43, 60]) (byt s i) >>= fun x29 => pure (decide (x29 ≥ 0))) : Option Bool) = some (ltG (byt s i)) := by
      rw [Qrz hb, bsm, Qqd hb]
      unfold ltG
      cases (decide (byt s i ≥ 97) && decide (byt s i <= 122)) <;> rfl
    rw [e, bsm, Wp (by omega)]
    have nxt : NP s i -> Tot (V0 s ((i + 1 : Nat) : Int)) fun o => match o with | .inl r => r = false /\ ∃ j, j < s.size /\ ¬ NP s j | .inr _ => ∀ j, i <= j -> j < s.size -> NP s j := fun hp =>
      (ih (i + 1) (by omega)).mono fun o ho => by
        cases o with
        | inl r => exact ho
        | inr u => intro j h1 h2; rcases KB i j with h | h
                   · exact ho j h h2
                   · rw [show j = i by omega]; exact hp
    refine ZN (fun hg => nxt (by unfold NP ltr; rw [if_pos hg])) (fun hg => ?_)
    have e2 : (if (i : Int) > 0 then (pure (decide (byt s i ≥ 48) && decide (byt s i <= 57)) >>= fun x41 => pure (x41 || decide (byt s i = 45)) >>= fun x45 => pure x45) else pure false : Option Bool) = some (if (!decide ((i : Int) = 0)) = true then ltD (byt s i) else false) := by
      by_cases h0 : (i : Int) = 0
      · rw [if_neg (by omega), decide_eq_true h0]; rfl
      · rw [if_pos (by omega), decide_eq_false h0]; rfl
    rw [e2, bsm]
    have hn : NP s i ↔ (if (!decide ((i : Int) = 0)) = true then ltD (byt s i) else false) = true := by
      unfold NP ltr; rw [if_neg hg]
    refine ZN (fun h => nxt (hn.2 h)) (fun h => ZM ⟨rfl, i, by omega, fun hp => h (hn.1 hp)⟩)
theorem Qhd {s:ByteArray} (hs:s.size < 1099511627776):Tot (Hz s) fun b=>b=true↔NV s:=by
 unfold Hz;rw [psm,bsm];refine ZN (fun h=>ZM ?_) (fun h=>?_)
 ·simp only [Q9,decide_eq_true_eq] at h;exact ⟨fun _=>h.elim .inl (fun h=>.inr (.inl h)),fun _=>rfl⟩
 simp only [Q9,decide_eq_true_eq,not_or] at h;have:=Qdq hs s.size 0 (by omega);have e0:((0:Nat):Int)=0:=rfl;rw [e0] at this;refine ZL this fun o ho=>?_
 cases o with
 | inl r =>
  obtain ⟨rfl,j,h1,h2⟩:=ho;refine ZM ⟨fun h=>(by cases h),fun hv=>?_⟩
  rcases hv with hv | hv | hv
  ·exact absurd hv h.1
  ·exact absurd hv h.2
  ·exact absurd (hv.2.2 j h1) h2
 | inr u =>
  unfold V5;simp only [psm,bsm];refine ⟨_,rfl,?_⟩;simp only [QG,decide_eq_true_eq];constructor
  ·rintro ⟨h1,h2⟩;exact .inr (.inr ⟨by omega,by omega,fun j hj=>ho j (by omega) hj⟩)
  ·rintro (hv | hv | hv)
   ·exact absurd hv h.1
   ·exact absurd hv h.2
   ·exact ⟨by omega,by omega⟩
theorem Qdr {s : ByteArray} : ∀ (n : Nat) (i : Nat), i + n = 13 -> Tot (VP s i) fun o => match o with | .inl r => r = false /\ ∃ j, j < s.size /\ ¬ NP s j | .inr _ => ∀ j, i <= j -> j < s.size -> j <= 12 -> NP s j := by
  intro n
  induction n with
  | zero =>
    intro i hi
    rw [VP, psm, bsm, if_neg (by simp; omega)]
    exact ZM (by intro j h1 h2 h3; omega)
  | succ n ih =>
    intro i hi
    rw [VP, psm, bsm]
    refine ZN (fun hc => ?_) (fun hc => ZM ?_)
    · simp only [QG, decide_eq_true_eq] at hc
      rw [Qb9 s i (by omega), bsm, Qg6, bsm, Wp (by omega)]
      refine ZN (fun h => ZM ⟨rfl, i, by omega, fun hp => ?_⟩) (fun h => (ih (i + 1) (by omega)).mono fun o ho => ?_)
      · unfold NP at hp; rw [hp] at h; cases h
      · cases o with
        | inl r => exact ho
        | inr u => intro j h1 h2 h3; rcases KB i j with h' | h'
                   · exact ho j h' h2 h3
                   · rw [show j = i by omega]; unfold NP; simpa using h
    · simp only [QG, decide_eq_true_eq] at hc
      intro j h1 h2 h3; omega
theorem U2 (s:ByteArray):Tot (JB s) fun b=>b=true↔NV s:=by
 unfold JB;rw [psm,bsm];refine ZN (fun h=>ZM ?_) (fun h=>?_)
 ·simp only [Q9,decide_eq_true_eq] at h;exact ⟨fun _=>h.elim .inl (fun h=>.inr (.inl h)),fun _=>rfl⟩
 simp only [Q9,decide_eq_true_eq,not_or] at h;have:=Qdr (s:=s) 13 0 (by omega);have e0:((0:Nat):Int)=0:=rfl;rw [e0] at this;refine ZL this fun o ho=>?_
 cases o with
 | inl r =>
  obtain ⟨rfl,j,h1,h2⟩:=ho;refine ZM ⟨fun h=>(by cases h),fun hv=>?_⟩
  rcases hv with hv | hv | hv
  ·exact absurd hv h.1
  ·exact absurd hv h.2
  ·exact absurd (hv.2.2 j h1) h2
 | inr u =>
  simp only [psm,bsm];refine ⟨_,rfl,?_⟩;simp only [QG,decide_eq_true_eq];constructor
  ·rintro ⟨h1,h2⟩;exact .inr (.inr ⟨by omega,by omega,fun j hj=>ho j (by omega) hj (by omega)⟩)
  ·rintro (hv | hv | hv)
   ·exact absurd hv h.1
   ·exact absurd hv h.2
   ·exact ⟨by omega,by omega⟩
end Go.Proofs.SA
open Go.IntKind (i64)
namespace Go.Proofs.SA
def SP (l:List Int) (j:Nat):Prop:=1<=l.getD j 0/\l.getD j 0<=99/\(0 < j->l.getD (j - 1) 0 < l.getD j 0)
def SV (l:List Int):Prop:=l.length<=24/\∀j,j < l.length->SP l j
theorem NW {l:List Int} {i:Nat} (h:i < l.length):idx l (i:Int)=some (l.getD i 0):=by
 rw [Yi l i h];simp [h]
theorem Qd6 {l:List Int} (hl:l.length < 1099511627776):∀(n:Nat) (i:Nat),i+n=l.length->Tot (Jl l i) fun o=>match o with | .inl r=>r=false/\∃j,j < l.length/\¬SP l j | .inr _=>∀j,i<=j->j < l.length->SP l j:=by
 intro n
 induction n with
 | zero =>
  intro i hi;rw [Jl,if_neg (by omega)];exact ZM (by intro j h1 h2;omega)
 | succ n ih =>
  intro i hi;rw [Jl,if_pos (by omega),NW (by omega),bsm];unfold V5;simp only [psm,bsm]
  have e:Tot (if (!(decide (l.getD i 0≥1)&&decide (l.getD i 0<=99)))=true then some true else (if (i:Int) > 0 then (idx l (i64.wrap ((i:Int) - 1))>>=fun x22=>some (decide (x22≥l.getD i 0))) else some false)>>=fun x26=>some x26:Option Bool) fun b=>b=true↔¬SP l i:=by
   refine ZN (fun h=>⟨_,rfl,fun _ hp=>?_,fun _=>rfl⟩) (fun h=>?_)
   ·rw [decide_eq_true hp.1,decide_eq_true hp.2.1] at h;exact absurd h (by decide)
   ·have hr:1<=l.getD i 0/\l.getD i 0<=99:=Classical.byContradiction fun hn=>h (by
     by_cases h1:l.getD i 0≥1
     ·rw [decide_eq_true h1,decide_eq_false (fun h2=>hn ⟨h1,h2⟩)];rfl
     ·rw [decide_eq_false h1];rfl)
    refine ZL (p:=fun b=>b=true↔¬SP l i) (ZN (fun h0=>?_) (fun h0=>⟨_,rfl,fun h=>(by cases h),fun hn=>absurd ⟨by omega,by omega,fun h=>by omega⟩ hn⟩)) fun b hb=>⟨_,rfl,hb⟩;rw [Y2 (by omega) (by omega),show (i:Int) - 1=((i - 1:Nat):Int) by omega,NW (by omega),bsm];refine ⟨_,rfl,?_⟩;simp only [decide_eq_true_eq];unfold SP;constructor
    ·intro h1 h2;have:=h2.2.2 (by omega);omega
    ·intro h1
     rcases Int.lt_or_le (l.getD (i - 1) 0) (l.getD i 0) with h2 | h2
     ·exact absurd ⟨by omega,by omega,fun _=>h2⟩ h1
     ·exact h2
  refine ZL e fun b hb=>ZN (fun h=>⟨_,rfl,rfl,i,by omega,hb.1 h⟩) (fun h=>?_);rw [Wp (by omega)];refine (ih (i+1) (by omega)).mono fun o ho=>?_
  cases o with
  | inl r=>exact ho
  | inr u =>
   intro j h1 h2
   rcases KB i j with h' | h'
   ·exact ho j h' h2
   ·rw [show j=i by omega];exact Classical.byContradiction fun hn=>h (hb.2 hn)
theorem Qhy {l:List Int} (hl:l.length < 1099511627776):Tot (Ip l) fun b=>b=true↔SV l:=by
 unfold Ip;have:=Qd6 hl l.length 0 (by omega);have e0:((0:Nat):Int)=0:=rfl;rw [e0] at this;refine ZL this fun o ho=>?_
 cases o with
 | inl r =>
  obtain ⟨rfl,j,h1,h2⟩:=ho;exact ⟨_,rfl,fun h=>(by cases h),fun hv=>absurd (hv.2 j h1) h2⟩
 | inr u =>
  refine ⟨_,rfl,?_⟩;simp only [decide_eq_true_eq];exact ⟨fun h=>⟨by omega,fun j hj=>ho j (by omega) hj⟩,fun h=>by have:=h.1;omega⟩
theorem Qd7 {l:List Int} : ∀(n:Nat) (i:Nat),i+n=25->Tot (VX l i) fun o=>match o with | .inl r=>r=false/\∃j,j < l.length/\¬SP l j | .inr _=>∀j,i<=j->j < l.length->j<=24->SP l j:=by
 intro n
 induction n with
 | zero =>
  intro i hi;rw [VX,psm,bsm,if_neg (by simp;omega)];exact ZM (by intro j h1 h2 h3;omega)
 | succ n ih =>
  intro i hi;rw [VX,psm,bsm];refine ZN (fun hc=>?_) (fun hc=>ZM ?_)
  ·simp only [QG,decide_eq_true_eq] at hc;rw [NW (by omega),bsm]
   have e:Tot ((if l.getD i 0 < 1 then pure true else (some (l.getD i 0)>>=fun x22=>pure (decide (x22 > 99))):Option Bool)) fun b=>b=true↔¬(1<=l.getD i 0/\l.getD i 0<=99):=by
    refine ZN (fun h=>⟨_,rfl,fun _ hp=>by omega,fun _=>rfl⟩) (fun h=>⟨_,rfl,?_⟩);simp only [decide_eq_true_eq];omega
   refine ZL e fun b hb=>?_
   have e2:Tot (if b=true then pure true else ((if (i:Int) > 0 then (some (l.getD i 0)>>=fun x32=>idx l (i64.wrap ((i:Int) - 1))>>=fun x37=>pure (decide (x32<=x37))) else pure false:Option Bool)>>=fun x40=>pure x40)) fun b=>b=true↔¬SP l i:=by
    refine ZN (fun h=>⟨_,rfl,fun _ hp=>(hb.1 h) ⟨hp.1,hp.2.1⟩,fun _=>rfl⟩) (fun h=>?_);have hr:1<=l.getD i 0/\l.getD i 0<=99:=Classical.byContradiction fun hn=>h (hb.2 hn);refine ZL (p:=fun b=>b=true↔¬SP l i) (ZN (fun h0=>?_) (fun h0=>⟨_,rfl,fun h=>(by cases h),fun hn=>absurd ⟨by omega,by omega,fun h=>by omega⟩ hn⟩)) fun b hb=>⟨_,rfl,hb⟩;rw [bsm,Y2 (by omega) (by omega),show (i:Int) - 1=((i - 1:Nat):Int) by omega,NW (by omega),bsm];refine ⟨_,rfl,?_⟩;simp only [decide_eq_true_eq];unfold SP;constructor
    ·intro h1 h2;have:=h2.2.2 (by omega);omega
    ·intro h1
     rcases Int.lt_or_le (l.getD (i - 1) 0) (l.getD i 0) with h2 | h2
     ·exact absurd ⟨by omega,by omega,fun _=>h2⟩ h1
     ·exact h2
   refine ZL e2 fun b hb=>ZN (fun h=>⟨_,rfl,rfl,i,by omega,hb.1 h⟩) (fun h=>?_);rw [Wp (by omega)];refine (ih (i+1) (by omega)).mono fun o ho=>?_
   cases o with
   | inl r=>exact ho
   | inr u =>
    intro j h1 h2 h3
    rcases KB i j with h' | h'
    ·exact ho j h' h2 h3
    ·rw [show j=i by omega];exact Classical.byContradiction fun hn=>h (hb.2 hn)
  ·simp only [QG,decide_eq_true_eq] at hc;intro j h1 h2 h3;omega
theorem Qhz (l:List Int):Tot (Hq l) fun b=>b=true↔SV l:=by
 unfold Hq;have:=Qd7 (l:=l) 25 0 (by omega);have e0:((0:Nat):Int)=0:=rfl;rw [e0] at this;refine ZL this fun o ho=>?_
 cases o with
 | inl r =>
  obtain ⟨rfl,j,h1,h2⟩:=ho;exact ⟨_,rfl,fun h=>(by cases h),fun hv=>absurd (hv.2 j h1) h2⟩
 | inr u =>
  refine ⟨_,rfl,?_⟩;simp only [decide_eq_true_eq];exact ⟨fun h=>⟨by omega,fun j hj=>ho j (by omega) hj (by omega)⟩,fun h=>by have:=h.1;omega⟩
end Go.Proofs.SA
namespace Go.Proofs.SA
theorem Qg5 {f:Fm} (hf:f.sz < 1000000000):f.kids.length < 1000000000/\f.sc.length < 1000000000:=by
 have:=Fm.G3 f;omega
def FIs:Nat->Fm->Prop
 | 0,_=>False
 | d+1,f=>(f.kind=1/\NV f.name/\f.num=0/\SV f.sc/\f.kids.length=0)∨(f.kind=2/\f.name=Qk #[]/\0<=f.num/\f.num<=999/\f.sc.length=0/\f.kids.length=0)∨(f.kind=3/\f.name=Qk #[]/\f.num=0/\f.sc.length=0/\∀k∈f.kids,FIs d k)
theorem E6 {p:Fm->Prop} {l:List Fm} {i:Nat} (h:i < l.length):(∀k∈l.drop i,p k)↔p l[i]/\∀k∈l.drop (i+1),p k:=by
 rw [ZJ h,List.forall_mem_cons]
theorem Qa8 {l:List Fm} {i:Nat} (h:i < l.length):VF ZU (l.drop i)=ZU l[i]+VF ZU (l.drop (i+1)):=by
 rw [ZJ h];rfl
theorem Qnj:∀(d:Nat),d < 1000->∀(f:Fm),f.sz < 1000000000->Tot (ID f d) fun b=>b=true↔FIs d f:=by
 intro d
 induction d with
 | zero=>intro _ f _;rw [ID,if_pos (by rfl)];exact ⟨_,rfl,fun h=>(by cases h),fun h=>h.elim⟩
 | succ d ih =>
  intro hd f hf;have hk:=Qg5 hf;have hz:=Fm.G3 f
  have loop:∀(n:Nat) (i:Nat),i+n=f.kids.length->Tot (GA f ((d+1:Nat):Int) i) fun o=>match o with | .inl r=>r=false/\¬∀k∈f.kids.drop i,FIs d k | .inr _=>∀k∈f.kids.drop i,FIs d k:=by
   intro n
   induction n with
   | zero=>intro i h;rw [GA,if_neg (by omega),show i=f.kids.length by omega,List.drop_length];exact ⟨_,rfl,by simp⟩
   | succ n ihn =>
    intro i h
    have hil:i < f.kids.length:=by omega
    rw [GA,if_pos (by omega),Yi _ i hil,bsm];rw [Wp (by omega),Y2 (by omega) (by omega),show ((d+1:Nat):Int) - 1=(d:Int) by omega];have hm:f.kids[i]∈f.kids:=ZS _;refine ZL (ih (by omega) _ (by have:=Fm.J3 hm;omega)) fun b hb=>?_;refine ZN (fun h'=>⟨_,rfl,rfl,fun h2=>?_⟩) (fun h'=>(ihn (i+1) (by omega)).mono fun o ho=>?_)
    ·rw [hb.2 ((E6 hil).1 h2).1] at h';cases h'
    ·have hb':FIs d f.kids[i]:=hb.1 (by simpa using h')
     cases o with
     | inl r=>exact ⟨ho.1,fun h2=>ho.2 ((E6 hil).1 h2).2⟩
     | inr u=>exact (E6 hil).2 ⟨hb',ho⟩
  rw [ID,if_neg (by omega)];refine ZN (fun h1=>?_) (fun h1=>?_)
  ·refine ZL (U2 _) fun b hb=>?_;rw [psm,bsm];refine ZL (p:=fun b'=>b'=true↔NV f.name/\f.num=0/\SV f.sc) (ZN (fun h=>?_) (fun h=>⟨_,rfl,fun h=>(by cases h),fun hn=>absurd ?_ h⟩)) fun b' hb'=>?_
   ·simp only [QG,decide_eq_true_eq] at h;exact ZL (Qhz _) fun b2 hb2=>⟨_,rfl,fun h'=>⟨hb.1 h.1,h.2,hb2.1 h'⟩,fun h'=>hb2.2 h'.2.2⟩
   ·simp only [QG,decide_eq_true_eq];exact ⟨hb.2 hn.1,hn.2.1⟩
   ·rw [psm,bsm];refine ⟨_,rfl,?_⟩;simp only [QG,decide_eq_true_eq];constructor
    ·rintro ⟨h2,h3⟩;have:=hb'.1 h2;exact .inl ⟨h1,this.1,this.2.1,this.2.2,by omega⟩
    ·rintro (h | h | h)
     ·exact ⟨hb'.2 ⟨h.2.1,h.2.2.1,h.2.2.2.1⟩,by omega⟩
     ·omega
     ·omega
  refine ZN (fun h2=>?_) (fun h2=>?_)
  ·simp only [psm,bsm];refine ⟨_,rfl,?_⟩;simp only [QG,decide_eq_true_eq];constructor
   ·rintro ⟨⟨⟨⟨a,b⟩,c⟩,e⟩,g⟩;exact .inr (.inl ⟨h2,a,b,c,by omega,by omega⟩)
   ·rintro (h | h | h)
    ·omega
    ·exact ⟨⟨⟨⟨h.2.1,h.2.2.1⟩,h.2.2.2.1⟩,by omega⟩,by omega⟩
    ·omega
  simp only [psm,bsm];refine ZN (fun h3=>⟨_,rfl,fun h=>(by cases h),fun hn=>?_⟩) (fun h3=>?_)
  ·rcases hn with h | h | h
   ·exact absurd h.1 h1
   ·exact absurd h.1 h2
   ·rw [decide_eq_true h.1,decide_eq_true h.2.1,decide_eq_true h.2.2.1,decide_eq_true (show ((f.sc.length:Int)=0) by have:=h.2.2.2.1;omega)] at h3;exact absurd h3 (by decide)
  ·simp only [Q9,ZW,decide_eq_false_iff_not,not_or,Classical.not_not] at h3;have:=loop f.kids.length 0 (by omega);have e0:((0:Nat):Int)=0:=rfl;rw [e0,List.drop_zero] at this;refine ZL this fun o ho=>?_
   cases o with
   | inl r =>
    refine ⟨_,rfl,fun h=>(by rw [ho.1] at h;cases h),fun hn=>?_⟩
    rcases hn with h | h | h
    ·exact absurd h.1 h1
    ·exact absurd h.1 h2
    ·exact absurd h.2.2.2.2 ho.2
   | inr u=>exact ⟨_,rfl,fun _=>.inr (.inr ⟨h3.1.1.1,h3.1.1.2,h3.1.2,by have:=h3.2;omega,ho⟩),fun _=>rfl⟩
theorem Qat:∀(f:Fm),f.sz < 1000000000->Gv f=some (f.nodes:Int):=by
 intro f
 induction f using Fm.ind with
 | h f ih =>
  intro hf;have hz:=Fm.G3 f;have hc:=Fm.Vo f;have hcl:=Fm.NY f;rw [Gv]
  have key:∀m (i:Nat),i+m=f.kids.length->WD f (1+VF ZU (f.kids.take i):Int) i=some (f.nodes:Int):=by
   intro m
   induction m with
   | zero =>
    intro i hi;rw [WD,if_neg (by omega),show i=f.kids.length by omega,List.take_length,Yf]
    congr 1;omega
   | succ m ihm =>
    intro i hi
    have hil:i < f.kids.length:=by omega
    have hs:=Qhx ZU f.kids i hil;have hle:=Qn8 ZU f.kids (i+1);rw [WD,if_pos (by omega),Yi _ i hil,X6];rw [ih _ (ZS _) (by have:=Fm.J3 (ZS hil);omega),X6,Wp (by omega),Y2 (by omega) (by omega)];have:=ihm (i+1) (by omega);rw [hs] at this;rw [← this]
    congr 1
    omega
  have:=key f.kids.length 0 (by omega);simp only [List.take_zero,VF] at this;have e0:((0:Nat):Int)=0:=rfl;have e1:(1:Int)+((0:Nat):Int)=1:=rfl;rw [e1,e0] at this;rw [this];rfl
def FV (f:Fm):Prop:=FIs 40 f/\f.nodes<=400
theorem Ay {f:Fm} (hf:f.sz < 1000000000):Tot (YT f) fun b=>b=true↔FV f:=by
 unfold YT;refine ZL (Qnj 40 (by omega) f hf) fun b hb=>?_;refine ZL (p:=fun b=>b=true↔FV f) (ZN (fun h=>?_) (fun h=>⟨_,rfl,fun h=>(by cases h),fun hn=>absurd (hb.2 hn.1) h⟩)) fun b hb=>⟨_,rfl,hb⟩;rw [Qat f hf,bsm];refine ⟨_,rfl,?_⟩;simp only [decide_eq_true_eq];exact ⟨fun h'=>⟨hb.1 h,by omega⟩,fun h'=>by have:=h'.2;omega⟩
theorem Qnw:∀(f:Fm),f.sz < 1000000000->∀(d:Nat) (a c:Int),a+d=41->1<=a->0<=c->c<=400->Tot (AA f a c) fun r=>(r.1=true↔FIs d f/\(f.nodes:Int)<=c)/\(r.1=true->r.2=c - f.nodes):=by
 intro f
 induction f using Fm.ind with
 | h f ih =>
  intro hf d a c had ha hc0 hc;have hk:=Qg5 hf;have hz:=Fm.G3 f;have hn:=Fm.Vo f;rw [AA];simp only [psm,bsm];rw [Y2 (a:=c - 1) (by omega) (by omega)];refine ZN (fun h0=>⟨_,rfl,⟨fun h=>(by cases h),fun h=>?_⟩,fun h=>(by cases h)⟩) (fun h0=>?_)
  ·simp only [Q9,decide_eq_true_eq] at h0
   rcases h0 with h0 | h0
   ·omega
   ·obtain rfl:d=0:=by omega
    exact h.1.elim
  simp only [Q9,decide_eq_true_eq,not_or] at h0;obtain ⟨e,rfl⟩:∃e,d=e+1:=⟨d - 1,by omega⟩
  have leaf:f.kids.length=0->f.nodes=1:=fun h=>by
   rw [hn,List.length_eq_zero_iff.1 h];rfl
  refine ZN (fun h1=>?_) (fun h1=>?_)
  ·refine ZL (Qhd (by omega)) fun b hb=>?_;refine ZL (p:=fun b'=>b'=true↔NV f.name/\f.num=0/\SV f.sc) (ZN (fun h=>?_) (fun h=>⟨_,rfl,fun h=>(by cases h),fun hn=>absurd ?_ h⟩)) fun b' hb'=>?_
   ·simp only [QG,decide_eq_true_eq] at h;exact ZL (Qhy (by omega)) fun b2 hb2=>⟨_,rfl,fun h'=>⟨hb.1 h.1,h.2,hb2.1 h'⟩,fun h'=>hb2.2 h'.2.2⟩
   ·simp only [QG,decide_eq_true_eq];exact ⟨hb.2 hn.1,hn.2.1⟩
   ·refine ⟨_,rfl,?_⟩;simp only [QG,decide_eq_true_eq];refine ⟨⟨?_,?_⟩,?_⟩
    ·rintro ⟨h2,h3⟩;have:=hb'.1 h2;have:=leaf (by omega);exact ⟨.inl ⟨h1,(hb'.1 h2).1,(hb'.1 h2).2.1,(hb'.1 h2).2.2,by omega⟩,by omega⟩
    ·rintro ⟨(h | h | h),_⟩
     ·exact ⟨hb'.2 ⟨h.2.1,h.2.2.1,h.2.2.2.1⟩,by omega⟩
     ·omega
     ·omega
    ·rintro ⟨h2,h3⟩;have:=leaf (by omega);omega
  refine ZN (fun h2=>?_) (fun h2=>?_)
  ·refine ZL (p:=fun b'=>b'=true↔f.name=Qk #[]/\0<=f.num/\f.num<=999) (ZN (fun h=>?_) (fun h=>⟨_,rfl,fun h=>(by cases h),fun hn=>absurd hn.1 h⟩)) fun b' hb'=>?_
   ·unfold V5;refine ⟨_,rfl,?_⟩;simp only [QG,decide_eq_true_eq];exact ⟨fun h'=>⟨h,h'.1,h'.2⟩,fun h'=>h'.2⟩
   ·refine ⟨_,rfl,?_⟩;simp only [QG,decide_eq_true_eq];refine ⟨⟨?_,?_⟩,?_⟩
    ·rintro ⟨⟨h3,h4⟩,h5⟩;have:=leaf (by omega);have h6:=hb'.1 h3;exact ⟨.inr (.inl ⟨h2,h6.1,h6.2.1,h6.2.2,by omega,by omega⟩),by omega⟩
    ·rintro ⟨(h | h | h),_⟩
     ·omega
     ·exact ⟨⟨hb'.2 ⟨h.2.1,h.2.2.1,h.2.2.2.1⟩,by omega⟩,by omega⟩
     ·omega
    ·rintro ⟨⟨h3,h4⟩,h5⟩;have:=leaf (by omega);omega
  refine ZN (fun h3=>?_) (fun h3=>⟨_,rfl,⟨fun h=>(by cases h),fun h=>?_⟩,fun h=>(by cases h)⟩)
  ·refine ZN (fun h4=>⟨_,rfl,⟨fun h=>(by cases h),fun h=>?_⟩,fun h=>(by cases h)⟩) (fun h4=>?_)
   ·rcases h.1 with h | h | h
    ·omega
    ·omega
    ·rw [decide_eq_true h.2.1,decide_eq_true h.2.2.1,decide_eq_false (show ¬((f.sc.length:Int) > 0) by have:=h.2.2.2.1;omega)] at h4;exact absurd h4 (by decide)
   ·simp only [Q9,ZW,decide_eq_false_iff_not,decide_eq_true_eq,not_or,Classical.not_not] at h4
    have loop:∀(n:Nat) (i:Nat) (c:Int),i+n=f.kids.length->0<=c->c<=400->Tot (HA f a i c) fun o=>match o with | .inl r=>r.1=false/\¬((∀k∈f.kids.drop i,FIs e k)/\(VF ZU (f.kids.drop i):Int)<=c) | .inr c'=>(∀k∈f.kids.drop i,FIs e k)/\(VF ZU (f.kids.drop i):Int)<=c/\c'=c - VF ZU (f.kids.drop i):=by
     intro n
     induction n with
     | zero=>intro i c h hc0 hc;rw [HA,if_neg (by omega),show i=f.kids.length by omega,List.drop_length];exact ⟨_,rfl,by simp [VF],by simp [VF];omega,by simp [VF]⟩
     | succ n ihn =>
      intro i c h hc0 hc
      have hil:i < f.kids.length:=by omega
      rw [HA,if_pos (by omega),Yi _ i hil,bsm,Wp (by omega),Y2 (by omega) (by omega)];have hm:f.kids[i]∈f.kids:=ZS _;refine ZL (ih _ hm (by have:=Fm.J3 hm;omega) e (a+1) c (by omega) (by omega) hc0 hc) fun r hr=>?_;have hs:=Qa8 hil;refine ZN (fun h'=>⟨_,rfl,rfl,fun h2=>?_⟩) (fun h'=>?_)
      ·rw [hr.1.2 ⟨((E6 hil).1 h2.1).1,by have:=h2.2;omega⟩] at h';cases h'
      ·have ht:r.1=true:=by simpa using h'
       have h5:=hr.1.1 ht;have h6:=hr.2 ht;rw [h6];refine (ihn (i+1) _ (by omega) (by omega) (by omega)).mono fun o ho=>?_
       cases o with
       | inl r=>exact ⟨ho.1,fun h2=>ho.2 ⟨((E6 hil).1 h2.1).2,by have:=h2.2;omega⟩⟩
       | inr c'=>exact ⟨(E6 hil).2 ⟨h5.1,ho.1⟩,by have:=ho.2.1;omega,by have:=ho.2.2;omega⟩
    have:=loop f.kids.length 0 (c - 1) (by omega) (by omega) (by omega);have e0:((0:Nat):Int)=0:=rfl;rw [e0,List.drop_zero] at this;refine ZL this fun o ho=>?_
    cases o with
    | inl r =>
     refine ⟨_,rfl,⟨fun h=>(by rw [ho.1] at h;cases h),fun h=>?_⟩,fun h=>(by rw [ho.1] at h;cases h)⟩
     rcases h.1 with h7 | h7 | h7
     ·omega
     ·omega
     ·exact absurd ⟨h7.2.2.2.2,by have:=h.2;omega⟩ ho.2
    | inr c'=>exact ⟨_,rfl,⟨fun _=>⟨.inr (.inr ⟨h3,h4.1.1,h4.1.2,by have:=h4.2;omega,ho.1⟩),by have:=ho.2.1;omega⟩,fun _=>rfl⟩,fun _=>by have:=ho.2.2;simp only;omega⟩
  ·rcases h.1 with h7 | h7 | h7
   ·omega
   ·omega
   ·omega
theorem UQ {f:Fm} (hf:f.sz < 1000000000):Tot (Hy f) fun b=>b=true↔FV f:=by
 unfold Hy;refine ZL (Qnw f hf 40 1 400 (by omega) (by omega) (by omega) (by omega)) fun r hr=>⟨_,rfl,?_⟩;show r.1=true↔FV f;rw [hr.1];unfold FV;constructor
 ·rintro ⟨h1,h2⟩;exact ⟨h1,by omega⟩
 ·rintro ⟨h1,h2⟩;exact ⟨h1,by omega⟩
end Go.Proofs.SA
namespace Go.Proofs.Shadow
theorem Cor.ind {p:Cor->Prop} (h:∀f,(∀g∈f.kids,p g)->p f) (f:Cor):p f :=
 h f fun g hg=>Cor.ind h g
termination_by SizeOf.sizeOf f
decreasing_by
 obtain ⟨k,i,s,n,l,d,ks⟩:=f;have:=List.sizeOf_lt_of_mem hg;simp only [Cor.kids] at this
 simp;omega
mutual
def Cor.sz:Cor->Nat
 | .mk _ _ s _ l d ks=>s.size+l.length+d.sz+ks.length+Cor.szL ks
def Cor.szL:List Cor->Nat
 | []=>0
 | f :: fs=>f.sz+Cor.szL fs
end
mutual
def Val.sz:Val->Nat
 | .mk _ _ s l f e=>s.size+l.length+Val.szL l+f.sz+e.length+Slt.szL e
def Val.szL:List Val->Nat
 | []=>0
 | f :: fs=>f.sz+Val.szL fs
def Slt.sz:Slt->Nat
 | .mk _ v=>v.sz
def Slt.szL:List Slt->Nat
 | []=>0
 | f :: fs=>f.sz+Slt.szL fs
end
theorem Cor.Ng:∀ks,Cor.szL ks=VF Cor.sz ks
 | []=>rfl
 | f :: fs=>by rw [Cor.szL,Cor.Ng fs];rfl
theorem Val.Ng:∀ks,Val.szL ks=VF Val.sz ks
 | []=>rfl
 | f :: fs=>by rw [Val.szL,Val.Ng fs];rfl
theorem Slt.Ng:∀ks,Slt.szL ks=VF Slt.sz ks
 | []=>rfl
 | f :: fs=>by rw [Slt.szL,Slt.Ng fs];rfl
end Go.Proofs.Shadow
namespace Go.Proofs.SA
end Go.Proofs.SA
namespace Go.Proofs.Shadow
theorem AY {α β:Type} (F:List β->Nat->List α->Option (List β)) (T:α->β) (hn:∀z i,F z i []=some z):∀(l:List α) (z:List β) (i:Nat),(∀x∈l,∀z i r,z.length<=1073741824->F z i (x :: r)=F (z++[T x]) (i+1) r)->z.length+l.length<=1073741824->F z i l=some (z++l.map T):=by
 intro l
 induction l with
 | nil=>intro z i _ _;rw [hn];simp
 | cons x l ih =>
  intro z i hc hz;simp only [List.length_cons] at hz;rw [hc x (List.mem_cons_self ..) z i l (by omega),ih _ _ (fun y hy=>hc y (List.mem_cons_of_mem _ hy)) (by simp;omega),List.map_cons,List.append_assoc];rfl
mutual
def Fm.strip:Fm->Fm
 | .mk k s n _ ks=>.mk k s n [] (Fm.Qcb ks)
def Fm.Qcb:List Fm->List Fm
 | []=>[]
 | f :: fs=>f.strip :: Fm.Qcb fs
end
theorem Fm.Ug:∀l,Fm.Qcb l=l.map Fm.strip
 | []=>rfl
 | f :: fs=>by rw [Fm.Qcb,Fm.Ug fs];rfl
theorem Fm.N1 (f:Fm):f.strip=.mk f.kind f.name f.num [] (f.kids.map Fm.strip):=by cases f;rw [Fm.strip,Fm.Ug];rfl
theorem Qcd {α β:Type} (g:β->Nat) (h:α->β):∀l:List α,VF g (l.map h)=VF (fun x=>g (h x)) l
 | []=>rfl
 | x :: l=>by rw [List.map_cons,VF,VF,Qcd g h l]
theorem Fm.Qkn (f:Fm):f.strip.sz<=f.sz:=by
 induction f using Fm.ind with
 | h f ih =>
  rw [Fm.G3,Fm.G3 f,Fm.N1];have:=Uh (fun x=>Fm.sz (Fm.strip x)) Fm.sz f.kids ih;simp only [Fm.name,Fm.sc,Fm.kids,Qcd,List.length_map,List.length_nil] at this ⊢;omega
def FT:Nat->Fm->List UInt8
 | 0,_=>[]
 | d+1,f=>if f.kind=2 then Lib.itoa f.num else if f.kind=1 then f.name.data.toList else [40]++Lib.join (f.kids.map (FT d)) [32]++[41]
end Go.Proofs.Shadow
namespace Go.Proofs.SA
theorem Nd:∀f:Fm,f.sz<=1048576->W0 f=some f.strip:=by
 intro f
 induction f using Fm.ind with
 | h f ih =>
  intro hf;have hz:=Fm.G3 f
  rw [W0,FY _ _ (by omega),AY (J1 f) Fm.strip (fun _ _=>rfl) f.kids [] 0 (fun x hx z i r hzb=>by
   have:=Fm.J3 hx
   rw [J1,Yf,X6,ih x hx (by omega),X6,Y1 (by simp;omega),X6]) (by simp;omega),X6,Yf,Fm.N1,List.nil_append]
open Classical in
noncomputable def FF (f:Fm):List UInt8:=if FV f.strip then FT 40 f.strip else []
noncomputable def TT (s:Stp):List UInt8:=FF s.use++[32,45,62,32]++FF s.res++[10]
end Go.Proofs.SA
