/- The frame of the exact laws, over forms: sizes, copies, comparisons. -/
import Derived.Test.YtiiamkelehfnoaaGreatDoorseL
import Derived.Test.YtiiamkelehfnoaaGreatDoorFmA
import Derived.Test.YtiiamkelehfnoaaGreatDoorGx
import Derived.Lib.Join
import Derived.Lib.AppendIntMem
import Derived.Laws.BitsAllLaws
import Derived.Lib.Bytealg
import Derived.Test.YtiiamkelehfnoaaGreatDoorPa
import Derived.Test.YtiiamkelehfnoaaGreatDoorseD
import Derived.Test.YtiiamkelehfnoaaGreatDoorFmH
set_option linter.unusedVariables false
set_option linter.unusedSimpArgs false
set_option maxRecDepth 100000
open Go Go.Proofs Go.Proofs.Shadow
open _root_.Bool renaming and_eq_true → QG, or_eq_true → Kb, not_eq_true' → ZY
open Tot renaming ite → ZP, bind → ZN, pure → ZO
open _root_.ByteArray renaming mk → Qd
open _root_.List renaming getElem_mem → ZU, drop_eq_getElem_cons → ZL
open Fm renaming nodes → ZW
open _root_.Nat renaming lt_or_ge → KD
open Lib renaming indexByte → ZX
namespace Go.Proofs.Shadow
theorem Fm.TZ (f:Fm):f.name.size<=f.sz/\f.sc.length<=f.sz/\f.kids.length<=f.sz:=by rw [Fm.G6];omega
end Go.Proofs.Shadow
namespace Go.Proofs.SA
end Go.Proofs.SA
namespace Go.Proofs.Shadow
def bs (l:List UInt8):ByteArray:=⟨l.toArray⟩
end Go.Proofs.Shadow
namespace Go.Proofs.SA
end Go.Proofs.SA
namespace Go.Proofs.SA
theorem bsm {α β:Type} (a:α) (f:α->Option β):((some a:Option α)>>=f)=f a:=rfl
theorem psm {α:Type} (a:α):(pure a:Option α)=some a:=rfl
def ltG (c:Int):Bool:=((((((decide (c≥97))&&(decide (c<=122)))||decide (c=42))||decide (c=63))||decide (c=61))||decide (c=43))||decide (c=60)
def ltD (c:Int):Bool:=((decide (c≥48))&&(decide (c<=57)))||decide (c=45)
def ltr (c:Int) (b:Bool):Bool:=if ltG c=true then true else if (!b)=true then ltD c else false
theorem Qg0 (c:Int) (b:Bool):Ig c b=some (ltr c b):=by
 unfold Ig ltr;simp only [psm,bsm];show (if ltG c=true then some true else (if (!b)=true then some (ltD c) else some false)>>=fun x44=>some x44)=_;cases ltG c<;>cases b<;>rfl
theorem Qqk:∀n:Fin 256,decide (ZX [42,63,61,43,60] n.val.toUInt8≥0)=((((decide (n.val=42)||decide (n.val=63))||decide (n.val=61))||decide (n.val=43))||decide (n.val=60)):=by decide +kernel
theorem Qr9 {c:Int} (h:0<=c/\c < 256):I8 (Qd #[42,63,61,43,60]) c=some (ZX [42,63,61,43,60] c.toNat.toUInt8):=rfl
theorem Qqi {c:Int} (h:0<=c/\c < 256):decide (ZX [42,63,61,43,60] c.toNat.toUInt8≥0)=((((decide (c=42)||decide (c=63))||decide (c=61))||decide (c=43))||decide (c=60)):=by
 obtain ⟨n,rfl⟩:=Int.eq_ofNat_of_zero_le h.1;have:=Qqk ⟨n,by omega⟩;simp only [Int.toNat_natCast] at this ⊢;rw [this]
 have e:∀k:Nat,decide (n=k)=decide ((n:Int)=(k:Int)):=fun k=>by simp only [Int.ofNat_inj]
 rw [e 42,e 63,e 61,e 43,e 60];rfl
def NP (s:ByteArray) (j:Nat):Prop:=ltr (byt s j) (decide ((j:Int)=0))=true
def NV (s:ByteArray):Prop:=s=Qd #[46,46,46]∨s=Qd #[95]∨(1<=s.size/\s.size<=12/\∀j,j < s.size->NP s j)
theorem Qdd {s : ByteArray} (hs : s.size < 1099511627776) : ∀ (n : Nat) (i : Nat), i + n = s.size -> Tot (V2 s i) fun o => match o with | .inl r => r = false /\ ∃ j, j < s.size /\ ¬ NP s j | .inr _ => ∀ j, i <= j -> j < s.size -> NP s j := by
  intro n
  induction n with
  | zero =>
    intro i hi
    rw [V2, if_neg (by omega)]
    exact ZO (by intro j h1 h2; omega)
  | succ n ih =>
    intro i hi
    have hb := Qla s i
    rw [V2, if_pos (by omega), Qbx s i (by omega), bsm, psm, bsm]
    have e : (if (decide (byt s i ≥ 97) && decide (byt s i <= 122)) = true then pure true else (I8 (Qd #[42, 63, 61, 43, 60]) (byt s i) >>= fun x29 => pure (decide (x29 ≥ 0))) : Option Bool) = some (ltG (byt s i)) := by
      rw [Qr9 hb, bsm, Qqi hb]
      unfold ltG
      cases (decide (byt s i ≥ 97) && decide (byt s i <= 122)) <;> rfl
    rw [e, bsm, VV (by omega)]
    have nxt : NP s i -> Tot (V2 s ((i + 1 : Nat) : Int)) fun o => match o with | .inl r => r = false /\ ∃ j, j < s.size /\ ¬ NP s j | .inr _ => ∀ j, i <= j -> j < s.size -> NP s j := fun hp =>
      (ih (i + 1) (by omega)).mono fun o ho => by
        cases o with
        | inl r => exact ho
        | inr u => intro j h1 h2; rcases KD i j with h | h
                   · exact ho j h h2
                   · rw [show j = i by omega]; exact hp
    refine ZP (fun hg => nxt (by unfold NP ltr; rw [if_pos hg])) (fun hg => ?_)
    have e2 : (if (i : Int) > 0 then (pure (decide (byt s i ≥ 48) && decide (byt s i <= 57)) >>= fun x41 => pure (x41 || decide (byt s i = 45)) >>= fun x45 => pure x45) else pure false : Option Bool) = some (if (!decide ((i : Int) = 0)) = true then ltD (byt s i) else false) := by
      by_cases h0 : (i : Int) = 0
      · rw [if_neg (by omega), decide_eq_true h0]; rfl
      · rw [if_pos (by omega), decide_eq_false h0]; rfl
    rw [e2, bsm]
    have hn : NP s i ↔ (if (!decide ((i : Int) = 0)) = true then ltD (byt s i) else false) = true := by
      unfold NP ltr; rw [if_neg hg]
    refine ZP (fun h => nxt (hn.2 h)) (fun h => ZO ⟨rfl, i, by omega, fun hp => h (hn.1 hp)⟩)
theorem Qg8 {s:ByteArray} (hs:s.size < 1099511627776):Tot (Hr s) fun b=>b=true↔NV s:=by
 unfold Hr;rw [psm,bsm];refine ZP (fun h=>ZO ?_) (fun h=>?_)
 ·simp only [Kb,decide_eq_true_eq] at h;exact ⟨fun _=>h.elim .inl (fun h=>.inr (.inl h)),fun _=>rfl⟩
 simp only [Kb,decide_eq_true_eq,not_or] at h;have:=Qdd hs s.size 0 (by omega);have e0:((0:Nat):Int)=0:=rfl;rw [e0] at this;refine ZN this fun o ho=>?_
 cases o with
 | inl r =>
  obtain ⟨rfl,j,h1,h2⟩:=ho;refine ZO ⟨fun h=>(by cases h),fun hv=>?_⟩
  rcases hv with hv | hv | hv
  ·exact absurd hv h.1
  ·exact absurd hv h.2
  ·exact absurd (hv.2.2 j h1) h2
 | inr u =>
  unfold V7;simp only [psm,bsm];refine ⟨_,rfl,?_⟩;simp only [QG,decide_eq_true_eq];constructor
  ·rintro ⟨h1,h2⟩;exact .inr (.inr ⟨by omega,by omega,fun j hj=>ho j (by omega) hj⟩)
  ·rintro (hv | hv | hv)
   ·exact absurd hv h.1
   ·exact absurd hv h.2
   ·exact ⟨by omega,by omega⟩
theorem Qde {s : ByteArray} : ∀ (n : Nat) (i : Nat), i + n = 13 -> Tot (VR s i) fun o => match o with | .inl r => r = false /\ ∃ j, j < s.size /\ ¬ NP s j | .inr _ => ∀ j, i <= j -> j < s.size -> j <= 12 -> NP s j := by
  intro n
  induction n with
  | zero =>
    intro i hi
    rw [VR, psm, bsm, if_neg (by simp; omega)]
    exact ZO (by intro j h1 h2 h3; omega)
  | succ n ih =>
    intro i hi
    rw [VR, psm, bsm]
    refine ZP (fun hc => ?_) (fun hc => ZO ?_)
    · simp only [QG, decide_eq_true_eq] at hc
      rw [Qbx s i (by omega), bsm, Qg0, bsm, VV (by omega)]
      refine ZP (fun h => ZO ⟨rfl, i, by omega, fun hp => ?_⟩) (fun h => (ih (i + 1) (by omega)).mono fun o ho => ?_)
      · unfold NP at hp; rw [hp] at h; cases h
      · cases o with
        | inl r => exact ho
        | inr u => intro j h1 h2 h3; rcases KD i j with h' | h'
                   · exact ho j h' h2 h3
                   · rw [show j = i by omega]; unfold NP; simpa using h
    · simp only [QG, decide_eq_true_eq] at hc
      intro j h1 h2 h3; omega
theorem US (s:ByteArray):Tot (Jy s) fun b=>b=true↔NV s:=by
 unfold Jy;rw [psm,bsm];refine ZP (fun h=>ZO ?_) (fun h=>?_)
 ·simp only [Kb,decide_eq_true_eq] at h;exact ⟨fun _=>h.elim .inl (fun h=>.inr (.inl h)),fun _=>rfl⟩
 simp only [Kb,decide_eq_true_eq,not_or] at h;have:=Qde (s:=s) 13 0 (by omega);have e0:((0:Nat):Int)=0:=rfl;rw [e0] at this;refine ZN this fun o ho=>?_
 cases o with
 | inl r =>
  obtain ⟨rfl,j,h1,h2⟩:=ho;refine ZO ⟨fun h=>(by cases h),fun hv=>?_⟩
  rcases hv with hv | hv | hv
  ·exact absurd hv h.1
  ·exact absurd hv h.2
  ·exact absurd (hv.2.2 j h1) h2
 | inr u =>
  simp only [psm,bsm];refine ⟨_,rfl,?_⟩;simp only [QG,decide_eq_true_eq];constructor
  ·rintro ⟨h1,h2⟩;exact .inr (.inr ⟨by omega,by omega,fun j hj=>ho j (by omega) hj (by omega)⟩)
  ·rintro (hv | hv | hv)
   ·exact absurd hv h.1
   ·exact absurd hv h.2
   ·exact ⟨by omega,by omega⟩
end Go.Proofs.SA
open Go.IntKind (i64)
namespace Go.Proofs.SA
def SP (l:List Int) (j:Nat):Prop:=1<=l.getD j 0/\l.getD j 0<=99/\(0 < j->l.getD (j - 1) 0 < l.getD j 0)
def SV (l:List Int):Prop:=l.length<=24/\∀j,j < l.length->SP l j
theorem NA {l:List Int} {i:Nat} (h:i < l.length):idx l (i:Int)=some (l.getD i 0):=by
 rw [Yk l i h];simp [h]
theorem Qdt {l:List Int} (hl:l.length < 1099511627776):∀(n:Nat) (i:Nat),i+n=l.length->Tot (Ji l i) fun o=>match o with | .inl r=>r=false/\∃j,j < l.length/\¬SP l j | .inr _=>∀j,i<=j->j < l.length->SP l j:=by
 intro n
 induction n with
 | zero =>
  intro i hi;rw [Ji,if_neg (by omega)];exact ZO (by intro j h1 h2;omega)
 | succ n ih =>
  intro i hi;rw [Ji,if_pos (by omega),NA (by omega),bsm];unfold V7;simp only [psm,bsm]
  have e:Tot (if (!(decide (l.getD i 0≥1)&&decide (l.getD i 0<=99)))=true then some true else (if (i:Int) > 0 then (idx l (i64.wrap ((i:Int) - 1))>>=fun x22=>some (decide (x22≥l.getD i 0))) else some false)>>=fun x26=>some x26:Option Bool) fun b=>b=true↔¬SP l i:=by
   refine ZP (fun h=>⟨_,rfl,fun _ hp=>?_,fun _=>rfl⟩) (fun h=>?_)
   ·rw [decide_eq_true hp.1,decide_eq_true hp.2.1] at h;exact absurd h (by decide)
   ·have hr:1<=l.getD i 0/\l.getD i 0<=99:=Classical.byContradiction fun hn=>h (by
     by_cases h1:l.getD i 0≥1
     ·rw [decide_eq_true h1,decide_eq_false (fun h2=>hn ⟨h1,h2⟩)];rfl
     ·rw [decide_eq_false h1];rfl)
    refine ZN (p:=fun b=>b=true↔¬SP l i) (ZP (fun h0=>?_) (fun h0=>⟨_,rfl,fun h=>(by cases h),fun hn=>absurd ⟨by omega,by omega,fun h=>by omega⟩ hn⟩)) fun b hb=>⟨_,rfl,hb⟩;rw [Y3 (by omega) (by omega),show (i:Int) - 1=((i - 1:Nat):Int) by omega,NA (by omega),bsm];refine ⟨_,rfl,?_⟩;simp only [decide_eq_true_eq];unfold SP;constructor
    ·intro h1 h2;have:=h2.2.2 (by omega);omega
    ·intro h1
     rcases Int.lt_or_le (l.getD (i - 1) 0) (l.getD i 0) with h2 | h2
     ·exact absurd ⟨by omega,by omega,fun _=>h2⟩ h1
     ·exact h2
  refine ZN e fun b hb=>ZP (fun h=>⟨_,rfl,rfl,i,by omega,hb.1 h⟩) (fun h=>?_);rw [VV (by omega)];refine (ih (i+1) (by omega)).mono fun o ho=>?_
  cases o with
  | inl r=>exact ho
  | inr u =>
   intro j h1 h2
   rcases KD i j with h' | h'
   ·exact ho j h' h2
   ·rw [show j=i by omega];exact Classical.byContradiction fun hn=>h (hb.2 hn)
theorem Qht {l:List Int} (hl:l.length < 1099511627776):Tot (Ia l) fun b=>b=true↔SV l:=by
 unfold Ia;have:=Qdt hl l.length 0 (by omega);have e0:((0:Nat):Int)=0:=rfl;rw [e0] at this;refine ZN this fun o ho=>?_
 cases o with
 | inl r =>
  obtain ⟨rfl,j,h1,h2⟩:=ho;exact ⟨_,rfl,fun h=>(by cases h),fun hv=>absurd (hv.2 j h1) h2⟩
 | inr u =>
  refine ⟨_,rfl,?_⟩;simp only [decide_eq_true_eq];exact ⟨fun h=>⟨by omega,fun j hj=>ho j (by omega) hj⟩,fun h=>by have:=h.1;omega⟩
theorem Qdu {l:List Int} : ∀(n:Nat) (i:Nat),i+n=25->Tot (VY l i) fun o=>match o with | .inl r=>r=false/\∃j,j < l.length/\¬SP l j | .inr _=>∀j,i<=j->j < l.length->j<=24->SP l j:=by
 intro n
 induction n with
 | zero =>
  intro i hi;rw [VY,psm,bsm,if_neg (by simp;omega)];exact ZO (by intro j h1 h2 h3;omega)
 | succ n ih =>
  intro i hi;rw [VY,psm,bsm];refine ZP (fun hc=>?_) (fun hc=>ZO ?_)
  ·simp only [QG,decide_eq_true_eq] at hc;rw [NA (by omega),bsm]
   have e:Tot ((if l.getD i 0 < 1 then pure true else (some (l.getD i 0)>>=fun x22=>pure (decide (x22 > 99))):Option Bool)) fun b=>b=true↔¬(1<=l.getD i 0/\l.getD i 0<=99):=by
    refine ZP (fun h=>⟨_,rfl,fun _ hp=>by omega,fun _=>rfl⟩) (fun h=>⟨_,rfl,?_⟩);simp only [decide_eq_true_eq];omega
   refine ZN e fun b hb=>?_
   have e2:Tot (if b=true then pure true else ((if (i:Int) > 0 then (some (l.getD i 0)>>=fun x32=>idx l (i64.wrap ((i:Int) - 1))>>=fun x37=>pure (decide (x32<=x37))) else pure false:Option Bool)>>=fun x40=>pure x40)) fun b=>b=true↔¬SP l i:=by
    refine ZP (fun h=>⟨_,rfl,fun _ hp=>(hb.1 h) ⟨hp.1,hp.2.1⟩,fun _=>rfl⟩) (fun h=>?_);have hr:1<=l.getD i 0/\l.getD i 0<=99:=Classical.byContradiction fun hn=>h (hb.2 hn);refine ZN (p:=fun b=>b=true↔¬SP l i) (ZP (fun h0=>?_) (fun h0=>⟨_,rfl,fun h=>(by cases h),fun hn=>absurd ⟨by omega,by omega,fun h=>by omega⟩ hn⟩)) fun b hb=>⟨_,rfl,hb⟩;rw [bsm,Y3 (by omega) (by omega),show (i:Int) - 1=((i - 1:Nat):Int) by omega,NA (by omega),bsm];refine ⟨_,rfl,?_⟩;simp only [decide_eq_true_eq];unfold SP;constructor
    ·intro h1 h2;have:=h2.2.2 (by omega);omega
    ·intro h1
     rcases Int.lt_or_le (l.getD (i - 1) 0) (l.getD i 0) with h2 | h2
     ·exact absurd ⟨by omega,by omega,fun _=>h2⟩ h1
     ·exact h2
   refine ZN e2 fun b hb=>ZP (fun h=>⟨_,rfl,rfl,i,by omega,hb.1 h⟩) (fun h=>?_);rw [VV (by omega)];refine (ih (i+1) (by omega)).mono fun o ho=>?_
   cases o with
   | inl r=>exact ho
   | inr u =>
    intro j h1 h2 h3
    rcases KD i j with h' | h'
    ·exact ho j h' h2 h3
    ·rw [show j=i by omega];exact Classical.byContradiction fun hn=>h (hb.2 hn)
  ·simp only [QG,decide_eq_true_eq] at hc;intro j h1 h2 h3;omega
theorem Qhu (l:List Int):Tot (Hj l) fun b=>b=true↔SV l:=by
 unfold Hj;have:=Qdu (l:=l) 25 0 (by omega);have e0:((0:Nat):Int)=0:=rfl;rw [e0] at this;refine ZN this fun o ho=>?_
 cases o with
 | inl r =>
  obtain ⟨rfl,j,h1,h2⟩:=ho;exact ⟨_,rfl,fun h=>(by cases h),fun hv=>absurd (hv.2 j h1) h2⟩
 | inr u =>
  refine ⟨_,rfl,?_⟩;simp only [decide_eq_true_eq];exact ⟨fun h=>⟨by omega,fun j hj=>ho j (by omega) hj (by omega)⟩,fun h=>by have:=h.1;omega⟩
end Go.Proofs.SA
namespace Go.Proofs.SA
theorem Qgz {f:Fm} (hf:f.sz < 1000000000):f.kids.length < 1000000000/\f.sc.length < 1000000000:=by
 have:=Fm.G6 f;omega
def FIs:Nat->Fm->Prop
 | 0,_=>False
 | d+1,f=>(f.kind=1/\NV f.name/\f.num=0/\SV f.sc/\f.kids.length=0)∨(f.kind=2/\f.name=Qd #[]/\0<=f.num/\f.num<=999/\f.sc.length=0/\f.kids.length=0)∨(f.kind=3/\f.name=Qd #[]/\f.num=0/\f.sc.length=0/\∀k∈f.kids,FIs d k)
theorem EV {p:Fm->Prop} {l:List Fm} {i:Nat} (h:i < l.length):(∀k∈l.drop i,p k)↔p l[i]/\∀k∈l.drop (i+1),p k:=by
 rw [ZL h,List.forall_mem_cons]
theorem Qax {l:List Fm} {i:Nat} (h:i < l.length):VF ZW (l.drop i)=ZW l[i]+VF ZW (l.drop (i+1)):=by
 rw [ZL h];rfl
theorem Qni:∀(d:Nat),d < 1000->∀(f:Fm),f.sz < 1000000000->Tot (Is f d) fun b=>b=true↔FIs d f:=by
 intro d
 induction d with
 | zero=>intro _ f _;rw [Is,if_pos (by rfl)];exact ⟨_,rfl,fun h=>(by cases h),fun h=>h.elim⟩
 | succ d ih =>
  intro hd f hf;have hk:=Qgz hf;have hz:=Fm.G6 f
  have loop:∀(n:Nat) (i:Nat),i+n=f.kids.length->Tot (Gk f ((d+1:Nat):Int) i) fun o=>match o with | .inl r=>r=false/\¬∀k∈f.kids.drop i,FIs d k | .inr _=>∀k∈f.kids.drop i,FIs d k:=by
   intro n
   induction n with
   | zero=>intro i h;rw [Gk,if_neg (by omega),show i=f.kids.length by omega,List.drop_length];exact ⟨_,rfl,by simp⟩
   | succ n ihn =>
    intro i h
    have hil:i < f.kids.length:=by omega
    rw [Gk,if_pos (by omega),Yk _ i hil,bsm];rw [VV (by omega),Y3 (by omega) (by omega),show ((d+1:Nat):Int) - 1=(d:Int) by omega];have hm:f.kids[i]∈f.kids:=ZU _;refine ZN (ih (by omega) _ (by have:=Fm.J7 hm;omega)) fun b hb=>?_;refine ZP (fun h'=>⟨_,rfl,rfl,fun h2=>?_⟩) (fun h'=>(ihn (i+1) (by omega)).mono fun o ho=>?_)
    ·rw [hb.2 ((EV hil).1 h2).1] at h';cases h'
    ·have hb':FIs d f.kids[i]:=hb.1 (by simpa using h')
     cases o with
     | inl r=>exact ⟨ho.1,fun h2=>ho.2 ((EV hil).1 h2).2⟩
     | inr u=>exact (EV hil).2 ⟨hb',ho⟩
  rw [Is,if_neg (by omega)];refine ZP (fun h1=>?_) (fun h1=>?_)
  ·refine ZN (US _) fun b hb=>?_;rw [psm,bsm];refine ZN (p:=fun b'=>b'=true↔NV f.name/\f.num=0/\SV f.sc) (ZP (fun h=>?_) (fun h=>⟨_,rfl,fun h=>(by cases h),fun hn=>absurd ?_ h⟩)) fun b' hb'=>?_
   ·simp only [QG,decide_eq_true_eq] at h;exact ZN (Qhu _) fun b2 hb2=>⟨_,rfl,fun h'=>⟨hb.1 h.1,h.2,hb2.1 h'⟩,fun h'=>hb2.2 h'.2.2⟩
   ·simp only [QG,decide_eq_true_eq];exact ⟨hb.2 hn.1,hn.2.1⟩
   ·rw [psm,bsm];refine ⟨_,rfl,?_⟩;simp only [QG,decide_eq_true_eq];constructor
    ·rintro ⟨h2,h3⟩;have:=hb'.1 h2;exact .inl ⟨h1,this.1,this.2.1,this.2.2,by omega⟩
    ·rintro (h | h | h)
     ·exact ⟨hb'.2 ⟨h.2.1,h.2.2.1,h.2.2.2.1⟩,by omega⟩
     ·omega
     ·omega
  refine ZP (fun h2=>?_) (fun h2=>?_)
  ·simp only [psm,bsm];refine ⟨_,rfl,?_⟩;simp only [QG,decide_eq_true_eq];constructor
   ·rintro ⟨⟨⟨⟨a,b⟩,c⟩,e⟩,g⟩;exact .inr (.inl ⟨h2,a,b,c,by omega,by omega⟩)
   ·rintro (h | h | h)
    ·omega
    ·exact ⟨⟨⟨⟨h.2.1,h.2.2.1⟩,h.2.2.2.1⟩,by omega⟩,by omega⟩
    ·omega
  simp only [psm,bsm];refine ZP (fun h3=>⟨_,rfl,fun h=>(by cases h),fun hn=>?_⟩) (fun h3=>?_)
  ·rcases hn with h | h | h
   ·exact absurd h.1 h1
   ·exact absurd h.1 h2
   ·rw [decide_eq_true h.1,decide_eq_true h.2.1,decide_eq_true h.2.2.1,decide_eq_true (show ((f.sc.length:Int)=0) by have:=h.2.2.2.1;omega)] at h3;exact absurd h3 (by decide)
  ·simp only [Kb,ZY,decide_eq_false_iff_not,not_or,Classical.not_not] at h3;have:=loop f.kids.length 0 (by omega);have e0:((0:Nat):Int)=0:=rfl;rw [e0,List.drop_zero] at this;refine ZN this fun o ho=>?_
   cases o with
   | inl r =>
    refine ⟨_,rfl,fun h=>(by rw [ho.1] at h;cases h),fun hn=>?_⟩
    rcases hn with h | h | h
    ·exact absurd h.1 h1
    ·exact absurd h.1 h2
    ·exact absurd h.2.2.2.2 ho.2
   | inr u=>exact ⟨_,rfl,fun _=>.inr (.inr ⟨h3.1.1.1,h3.1.1.2,h3.1.2,by have:=h3.2;omega,ho⟩),fun _=>rfl⟩
theorem Qak:∀(f:Fm),f.sz < 1000000000->Gj f=some (f.nodes:Int):=by
 intro f
 induction f using Fm.ind with
 | h f ih =>
  intro hf;have hz:=Fm.G6 f;have hc:=Fm.Vr f;have hcl:=Fm.ND f;rw [Gj]
  have key:∀m (i:Nat),i+m=f.kids.length->WA f (1+VF ZW (f.kids.take i):Int) i=some (f.nodes:Int):=by
   intro m
   induction m with
   | zero =>
    intro i hi;rw [WA,if_neg (by omega),show i=f.kids.length by omega,List.take_length,Yf]
    congr 1;omega
   | succ m ihm =>
    intro i hi
    have hil:i < f.kids.length:=by omega
    have hs:=Qhs ZW f.kids i hil;have hle:=Qn9 ZW f.kids (i+1);rw [WA,if_pos (by omega),Yk _ i hil,X8];rw [ih _ (ZU _) (by have:=Fm.J7 (ZU hil);omega),X8,VV (by omega),Y3 (by omega) (by omega)];have:=ihm (i+1) (by omega);rw [hs] at this;rw [← this]
    congr 1
    omega
  have:=key f.kids.length 0 (by omega);simp only [List.take_zero,VF] at this;have e0:((0:Nat):Int)=0:=rfl;have e1:(1:Int)+((0:Nat):Int)=1:=rfl;rw [e1,e0] at this;rw [this];rfl
def FV (f:Fm):Prop:=FIs 40 f/\f.nodes<=400
theorem Ao {f:Fm} (hf:f.sz < 1000000000):Tot (YW f) fun b=>b=true↔FV f:=by
 unfold YW;refine ZN (Qni 40 (by omega) f hf) fun b hb=>?_;refine ZN (p:=fun b=>b=true↔FV f) (ZP (fun h=>?_) (fun h=>⟨_,rfl,fun h=>(by cases h),fun hn=>absurd (hb.2 hn.1) h⟩)) fun b hb=>⟨_,rfl,hb⟩;rw [Qak f hf,bsm];refine ⟨_,rfl,?_⟩;simp only [decide_eq_true_eq];exact ⟨fun h'=>⟨hb.1 h,by omega⟩,fun h'=>by have:=h'.2;omega⟩
theorem Qnw:∀(f:Fm),f.sz < 1000000000->∀(d:Nat) (a c:Int),a+d=41->1<=a->0<=c->c<=400->Tot (Aq f a c) fun r=>(r.1=true↔FIs d f/\(f.nodes:Int)<=c)/\(r.1=true->r.2=c - f.nodes):=by
 intro f
 induction f using Fm.ind with
 | h f ih =>
  intro hf d a c had ha hc0 hc;have hk:=Qgz hf;have hz:=Fm.G6 f;have hn:=Fm.Vr f;rw [Aq];simp only [psm,bsm];rw [Y3 (a:=c - 1) (by omega) (by omega)];refine ZP (fun h0=>⟨_,rfl,⟨fun h=>(by cases h),fun h=>?_⟩,fun h=>(by cases h)⟩) (fun h0=>?_)
  ·simp only [Kb,decide_eq_true_eq] at h0
   rcases h0 with h0 | h0
   ·omega
   ·obtain rfl:d=0:=by omega
    exact h.1.elim
  simp only [Kb,decide_eq_true_eq,not_or] at h0;obtain ⟨e,rfl⟩:∃e,d=e+1:=⟨d - 1,by omega⟩
  have leaf:f.kids.length=0->f.nodes=1:=fun h=>by
   rw [hn,List.length_eq_zero_iff.1 h];rfl
  refine ZP (fun h1=>?_) (fun h1=>?_)
  ·refine ZN (Qg8 (by omega)) fun b hb=>?_;refine ZN (p:=fun b'=>b'=true↔NV f.name/\f.num=0/\SV f.sc) (ZP (fun h=>?_) (fun h=>⟨_,rfl,fun h=>(by cases h),fun hn=>absurd ?_ h⟩)) fun b' hb'=>?_
   ·simp only [QG,decide_eq_true_eq] at h;exact ZN (Qht (by omega)) fun b2 hb2=>⟨_,rfl,fun h'=>⟨hb.1 h.1,h.2,hb2.1 h'⟩,fun h'=>hb2.2 h'.2.2⟩
   ·simp only [QG,decide_eq_true_eq];exact ⟨hb.2 hn.1,hn.2.1⟩
   ·refine ⟨_,rfl,?_⟩;simp only [QG,decide_eq_true_eq];refine ⟨⟨?_,?_⟩,?_⟩
    ·rintro ⟨h2,h3⟩;have:=hb'.1 h2;have:=leaf (by omega);exact ⟨.inl ⟨h1,(hb'.1 h2).1,(hb'.1 h2).2.1,(hb'.1 h2).2.2,by omega⟩,by omega⟩
    ·rintro ⟨(h | h | h),_⟩
     ·exact ⟨hb'.2 ⟨h.2.1,h.2.2.1,h.2.2.2.1⟩,by omega⟩
     ·omega
     ·omega
    ·rintro ⟨h2,h3⟩;have:=leaf (by omega);omega
  refine ZP (fun h2=>?_) (fun h2=>?_)
  ·refine ZN (p:=fun b'=>b'=true↔f.name=Qd #[]/\0<=f.num/\f.num<=999) (ZP (fun h=>?_) (fun h=>⟨_,rfl,fun h=>(by cases h),fun hn=>absurd hn.1 h⟩)) fun b' hb'=>?_
   ·unfold V7;refine ⟨_,rfl,?_⟩;simp only [QG,decide_eq_true_eq];exact ⟨fun h'=>⟨h,h'.1,h'.2⟩,fun h'=>h'.2⟩
   ·refine ⟨_,rfl,?_⟩;simp only [QG,decide_eq_true_eq];refine ⟨⟨?_,?_⟩,?_⟩
    ·rintro ⟨⟨h3,h4⟩,h5⟩;have:=leaf (by omega);have h6:=hb'.1 h3;exact ⟨.inr (.inl ⟨h2,h6.1,h6.2.1,h6.2.2,by omega,by omega⟩),by omega⟩
    ·rintro ⟨(h | h | h),_⟩
     ·omega
     ·exact ⟨⟨hb'.2 ⟨h.2.1,h.2.2.1,h.2.2.2.1⟩,by omega⟩,by omega⟩
     ·omega
    ·rintro ⟨⟨h3,h4⟩,h5⟩;have:=leaf (by omega);omega
  refine ZP (fun h3=>?_) (fun h3=>⟨_,rfl,⟨fun h=>(by cases h),fun h=>?_⟩,fun h=>(by cases h)⟩)
  ·refine ZP (fun h4=>⟨_,rfl,⟨fun h=>(by cases h),fun h=>?_⟩,fun h=>(by cases h)⟩) (fun h4=>?_)
   ·rcases h.1 with h | h | h
    ·omega
    ·omega
    ·rw [decide_eq_true h.2.1,decide_eq_true h.2.2.1,decide_eq_false (show ¬((f.sc.length:Int) > 0) by have:=h.2.2.2.1;omega)] at h4;exact absurd h4 (by decide)
   ·simp only [Kb,ZY,decide_eq_false_iff_not,decide_eq_true_eq,not_or,Classical.not_not] at h4
    have loop:∀(n:Nat) (i:Nat) (c:Int),i+n=f.kids.length->0<=c->c<=400->Tot (Hs f a i c) fun o=>match o with | .inl r=>r.1=false/\¬((∀k∈f.kids.drop i,FIs e k)/\(VF ZW (f.kids.drop i):Int)<=c) | .inr c'=>(∀k∈f.kids.drop i,FIs e k)/\(VF ZW (f.kids.drop i):Int)<=c/\c'=c - VF ZW (f.kids.drop i):=by
     intro n
     induction n with
     | zero=>intro i c h hc0 hc;rw [Hs,if_neg (by omega),show i=f.kids.length by omega,List.drop_length];exact ⟨_,rfl,by simp [VF],by simp [VF];omega,by simp [VF]⟩
     | succ n ihn =>
      intro i c h hc0 hc
      have hil:i < f.kids.length:=by omega
      rw [Hs,if_pos (by omega),Yk _ i hil,bsm,VV (by omega),Y3 (by omega) (by omega)];have hm:f.kids[i]∈f.kids:=ZU _;refine ZN (ih _ hm (by have:=Fm.J7 hm;omega) e (a+1) c (by omega) (by omega) hc0 hc) fun r hr=>?_;have hs:=Qax hil;refine ZP (fun h'=>⟨_,rfl,rfl,fun h2=>?_⟩) (fun h'=>?_)
      ·rw [hr.1.2 ⟨((EV hil).1 h2.1).1,by have:=h2.2;omega⟩] at h';cases h'
      ·have ht:r.1=true:=by simpa using h'
       have h5:=hr.1.1 ht;have h6:=hr.2 ht;rw [h6];refine (ihn (i+1) _ (by omega) (by omega) (by omega)).mono fun o ho=>?_
       cases o with
       | inl r=>exact ⟨ho.1,fun h2=>ho.2 ⟨((EV hil).1 h2.1).2,by have:=h2.2;omega⟩⟩
       | inr c'=>exact ⟨(EV hil).2 ⟨h5.1,ho.1⟩,by have:=ho.2.1;omega,by have:=ho.2.2;omega⟩
    have:=loop f.kids.length 0 (c - 1) (by omega) (by omega) (by omega);have e0:((0:Nat):Int)=0:=rfl;rw [e0,List.drop_zero] at this;refine ZN this fun o ho=>?_
    cases o with
    | inl r =>
     refine ⟨_,rfl,⟨fun h=>(by rw [ho.1] at h;cases h),fun h=>?_⟩,fun h=>(by rw [ho.1] at h;cases h)⟩
     rcases h.1 with h7 | h7 | h7
     ·omega
     ·omega
     ·exact absurd ⟨h7.2.2.2.2,by have:=h.2;omega⟩ ho.2
    | inr c'=>exact ⟨_,rfl,⟨fun _=>⟨.inr (.inr ⟨h3,h4.1.1,h4.1.2,by have:=h4.2;omega,ho.1⟩),by have:=ho.2.1;omega⟩,fun _=>rfl⟩,fun _=>by have:=ho.2.2;simp only;omega⟩
  ·rcases h.1 with h7 | h7 | h7
   ·omega
   ·omega
   ·omega
theorem Sd {f:Fm} (hf:f.sz < 1000000000):Tot (Gg f) fun b=>b=true↔FV f:=by
 unfold Gg;refine ZN (Qnw f hf 40 1 400 (by omega) (by omega) (by omega) (by omega)) fun r hr=>⟨_,rfl,?_⟩;show r.1=true↔FV f;rw [hr.1];unfold FV;constructor
 ·rintro ⟨h1,h2⟩;exact ⟨h1,by omega⟩
 ·rintro ⟨h1,h2⟩;exact ⟨h1,by omega⟩
end Go.Proofs.SA
namespace Go.Proofs.Shadow
theorem Cor.ind {p:Cor->Prop} (h:∀f,(∀g∈f.kids,p g)->p f) (f:Cor):p f :=
 h f fun g hg=>Cor.ind h g
termination_by SizeOf.sizeOf f
decreasing_by
 obtain ⟨k,i,s,n,l,d,ks⟩:=f;have:=List.sizeOf_lt_of_mem hg;simp only [Cor.kids] at this
 simp;omega
mutual
def Cor.sz:Cor->Nat
 | .mk _ _ s _ l d ks=>s.size+l.length+d.sz+ks.length+Cor.szL ks
def Cor.szL:List Cor->Nat
 | []=>0
 | f :: fs=>f.sz+Cor.szL fs
end
mutual
def Val.sz:Val->Nat
 | .mk _ _ s l f e=>s.size+l.length+Val.szL l+f.sz+e.length+Slt.szL e
def Val.szL:List Val->Nat
 | []=>0
 | f :: fs=>f.sz+Val.szL fs
def Slt.sz:Slt->Nat
 | .mk _ v=>v.sz
def Slt.szL:List Slt->Nat
 | []=>0
 | f :: fs=>f.sz+Slt.szL fs
end
theorem Cor.MX:∀ks,Cor.szL ks=VF Cor.sz ks
 | []=>rfl
 | f :: fs=>by rw [Cor.szL,Cor.MX fs];rfl
theorem Val.MX:∀ks,Val.szL ks=VF Val.sz ks
 | []=>rfl
 | f :: fs=>by rw [Val.szL,Val.MX fs];rfl
theorem Slt.MX:∀ks,Slt.szL ks=VF Slt.sz ks
 | []=>rfl
 | f :: fs=>by rw [Slt.szL,Slt.MX fs];rfl
end Go.Proofs.Shadow
namespace Go.Proofs.SA
end Go.Proofs.SA
namespace Go.Proofs.Shadow
theorem BR {α β:Type} (F:List β->Nat->List α->Option (List β)) (T:α->β) (hn:∀z i,F z i []=some z):∀(l:List α) (z:List β) (i:Nat),(∀x∈l,∀z i r,z.length<=1073741824->F z i (x :: r)=F (z++[T x]) (i+1) r)->z.length+l.length<=1073741824->F z i l=some (z++l.map T):=by
 intro l
 induction l with
 | nil=>intro z i _ _;rw [hn];simp
 | cons x l ih =>
  intro z i hc hz;simp only [List.length_cons] at hz;rw [hc x (List.mem_cons_self ..) z i l (by omega),ih _ _ (fun y hy=>hc y (List.mem_cons_of_mem _ hy)) (by simp;omega),List.map_cons,List.append_assoc];rfl
mutual
def Fm.strip:Fm->Fm
 | .mk k s n _ ks=>.mk k s n [] (Fm.Qbz ks)
def Fm.Qbz:List Fm->List Fm
 | []=>[]
 | f :: fs=>f.strip :: Fm.Qbz fs
end
theorem Fm.TW:∀l,Fm.Qbz l=l.map Fm.strip
 | []=>rfl
 | f :: fs=>by rw [Fm.Qbz,Fm.TW fs];rfl
theorem Fm.NH (f:Fm):f.strip=.mk f.kind f.name f.num [] (f.kids.map Fm.strip):=by cases f;rw [Fm.strip,Fm.TW];rfl
theorem Qb1 {α β:Type} (g:β->Nat) (h:α->β):∀l:List α,VF g (l.map h)=VF (fun x=>g (h x)) l
 | []=>rfl
 | x :: l=>by rw [List.map_cons,VF,VF,Qb1 g h l]
theorem Fm.Qkl (f:Fm):f.strip.sz<=f.sz:=by
 induction f using Fm.ind with
 | h f ih =>
  rw [Fm.G6,Fm.G6 f,Fm.NH];have:=TY (fun x=>Fm.sz (Fm.strip x)) Fm.sz f.kids ih;simp only [Fm.name,Fm.sc,Fm.kids,Qb1,List.length_map,List.length_nil] at this ⊢;omega
def FT:Nat->Fm->List UInt8
 | 0,_=>[]
 | d+1,f=>if f.kind=2 then Lib.itoa f.num else if f.kind=1 then f.name.data.toList else [40]++Lib.join (f.kids.map (FT d)) [32]++[41]
end Go.Proofs.Shadow
namespace Go.Proofs.SA
theorem MV:∀f:Fm,f.sz<=1048576->WW f=some f.strip:=by
 intro f
 induction f using Fm.ind with
 | h f ih =>
  intro hf;have hz:=Fm.G6 f
  rw [WW,FC _ _ (by omega),BR (JV f) Fm.strip (fun _ _=>rfl) f.kids [] 0 (fun x hx z i r hzb=>by
   have:=Fm.J7 hx
   rw [JV,Yf,X8,ih x hx (by omega),X8,Y6 (by simp;omega),X8]) (by simp;omega),X8,Yf,Fm.NH,List.nil_append]
open Classical in
noncomputable def FF (f:Fm):List UInt8:=if FV f.strip then FT 40 f.strip else []
noncomputable def TT (s:Stp):List UInt8:=FF s.use++[32,45,62,32]++FF s.res++[10]
end Go.Proofs.SA
