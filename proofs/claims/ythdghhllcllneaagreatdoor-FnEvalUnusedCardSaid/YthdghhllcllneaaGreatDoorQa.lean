/- The frame of the exact laws, over forms: sizes, copies, comparisons. -/
import Derived.Test.YthdghhllcllneaaGreatDooreuL
import Derived.Test.YthdghhllcllneaaGreatDoorFmA
import Derived.Test.YthdghhllcllneaaGreatDoorGv
import Derived.Laws.BitsAllLaws
import Derived.Lib.Bytealg
import Derived.Test.YthdghhllcllneaaGreatDoorPa
import Derived.Test.YthdghhllcllneaaGreatDooreuD
import Derived.Test.YthdghhllcllneaaGreatDoorFmH
set_option linter.unusedVariables false
set_option linter.unusedSimpArgs false
set_option maxRecDepth 100000
open Go Go.Proofs Go.Proofs.Shadow
open _root_.Bool renaming and_eq_true → QG, or_eq_true → Q9, not_eq_true' → ZP
open _root_.List renaming length_cons → ZE, length_nil → ZD, drop_eq_getElem_cons → Zx, length_map → ZI, length_append → QV, sizeOf_lt_of_mem → ZJ, getElem_mem → ZK, mem_cons_of_mem → Kf, mem_cons_self → KB, map_cons → QH, drop_zero → ZN, append_assoc → QD
open Tot renaming ite → ZC, bind → ZA, pure → ZB
open _root_.ByteArray renaming mk → Qk
open _root_.Nat renaming lt_or_ge → KA
open Fm renaming nodes → ZL
open Lib renaming itoa → ZM, indexByte → ZO, join → ZQ, lens → ZR, nDigits → ZS
namespace Go.Proofs.Shadow
theorem Fm.T1 (f:Fm):f.name.size<=f.sz/\f.sc.length<=f.sz/\f.kids.length<=f.sz:=by rw [Fm.Gb];omega
end Go.Proofs.Shadow
namespace Go.Proofs.SA
end Go.Proofs.SA
namespace Go.Proofs.Shadow
def bs (l:List UInt8):ByteArray:=⟨l.toArray⟩
theorem LJ (l:List UInt8):(bs l).size=l.length:=by simp [bs,ByteArray.size]
theorem Qga (a b:List UInt8):bs a++bs b=bs (a++b):=by
 apply ByteArray.ext;rw [ByteArray.data_append];simp [bs]
theorem Qnr (s:ByteArray):bs s.data.toList=s:=by cases s;rfl
theorem Qdm {u:Nat} (h:u < 10000000000000000000):ZS u<=19:=by
 rcases KA 19 (ZS u) with h1 | h1
 ·exfalso
  have:∀k u:Nat,k+1<=ZS u->10 ^ k<=u∨k=0:=by
   intro k
   induction k with
   | zero=>intro u _;exact .inr rfl
   | succ k ih =>
    intro u hu;left
    by_cases h10:u < 10
    ·rw [Lib.nDigits_small h10] at hu;omega
    ·rw [Lib.nDigits_big h10] at hu
     rcases ih (u / 10) (by omega) with h2 | h2
     ·rw [Nat.pow_succ];omega
     ·subst h2;simp;omega
  rcases this 19 u h1 with h2 | h2
  ·omega
  ·cases h2
 ·exact h1
theorem Qgl {u:Nat} (h:u < 10000000000000000000):(Lib.decDigits u).length<=19:=by rw [Lib.decDigits_length];exact Qdm h
theorem Nv {n:Int} (h0:-9223372036854775808<=n) (h1:n<=9223372036854775807):(ZM n).length<=20:=by
 unfold ZM;split
 ·have:=Qgl (u:=n.natAbs) (by omega);simp only [ZE];omega
 ·have:=Qgl (u:=n.toNat) (by omega);omega
theorem Qbr {n:Int} (h0:-9223372036854775808<=n) (h1:n<=9223372036854775807):Qhj n=some (bs (ZM n)):=by
 have:=Nv h0 h1;unfold Qhj;rw [if_pos ⟨h0,h1,by omega⟩];rfl
end Go.Proofs.Shadow
namespace Go.Proofs.SA
end Go.Proofs.SA
namespace Go.Proofs.SA
theorem bsm {α β:Type} (a:α) (f:α->Option β):((some a:Option α)>>=f)=f a:=rfl
theorem psm {α:Type} (a:α):(pure a:Option α)=some a:=rfl
def ltG (c:Int):Bool:=((((((decide (c≥97))&&(decide (c<=122)))||decide (c=42))||decide (c=63))||decide (c=61))||decide (c=43))||decide (c=60)
def ltD (c:Int):Bool:=((decide (c≥48))&&(decide (c<=57)))||decide (c=45)
def ltr (c:Int) (b:Bool):Bool:=if ltG c=true then true else if (!b)=true then ltD c else false
theorem Qhp (c:Int) (b:Bool):H9 c b=some (ltr c b):=by
 unfold H9 ltr;simp only [psm,bsm];show (if ltG c=true then some true else (if (!b)=true then some (ltD c) else some false)>>=fun x44=>some x44)=_;cases ltG c<;>cases b<;>rfl
theorem Qr9:∀n:Fin 256,decide (ZO [42,63,61,43,60] n.val.toUInt8≥0)=((((decide (n.val=42)||decide (n.val=63))||decide (n.val=61))||decide (n.val=43))||decide (n.val=60)):=by decide +kernel
theorem Qt8 {c:Int} (h:0<=c/\c < 256):IZ (Qk #[42,63,61,43,60]) c=some (ZO [42,63,61,43,60] c.toNat.toUInt8):=rfl
theorem Qr7 {c:Int} (h:0<=c/\c < 256):decide (ZO [42,63,61,43,60] c.toNat.toUInt8≥0)=((((decide (c=42)||decide (c=63))||decide (c=61))||decide (c=43))||decide (c=60)):=by
 obtain ⟨n,rfl⟩:=Int.eq_ofNat_of_zero_le h.1;have:=Qr9 ⟨n,by omega⟩;simp only [Int.toNat_natCast] at this ⊢;rw [this]
 have e:∀k:Nat,decide (n=k)=decide ((n:Int)=(k:Int)):=fun k=>by simp only [Int.ofNat_inj]
 rw [e 42,e 63,e 61,e 43,e 60];rfl
def NP (s:ByteArray) (j:Nat):Prop:=ltr (byt s j) (decide ((j:Int)=0))=true
def NV (s:ByteArray):Prop:=s=Qk #[46,46,46]∨s=Qk #[95]∨(1<=s.size/\s.size<=12/\∀j,j < s.size->NP s j)
theorem Qdp {s : ByteArray} (hs : s.size < 1099511627776) : ∀ (n : Nat) (i : Nat), i + n = s.size -> Tot (VC s i) fun o => match o with | .inl r => r = false /\ ∃ j, j < s.size /\ ¬ NP s j | .inr _ => ∀ j, i <= j -> j < s.size -> NP s j := by
  intro n
  induction n with
  | zero =>
    intro i hi
    rw [VC, if_neg (by omega)]
    exact ZB (by intro j h1 h2; omega)
  | succ n ih =>
    intro i hi
    have hb := Ql8 s i
    rw [VC, if_pos (by omega), Qb5 s i (by omega), bsm, psm, bsm]
    have e : (if (decide (byt s i ≥ 97) && decide (byt s i <= 122)) = true then pure true else (IZ (Qk #[42, 63, 61, 43, 60]) (byt s i) >>= fun x29 => pure (decide (x29 ≥ 0))) : Option Bool) = some (ltG (byt s i)) := by
      rw [Qt8 hb, bsm, Qr7 hb]
      unfold ltG
      cases (decide (byt s i ≥ 97) && decide (byt s i <= 122)) <;> rfl
    rw [e, bsm, Wu (by omega)]
    have nxt : NP s i -> Tot (VC s ((i + 1 : Nat) : Int)) fun o => match o with | .inl r => r = false /\ ∃ j, j < s.size /\ ¬ NP s j | .inr _ => ∀ j, i <= j -> j < s.size -> NP s j := fun hp =>
      (ih (i + 1) (by omega)).mono fun o ho => by
        cases o with
        | inl r => exact ho
        | inr u => intro j h1 h2; rcases KA i j with h | h
                   · exact ho j h h2
                   · rw [show j = i by omega]; exact hp
    refine ZC (fun hg => nxt (by unfold NP ltr; rw [if_pos hg])) (fun hg => ?_)
    have e2 : (if (i : Int) > 0 then (pure (decide (byt s i ≥ 48) && decide (byt s i <= 57)) >>= fun x41 => pure (x41 || decide (byt s i = 45)) >>= fun x45 => pure x45) else pure false : Option Bool) = some (if (!decide ((i : Int) = 0)) = true then ltD (byt s i) else false) := by
      by_cases h0 : (i : Int) = 0
      · rw [if_neg (by omega), decide_eq_true h0]; rfl
      · rw [if_pos (by omega), decide_eq_false h0]; rfl
    rw [e2, bsm]
    have hn : NP s i ↔ (if (!decide ((i : Int) = 0)) = true then ltD (byt s i) else false) = true := by
      unfold NP ltr; rw [if_neg hg]
    refine ZC (fun h => nxt (hn.2 h)) (fun h => ZB ⟨rfl, i, by omega, fun hp => h (hn.1 hp)⟩)
theorem Qht {s:ByteArray} (hs:s.size < 1099511627776):Tot (Iq s) fun b=>b=true↔NV s:=by
 unfold Iq;rw [psm,bsm];refine ZC (fun h=>ZB ?_) (fun h=>?_)
 ·simp only [Q9,decide_eq_true_eq] at h;exact ⟨fun _=>h.elim .inl (fun h=>.inr (.inl h)),fun _=>rfl⟩
 simp only [Q9,decide_eq_true_eq,not_or] at h;have:=Qdp hs s.size 0 (by omega);have e0:((0:Nat):Int)=0:=rfl;rw [e0] at this;refine ZA this fun o ho=>?_
 cases o with
 | inl r =>
  obtain ⟨rfl,j,h1,h2⟩:=ho;refine ZB ⟨fun h=>(by cases h),fun hv=>?_⟩
  rcases hv with hv | hv | hv
  ·exact absurd hv h.1
  ·exact absurd hv h.2
  ·exact absurd (hv.2.2 j h1) h2
 | inr u =>
  unfold Wv;simp only [psm,bsm];refine ⟨_,rfl,?_⟩;simp only [QG,decide_eq_true_eq];constructor
  ·rintro ⟨h1,h2⟩;exact .inr (.inr ⟨by omega,by omega,fun j hj=>ho j (by omega) hj⟩)
  ·rintro (hv | hv | hv)
   ·exact absurd hv h.1
   ·exact absurd hv h.2
   ·exact ⟨by omega,by omega⟩
theorem Qdq {s : ByteArray} : ∀ (n : Nat) (i : Nat), i + n = 13 -> Tot (Vr s i) fun o => match o with | .inl r => r = false /\ ∃ j, j < s.size /\ ¬ NP s j | .inr _ => ∀ j, i <= j -> j < s.size -> j <= 12 -> NP s j := by
  intro n
  induction n with
  | zero =>
    intro i hi
    rw [Vr, psm, bsm, if_neg (by simp; omega)]
    exact ZB (by intro j h1 h2 h3; omega)
  | succ n ih =>
    intro i hi
    rw [Vr, psm, bsm]
    refine ZC (fun hc => ?_) (fun hc => ZB ?_)
    · simp only [QG, decide_eq_true_eq] at hc
      rw [Qb5 s i (by omega), bsm, Qhp, bsm, Wu (by omega)]
      refine ZC (fun h => ZB ⟨rfl, i, by omega, fun hp => ?_⟩) (fun h => (ih (i + 1) (by omega)).mono fun o ho => ?_)
      · unfold NP at hp; rw [hp] at h; cases h
      · cases o with
        | inl r => exact ho
        | inr u => intro j h1 h2 h3; rcases KA i j with h' | h'
                   · exact ho j h' h2 h3
                   · rw [show j = i by omega]; unfold NP; simpa using h
    · simp only [QG, decide_eq_true_eq] at hc
      intro j h1 h2 h3; omega
theorem UX (s:ByteArray):Tot (JA s) fun b=>b=true↔NV s:=by
 unfold JA;rw [psm,bsm];refine ZC (fun h=>ZB ?_) (fun h=>?_)
 ·simp only [Q9,decide_eq_true_eq] at h;exact ⟨fun _=>h.elim .inl (fun h=>.inr (.inl h)),fun _=>rfl⟩
 simp only [Q9,decide_eq_true_eq,not_or] at h;have:=Qdq (s:=s) 13 0 (by omega);have e0:((0:Nat):Int)=0:=rfl;rw [e0] at this;refine ZA this fun o ho=>?_
 cases o with
 | inl r =>
  obtain ⟨rfl,j,h1,h2⟩:=ho;refine ZB ⟨fun h=>(by cases h),fun hv=>?_⟩
  rcases hv with hv | hv | hv
  ·exact absurd hv h.1
  ·exact absurd hv h.2
  ·exact absurd (hv.2.2 j h1) h2
 | inr u =>
  simp only [psm,bsm];refine ⟨_,rfl,?_⟩;simp only [QG,decide_eq_true_eq];constructor
  ·rintro ⟨h1,h2⟩;exact .inr (.inr ⟨by omega,by omega,fun j hj=>ho j (by omega) hj (by omega)⟩)
  ·rintro (hv | hv | hv)
   ·exact absurd hv h.1
   ·exact absurd hv h.2
   ·exact ⟨by omega,by omega⟩
end Go.Proofs.SA
open Go.IntKind (i64)
namespace Go.Proofs.SA
def SP (l:List Int) (j:Nat):Prop:=1<=l.getD j 0/\l.getD j 0<=99/\(0 < j->l.getD (j - 1) 0 < l.getD j 0)
def SV (l:List Int):Prop:=l.length<=24/\∀j,j < l.length->SP l j
theorem Nt {l:List Int} {i:Nat} (h:i < l.length):idx l (i:Int)=some (l.getD i 0):=by
 rw [Yg l i h];simp [h]
theorem Qd8 {l:List Int} (hl:l.length < 1099511627776):∀(n:Nat) (i:Nat),i+n=l.length->Tot (Jf l i) fun o=>match o with | .inl r=>r=false/\∃j,j < l.length/\¬SP l j | .inr _=>∀j,i<=j->j < l.length->SP l j:=by
 intro n
 induction n with
 | zero =>
  intro i hi;rw [Jf,if_neg (by omega)];exact ZB (by intro j h1 h2;omega)
 | succ n ih =>
  intro i hi;rw [Jf,if_pos (by omega),Nt (by omega),bsm];unfold Wv;simp only [psm,bsm]
  have e:Tot (if (!(decide (l.getD i 0≥1)&&decide (l.getD i 0<=99)))=true then some true else (if (i:Int) > 0 then (idx l (i64.wrap ((i:Int) - 1))>>=fun x22=>some (decide (x22≥l.getD i 0))) else some false)>>=fun x26=>some x26:Option Bool) fun b=>b=true↔¬SP l i:=by
   refine ZC (fun h=>⟨_,rfl,fun _ hp=>?_,fun _=>rfl⟩) (fun h=>?_)
   ·rw [decide_eq_true hp.1,decide_eq_true hp.2.1] at h;exact absurd h (by decide)
   ·have hr:1<=l.getD i 0/\l.getD i 0<=99:=Classical.byContradiction fun hn=>h (by
     by_cases h1:l.getD i 0≥1
     ·rw [decide_eq_true h1,decide_eq_false (fun h2=>hn ⟨h1,h2⟩)];rfl
     ·rw [decide_eq_false h1];rfl)
    refine ZA (p:=fun b=>b=true↔¬SP l i) (ZC (fun h0=>?_) (fun h0=>⟨_,rfl,fun h=>(by cases h),fun hn=>absurd ⟨by omega,by omega,fun h=>by omega⟩ hn⟩)) fun b hb=>⟨_,rfl,hb⟩;rw [YC (by omega) (by omega),show (i:Int) - 1=((i - 1:Nat):Int) by omega,Nt (by omega),bsm];refine ⟨_,rfl,?_⟩;simp only [decide_eq_true_eq];unfold SP;constructor
    ·intro h1 h2;have:=h2.2.2 (by omega);omega
    ·intro h1
     rcases Int.lt_or_le (l.getD (i - 1) 0) (l.getD i 0) with h2 | h2
     ·exact absurd ⟨by omega,by omega,fun _=>h2⟩ h1
     ·exact h2
  refine ZA e fun b hb=>ZC (fun h=>⟨_,rfl,rfl,i,by omega,hb.1 h⟩) (fun h=>?_);rw [Wu (by omega)];refine (ih (i+1) (by omega)).mono fun o ho=>?_
  cases o with
  | inl r=>exact ho
  | inr u =>
   intro j h1 h2
   rcases KA i j with h' | h'
   ·exact ho j h' h2
   ·rw [show j=i by omega];exact Classical.byContradiction fun hn=>h (hb.2 hn)
theorem Qpl {l:List Int} (hl:l.length < 1099511627776):Tot (AA l) fun b=>b=true↔SV l:=by
 unfold AA;have:=Qd8 hl l.length 0 (by omega);have e0:((0:Nat):Int)=0:=rfl;rw [e0] at this;refine ZA this fun o ho=>?_
 cases o with
 | inl r =>
  obtain ⟨rfl,j,h1,h2⟩:=ho;exact ⟨_,rfl,fun h=>(by cases h),fun hv=>absurd (hv.2 j h1) h2⟩
 | inr u =>
  refine ⟨_,rfl,?_⟩;simp only [decide_eq_true_eq];exact ⟨fun h=>⟨by omega,fun j hj=>ho j (by omega) hj⟩,fun h=>by have:=h.1;omega⟩
theorem Qd9 {l:List Int} : ∀(n:Nat) (i:Nat),i+n=25->Tot (VA l i) fun o=>match o with | .inl r=>r=false/\∃j,j < l.length/\¬SP l j | .inr _=>∀j,i<=j->j < l.length->j<=24->SP l j:=by
 intro n
 induction n with
 | zero =>
  intro i hi;rw [VA,psm,bsm,if_neg (by simp;omega)];exact ZB (by intro j h1 h2 h3;omega)
 | succ n ih =>
  intro i hi;rw [VA,psm,bsm];refine ZC (fun hc=>?_) (fun hc=>ZB ?_)
  ·simp only [QG,decide_eq_true_eq] at hc;rw [Nt (by omega),bsm]
   have e:Tot ((if l.getD i 0 < 1 then pure true else (some (l.getD i 0)>>=fun x22=>pure (decide (x22 > 99))):Option Bool)) fun b=>b=true↔¬(1<=l.getD i 0/\l.getD i 0<=99):=by
    refine ZC (fun h=>⟨_,rfl,fun _ hp=>by omega,fun _=>rfl⟩) (fun h=>⟨_,rfl,?_⟩);simp only [decide_eq_true_eq];omega
   refine ZA e fun b hb=>?_
   have e2:Tot (if b=true then pure true else ((if (i:Int) > 0 then (some (l.getD i 0)>>=fun x32=>idx l (i64.wrap ((i:Int) - 1))>>=fun x37=>pure (decide (x32<=x37))) else pure false:Option Bool)>>=fun x40=>pure x40)) fun b=>b=true↔¬SP l i:=by
    refine ZC (fun h=>⟨_,rfl,fun _ hp=>(hb.1 h) ⟨hp.1,hp.2.1⟩,fun _=>rfl⟩) (fun h=>?_);have hr:1<=l.getD i 0/\l.getD i 0<=99:=Classical.byContradiction fun hn=>h (hb.2 hn);refine ZA (p:=fun b=>b=true↔¬SP l i) (ZC (fun h0=>?_) (fun h0=>⟨_,rfl,fun h=>(by cases h),fun hn=>absurd ⟨by omega,by omega,fun h=>by omega⟩ hn⟩)) fun b hb=>⟨_,rfl,hb⟩;rw [bsm,YC (by omega) (by omega),show (i:Int) - 1=((i - 1:Nat):Int) by omega,Nt (by omega),bsm];refine ⟨_,rfl,?_⟩;simp only [decide_eq_true_eq];unfold SP;constructor
    ·intro h1 h2;have:=h2.2.2 (by omega);omega
    ·intro h1
     rcases Int.lt_or_le (l.getD (i - 1) 0) (l.getD i 0) with h2 | h2
     ·exact absurd ⟨by omega,by omega,fun _=>h2⟩ h1
     ·exact h2
   refine ZA e2 fun b hb=>ZC (fun h=>⟨_,rfl,rfl,i,by omega,hb.1 h⟩) (fun h=>?_);rw [Wu (by omega)];refine (ih (i+1) (by omega)).mono fun o ho=>?_
   cases o with
   | inl r=>exact ho
   | inr u =>
    intro j h1 h2 h3
    rcases KA i j with h' | h'
    ·exact ho j h' h2 h3
    ·rw [show j=i by omega];exact Classical.byContradiction fun hn=>h (hb.2 hn)
  ·simp only [QG,decide_eq_true_eq] at hc;intro j h1 h2 h3;omega
theorem Qii (l:List Int):Tot (Hm l) fun b=>b=true↔SV l:=by
 unfold Hm;have:=Qd9 (l:=l) 25 0 (by omega);have e0:((0:Nat):Int)=0:=rfl;rw [e0] at this;refine ZA this fun o ho=>?_
 cases o with
 | inl r =>
  obtain ⟨rfl,j,h1,h2⟩:=ho;exact ⟨_,rfl,fun h=>(by cases h),fun hv=>absurd (hv.2 j h1) h2⟩
 | inr u =>
  refine ⟨_,rfl,?_⟩;simp only [decide_eq_true_eq];exact ⟨fun h=>⟨by omega,fun j hj=>ho j (by omega) hj (by omega)⟩,fun h=>by have:=h.1;omega⟩
end Go.Proofs.SA
namespace Go.Proofs.SA
theorem Qhn {f:Fm} (hf:f.sz < 1000000000):f.kids.length < 1000000000/\f.sc.length < 1000000000:=by
 have:=Fm.Gb f;omega
def FIs:Nat->Fm->Prop
 | 0,_=>False
 | d+1,f=>(f.kind=1/\NV f.name/\f.num=0/\SV f.sc/\f.kids.length=0)∨(f.kind=2/\f.name=Qk #[]/\0<=f.num/\f.num<=999/\f.sc.length=0/\f.kids.length=0)∨(f.kind=3/\f.name=Qk #[]/\f.num=0/\f.sc.length=0/\∀k∈f.kids,FIs d k)
theorem EC {p:Fm->Prop} {l:List Fm} {i:Nat} (h:i < l.length):(∀k∈l.drop i,p k)↔p l[i]/\∀k∈l.drop (i+1),p k:=by
 rw [Zx h,List.forall_mem_cons]
theorem Qju {l:List Fm} {i:Nat} (h:i < l.length):YY ZL (l.drop i)=ZL l[i]+YY ZL (l.drop (i+1)):=by
 rw [Zx h];rfl
theorem Qop:∀(d:Nat),d < 1000->∀(f:Fm),f.sz < 1000000000->Tot (Ij f d) fun b=>b=true↔FIs d f:=by
 intro d
 induction d with
 | zero=>intro _ f _;rw [Ij,if_pos (by rfl)];exact ⟨_,rfl,fun h=>(by cases h),fun h=>h.elim⟩
 | succ d ih =>
  intro hd f hf;have hk:=Qhn hf;have hz:=Fm.Gb f
  have loop:∀(n:Nat) (i:Nat),i+n=f.kids.length->Tot (Gu f ((d+1:Nat):Int) i) fun o=>match o with | .inl r=>r=false/\¬∀k∈f.kids.drop i,FIs d k | .inr _=>∀k∈f.kids.drop i,FIs d k:=by
   intro n
   induction n with
   | zero=>intro i h;rw [Gu,if_neg (by omega),show i=f.kids.length by omega,List.drop_length];exact ⟨_,rfl,by simp⟩
   | succ n ihn =>
    intro i h
    have hil:i < f.kids.length:=by omega
    rw [Gu,if_pos (by omega),Yg _ i hil,bsm];rw [Wu (by omega),YC (by omega) (by omega),show ((d+1:Nat):Int) - 1=(d:Int) by omega];have hm:f.kids[i]∈f.kids:=ZK _;refine ZA (ih (by omega) _ (by have:=Fm.Hb hm;omega)) fun b hb=>?_;refine ZC (fun h'=>⟨_,rfl,rfl,fun h2=>?_⟩) (fun h'=>(ihn (i+1) (by omega)).mono fun o ho=>?_)
    ·rw [hb.2 ((EC hil).1 h2).1] at h';cases h'
    ·have hb':FIs d f.kids[i]:=hb.1 (by simpa using h')
     cases o with
     | inl r=>exact ⟨ho.1,fun h2=>ho.2 ((EC hil).1 h2).2⟩
     | inr u=>exact (EC hil).2 ⟨hb',ho⟩
  rw [Ij,if_neg (by omega)];refine ZC (fun h1=>?_) (fun h1=>?_)
  ·refine ZA (UX _) fun b hb=>?_;rw [psm,bsm];refine ZA (p:=fun b'=>b'=true↔NV f.name/\f.num=0/\SV f.sc) (ZC (fun h=>?_) (fun h=>⟨_,rfl,fun h=>(by cases h),fun hn=>absurd ?_ h⟩)) fun b' hb'=>?_
   ·simp only [QG,decide_eq_true_eq] at h;exact ZA (Qii _) fun b2 hb2=>⟨_,rfl,fun h'=>⟨hb.1 h.1,h.2,hb2.1 h'⟩,fun h'=>hb2.2 h'.2.2⟩
   ·simp only [QG,decide_eq_true_eq];exact ⟨hb.2 hn.1,hn.2.1⟩
   ·rw [psm,bsm];refine ⟨_,rfl,?_⟩;simp only [QG,decide_eq_true_eq];constructor
    ·rintro ⟨h2,h3⟩;have:=hb'.1 h2;exact .inl ⟨h1,this.1,this.2.1,this.2.2,by omega⟩
    ·rintro (h | h | h)
     ·exact ⟨hb'.2 ⟨h.2.1,h.2.2.1,h.2.2.2.1⟩,by omega⟩
     ·omega
     ·omega
  refine ZC (fun h2=>?_) (fun h2=>?_)
  ·simp only [psm,bsm];refine ⟨_,rfl,?_⟩;simp only [QG,decide_eq_true_eq];constructor
   ·rintro ⟨⟨⟨⟨a,b⟩,c⟩,e⟩,g⟩;exact .inr (.inl ⟨h2,a,b,c,by omega,by omega⟩)
   ·rintro (h | h | h)
    ·omega
    ·exact ⟨⟨⟨⟨h.2.1,h.2.2.1⟩,h.2.2.2.1⟩,by omega⟩,by omega⟩
    ·omega
  simp only [psm,bsm];refine ZC (fun h3=>⟨_,rfl,fun h=>(by cases h),fun hn=>?_⟩) (fun h3=>?_)
  ·rcases hn with h | h | h
   ·exact absurd h.1 h1
   ·exact absurd h.1 h2
   ·rw [decide_eq_true h.1,decide_eq_true h.2.1,decide_eq_true h.2.2.1,decide_eq_true (show ((f.sc.length:Int)=0) by have:=h.2.2.2.1;omega)] at h3;exact absurd h3 (by decide)
  ·simp only [Q9,ZP,decide_eq_false_iff_not,not_or,Classical.not_not] at h3;have:=loop f.kids.length 0 (by omega);have e0:((0:Nat):Int)=0:=rfl;rw [e0,ZN] at this;refine ZA this fun o ho=>?_
   cases o with
   | inl r =>
    refine ⟨_,rfl,fun h=>(by rw [ho.1] at h;cases h),fun hn=>?_⟩
    rcases hn with h | h | h
    ·exact absurd h.1 h1
    ·exact absurd h.1 h2
    ·exact absurd h.2.2.2.2 ho.2
   | inr u=>exact ⟨_,rfl,fun _=>.inr (.inr ⟨h3.1.1.1,h3.1.1.2,h3.1.2,by have:=h3.2;omega,ho⟩),fun _=>rfl⟩
theorem Qap:∀(f:Fm),f.sz < 1000000000->Gs f=some (f.nodes:Int):=by
 intro f
 induction f using Fm.ind with
 | h f ih =>
  intro hf;have hz:=Fm.Gb f;have hc:=Fm.Yx f;have hcl:=Fm.Qkt f;rw [Gs]
  have key:∀m (i:Nat),i+m=f.kids.length->Wm f (1+YY ZL (f.kids.take i):Int) i=some (f.nodes:Int):=by
   intro m
   induction m with
   | zero =>
    intro i hi;rw [Wm,if_neg (by omega),show i=f.kids.length by omega,List.take_length,Yd]
    congr 1;omega
   | succ m ihm =>
    intro i hi
    have hil:i < f.kids.length:=by omega
    have hs:=Qih ZL f.kids i hil;have hle:=Qpj ZL f.kids (i+1);rw [Wm,if_pos (by omega),Yg _ i hil,X5];rw [ih _ (ZK _) (by have:=Fm.Hb (ZK hil);omega),X5,Wu (by omega),YC (by omega) (by omega)];have:=ihm (i+1) (by omega);rw [hs] at this;rw [← this]
    congr 1
    omega
  have:=key f.kids.length 0 (by omega);simp only [List.take_zero,YY] at this;have e0:((0:Nat):Int)=0:=rfl;have e1:(1:Int)+((0:Nat):Int)=1:=rfl;rw [e1,e0] at this;rw [this];rfl
def FV (f:Fm):Prop:=FIs 40 f/\f.nodes<=400
theorem Ah {f:Fm} (hf:f.sz < 1000000000):Tot (YM f) fun b=>b=true↔FV f:=by
 unfold YM;refine ZA (Qop 40 (by omega) f hf) fun b hb=>?_;refine ZA (p:=fun b=>b=true↔FV f) (ZC (fun h=>?_) (fun h=>⟨_,rfl,fun h=>(by cases h),fun hn=>absurd (hb.2 hn.1) h⟩)) fun b hb=>⟨_,rfl,hb⟩;rw [Qap f hf,bsm];refine ⟨_,rfl,?_⟩;simp only [decide_eq_true_eq];exact ⟨fun h'=>⟨hb.1 h,by omega⟩,fun h'=>by have:=h'.2;omega⟩
theorem Qo3:∀(f:Fm),f.sz < 1000000000->∀(d:Nat) (a c:Int),a+d=41->1<=a->0<=c->c<=400->Tot (Ai f a c) fun r=>(r.1=true↔FIs d f/\(f.nodes:Int)<=c)/\(r.1=true->r.2=c - f.nodes):=by
 intro f
 induction f using Fm.ind with
 | h f ih =>
  intro hf d a c had ha hc0 hc;have hk:=Qhn hf;have hz:=Fm.Gb f;have hn:=Fm.Yx f;rw [Ai];simp only [psm,bsm];rw [YC (a:=c - 1) (by omega) (by omega)];refine ZC (fun h0=>⟨_,rfl,⟨fun h=>(by cases h),fun h=>?_⟩,fun h=>(by cases h)⟩) (fun h0=>?_)
  ·simp only [Q9,decide_eq_true_eq] at h0
   rcases h0 with h0 | h0
   ·omega
   ·obtain rfl:d=0:=by omega
    exact h.1.elim
  simp only [Q9,decide_eq_true_eq,not_or] at h0;obtain ⟨e,rfl⟩:∃e,d=e+1:=⟨d - 1,by omega⟩
  have leaf:f.kids.length=0->f.nodes=1:=fun h=>by
   rw [hn,List.length_eq_zero_iff.1 h];rfl
  refine ZC (fun h1=>?_) (fun h1=>?_)
  ·refine ZA (Qht (by omega)) fun b hb=>?_;refine ZA (p:=fun b'=>b'=true↔NV f.name/\f.num=0/\SV f.sc) (ZC (fun h=>?_) (fun h=>⟨_,rfl,fun h=>(by cases h),fun hn=>absurd ?_ h⟩)) fun b' hb'=>?_
   ·simp only [QG,decide_eq_true_eq] at h;exact ZA (Qpl (by omega)) fun b2 hb2=>⟨_,rfl,fun h'=>⟨hb.1 h.1,h.2,hb2.1 h'⟩,fun h'=>hb2.2 h'.2.2⟩
   ·simp only [QG,decide_eq_true_eq];exact ⟨hb.2 hn.1,hn.2.1⟩
   ·refine ⟨_,rfl,?_⟩;simp only [QG,decide_eq_true_eq];refine ⟨⟨?_,?_⟩,?_⟩
    ·rintro ⟨h2,h3⟩;have:=hb'.1 h2;have:=leaf (by omega);exact ⟨.inl ⟨h1,(hb'.1 h2).1,(hb'.1 h2).2.1,(hb'.1 h2).2.2,by omega⟩,by omega⟩
    ·rintro ⟨(h | h | h),_⟩
     ·exact ⟨hb'.2 ⟨h.2.1,h.2.2.1,h.2.2.2.1⟩,by omega⟩
     ·omega
     ·omega
    ·rintro ⟨h2,h3⟩;have:=leaf (by omega);omega
  refine ZC (fun h2=>?_) (fun h2=>?_)
  ·refine ZA (p:=fun b'=>b'=true↔f.name=Qk #[]/\0<=f.num/\f.num<=999) (ZC (fun h=>?_) (fun h=>⟨_,rfl,fun h=>(by cases h),fun hn=>absurd hn.1 h⟩)) fun b' hb'=>?_
   ·unfold Wv;refine ⟨_,rfl,?_⟩;simp only [QG,decide_eq_true_eq];exact ⟨fun h'=>⟨h,h'.1,h'.2⟩,fun h'=>h'.2⟩
   ·refine ⟨_,rfl,?_⟩;simp only [QG,decide_eq_true_eq];refine ⟨⟨?_,?_⟩,?_⟩
    ·rintro ⟨⟨h3,h4⟩,h5⟩;have:=leaf (by omega);have h6:=hb'.1 h3;exact ⟨.inr (.inl ⟨h2,h6.1,h6.2.1,h6.2.2,by omega,by omega⟩),by omega⟩
    ·rintro ⟨(h | h | h),_⟩
     ·omega
     ·exact ⟨⟨hb'.2 ⟨h.2.1,h.2.2.1,h.2.2.2.1⟩,by omega⟩,by omega⟩
     ·omega
    ·rintro ⟨⟨h3,h4⟩,h5⟩;have:=leaf (by omega);omega
  refine ZC (fun h3=>?_) (fun h3=>⟨_,rfl,⟨fun h=>(by cases h),fun h=>?_⟩,fun h=>(by cases h)⟩)
  ·refine ZC (fun h4=>⟨_,rfl,⟨fun h=>(by cases h),fun h=>?_⟩,fun h=>(by cases h)⟩) (fun h4=>?_)
   ·rcases h.1 with h | h | h
    ·omega
    ·omega
    ·rw [decide_eq_true h.2.1,decide_eq_true h.2.2.1,decide_eq_false (show ¬((f.sc.length:Int) > 0) by have:=h.2.2.2.1;omega)] at h4;exact absurd h4 (by decide)
   ·simp only [Q9,ZP,decide_eq_false_iff_not,decide_eq_true_eq,not_or,Classical.not_not] at h4
    have loop:∀(n:Nat) (i:Nat) (c:Int),i+n=f.kids.length->0<=c->c<=400->Tot (Hv f a i c) fun o=>match o with | .inl r=>r.1=false/\¬((∀k∈f.kids.drop i,FIs e k)/\(YY ZL (f.kids.drop i):Int)<=c) | .inr c'=>(∀k∈f.kids.drop i,FIs e k)/\(YY ZL (f.kids.drop i):Int)<=c/\c'=c - YY ZL (f.kids.drop i):=by
     intro n
     induction n with
     | zero=>intro i c h hc0 hc;rw [Hv,if_neg (by omega),show i=f.kids.length by omega,List.drop_length];exact ⟨_,rfl,by simp [YY],by simp [YY];omega,by simp [YY]⟩
     | succ n ihn =>
      intro i c h hc0 hc
      have hil:i < f.kids.length:=by omega
      rw [Hv,if_pos (by omega),Yg _ i hil,bsm,Wu (by omega),YC (by omega) (by omega)];have hm:f.kids[i]∈f.kids:=ZK _;refine ZA (ih _ hm (by have:=Fm.Hb hm;omega) e (a+1) c (by omega) (by omega) hc0 hc) fun r hr=>?_;have hs:=Qju hil;refine ZC (fun h'=>⟨_,rfl,rfl,fun h2=>?_⟩) (fun h'=>?_)
      ·rw [hr.1.2 ⟨((EC hil).1 h2.1).1,by have:=h2.2;omega⟩] at h';cases h'
      ·have ht:r.1=true:=by simpa using h'
       have h5:=hr.1.1 ht;have h6:=hr.2 ht;rw [h6];refine (ihn (i+1) _ (by omega) (by omega) (by omega)).mono fun o ho=>?_
       cases o with
       | inl r=>exact ⟨ho.1,fun h2=>ho.2 ⟨((EC hil).1 h2.1).2,by have:=h2.2;omega⟩⟩
       | inr c'=>exact ⟨(EC hil).2 ⟨h5.1,ho.1⟩,by have:=ho.2.1;omega,by have:=ho.2.2;omega⟩
    have:=loop f.kids.length 0 (c - 1) (by omega) (by omega) (by omega);have e0:((0:Nat):Int)=0:=rfl;rw [e0,ZN] at this;refine ZA this fun o ho=>?_
    cases o with
    | inl r =>
     refine ⟨_,rfl,⟨fun h=>(by rw [ho.1] at h;cases h),fun h=>?_⟩,fun h=>(by rw [ho.1] at h;cases h)⟩
     rcases h.1 with h7 | h7 | h7
     ·omega
     ·omega
     ·exact absurd ⟨h7.2.2.2.2,by have:=h.2;omega⟩ ho.2
    | inr c'=>exact ⟨_,rfl,⟨fun _=>⟨.inr (.inr ⟨h3,h4.1.1,h4.1.2,by have:=h4.2;omega,ho.1⟩),by have:=ho.2.1;omega⟩,fun _=>rfl⟩,fun _=>by have:=ho.2.2;simp only;omega⟩
  ·rcases h.1 with h7 | h7 | h7
   ·omega
   ·omega
   ·omega
theorem Qhb {f:Fm} (hf:f.sz < 1000000000):Tot (Ip f) fun b=>b=true↔FV f:=by
 unfold Ip;refine ZA (Qo3 f hf 40 1 400 (by omega) (by omega) (by omega) (by omega)) fun r hr=>⟨_,rfl,?_⟩;show r.1=true↔FV f;rw [hr.1];unfold FV;constructor
 ·rintro ⟨h1,h2⟩;exact ⟨h1,by omega⟩
 ·rintro ⟨h1,h2⟩;exact ⟨h1,by omega⟩
end Go.Proofs.SA
namespace Go.Proofs.Shadow
theorem Cor.ind {p:Cor->Prop} (h:∀f,(∀g∈f.kids,p g)->p f) (f:Cor):p f :=
 h f fun g hg=>Cor.ind h g
termination_by SizeOf.sizeOf f
decreasing_by
 obtain ⟨k,i,s,n,l,d,ks⟩:=f;have:=ZJ hg;simp only [Cor.kids] at this
 simp;omega
theorem Val.ind {p:Val->Prop} (h:∀v,(∀x∈v.items,p x)->(∀s∈v.env,p s.val)->p v) (v:Val):p v :=
 h v (fun x hx=>Val.ind h x) (fun s hs=>Val.ind h s.val)
termination_by SizeOf.sizeOf v
decreasing_by
 ·obtain ⟨k,n,s,l,f,e⟩:=v;have:=ZJ hx;simp only [Val.items] at this
  simp;omega
 ·obtain ⟨k,n,s',l,f,e⟩:=v;have:=ZJ hs;simp only [Val.env] at this;obtain ⟨i,w⟩:=s;simp only [Slt.val];simp at this ⊢;omega
mutual
def Cor.sz:Cor->Nat
 | .mk _ _ s _ l d ks=>s.size+l.length+d.sz+ks.length+Cor.szL ks
def Cor.szL:List Cor->Nat
 | []=>0
 | f :: fs=>f.sz+Cor.szL fs
end
mutual
def Val.sz:Val->Nat
 | .mk _ _ s l f e=>s.size+l.length+Val.szL l+f.sz+e.length+Slt.szL e
def Val.szL:List Val->Nat
 | []=>0
 | f :: fs=>f.sz+Val.szL fs
def Slt.sz:Slt->Nat
 | .mk _ v=>v.sz
def Slt.szL:List Slt->Nat
 | []=>0
 | f :: fs=>f.sz+Slt.szL fs
end
theorem Cor.Ew:∀ks,Cor.szL ks=YY Cor.sz ks
 | []=>rfl
 | f :: fs=>by rw [Cor.szL,Cor.Ew fs];rfl
theorem Val.Ew:∀ks,Val.szL ks=YY Val.sz ks
 | []=>rfl
 | f :: fs=>by rw [Val.szL,Val.Ew fs];rfl
theorem Slt.Gb:∀s:Slt,s.sz=s.val.sz
 | .mk _ v=>by rw [Slt.sz];rfl
theorem Slt.Ew:∀ks,Slt.szL ks=YY Slt.sz ks
 | []=>rfl
 | f :: fs=>by rw [Slt.szL,Slt.Ew fs];rfl
theorem Cor.Gb (f:Cor):f.sz=f.name.size+f.ids.length+f.data.sz+f.kids.length+YY Cor.sz f.kids:=by cases f;simp [Cor.sz,Cor.Ew,Cor.name,Cor.ids,Cor.data,Cor.kids]
theorem Val.Gb (v:Val):v.sz=v.name.size+v.items.length+YY Val.sz v.items+v.fn.sz+v.env.length+YY Slt.sz v.env:=by cases v;simp [Val.sz,Val.Ew,Slt.Ew,Val.name,Val.items,Val.fn,Val.env]
theorem Cor.eta (c:Cor):Cor.mk c.kind c.id c.name c.num c.ids c.data c.kids=c:=by cases c;rfl
theorem Val.eta (v:Val):Val.mk v.kind v.num v.name v.items v.fn v.env=v:=by cases v;rfl
theorem Slt.eta (v:Slt):Slt.mk v.id v.val=v:=by cases v;rfl
theorem Cor.Ok.out {c:Cor} (h:c.Ok):c.name.size<=140737488355328/\c.ids.length<=140737488355328/\c.data.Ok/\c.kids.length<=140737488355328/\∀x∈c.kids,Cor.Ok x:=by
 cases h with
 | mk hs hl hd hk h=>exact ⟨hs,hl,hd,hk,h⟩
theorem Val.Ok.out {v:Val} (h:v.Ok):Qqg v.num/\v.name.size<=140737488355328/\v.items.length<=140737488355328/\v.fn.Ok/\v.env.length<=140737488355328/\(∀x∈v.items,Val.Ok x)/\∀x∈v.env,Slt.Ok x:=by
 cases h with
 | mk hn hs hl hf he h1 h2=>exact ⟨hn,hs,hl,hf,he,h1,h2⟩
theorem Qg6 {α:Type} (F:Nat->List α->Option (Bool ⊕ Unit)) (a:List α) (hn:∀i,F i []=some (.inr ())) (hc:∀(i:Nat) (hi:i < a.length) r,F i (a[i] :: r)=F (i+1) r):F 0 a=some (.inr ()):=by
 have key:∀(l:List α) (i:Nat),a.drop i=l->F i l=some (.inr ()):=by
  intro l
  induction l with
  | nil=>intro i _;exact hn i
  | cons x l ih =>
   intro i hd
   have hi:i < a.length:=by
    rcases KA i a.length with h | h
    ·exact h
    ·rw [List.drop_of_length_le h] at hd;cases hd
   rw [Zx hi] at hd
   injection hd with e1 e2
   rw [← e1,hc i hi];exact ih _ e2
 exact key a 0 (ZN ..)
end Go.Proofs.Shadow
namespace Go.Proofs.SA
end Go.Proofs.SA
namespace Go.Proofs.Shadow
theorem Qgf {α:Type} (F:List ByteArray->Nat->List α->Option (List ByteArray)) (T:α->List UInt8) (hn:∀z i,F z i []=some z):∀(l:List α) (z:List ByteArray) (i:Nat),(∀x∈l,∀z i r,z.length<=1099511627776->F z i (x :: r)=F (z++[bs (T x)]) (i+1) r)->z.length+l.length<=1099511627776->F z i l=some (z++l.map fun x=>bs (T x)):=by
 intro l
 induction l with
 | nil=>intro z i _ _;rw [hn];simp
 | cons x l ih =>
  intro z i hc hz;simp only [ZE] at hz;rw [hc x (KB ..) z i l (by omega),ih _ _ (fun y hy=>hc y (Kf _ hy)) (by simp;omega),QH,QD];rfl
theorem Um (l:List (List UInt8)) (s:List UInt8):(ZQ l s).length<=ZR l+s.length * l.length:=by
 cases l with
 | nil=>simp [Lib.join_nil]
 | cons x r=>rw [Lib.join_length,ZE,Nat.mul_succ];omega
theorem Qkk {α:Type} {T:α->List UInt8} {l:List α} {s:List UInt8} (h:l.length<=140737488355328) (h1:ZR (l.map T)+s.length * l.length<=140737488355328):Qhl (l.map fun x=>bs (T x)) (bs s)=some (bs (ZQ (l.map T) s)):=by
 have:=Um (l.map T) s;rw [ZI] at this;unfold Qhl;rw [List.map_map,show ((fun x:ByteArray=>x.data.toList) ∘ fun x=>bs (T x))=T from rfl,ZI,if_pos ⟨h,by show (ZQ (l.map T) s).length<=_;omega⟩];rfl
def VT:Nat->Val->List UInt8
 | 0,_=>[46,46]
 | d+1,v=>if v.kind=1 then ZM v.num else if v.kind=2∨v.kind=5 then v.name.data.toList else if v.kind=4 then [35,102,117,110]++ZM (v.fn.ids.length:Int) else if v.kind=3 then [40]++ZQ (v.items.map (VT d)) [32]++[41] else [63]
theorem Sj {α:Type} (T:α->List UInt8) (g:α->Nat):∀l:List α,(∀x∈l,(T x).length<=30+31 * g x)->ZR (l.map T)<=30 * l.length+31 * YY g l
 | [],_=>by simp [ZR]
 | x :: l,h=>by
  have h1:=Sj T g l (fun y hy=>h y (Kf _ hy));have h2:=h x (KB ..);simp only [ZR,QH,List.sum_cons,ZE,YY] at h1 ⊢;omega
theorem Qqk:∀(d:Nat) (v:Val),v.Ok->(VT d v).length<=30+31 * v.sz:=by
 intro d
 induction d with
 | zero=>intro v _;simp [VT];omega
 | succ d ih =>
  intro v hv;obtain ⟨g0,g1,g2,g3,g4,g5,g6⟩:=hv.out;obtain ⟨k1,k2,k3,k4,k5⟩:=g3.out;have hz:=Val.Gb v;rw [VT];split
  ·have:=Nv g0.1 g0.2;omega
  split
  ·have:v.name.data.toList.length=v.name.size:=rfl;omega
  split
  ·have:=Nv (n:=(v.fn.ids.length:Int)) (by omega) (by omega);simp only [QV,ZE,ZD];omega
  split
  ·have h1:=Sj (VT d) Val.sz v.items (fun x hx=>ih x (g5 x hx));have h2:=Um (v.items.map (VT d)) [32];simp only [QV,ZE,ZD,ZI] at h2 ⊢;omega
  ·simp;omega
end Go.Proofs.Shadow
namespace Go.Proofs.SA
theorem UU:∀(d:Nat) (v:Val),d<=40->v.Ok->v.sz<=1099511627776->Jx v (40 - (d:Int))=some (bs (VT d v)):=by
 intro d
 induction d with
 | zero=>intro v _ _ _;rw [Jx];rfl
 | succ d ih =>
  intro v hd hv hs;obtain ⟨g0,g1,g2,g3,g4,g5,g6⟩:=hv.out;obtain ⟨k1,k2,k3,k4,k5⟩:=g3.out;have hz:=Val.Gb v;rw [Jx,VT,if_neg (by omega)]
  by_cases h1:v.kind=1
  ·rw [if_pos h1,if_pos h1,H0,Qbr g0.1 g0.2];rfl
  rw [if_neg h1,if_neg h1]
  by_cases h2:v.kind=2∨v.kind=5
  ·rw [if_pos h2,Qnr]
   rcases h2 with h2 | h2
   ·simp [h2,Yd]
   ·simp [h2,Yd]
  obtain ⟨h3,h5⟩:=not_or.1 h2;rw [if_neg h2];simp only [h3,h5,if_false,Yd,X5,decide_false,Bool.false_eq_true]
  by_cases h4:v.kind=4
  ·have:=Nv (n:=(v.fn.ids.length:Int)) (by omega) (by omega);rw [if_pos h4,if_pos h4,H0,Qbr (by omega) (by omega),X5,show (Qk #[35,102,117,110])=bs [35,102,117,110] from rfl,U6 (by rw [LJ,LJ];simp;omega),X5,Qga]
  rw [if_neg h4,if_neg h4]
  by_cases h6:v.kind=3
  rotate_left
  ·rw [if_neg h6,if_neg h6];rfl
  have hl:=Sj (VT d) Val.sz v.items (fun x hx=>Qqk d x (g5 x hx));have hj:=Um (v.items.map (VT d)) [32];simp only [QV,ZE,ZD,ZI] at hj
  rw [if_pos h6,if_pos h6,Fp _ _ _ (by omega),
   Qgf (JW v (40 - ((d+1:Nat):Int))) (VT d) (fun _ _=>rfl) v.items [] 0 (fun x hx z i r hzb=>by
    have hxs:=Gl Val.sz _ _ hx
    rw [JW,YC (by omega) (by omega),show 40 - ((d+1:Nat):Int)+1=40 - (d:Int) by omega,Yd,X5,ih x (by omega) (g5 x hx) (by omega),X5,YB (by simp;omega),X5]) (by simp;omega),X5,
   List.nil_append,An,show (Qk #[32])=bs [32] from rfl,Qkk (by omega) (by simp only [ZE,ZD];omega),X5,
   show (Qk #[40])=bs [40] from rfl,U6 (by rw [LJ,LJ];simp only [ZE,ZD];omega),X5,Qga,
   show (Qk #[41])=bs [41] from rfl,U6 (by rw [LJ,LJ];simp only [QV,ZE,ZD];omega),X5,Qga]
theorem Dp (v:Val) (h:v.Ok) (hs:v.sz<=1099511627776):Hg v=some (bs (VT 40 v)):=by
 rw [Hg,show (0:Int)=40 - ((40:Nat):Int) from rfl,UU 40 v (by omega) h hs];rfl
end Go.Proofs.SA
namespace Go.Proofs.Shadow
theorem G9 {α β:Type} (F:List β->Nat->List α->Option (List β)) (T:α->β) (hn:∀z i,F z i []=some z):∀(l:List α) (z:List β) (i:Nat),(∀x∈l,∀z i r,z.length<=1073741824->F z i (x :: r)=F (z++[T x]) (i+1) r)->z.length+l.length<=1073741824->F z i l=some (z++l.map T):=by
 intro l
 induction l with
 | nil=>intro z i _ _;rw [hn];simp
 | cons x l ih =>
  intro z i hc hz;simp only [ZE] at hz;rw [hc x (KB ..) z i l (by omega),ih _ _ (fun y hy=>hc y (Kf _ hy)) (by simp;omega),QH,QD];rfl
mutual
def Fm.strip:Fm->Fm
 | .mk k s n _ ks=>.mk k s n [] (Fm.Qb7 ks)
def Fm.Qb7:List Fm->List Fm
 | []=>[]
 | f :: fs=>f.strip :: Fm.Qb7 fs
end
theorem Fm.TX:∀l,Fm.Qb7 l=l.map Fm.strip
 | []=>rfl
 | f :: fs=>by rw [Fm.Qb7,Fm.TX fs];rfl
theorem Fm.EJ (f:Fm):f.strip=.mk f.kind f.name f.num [] (f.kids.map Fm.strip):=by cases f;rw [Fm.strip,Fm.TX];rfl
theorem Qca {α β:Type} (g:β->Nat) (h:α->β):∀l:List α,YY g (l.map h)=YY (fun x=>g (h x)) l
 | []=>rfl
 | x :: l=>by rw [QH,YY,YY,Qca g h l]
theorem Fm.Qb9 (f:Fm):f.strip.sz<=f.sz:=by
 induction f using Fm.ind with
 | h f ih =>
  rw [Fm.Gb,Fm.Gb f,Fm.EJ];have:=TZ (fun x=>Fm.sz (Fm.strip x)) Fm.sz f.kids ih;simp only [Fm.name,Fm.sc,Fm.kids,Qca,ZI,ZD] at this ⊢;omega
def FT:Nat->Fm->List UInt8
 | 0,_=>[]
 | d+1,f=>if f.kind=2 then ZM f.num else if f.kind=1 then f.name.data.toList else [40]++ZQ (f.kids.map (FT d)) [32]++[41]
end Go.Proofs.Shadow
namespace Go.Proofs.SA
theorem MB:∀f:Fm,f.sz<=1048576->WL f=some f.strip:=by
 intro f
 induction f using Fm.ind with
 | h f ih =>
  intro hf;have hz:=Fm.Gb f
  rw [WL,Fw _ _ (by omega),G9 (JX f) Fm.strip (fun _ _=>rfl) f.kids [] 0 (fun x hx z i r hzb=>by
   have:=Fm.Hb hx
   rw [JX,Yd,X5,ih x hx (by omega),X5,YB (by simp;omega),X5]) (by simp;omega),X5,Yd,Fm.EJ,List.nil_append]
open Classical in
noncomputable def FF (f:Fm):List UInt8:=if FV f.strip then FT 40 f.strip else []
noncomputable def TT (s:Stp):List UInt8:=FF s.use++[32,45,62,32]++FF s.res++[10]
end Go.Proofs.SA
