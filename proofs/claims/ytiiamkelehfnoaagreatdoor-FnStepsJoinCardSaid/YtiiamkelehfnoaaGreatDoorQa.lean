/- The frame of the exact laws, over forms: sizes, copies, comparisons. -/
import Derived.Test.YtiiamkelehfnoaaGreatDoorsjL
import Derived.Test.YtiiamkelehfnoaaGreatDoorFmA
import Derived.Test.YtiiamkelehfnoaaGreatDoorGv
import Derived.Laws.BitsAllLaws
import Derived.Lib.Bytealg
import Derived.Test.YtiiamkelehfnoaaGreatDoorPa
import Derived.Test.YtiiamkelehfnoaaGreatDoorsjD
import Derived.Test.YtiiamkelehfnoaaGreatDoorFmH
set_option linter.unusedVariables false
set_option linter.unusedSimpArgs false
set_option maxRecDepth 100000
open Go Go.Proofs Go.Proofs.Shadow
open _root_.List renaming length_cons → ZO, length_nil → ZN, length_append → QW, append_assoc → QE, map_cons → QI, length_map → ZU, mem_cons_of_mem → Kg, nil_append → QU, mem_cons_self → Kw, getElem_mem → ZR, drop_eq_getElem_cons → ZH, sum_cons → Z4
open _root_.ByteArray renaming mk → Ql
open _root_.Bool renaming and_eq_true → QH, or_eq_true → Ka, not_eq_true' → Z5
open Tot renaming ite → ZM, bind → ZK, pure → ZL
open Lib renaming lens → ZV, decDigits → ZW, join → ZY, nDigits → ZZ, decDigits_length → Z0, itoa → Z1, indexByte → Z3, joinTail → Z6
open Fm renaming nodes → ZX, sz → ZT
open _root_.Nat renaming lt_or_ge → Kz
open _root_.UInt8 renaming ofNat → Z2
namespace Go.Proofs.Shadow
theorem Fm.O2 (f:Fm):f.name.size<=f.sz/\f.sc.length<=f.sz/\f.kids.length<=f.sz:=by rw [Fm.Ge];omega
end Go.Proofs.Shadow
namespace Go.Proofs.SA
end Go.Proofs.SA
open Go.IntKind (i64)
namespace Go.Proofs.Shadow
def bs (l:List UInt8):ByteArray:=⟨l.toArray⟩
theorem Y4 (l:List UInt8):(bs l).size=l.length:=by simp [bs,ByteArray.size]
theorem Im (a b:List UInt8):bs a++bs b=bs (a++b):=by
 apply ByteArray.ext;rw [ByteArray.data_append];simp [bs]
theorem PC (s:ByteArray):bs s.data.toList=s:=by cases s;rfl
theorem UH (l:List UInt8):(bs l).data.toList=l:=rfl
theorem TK {a:Int} (h1:0<=a) (h2:a < 256):IntKind.wrap .u8 a=a:=by
 rw [IntKind.wrap_u8'];omega
theorem MV {u:Nat} (h:u < 10000000000000000000):ZZ u<=19:=by
 rcases Kz 19 (ZZ u) with h1 | h1
 ·exfalso
  have:∀k u:Nat,k+1<=ZZ u->10 ^ k<=u∨k=0:=by
   intro k
   induction k with
   | zero=>intro u _;exact .inr rfl
   | succ k ih =>
    intro u hu;left
    by_cases h10:u < 10
    ·rw [Lib.nDigits_small h10] at hu;omega
    ·rw [Lib.nDigits_big h10] at hu
     rcases ih (u / 10) (by omega) with h2 | h2
     ·rw [Nat.pow_succ];omega
     ·subst h2;simp;omega
  rcases this 19 u h1 with h2 | h2
  ·omega
  ·cases h2
 ·exact h1
theorem PF {u:Nat} (h:u < 10000000000000000000):(ZW u).length<=19:=by rw [Z0];exact MV h
theorem RW {n:Int} (h0:-9223372036854775808<=n) (h1:n<=9223372036854775807):(Z1 n).length<=20:=by
 unfold Z1;split
 ·have:=PF (u:=n.natAbs) (by omega);simp only [ZO];omega
 ·have:=PF (u:=n.toNat) (by omega);omega
theorem Qdf {n:Int} (h0:-9223372036854775808<=n) (h1:n<=9223372036854775807):Qal n=some (bs (Z1 n)):=by
 have:=RW h0 h1;unfold Qal;rw [if_pos ⟨h0,h1,by omega⟩];rfl
end Go.Proofs.Shadow
namespace Go.Proofs.SA
theorem Qja:∀(u:Nat) (s:List UInt8),u < 9223372036854775808->s.length+ZZ u<=1000000->∃(k:Nat) (t:List UInt8),JU (u:Int) (bs s)=some ((k:Int),bs t)/\k < 10/\Z2 (48+k) :: t=ZW u++s:=by
 intro u
 induction u using Nat.strongRecOn with
 | _ u ih =>
  intro s hu hs;rw [JU]
  by_cases h:u < 10
  ·rw [if_neg (by omega)];exact ⟨u,s,rfl,h,by rw [ZW,dif_pos h];rfl⟩
  ·have hd:=Lib.nDigits_big h;have e1:(u:Int).tmod 10=((u % 10:Nat):Int):=Sg _ _;have e2:(u:Int).tdiv 10=((u / 10:Nat):Int):=Se _ _;rw [if_pos (by omega),e1,e2,Yz (a:=48+((u % 10:Nat):Int)) (by omega) (by omega),TK (by omega) (by omega),Yz (by omega) (by omega)]
   have e3:strOfNums [48+((u % 10:Nat):Int)]=bs [Z2 (48+u % 10)]:=by
    unfold strOfNums bs;rw [QI,List.map_nil,show (48+((u % 10:Nat):Int)).toNat=48+u % 10 by omega]
   rw [e3,GS (by rw [Y4,Y4];simp;omega),X7,Im];obtain ⟨k,t,h1,h2,h3⟩:=ih (u / 10) (by omega) (Z2 (48+u % 10) :: s) (by omega) (by simp;omega);refine ⟨k,t,h1,h2,?_⟩;rw [h3]
   conv=>rhs;rw [ZW,dif_neg h]
   simp
theorem UT {u:Nat} (hu:u < 9223372036854775808):WR (u:Int)=some (bs (ZW u)):=by
 have hn:=MV (u:=u) (by omega);obtain ⟨k,t,h1,h2,h3⟩:=Qja u [] hu (by simp;omega);rw [WR,if_neg (by omega),if_neg (by omega)];rw [show (Ql #[])=bs [] from rfl,h1,X7];rw [List.append_nil] at h3
 have hl:t.length+1=ZZ u:=by rw [← Z0,← h3];rfl
 have e3:strOfNums [IntKind.u8.wrap (i64.wrap (48+(k:Int)))]=bs [Z2 (48+k)]:=by
  rw [Yz (by omega) (by omega),TK (by omega) (by omega)];unfold strOfNums bs;rw [QI,List.map_nil,show (48+(k:Int)).toNat=48+k by omega]
 simp only [e3];rw [GS (by rw [Y4,Y4];simp;omega),X7,Ye,Im,List.singleton_append,h3]
theorem Qi9 {n:Int} (h0:-9223372036854775808<=n) (h1:n<=9223372036854775807):WR n=some (bs (Z1 n)):=by
 unfold Z1
 by_cases hn:n < 0
 ·rw [if_pos hn]
  by_cases hm:n < -9223372036854775807
  ·obtain rfl:n=-9223372036854775808:=by omega
   rw [WR,if_pos (by omega)];rw [Ye,Lib.decDigits_eq,Lib.nDigits_unique 18 _ (by decide) (by decide)];rfl
  ·rw [WR,if_neg hm,if_pos hn,Yz (by omega) (by omega)]
   have e:(0 - n)=((n.natAbs:Nat):Int):=by omega
   have hl:=PF (u:=n.natAbs) (by omega);rw [e,UT (by omega),X7,show (Ql #[45])=bs [45] from rfl,GS (by rw [Y4,Y4];simp;omega),X7,Ye,Im];rfl
 ·rw [if_neg hn]
  have e:n=((n.toNat:Nat):Int):=by omega
  conv=>lhs;rw [e]
  rw [UT (by omega)]
end Go.Proofs.SA
namespace Go.Proofs.SA
theorem bsm {α β:Type} (a:α) (f:α->Option β):((some a:Option α)>>=f)=f a:=rfl
theorem psm {α:Type} (a:α):(pure a:Option α)=some a:=rfl
def ltG (c:Int):Bool:=((((((decide (c≥97))&&(decide (c<=122)))||decide (c=42))||decide (c=63))||decide (c=61))||decide (c=43))||decide (c=60)
def ltD (c:Int):Bool:=((decide (c≥48))&&(decide (c<=57)))||decide (c=45)
def ltr (c:Int) (b:Bool):Bool:=if ltG c=true then true else if (!b)=true then ltD c else false
theorem Qar (c:Int) (b:Bool):Gp c b=some (ltr c b):=by
 unfold Gp ltr;simp only [psm,bsm];show (if ltG c=true then some true else (if (!b)=true then some (ltD c) else some false)>>=fun x44=>some x44)=_;cases ltG c<;>cases b<;>rfl
theorem Qkh:∀n:Fin 256,decide (Z3 [42,63,61,43,60] n.val.toUInt8≥0)=((((decide (n.val=42)||decide (n.val=63))||decide (n.val=61))||decide (n.val=43))||decide (n.val=60)):=by decide +kernel
theorem Ql8 {c:Int} (h:0<=c/\c < 256):Hs (Ql #[42,63,61,43,60]) c=some (Z3 [42,63,61,43,60] c.toNat.toUInt8):=rfl
theorem Qkf {c:Int} (h:0<=c/\c < 256):decide (Z3 [42,63,61,43,60] c.toNat.toUInt8≥0)=((((decide (c=42)||decide (c=63))||decide (c=61))||decide (c=43))||decide (c=60)):=by
 obtain ⟨n,rfl⟩:=Int.eq_ofNat_of_zero_le h.1;have:=Qkh ⟨n,by omega⟩;simp only [Int.toNat_natCast] at this ⊢;rw [this]
 have e:∀k:Nat,decide (n=k)=decide ((n:Int)=(k:Int)):=fun k=>by simp only [Int.ofNat_inj]
 rw [e 42,e 63,e 61,e 43,e 60];rfl
def NP (s:ByteArray) (j:Nat):Prop:=ltr (byt s j) (decide ((j:Int)=0))=true
def NV (s:ByteArray):Prop:=s=Ql #[46,46,46]∨s=Ql #[95]∨(1<=s.size/\s.size<=12/\∀j,j < s.size->NP s j)
theorem S5 {s : ByteArray} (hs : s.size < 1099511627776) : ∀ (n : Nat) (i : Nat), i + n = s.size -> Tot (Y8 s i) fun o => match o with | .inl r => r = false /\ ∃ j, j < s.size /\ ¬ NP s j | .inr _ => ∀ j, i <= j -> j < s.size -> NP s j := by
  intro n
  induction n with
  | zero =>
    intro i hi
    rw [Y8, if_neg (by omega)]
    exact ZL (by intro j h1 h2; omega)
  | succ n ih =>
    intro i hi
    have hb := Qev s i
    rw [Y8, if_pos (by omega), NI s i (by omega), bsm, psm, bsm]
    have e : (if (decide (byt s i ≥ 97) && decide (byt s i <= 122)) = true then pure true else (Hs (Ql #[42, 63, 61, 43, 60]) (byt s i) >>= fun x29 => pure (decide (x29 ≥ 0))) : Option Bool) = some (ltG (byt s i)) := by
      rw [Ql8 hb, bsm, Qkf hb]
      unfold ltG
      cases (decide (byt s i ≥ 97) && decide (byt s i <= 122)) <;> rfl
    rw [e, bsm, VI (by omega)]
    have nxt : NP s i -> Tot (Y8 s ((i + 1 : Nat) : Int)) fun o => match o with | .inl r => r = false /\ ∃ j, j < s.size /\ ¬ NP s j | .inr _ => ∀ j, i <= j -> j < s.size -> NP s j := fun hp =>
      (ih (i + 1) (by omega)).mono fun o ho => by
        cases o with
        | inl r => exact ho
        | inr u => intro j h1 h2; rcases Kz i j with h | h
                   · exact ho j h h2
                   · rw [show j = i by omega]; exact hp
    refine ZM (fun hg => nxt (by unfold NP ltr; rw [if_pos hg])) (fun hg => ?_)
    have e2 : (if (i : Int) > 0 then (pure (decide (byt s i ≥ 48) && decide (byt s i <= 57)) >>= fun x41 => pure (x41 || decide (byt s i = 45)) >>= fun x45 => pure x45) else pure false : Option Bool) = some (if (!decide ((i : Int) = 0)) = true then ltD (byt s i) else false) := by
      by_cases h0 : (i : Int) = 0
      · rw [if_neg (by omega), decide_eq_true h0]; rfl
      · rw [if_pos (by omega), decide_eq_false h0]; rfl
    rw [e2, bsm]
    have hn : NP s i ↔ (if (!decide ((i : Int) = 0)) = true then ltD (byt s i) else false) = true := by
      unfold NP ltr; rw [if_neg hg]
    refine ZM (fun h => nxt (hn.2 h)) (fun h => ZL ⟨rfl, i, by omega, fun hp => h (hn.1 hp)⟩)
theorem Qhl {s:ByteArray} (hs:s.size < 1099511627776):Tot (Hx s) fun b=>b=true↔NV s:=by
 unfold Hx;rw [psm,bsm];refine ZM (fun h=>ZL ?_) (fun h=>?_)
 ·simp only [Ka,decide_eq_true_eq] at h;exact ⟨fun _=>h.elim .inl (fun h=>.inr (.inl h)),fun _=>rfl⟩
 simp only [Ka,decide_eq_true_eq,not_or] at h;have:=S5 hs s.size 0 (by omega);have e0:((0:Nat):Int)=0:=rfl;rw [e0] at this;refine ZK this fun o ho=>?_
 cases o with
 | inl r =>
  obtain ⟨rfl,j,h1,h2⟩:=ho;refine ZL ⟨fun h=>(by cases h),fun hv=>?_⟩
  rcases hv with hv | hv | hv
  ·exact absurd hv h.1
  ·exact absurd hv h.2
  ·exact absurd (hv.2.2 j h1) h2
 | inr u =>
  unfold GZ;simp only [psm,bsm];refine ⟨_,rfl,?_⟩;simp only [QH,decide_eq_true_eq];constructor
  ·rintro ⟨h1,h2⟩;exact .inr (.inr ⟨by omega,by omega,fun j hj=>ho j (by omega) hj⟩)
  ·rintro (hv | hv | hv)
   ·exact absurd hv h.1
   ·exact absurd hv h.2
   ·exact ⟨by omega,by omega⟩
theorem S6 {s : ByteArray} : ∀ (n : Nat) (i : Nat), i + n = 13 -> Tot (Y1 s i) fun o => match o with | .inl r => r = false /\ ∃ j, j < s.size /\ ¬ NP s j | .inr _ => ∀ j, i <= j -> j < s.size -> j <= 12 -> NP s j := by
  intro n
  induction n with
  | zero =>
    intro i hi
    rw [Y1, psm, bsm, if_neg (by simp; omega)]
    exact ZL (by intro j h1 h2 h3; omega)
  | succ n ih =>
    intro i hi
    rw [Y1, psm, bsm]
    refine ZM (fun hc => ?_) (fun hc => ZL ?_)
    · simp only [QH, decide_eq_true_eq] at hc
      rw [NI s i (by omega), bsm, Qar, bsm, VI (by omega)]
      refine ZM (fun h => ZL ⟨rfl, i, by omega, fun hp => ?_⟩) (fun h => (ih (i + 1) (by omega)).mono fun o ho => ?_)
      · unfold NP at hp; rw [hp] at h; cases h
      · cases o with
        | inl r => exact ho
        | inr u => intro j h1 h2 h3; rcases Kz i j with h' | h'
                   · exact ho j h' h2 h3
                   · rw [show j = i by omega]; unfold NP; simpa using h
    · simp only [QH, decide_eq_true_eq] at hc
      intro j h1 h2 h3; omega
theorem PR (s:ByteArray):Tot (Wm s) fun b=>b=true↔NV s:=by
 unfold Wm;rw [psm,bsm];refine ZM (fun h=>ZL ?_) (fun h=>?_)
 ·simp only [Ka,decide_eq_true_eq] at h;exact ⟨fun _=>h.elim .inl (fun h=>.inr (.inl h)),fun _=>rfl⟩
 simp only [Ka,decide_eq_true_eq,not_or] at h;have:=S6 (s:=s) 13 0 (by omega);have e0:((0:Nat):Int)=0:=rfl;rw [e0] at this;refine ZK this fun o ho=>?_
 cases o with
 | inl r =>
  obtain ⟨rfl,j,h1,h2⟩:=ho;refine ZL ⟨fun h=>(by cases h),fun hv=>?_⟩
  rcases hv with hv | hv | hv
  ·exact absurd hv h.1
  ·exact absurd hv h.2
  ·exact absurd (hv.2.2 j h1) h2
 | inr u =>
  simp only [psm,bsm];refine ⟨_,rfl,?_⟩;simp only [QH,decide_eq_true_eq];constructor
  ·rintro ⟨h1,h2⟩;exact .inr (.inr ⟨by omega,by omega,fun j hj=>ho j (by omega) hj (by omega)⟩)
  ·rintro (hv | hv | hv)
   ·exact absurd hv h.1
   ·exact absurd hv h.2
   ·exact ⟨by omega,by omega⟩
end Go.Proofs.SA
namespace Go.Proofs.SA
def SP (l:List Int) (j:Nat):Prop:=1<=l.getD j 0/\l.getD j 0<=99/\(0 < j->l.getD (j - 1) 0 < l.getD j 0)
def SV (l:List Int):Prop:=l.length<=24/\∀j,j < l.length->SP l j
theorem FH {l:List Int} {i:Nat} (h:i < l.length):idx l (i:Int)=some (l.getD i 0):=by
 rw [Yn l i h];simp [h]
theorem Tn {l:List Int} (hl:l.length < 1099511627776):∀(n:Nat) (i:Nat),i+n=l.length->Tot (Wb l i) fun o=>match o with | .inl r=>r=false/\∃j,j < l.length/\¬SP l j | .inr _=>∀j,i<=j->j < l.length->SP l j:=by
 intro n
 induction n with
 | zero =>
  intro i hi;rw [Wb,if_neg (by omega)];exact ZL (by intro j h1 h2;omega)
 | succ n ih =>
  intro i hi;rw [Wb,if_pos (by omega),FH (by omega),bsm];unfold GZ;simp only [psm,bsm]
  have e:Tot (if (!(decide (l.getD i 0≥1)&&decide (l.getD i 0<=99)))=true then some true else (if (i:Int) > 0 then (idx l (i64.wrap ((i:Int) - 1))>>=fun x22=>some (decide (x22≥l.getD i 0))) else some false)>>=fun x26=>some x26:Option Bool) fun b=>b=true↔¬SP l i:=by
   refine ZM (fun h=>⟨_,rfl,fun _ hp=>?_,fun _=>rfl⟩) (fun h=>?_)
   ·rw [decide_eq_true hp.1,decide_eq_true hp.2.1] at h;exact absurd h (by decide)
   ·have hr:1<=l.getD i 0/\l.getD i 0<=99:=Classical.byContradiction fun hn=>h (by
     by_cases h1:l.getD i 0≥1
     ·rw [decide_eq_true h1,decide_eq_false (fun h2=>hn ⟨h1,h2⟩)];rfl
     ·rw [decide_eq_false h1];rfl)
    refine ZK (p:=fun b=>b=true↔¬SP l i) (ZM (fun h0=>?_) (fun h0=>⟨_,rfl,fun h=>(by cases h),fun hn=>absurd ⟨by omega,by omega,fun h=>by omega⟩ hn⟩)) fun b hb=>⟨_,rfl,hb⟩;rw [Yz (by omega) (by omega),show (i:Int) - 1=((i - 1:Nat):Int) by omega,FH (by omega),bsm];refine ⟨_,rfl,?_⟩;simp only [decide_eq_true_eq];unfold SP;constructor
    ·intro h1 h2;have:=h2.2.2 (by omega);omega
    ·intro h1
     rcases Int.lt_or_le (l.getD (i - 1) 0) (l.getD i 0) with h2 | h2
     ·exact absurd ⟨by omega,by omega,fun _=>h2⟩ h1
     ·exact h2
  refine ZK e fun b hb=>ZM (fun h=>⟨_,rfl,rfl,i,by omega,hb.1 h⟩) (fun h=>?_);rw [VI (by omega)];refine (ih (i+1) (by omega)).mono fun o ho=>?_
  cases o with
  | inl r=>exact ho
  | inr u =>
   intro j h1 h2
   rcases Kz i j with h' | h'
   ·exact ho j h' h2
   ·rw [show j=i by omega];exact Classical.byContradiction fun hn=>h (hb.2 hn)
theorem Qhy {l:List Int} (hl:l.length < 1099511627776):Tot (Ia l) fun b=>b=true↔SV l:=by
 unfold Ia;have:=Tn hl l.length 0 (by omega);have e0:((0:Nat):Int)=0:=rfl;rw [e0] at this;refine ZK this fun o ho=>?_
 cases o with
 | inl r =>
  obtain ⟨rfl,j,h1,h2⟩:=ho;exact ⟨_,rfl,fun h=>(by cases h),fun hv=>absurd (hv.2 j h1) h2⟩
 | inr u =>
  refine ⟨_,rfl,?_⟩;simp only [decide_eq_true_eq];exact ⟨fun h=>⟨by omega,fun j hj=>ho j (by omega) hj⟩,fun h=>by have:=h.1;omega⟩
theorem To {l:List Int} : ∀(n:Nat) (i:Nat),i+n=25->Tot (Y6 l i) fun o=>match o with | .inl r=>r=false/\∃j,j < l.length/\¬SP l j | .inr _=>∀j,i<=j->j < l.length->j<=24->SP l j:=by
 intro n
 induction n with
 | zero =>
  intro i hi;rw [Y6,psm,bsm,if_neg (by simp;omega)];exact ZL (by intro j h1 h2 h3;omega)
 | succ n ih =>
  intro i hi;rw [Y6,psm,bsm];refine ZM (fun hc=>?_) (fun hc=>ZL ?_)
  ·simp only [QH,decide_eq_true_eq] at hc;rw [FH (by omega),bsm]
   have e:Tot ((if l.getD i 0 < 1 then pure true else (some (l.getD i 0)>>=fun x22=>pure (decide (x22 > 99))):Option Bool)) fun b=>b=true↔¬(1<=l.getD i 0/\l.getD i 0<=99):=by
    refine ZM (fun h=>⟨_,rfl,fun _ hp=>by omega,fun _=>rfl⟩) (fun h=>⟨_,rfl,?_⟩);simp only [decide_eq_true_eq];omega
   refine ZK e fun b hb=>?_
   have e2:Tot (if b=true then pure true else ((if (i:Int) > 0 then (some (l.getD i 0)>>=fun x32=>idx l (i64.wrap ((i:Int) - 1))>>=fun x37=>pure (decide (x32<=x37))) else pure false:Option Bool)>>=fun x40=>pure x40)) fun b=>b=true↔¬SP l i:=by
    refine ZM (fun h=>⟨_,rfl,fun _ hp=>(hb.1 h) ⟨hp.1,hp.2.1⟩,fun _=>rfl⟩) (fun h=>?_);have hr:1<=l.getD i 0/\l.getD i 0<=99:=Classical.byContradiction fun hn=>h (hb.2 hn);refine ZK (p:=fun b=>b=true↔¬SP l i) (ZM (fun h0=>?_) (fun h0=>⟨_,rfl,fun h=>(by cases h),fun hn=>absurd ⟨by omega,by omega,fun h=>by omega⟩ hn⟩)) fun b hb=>⟨_,rfl,hb⟩;rw [bsm,Yz (by omega) (by omega),show (i:Int) - 1=((i - 1:Nat):Int) by omega,FH (by omega),bsm];refine ⟨_,rfl,?_⟩;simp only [decide_eq_true_eq];unfold SP;constructor
    ·intro h1 h2;have:=h2.2.2 (by omega);omega
    ·intro h1
     rcases Int.lt_or_le (l.getD (i - 1) 0) (l.getD i 0) with h2 | h2
     ·exact absurd ⟨by omega,by omega,fun _=>h2⟩ h1
     ·exact h2
   refine ZK e2 fun b hb=>ZM (fun h=>⟨_,rfl,rfl,i,by omega,hb.1 h⟩) (fun h=>?_);rw [VI (by omega)];refine (ih (i+1) (by omega)).mono fun o ho=>?_
   cases o with
   | inl r=>exact ho
   | inr u =>
    intro j h1 h2 h3
    rcases Kz i j with h' | h'
    ·exact ho j h' h2 h3
    ·rw [show j=i by omega];exact Classical.byContradiction fun hn=>h (hb.2 hn)
  ·simp only [QH,decide_eq_true_eq] at hc;intro j h1 h2 h3;omega
theorem Qbh (l:List Int):Tot (JG l) fun b=>b=true↔SV l:=by
 unfold JG;have:=To (l:=l) 25 0 (by omega);have e0:((0:Nat):Int)=0:=rfl;rw [e0] at this;refine ZK this fun o ho=>?_
 cases o with
 | inl r =>
  obtain ⟨rfl,j,h1,h2⟩:=ho;exact ⟨_,rfl,fun h=>(by cases h),fun hv=>absurd (hv.2 j h1) h2⟩
 | inr u =>
  refine ⟨_,rfl,?_⟩;simp only [decide_eq_true_eq];exact ⟨fun h=>⟨by omega,fun j hj=>ho j (by omega) hj (by omega)⟩,fun h=>by have:=h.1;omega⟩
end Go.Proofs.SA
namespace Go.Proofs.SA
theorem Qap {f:Fm} (hf:f.sz < 1000000000):f.kids.length < 1000000000/\f.sc.length < 1000000000:=by
 have:=Fm.Ge f;omega
def FIs:Nat->Fm->Prop
 | 0,_=>False
 | d+1,f=>(f.kind=1/\NV f.name/\f.num=0/\SV f.sc/\f.kids.length=0)∨(f.kind=2/\f.name=Ql #[]/\0<=f.num/\f.num<=999/\f.sc.length=0/\f.kids.length=0)∨(f.kind=3/\f.name=Ql #[]/\f.num=0/\f.sc.length=0/\∀k∈f.kids,FIs d k)
theorem Ck {p:Fm->Prop} {l:List Fm} {i:Nat} (h:i < l.length):(∀k∈l.drop i,p k)↔p l[i]/\∀k∈l.drop (i+1),p k:=by
 rw [ZH h,List.forall_mem_cons]
theorem Qct {l:List Fm} {i:Nat} (h:i < l.length):YT ZX (l.drop i)=ZX l[i]+YT ZX (l.drop (i+1)):=by
 rw [ZH h];rfl
theorem Qg8:∀(d:Nat),d < 1000->∀(f:Fm),f.sz < 1000000000->Tot (GJ f d) fun b=>b=true↔FIs d f:=by
 intro d
 induction d with
 | zero=>intro _ f _;rw [GJ,if_pos (by rfl)];exact ⟨_,rfl,fun h=>(by cases h),fun h=>h.elim⟩
 | succ d ih =>
  intro hd f hf;have hk:=Qap hf;have hz:=Fm.Ge f
  have loop:∀(n:Nat) (i:Nat),i+n=f.kids.length->Tot (Jc f ((d+1:Nat):Int) i) fun o=>match o with | .inl r=>r=false/\¬∀k∈f.kids.drop i,FIs d k | .inr _=>∀k∈f.kids.drop i,FIs d k:=by
   intro n
   induction n with
   | zero=>intro i h;rw [Jc,if_neg (by omega),show i=f.kids.length by omega,List.drop_length];exact ⟨_,rfl,by simp⟩
   | succ n ihn =>
    intro i h
    have hil:i < f.kids.length:=by omega
    rw [Jc,if_pos (by omega),Yn _ i hil,bsm];rw [VI (by omega),Yz (by omega) (by omega),show ((d+1:Nat):Int) - 1=(d:Int) by omega];have hm:f.kids[i]∈f.kids:=ZR _;refine ZK (ih (by omega) _ (by have:=Fm.Gf hm;omega)) fun b hb=>?_;refine ZM (fun h'=>⟨_,rfl,rfl,fun h2=>?_⟩) (fun h'=>(ihn (i+1) (by omega)).mono fun o ho=>?_)
    ·rw [hb.2 ((Ck hil).1 h2).1] at h';cases h'
    ·have hb':FIs d f.kids[i]:=hb.1 (by simpa using h')
     cases o with
     | inl r=>exact ⟨ho.1,fun h2=>ho.2 ((Ck hil).1 h2).2⟩
     | inr u=>exact (Ck hil).2 ⟨hb',ho⟩
  rw [GJ,if_neg (by omega)];refine ZM (fun h1=>?_) (fun h1=>?_)
  ·refine ZK (PR _) fun b hb=>?_;rw [psm,bsm];refine ZK (p:=fun b'=>b'=true↔NV f.name/\f.num=0/\SV f.sc) (ZM (fun h=>?_) (fun h=>⟨_,rfl,fun h=>(by cases h),fun hn=>absurd ?_ h⟩)) fun b' hb'=>?_
   ·simp only [QH,decide_eq_true_eq] at h;exact ZK (Qbh _) fun b2 hb2=>⟨_,rfl,fun h'=>⟨hb.1 h.1,h.2,hb2.1 h'⟩,fun h'=>hb2.2 h'.2.2⟩
   ·simp only [QH,decide_eq_true_eq];exact ⟨hb.2 hn.1,hn.2.1⟩
   ·rw [psm,bsm];refine ⟨_,rfl,?_⟩;simp only [QH,decide_eq_true_eq];constructor
    ·rintro ⟨h2,h3⟩;have:=hb'.1 h2;exact .inl ⟨h1,this.1,this.2.1,this.2.2,by omega⟩
    ·rintro (h | h | h)
     ·exact ⟨hb'.2 ⟨h.2.1,h.2.2.1,h.2.2.2.1⟩,by omega⟩
     ·omega
     ·omega
  refine ZM (fun h2=>?_) (fun h2=>?_)
  ·simp only [psm,bsm];refine ⟨_,rfl,?_⟩;simp only [QH,decide_eq_true_eq];constructor
   ·rintro ⟨⟨⟨⟨a,b⟩,c⟩,e⟩,g⟩;exact .inr (.inl ⟨h2,a,b,c,by omega,by omega⟩)
   ·rintro (h | h | h)
    ·omega
    ·exact ⟨⟨⟨⟨h.2.1,h.2.2.1⟩,h.2.2.2.1⟩,by omega⟩,by omega⟩
    ·omega
  simp only [psm,bsm];refine ZM (fun h3=>⟨_,rfl,fun h=>(by cases h),fun hn=>?_⟩) (fun h3=>?_)
  ·rcases hn with h | h | h
   ·exact absurd h.1 h1
   ·exact absurd h.1 h2
   ·rw [decide_eq_true h.1,decide_eq_true h.2.1,decide_eq_true h.2.2.1,decide_eq_true (show ((f.sc.length:Int)=0) by have:=h.2.2.2.1;omega)] at h3;exact absurd h3 (by decide)
  ·simp only [Ka,Z5,decide_eq_false_iff_not,not_or,Classical.not_not] at h3;have:=loop f.kids.length 0 (by omega);have e0:((0:Nat):Int)=0:=rfl;rw [e0,List.drop_zero] at this;refine ZK this fun o ho=>?_
   cases o with
   | inl r =>
    refine ⟨_,rfl,fun h=>(by rw [ho.1] at h;cases h),fun hn=>?_⟩
    rcases hn with h | h | h
    ·exact absurd h.1 h1
    ·exact absurd h.1 h2
    ·exact absurd h.2.2.2.2 ho.2
   | inr u=>exact ⟨_,rfl,fun _=>.inr (.inr ⟨h3.1.1.1,h3.1.1.2,h3.1.2,by have:=h3.2;omega,ho⟩),fun _=>rfl⟩
theorem Rt:∀(f:Fm),f.sz < 1000000000->Jb f=some (f.nodes:Int):=by
 intro f
 induction f using Fm.ind with
 | h f ih =>
  intro hf;have hz:=Fm.Ge f;have hc:=Fm.YM f;have hcl:=Fm.Qdp f;rw [Jb]
  have key:∀m (i:Nat),i+m=f.kids.length->VB f (1+YT ZX (f.kids.take i):Int) i=some (f.nodes:Int):=by
   intro m
   induction m with
   | zero =>
    intro i hi;rw [VB,if_neg (by omega),show i=f.kids.length by omega,List.take_length,Ye]
    congr 1;omega
   | succ m ihm =>
    intro i hi
    have hil:i < f.kids.length:=by omega
    have hs:=Qbg ZX f.kids i hil;have hle:=Qhx ZX f.kids (i+1);rw [VB,if_pos (by omega),Yn _ i hil,X7];rw [ih _ (ZR _) (by have:=Fm.Gf (ZR hil);omega),X7,VI (by omega),Yz (by omega) (by omega)];have:=ihm (i+1) (by omega);rw [hs] at this;rw [← this]
    congr 1
    omega
  have:=key f.kids.length 0 (by omega);simp only [List.take_zero,YT] at this;have e0:((0:Nat):Int)=0:=rfl;have e1:(1:Int)+((0:Nat):Int)=1:=rfl;rw [e1,e0] at this;rw [this];rfl
def FV (f:Fm):Prop:=FIs 40 f/\f.nodes<=400
theorem JP {f:Fm} (hf:f.sz < 1000000000):Tot (Ys f) fun b=>b=true↔FV f:=by
 unfold Ys;refine ZK (Qg8 40 (by omega) f hf) fun b hb=>?_;refine ZK (p:=fun b=>b=true↔FV f) (ZM (fun h=>?_) (fun h=>⟨_,rfl,fun h=>(by cases h),fun hn=>absurd (hb.2 hn.1) h⟩)) fun b hb=>⟨_,rfl,hb⟩;rw [Rt f hf,bsm];refine ⟨_,rfl,?_⟩;simp only [decide_eq_true_eq];exact ⟨fun h'=>⟨hb.1 h,by omega⟩,fun h'=>by have:=h'.2;omega⟩
theorem Qhn:∀(f:Fm),f.sz < 1000000000->∀(d:Nat) (a c:Int),a+d=41->1<=a->0<=c->c<=400->Tot (HJ f a c) fun r=>(r.1=true↔FIs d f/\(f.nodes:Int)<=c)/\(r.1=true->r.2=c - f.nodes):=by
 intro f
 induction f using Fm.ind with
 | h f ih =>
  intro hf d a c had ha hc0 hc;have hk:=Qap hf;have hz:=Fm.Ge f;have hn:=Fm.YM f;rw [HJ];simp only [psm,bsm];rw [Yz (a:=c - 1) (by omega) (by omega)];refine ZM (fun h0=>⟨_,rfl,⟨fun h=>(by cases h),fun h=>?_⟩,fun h=>(by cases h)⟩) (fun h0=>?_)
  ·simp only [Ka,decide_eq_true_eq] at h0
   rcases h0 with h0 | h0
   ·omega
   ·obtain rfl:d=0:=by omega
    exact h.1.elim
  simp only [Ka,decide_eq_true_eq,not_or] at h0;obtain ⟨e,rfl⟩:∃e,d=e+1:=⟨d - 1,by omega⟩
  have leaf:f.kids.length=0->f.nodes=1:=fun h=>by
   rw [hn,List.length_eq_zero_iff.1 h];rfl
  refine ZM (fun h1=>?_) (fun h1=>?_)
  ·refine ZK (Qhl (by omega)) fun b hb=>?_;refine ZK (p:=fun b'=>b'=true↔NV f.name/\f.num=0/\SV f.sc) (ZM (fun h=>?_) (fun h=>⟨_,rfl,fun h=>(by cases h),fun hn=>absurd ?_ h⟩)) fun b' hb'=>?_
   ·simp only [QH,decide_eq_true_eq] at h;exact ZK (Qhy (by omega)) fun b2 hb2=>⟨_,rfl,fun h'=>⟨hb.1 h.1,h.2,hb2.1 h'⟩,fun h'=>hb2.2 h'.2.2⟩
   ·simp only [QH,decide_eq_true_eq];exact ⟨hb.2 hn.1,hn.2.1⟩
   ·refine ⟨_,rfl,?_⟩;simp only [QH,decide_eq_true_eq];refine ⟨⟨?_,?_⟩,?_⟩
    ·rintro ⟨h2,h3⟩;have:=hb'.1 h2;have:=leaf (by omega);exact ⟨.inl ⟨h1,(hb'.1 h2).1,(hb'.1 h2).2.1,(hb'.1 h2).2.2,by omega⟩,by omega⟩
    ·rintro ⟨(h | h | h),_⟩
     ·exact ⟨hb'.2 ⟨h.2.1,h.2.2.1,h.2.2.2.1⟩,by omega⟩
     ·omega
     ·omega
    ·rintro ⟨h2,h3⟩;have:=leaf (by omega);omega
  refine ZM (fun h2=>?_) (fun h2=>?_)
  ·refine ZK (p:=fun b'=>b'=true↔f.name=Ql #[]/\0<=f.num/\f.num<=999) (ZM (fun h=>?_) (fun h=>⟨_,rfl,fun h=>(by cases h),fun hn=>absurd hn.1 h⟩)) fun b' hb'=>?_
   ·unfold GZ;refine ⟨_,rfl,?_⟩;simp only [QH,decide_eq_true_eq];exact ⟨fun h'=>⟨h,h'.1,h'.2⟩,fun h'=>h'.2⟩
   ·refine ⟨_,rfl,?_⟩;simp only [QH,decide_eq_true_eq];refine ⟨⟨?_,?_⟩,?_⟩
    ·rintro ⟨⟨h3,h4⟩,h5⟩;have:=leaf (by omega);have h6:=hb'.1 h3;exact ⟨.inr (.inl ⟨h2,h6.1,h6.2.1,h6.2.2,by omega,by omega⟩),by omega⟩
    ·rintro ⟨(h | h | h),_⟩
     ·omega
     ·exact ⟨⟨hb'.2 ⟨h.2.1,h.2.2.1,h.2.2.2.1⟩,by omega⟩,by omega⟩
     ·omega
    ·rintro ⟨⟨h3,h4⟩,h5⟩;have:=leaf (by omega);omega
  refine ZM (fun h3=>?_) (fun h3=>⟨_,rfl,⟨fun h=>(by cases h),fun h=>?_⟩,fun h=>(by cases h)⟩)
  ·refine ZM (fun h4=>⟨_,rfl,⟨fun h=>(by cases h),fun h=>?_⟩,fun h=>(by cases h)⟩) (fun h4=>?_)
   ·rcases h.1 with h | h | h
    ·omega
    ·omega
    ·rw [decide_eq_true h.2.1,decide_eq_true h.2.2.1,decide_eq_false (show ¬((f.sc.length:Int) > 0) by have:=h.2.2.2.1;omega)] at h4;exact absurd h4 (by decide)
   ·simp only [Ka,Z5,decide_eq_false_iff_not,decide_eq_true_eq,not_or,Classical.not_not] at h4
    have loop:∀(n:Nat) (i:Nat) (c:Int),i+n=f.kids.length->0<=c->c<=400->Tot (JR f a i c) fun o=>match o with | .inl r=>r.1=false/\¬((∀k∈f.kids.drop i,FIs e k)/\(YT ZX (f.kids.drop i):Int)<=c) | .inr c'=>(∀k∈f.kids.drop i,FIs e k)/\(YT ZX (f.kids.drop i):Int)<=c/\c'=c - YT ZX (f.kids.drop i):=by
     intro n
     induction n with
     | zero=>intro i c h hc0 hc;rw [JR,if_neg (by omega),show i=f.kids.length by omega,List.drop_length];exact ⟨_,rfl,by simp [YT],by simp [YT];omega,by simp [YT]⟩
     | succ n ihn =>
      intro i c h hc0 hc
      have hil:i < f.kids.length:=by omega
      rw [JR,if_pos (by omega),Yn _ i hil,bsm,VI (by omega),Yz (by omega) (by omega)];have hm:f.kids[i]∈f.kids:=ZR _;refine ZK (ih _ hm (by have:=Fm.Gf hm;omega) e (a+1) c (by omega) (by omega) hc0 hc) fun r hr=>?_;have hs:=Qct hil;refine ZM (fun h'=>⟨_,rfl,rfl,fun h2=>?_⟩) (fun h'=>?_)
      ·rw [hr.1.2 ⟨((Ck hil).1 h2.1).1,by have:=h2.2;omega⟩] at h';cases h'
      ·have ht:r.1=true:=by simpa using h'
       have h5:=hr.1.1 ht;have h6:=hr.2 ht;rw [h6];refine (ihn (i+1) _ (by omega) (by omega) (by omega)).mono fun o ho=>?_
       cases o with
       | inl r=>exact ⟨ho.1,fun h2=>ho.2 ⟨((Ck hil).1 h2.1).2,by have:=h2.2;omega⟩⟩
       | inr c'=>exact ⟨(Ck hil).2 ⟨h5.1,ho.1⟩,by have:=ho.2.1;omega,by have:=ho.2.2;omega⟩
    have:=loop f.kids.length 0 (c - 1) (by omega) (by omega) (by omega);have e0:((0:Nat):Int)=0:=rfl;rw [e0,List.drop_zero] at this;refine ZK this fun o ho=>?_
    cases o with
    | inl r =>
     refine ⟨_,rfl,⟨fun h=>(by rw [ho.1] at h;cases h),fun h=>?_⟩,fun h=>(by rw [ho.1] at h;cases h)⟩
     rcases h.1 with h7 | h7 | h7
     ·omega
     ·omega
     ·exact absurd ⟨h7.2.2.2.2,by have:=h.2;omega⟩ ho.2
    | inr c'=>exact ⟨_,rfl,⟨fun _=>⟨.inr (.inr ⟨h3,h4.1.1,h4.1.2,by have:=h4.2;omega,ho.1⟩),by have:=ho.2.1;omega⟩,fun _=>rfl⟩,fun _=>by have:=ho.2.2;simp only;omega⟩
  ·rcases h.1 with h7 | h7 | h7
   ·omega
   ·omega
   ·omega
theorem Qgy {f:Fm} (hf:f.sz < 1000000000):Tot (Hw f) fun b=>b=true↔FV f:=by
 unfold Hw;refine ZK (Qhn f hf 40 1 400 (by omega) (by omega) (by omega) (by omega)) fun r hr=>⟨_,rfl,?_⟩;show r.1=true↔FV f;rw [hr.1];unfold FV;constructor
 ·rintro ⟨h1,h2⟩;exact ⟨h1,by omega⟩
 ·rintro ⟨h1,h2⟩;exact ⟨h1,by omega⟩
end Go.Proofs.SA
namespace Go.Proofs.Shadow
theorem Cor.ind {p:Cor->Prop} (h:∀f,(∀g∈f.kids,p g)->p f) (f:Cor):p f :=
 h f fun g hg=>Cor.ind h g
termination_by SizeOf.sizeOf f
decreasing_by
 obtain ⟨k,i,s,n,l,d,ks⟩:=f;have:=List.sizeOf_lt_of_mem hg;simp only [Cor.kids] at this
 simp;omega
mutual
def Cor.sz:Cor->Nat
 | .mk _ _ s _ l d ks=>s.size+l.length+d.sz+ks.length+Cor.szL ks
def Cor.szL:List Cor->Nat
 | []=>0
 | f :: fs=>f.sz+Cor.szL fs
end
mutual
def Val.sz:Val->Nat
 | .mk _ _ s l f e=>s.size+l.length+Val.szL l+f.sz+e.length+Slt.szL e
def Val.szL:List Val->Nat
 | []=>0
 | f :: fs=>f.sz+Val.szL fs
def Slt.sz:Slt->Nat
 | .mk _ v=>v.sz
def Slt.szL:List Slt->Nat
 | []=>0
 | f :: fs=>f.sz+Slt.szL fs
end
theorem Cor.E1:∀ks,Cor.szL ks=YT Cor.sz ks
 | []=>rfl
 | f :: fs=>by rw [Cor.szL,Cor.E1 fs];rfl
theorem Val.E1:∀ks,Val.szL ks=YT Val.sz ks
 | []=>rfl
 | f :: fs=>by rw [Val.szL,Val.E1 fs];rfl
theorem Slt.E1:∀ks,Slt.szL ks=YT Slt.sz ks
 | []=>rfl
 | f :: fs=>by rw [Slt.szL,Slt.E1 fs];rfl
theorem Cor.eta (c:Cor):Cor.mk c.kind c.id c.name c.num c.ids c.data c.kids=c:=by cases c;rfl
end Go.Proofs.Shadow
namespace Go.Proofs.SA
end Go.Proofs.SA
namespace Go.Proofs.Shadow
theorem NC {α:Type} (F:ByteArray->Nat->List α->Option ByteArray) (T:α->List UInt8) (sep:List UInt8) (hn:∀z i,F z i []=some z):∀(l:List α) (z:List UInt8) (i:Nat),(∀x∈l,∀(z:List UInt8) i r,z.length+sep.length+(T x).length<=4611686018427387904->F (bs z) i (x :: r)=F (bs (z++(if i=0 then T x else sep++T x))) (i+1) r)->z.length+ZV (l.map T)+sep.length * l.length<=4611686018427387904->F (bs z) i l=some (bs (z++(if i=0 then ZY (l.map T) sep else Z6 sep (l.map T)))):=by
 intro l
 induction l with
 | nil =>
  intro z i _ _;rw [hn];simp [ZY,Z6,List.intercalate]
 | cons x l ih =>
  intro z i hc hz;simp only [QI,ZV,Z4,ZO,Nat.mul_succ] at hz
  rw [hc x (Kw ..) z i l (by omega),ih _ _ (fun y hy=>hc y (Kg _ hy)) (by
   simp only [ZV,QW]
   by_cases h:i=0
   ·rw [if_pos h];omega
   ·rw [if_neg h,QW];omega)]
  rw [if_neg (Nat.succ_ne_zero i),QI]
  by_cases h:i=0
  ·rw [if_pos h,if_pos h,Lib.join_cons,QE]
  ·rw [if_neg h,if_neg h];simp [Z6,QE]
theorem UO {α:Type} (F:List ByteArray->Nat->List α->Option (List ByteArray)) (T:α->List UInt8) (hn:∀z i,F z i []=some z):∀(l:List α) (z:List ByteArray) (i:Nat),(∀x∈l,∀z i r,z.length<=1099511627776->F z i (x :: r)=F (z++[bs (T x)]) (i+1) r)->z.length+l.length<=1099511627776->F z i l=some (z++l.map fun x=>bs (T x)):=by
 intro l
 induction l with
 | nil=>intro z i _ _;rw [hn];simp
 | cons x l ih =>
  intro z i hc hz;simp only [ZO] at hz;rw [hc x (Kw ..) z i l (by omega),ih _ _ (fun y hy=>hc y (Kg _ hy)) (by simp;omega),QI,QE];rfl
theorem DX (l:List (List UInt8)) (s:List UInt8):(ZY l s).length<=ZV l+s.length * l.length:=by
 cases l with
 | nil=>simp [Lib.join_nil]
 | cons x r=>rw [Lib.join_length,ZO,Nat.mul_succ];omega
theorem Qdg {α:Type} {T:α->List UInt8} {l:List α} {s:List UInt8} (h:l.length<=140737488355328) (h1:ZV (l.map T)+s.length * l.length<=140737488355328):Qan (l.map fun x=>bs (T x)) (bs s)=some (bs (ZY (l.map T) s)):=by
 have:=DX (l.map T) s;rw [ZU] at this;unfold Qan;rw [List.map_map,show ((fun x:ByteArray=>x.data.toList) ∘ fun x=>bs (T x))=T from rfl,ZU,if_pos ⟨h,by show (ZY (l.map T) s).length<=_;omega⟩];rfl
theorem FJ {α:Type} (T:α->List UInt8) (g:α->Nat):∀l:List α,(∀x∈l,(T x).length<=30+31 * g x)->ZV (l.map T)<=30 * l.length+31 * YT g l
 | [],_=>by simp [ZV]
 | x :: l,h=>by
  have h1:=FJ T g l (fun y hy=>h y (Kg _ hy));have h2:=h x (Kw ..);simp only [ZV,QI,Z4,ZO,YT] at h1 ⊢;omega
end Go.Proofs.Shadow
namespace Go.Proofs.SA
end Go.Proofs.SA
namespace Go.Proofs.Shadow
theorem Iz {α β:Type} (F:List β->Nat->List α->Option (List β)) (T:α->β) (hn:∀z i,F z i []=some z):∀(l:List α) (z:List β) (i:Nat),(∀x∈l,∀z i r,z.length<=1073741824->F z i (x :: r)=F (z++[T x]) (i+1) r)->z.length+l.length<=1073741824->F z i l=some (z++l.map T):=by
 intro l
 induction l with
 | nil=>intro z i _ _;rw [hn];simp
 | cons x l ih =>
  intro z i hc hz;simp only [ZO] at hz;rw [hc x (Kw ..) z i l (by omega),ih _ _ (fun y hy=>hc y (Kg _ hy)) (by simp;omega),QI,QE];rfl
mutual
def Fm.strip:Fm->Fm
 | .mk k s n _ ks=>.mk k s n [] (Fm.R9 ks)
def Fm.R9:List Fm->List Fm
 | []=>[]
 | f :: fs=>f.strip :: Fm.R9 fs
end
theorem Fm.OY:∀l,Fm.R9 l=l.map Fm.strip
 | []=>rfl
 | f :: fs=>by rw [Fm.R9,Fm.OY fs];rfl
theorem Fm.AK (f:Fm):f.strip=.mk f.kind f.name f.num [] (f.kids.map Fm.strip):=by cases f;rw [Fm.strip,Fm.OY];rfl
theorem Sb {α β:Type} (g:β->Nat) (h:α->β):∀l:List α,YT g (l.map h)=YT (fun x=>g (h x)) l
 | []=>rfl
 | x :: l=>by rw [QI,YT,YT,Sb g h l]
theorem Fm.FM (f:Fm):f.strip.sz<=f.sz:=by
 induction f using Fm.ind with
 | h f ih =>
  rw [Fm.Ge,Fm.Ge f,Fm.AK];have:=O1 (fun x=>ZT (Fm.strip x)) ZT f.kids ih;simp only [Fm.name,Fm.sc,Fm.kids,Sb,ZU,ZN] at this ⊢;omega
def FT:Nat->Fm->List UInt8
 | 0,_=>[]
 | d+1,f=>if f.kind=2 then Z1 f.num else if f.kind=1 then f.name.data.toList else [40]++ZY (f.kids.map (FT d)) [32]++[41]
end Go.Proofs.Shadow
namespace Go.Proofs.SA
theorem TL:∀(d:Nat) (f:Fm),FIs d f->(FT d f).length<=30+31 * f.sz:=by
 intro d
 induction d with
 | zero=>intro f h;exact h.elim
 | succ d ih =>
  intro f hf;have hz:=Fm.Ge f;rw [FT]
  rcases hf with h | h | h
  ·rw [if_neg (by omega),if_pos h.1];have:f.name.data.toList.length=f.name.size:=rfl;omega
  ·rw [if_pos h.1];have:=RW (n:=f.num) (by omega) (by omega);omega
  ·rw [if_neg (by omega),if_neg (by omega)];have h1:=FJ (FT d) ZT f.kids (fun x hx=>ih x (h.2.2.2.2 x hx));have h2:=DX (f.kids.map (FT d)) [32];simp only [QW,ZO,ZN,ZU] at h2 ⊢;omega
theorem Ay:∀f:Fm,f.sz<=1048576->Y3 f=some f.strip:=by
 intro f
 induction f using Fm.ind with
 | h f ih =>
  intro hf;have hz:=Fm.Ge f
  rw [Y3,Da _ _ (by omega),Iz (WO f) Fm.strip (fun _ _=>rfl) f.kids [] 0 (fun x hx z i r hzb=>by
   have:=Fm.Gf hx
   rw [WO,Ye,X7,ih x hx (by omega),X7,YD (by simp;omega),X7]) (by simp;omega),X7,Ye,Fm.AK,QU]
theorem EU:∀f:Fm,f.sz<=1048576->Vz f=some f.strip:=by
 intro f
 induction f using Fm.ind with
 | h f ih =>
  intro hf;have hz:=Fm.Ge f
  rw [Vz,CT _ _ (by omega),Iz (WL f) Fm.strip (fun _ _=>rfl) f.kids [] 0 (fun x hx z i r hzb=>by
   have:=Fm.Gf hx
   rw [WL,Ye,X7,ih x hx (by omega),X7,YD (by simp;omega),X7]) (by simp;omega),X7,Ye,Fm.AK,QU]
theorem OZ {g x:Fm} (h:x∈g.strip.kids):∃y:Fm,x=y.strip:=by
 rw [Fm.AK] at h;obtain ⟨y,_,e⟩:=List.mem_map.1 h;exact ⟨y,e.symm⟩
theorem OR:∀(d:Nat) (g:Fm),FIs d g.strip->g.strip.sz<=1048576->G8 g.strip=some (bs (FT d g.strip)):=by
 intro d
 induction d with
 | zero=>intro g h;exact h.elim
 | succ d ih =>
  intro g hf hs;have hz:=Fm.Ge g.strip
  have hsc:g.strip.sc=[]:=by rw [Fm.AK];rfl
  have hkid:=fun x=>@OZ g x;generalize g.strip=f at hf hs hz hsc hkid;rw [G8,FT]
  rcases hf with h | h | h
  ·rw [if_neg (show ¬f.kind=2 by omega),if_neg (show ¬f.kind=2 by omega),if_pos h.1,if_pos h.1,Fc _ _ (by omega),hsc,G9,Ye,X7,if_neg (by simp),PC];rfl
  ·rw [if_pos h.1,if_pos h.1,Qi9 (by omega) (by omega)];rfl
  ·have hl:=FJ (FT d) ZT f.kids (fun x hx=>TL d x (h.2.2.2.2 x hx));have hj:=DX (f.kids.map (FT d)) [32];simp only [QW,ZO,ZN,ZU] at hj
   rw [if_neg (by omega),if_neg (by omega),if_neg (by omega),if_neg (by omega),Fe _ _ (by omega),show (Ql #[40])=bs [40] from rfl,
    NC (J5 f) (FT d) [32] (fun _ _=>rfl) f.kids [40] 0 (fun x hx z i r hzb=>by
     have hxs:=GC ZT _ _ hx;obtain ⟨y,rfl⟩:=hkid x hx;simp only [ZO,ZN] at hzb;rw [J5]
     by_cases hi:i=0
     ·subst hi;rw [if_neg (by omega),if_pos rfl,Ye,X7,Ye,X7,ih y (h.2.2.2.2 _ hx) (by omega),X7,GS (by rw [Y4,Y4];omega),X7,Im]
     ·rw [if_pos (by omega),if_neg hi,show (Ql #[32])=bs [32] from rfl,GS (by rw [Y4,Y4];simp;omega),X7,Ye,X7,Ye,X7,ih y (h.2.2.2.2 _ hx) (by omega),X7,Im,GS (by rw [Y4,Y4];simp;omega),X7,Im,QE]) (by simp only [ZO,ZN];omega),X7,if_pos rfl,
    show (Ql #[41])=bs [41] from rfl,GS (by rw [Y4,Y4];simp only [QW,ZO,ZN];omega),X7,Im]
   rfl
theorem OB:∀(d:Nat) (g:Fm),FIs d g.strip->g.strip.sz<=1048576->JF g.strip=some (bs (FT d g.strip)):=by
 intro d
 induction d with
 | zero=>intro g h;exact h.elim
 | succ d ih =>
  intro g hf hs;have hz:=Fm.Ge g.strip
  have hsc:g.strip.sc=[]:=by rw [Fm.AK];rfl
  have hkid:=fun x=>@OZ g x;generalize g.strip=f at hf hs hz hsc hkid;rw [JF,FT]
  rcases hf with h | h | h
  ·rw [if_pos h.1,if_neg (show ¬f.kind=2 by omega),if_pos h.1,if_pos (by rw [hsc];rfl),PC];rfl
  ·rw [if_neg (by omega),if_pos h.1,if_pos h.1,GW,Qdf (by omega) (by omega)];rfl
  ·have hl:=FJ (FT d) ZT f.kids (fun x hx=>TL d x (h.2.2.2.2 x hx));have hj:=DX (f.kids.map (FT d)) [32];simp only [QW,ZO,ZN,ZU] at hj
   rw [if_neg (by omega),if_neg (by omega),if_neg (by omega),if_neg (by omega),Dw _ _ (by omega),
    UO (Jn f) (FT d) (fun _ _=>rfl) f.kids [] 0 (fun x hx z i r hzb=>by
     have hxs:=GC ZT _ _ hx;obtain ⟨y,rfl⟩:=hkid x hx
     rw [Jn,Ye,X7,ih y (h.2.2.2.2 _ hx) (by omega),X7,YD (by simp;omega),X7]) (by simp;omega),X7,
    QU,GV,show (Ql #[32])=bs [32] from rfl,Qdg (by omega) (by simp only [ZO,ZN];omega),X7,
    show (Ql #[40])=bs [40] from rfl,GS (by rw [Y4,Y4];simp only [ZO,ZN];omega),X7,Im,
    show (Ql #[41])=bs [41] from rfl,GS (by rw [Y4,Y4];simp only [QW,ZO,ZN];omega),X7,Im]
   rfl
open Classical in
noncomputable def FF (f:Fm):List UInt8:=if FV f.strip then FT 40 f.strip else []
theorem Qeu (f:Fm):(FF f).length<=30+31 * f.sz:=by
 unfold FF;split
 ·rename_i h;have:=TL 40 _ h.1;have:=Fm.FM f;omega
 ·simp
theorem Qfi {f:Fm} (hf:f.sz<=1048576):WE f.strip=some (bs (FF f)):=by
 have hs:=Fm.FM f;obtain ⟨b,hb,hv⟩:=JP (f:=f.strip) (by omega);rw [WE,hb,X7,FF];cases b
 ·rw [if_pos (show (!false)=true from rfl),if_neg (fun h=>by cases hv.2 h)];rfl
 ·rw [if_neg (by decide),if_pos (hv.1 rfl),OR 40 f (hv.1 rfl).1 (by omega)];rfl
theorem Qe9 {f:Fm} (hf:f.sz<=1048576):WC f.strip=some (bs (FF f)):=by
 have hs:=Fm.FM f;obtain ⟨b,hb,hv⟩:=Qgy (f:=f.strip) (by omega);rw [WC,hb,X7,FF];cases b
 ·rw [if_pos (show (!false)=true from rfl),if_neg (fun h=>by cases hv.2 h)];rfl
 ·rw [if_neg (by decide),if_pos (hv.1 rfl),OB 40 f (hv.1 rfl).1 (by omega)];rfl
def OW (s:Stp):Nat:=s.use.sz+s.res.sz
noncomputable def TT (s:Stp):List UInt8:=FF s.use++[32,45,62,32]++FF s.res++[10]
theorem TO (x:Stp):(TT x).length=(FF x.use).length+4+(FF x.res).length+1:=by unfold TT;simp only [QW,ZO,ZN]
theorem P0 (s:Stp):OW s=s.use.sz+s.res.sz:=rfl
theorem Qix (s:Stp):(TT s).length<=65+31 * OW s:=by
 have h1:=Qeu s.use;have h2:=Qeu s.res;unfold TT OW;simp only [QW,ZO,ZN];omega
theorem NZ:∀l:List Stp,ZV (l.map TT)<=65 * l.length+31 * YT OW l
 | []=>by simp [ZV]
 | x :: l=>by
  have h1:=NZ l;have h2:=Qix x;simp only [ZV,QI,Z4,ZO,YT] at h1 ⊢;omega
theorem EX (l:List Stp) (h:l.length+YT OW l<=1048576):GM l=some (bs (ZY (l.map TT) [])):=by
 have hl:=NZ l
 rw [GM,C9 _ _ (by omega),show (Ql #[])=bs [] from rfl,
  NC (WN l) TT [] (fun _ _=>rfl) l [] 0 (fun x hx z i r hzb=>by
   have hxs:=GC OW _ _ hx;have:=TO x;have hst:=P0 x
   have e:(if i=0 then TT x else []++TT x)=TT x:=by split<;>rfl
   simp only [ZN] at hzb;rw [WN,e,Ye,X7,Ay _ (by omega),X7,Qfi (by omega),X7,GS (by rw [Y4,Y4];omega),X7,Im,show (Ql #[32,45,62,32])=bs [32,45,62,32] from rfl,GS (by rw [Y4,Y4];simp;omega),X7,Im];rw [X7];rw [Ay _ (by omega),X7,Qfi (by omega),X7,GS (by rw [Y4,Y4];simp;omega),X7,Im,show (Ql #[10])=bs [10] from rfl,GS (by rw [Y4,Y4];simp;omega),X7,Im]
   simp only [TT,QE]) (by simp;omega),X7,Ye,if_pos rfl,QU]
theorem BN (l:List Stp) (h:l.length+YT OW l<=1048576):JQ l=some (bs (ZY (l.map TT) [])):=by
 have hl:=NZ l
 rw [JQ,CS _ _ (by omega),show (Ql #[])=bs [] from rfl,
  NC (WK l) TT [] (fun _ _=>rfl) l [] 0 (fun x hx z i r hzb=>by
   have hxs:=GC OW _ _ hx;have:=TO x;have hst:=P0 x
   have e:(if i=0 then TT x else []++TT x)=TT x:=by split<;>rfl
   simp only [ZN] at hzb
   rw [WK,e,Ye,X7,EU _ (by omega),X7,Qe9 (by omega),X7,show (Ql #[32,45,62,32])=bs [32,45,62,32] from rfl,GS (by rw [Y4,Y4];simp;omega),X7,Im,
    EU _ (by omega),X7,Qe9 (by omega),X7,GS (by rw [Y4,Y4];simp;omega),X7,Im,show (Ql #[10])=bs [10] from rfl,GS (by rw [Y4,Y4];simp;omega),X7,Im,GS (by rw [Y4,Y4];simp;omega),X7,Im]
   simp only [TT,QE]) (by simp;omega),X7,Ye,if_pos rfl,QU]
end Go.Proofs.SA
