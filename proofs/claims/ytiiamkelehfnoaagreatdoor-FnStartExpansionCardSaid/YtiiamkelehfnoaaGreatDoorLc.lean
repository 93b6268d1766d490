/- Live trees: a list of them handed on to be read; a row of ours written in an open region; two stores of an open region in either order, the second of which may turn a variable. -/
import Derived.Test.YtiiamkelehfnoaaGreatDoorLv
open _root_.List renaming all_eq_true → Q8
set_option linter.unusedVariables false
set_option linter.unusedSimpArgs false
namespace Go.Proofs.Shadow
open Go
theorem Qjd {P:Program} {ops:Array Oper} {K:AS->Prop} {s:AS} (E:Nat->Prop) (cl:List Cl) (is:List Nat) (cp:Cl) (p:Nat) (cq:Cl) (q:Nat) (clA:List Cl) (isA:List Nat) (clZ:List Cl) (isZ:List Nat) (hchk:Qaw P ops (cl.zip is) (cp,p) (cq,q) (clA.zip isA) (clZ.zip isZ)=true)
  (h:LI P E (ops.toList.map (·.dst)) ((cl.zip is).map fun p=>(p.1,Ac ops p.2)) (fun s'=>LI P E (ops.toList.map (·.dst)) ((cp,Ac ops p) :: (((clA.zip isA).map fun p=>(p.1,Ac ops p.2))++(cq,Ac ops q) :: (clZ.zip isZ).map fun p=>(p.1,Ac ops p.2))) K s'/\LI P E (ops.toList.map (·.dst)) ((cq,Ac ops q) :: (cp,Ac ops p) :: (((clA.zip isA).map fun p=>(p.1,Ac ops p.2))++(clZ.zip isZ).map fun p=>(p.1,Ac ops p.2))) K s') s):RJ P ops K s:=by
 intro n ss0 w0 a w Qe hok hR hQ;unfold Qaw at hchk;simp only [Bool.and_eq_true] at hchk;obtain ⟨⟨⟨⟨⟨⟨⟨h1,h2⟩,h2'⟩,h3⟩,h4⟩,h5⟩,h6⟩,h7⟩:=hchk;generalize cl.zip is=Pre at *;generalize clA.zip isA=A at *;generalize clZ.zip isZ=Z at *
 have h5':(Pre++(cp,p) :: (A++(cq,q) :: Z)).length=ops.size:=by simpa using h5
 refine Ft (E:=E) h1 hok hQ (cp,p) (cq,q) A Z ops.size Pre _ s a w h5' ⟨by simp,fun i hi=>?_,fun p hp=>by have:=(Q8.1 h4) p hp;simpa using this,fun i hi hl=>?_,h2,h2',fun x hx=>by have:=(Q8.1 h6) x hx;simpa using this,by simpa using h7⟩ hR (Dy _ h fun s' hs=>⟨by have:=hs.1;unfold Oz;simpa using this,by have:=hs.2;unfold Oz;simpa using this⟩)
 ·have hf:(Array.replicate ops.size false).getD i true=false:=by simp [hi]
  rw [hf];have:=(Q8.1 h3) i (List.mem_range.2 hi);rw [List.any_eq_true] at this;obtain ⟨p,hp,hpi⟩:=this
  have:p.2=i:=by simpa using hpi
  subst this;exact ⟨fun _=>⟨p.1,hp⟩,fun _=>rfl⟩
 ·have hf:(Array.replicate ops.size false).getD i true=false:=by simp [hi]
  rw [hf] at hl;cases hl
end Go.Proofs.Shadow
