/- Contracts of Go's library, off the kit's shelf, as pure contracts. -/
import Derived.Test.YtiiamkelehfnoaaGreatDoorGx
import Derived.Lib.Join
import Derived.Lib.AppendIntMem
open _root_.List renaming getD_cons_zero → KR
open _root_.ByteArray renaming size → KS
set_option linter.unusedVariables false
namespace Go.Proofs.Shadow
open Go Go.RowKit Go.Sort
def Qky : String := "internal/strconv.uint64pow10"
def Qal (a:Int):Option ByteArray:=if -9223372036854775808<=a/\a<=9223372036854775807/\(Lib.itoa a).length<=4611686018427387904 then some ⟨(Lib.itoa a).toArray⟩ else none
def Qan (xs:List ByteArray) (s:ByteArray):Option ByteArray :=
 if xs.length<=140737488355328/\(Lib.join (xs.map (·.data.toList)) s.data.toList).length<=140737488355328 then some ⟨(Lib.join (xs.map (·.data.toList)) s.data.toList).toArray⟩ else none
theorem Qk1 {ss:Sto} {w:World} {s:ByteArray} {v:Value} (h:Rv ss w (.str s) v):v=.string s:=by
 cases h;rfl
theorem O0:∀xs:List ByteArray,(rws cS xs).flatten=xs.map AV.str
 | []=>rfl
 | a :: l=>by rw [Y2,List.flatten_cons,O0 l];rfl
theorem OE {l:List UInt8} (h:l.length<=140737488355328):(⟨l.toArray⟩:ByteArray).size<=4611686018427387904:=by
 have e:(⟨l.toArray⟩:ByteArray).size=l.length:=by simp [KS]
 omega
section
variable {P:Program} {f:FuncId} {fn:Func}
theorem Qam (hf : P.funcs[f]? = some fn) (hb : fn.body.isNone = false) (hn : (fn.name == "runtime.NumGoroutine") = false) (hg0 : (P.globalNamed Qky).isSome = true)
  (h:∀n,-9223372036854775808<=n->n<=9223372036854775807->∀w,Lib.TabIs P w Qky .u64 Lib.pow10Tab->Calls P f #[.int .i64 n] w fun e w'=>e=.returned (.string ⟨(Lib.itoa n).toArray⟩)/\∃k os,w'=grow (w.drewN k) os)
  {a:Int} {r:ByteArray} (H:Qal a=some r):Vb P f [.int .i64 a] (.str r):=by
 unfold Qal at H;split at H
 ·rename_i hc
  injection H with H
  subst H;obtain ⟨g,hg⟩:=Option.isSome_iff_exists.1 hg0;intro ss;refine ⟨⟨fn,hf,hb,hn⟩,fun w cargs hsim htb hl hr=>?_⟩;have h0:=hr 0 _ rfl
  match cargs,hl with
  | [x],_ =>
   simp only [KR] at h0;cases h0;refine (h a hc.1 hc.2.1 w (htb _ (List.mem_cons_self ..) g hg).2).mono ?_;rintro e w' ⟨rfl,k,os,rfl⟩;have hbl:=Lib.below_grow w.heap.size w (Nat.le_refl _) k os;exact ⟨_,_,ss,rfl,Step.Ax hbl,hsim.below hbl,.str (by have:=hc.2.2;simpa [KS] using this),rfl,rfl⟩
 ·cases H
theorem Qao (hf : P.funcs[f]? = some fn) (hb : fn.body.isNone = false) (hn : (fn.name == "runtime.NumGoroutine") = false)
  (h0:∀(a:Option Addr) (c:Nat) (sep:ByteArray) (w:World),Calls P f #[.slice a 0 c,.string sep] w fun e w'=>e=.returned (.string ⟨#[]⟩)/\w'=w)
  (h:∀(bk o c:Nat) (xs:List ByteArray) (sep:ByteArray) (w:World),(∀(j:Nat) x,xs[j]?=some x->w.cell? ⟨bk,o+j,none⟩=some (.string x))->bk < w.heap.size->xs.length<=140737488355328->xs.length<=c ->
   (Lib.join (xs.map (·.data.toList)) sep.data.toList).length<=140737488355328->Calls P f #[.slice (some ⟨bk,o,none⟩) xs.length c,.string sep] w fun e w'=>e=.returned (.string ⟨(Lib.join (xs.map (·.data.toList)) sep.data.toList).toArray⟩)/\Below w.heap.size w w')
  {xs:List ByteArray} {s r:ByteArray} (H:Qan xs s=some r):Vb P f [.sl false (rws cS xs),.str s] (.str r):=by
 unfold Qan at H;split at H
 ·rename_i hc
  injection H with H
  subst H;intro ss;refine ⟨⟨fn,hf,hb,hn⟩,fun w cargs hsim htb hl hr=>?_⟩;have g0:=hr 0 _ rfl;have g1:=hr 1 _ rfl
  match cargs,hl with
  | [x,y],_ =>
   simp only [KR,List.getD_cons_succ] at g0 g1;cases g1;generalize hrow:rws cS xs=rows at g0
   cases g0 with
   | slE _ =>
    obtain rfl:xs=[]:=by cases xs with | nil=>rfl | cons a l=>cases hrow
    refine (h0 _ _ s w).mono ?_;rintro e w' ⟨rfl,rfl⟩;exact ⟨_,_,ss,rfl,Step.refl _ _,hsim,.str (OE (l:=[]) (by simp)),rfl,rfl⟩
   | slC hx hln hle hcp hsz hcc hd hbk hi hff hrr =>
    subst hrow;rw [WD] at hln;subst hln;refine (h _ _ _ xs s w (fun j x hj=>?_) hbk hc.1 hcp hc.2).mono ?_
    ·have e:(rws cS xs).flatten[j]?=some (.str x):=by
      have:=O0 xs;rw [this,List.getElem?_map,hj];rfl
     have h1:=hff j _ e;have h2:=hrr j _ e;rw [h1];exact congrArg some (Qk1 h2)
    ·rintro e w' ⟨rfl,hbl⟩;exact ⟨_,_,ss,rfl,Step.Ax hbl,hsim.below hbl,.str (OE hc.2),rfl,rfl⟩
 ·cases H
end
end Go.Proofs.Shadow
