/- Sort and Compact of a slice of ours, by the shelf's contracts. -/
import Derived.Test.YtiiamkelehfnoaaGreatGx
import Derived.Sort.Grow
import Derived.Shelf.Slices.CompactI
import Derived.Lib.RowBridge
open _root_.Array renaming getElem?_eq_some_iff → Qm, getElem?_modify → KR
open _root_.List renaming getElem?_eq_some_iff → Qd, set_getElem_self → KQ, replicate → Q0, append_nil → KJ, mem_map → QX
set_option linter.unusedVariables false
set_option linter.unusedSimpArgs false
namespace Go.Proofs.Shadow
open Go Go.RowKit Go.Sort
theorem OJ (l:List Int):(rws cI l).flatten=l.map fun n=>AV.int .i64 n:=by
 induction l with
 | nil=>rfl
 | cons x l ih=>rw [show rws cI (x :: l)=[AV.int .i64 x] :: rws cI l from rfl,List.flatten_cons,ih];rfl
theorem Ru {ss:Sto} {w:World} (hs:Sim ss w) {b cap:Nat} {e:TypeId} {l:List Int} (he:ss.own b=some ⟨e,cap,(rws cI l).flatten⟩):∃cs,w.heap[b]?=some (.cells cs e (0,0))/\cs.size=cap/\l.length<=cap/\∀(j:Nat) (h:j < l.length),cs[j]?=some (.int .i64 l[j]):=by
 obtain ⟨cs,h1,h2,h3,h4⟩:=hs.own b _ he;simp only [OJ,List.length_map] at h2 h3 h4;refine ⟨cs,h1,h2,h3,fun j hj=>?_⟩;have:=(h4 j (.int .i64 l[j]) (by simp [hj])).2
 have hlt:j < cs.size:=by omega
 have hg:cs.getD j undef=cs[j]:=by simp [hlt]
 rw [hg] at this;generalize hx:cs[j]=x at this;cases this;simp [hlt,hx]
theorem Mw {ss:Sto} {w:World} (hs:Sim ss w) {b cap:Nat} {e:TypeId} {l:List Int} (he:ss.own b=some ⟨e,cap,(rws cI l).flatten⟩):Holds (Value.int .i64) w b 0 l.toArray/\b < w.heap.size:=by
 obtain ⟨cs,h1,h2,h3,h4⟩:=Ru hs he;refine ⟨fun j hj=>?_,(Qm.1 h1).1⟩
 have hj':j < l.length:=by simpa using hj
 refine ⟨?_,by simp [World.frozen?,h1]⟩;rw [Nat.zero_add,cell_of_row w b j cs e (0,0) h1,h4 j hj'];simp [hj']
theorem Sw {ss:Sto} {w:World} (hs:Sim ss w) {b cap:Nat} {e:TypeId} {l d:List Int} (he:ss.own b=some ⟨e,cap,(rws cI l).flatten⟩) (hd:d.length=l.length) (m:Nat) (os:Array Obj) {k:Nat} (hk:k<=d.length) :
  Step ss w (ss.YS b ⟨e,cap,(rws cI (d.take k)).flatten⟩) (grow (putRow (Value.int .i64) (Sort.ahead w m) b 0 d.toArray) os)/\Sim (ss.YS b ⟨e,cap,(rws cI (d.take k)).flatten⟩) (grow (putRow (Value.int .i64) (Sort.ahead w m) b 0 d.toArray) os):=by
 obtain ⟨cs,h1,h2,h3,h4⟩:=Ru hs he;have hbs:b < w.heap.size:=(Qm.1 h1).1
 have hp:∀b',b'≠b->(putRow (Value.int .i64) (Sort.ahead w m) b 0 d.toArray).heap[b']?=w.heap[b']?:=fun b' hb=>by
  simp only [putRow,mapBlock,Sort.ahead,KR];rw [if_neg (Ne.symm hb)]
 have hpb:(putRow (Value.int .i64) (Sort.ahead w m) b 0 d.toArray).heap[b]?=some (.cells (putCells (Value.int .i64) 0 d.toArray cs) e (0,0)):=by
  simp only [putRow,mapBlock,Sort.ahead,KR];rw [if_pos trivial,h1];rfl
 have hps:(putRow (Value.int .i64) (Sort.ahead w m) b 0 d.toArray).heap.size=w.heap.size:=by
  simp [putRow,mapBlock,Sort.ahead]
 have hold:∀b',b' < w.heap.size->b'≠b->(grow (putRow (Value.int .i64) (Sort.ahead w m) b 0 d.toArray) os).heap[b']?=w.heap[b']?:=fun b' hb hne=>by
  rw [heap_grow_old _ _ (by rw [hps];exact hb),hp b' hne]
 have hst:Step ss w (ss.YS b ⟨e,cap,(rws cI (d.take k)).flatten⟩) (grow (putRow (Value.int .i64) (Sort.ahead w m) b 0 d.toArray) os):=by
  refine ⟨rfl,rfl,rfl,?_,fun b' hb' hdd=>?_⟩
  ·show w.heap.size<=((putRow (Value.int .i64) (Sort.ahead w m) b 0 d.toArray).heap++os).size;rw [Array.size_append,hps];omega
  ·have hne:b'≠b:=fun h=>by subst h;rw [hdd.2] at he;cases he
   refine ⟨hold b' hb' hne,hdd.1,?_⟩;simp only [Sto.YS];rw [if_neg hne];exact hdd.2
 refine ⟨hst,fun b' e' hb'=>?_,fun b' e' hb'=>?_⟩
 ·obtain ⟨v1,v2,v3⟩:=hs.var b' e' hb'
  have hne:b'≠b:=fun h=>by subst h;rw [v3] at he;cases he
  refine ⟨v1.step hst (hold b' v1.lt hne),v2,?_⟩;simp only [Sto.YS];rw [if_neg hne];exact v3
 ·simp only [Sto.YS] at hb'
  by_cases hne:b'=b
  ·rw [if_pos hne] at hb'
   injection hb' with hb'
   subst hb';subst hne;refine ⟨_,by rw [heap_grow_old _ _ (by rw [hps];exact hbs)];exact hpb,?_,?_,fun i c hic=>?_⟩
   ·simp only [putCells,Array.size_mapIdx];exact h2
   ·simp only [OJ,List.length_map,List.length_take];omega
   ·rw [OJ] at hic;simp only [List.getElem?_map,List.getElem?_take] at hic;split at hic
    ·rename_i hik
     have hid:i < d.length:=by omega
     rw [List.getElem?_eq_getElem hid] at hic
     injection hic with hic
     subst hic
     have hics:i < cs.size:=by omega
     have:(putCells (Value.int .i64) 0 d.toArray cs).getD i undef=.int .i64 d[i]:=by
      simp only [putCells,Array.getD_eq_getD_getElem?,Array.getElem?_mapIdx];rw [Array.getElem?_eq_getElem hics];simp [hid]
     rw [this];exact ⟨rfl,.int⟩
    ·cases hic
  ·rw [if_neg hne] at hb';have:=hs.own b' e' hb';exact this.step hst (hold b' this.lt hne)
def Qh3 (P : Program) (f : FuncId) : Prop := (∃ fn, P.funcs[f]? = some fn /\ fn.body.isNone = false /\ (fn.name == "runtime.NumGoroutine") = false) /\
 (∀(blk off cap:Nat) (zs:List Int) (w:World),Holds (Value.int .i64) w blk off zs.toArray->blk < w.heap.size->zs.length < 4611686018427387904->Calls P f #[.slice (some ⟨blk,off,none⟩) zs.length cap] w fun e w'=>e=.returned (.tuple #[])/\∃n os,w'=grow (putRow (Value.int .i64) (Sort.ahead w n) blk off (zs.mergeSort fun x y=>decide (x<=y)).toArray) os) /\
 (∀(p:Option Addr) (cap:Nat) (w:World),Calls P f #[.slice p 0 cap] w fun e w'=>e=.returned (.tuple #[])/\w'=w)
def Qhz (P : Program) (f : FuncId) : Prop := (∃ fn, P.funcs[f]? = some fn /\ fn.body.isNone = false /\ (fn.name == "runtime.NumGoroutine") = false) /\
 (∀(blk off cap:Nat) (zs:List Int) (w:World),Holds (Value.int .i64) w blk off zs.toArray->zs.length<=9223372036854775807->zs.length<=cap->Calls P f #[.slice (some ⟨blk,off,none⟩) zs.length cap] w fun e w'=>e=.returned (.slice (some ⟨blk,off,none⟩) (Lib.compact zs).length cap)/\∃q,w'=putRow (Value.int .i64) (Sort.ahead w q) blk off (Lib.compact zs++Q0 (zs.length - (Lib.compact zs).length) 0).toArray) /\
 (∀(a:Option Addr) (cap:Nat) (w:World),Calls P f #[.slice a 0 cap] w fun e w'=>e=.returned (.slice a 0 cap)/\w'=w)
section
variable {P:Program} {f:FuncId} {tt ss:Sto} {bs:List (Nat × Ent)} {ms:List Br} {T:Nat->AV} {dst:Option Tmp} {K:AS->Prop}
theorem Mu (hF:Fx tt ss bs ms) (j:Nat) {v:AV} {e:TypeId} {l:List Int} (hj:ms[j]?=some ⟨v,e,1,rws cI l⟩):(l=[]/\(v=.Ya∨v=.sl true []))∨∃b cap,v=.ref b l.length cap/\ss.own b=some ⟨e,cap * 1,(rws cI l).flatten⟩:=by
 have hm:=(hF.CD j hj).1.2;have hw:=hF.wr _ (List.mem_of_getElem? hj);have nil:rws cI l=[]->l=[]:=fun h=>List.eq_nil_of_length_eq_zero (by have:=congrArg List.length h;simpa [rws] using this)
 have hlen:(rws cI l).length=l.length:=by simp [rws]
 rcases hm with ⟨h1,h2⟩ | h1 | ⟨b,cap,h1,h2⟩
 ·exact .inl ⟨nil h2,.inl h1⟩
 ·simp only at h1 hw;subst h1
  rcases hw with h | h | h
  ·exact .inl ⟨nil h,.inr (by rw [h])⟩
  ·exact absurd rfl h
  ·exact absurd h (by decide)
 ·exact .inr ⟨b,cap,by rw [← hlen];exact h1,h2⟩
theorem Qgc (hC:Qh3 P f) (hF:Fx tt ss bs ms) (j:Nat) {v:AV} {e:TypeId} {l:List Int} (hj:ms[j]?=some ⟨v,e,1,rws cI l⟩) (hl:l.length < 4611686018427387904)
  (hK:∀ss',Fx tt ss' bs (ms.set j ⟨v,e,1,rws cI (EG l)⟩)->K (AS.put ⟨T,ss'⟩ dst (.tup []))):CR P (.fn f []) [v] ⟨T,ss⟩ dst K:=by
 show Ctr P f ([v]++[]) ss _;rw [KJ];refine ⟨hC.1,fun w cargs hs htb hcl hr=>?_⟩
 obtain ⟨c0,rfl⟩:∃c,cargs=[c]:=by
  match cargs,hcl with
  | [c],_=>exact ⟨c,rfl⟩
 have hv:Rv ss w v c0:=hr 0 v rfl
 have hsl:(EG l).length=l.length:=by simp [EG]
 rcases Mu hF j hj with ⟨rfl,h⟩ | ⟨b,cap,rfl,he⟩
 ·have hz:∃p cap,c0=.slice p 0 cap:=by
   rcases h with rfl | rfl
   ·cases hv;exact ⟨_,_,rfl⟩
   ·cases hv with
    | slE _=>exact ⟨_,_,rfl⟩
    | slC hx=>exact absurd rfl hx
  obtain ⟨p,cap,rfl⟩:=hz;refine Calls.mono (hC.2.2 p cap w) ?_;rintro e' w' ⟨rfl,rfl⟩;refine ⟨_,.tup [],ss,rfl,Step.refl _ _,hs,.tup rfl (fun i c h=>by cases h),hK ss ?_⟩
  have:ms.set j ⟨v,e,1,rws cI (EG [])⟩=ms:=by
   have hjl:=(Qd.1 hj);rw [show EG []=[] by simp [EG],← hjl.2,KQ]
  rw [this];exact hF
 ·generalize hx:c0=x at hv
  cases hv with
  | ref hle hcp hcm =>
   subst hx;obtain ⟨hH,hb⟩:=Mw hs he;refine Calls.mono (hC.2.1 b 0 cap l w hH hb hl) ?_;rintro e' w' ⟨rfl,n,os,rfl⟩;obtain ⟨s1,s2⟩:=Sw hs he hsl n os (k:=(EG l).length) (Nat.le_refl _);rw [List.take_length] at s1 s2;refine ⟨_,.tup [],_,rfl,s1,s2,.tup rfl (fun i c h=>by cases h),hK _ ?_⟩;exact hF.oset j hj (by simp [rws,hsl]) (fun r hr=>by obtain ⟨y,_,rfl⟩:=QX.1 hr;rfl)
theorem Qew {d:Tmp} (hC:Qhz P f) (hF:Fx tt ss bs ms) (j:Nat) {v:AV} {e:TypeId} {l:List Int} (hj:ms[j]?=some ⟨v,e,1,rws cI l⟩)
  (hK:∀v' ss',Fx tt ss' bs (ms.set j ⟨v',e,1,rws cI (Lib.compact l)⟩)->K ⟨upd T d v',ss'⟩):CR P (.fn f []) [v] ⟨T,ss⟩ (some d) K:=by
 show Ctr P f ([v]++[]) ss _;rw [KJ];refine ⟨hC.1,fun w cargs hs htb hcl hr=>?_⟩
 obtain ⟨c0,rfl⟩:∃c,cargs=[c]:=by
  match cargs,hcl with
  | [c],_=>exact ⟨c,rfl⟩
 have hv:Rv ss w v c0:=hr 0 v rfl;have hcc:(Lib.compact l).length<=l.length:=Lib.compact_length_le l
 rcases Mu hF j hj with ⟨rfl,h⟩ | ⟨b,cap,rfl,he⟩
 ·have hz:∃p cap,c0=.slice p 0 cap:=by
   rcases h with rfl | rfl
   ·cases hv;exact ⟨_,_,rfl⟩
   ·cases hv with
    | slE _=>exact ⟨_,_,rfl⟩
    | slC hx=>exact absurd rfl hx
  obtain ⟨p,cap,rfl⟩:=hz;refine Calls.mono (hC.2.2 p cap w) ?_;rintro e' w' ⟨rfl,rfl⟩;refine ⟨_,v,ss,rfl,Step.refl _ _,hs,hv,hK v ss ?_⟩
  have:ms.set j ⟨v,e,1,rws cI (Lib.compact [])⟩=ms:=by
   have hjl:=(Qd.1 hj);rw [show Lib.compact ([]:List Int)=[] from rfl,← hjl.2,KQ]
  rw [this];exact hF
 ·generalize hx:c0=x at hv
  cases hv with
  | ref hle hcp hcm =>
   subst hx;obtain ⟨hH,hb⟩:=Mw hs he;refine Calls.mono (hC.2.1 b 0 cap l w hH (by omega) (by omega)) ?_;rintro e' w' ⟨rfl,q,rfl⟩
   have hd:(Lib.compact l++Q0 (l.length - (Lib.compact l).length) 0).length=l.length:=by simp;omega
   obtain ⟨s1,s2⟩:=Sw hs he hd q #[] (k:=(Lib.compact l).length) (by rw [hd];exact hcc);rw [List.take_left,grow_empty] at s1 s2;refine ⟨_,.ref b (Lib.compact l).length cap,_,rfl,s1,s2,.ref (by omega) (by omega) hcm,hK _ _ ?_⟩;have:=Fx.Qj8 hF (rows':=rws cI (Lib.compact l)) j hj (fun r hr=>by obtain ⟨y,_,rfl⟩:=QX.1 hr;rfl);rw [show (rws cI (Lib.compact l)).length=(Lib.compact l).length by simp [rws]] at this;exact this
theorem Qdh (hC:Qh3 P f) (hF:Fx tt ss bs ms) (j:Nat) {v:AV} {e:TypeId} {l x:List Int} (hj:ms[j]?=some ⟨v,e,1,rws cI l⟩) (hx:Qgb l=some x)
  (hK:∀ss',Fx tt ss' bs (ms.set j ⟨v,e,1,rws cI x⟩)->K (AS.put ⟨T,ss'⟩ dst (.tup []))):CR P (.fn f []) [v] ⟨T,ss⟩ dst K:=by
 unfold Qgb at hx;split at hx
 ·rename_i hl
  injection hx with hx
  subst hx;exact Qgc hC hF j hj hl hK
 ·cases hx
theorem Qbu {d:Tmp} (hC:Qhz P f) (hF:Fx tt ss bs ms) (j:Nat) {v:AV} {e:TypeId} {l x:List Int} (hj:ms[j]?=some ⟨v,e,1,rws cI l⟩) (hx:Qet l=some x)
  (hK:∀v' ss',Fx tt ss' bs (ms.set j ⟨v',e,1,rws cI x⟩)->K ⟨upd T d v',ss'⟩):CR P (.fn f []) [v] ⟨T,ss⟩ (some d) K:=by
 unfold Qet at hx
 injection hx with hx
 subst hx;exact Qew hC hF j hj hK
def Qps (P : Program) (f g : FuncId) : Prop := (∃ fn, P.funcs[f]? = some fn /\ fn.body.isNone = false /\ (fn.name == "runtime.NumGoroutine") = false) /\
 (∀(blk off cap:Nat) (d:List Int) (lim:Int) (B:Nat) (w:World),B < w.heap.size->B≠blk->w.cell? ⟨B,0,none⟩=some (.int .i64 lim)->Holds (Value.int .i64) w blk off d.toArray->d.length<=9223372036854775807->d.length<=cap ->
  Calls P f #[.slice (some ⟨blk,off,none⟩) d.length cap,.func (.func g) #[] #[.pointer (some ⟨B,0,none⟩)]] w fun e w'=>e=.returned (.slice (some ⟨blk,off,none⟩) (d.filter fun x=>!decide (x=lim)).length cap) /\
   ∃q,w'=putRow (Value.int .i64) (Sort.ahead w q) blk off ((d.filter fun x=>!decide (x=lim))++Q0 (d.length - (d.filter fun x=>!decide (x=lim)).length) 0).toArray) /\
 (∀(a:Option Addr) (cap:Nat) (fv:Value) (w:World),Calls P f #[.slice a 0 cap,fv] w fun e w'=>e=.returned (.slice a 0 cap)/\w'=w)
theorem Qgq {ss:Sto} {w:World} (hs:Sim ss w) {B:Nat} {ty:TypeId} {n:Nat} {s:Int} (h:ss.var B=some ⟨ty,n,[.int .i64 s]⟩):B < w.heap.size/\w.cell? ⟨B,0,none⟩=some (.int .i64 s):=by
 obtain ⟨⟨cs,h1,h2,h3,h4⟩,h5,_⟩:=hs.var B _ h;refine ⟨(Qm.1 h1).1,?_⟩;have:=(h4 0 _ rfl).2;simp only [List.length_cons,List.length_nil] at h2 h5
 have hlt:0 < cs.size:=by omega
 have hg:cs.getD 0 undef=cs[0]:=by simp [hlt]
 rw [hg] at this;generalize hx:cs[0]=x at this;cases this;rw [cell_of_row w B 0 cs ty (0,0) h1];simp [hlt,hx]
theorem Qe1 {g:FuncId} {d:Tmp} (hC:Qps P f g) (hF:Fx tt ss bs ms) (j:Nat) {v:AV} {e:TypeId} {l x:List Int} {B:Nat} {ty:TypeId} {n:Nat} {s:Int} (hj:ms[j]?=some ⟨v,e,1,rws cI l⟩) (hB:ss.var B=some ⟨ty,n,[.int .i64 s]⟩) (hx:Qnv l s=some x)
  (hK:∀v' ss',Fx tt ss' bs (ms.set j ⟨v',e,1,rws cI x⟩)->K ⟨upd T d v',ss'⟩):CR P (.fn f []) [v,.fn g [.ptr B 0]] ⟨T,ss⟩ (some d) K:=by
 unfold Qnv at hx
 injection hx with hx
 subst hx;show Ctr P f ([v,.fn g [.ptr B 0]]++[]) ss _;rw [KJ];refine ⟨hC.1,fun w cargs hs htb hcl hr=>?_⟩
 obtain ⟨c0,c1,rfl⟩:∃c c',cargs=[c,c']:=by
  match cargs,hcl with
  | [c,c'],_=>exact ⟨c,c',rfl⟩
 have hv:Rv ss w v c0:=hr 0 v rfl;have hf:Rv ss w (.fn g [.ptr B 0]) c1:=hr 1 _ rfl;obtain ⟨hBs,hcell⟩:=Qgq hs hB;have hcc:(L6 l s).length<=l.length:=List.length_filter_le _ _
 rcases Mu hF j hj with ⟨rfl,h⟩ | ⟨b,cap,rfl,he⟩
 ·have hz:∃p cap,c0=.slice p 0 cap:=by
   rcases h with rfl | rfl
   ·cases hv;exact ⟨_,_,rfl⟩
   ·cases hv with
    | slE _=>exact ⟨_,_,rfl⟩
    | slC hx=>exact absurd rfl hx
  obtain ⟨p,cap,rfl⟩:=hz;refine Calls.mono (hC.2.2 p cap c1 w) ?_;rintro e' w' ⟨rfl,rfl⟩;refine ⟨_,v,ss,rfl,Step.refl _ _,hs,hv,hK v ss ?_⟩
  have:ms.set j ⟨v,e,1,rws cI (L6 [] s)⟩=ms:=by
   have hjl:=(Qd.1 hj);rw [show L6 [] s=[] from rfl,← hjl.2,KQ]
  rw [this];exact hF
 ·have hne:B≠b:=fun h=>by
   subst h;rw [(hs.var _ _ hB).2.2] at he;cases he
  have hc1:c1=.func (.func g) #[] #[.pointer (some ⟨B,0,none⟩)]:=by
   cases hf with
   | fn hl hr' =>
    rename_i vs;have h0:=hr' 0 (.ptr B 0) rfl
    match vs,hl,h0 with
    | ⟨[c]⟩,_,h0 =>
     have:Rv ss w (.ptr B 0) c:=h0;cases this;rfl
  subst hc1;generalize hx:c0=x at hv
  cases hv with
  | ref hle hcp hcm =>
   subst hx;obtain ⟨hH,hb⟩:=Mw hs he;refine Calls.mono (hC.2.1 b 0 cap l s B w hBs hne hcell hH (by omega) (by omega)) ?_;rintro e' w' ⟨rfl,q,rfl⟩
   have hd:(L6 l s++Q0 (l.length - (L6 l s).length) 0).length=l.length:=by rw [List.length_append,List.length_replicate];omega
   obtain ⟨s1,s2⟩:=Sw hs he hd q #[] (k:=(L6 l s).length) (by rw [hd];exact hcc);rw [List.take_left,grow_empty] at s1 s2;refine ⟨_,.ref b (L6 l s).length cap,_,rfl,s1,s2,.ref (by omega) (by omega) hcm,hK _ _ ?_⟩;have:=Fx.Qj8 hF (rows':=rws cI (L6 l s)) j hj (fun r hr=>by obtain ⟨y,_,rfl⟩:=QX.1 hr;rfl);rw [show (rws cI (L6 l s)).length=(L6 l s).length by simp [rws]] at this;exact this
end
end Go.Proofs.Shadow
