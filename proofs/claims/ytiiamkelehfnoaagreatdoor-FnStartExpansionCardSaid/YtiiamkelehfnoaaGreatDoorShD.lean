/- The operations that turn no live block, second part; all of them in one theorem. -/
import Derived.Test.YtiiamkelehfnoaaGreatDoorShA
import Derived.ArgAppend
import Derived.Laws.MakeOwn
import Derived.Laws.AppendOwnNone
import Derived.Lib.LaidTab
import Derived.Lib.ItoaNum
open _root_.List renaming getElem?_eq_some_iff → Qb, getElem?_eq_getElem → Qj, getD_eq_getElem?_getD → Qy, mem_of_getElem? → Qf, mem_iff_getElem? → Qq, flatten_cons → Qr, mem_of_mem_drop → QA, append_assoc → QD, getElem?_map → QE, map_cons → QH, mem_of_mem_take → QI, getElem?_take → QM, getElem?_append_right → QN, getElem?_drop → Qk, getElem?_append_left → QO, mem_of_find?_eq_some → QP, getElem?_cons_succ → QQ, getElem?_cons_zero → QR, mem_append → QS, nil_append → QU, getElem?_of_mem → QV, length_append → QX, mem_map → QZ
open _root_.Option renaming map_eq_some_iff → Qx, isSome_iff_exists → Qz, bind_some → Qh, map_some → Qu
open _root_.Array renaming length_toList → QB, getElem?_setIfInBounds_ne → QF, toArray_toList → QJ, getD_eq_getD_getElem? → QK, foldl_toList → QW
open _root_.Bool renaming and_eq_true → QG
open _root_.Nat renaming succ_mul → QL, zero_add → Qp, le_refl → Qt, add_zero → QY
set_option linter.unusedVariables false
set_option linter.unusedSimpArgs false
namespace Go.Proofs.Shadow
open Go Go.RowKit
section
variable {P:Program} {σ:Sto} {w:World}
theorem BY {op:BinOp} {t:TypeId} {x y:Operand} {a b:Value} (h:(∀cs,a≠.agg cs)/\a≠.nilIface):(eqGuard op t x y a b).run P w=.ok () w:=by
 obtain ⟨h1,h2⟩:=h;unfold eqGuard
 cases a<;>first | exact absurd rfl (h1 _) | exact absurd rfl h2 | (cases op<;>rfl)
theorem Pl {t:TypeId} (hu:P.underlying t=some .bool) (a b:Bool):(Op.equal t (.bool a) (.bool b)).run P w=.ok (a == b) w:=by
 rw [Op.equal,Op.maxDepth,show (10000:Nat)=9999+1 from rfl,Op.equalIn,Sem.run_bind,run_underlying hu,Result.andThen_ok];rfl
theorem DN {t e:TypeId} (hu:P.underlying t=some (.slice e)) (A:Option Addr) (n cap:Nat):(Op.equal t (.slice A n cap) (.slice none 0 0)).run P w=.ok A.isNone w:=by
 rw [Op.equal,Op.maxDepth,show (10000:Nat)=9999+1 from rfl,Op.equalIn,Sem.run_bind,run_underlying hu,Result.andThen_ok];cases A<;>rfl
theorem Qpk {op:BinOp} {t:TypeId} {ox oy:Operand} {x y:AV} {cx cy:Value} {v:AV} (hx:Rv σ w x cx) (hy:Rv σ w y cy) (h:Qeb (isB P t) (se P t).isSome op x y=some v) :
  ∃cv,(do eqGuard op t ox oy cx cy;binOp op t cx cy:Sem Value).run P w=.ok cv w/\Rv σ w v cv:=by
 unfold Qeb at h
 cases hx<;>cases hy<;>(try simp only at h)<;>try (cases h;done)
 case int.int k a k' b =>
  split at h
  ·rename_i hk;subst hk;rw [Sem.run_bind,BY ⟨by simp,by simp⟩,Result.andThen_ok]
   cases op<;>simp only [Qih] at h<;>try (cases h;done)
   case quo =>
    split at h
    ·cases h
    ·rename_i hb
     injection h with h;subst h
     exact ⟨_,by simp [binOp,Op.intDiv,hb],.int⟩
   case rem =>
    split at h
    ·cases h
    ·rename_i hb
     injection h with h;subst h
     exact ⟨_,by simp [binOp,Op.intDiv,hb],.int⟩
   case xor=>injection h with h;subst h;exact ⟨_,by rw [binOp_xor,intBits_xor];rfl,.int⟩
   case and=>injection h with h;subst h;exact ⟨_,by rw [binOp_and,intBits_and];rfl,.int⟩
   case or=>injection h with h;subst h;exact ⟨_,by rw [binOp_or,intBits_or];rfl,.int⟩
   all_goals (injection h with h;subst h;refine ⟨_,by simp [binOp,Op.intArith,Op.intCmp];rfl,?_⟩;first | exact .int | exact .bool | (refine (?_:Rv σ w _ _);simp only [bne,beq_eq_decide];exact .bool))
  ·cases h
 case Yd.Yd =>
  split at h
  ·rename_i hk;obtain ⟨k,hk⟩:=Qz.1 hk;obtain ⟨e,sz,by_⟩:=k;have hu:=(CX hk).1;rw [Sem.run_bind,BY ⟨by simp,by simp⟩,Result.andThen_ok]
   cases op<;>simp only [Qiu] at h<;>try (cases h;done)
   all_goals (injection h with h;subst h;have he:=DN (P:=P) (w:=w) hu none 0 0;simp only [binOp];rw [Sem.run_bind,he,Result.andThen_ok];exact ⟨_,rfl,.bool⟩)
  ·cases h
 case slE.Yd c A cap hc =>
  split at h
  ·rename_i hk;obtain ⟨k,hk⟩:=Qz.1 hk;obtain ⟨e,sz,by_⟩:=k;have hu:=(CX hk).1;rw [Sem.run_bind,BY ⟨by simp,by simp⟩,Result.andThen_ok]
   cases op<;>simp only [Qpj] at h<;>try (cases h;done)
   all_goals (injection h with h;subst h;have he:=DN (P:=P) (w:=w) hu A 0 cap;simp only [binOp];rw [Sem.run_bind,he,Result.andThen_ok];exact ⟨_,rfl,.ub⟩)
  ·cases h
 case slC.Yd c xs b o n cap sz f hne hn hle hcp hszx hc hd hbl hcl hf hr =>
  cases xs with
  | nil=>exact absurd rfl hne
  | cons x xs =>
   simp only at h;split at h
   ·rename_i hk;obtain ⟨k,hk⟩:=Qz.1 hk;obtain ⟨e,sz,by_⟩:=k;have hu:=(CX hk).1;rw [Sem.run_bind,BY ⟨by simp,by simp⟩,Result.andThen_ok]
    cases op<;>simp only [Qiu] at h<;>try (cases h;done)
    all_goals (injection h with h;subst h;have he:=DN (P:=P) (w:=w) hu (some ⟨b,o,none⟩) n cap;simp only [binOp];rw [Sem.run_bind,he,Result.andThen_ok];exact ⟨_,rfl,.bool⟩)
   ·cases h
 case str.str a ha b hb =>
  rw [Sem.run_bind,BY ⟨by simp,by simp⟩,Result.andThen_ok]
  cases op<;>simp only [Qep] at h<;>try (cases h;done)
  case add =>
   split at h
   ·rename_i hle
    injection h with h;subst h
    refine ⟨.string (a++b),?_,.str (by rw [ByteArray.size_append];exact hle)⟩
    have:¬((a.size+b.size:Nat):Int) > IntKind.i64.max:=by
     have:IntKind.i64.max=9223372036854775807:=by decide
     omega
    simp only [binOp,Op.stringOp,this,if_false,Sem.run_pure]
   ·cases h
  case eql=>injection h with h;subst h;exact ⟨_,by simp only [binOp,Op.stringOp,LH,Sem.run_pure],.bool⟩
  case neq=>injection h with h;subst h;exact ⟨_,by simp only [binOp,Op.stringOp,LH,Sem.run_pure],.bool⟩
 case bool.bool a b =>
  cases hb:isB P t with
  | false=>simp [hb] at h
  | true =>
   have hu:P.underlying t=some .bool:=by
    unfold isB at hb
    split at hb<;>first | assumption | cases hb
   simp only [hb,if_true] at h;rw [Sem.run_bind,BY ⟨by simp,by simp⟩,Result.andThen_ok]
   cases op<;>simp only at h<;>try (cases h;done)
   all_goals (injection h with h;subst h;have he:=Pl (P:=P) (w:=w) hu a b;simp only [binOp];rw [Sem.run_bind,he,Result.andThen_ok];exact ⟨_,rfl,.bool⟩)
theorem Qs9 {op:UnOp} {x:AV} {cx:Value} {v:AV} (hx:Rv σ w x cx) (h:aun op x=some v):∃cv,(Op.unary op cx).run P w=.ok cv w/\Rv σ w v cv:=by
 unfold aun at h
 cases op<;>cases hx<;>simp only at h<;>try (cases h;done)
 case neg.int k n=>injection h with h;subst h;exact ⟨_,by simp [Op.unary,Op.intArith],.int⟩
 case not.bool b=>injection h with h;subst h;exact ⟨_,by simp [Op.unary],.bool⟩
theorem Qpr {x:AV} {i:Nat} {cx:Value} {v:AV} (hx:Rv σ w x cx) (h:Qox x i=some v):∃cv,(Instr.extract cx i).run P w=.ok cv w/\Rv σ w v cv:=by
 unfold Qox at h
 cases hx<;>simp only at h<;>try (cases h;done)
 rename_i cs vs hl hr
 have hlt:i < vs.size:=by have:=(Qb.1 h).1;omega
 have hg:vs[i]?=some (vs.getD i undef):=by simp [hlt]
 exact ⟨_,by simp only [Instr.extract,hg,Sem.run_pure],hr i v h⟩
theorem EU {x:AV} {cx:Value} {cs:List AV} (hx:Rv σ w x cx) (h:Vx x=some cs) :
  cx.cells.size=cs.length/\(∀c∈cs,c.Y8=true)/\(∀i c,cs[i]?=some c->Rv σ w c (cx.cells.getD i undef))/\∀v∈cx.cells.toList,v.oneCell'=true:=by
 have one:∀{x:AV} {cx:Value},Rv σ w x cx->x.Y8=true->cs=[x]->cx.cells=#[cx]->cx.cells.size=cs.length/\(∀c∈cs,c.Y8=true)/\(∀i c,cs[i]?=some c->Rv σ w c (cx.cells.getD i undef))/\∀v∈cx.cells.toList,v.oneCell'=true:=by
  intro x cx hx hc hcs hcc;subst hcs;rw [hcc];refine ⟨rfl,by simpa using hc,fun i c hic=>?_,by simpa using hx.one hc⟩
  cases i with
  | zero=>simp at hic;subst hic;exact hx
  | succ i=>simp at hic
 have hone:=fun (hc:x.Y8=true)=>hx.one hc;cases hx<;>simp only [Vx] at h
 case tup=>rw [if_neg (by simp [AV.Y8])] at h;cases h
 case junk=>rw [if_neg (by simp [AV.Y8])] at h;cases h
 case opq =>
  by_cases hc:(AV.opq cx).Y8=true
  ·rw [if_pos hc] at h
   injection h with h
   refine one .opq hc h.symm ?_;have hc:cx.oneCell'=true:=hc
   cases cx<;>first | rfl | simp [Value.oneCell'] at hc
  ·rw [if_neg hc] at h;cases h
 case agg cs' vs hl hi hr =>
  injection h with h
  subst h;refine ⟨hl.symm,hi,hr,fun v hv=>?_⟩;obtain ⟨i,hiv⟩:=Qq.1 hv
  have hil:i < vs.size:=by have:=(Qb.1 hiv).1;simpa [Value.cells] using this
  have hc:cs'[i]?=some (cs'[i]'(by omega)):=Qj (by omega);have:=(hr i _ hc).one (hi _ (Qf hc))
  have he:vs.getD i undef=v:=by
   simp [Value.cells] at hiv;simp [hiv]
  rwa [he] at this
 case str hs=>exact one (.str hs) rfl (Option.some.inj h).symm rfl
 case slE hc=>exact one (.slE hc) rfl (Option.some.inj h).symm rfl
 case slC hx hn hle hcp hsz hc hd hb hi hf hr=>exact one (.slC hx hn hle hcp hsz hc hd hb hi hf hr) rfl (Option.some.inj h).symm rfl
 case ref hh hcp hcm=>exact one (.ref hh hcp hcm) rfl (Option.some.inj h).symm rfl
 case ept hd hb hi hf hr=>exact one (.ept hd hb hi hf hr) rfl (Option.some.inj h).symm rfl
 case fn hl hr=>exact one (.fn hl hr) rfl (Option.some.inj h).symm rfl
 all_goals first | exact one .int rfl (Option.some.inj h).symm rfl | exact one .bool rfl (Option.some.inj h).symm rfl | exact one .Yd rfl (Option.some.inj h).symm rfl | exact one .ptr rfl (Option.some.inj h).symm rfl | exact one .optr rfl (Option.some.inj h).symm rfl | exact one .nilp rfl (Option.some.inj h).symm rfl | exact one .nilfn rfl (Option.some.inj h).symm rfl | exact one .ub rfl (Option.some.inj h).symm rfl
def RvC (σ:Sto) (w:World) (as:List AV) (cs:Array Value):Prop:=as.length=cs.size/\(∀c∈as,c.Y8=true)/\∀i c,as[i]?=some c->Rv σ w c (cs.getD i undef)
theorem A6 {cells cs:List AV} {o:Nat} (h:o+cs.length<=cells.length):(Ww cells o cs).length=cells.length:=by
 simp [Ww];omega
theorem RD {cells cs:List AV} {o:Nat} (h:o+cs.length<=cells.length) (i:Nat):(Ww cells o cs)[i]?=if o<=i/\i < o+cs.length then cs[i - o]? else cells[i]?:=by
 unfold Ww
 by_cases h1:i < o
 ·rw [if_neg (by omega),QD,QO (by simp;omega),QM,if_pos h1]
 ·by_cases h2:i < o+cs.length
  ·rw [if_pos ⟨by omega,h2⟩,QD,QN (by simp;omega),QO (by simp;omega)]
   simp
   congr 1
   omega
  ·rw [if_neg (by omega),QN (by simp;omega),Qk]
   simp
   congr 1
   omega
theorem RE {cells cs:List AV} {o:Nat} (h:o+cs.length<=cells.length) {c:AV} (hc:c∈Ww cells o cs):c∈cells∨c∈cs:=by
 simp only [Ww,QS] at hc
 rcases hc with (hc | hc) | hc
 ·exact .inl (QI hc)
 ·exact .inr hc
 ·exact .inl (QA hc)
theorem UQ (cells:Array Value) (off:Nat):∀(l:List Value) (k:Nat) (cs:Array Value) (i:Nat),off+k+l.length<=cs.size ->
  ((l.zipIdx k).foldl (fun cs (c,j)=>cs.setIfInBounds (off+j) c) cs)[i]?=if off+k<=i/\i < off+k+l.length then l[i - (off+k)]? else cs[i]?
 | [],k,cs,i,_=>by simp;omega
 | v :: l,k,cs,i,h=>by
  simp only [List.zipIdx_cons,List.foldl_cons,List.length_cons] at h ⊢;rw [UQ cells off l (k+1) _ i (by simp;omega)]
  by_cases h1:off+(k+1)<=i/\i < off+(k+1)+l.length
  ·rw [if_pos h1,if_pos (by omega),show i - (off+k)=(i - (off+(k+1)))+1 by omega,QQ]
  ·rw [if_neg h1]
   by_cases h2:i=off+k
   ·subst h2;rw [if_pos (by omega),Nat.sub_self,QR,Array.getElem?_setIfInBounds_self_of_lt (by omega)]
   ·rw [if_neg (by omega),QF (by omega)]
theorem Si (off:Nat):∀(l:List (Value × Nat)) (cs:Array Value),(l.foldl (fun cs (x:Value × Nat)=>cs.setIfInBounds (off+x.2) x.1) cs).size=cs.size
 | [],cs=>rfl
 | v :: l,cs=>by rw [List.foldl_cons,Si off l];simp
theorem RvC.Ww {as cs:List AV} {cv vs:Array Value} {o:Nat} (h:RvC σ w as cv) (hl:vs.size=cs.length) (hi:∀c∈cs,c.Y8=true) (hr:∀i c,cs[i]?=some c->Rv σ w c (vs.getD i undef)) (hle:o+cs.length<=as.length) :
  RvC σ w (Ww as o cs) (vs.zipIdx.foldl (fun acc (c,j)=>acc.setIfInBounds (o+j) c) cv):=by
 obtain ⟨h1,h2,h3⟩:=h
 have hfold:vs.zipIdx.foldl (fun acc (c,j)=>acc.setIfInBounds (o+j) c) cv=(vs.toList.zipIdx 0).foldl (fun acc (c,j)=>acc.setIfInBounds (o+j) c) cv:=by
  rw [← QW]
  simp
 rw [hfold];have hsz:((vs.toList.zipIdx 0).foldl (fun (acc:Array Value) (x:Value × Nat)=>acc.setIfInBounds (o+x.2) x.1) cv).size=cv.size:=Si o _ cv;refine ⟨by rw [A6 hle,h1];exact hsz.symm,fun c hc=>(RE hle hc).elim (h2 c) (hi c),fun i c hic=>?_⟩
 have hil:i < cv.size:=by have:=(Qb.1 hic).1;rw [A6 hle] at this;omega
 have hg:=UQ cv o vs.toList 0 cv i (by simp;omega);rw [RD hle] at hic
 have hgd:((vs.toList.zipIdx 0).foldl (fun (acc:Array Value) (x:Value × Nat)=>acc.setIfInBounds (o+x.2) x.1) cv).getD i undef=(if o+0<=i/\i < o+0+vs.toList.length then vs.toList[i - (o+0)]? else cv[i]?).getD undef:=by
  rw [← hg,QK]
 rw [hgd];simp only [QY,QB,hl];split at hic
 ·rename_i hh;rw [if_pos hh];have:=hr _ c hic;simpa using this
 ·rename_i hh;rw [if_neg hh];have:=h3 i c hic;simpa using this
theorem Qc0 {cs:List Value} {as:List AV} (h:UD cs=some as):RvC σ w as cs.toArray:=by
 unfold UD at h;split at h
 ·rename_i hall
  injection h with h
  subst h;rw [List.all_eq_true] at hall;refine ⟨by simp,fun c hc=>?_,fun i c hic=>?_⟩
  ·obtain ⟨v,hv,rfl⟩:=QZ.1 hc;have:=hall v hv;rw [QG] at this;exact Qdg this.2
  ·rw [QE] at hic;obtain ⟨v,hv,rfl⟩:=Qx.1 hic;have:=hall v (Qf hv);rw [QG] at this
   have he:cs.toArray.getD i undef=v:=by simp [hv]
   rw [he];exact Qbj σ w this.1
 ·cases h
theorem OY {t:TypeId} {as:List AV} (h:tz P t=some as):∃i z,P.info? t=some i/\i.zero=some z/\RvC σ w as z.cells:=by
 unfold tz at h
 cases hi:P.info? t with
 | none=>simp [hi] at h
 | some i =>
  simp only [hi] at h
  cases hz:i.zero with
  | none=>simp [hz] at h
  | some z =>
   simp only [hz] at h;refine ⟨i,z,rfl,hz,?_⟩;have:=Qc0 (σ:=σ) (w:=w) h;simpa using this
theorem Qgl (places:List (Nat × Nat)):∀(ps:List (Nat × AV)) (cps:List (Nat × Value)) (as:List AV) (cv:Array Value) (r:List AV),RvC σ w as cv ->
  ps.map (·.1)=cps.map (·.1)->(∀(i:Nat) (p:Nat × AV) (q:Nat × Value),ps[i]?=some p->cps[i]?=some q->Rv σ w p.2 q.2)->Pn places as ps=some r->∃cr,Instr.fill (places.toArray[·]?) cv cps=some cr/\RvC σ w r cr
 | [],[],as,cv,r,h,_,_,hr=>by simp only [Pn,Option.some.injEq] at hr;subst hr;exact ⟨cv,rfl,h⟩
 | [],q :: cps,as,cv,r,h,hm,_,hr=>by simp at hm
 | p :: ps,[],as,cv,r,h,hm,_,hr=>by simp at hm
 | (i,v) :: ps,(j,u) :: cps,as,cv,r,h,hm,hv,hr=>by
  simp only [QH,List.cons.injEq] at hm;obtain ⟨rfl,hm⟩:=hm;simp only [Pn] at hr
  cases hp:places[i]? with
  | none=>simp [hp] at hr
  | some pl =>
   obtain ⟨off,size⟩:=pl
   cases hc:Vx v with
   | none=>simp [hp,hc] at hr
   | some cs =>
    simp only [hp,hc] at hr;split at hr
    ·rename_i hh;obtain ⟨h1,h2⟩:=hh;obtain ⟨g1,g2,g3,_⟩:=EU (hv 0 _ _ rfl rfl) hc;obtain ⟨cr,e1,e2⟩:=Qgl places ps cps _ _ r (h.Ww g1 g2 g3 (by omega)) hm (fun k p q hp hq=>hv (k+1) p q hp hq) hr;refine ⟨cr,?_,e2⟩
     have hpl:places.toArray[i]?=some (off,size):=by simpa using hp
     simp only [Instr.fill,hpl]
     rw [if_neg (by
      have:=h.1;simp only at g1
      simp;omega)]
     exact e1
    ·cases hr
theorem TL {ρ:Operand->AV} {ρc:Operand->Value} {parts:Array (Nat × Operand)} (hρ:∀p∈parts.toList,Rv σ w (ρ p.2) (ρc p.2)) :
  (parts.toList.map fun p=>(p.1,ρ p.2)).map (·.1)=((parts.map fun (i,x)=>(i,ρc x)).toList).map (·.1) /\
  ∀(i:Nat) (p:Nat × AV) (q:Nat × Value),(parts.toList.map fun p=>(p.1,ρ p.2))[i]?=some p->((parts.map fun (i,x)=>(i,ρc x)).toList)[i]?=some q->Rv σ w p.2 q.2:=by
 constructor
 ·simp [Function.comp_def]
 ·intro i p q hp hq;simp only [QE,Array.toList_map] at hp hq;obtain ⟨x,hx,rfl⟩:=Qx.1 hp;rw [hx] at hq;simp only [Qu,Option.some.injEq] at hq;subst hq;exact hρ x (Qf hx)
theorem Qi7 {t:TypeId} {ρ:Operand->AV} {ρc:Operand->Value} {parts:Array (Nat × Operand)} {v:AV} (hρ:∀p∈parts.toList,Rv σ w (ρ p.2) (ρc p.2))
  (h:P9 (tz P t) (fps P t) (parts.toList.map fun p=>(p.1,ρ p.2))=some v) :
  ∃cv,(Instr.build t (parts.map fun (i,x)=>(i,ρc x))).run P w=.ok cv w/\Rv σ w v cv:=by
 unfold P9 at h
 cases hz:tz P t with
 | none=>simp [hz] at h
 | some z =>
  cases hp:fps P t with
  | none=>simp [hz,hp] at h
  | some ps =>
   simp only [hz,hp] at h;obtain ⟨r,hr,rfl⟩:=Qx.1 h;obtain ⟨i,zc,hi,hzc,hzr⟩:=OY (σ:=σ) (w:=w) hz;obtain ⟨h1,h2⟩:=TL hρ;obtain ⟨cr,e1,e2⟩:=Qgl ps _ _ z zc.cells r hzr h1 h2 hr;refine ⟨.agg cr,run_build w t _ cr ?_,.agg e2.1 e2.2.1 e2.2.2⟩;unfold fps at hp
   cases hu:P.underlying t with
   | none=>simp [hu] at hp
   | some d =>
    cases d<;>simp only [hu] at hp<;>try (cases hp;done)
    simp only [Program.built,hi,hu,hzc,hp];exact e1
theorem Qhd {sz:Nat} : ∀(ps:List (Nat × AV)) (k:Nat) (rows:List (List AV)),rowsOf sz k ps=some rows ->
  rows.length=ps.length/\(∀x∈rows,x.length=sz)/\∀j p,ps[j]?=some p->p.1=k+j/\∃cs,Vx p.2=some cs/\rows[j]?=some cs
 | [],k,rows,h=>by simp only [rowsOf,Option.some.injEq] at h;subst h;simp
 | (i,v) :: ps,k,rows,h=>by
  simp only [rowsOf] at h
  cases hc:Vx v with
  | none=>simp [hc] at h
  | some cs =>
   simp only [hc] at h;split at h
   ·rename_i hh;obtain ⟨rest,hrest,rfl⟩:=Qx.1 h;obtain ⟨h1,h2,h3⟩:=Qhd ps (k+1) rest hrest;refine ⟨by simp [h1],?_,fun j p hj=>?_⟩
    ·intro x hx
     rcases List.mem_cons.1 hx with rfl | hx
     ·exact hh.2
     ·exact h2 x hx
    ·cases j with
     | zero=>simp at hj;subst hj;exact ⟨hh.1,cs,hc,rfl⟩
     | succ j =>
      simp at hj;obtain ⟨g1,cs',g2,g3⟩:=h3 j p hj;exact ⟨by omega,cs',g2,by simpa using g3⟩
   ·cases h
theorem V1 {α:Type} {sz:Nat} : ∀(xs:List (List α)),(∀x∈xs,x.length=sz)->xs.flatten.length=xs.length * sz
 | [],_=>by simp
 | x :: xs,h=>by
  rw [Qr,QX,V1 xs (fun y hy=>h y (by simp [hy])),h x (by simp),List.length_cons,QL];omega
theorem N8 {sz:Nat} : ∀(ps:List (Nat × AV)) (cps:List (Nat × Value)) (k:Nat) (rows:List (List AV)) (done:List AV) (cv:Array Value),rowsOf sz k ps=some rows ->
  ps.map (·.1)=cps.map (·.1)->(∀(i:Nat) (p:Nat × AV) (q:Nat × Value),ps[i]?=some p->cps[i]?=some q->Rv σ w p.2 q.2) ->
  done.length=k * sz->cv.size=(k+ps.length) * sz->(∀c∈done,c.Y8=true)->(∀i c,done[i]?=some c->Rv σ w c (cv.getD i undef)) ->
  ∃cr,Instr.fill (fun i=>some (i * sz,sz)) cv cps=some cr/\cr.size=cv.size/\(∀c∈done++rows.flatten,c.Y8=true)/\∀i c,(done++rows.flatten)[i]?=some c->Rv σ w c (cr.getD i undef)
 | [],[],k,rows,done,cv,h,_,_,hd,hs,hc,hr=>by
  simp only [rowsOf,Option.some.injEq] at h;subst h;exact ⟨cv,rfl,rfl,by simpa using hc,by simpa using hr⟩
 | [],q :: cps,k,rows,done,cv,h,hm,_,_,_,_,_=>by simp at hm
 | p :: ps,[],k,rows,done,cv,h,hm,_,_,_,_,_=>by simp at hm
 | (i,v) :: ps,(j,u) :: cps,k,rows,done,cv,h,hm,hv,hd,hs,hc,hr=>by
  simp only [QH,List.cons.injEq] at hm;obtain ⟨rfl,hm⟩:=hm;simp only [rowsOf] at h
  cases hcs:Vx v with
  | none=>simp [hcs] at h
  | some cs =>
   simp only [hcs] at h;split at h
   ·rename_i hh;obtain ⟨rfl,hsz⟩:=hh;obtain ⟨rest,hrest,rfl⟩:=Qx.1 h;obtain ⟨g1,g2,g3,_⟩:=EU (hv 0 _ _ rfl rfl) hcs;simp only at g1
    have hsz2:cv.size=(i+1+ps.length) * sz:=by rw [hs];congr 1;simp;omega
    have hroom:i * sz+u.cells.toList.length<=cv.size:=by
     rw [hsz2,QB,g1,hsz,Nat.add_mul,Nat.add_mul];omega
    have hfold:u.cells.zipIdx.foldl (fun acc (c,j)=>acc.setIfInBounds (i * sz+j) c) cv=(u.cells.toList.zipIdx 0).foldl (fun acc (c,j)=>acc.setIfInBounds (i * sz+j) c) cv:=by
     rw [← QW];simp
    have hns:((u.cells.toList.zipIdx 0).foldl (fun (acc:Array Value) (x:Value × Nat)=>acc.setIfInBounds (i * sz+x.2) x.1) cv).size=cv.size:=Si _ _ cv
    have hget:∀j,((u.cells.toList.zipIdx 0).foldl (fun (acc:Array Value) (x:Value × Nat)=>acc.setIfInBounds (i * sz+x.2) x.1) cv).getD j undef=(if i * sz<=j/\j < i * sz+cs.length then u.cells.toList[j - i * sz]? else cv[j]?).getD undef:=by
     intro j;have hg:=UQ cv (i * sz) u.cells.toList 0 cv j (by simpa using hroom);simp only [QY,QB,g1] at hg;rw [← hg,QK]
    obtain ⟨cr,e1,e2,e3,e4⟩:=N8 ps cps (i+1) rest (done++cs) _ hrest hm (fun k p q hp hq=>hv (k+1) p q hp hq) (by rw [QX,hd,hsz,QL]) (by rw [hns,hsz2])
     (fun c hcm=>(QS.1 hcm).elim (hc c) (g2 c)) (fun j c hj=>by
      rw [hget];rw [List.getElem?_append] at hj;split at hj
      ·rename_i hlt;rw [if_neg (by omega)];have:=hr j c hj;simpa using this
      ·rename_i hge;have hjl:=(Qb.1 hj).1;rw [if_pos ⟨by omega,by omega⟩];have:=g3 _ c hj;rw [hd] at this
       simpa using this)
    refine ⟨cr,?_,e2.trans hns,by simpa [QD] using e3,by simpa [QD] using e4⟩;simp only [Instr.fill]
    rw [if_neg (by
     have h3:(i+1) * sz<=(i+1+ps.length) * sz:=Nat.mul_le_mul_right _ (by omega);rw [QL] at h3
     simp;omega),hfold]
    exact e1
   ·cases h
theorem Qft {t:TypeId} {len:Nat} {ρ:Operand->AV} {ρc:Operand->Value} {parts:Array (Nat × Operand)} {v:AV} (hs:Sim σ w) (hρ:∀p∈parts.toList,Rv σ w (ρ p.2) (ρc p.2))
  (h:LV (se P t) ((se P t).bind fun k=>tz P k.1).isSome len (parts.toList.map fun p=>(p.1,ρ p.2))=some v) :
  ∃cv w',(Instr.buildSlice t len (parts.map fun (i,x)=>(i,ρc x))).run P w=.ok cv w'/\Below w.heap.size w w'/\Rv σ w' v cv:=by
 unfold LV at h
 cases hk:se P t with
 | none=>simp [hk] at h
 | some k =>
  obtain ⟨e,sz,by_⟩:=k;obtain ⟨hu,it,hit,hsz,_⟩:=CX hk;simp only [hk,Qh] at h;split at h
  ·rename_i hh;obtain ⟨hz,hln,hle,hlen⟩:=hh;obtain ⟨z,hz⟩:=Qz.1 hz;obtain ⟨i,zc,hi,hzc,hzr⟩:=OY (σ:=σ) (w:=w) hz;rw [hit] at hi
   injection hi with hi
   subst hi;obtain ⟨rows,hrows,rfl⟩:=Qx.1 h;obtain ⟨h1,h2⟩:=TL hρ;obtain ⟨r1,r2,r3⟩:=Qhd _ 0 rows hrows
   have hzrun:(if len * sz=0 then pure #[] else do pure (← zeroValue e).cells:Sem (Array Value)).run P w=.ok (if len * sz=0 then #[] else zc.cells) w:=by
    split<;>simp [zeroValue,typeInfo,hit,hzc]
   generalize hzz:(if len * sz=0 then #[] else zc.cells:Array Value)=zz at hzrun;obtain ⟨cr,e1,e2,e3,e4⟩:=N8 (σ:=σ) (w:=w) _ _ 0 rows [] ((Array.range (len * sz)).map (zz[· % zz.size]!)) hrows h1 h2 (by simp) (by rw [Array.size_map,Array.size_range,Qp,hlen]) (by simp) (by simp);simp only [QU] at e3 e4
   have hrl:rows.length=len:=by rw [r1,hlen]
   refine ⟨.slice (some ⟨w.heap.size,0,none⟩) len len,w.alloc (.cells cr e),?_,(Below.refl _ _).alloc (Qt _) _,?_⟩
   ·have hnle:¬len * sz > 2 ^ 24:=by omega
    by_cases hz0:len * sz=0
    ·rw [if_pos hz0] at hzz;subst hzz;simp only [Instr.buildSlice,Sem.run_bind,run_underlying hu,Result.andThen_ok,sizeOf,typeInfo,program,Sem.run,hit,Sem.run_pure,hsz,hnle,if_false,hz0,if_true] at e1 ⊢;rw [if_neg (by omega)];simp only [Sem.run_bind,Sem.run_pure,Result.andThen_ok,e1,newRow,newObj,Sem.run_bind,Sem.run,Sem.run_pure,Result.andThen_ok];rfl
    ·rw [if_neg hz0] at hzz;subst hzz;simp only [Instr.buildSlice,Sem.run_bind,run_underlying hu,Result.andThen_ok,sizeOf,typeInfo,program,Sem.run,hit,Sem.run_pure,hsz,hnle,if_false,hz0,zeroValue,hzc];simp only [e1,newRow,newObj,Sem.run_bind,Sem.run,Sem.run_pure,Result.andThen_ok];rfl
   ·have hs2:Step σ w σ (w.alloc (.cells cr e)):=Step.DM ((Below.refl _ _).alloc (Qt _) _)
    cases hr:rows with
    | nil =>
     rw [hr] at hrl;simp only [List.length_nil] at hrl;subst hrl;exact .slE (fun _=>rfl)
    | cons x xs =>
     rw [← hr]
     have hcrs:cr.size=len * sz:=by rw [e2];simp
     refine .slC (sz:=sz) (f:=fun i=>cr.getD i undef) (by simp [hr]) hrl.symm (by omega) (Qt _) r2 (fun _=>rfl) hs.fresh (by simp) e3 (fun i c hic=>?_) (fun i c hic=>(e4 i c hic).step hs2);rw [Qp,cell_of_row _ _ i cr e (0,0) (heap_alloc_new w _)]
     have:i < cr.size:=by
      have:=(Qb.1 hic).1;rw [V1 rows r2,hrl] at this;omega
     simp [this]
  ·cases h
end
end Go.Proofs.Shadow
namespace Go.Proofs.Shadow
open Go Go.RowKit
section
variable {P:Program} {σ:Sto} {w:World}
theorem Qbe {t:TypeId} (h:isS P t=true):P.underlying t=some .string:=by
 unfold isS at h
 split at h<;>first | assumption | cases h
def RvO (σ:Sto) (w:World):Option AV->Option Value->Prop
 | none,none=>True
 | some a,some v=>Rv σ w a v
 | _,_=>False
theorem Nw {d:Int} {x:Option AV} {v:Option Value} {l:Int} (h:RvO σ w x v) (hb:bound d x=some l):(x=none/\v=none/\l=d)∨∃k,x=some (.int k l)/\v=some (.int k l):=by
 cases x with
 | none =>
  cases v with
  | none=>simp only [bound,Option.some.injEq] at hb;exact .inl ⟨rfl,rfl,hb.symm⟩
  | some _=>exact h.elim
 | some a =>
  cases v with
  | none=>exact h.elim
  | some v =>
   have hv:Rv σ w a v:=h
   cases a<;>simp only [bound] at hb<;>try (cases hb;done)
   injection hb with hb
   subst hb;cases hv;exact .inr ⟨_,rfl,rfl⟩
theorem NZ {isSl:Bool} {len cap:Nat} {lo hi:Option AV} {clo chi:Option Value} {l h:Int} (hlo:RvO σ w lo clo) (hhi:RvO σ w hi chi)
  (el:bound 0 lo=some l) (eh:bound len hi=some h) (h0:0<=l) (h1:l<=h) (h2:h<=len) (hlc:len<=cap) :
  (Instr.sliceBounds isSl len cap clo chi none).run P w=.ok (l.toNat,h.toNat,cap) w:=by
 have q1:0<=h/\h<=(cap:Int):=⟨by omega,by omega⟩;have q2:0<=l/\l<=(h.toNat:Int):=⟨h0,by omega⟩
 rcases Nw hlo el with ⟨_,rfl,e1⟩ | ⟨k1,_,rfl⟩<;>rcases Nw hhi eh with ⟨_,rfl,e2⟩ | ⟨k2,_,rfl⟩
 ·subst e1;subst e2;simp [Instr.sliceBounds]
 ·subst e1;simp only [Instr.sliceBounds,Instr.sliceBound,asIntOf,Sem.run_bind,Sem.run_pure,Result.andThen_ok];rw [if_pos q1];rfl
 ·subst e2;simp only [Int.toNat_natCast] at q2;simp only [Instr.sliceBounds,Instr.sliceBound,asIntOf,Sem.run_bind,Sem.run_pure,Result.andThen_ok];rw [if_pos q2];rfl
 ·simp only [Instr.sliceBounds,Instr.sliceBound,asIntOf,Sem.run_bind,Sem.run_pure,Result.andThen_ok];rw [if_pos q1];simp only [Sem.run_pure,Result.andThen_ok];rw [if_pos q2];rfl
theorem Qcz {len cap:Nat} {lo hi:Option AV} {clo chi:Option Value} {mv:Value} {k:IntKind} {l h m:Int} (hlo:RvO σ w lo clo) (hhi:RvO σ w hi chi) (hm:Rv σ w (.int k m) mv) (his:hi.isSome=true)
  (el:bound 0 lo=some l) (eh:bound len hi=some h) (h0:0<=l) (h1:l<=h) (h2:h<=m) (h3:m<=cap) :
  (Instr.sliceBounds true len cap clo chi (some mv)).run P w=.ok (l.toNat,h.toNat,m.toNat) w:=by
 cases hm;have q0:0<=m/\m<=(cap:Int):=⟨by omega,h3⟩;have q1:0<=h/\h<=(m.toNat:Int):=⟨by omega,by omega⟩;have q2:0<=l/\l<=(h.toNat:Int):=⟨h0,by omega⟩
 rcases Nw hhi eh with ⟨rfl,_,e2⟩ | ⟨k2,_,rfl⟩
 ·cases his
 ·rcases Nw hlo el with ⟨_,rfl,e1⟩ | ⟨k1,_,rfl⟩
  ·subst e1;simp only [Instr.sliceBounds,Instr.sliceBound,asIntOf,Sem.run_bind,Sem.run_pure,Result.andThen_ok];rw [if_pos q0];simp only [Sem.run_pure,Result.andThen_ok];rw [if_pos q1];rfl
  ·simp only [Instr.sliceBounds,Instr.sliceBound,asIntOf,Sem.run_bind,Sem.run_pure,Result.andThen_ok];rw [if_pos q0];simp only [Sem.run_pure,Result.andThen_ok];rw [if_pos q1];simp only [Sem.run_pure,Result.andThen_ok];rw [if_pos q2];rfl
theorem S8 {α:Type} {sz:Nat} : ∀(xs:List (List α)) (k:Nat),(∀x∈xs,x.length=sz)->k<=xs.length->(xs.drop k).flatten=xs.flatten.drop (k * sz)
 | xs,0,_,_=>by simp
 | [],k+1,_,h=>by simp at h
 | x :: xs,k+1,h,hk=>by
  have hx:=h x (by simp);rw [List.drop_succ_cons,S8 xs k (fun y hy=>h y (by simp [hy])) (by simpa using hk),Qr,QL,List.drop_append,List.drop_of_length_le (l:=x) (by omega),QU]
  congr 1
  omega
theorem T4 {α:Type} {sz:Nat} : ∀(xs:List (List α)) (k:Nat),(∀x∈xs,x.length=sz)->k<=xs.length->(xs.take k).flatten=xs.flatten.take (k * sz)
 | xs,0,_,_=>by simp
 | [],k+1,_,h=>by simp at h
 | x :: xs,k+1,h,hk=>by
  have hx:=h x (by simp);rw [List.take_succ_cons,Qr,T4 xs k (fun y hy=>h y (by simp [hy])) (by simpa using hk),Qr,QL,List.take_append,List.take_of_length_le (l:=x) (by omega)]
  congr 2
  omega
theorem Qly {t e:TypeId} {sz by_:Nat} {c c':Bool} {xs:List (List AV)} {cv:Value} {clo chi cmx:Option Value} {l h:Int} (hk:se P t=some (e,sz,by_)) (hx:Rv σ w (.sl c xs) cv)
  (hsz:∀x∈xs,x.length=sz) (h0:0<=l) (h1:l<=h) (h2:h<=xs.length)
  (hb:∀cap,xs.length<=cap->(c=true->cap=xs.length)->∃m,h<=m/\m<=cap/\(c'=true->m=h)/\(Instr.sliceBounds true xs.length cap clo chi cmx).run P w=.ok (l.toNat,h.toNat,Int.toNat m) w) :
  ∃r,(Instr.slice t cv clo chi cmx).run P w=.ok r w/\Rv σ w (.sl c' ((xs.drop l.toNat).take (h - l).toNat)) r:=by
 obtain ⟨hu,it,hit,hits,_⟩:=CX hk
 have hlen:((xs.drop l.toNat).take (h - l).toNat).length=h.toNat - l.toNat:=by simp;omega
 have hrun:∀A cap m,(Instr.sliceBounds true xs.length cap clo chi cmx).run P w=.ok (l.toNat,h.toNat,Int.toNat m) w ->
   (Instr.slice t (.slice A xs.length cap) clo chi cmx).run P w=.ok (.slice (if m.toNat=l.toNat then A else A.map (·.add (l.toNat * sz))) (h.toNat - l.toNat) (m.toNat - l.toNat)) w:=by
  intro A cap m hm;simp only [Instr.slice,Sem.run_bind,run_underlying hu,Result.andThen_ok,hm,sizeOf,typeInfo,program,Sem.run,hit,Sem.run_pure,hits]
 cases hx with
 | @slE _ A cap hc =>
  obtain ⟨m,g1,g2,g3,g4⟩:=hb cap (by simp) (by simpa using hc);refine ⟨_,hrun A cap m (by simpa using g4),?_⟩
  have:(([]:List (List AV)).drop l.toNat).take (h - l).toNat=[]:=by simp
  rw [this]
  have hl0:h.toNat - l.toNat=0:=by simp at h2;omega
  rw [hl0];exact .slE (fun hc'=>by have:=g3 hc';omega)
 | @slC _ _ b o n cap sz' f hne hn hle hcp hszx hc hd hbl hcl hf hr =>
  subst hn;obtain ⟨m,g1,g2,g3,g4⟩:=hb cap hcp hc;refine ⟨_,hrun _ cap m g4,?_⟩
  have hss:sz'=sz:=by
   cases xs with
   | nil=>exact absurd rfl hne
   | cons x xs=>rw [← hszx x (by simp),hsz x (by simp)]
  subst hss
  cases hy:(xs.drop l.toNat).take (h - l).toNat with
  | nil =>
   rw [hy] at hlen;simp only [List.length_nil] at hlen;rw [← hlen];exact .slE (fun hc'=>by have:=g3 hc';omega)
  | cons y ys =>
   rw [← hy]
   have hlt:l.toNat < h.toNat:=by rw [hy] at hlen;simp at hlen;omega
   rw [if_neg (by omega),Qu,LW]
   have hfl:((xs.drop l.toNat).take (h - l).toNat).flatten=(xs.flatten.drop (l.toNat * sz')).take ((h - l).toNat * sz'):=by
    rw [T4 _ _ (fun x hx=>hsz x (QA hx)) (by simp;omega),S8 _ _ hsz (by omega)]
   refine .slC (sz:=sz') (f:=fun i=>f (l.toNat * sz'+i)) (by simp [hy]) hlen.symm (by omega) (by omega) (fun x hx=>hsz x (QA (QI hx))) (fun hc'=>by have:=g3 hc';omega) hd hbl (fun c hc=>?_) (fun i c hic=>?_) (fun i c hic=>?_)
   ·rw [hfl] at hc;exact hcl c (QA (QI hc))
   ·rw [hfl,QM] at hic;split at hic
    ·rw [Qk] at hic;rw [Nat.add_assoc];exact hf _ c hic
    ·cases hic
   ·rw [hfl,QM] at hic;split at hic
    ·rw [Qk] at hic;exact hr _ c hic
    ·cases hic
theorem Qkh {t:TypeId} {x:AV} {cx:Value} {lo hi mx:Option AV} {clo chi cmx:Option Value} {v:AV} (hx:Rv σ w x cx) (hlo:RvO σ w lo clo) (hhi:RvO σ w hi chi) (hmx:RvO σ w mx cmx)
  (h:Bx (isS P t) (se P t) x lo hi mx=some v) :
  ∃cv,(Instr.slice t cx clo chi cmx).run P w=.ok cv w/\Rv σ w v cv:=by
 unfold Bx at h
 cases x<;>simp only at h<;>try (cases h;done)
 case str s =>
  split at h
  ·rename_i hh;have hu:=Qbe hh.1
   cases mx with
   | some _=>simp at hh
   | none =>
    cases cmx with
    | some _=>exact hmx.elim
    | none =>
     cases hel:bound 0 lo with
     | none=>simp [hel] at h
     | some l =>
      cases heh:bound (s.size:Int) hi with
      | none=>simp [hel,heh] at h
      | some hb =>
       simp only [hel,heh,Qh] at h;split at h
       ·rename_i hr
        injection h with h
        subst h
        cases hx with
        | str hs =>
         refine ⟨.string (s.extract l.toNat hb.toNat),?_,.str ?_⟩
         ·have:=NZ (P:=P) (isSl:=false) (len:=s.size) (cap:=s.size) hlo hhi hel heh hr.1 hr.2.1 hr.2.2 (Qt _);simp only [Instr.slice,Sem.run_bind,run_underlying hu,Result.andThen_ok,Option.isSome_none,Bool.false_eq_true,if_false,Sem.run_pure,this]
         ·rw [ByteArray.size_extract];omega
       ·cases h
  ·cases h
 case sl c xs =>
  cases hk:se P t with
  | none=>simp [hk] at h
  | some k =>
   obtain ⟨e,sz,by_⟩:=k;simp only [hk] at h;split at h
   ·rename_i hall
    have hsz:∀x∈xs,x.length=sz:=by simpa using hall
    cases hel:bound 0 lo with
    | none=>simp [hel] at h
    | some l =>
     cases heh:bound (xs.length:Int) hi with
     | none=>simp [hel,heh] at h
     | some hb =>
      simp only [hel,heh,Qh] at h
      cases mx with
      | none =>
       cases cmx with
       | some _=>exact hmx.elim
       | none =>
        simp only at h;split at h
        ·rename_i hr
         injection h with h
         subst h;refine Qly (c:=c) (h:=hb) hk hx hsz hr.1 hr.2.1 hr.2.2 (fun cap hlc hcc=>⟨(cap:Int),by omega,by omega,fun hc'=>?_,?_⟩)
         ·rw [QG,decide_eq_true_iff] at hc';have:=hcc hc'.1;omega
         ·have:=NZ (P:=P) (isSl:=true) (len:=xs.length) (cap:=cap) hlo hhi hel heh hr.1 hr.2.1 hr.2.2 hlc;simpa using this
        ·cases h
      | some m =>
       cases cmx with
       | none=>exact hmx.elim
       | some mv =>
        have hmv:Rv σ w m mv:=hmx
        cases m<;>simp only at h<;>try (cases h;done)
        rename_i k m;split at h
        ·rename_i hr;obtain ⟨rs,r0,r1,r2,r3⟩:=hr
         injection h with h
         subst h;refine Qly (c:=c) (h:=hb) hk hx hsz r0 r1 (by omega) (fun cap hlc hcc=>⟨m,by omega,by omega,fun _=>r2.symm,?_⟩);exact Qcz hlo hhi hmv rs hel heh r0 r1 (by omega) (by omega)
        ·cases h
   ·cases h
 case ref b n cap =>
  cases hk:se P t with
  | none=>simp [hk] at h
  | some k =>
   obtain ⟨e,sz,by_⟩:=k;simp only [hk] at h
   cases hel:bound 0 lo with
   | none=>simp [hel] at h
   | some l =>
    cases heh:bound (n:Int) hi with
    | none=>simp [hel,heh] at h
    | some hb =>
     simp only [hel,heh,Qh] at h;split at h
     ·rename_i hr;obtain ⟨r0,r1,r2,r3⟩:=hr
      injection h with h
      subst h;subst r0
      cases mx with
      | some _=>cases r3
      | none =>
      cases cmx with
      | some _=>exact hmx.elim
      | none =>
      cases hx with
      | ref hn hcp hcm =>
      obtain ⟨hu,it,hit,hits,_⟩:=CX hk;have:=NZ (P:=P) (isSl:=true) (len:=n) (cap:=cap) hlo hhi hel heh (Int.le_refl _) r1 r2 hcp;refine ⟨.slice (some ⟨b,0,none⟩) hb.toNat cap,?_,.ref (by omega) (by omega) hcm⟩;simp only [Instr.slice,Sem.run_bind,run_underlying hu,Result.andThen_ok,this,sizeOf,typeInfo,program,Sem.run,hit,Sem.run_pure,hits];simp only [Int.toNat_zero,Nat.sub_zero,Nat.zero_mul];split
      ·rfl
      ·rfl
     ·cases h
theorem Qau:∀(xs:List (List AV)) (l:List Int),bytesOf xs=some l->l.length=xs.length/\∀(i:Nat) (n:Int),l[i]?=some n->xs[i]?=some [AV.int .u8 n]
 | [],l,h=>by simp only [bytesOf,Option.some.injEq] at h;subst h;simp
 | x :: xs,l,h=>by
  unfold bytesOf at h;split at h
  ·rename_i he;cases he
  ·rename_i n rest he
   injection he with he1 he2
   subst he1;subst he2;obtain ⟨l',hl',rfl⟩:=Qx.1 h;obtain ⟨h1,h2⟩:=Qau xs l' hl';refine ⟨by simp [h1],fun i b hb=>?_⟩
   cases i with
   | zero=>simp at hb;subst hb;rfl
   | succ i=>simp at hb;simpa using h2 i b hb
  ·cases h
theorem Tn {α:Type} : ∀(xs:List (List α)),(∀x∈xs,x.length=1)->∀(i:Nat) (c:α),xs[i]?=some [c]->xs.flatten[i]?=some c
 | xs,h,i,c,hi=>by
  have:=BZ xs i 0 h (by omega);rw [Nat.mul_one,QY] at this;rw [this,hi];rfl
theorem Qmu {s d:TypeId} {x:AV} {cx:Value} {v:AV} (hu:Qqg P s=true) (hx:Rv σ w x cx) (h:Up (ik P d) (UN P s) (isS P d) x=some v) :
  ∃cv,(convert s d cx).run P w=.ok cv w/\Rv σ w v cv:=by
 obtain ⟨ds,hds⟩:=Qz.1 hu;unfold Up at h
 cases hk:ik P d with
 | some k =>
  have hd:P.underlying d=some (.int k):=by
   unfold ik at hk
   cases hdd:P.underlying d with
   | none=>simp [hdd] at hk
   | some dd=>cases dd<;>simp only [hdd] at hk<;>first | (cases hk;done) | (injection hk with hk;rw [hk])
  simp only [hk] at h
  cases hx<;>simp only at h<;>try (cases h;done)
  injection h with h
  subst h;exact ⟨_,by simp [convert,run_underlying hds,run_underlying hd,Conv.intToInt],.int⟩
 | none =>
  simp only [hk] at h
  have key:∀{y:AV},(if (UN P s&&isS P d)=true then some y else none)=some v->P.underlying d=some .string/\∃e,P.underlying s=some (.slice e)/\P.underlying e=some (.int .u8)/\y=v:=by
   intro y hy;split at hy
   ·rename_i hb;rw [QG] at hb
    injection hy with hy
    refine ⟨Qbe hb.2,?_⟩;have h1:=hb.1;unfold UN at h1;split at h1
    ·rename_i e he;split at h1
     ·rename_i he2;exact ⟨e,he,he2,hy⟩
     ·cases h1
    ·cases h1
   ·cases hy
  cases x<;>simp only at h<;>try (cases h;done)
  case Yd =>
   obtain ⟨hd,e,hs,he,rfl⟩:=key h;cases hx;exact ⟨_,by simp only [convert,Sem.run_bind,run_underlying hs,run_underlying hd,Result.andThen_ok,run_underlying he,Conv.bytesToString,Sem.run_pure],.str (by decide)⟩
  case sl c xs =>
   cases hb:bytesOf xs with
   | none=>simp [hb] at h
   | some l =>
    simp only [hb,Qu] at h;obtain ⟨hd,e,hs,he,rfl⟩:=key h;obtain ⟨h1,h2⟩:=Qau xs l hb
    have hone:∀x∈xs,x.length=1:=by
     intro x hx';obtain ⟨i,hi⟩:=Qq.1 hx'
     have hil:i < l.length:=by rw [h1];exact (Qb.1 hi).1
     have hn:=h2 i _ (Qj hil);rw [hn] at hi
     injection hi with hi
     subst hi;rfl
    cases hx with
    | @slE _ A cap hc =>
     have hl:l=[]:=by cases l with | nil=>rfl | cons _ _=>simp at h1
     subst hl
     cases A with
     | none=>exact ⟨_,run_convert_bytes_nil w s e hs he 0 cap d hd,.str (by decide)⟩
     | some a =>
      refine ⟨.string (strOfNums []),?_,.str (by decide)⟩;rw [run_convert_bytes_string w s d e _ 0 cap hs he hd,run_bytesToString w a 0 cap [] (by simp [loadCells,loadCellsFrom])];rfl
    | @slC _ _ b o n cap sz' f hne hn hle hcp hszx hc hdd hbl hcl hf hr =>
     subst hn;refine ⟨_,run_convert_bytes_arg w s e hs he b o xs.length cap l h1 (fun i hi=>?_) d hd,.str (by rw [strOfNums_size,h1];exact hle)⟩
     have hil:i < l.length:=by omega
     have hm:=h2 i _ (Qj hil);have hfl:=Tn xs hone i _ hm;have hrv:=hr i _ hfl;rw [hf i _ hfl,Qy,Qj hil];generalize f i=u at hrv;cases hrv;rfl
theorem Qqx {x y:AV} {cx cy:Value} {v:AV} {tys:Array TypeId} {ty:TypeId} (hx:Rv σ w x cx) (hy:Rv σ w y cy) (h:Qmj x y=some v):∃cv,(Builtin.max_ tys ty #[cx,cy]).run P w=.ok cv w/\Rv σ w v cv:=by
 unfold Qmj at h
 cases hx<;>cases hy<;>simp only at h<;>try (cases h;done)
 rename_i k a k' b;split at h
 ·rename_i hk;subst hk
  injection h with h
  subst h;exact ⟨_,by simp [Builtin.max_,Builtin.max2],.int⟩
 ·cases h
theorem Qq1 {x:AV} {cx:Value} {v:AV} (hx:Rv σ w x cx) (h:Qoy x=some v):v=x/\((∃a,cx=.pointer (some a))∨∃f vs,cx=.func (.func f) #[] vs):=by
 unfold Qoy at h
 cases hx<;>simp only at h<;>try (cases h;done)
 all_goals (injection h with h;refine ⟨h.symm,?_⟩;first | exact .inl ⟨_,rfl⟩ | exact .inr ⟨_,_,rfl⟩)
def Tb (P:Program) (σ:Sto) (w:World):Prop:=∀x∈Qo3,∀g,P.globalNamed x.1=some g->σ.dead g/\w.var? P x.1=some x.2.toArray
theorem Tb.lt {P:Program} {w:World} {n:String} {g:Nat} {cs:Array Value} (hg:P.globalNamed n=some g) (h:w.var? P n=some cs):g < w.heap.size:=by
 unfold World.var? at h;rw [hg,Qh] at h
 cases hh:w.heap[g]? with
 | none=>rw [hh] at h;cases h
 | some o=>exact (Array.getElem?_eq_some_iff.1 hh).1
theorem Tb.step {P:Program} {σ ss':Sto} {w w':World} (hs:Step σ w ss' w') (h:Tb P σ w):Tb P ss' w':=fun x hx g hg=>by
 obtain ⟨h1,h2⟩:=h x hx g hg;obtain ⟨h3,h4⟩:=hs.dead g (Tb.lt hg h2) h1;refine ⟨h4,?_⟩;unfold World.var? at h2 ⊢;rw [hg,Qh] at h2 ⊢;rw [h3];exact h2
theorem Tb.none {P:Program} {σ:Sto} {w:World} (h:(Qo3.all fun x=>(P.globalNamed x.1).isNone)=true):Tb P σ w:=fun x hx g hg=>by
 have:=List.all_eq_true.1 h x hx;rw [hg] at this;cases this
theorem Tb.drop {P:Program} {σ ss':Sto} {w:World} (hd:∀b,σ.dead b->ss'.dead b) (h:Tb P σ w):Tb P ss' w:=h.step (Step.drop hd)
theorem FW {v:Value} {a:AV} (h:cellOf v=some a):Rv σ w a v/\a.Y8=true:=by
 unfold cellOf at h;split at h
 ·injection h with h;subst h;exact ⟨.int,rfl⟩
 ·injection h with h;subst h;exact ⟨.bool,rfl⟩
 ·split at h
  ·rename_i hs;injection h with h;subst h;exact ⟨.str hs,rfl⟩
  ·cases h
 ·cases h
theorem RH {α β:Type} {f:α->Option β} : ∀{l:List α} {r:List β},l.mapM f=some r->r.length=l.length/\∀(i:Nat) (b:β),r[i]?=some b->∃a,l[i]?=some a/\f a=some b
 | [],r,h=>by
  rw [List.mapM_nil] at h;injection h with h;subst h
  exact ⟨rfl,fun i b hb=>by simp at hb⟩
 | a :: l,r,h=>by
  rw [List.mapM_cons] at h
  cases ha:f a with
  | none=>rw [ha] at h;cases h
  | some y =>
   cases hl:l.mapM f with
   | none=>rw [ha,hl] at h;cases h
   | some z =>
    rw [ha,hl] at h
    injection h with h;subst h
    obtain ⟨h1,h2⟩:=RH hl;refine ⟨by simp [h1],fun i b hb=>?_⟩
    cases i with
    | zero=>simp only [QR,Option.some.injEq] at hb ⊢;subst hb;exact ⟨a,rfl,ha⟩
    | succ i=>simp only [QQ] at hb ⊢;exact h2 i b hb
theorem Sw {t e:TypeId} {n g:Nat} {it:TypeInfo} (hu:P.underlying t=some (.array n e)) (hi:P.info? e=some it) :
  (Instr.sliceAt t (.pointer (some ⟨g,0,none⟩)) none none none).run P w=.ok (.slice (some ⟨g,0,none⟩) n n) w:=by
 simp only [Instr.sliceAt,Sem.run_bind,run_underlying hu,Result.andThen_ok];simp [Instr.sliceBounds,Instr.sureAddr,asAddr,sizeOf,typeInfo,program,Sem.run,Sem.run_bind,Sem.run_pure,Result.andThen_ok,hi,Addr.add]
theorem Qkn {g n:Nat} {cs:List Value} {xs:List AV} (hd:σ.dead g) (hw:∀(i:Nat) (v:Value),cs[i]?=some v->w.cell? ⟨g,i,none⟩=some v) (hb:g < w.heap.size) (hn:n=cs.length) (hne:0 < n) (hle:n<=4611686018427387904)
  (hm:cs.mapM cellOf=some xs):Rv σ w (.sl true (xs.map fun a=>[a])) (.slice (some ⟨g,0,none⟩) n n):=by
 obtain ⟨hx,hc⟩:=RH hm
 have hfl:(xs.map fun a=>[a]).flatten=xs:=by
  clear hc hx hm
  induction xs with
  | nil=>rfl
  | cons a l ih=>simp only [QH,Qr,ih,List.cons_append,QU]
 have hne':xs≠[]:=fun h=>by rw [h] at hx;simp at hx;omega
 refine .slC (sz:=1) (f:=fun i=>cs.getD i undef) (by simpa using hne') (by simp [hn,hx]) hle (Qt _) (fun x h=>?_) (fun _=>rfl) hd hb (fun a ha=>?_) (fun i a hi=>?_) (fun i a hi=>?_)
 ·obtain ⟨a,_,rfl⟩:=QZ.1 h;rfl
 ·rw [hfl] at ha;obtain ⟨i,hi⟩:=QV ha;obtain ⟨v,_,h2⟩:=hc i a hi;exact (FW (σ:=σ) (w:=w) h2).2
 ·rw [hfl] at hi;obtain ⟨v,h1,_⟩:=hc i a hi
  have hv:cs.getD i undef=v:=by simp [Qy,h1]
  rw [Qp,hv];exact hw i v h1
 ·rw [hfl] at hi;obtain ⟨v,h1,h2⟩:=hc i a hi
  have hv:cs.getD i undef=v:=by simp [Qy,h1]
  rw [hv];exact (FW h2).1
theorem Qoh {t:TypeId} {g:Nat} {v:AV} (hT:Tb P σ w) (h:Qro P t g=some v):∃cv,(Instr.sliceAt t (.pointer (some ⟨g,0,none⟩)) none none none).run P w=.ok cv w/\Rv σ w v cv:=by
 unfold Qro at h;split at h
 ·rename_i n e x hu hf;split at h
  ·rename_i hc;obtain ⟨h1,h2,h3,h4⟩:=hc;obtain ⟨it,hi⟩:=Qz.1 h1
   cases hm:x.2.mapM cellOf with
   | none=>rw [hm] at h;cases h
   | some xs =>
    rw [hm] at h
    injection h with h;subst h
    have hg:P.globalNamed x.1=some g:=by
     have:=List.find?_some hf;simpa using this
    obtain ⟨hd,hv⟩:=hT x (QP hf) g hg;refine ⟨_,Sw hu hi,Qkn hd (fun i v hv'=>?_) (Tb.lt hg hv) h2 h3 h4 hm⟩;have hc:=World.var?_cell hg hv i;rw [hc];simpa using hv'
  ·cases h
 ·cases h
theorem Qhv {g:Nat} {cs:List AV} (hT:Tb P σ w) (h:Uh P g=some cs):Rv σ w (.ept cs) (.pointer (some ⟨g,0,none⟩)):=by
 unfold Uh at h
 cases hf:Qo3.find? (fun x=>P.globalNamed x.1 == some g) with
 | none=>rw [hf] at h;cases h
 | some x =>
  rw [hf,Qh] at h
  have hg:P.globalNamed x.1=some g:=by
   have:=List.find?_some hf;simpa using this
  obtain ⟨hd,hv⟩:=hT x (QP hf) g hg;obtain ⟨hx,hc⟩:=RH h;refine .ept (f:=fun i=>x.2.getD i undef) hd (Tb.lt hg hv) (fun a ha=>?_) (fun i a hi=>?_) (fun i a hi=>?_)
  ·obtain ⟨i,hi⟩:=QV ha;obtain ⟨v,_,h2⟩:=hc i a hi;exact (FW (σ:=σ) (w:=w) h2).2
  ·obtain ⟨v,h1,_⟩:=hc i a hi
   have hv':x.2.getD i undef=v:=by simp [Qy,h1]
   rw [Qp,hv',World.var?_cell hg hv i];simpa using h1
  ·obtain ⟨v,h1,h2⟩:=hc i a hi
   have hv':x.2.getD i undef=v:=by simp [Qy,h1]
   rw [hv'];exact (FW h2).1
theorem Qkp (hs:Sim σ w) (hT:Tb P σ w) {t:TypeId} {g:Nat} {v:AV} (h:U7 P σ t g=some v):∃cv,(Instr.loadAt t (.pointer (some ⟨g,0,none⟩))).run P w=.ok cv w/\Rv σ w v cv:=by
 unfold U7 at h
 cases hc:Uh P g with
 | none=>rw [hc] at h;cases h
 | some cs=>rw [hc,Qh] at h;exact UR hs (Qhv hT hc) h
theorem Qlz {o:Oper} {ρ:Operand->AV} {ρc:Operand->Value} {v:AV} (hs:Sim σ w) (hT:Tb P σ w) (hρ:∀x∈o.op.operands.toList,Rv σ w (ρ x) (ρc x)) (h:vop P σ ρ o.op=some v) :
  ∃cv w',(execOp ρc o).run P w=.ok (.value cv) w'/\Below w.heap.size w w'/\Rv σ w' v cv:=by
 have stay:∀{s:Sem Value} {cv:Value},s.run P w=.ok cv w->Rv σ w v cv->∃cv w',(do pure (.value (← s)):Sem Next).run P w=.ok (.value cv) w'/\Below w.heap.size w w'/\Rv σ w' v cv:=by
  intro s cv hr hv;exact ⟨cv,w,by rw [Sem.run_bind,hr];rfl,Below.refl _ _,hv⟩
 obtain ⟨dst,op,ty,pos,af,g⟩:=o
 cases op<;>simp only [vop] at h<;>simp only [Op.operands] at hρ<;>try (cases h;done)
 case move x=>injection h with h;subst h;exact ⟨_,w,rfl,Below.refl _ _,hρ x (by simp)⟩
 case assign x=>injection h with h;subst h;exact ⟨_,w,rfl,Below.refl _ _,hρ x (by simp)⟩
 case pick c a b =>
  have hc:=hρ c (by simp)
  cases hcc:ρ c<;>simp only [hcc] at h<;>try (cases h;done)
  rename_i t
  injection h with h
  rw [hcc] at hc
  have hcb:ρc c=.bool t:=by generalize ρc c=u at hc;cases hc;rfl
  refine ⟨if t=true then ρc a else ρc b,w,by simp only [execOp,hcb,asBool,Sem.run_bind,Sem.run_pure,Result.andThen_ok],Below.refl _ _,?_⟩;subst h;cases t
  ·exact hρ b (by simp)
  ·exact hρ a (by simp)
 case load t a=>obtain ⟨cv,h1,h2⟩:=UR hs (hρ a (by simp)) h;exact stay h1 h2
 case fieldAddr t x f=>obtain ⟨cv,h1,h2⟩:=Qjg (hρ x (by simp)) h;exact stay h1 h2
 case indexAddr t x i=>obtain ⟨cv,h1,h2⟩:=Qql (hρ x (by simp)) (hρ i (by simp)) h;exact stay h1 h2
 case index t x i=>obtain ⟨cv,h1,h2⟩:=Qgx (hρ x (by simp)) (hρ i (by simp)) h;exact stay h1 h2
 case binOp op t x y t2=>obtain ⟨cv,h1,h2⟩:=Qpk (ox:=x) (oy:=y) (hρ x (by simp)) (hρ y (by simp)) h;exact stay h1 h2
 case unOp op t x=>obtain ⟨cv,h1,h2⟩:=Qs9 (hρ x (by simp)) h;exact stay h1 h2
 case extract x i=>obtain ⟨cv,h1,h2⟩:=Qpr (hρ x (by simp)) h;exact stay h1 h2
 case build t parts=>obtain ⟨cv,h1,h2⟩:=Qi7 (fun p hp=>hρ p.2 (by simp;exact ⟨p.1,by simpa using hp⟩)) h;exact stay h1 h2
 case buildSlice t len parts =>
  obtain ⟨cv,w',h1,h2,h3⟩:=Qft hs (fun p hp=>hρ p.2 (by simp;exact ⟨p.1,by simpa using hp⟩)) h;exact ⟨cv,w',by simp only [execOp];rw [Sem.run_bind,h1];rfl,h2,h3⟩
 case slice t x lo hi mx =>
  have hopt:∀z:Option Operand,(∀y∈z.toArray.toList,Rv σ w (ρ y) (ρc y))->RvO σ w (z.map ρ) (z.map ρc):=by
   intro z hz
   cases z with
   | none=>trivial
   | some y=>exact hz y (by simp)
  have hmem:∀y,y∈lo.toArray.toList∨y∈hi.toArray.toList∨y∈mx.toArray.toList->Rv σ w (ρ y) (ρc y):=by
   intro y hy;refine hρ y ?_;simp only [Array.toList_append,QS]
   rcases hy with hy | hy | hy
   ·exact .inl (.inl (.inr hy))
   ·exact .inl (.inr hy)
   ·exact .inr hy
  have hxx:Rv σ w (ρ x) (ρc x):=hρ x (by simp)
  by_cases hp:∃g,ρ x=.ptr g 0
  ·obtain ⟨g,hg⟩:=hp;rw [hg] at h hxx;simp only [Qh4] at h;split at h
   ·rename_i hnn;cases lo<;>simp at hnn;cases hi<;>simp at hnn;cases mx<;>simp at hnn;obtain ⟨cv,h1,h2⟩:=Qoh hT h
    have hcx:ρc x=.pointer (some ⟨g,0,none⟩):=by generalize ρc x=u at hxx;cases hxx;rfl
    refine stay (s:=Instr.sliceAt t (ρc x) none none none) ?_ h2;rw [hcx];exact h1
   ·cases h
  have h:Bx (isS P t) (se P t) (ρ x) (lo.map ρ) (hi.map ρ) (mx.map ρ)=some v:=by
   unfold Qh4 at h;split at h
   ·rename_i g hg;exact absurd ⟨_,hg⟩ hp
   ·cases h
   ·exact h
  obtain ⟨cv,h1,h2⟩:=Qkh hxx (hopt lo (fun y hy=>hmem y (.inl hy))) (hopt hi (fun y hy=>hmem y (.inr (.inl hy)))) (hopt mx (fun y hy=>hmem y (.inr (.inr hy)))) h;refine stay (s:=Instr.sliceAt t (ρc x) (lo.map ρc) (hi.map ρc) (mx.map ρc)) ?_ h2;rw [← h1]
  have hna:∀n e,P.underlying t≠some (.array n e):=by
   intro n e hu
   have hS:isS P t=false:=by simp [isS,hu]
   have hE:se P t=none:=by simp [se,hu]
   rw [hS,hE] at h;unfold Bx at h;cases hx':ρ x<;>simp [hx'] at h
  simp only [Instr.sliceAt,Sem.run_bind]
  cases hu:P.underlying t with
  | none=>simp [Instr.slice,underlying,program,Sem.run,hu]
  | some d =>
   rw [run_underlying hu,Result.andThen_ok]
   cases d<;>first | rfl | exact absurd hu (hna _ _)
 case convert s d x =>
  split at h
  ·rename_i hu;obtain ⟨cv,h1,h2⟩:=Qmu hu (hρ x (by simp)) h;exact stay h1 h2
  ·cases h
 case nilCheck x =>
  obtain ⟨rfl,hc⟩:=Qq1 (hρ x (by simp)) h;have hx:=hρ x (by simp);refine ⟨ρc x,w,?_,Below.refl _ _,hx⟩;simp only [execOp]
  rcases hc with ⟨a,ha⟩ | ⟨f,vs,ha⟩<;>rw [ha]<;>rfl
 case makeFunc fn first caps =>
  cases fn<;>simp only at h<;>try (cases h;done)
  rename_i f;split at h
  ·rename_i hf
   injection h with h
   subst h
   have hfe:first=#[]:=Array.eq_empty_of_size_eq_zero hf
   subst hfe;refine stay (s:=Instr.makeFunc (.func f) ((#[]:Array Operand).map ρc) (caps.map ρc)) (cv:=.func (.func f) #[] (caps.map ρc)) (by simp [Instr.makeFunc]) ?_;refine .fn (by rw [List.length_map,Array.size_map,QB]) (fun i c hc=>?_);rw [QE] at hc;obtain ⟨y,hy,rfl⟩:=Qx.1 hc
   have:(caps.map ρc).getD i undef=ρc y:=by simp at hy;simp [hy]
   rw [this];exact hρ y (by simp;exact Array.mem_toList_iff.1 (Qf hy))
  ·cases h
 case call c =>
  obtain ⟨callee,args,argTypes⟩:=c
  cases callee<;>try (cases h;done)
  rename_i b
  cases b<;>try (cases h;done)
  case len =>
   cases hargs:args.toList with
   | nil=>simp [hargs] at h
   | cons x rest =>
    cases rest with
    | cons _ _=>simp [hargs] at h
    | nil =>
     cases htys:argTypes.toList with
     | nil=>simp [hargs,htys] at h
     | cons t rest =>
      cases rest with
      | cons _ _=>simp [hargs,htys] at h
      | nil =>
       simp only [hargs,htys] at h;split at h
       ·rename_i ht
        have ha:args=#[x]:=by rw [← QJ (xs:=args),hargs]
        have hty:argTypes=#[t]:=by rw [← QJ (xs:=argTypes),htys]
        subst ha;subst hty;rw [Bool.or_eq_true] at ht;obtain ⟨cv,h1,h2⟩:=Qqu (ty:=ty) ht (hρ x (by simp [Call.operands])) h;refine ⟨cv,w,?_,Below.refl _ _,h2⟩;simp only [execOp,resolve,invoke,builtin,Sem.run_bind,Sem.run_pure,Result.andThen_ok,List.map_toArray,QH,List.map_nil,h1]
       ·cases h
  case max =>
   cases hargs:args.toList with
   | nil=>simp [hargs] at h
   | cons x rest =>
    cases rest with
    | nil=>simp [hargs] at h
    | cons y rest =>
     cases rest with
     | cons _ _=>simp [hargs] at h
     | nil =>
      simp only [hargs] at h
      have ha:args=#[x,y]:=by rw [← QJ (xs:=args),hargs]
      subst ha;obtain ⟨cv,h1,h2⟩:=Qqx (tys:=argTypes) (ty:=ty) (P:=P) (hρ x (by simp [Call.operands])) (hρ y (by simp [Call.operands])) h;refine ⟨cv,w,?_,Below.refl _ _,h2⟩;simp only [execOp,resolve,invoke,builtin,Sem.run_bind,Sem.run_pure,Result.andThen_ok,List.map_toArray,QH,List.map_nil,h1]
end
end Go.Proofs.Shadow
namespace Go.Proofs.Shadow
open Go Go.RowKit
structure AS where
 T:Nat->AV
 σ:Sto
def upd (T:Nat->AV) (d:Nat) (v:AV):Nat->AV:=fun i=>if i=d then v else T i
def AS.put (s:AS) (dst:Option Tmp) (v:AV):AS:=match dst with | some d=>⟨upd s.T d v,s.σ⟩ | none=>s
def Jm:AV:=.tup []
def Qea (n:Nat) (σ:Sto) (w:World) (T:Nat->AV) (a:Act):Prop:=a.tmps.size=n/\a.defers=[]/\∀i,Rv σ w (T i) (a.tmps.getD i undef)
structure Rel (P:Program) (n:Nat) (ss0:Sto) (w0:World) (s:AS) (a:Act) (w:World):Prop where
 sim:Sim s.σ w
 tmps:Qea n s.σ w s.T a
 step:Step ss0 w0 s.σ w
 tb:Tb P s.σ w
def NT (P:Program) (n:Nat) (ss0:Sto) (w0:World) (K:AS->Prop) (a:Act) (w:World):Prop:=∃s,K s/\Rel P n ss0 w0 s a w
theorem LJ {σ:Sto} {w:World} : Rv σ w Jm undef:=.tup rfl (fun i c h=>by simp at h)
theorem Qea.step {n:Nat} {σ ss':Sto} {w w':World} {T:Nat->AV} {a:Act} (h:Qea n σ w T a) (hs:Step σ w ss' w'):Qea n ss' w' T a:=⟨h.1,h.2.1,fun i=>(h.2.2 i).step hs⟩
theorem Qbr (a:Act) (d:Nat) (v:Value):(a.put (some d) v).tmps=a.tmps.setIfInBounds d v:=rfl
theorem Qea.put {n:Nat} {σ:Sto} {w:World} {s:AS} {a:Act} {v:AV} {cv:Value} (h:Qea n σ w s.T a) (hv:Rv σ w v cv) (dst:Option Tmp) (hd:∀d,dst=some d->d < n):Qea n σ w (s.put dst v).T (a.put dst cv):=by
 cases dst with
 | none=>exact h
 | some d =>
  have hdn:=hd d rfl;refine ⟨by rw [Qbr];simp [h.1],h.2.1,fun i=>?_⟩;have hsz:=h.1;simp only [AS.put,upd,Qbr]
  by_cases hi:i=d
  ·subst hi;rw [if_pos rfl]
   have:(a.tmps.setIfInBounds i cv).getD i undef=cv:=by simp [hsz,hdn]
   rw [this];exact hv
  ·rw [if_neg hi]
   have:(a.tmps.setIfInBounds d cv).getD i undef=a.tmps.getD i undef:=by
    simp [QF (Ne.symm hi)]
   rw [this];exact h.2.2 i
theorem DT {n:Nat} {σ:Sto} {w:World} {T:Nat->AV} {a:Act} (h:Qea n σ w T a) {x:Operand} (hx:Lt x=true):Rv σ w (aev T x) (a.eval x):=by
 cases x with
 | tmp t=>exact h.2.2 t
 | const v=>exact Qbj σ w hx
 | global g=>exact .ptr
 | func f=>exact .fn rfl (fun i c hc=>by simp at hc)
theorem HK (s:AS) (dst:Option Tmp) (v:AV):(s.put dst v).σ=s.σ:=by cases dst<;>rfl
def AV.blk:AV->Option Nat
 | .ref b _ _=>some b
 | _=>none
def P5 (σ:Sto) (e:TypeId) (sz:Nat) (v:AV) (xs:List (List AV)):Prop :=
 (∀x∈xs,x.length=sz)/\((v=.Yd/\xs=[])∨v=.sl true xs∨∃b cap,v=.ref b xs.length cap/\σ.own b=some ⟨e,cap * sz,xs.flatten⟩)
def RdL (σ:Sto) (sz:Nat) (v:AV) (xs:List (List AV)):Prop :=
 (∀x∈xs,x.length=sz)/\((v=.Yd/\xs=[])∨(∃c,v=.sl c xs)∨∃b cap e,v=.ref b xs.length cap/\σ.own b=some e/\e.cells=xs.flatten)
structure GZ (σ:Sto) (e:TypeId) (sz:Nat) (v:AV) (ss':Sto) (v':AV) (zs:List (List AV)):Prop where
 var:ss'.var=σ.var
 own:P5 ss' e sz v' zs
 same:∀b,some b≠v.blk->σ.own b≠none->ss'.own b=σ.own b
 fresh:∀b,σ.own b=none->some b≠v'.blk->ss'.own b=none
 blk:v'.blk=v.blk∨∀b,v'.blk=some b->σ.dead b
 cap:v=v'∨v'.blk≠none
def Wk (σ:Sto) (r:AV) (ss':Sto) (r':AV):Prop:=∀w v,Sim σ w->Rv σ w r v->Sim ss' w/\Rv ss' w r' v/\∀b,σ.dead b->ss'.dead b
def Sto.ext (σ:Sto) (ρ:Nat->Option Ent):Sto := { σ with var:=fun i=>(ρ i).or (σ.var i) }
theorem Sto.Qgk (σ:Sto) (b:Nat) (e:Ent) (ρ:Nat->Option Ent):(σ.YG b e).ext ρ=σ.ext (fun i=>(ρ i).or (if i=b then some e else none)):=by
 simp only [Sto.ext,Sto.YG]
 congr 1
 funext i;cases ρ i<;>simp;split<;>simp
structure Wk1 (σ:Sto) (r:AV) (ss':Sto) (r':AV):Prop where
 wk:Wk σ r ss' r'
 var:ss'.var=σ.var
 dead:∀b,σ.dead b->ss'.dead b
 ext:∀ρ,(∀b,ρ b≠none->σ.dead b)->Wk (σ.ext ρ) r (ss'.ext ρ) r'
theorem Wk1.refl (σ:Sto) (r:AV):Wk1 σ r σ r:=⟨fun _ _ hs hr=>⟨hs,hr,fun _ h=>h⟩,rfl,fun _ h=>h,fun _ _ _ _ hs hr=>⟨hs,hr,fun _ h=>h⟩⟩
def BX (ov:Option AV) (s:AS) (dst:Option Tmp) (K:AS->Prop):Prop:=match ov with | some v=>K (s.put dst v) | none=>False
def Im (oc:Option (List AV)) (ty:TypeId) (s:AS) (dst:Option Tmp) (K:AS->Prop):Prop :=
 match oc with | some cs=>∀b,s.σ.dead b->K (AS.put ⟨s.T,s.σ.YG b ⟨ty,cs.length,cs⟩⟩ dst (.ptr b 0)) | none=>False
def JL (k:Option (Bool × Nat)) (σ:Sto) (p v:AV):Option Sto :=
 match k,Vx v with
 | some (_,k),some cs =>
  if cs.length=k then
   match p with
   | .ptr b o=>(σ.var b).bind fun e=>if o+k<=e.cells.length then some (σ.YG b ⟨e.ty,e.size,Ww e.cells o cs⟩) else none
   | .optr b o=>(σ.own b).bind fun e=>if o+k<=e.cells.length then some (σ.Vo b ⟨e.ty,e.size,Ww e.cells o cs⟩) else none
   | _=>none
  else none
 | _,_=>none
def Ab (os:Option Sto) (s:AS) (dst:Option Tmp) (K:AS->Prop):Prop:=match os with | some ss'=>K (AS.put ⟨s.T,ss'⟩ dst Jm) | none=>False
def WkC (z z':List AV):Prop:=z'.length=z.length/\∀(i:Nat) (c':AV),z'[i]?=some c'->∃c,z[i]?=some c/\(∀σ w v,Rv σ w c v->Rv σ w c' v)/\(c.Y8=true->c'.Y8=true)
def RK (k:Option (TypeId × Nat × Nat)) (z:Option (List AV)) (l c:AV) (s:AS) (dst:Option Tmp) (K:AS->Prop):Prop :=
 match k,z,l,c with
 | some (e,sz,by_),some z,.int _ n,.int _ m=>n=m/\0<=n/\n * by_<=140737488355328/\n<=140737488355328/\z.length=sz/\∃z',WkC z z'/\∀b,s.σ.dead b->K (AS.put ⟨s.T,s.σ.Vo b ⟨e,n.toNat * sz,(List.replicate n.toNat z').flatten⟩⟩ dst (.ref b n.toNat n.toNat))
 | _,_,_,_=>False
def JK (k:Option (TypeId × Nat × Nat)) (x y:AV) (s:AS) (dst:Option Tmp) (K:AS->Prop):Prop :=
 match k with
 | some (e,sz,by_)=>∃xs ys,0 < sz/\0 < by_/\P5 s.σ e sz x xs/\RdL s.σ sz y ys/\(xs.length+ys.length) * by_<=140737488355328/\∀v' ss',GZ s.σ e sz x ss' v' (xs++ys)->∃v'' s'',Wk1 ss' v' s'' v''/\K (AS.put ⟨s.T,s''⟩ dst v'')
 | none=>False
def Ctr (P:Program) (f:FuncId) (args:List AV) (σ:Sto) (Q:AV->Sto->Prop):Prop :=
 (∃ fn, P.funcs[f]? = some fn /\ fn.body.isNone = false /\ (fn.name == "runtime.NumGoroutine") = false) /\
 ∀(w:World) (cargs:List Value),Sim σ w->Tb P σ w->cargs.length=args.length->(∀i a,args[i]?=some a->Rv σ w a (cargs.getD i undef)) ->
  Calls P f cargs.toArray w fun e w'=>∃v r ss',e=.returned v/\Step σ w ss' w'/\Sim ss' w'/\Rv ss' w' r v/\Q r ss'
def M0 (P:Program) (fv:AV) (args:List AV) (s:AS) (dst:Option Tmp) (K:AS->Prop):Prop :=
 match fv with
 | .fn f caps=>Ctr P f (args++caps) s.σ fun r ss'=>K (AS.put ⟨s.T,ss'⟩ dst r)
 | _=>False
def aSl (ov:Option AV) (s:AS) (dst:Option Tmp) (K:AS->Prop):Prop :=
 match ov with
 | some (.ref b h cap)=>∃m e,s.σ.own b=some e/\K (AS.put ⟨s.T,s.σ.Vo b ⟨e.ty,e.size,e.cells.take m⟩⟩ dst (.ref b h cap))
 | some v=>K (s.put dst v)
 | none=>False
def aop (P : Program) (o : Oper) (s : AS) (K : AS -> Prop) : Prop :=
  match o.op with
  | .alloc t => Im (tz P t) t s o.dst K
  | .box t x => Im (Vx (aev s.T x)) t s o.dst K
  | .store t p x => Ab (JL (tk P t) s.σ (aev s.T p) (aev s.T x)) s o.dst K
  | .makeSlice t l c => RK (se P t) ((se P t).bind fun k => tz P k.1) (aev s.T l) (aev s.T c) s o.dst K
  | .call { callee := .value f, args, .. } => M0 P (aev s.T f) (args.toList.map (aev s.T)) s o.dst K
  | .call { callee := .builtin .append, args, argTypes } =>
    (match args.toList, argTypes.toList with
     | [x, y], [t, t2] => t = t2 /\ JK (se P t) (aev s.T x) (aev s.T y) s o.dst K
     | _, _ => False)
  | .slice t x lo hi mx => aSl (vop P s.σ (aev s.T) (.slice t x lo hi mx)) s o.dst K
  | .load t (.global g) => BX (U7 P s.σ t g) s o.dst K
  | op => BX (vop P s.σ (aev s.T) op) s o.dst K
section
variable {P:Program} {n:Nat} {ss0:Sto} {w0:World}
theorem Sim.Qf2 {σ:Sto} {w:World} (h:Sim σ w) {g:Nat} (hg:w.heap.size<=g):σ.dead g:=by
 apply Classical.byContradiction;intro hd;have:=h.Sj hd;omega
theorem Sim.Qn2 {σ:Sto} {w w':World} (h:Sim σ w) {row:Option Nat} (hg:w.grownBy w' row) (hrow:∀b,row=some b->σ.own b≠none) {e:TypeId} {sz g k cap:Nat} {cells:List Value} {as:List AV}
  (ho:w'.ownsRow 0 e sz (.slice (some ⟨g,0,none⟩) k cap) k cells) (hgb:row=some g∨w.heap.size<=g) (hl:as.length=cells.length) (hi:∀c∈as,c.Y8=true) (hr:∀i c,as[i]?=some c->Rv σ w c (cells.getD i undef)) :
  ∃ss':Sto,ss'.var=σ.var/\ss'.own g=some ⟨e,cap * sz,as⟩/\(∀b,b≠g->some b≠row->ss'.own b=σ.own b)/\(∀b,b≠g->row=some b->ss'.own b=none)/\Sim ss' w'/\Step σ w ss' w':=by
 obtain ⟨hol,ho⟩:=ho
 rcases ho with ⟨h1,_⟩ | ⟨g',cap',cur,hv,_,hh,hkc,hcm,hcs,htake⟩
 ·cases h1
 injection hv with hv1 hv2 hv3
 injection hv1 with hv1
 injection hv1 with hv1
 subst hv1;subst hv3
 have hst:Step σ w ⟨σ.var,fun i=>if i=g then some ⟨e,cap * sz,as⟩ else if some i=row then none else σ.own i⟩ w':=by
  refine ⟨hg.os,hg.tape,hg.output,hg.size,fun b hb hd=>?_⟩;have hne:some b≠row:=fun he=>hrow b he.symm hd.2;refine ⟨hg.block b hb hne,hd.1,?_⟩
  have hbg:b≠g:=by
   rcases hgb with hgb | hgb
   ·exact fun he=>hne (by rw [he,hgb])
   ·omega
  simp only [if_neg hbg,if_neg hne];exact hd.2
 have hvar:∀b ent,σ.var b=some ent->w'.heap[b]?=w.heap[b]?:=by
  intro b ent hb;obtain ⟨q1,_,q3⟩:=h.var b ent hb;exact hg.block b q1.lt (fun he=>hrow b he.symm q3)
 refine ⟨⟨σ.var,fun i=>if i=g then some ⟨e,cap * sz,as⟩ else if some i=row then none else σ.own i⟩,rfl,by simp,fun b hb hne=>by simp [hb,hne],fun b hb he=>by simp [hb,he],⟨?_,?_⟩,hst⟩
 ·intro b ent hb;obtain ⟨q1,q2,q3⟩:=h.var b ent hb;refine ⟨q1.step hst (hvar b ent hb),q2,?_⟩
  have hbg:b≠g:=by
   rcases hgb with hgb | hgb
   ·intro he;subst he;exact hrow b hgb q3
   ·have:=q1.lt;omega
  simp only [if_neg hbg];split
  ·rfl
  ·exact q3
 ·intro b ent hb;simp only at hb;split at hb
  ·rename_i hbg;subst hbg
   injection hb with hb
   subst hb
   have hcl:as.length<=cur.size:=by
    rw [hl,← htake];simp;omega
   refine ⟨cur,hh,hcs,by rw [← hcs];exact hcl,fun i c hic=>⟨hi c (Qf hic),?_⟩⟩;have:=hr i c hic
   have he:cells.getD i undef=cur.getD i undef:=by
    have hil:i < cells.length:=by have h8:i < as.length:=(Qb.1 hic).1;omega
    rw [← htake] at hil ⊢;rw [Qy,Qj hil,List.getElem_take];simp at hil
    have h9:i < cur.size:=by omega
    simp [h9]
   rw [he] at this;exact this.step hst
  ·split at hb
   ·cases hb
   ·rename_i hbg hne;exact (h.own b ent hb).step hst (hg.block b (h.own b ent hb).lt hne)
theorem RdL.cells {σ:Sto} {w:World} (h:Sim σ w) {sz:Nat} {v:AV} {xs:List (List AV)} (hr:RdL σ sz v xs) (hsz:0 < sz) {cv:Value} (hv:Rv σ w v cv) :
  xs.length<=4611686018427387904/\(∀c∈xs.flatten,c.Y8=true)/\∃A cap,cv=.slice A xs.length cap/\(xs=[]∨∃a,A=some a/\∃news:List Value,news.length=xs.length * sz/\(∀j u,news[j]?=some u->w.cell? (a.add j)=some u)/\(∀u∈news,u.oneCell'=true)/\∀i c,xs.flatten[i]?=some c->Rv σ w c (news.getD i undef)):=by
 obtain ⟨hrow,hr⟩:=hr;have hfl:=V1 xs hrow
 have fin:∀(b o:Nat) (f:Nat->Value),(∀c∈xs.flatten,c.Y8=true)->(∀i c,xs.flatten[i]?=some c->w.cell? ⟨b,o+i,none⟩=some (f i)/\Rv σ w c (f i)) ->
   ∃news:List Value,news.length=xs.length * sz/\(∀j u,news[j]?=some u->w.cell? ((⟨b,o,none⟩:Addr).add j)=some u)/\(∀u∈news,u.oneCell'=true)/\∀i c,xs.flatten[i]?=some c->Rv σ w c (news.getD i undef):=by
  intro b o f hi hf;refine ⟨(List.range (xs.length * sz)).map f,by simp,fun j u hj=>?_,fun u hu=>?_,fun i c hic=>?_⟩
  ·rw [QE] at hj;obtain ⟨j',hj',rfl⟩:=Qx.1 hj;have hjl:=(Qb.1 hj').1;simp at hjl
   have:j'=j:=by rw [List.getElem?_range (by simpa using hjl)] at hj';injection hj' with hj';exact hj'.symm
   subst this;rw [LW];exact (hf j' _ (Qj (by rw [hfl];exact hjl))).1
  ·obtain ⟨j,hj,rfl⟩:=QZ.1 hu;rw [List.mem_range] at hj;have hc:=Qj (l:=xs.flatten) (i:=j) (by rw [hfl];exact hj);exact (hf j _ hc).2.one (hi _ (Qf hc))
  ·have hil:i < xs.length * sz:=by rw [← hfl];exact (Qb.1 hic).1
   have:((List.range (xs.length * sz)).map f).getD i undef=f i:=by simp [hil]
   rw [this];exact (hf i c hic).2
 rcases hr with ⟨rfl,rfl⟩ | ⟨c,rfl⟩ | ⟨b,cap,e,rfl,he,hcells⟩
 ·cases hv;exact ⟨by simp,by simp,_,_,rfl,.inl rfl⟩
 ·cases hv with
  | slE hc=>exact ⟨by simp,by simp,_,_,rfl,.inl rfl⟩
  | slC hx hn hle hcp hszx hc hd hb hi hf hr =>
   subst hn;exact ⟨hle,hi,_,_,rfl,.inr ⟨_,rfl,fin _ _ _ hi (fun i c hic=>⟨hf i c hic,hr i c hic⟩)⟩⟩
 ·cases hv with
  | ref hle hcp hcm =>
   obtain ⟨cs,h1,h2,h3,h4⟩:=h.own b e he;rw [hcells] at h3 h4;refine ⟨hle,fun c hc=>?_,_,_,rfl,.inr ⟨_,rfl,fin b 0 (fun i=>cs.getD i undef) (fun c hc=>?_) (fun i c hic=>⟨?_,(h4 i c hic).2⟩)⟩⟩
   ·obtain ⟨i,hi⟩:=Qq.1 hc;exact (h4 i c hi).1
   ·obtain ⟨i,hi⟩:=Qq.1 hc;exact (h4 i c hi).1
   ·rw [Qp,cell_of_row w b i cs e.ty (0,0) h1]
    have:i < cs.size:=by have:=(Qb.1 hic).1;omega
    simp [this]
end
end Go.Proofs.Shadow
