/- Every operation: what the abstract one says, the machine's does. -/
import Derived.Test.YtiiamkelehfnoaaGreatDoorShD
open _root_.Array renaming getD_eq_getD_getElem? → QK, replicate → Q3, toArray_toList → QJ
open _root_.List renaming getD_eq_getElem?_getD → Qy, mem_iff_getElem? → Qq, mem_of_getElem? → Qf, getElem?_append → Q0, getElem?_eq_getElem → Qj, replicate → Q2, getElem?_take → QM, getElem?_append_right → QN, getElem?_eq_some_iff → Qb, getElem?_append_left → QO, eq_of_mem_replicate → Q4, mem_append → QS, getElem?_eq_none → Q6, flatten_append → Q7, length_append → QX, append_assoc → QD, getElem?_map → QE
open _root_.Option renaming bind_some → Qh, getD_some → Q5, map_eq_some_iff → Qx
open _root_.Bool renaming and_eq_true → QG, false_eq_true → Qo
open _root_.Nat renaming zero_le → Q1, le_refl → Qt
set_option linter.unusedVariables false
set_option linter.unusedSimpArgs false
namespace Go.Proofs.Shadow
open Go Go.RowKit
section
variable {P:Program} {n:Nat} {ss0:Sto} {w0:World}
theorem Bh {s s':AS} {a:Act} {w w':World} {K:AS->Prop} {v:AV} {cv:Value} {dst:Option Tmp} (hR:Rel P n ss0 w0 s a w) (hd:∀d,dst=some d->d < n) (hT:s'.T=s.T) (hs:Sim s'.σ w') (hst:Step s.σ w s'.σ w') (hv:Rv s'.σ w' v cv) (hK:K (s'.put dst v)) :
  NT P n ss0 w0 K (a.put dst cv) w':=by
 refine ⟨_,hK,by rw [HK];exact hs,?_,by rw [HK];exact hR.step.trans hst,by rw [HK];exact hR.tb.step hst⟩;rw [HK];exact Qea.put (by rw [hT];exact hR.tmps.step hst) hv dst hd
theorem Qap {s:AS} {a:Act} {w:World} {K:AS->Prop} {Q:Exit->Act->World->Prop} {dst:Option Tmp} {as:List AV} {cs:Array Value} {ty:TypeId} (hR:Rel P n ss0 w0 s a w) (hd:∀d,dst=some d->d < n)
  (h:Im (some as) ty s dst K) (hl:as.length=cs.size) (hi:∀c∈as,c.Y8=true) (hr:∀i c,as[i]?=some c->Rv s.σ w c (cs.getD i undef)) :
  NT P n ss0 w0 K (a.put dst (.pointer (some ⟨w.heap.size,0,none⟩))) (w.alloc (.cells cs ty)):=by
 have hK:=h w.heap.size hR.sim.fresh;exact Bh (s':=⟨s.T,s.σ.YG w.heap.size ⟨ty,as.length,as⟩⟩) hR hd rfl (hR.sim.newVar ty cs as hl hi hr) (Step.new _ _) .ptr hK
theorem BI {o:Oper} {a:Act} {w w':World} {cv:Value} {K:Act->World->Prop} {Q:Exit->Act->World->Prop} (hrun:(execOp a.eval o).run P w=.ok (.value cv) w') (h:K (a.put o.dst cv) w'):o.wp P a w K Q:=by
 unfold Oper.wp;rw [hrun];exact h
theorem NY {σ:Sto} {w:World} {x:AV} {cx:Value} {cs:List AV} (hx:Rv σ w x cx) (h:Vx x=some cs):RvC σ w cs cx.cells:=by
 obtain ⟨h1,h2,h3,_⟩:=EU hx h;exact ⟨h1.symm,h2,h3⟩
theorem Ox {σ:Sto} {w:World} {as cs:List AV} {cur vs:Array Value} {o:Nat} (h:RvC σ w as cur∨(as.length<=cur.size/\(∀c∈as,c.Y8=true)/\∀i c,as[i]?=some c->Rv σ w c (cur.getD i undef))) (hv:RvC σ w cs vs) (hle:o+cs.length<=as.length) :
  (Ww as o cs).length=as.length/\(∀c∈Ww as o cs,c.Y8=true)/\∀i c,(Ww as o cs)[i]?=some c->Rv σ w c ((cur.toList.take o++vs.toList++cur.toList.drop (o+vs.toList.length)).toArray.getD i undef):=by
 have h':as.length<=cur.size/\(∀c∈as,c.Y8=true)/\∀i c,as[i]?=some c->Rv σ w c (cur.getD i undef):=h.elim (fun h=>⟨Nat.le_of_eq h.1,h.2.1,h.2.2⟩) id;obtain ⟨h1,h2,h3⟩:=h';obtain ⟨v1,v2,v3⟩:=hv;refine ⟨A6 hle,fun c hc=>(RE hle hc).elim (h2 c) (v2 c),fun i c hic=>?_⟩
 have hil:i < as.length:=by rw [← A6 hle];exact (Qb.1 hic).1
 rw [RD hle] at hic
 have hget:(cur.toList.take o++vs.toList++cur.toList.drop (o+vs.toList.length)).toArray.getD i undef=(if o<=i/\i < o+cs.length then vs.toList[i - o]? else cur.toList[i]?).getD undef:=by
  have hvl:vs.toList.length=cs.length:=by simp [v1]
  rw [QK]
  congr 1
  simp only [List.getElem?_toArray,hvl]
  by_cases hi1:i < o
  ·rw [if_neg (by omega),QD,QO (by simp;omega),QM,if_pos hi1]
  ·by_cases hi2:i < o+cs.length
   ·rw [if_pos ⟨by omega,hi2⟩,QD,QN (by simp;omega),QO (by simp;omega)]
    congr 1
    simp;omega
   ·rw [if_neg (by omega),QN (by simp;omega),List.getElem?_drop]
    congr 1
    simp;omega
 rw [hget];split at hic
 ·rename_i hh;rw [if_pos hh];have:=v3 _ c hic;simpa using this
 ·rename_i hh;rw [if_neg hh];have:=h3 i c hic;simpa using this
theorem Qkk {s:AS} {a:Act} {w:World} {K:AS->Prop} {Q:Exit->Act->World->Prop} {dst:Option Tmp} {t:TypeId} {p x:AV} {cp cx:Value} (hR:Rel P n ss0 w0 s a w) (hd:∀d,dst=some d->d < n) (hp:Rv s.σ w p cp) (hx:Rv s.σ w x cx)
  (h:Ab (JL (tk P t) s.σ p x) s dst K):∃w',(Instr.storeAt t cp cx).run P w=.ok () w'/\NT P n ss0 w0 K (a.put dst undef) w':=by
 unfold Ab at h
 cases hst:JL (tk P t) s.σ p x with
 | none=>simp [hst] at h
 | some ss' =>
  simp only [hst] at h;unfold JL at hst
  cases hk:tk P t with
  | none=>simp [hk] at hst
  | some k =>
   obtain ⟨ag,k⟩:=k
   cases hc:Vx x with
   | none=>simp [hk,hc] at hst
   | some cs =>
    simp only [hk,hc] at hst;split at hst
    case isFalse=>cases hst
    case isTrue hck =>
     have hsz:∃i,P.info? t=some i/\i.size=k:=by
      unfold tk at hk
      cases hi:P.info? t with
      | none=>simp [hi] at hk
      | some i =>
       cases hu:P.underlying t with
       | none=>simp [hi,hu] at hk
       | some d=>simp only [hi,hu,Option.some.injEq,Prod.mk.injEq] at hk;exact ⟨i,rfl,hk.2⟩
     obtain ⟨i,hi,hik⟩:=hsz;have hv:=NY hx hc;obtain ⟨_,_,_,hone⟩:=EU hx hc
     have hvl:cx.cells.toList.length=k:=by rw [Array.length_toList,← hv.1,hck]
     have hrun:∀(b o:Nat) (cur:Array Value) (ty:TypeId),w.heap[b]?=some (.cells cur ty (0,0))->o+k<=cur.size ->
       (Instr.storeAt t (.pointer (some ⟨b,o,none⟩)) cx).run P w=.ok () (w.setRow b (cur.toList.take o++cx.cells.toList++cur.toList.drop (o+cx.cells.toList.length)).toArray):=by
      intro b o cur ty hb hle;have:=run_storeCells_at P b o ty cx.cells.toList 0 cur w hb (by omega) hone;simp only [Nat.add_zero] at this
      have hne:¬cx.cells.size≠i.size:=by rw [hik];simpa using hvl
      simp only [Instr.storeAt,Instr.sureAddr,Sem.run_bind,Sem.run_pure,Result.andThen_ok,storeVar,sizeOf,typeInfo,program,Sem.run,hi];rw [if_neg hne];exact this
     cases hp<;>simp only at hst<;>try (cases hst;done)
     case ptr b o =>
      cases he:s.σ.var b with
      | none=>simp [he] at hst
      | some e =>
       simp only [he,Qh] at hst;split at hst
       case isFalse=>cases hst
       case isTrue hle =>
        injection hst with hst
        subst hst;obtain ⟨⟨cur,g1,g2,g3,g4⟩,g5,g6⟩:=hR.sim.var b e he;have hcur:RvC s.σ w e.cells cur:=⟨by omega,fun c hc=>by obtain ⟨j,hj⟩:=Qq.1 hc;exact (g4 j c hj).1,fun j c hj=>(g4 j c hj).2⟩;obtain ⟨r1,r2,r3⟩:=Ox (o:=o) (.inl hcur) hv (by omega);refine ⟨_,hrun b o cur e.ty g1 (by omega),?_⟩;obtain ⟨q1,q2⟩:=hR.sim.Qq6 he _ _ (r1.trans g5) (by simp;omega) r2 r3;exact Bh (s':=⟨s.T,s.σ.YG b ⟨e.ty,e.size,Ww e.cells o cs⟩⟩) hR hd rfl q1 q2 LJ h
     case optr b o =>
      cases he:s.σ.own b with
      | none=>simp [he] at hst
      | some e =>
       simp only [he,Qh] at hst;split at hst
       case isFalse=>cases hst
       case isTrue hle =>
        injection hst with hst
        subst hst;obtain ⟨cur,g1,g2,g3,g4⟩:=hR.sim.own b e he;obtain ⟨r1,r2,r3⟩:=Ox (o:=o) (cur:=cur) (.inr ⟨by omega,fun c hc=>by obtain ⟨j,hj⟩:=Qq.1 hc;exact (g4 j c hj).1,fun j c hj=>(g4 j c hj).2⟩) hv (by omega);refine ⟨_,hrun b o cur e.ty g1 (by omega),?_⟩;obtain ⟨q1,q2⟩:=hR.sim.Qq5 he _ _ (by rw [r1];exact g3) (by simp;omega) r2 r3;exact Bh (s':=⟨s.T,s.σ.Vo b ⟨e.ty,e.size,Ww e.cells o cs⟩⟩) hR hd rfl q1 q2 LJ h
theorem Qnp {s:AS} {a:Act} {w:World} {K:AS->Prop} {dst:Option Tmp} {t:TypeId} {l c:AV} {cl cc:Value} (hR:Rel P n ss0 w0 s a w) (hd:∀d,dst=some d->d < n) (hl:Rv s.σ w l cl) (hc:Rv s.σ w c cc)
  (h:RK (se P t) ((se P t).bind fun k=>tz P k.1) l c s dst K):∃cv w',(Instr.makeSlice t cl cc).run P w=.ok cv w'/\NT P n ss0 w0 K (a.put dst cv) w':=by
 cases hk:se P t with
 | none=>simp [hk,RK] at h
 | some k =>
  obtain ⟨e,sz,by_⟩:=k;obtain ⟨hu,it,hit,hsz,hby⟩:=CX hk;simp only [hk,Qh] at h
  cases hz:tz P e with
  | none=>simp [hz,RK] at h
  | some z =>
   simp only [hz] at h;unfold RK at h
   cases hl<;>try (exact h.elim)
   cases hc<;>try (exact h.elim)
   rename_i k1 m k2 m2;simp only at h;obtain ⟨rfl,h0,h1,h2,h3,z',⟨h5,h6⟩,h4⟩:=h;obtain ⟨i,zc,hi,hzc,hzr⟩:=OY (σ:=s.σ) (w:=w) hz;rw [hit] at hi
   injection hi with hi
   subst hi;have hrun:=run_make (P:=P) w t e it zc hu hit hzc k1 k2 m m h0 (Int.le_refl _) (by rw [hby,Int.mul_comm];omega) (by omega);refine ⟨_,_,hrun,?_⟩;rw [hsz]
   have hzs:zc.cells.size=sz:=by rw [← hzr.1,h3]
   have hms:(madeCells zc.cells (m.toNat * sz)).size=m.toNat * sz:=by simp [madeCells]
   have hrep:((Q2 m.toNat z').flatten).length=m.toNat * sz:=by
    rw [V1 (sz:=sz) _ (fun x hx=>by rw [Q4 hx,h5];exact h3)];simp
   have hget:∀i c,((Q2 m.toNat z').flatten)[i]?=some c->c.Y8=true/\Rv s.σ w c ((madeCells zc.cells (m.toNat * sz)).getD i undef):=by
    intro i c hic
    have hil:i < m.toNat * sz:=by rw [← hrep];exact (Qb.1 hic).1
    have hsp:0 < sz:=by
     rcases Nat.eq_zero_or_pos sz with h | h
     ·rw [h] at hil;simp at hil
     ·exact h
    have hdiv:i / sz < m.toNat:=by rw [Nat.div_lt_iff_lt_mul hsp];exact hil
    have hmod:=Nat.mod_lt i hsp;have heq:i / sz * sz+i % sz=i:=Nat.div_add_mod' i sz;have hfa:=BZ (Q2 m.toNat z') (i / sz) (i % sz) (fun x hx=>by rw [Q4 hx,h5];exact h3) hmod;rw [heq,hic] at hfa;simp only [List.getElem?_replicate,hdiv,if_true,Qh] at hfa;obtain ⟨c0,hc0,hcw,hcc⟩:=h6 _ c hfa.symm;have hz2:=hcw _ _ _ (hzr.2.2 _ c0 hc0);refine ⟨hcc (hzr.2.1 c0 (Qf hc0)),?_⟩
    have:(madeCells zc.cells (m.toNat * sz)).getD i undef=zc.cells.getD (i % sz) undef:=by
     have hms':i % sz < zc.cells.size:=by omega
     simp only [madeCells];rw [QK,Array.getElem?_map,Array.getElem?_range,if_pos hil];simp only [Option.map_some,Q5,hzs];rw [getElem!_pos zc.cells (i % sz) hms',QK,Array.getElem?_eq_getElem hms'];rfl
    rw [this];exact hz2
   have hK:=h4 w.heap.size hR.sim.fresh;have hnew:=hR.sim.TC e (madeCells zc.cells (m.toNat * sz)) ((Q2 m.toNat z').flatten) (by rw [hrep,hms];exact Qt _) (fun c hc=>by obtain ⟨i,hi⟩:=Qq.1 hc;exact (hget i c hi).1) (fun i c hic=>(hget i c hic).2);rw [hms] at hnew;exact Bh (s':=⟨s.T,s.σ.Vo w.heap.size ⟨e,m.toNat * sz,(Q2 m.toNat z').flatten⟩⟩) hR hd rfl hnew (Step.TC _ _) (.ref (by omega) (Qt _) (by omega)) hK
theorem Rv.Qnl {σ:Sto} {w:World} {x:AV} {v:Value} (h:Rv σ w x v):∀A m cap,v=.slice A m cap->((∃c xs,x=.sl c xs)∨x=.Yd∨∃b n cap,x=.ref b n cap)->m<=cap:=by
 intro A m cap hv hx
 cases h<;>cases hv<;>first | omega | (exfalso;rcases hx with ⟨_,_,h⟩ | h | ⟨_,_,_,h⟩<;>cases h)
set_option maxHeartbeats 1000000 in
theorem Qfk {s:AS} {a:Act} {w:World} {K:AS->Prop} {dst:Option Tmp} {t ty:TypeId} {x y:AV} {cx cy:Value} (hR:Rel P n ss0 w0 s a w) (hd:∀d,dst=some d->d < n) (hx:Rv s.σ w x cx) (hy:Rv s.σ w y cy)
  (hz:∃z,((se P t).bind fun k=>tz P k.1)=some z/\∀k,se P t=some k->z.length=k.2.1)
  (h:JK (se P t) x y s dst K):∃cv w',(Builtin.append_ #[t,t] ty #[cx,cy]).run P w=.ok cv w'/\NT P n ss0 w0 K (a.put dst cv) w':=by
 cases hk:se P t with
 | none=>simp [hk,JK] at h
 | some k =>
  obtain ⟨e,sz,by_⟩:=k;obtain ⟨hu,it,hit,hsz,hby⟩:=CX hk;rw [hk] at h hz;obtain ⟨z,hz1,hz2⟩:=hz;simp only [Qh] at hz1;have hzl:z.length=sz:=hz2 _ rfl;obtain ⟨i,zc,hi,hzc,hzr⟩:=OY (σ:=s.σ) (w:=w) hz1;rw [hit] at hi
  injection hi with hi
  subst hi
  have hzs:zc.cells.size=sz:=by rw [← hzr.1,hzl]
  obtain ⟨xs,ys,hs0,hb0,hox,hry,hbytes,hK⟩:=h;obtain ⟨hyl,hyi,A,ycap,rfl,hyc⟩:=hry.cells hR.sim hs0 hy
  have hxrd:RdL s.σ sz x xs:=⟨hox.1,by
   rcases hox.2 with h | h | ⟨b,cap,h,h2⟩
   ·exact .inl h
   ·exact .inr (.inl ⟨true,h⟩)
   ·exact .inr (.inr ⟨b,cap,_,h,h2,rfl⟩)⟩
  obtain ⟨hxl,hxi,xA,xcap,rfl,hxc⟩:=hxrd.cells hR.sim hs0 hx;have hlen:(xs++ys).length=xs.length+ys.length:=QX;have hsmall:xs.length+ys.length<=140737488355328:=Nat.le_trans (Nat.le_mul_of_pos_right _ hb0) hbytes
  have hfl:(xs++ys).flatten.length=(xs.length+ys.length) * sz:=by
   rw [V1 (sz:=sz) _ (fun x hx=>(QS.1 hx).elim (hox.1 x) (hry.1 x)),hlen]
  by_cases hy0:ys=[]
  ·subst hy0
   have hrun:(Builtin.append_ #[t,t] ty #[.slice xA xs.length xcap,.slice A ([]:List (List AV)).length ycap]).run P w=.ok (.slice xA xs.length xcap) w:=by
    have hcap:xs.length<=xcap:=hx.Qnl _ _ _ rfl (by
     rcases hox.2 with ⟨h,_⟩ | h | ⟨b,cap,h,_⟩
     ·exact .inr (.inl h)
     ·exact .inl ⟨_,_,h⟩
     ·exact .inr (.inr ⟨_,_,_,h⟩))
    cases A with
    | none=>cases xA<;>simp [Builtin.append_,run_underlying hu,sizeOf,typeInfo,hit,Builtin.lenOf,Builtin.firstCells,hcap,storeCells]
    | some ad=>cases xA<;>simp [Builtin.append_,run_underlying hu,sizeOf,typeInfo,hit,Builtin.lenOf,Builtin.firstCells,hcap,storeCells,loadCells,loadCellsFrom]
   refine ⟨_,_,hrun,?_⟩;have hpost:GZ s.σ e sz x s.σ x (xs++[]):=⟨rfl,by rw [List.append_nil];exact hox,fun b _ _=>rfl,fun b hb _=>hb,.inl rfl,.inl rfl⟩;obtain ⟨v2,ss2,hw,hk⟩:=hK x s.σ hpost;obtain ⟨k1,k2,_⟩:=hw.wk w _ hR.sim hx;exact Bh (s':=⟨s.T,ss2⟩) hR hd rfl k1 (Step.drop hw.dead) k2 hk
  ·rcases hyc with hyc | ⟨ya,rfl,news,hn1,hn2,hn3,hn4⟩
   ·exact absurd hyc hy0
   have hy1:0 < ys.length:=by cases ys with | nil=>exact absurd rfl hy0 | cons _ _=>simp
   have hcells:∀(olds:List Value),olds.length=xs.length * sz->(∀i c,xs.flatten[i]?=some c->Rv s.σ w c (olds.getD i undef)) ->
     ∀i c,(xs++ys).flatten[i]?=some c->Rv s.σ w c ((olds++news).getD i undef):=by
    intro olds hol hor i c hic
    have hxf:xs.flatten.length=olds.length:=by rw [V1 xs hox.1,hol]
    rw [Q7,Q0] at hic;rw [Qy,Q0];split at hic
    ·rename_i hlt;rw [if_pos (by omega),← Qy];exact hor i c hic
    ·rename_i hge;rw [if_neg (by omega),← Qy,← hxf];exact hn4 _ c hic
   have hall:∀c∈(xs++ys).flatten,c.Y8=true:=by
    intro c hc;rw [Q7] at hc;exact (QS.1 hc).elim (hxi c) (hyi c)
   have hnl:news.length=ys.length * sz:=hn1;have hat':∀{cv:Value} {r:Option Nat},(cv.ownBlock=r∨cv.ownBlock=some w.heap.size)->cv.ownBlock=r∨∃g,cv.ownBlock=some g/\w.heap.size<=g:=fun h=>h.imp id (fun h=>⟨_,h,Qt _⟩)
   have fin:∀(cv:Value) (w':World) (olds:List Value) (row:Option Nat),olds.length=xs.length * sz->(∀i c,xs.flatten[i]?=some c->Rv s.σ w c (olds.getD i undef)) ->
     w'.ownsRow 0 e sz cv (xs.length+ys.length) (olds++news)->w.grownBy w' row->(row=x.blk)->(cv.ownBlock=row∨∃g,cv.ownBlock=some g/\w.heap.size<=g)->NT P n ss0 w0 K (a.put dst cv) w':=by
    intro cv w' olds row hol hor hown hg hrow hblk
    have hsh:∃g cap,cv=.slice (some ⟨g,0,none⟩) (xs.length+ys.length) cap/\xs.length+ys.length<=cap/\cap<=9223372036854775807:=by
     rcases hown.2 with ⟨_,h0⟩ | ⟨g,cap,cur,rfl,_,_,hnc,hcm,_⟩
     ·omega
     ·exact ⟨g,cap,rfl,hnc,hcm⟩
    obtain ⟨g,cap,rfl,hgc,hcm⟩:=hsh
    have hgb:row=some g∨w.heap.size<=g:=by
     rcases hblk with h | ⟨g',h,h2⟩
     ·exact .inl (by simpa [Value.ownBlock] using h.symm)
     ·simp only [Value.ownBlock,Option.some.injEq] at h;subst h;exact .inr h2
    have hrl:∀b,row=some b->s.σ.own b≠none:=by
     intro b hb;rw [hrow] at hb
     rcases hox.2 with ⟨rfl,_⟩ | rfl | ⟨b',cap',rfl,he⟩
     ·simp [AV.blk] at hb
     ·simp [AV.blk] at hb
     ·simp [AV.blk] at hb;subst hb;rw [he]
      simp
    obtain ⟨ss',q1,q2,q3,q4,q5,q6⟩:=hR.sim.Qn2 hg hrl hown hgb (by rw [hfl,QX,hol,hnl,Nat.add_mul]) hall (hcells olds hol hor)
    have hpost:GZ s.σ e sz x ss' (.ref g (xs.length+ys.length) cap) (xs++ys):=by
     refine ⟨q1,⟨fun x hx=>(QS.1 hx).elim (hox.1 x) (hry.1 x),.inr (.inr ⟨g,cap,by rw [hlen],q2⟩)⟩,fun b hb hbn=>?_,fun b hb hbv=>?_,?_,.inr (by simp [AV.blk])⟩
     ·by_cases hbg:b=g
      ·subst hbg
       rcases hgb with h | h
       ·exact absurd (h.symm.trans hrow) hb
       ·exfalso;exact hbn (hR.sim.Qf2 h).2
      ·exact q3 b hbg (by rw [hrow];exact hb)
     ·simp only [AV.blk,ne_eq,Option.some.injEq] at hbv
      by_cases hbr:row=some b
      ·exact q4 b hbv hbr
      ·rw [q3 b hbv (fun h=>hbr h.symm)];exact hb
     ·rcases hgb with h | h
      ·left;rw [← hrow,h];rfl
      ·right;intro b hb;simp only [AV.blk,Option.some.injEq] at hb;rw [← hb];exact hR.sim.Qf2 h
    obtain ⟨v2,ss2,hw,hk⟩:=hK _ ss' hpost;obtain ⟨k1,k2,_⟩:=hw.wk w' _ q5 (.ref (by omega) hgc hcm);exact Bh (s':=⟨s.T,ss2⟩) hR hd rfl k1 (q6.trans (Step.drop hw.dead)) k2 hk
   rcases hox.2 with ⟨hxe,hxs⟩ | hxe | ⟨b,cap,hxe,he⟩
   ·subst hxe;subst hxs;cases hx;obtain ⟨cv,w',hrun,hown,hg,_,hat⟩:=run_append_own_at (P:=P) w 0 t ty e it zc sz by_ hu hit hzc hsz hby hzs hs0 (.slice none 0 0) 0 [] (World.ownsRow_nil w 0 e sz) ya ys.length ycap news hn1 hn2 hn3 (by simp only [maxLen];simp at hsmall;omega) (by simpa using hbytes) (Q1 _);refine ⟨cv,w',hrun,?_⟩;exact fin cv w' [] none (by simp) (by simp) (by simpa using hown) hg rfl (hat' hat)
   ·subst hxe
    have grows:∀(bx:Addr) (olds:List Value),xA=some bx->olds.length=xs.length * sz->(∀j u,olds[j]?=some u->w.cell? (bx.add j)=some u)->(∀i c,xs.flatten[i]?=some c->Rv s.σ w c (olds.getD i undef))->xcap=xs.length ->
      ∃cv w',(Builtin.append_ #[t,t] ty #[.slice xA xs.length xcap,.slice (some ya) ys.length ycap]).run P w=.ok cv w'/\NT P n ss0 w0 K (a.put dst cv) w':=by
     intro bx olds hbx hol hoc hor hcap;subst hbx;subst hcap;obtain ⟨cv,w',hrun,hown,hg⟩:=run_append_arg_grows (P:=P) w t ty e it zc sz by_ hu hit hzc hsz hby hzs hs0 bx xs.length xs.length olds hol hoc ya ys.length ycap news hn1 hn2 (by omega) (by simp only [maxLen];omega) hbytes;refine ⟨cv,w',hrun,fin cv w' olds none hol hor ?_ hg rfl ?_⟩
     ·refine ⟨hown.1,hown.2.imp id ?_⟩;rintro ⟨g,c,cur,h1,_,h2⟩;exact ⟨g,c,cur,h1,Q1 _,h2⟩
     ·right
      rcases hown.2 with ⟨_,h0⟩ | ⟨g,c,cur,rfl,hgb,hh,_⟩
      ·omega
      ·exact ⟨g,rfl,hgb⟩
    cases hx with
    | @slE _ _ _ hc =>
     have hcap:=hc rfl;subst hcap
     cases xA with
     | some bx=>exact grows bx [] rfl (by simp) (by simp) (by simp) rfl
     | none =>
      obtain ⟨cv,w',hrun,hown,hg,_,hat⟩:=run_append_own_at (P:=P) w 0 t ty e it zc sz by_ hu hit hzc hsz hby hzs hs0 (.slice none 0 0) 0 [] (World.ownsRow_nil w 0 e sz) ya ys.length ycap news hn1 hn2 hn3 (by simp only [maxLen];simp at hsmall;omega) (by simpa using hbytes) (Q1 _);refine ⟨cv,w',hrun,?_⟩;exact fin cv w' [] none (by simp) (by simp) (by simpa using hown) hg rfl (hat' hat)
    | slC hne hn hle hcp hszx hc hdd hbl hcl hf hr =>
     rcases hxc with hxc | ⟨bx,hbx,olds,o1,o2,o3,o4⟩
     ·exact absurd hxc hne
     ·exact grows bx olds hbx o1 o2 o4 (hc rfl)
   ·subst hxe
    cases hx with
    | ref hle hcp hcm =>
     rcases hxc with hxc | ⟨bx,hbx,olds,o1,o2,o3,o4⟩
     ·subst hxc;obtain ⟨cur,g1,g2,g3,g4⟩:=hR.sim.own b _ he;have hown0:w.ownsRow 0 e sz (.slice (some ⟨b,0,none⟩) 0 xcap) 0 []:=⟨by simp,.inr ⟨b,xcap,cur,rfl,Q1 _,g1,Q1 _,hcm,g2,by simp⟩⟩;obtain ⟨cv,w',hrun,hown,hg,_,hat⟩:=run_append_own_at (P:=P) w 0 t ty e it zc sz by_ hu hit hzc hsz hby hzs hs0 _ 0 [] hown0 ya ys.length ycap news hn1 hn2 hn3 (by simp only [maxLen];simp at hsmall;omega) (by simpa using hbytes) (Q1 _);exact ⟨cv,w',hrun,fin cv w' [] (some b) (by simp) (by simp) (by simpa using hown) hg rfl (hat' hat)⟩
     ·injection hbx with hbx
      subst hbx;obtain ⟨cur,g1,g2,g3,g4⟩:=hR.sim.own b _ he
      have hcl:xs.length * sz<=cur.size:=by
       have g3':xs.flatten.length<=xcap * sz:=g3;have g2':cur.size=xcap * sz:=g2;rw [V1 xs hox.1] at g3';omega
      have holds:cur.toList.take (xs.length * sz)=olds:=by
       apply List.ext_getElem?;intro j
       by_cases hj:j < xs.length * sz
       ·have hjo:j < olds.length:=by omega
        have:=o2 j _ (Qj hjo);rw [LW,Nat.zero_add,cell_of_row w b j cur e (0,0) g1] at this;rw [QM,if_pos hj,Qj hjo];simpa using this
       ·rw [Q6 (by simp;omega),Q6 (by omega)]
      have hown0:w.ownsRow 0 e sz (.slice (some ⟨b,0,none⟩) xs.length xcap) xs.length olds:=⟨o1,.inr ⟨b,xcap,cur,rfl,Q1 _,g1,hcp,hcm,g2,holds⟩⟩;obtain ⟨cv,w',hrun,hown,hg,_,hat⟩:=run_append_own_at (P:=P) w 0 t ty e it zc sz by_ hu hit hzc hsz hby hzs hs0 _ xs.length olds hown0 ya ys.length ycap news hn1 hn2 hn3 (by simp only [maxLen];omega) hbytes (Q1 _);exact ⟨cv,w',hrun,fin cv w' olds (some b) o1 o4 hown hg rfl (hat' hat)⟩
end
end Go.Proofs.Shadow
namespace Go.Proofs.Shadow
open Go Go.RowKit
def Qrs (P:Program) (t:TypeId):Bool :=
 match se P t with
 | some (e,sz,_)=>(match tz P e with | some z=>z.length == sz | none=>false)
 | none=>false
def Um (P : Program) (n : Nat) (o : Oper) : Bool :=
  o.op.operands.toList.all Lt && (match o.dst with | some d => decide (d < n) | none => true) &&
  (match o.op with
   | .call { callee := .builtin .append, argTypes, .. } => (match argTypes.toList with | t :: _ => Qrs P t | [] => false)
   | _ => true)
def codeOk (P:Program) (n:Nat):Code->Bool
 | .region _ ops _=>ops.toList.all (Um P n)
 | .seq a b=>codeOk P n a&&codeOk P n b
 | .cond c a b=>Lt c&&codeOk P n a&&codeOk P n b
 | .block _ c | .loop c=>codeOk P n c
 | _=>true
theorem Dp {P:Program} {n:Nat} {o:Oper} (h:Um P n o=true):(∀x∈o.op.operands.toList,Lt x=true)/\(∀d,o.dst=some d->d < n) /\
  ∀args tys,o.op=.call { callee:=.builtin .append,args,argTypes:=tys } -> ∀t,tys.toList[0]?=some t->Qrs P t=true:=by
 unfold Um at h;rw [QG,QG] at h;obtain ⟨⟨h1,h2⟩,h3⟩:=h;refine ⟨List.all_eq_true.1 h1,fun d hd=>by rw [hd] at h2;simpa using h2,fun args tys ho t ht=>?_⟩;rw [ho] at h3;simp only at h3
 cases hl:tys.toList with
 | nil=>rw [hl] at ht;simp at ht
 | cons t' r=>rw [hl] at ht h3;simp at ht;subst ht;exact h3
section
variable {P:Program} {n:Nat} {ss0:Sto} {w0:World}
theorem Qen {o:Oper} {s:AS} {a:Act} {w:World} {K:AS->Prop} {Q:Exit->Act->World->Prop} (hok:Um P n o=true) (hR:Rel P n ss0 w0 s a w) (h:BX (vop P s.σ (aev s.T) o.op) s o.dst K):o.wp P a w (NT P n ss0 w0 K) Q:=by
 obtain ⟨h1,h2,_⟩:=Dp hok;unfold BX at h
 cases hv:vop P s.σ (aev s.T) o.op with
 | none=>simp [hv] at h
 | some v =>
  simp only [hv] at h;obtain ⟨cv,w',hrun,hb,hrv⟩:=Qlz (ρc:=a.eval) hR.sim hR.tb (fun x hx=>DT hR.tmps (h1 x hx)) hv;exact BI hrun (Bh (s':=⟨s.T,s.σ⟩) hR h2 rfl (hR.sim.below hb) (Step.DM hb) hrv h)
theorem Sim.cut {σ:Sto} {w:World} (h:Sim σ w) {b m:Nat} {e:Ent} (hb:σ.own b=some e):Sim (σ.Vo b ⟨e.ty,e.size,e.cells.take m⟩) w/\Step σ w (σ.Vo b ⟨e.ty,e.size,e.cells.take m⟩) w:=by
 have hdd:∀b',σ.dead b'->(σ.Vo b ⟨e.ty,e.size,e.cells.take m⟩).dead b':=fun b' hd=>⟨hd.1,by
  simp only [Sto.Vo];rw [if_neg (fun he=>by subst he;rw [hd.2] at hb;cases hb)]
  exact hd.2⟩
 have hst:Step σ w (σ.Vo b ⟨e.ty,e.size,e.cells.take m⟩) w:=⟨rfl,rfl,rfl,Qt _,fun b' _ hd=>⟨rfl,hdd b' hd⟩⟩
 have hblk:∀b' e',Pm σ w b' e'->Pm (σ.Vo b ⟨e.ty,e.size,e.cells.take m⟩) w b' e':=by
  rintro b' e' ⟨cs,h1,h2,h3,h4⟩;exact ⟨cs,h1,h2,h3,fun i c hc=>⟨(h4 i c hc).1,(h4 i c hc).2.step hst⟩⟩
 refine ⟨⟨fun b' e' he'=>?_,fun b' e' he'=>?_⟩,hst⟩
 ·obtain ⟨h1,h2,h3⟩:=h.var b' e' he';refine ⟨hblk _ _ h1,h2,?_⟩;simp only [Sto.Vo];rw [if_neg (fun he=>by subst he;rw [h3] at hb;cases hb)];exact h3
 ·simp only [Sto.Vo] at he';split at he'
  ·rename_i hbb;subst hbb
   injection he' with he'
   subst he';obtain ⟨cs,h1,h2,h3,h4⟩:=h.own b' e hb;refine hblk _ _ ⟨cs,h1,h2,by simp only [List.length_take];omega,fun i c hc=>h4 i c ?_⟩;rw [QM] at hc;split at hc
   ·exact hc
   ·cases hc
  ·exact hblk _ _ (h.own b' e' he')
theorem Qpf {o:Oper} {s:AS} {a:Act} {w:World} {K:AS->Prop} {Q:Exit->Act->World->Prop} (hok:Um P n o=true) (hR:Rel P n ss0 w0 s a w) (h:aSl (vop P s.σ (aev s.T) o.op) s o.dst K):o.wp P a w (NT P n ss0 w0 K) Q:=by
 obtain ⟨h1,h2,_⟩:=Dp hok;unfold aSl at h
 cases hv:vop P s.σ (aev s.T) o.op with
 | none=>simp [hv] at h
 | some v =>
  rw [hv] at h;obtain ⟨cv,w',hrun,hb,hrv⟩:=Qlz (ρc:=a.eval) hR.sim hR.tb (fun x hx=>DT hR.tmps (h1 x hx)) hv;split at h
  ·rename_i b hh cap heq
   injection heq with heq
   subst heq;obtain ⟨m,e,he,hK⟩:=h;have hc:=(hR.sim.below hb).cut (m:=m) he;have hst:Step s.σ w (s.σ.Vo b ⟨e.ty,e.size,e.cells.take m⟩) w':=(Step.DM hb).trans hc.2;exact BI hrun (Bh (s':=⟨s.T,s.σ.Vo b ⟨e.ty,e.size,e.cells.take m⟩⟩) hR h2 rfl hc.1 hst (hrv.step hc.2) hK)
  ·rename_i v' _ heq
   injection heq with heq
   subst heq;exact BI hrun (Bh (s':=⟨s.T,s.σ⟩) hR h2 rfl (hR.sim.below hb) (Step.DM hb) hrv h)
  ·rename_i heq;cases heq
theorem Qfu {o:Oper} {fo:Operand} {args:Array Operand} {tys:Array TypeId} {s:AS} {a:Act} {w:World} {K:AS->Prop} {Q:Exit->Act->World->Prop} (ho:o.op=.call { callee:=.value fo,args,argTypes:=tys }) (hok:Um P n o=true) (hR:Rel P n ss0 w0 s a w)
  (h:M0 P (aev s.T fo) (args.toList.map (aev s.T)) s o.dst K):o.wp P a w (NT P n ss0 w0 K) Q:=by
 obtain ⟨h1,h2,_⟩:=Dp hok;rw [ho] at h1;simp only [Op.operands,Call.operands] at h1;have hfo:=DT hR.tmps (h1 fo (by simp))
 cases hfv:aev s.T fo<;>rw [hfv] at h hfo<;>try (exact h.elim)
 rename_i f caps;generalize hcf:a.eval fo=cf at hfo
 cases hfo with
 | @fn _ _ vs hl hr =>
  obtain ⟨⟨fn,hf,hbody,hname⟩,hc⟩:=h
  have hcall:=hc w (args.toList.map a.eval++vs.toList) hR.sim hR.tb (by simp [hl]) (fun i av hav=>by
   rw [Q0] at hav;rw [Qy,Q0];simp only [List.length_map] at hav ⊢;split at hav
   ·rename_i hlt;rw [if_pos hlt];rw [QE] at hav ⊢;obtain ⟨x,hx,rfl⟩:=Qx.1 hav;rw [hx];exact DT hR.tmps (h1 x (by simp;exact .inr (Array.mem_toList_iff.1 (Qf hx))))
   ·rename_i hge;rw [if_neg hge];have:=hr _ av hav
    simpa using this)
  have hexec:(execOp a.eval o).run P w=.ok (.enter f (args.toList.map a.eval++vs.toList).toArray) w:=by
   have hb2:fn.body.isNone=false:=hbody;simp only [execOp,ho,resolve,hcf,Deferred.ofValue,invoke,callFunc,Sem.run_bind,Sem.run_pure,Result.andThen_ok,program,Sem.run,hf,hname,hb2,Qo,if_false]
   congr 2
   apply Array.ext'
   simp
  unfold Oper.wp;rw [hexec];simp only [Oper.upon];refine Calls.mono hcall (fun e w' he=>?_);obtain ⟨v,r,ss',rfl,hst,hsim,hrv,hK⟩:=he;exact Bh (s':=⟨s.T,ss'⟩) hR h2 rfl hsim hst hrv hK
theorem Qaq {o:Oper} {s:AS} {a:Act} {w:World} {K:AS->Prop} {Q:Exit->Act->World->Prop} (hok:Um P n o=true) (hR:Rel P n ss0 w0 s a w) (h:aop P o s K):o.wp P a w (NT P n ss0 w0 K) Q:=by
 obtain ⟨h1,h2,h3⟩:=Dp hok;unfold aop at h;split at h
 ·rename_i t heq
  cases hz:tz P t with
  | none=>rw [hz] at h;exact h.elim
  | some cs =>
   rw [hz] at h;obtain ⟨i,z,hi,hzc,hzr⟩:=OY (σ:=s.σ) (w:=w) hz;refine BI (w':=w.alloc (.cells z.cells t)) ?_ (Qap (Q:=Q) hR h2 h hzr.1 hzr.2.1 hzr.2.2);simp only [execOp,heq,Instr.alloc,zeroValue,typeInfo,Sem.run_bind,program,Sem.run,Result.andThen_ok,hi,hzc,Sem.run_pure,newVar,newRow,newObj];rfl
 ·rename_i t x heq;have hx:=DT hR.tmps (h1 x (by rw [heq];simp [Op.operands]))
  cases hc:Vx (aev s.T x) with
  | none=>rw [hc] at h;exact h.elim
  | some cs =>
   rw [hc] at h;have hrc:=NY hx hc;refine BI (w':=w.alloc (.cells (a.eval x).cells t)) ?_ (Qap (Q:=Q) hR h2 h hrc.1 hrc.2.1 hrc.2.2);simp only [execOp,heq,Instr.box,Sem.run_bind,newVar,newRow,newObj,Sem.run,Result.andThen_ok,Sem.run_pure];rfl
 ·rename_i t p x heq;have hp:=DT hR.tmps (h1 p (by rw [heq];simp [Op.operands]));have hx:=DT hR.tmps (h1 x (by rw [heq];simp [Op.operands]));obtain ⟨w',hrun,hpost⟩:=Qkk (Q:=Q) hR h2 hp hx h;unfold Oper.wp;simp only [execOp,heq,Sem.run_bind,hrun,Result.andThen_ok,Sem.run_pure,Oper.upon];exact hpost
 ·rename_i t l c heq;have hl:=DT hR.tmps (h1 l (by rw [heq];simp [Op.operands]));have hc:=DT hR.tmps (h1 c (by rw [heq];simp [Op.operands]));obtain ⟨cv,w',hrun,hpost⟩:=Qnp hR h2 hl hc h;refine BI (cv:=cv) (w':=w') ?_ hpost;simp only [execOp,heq,Sem.run_bind,hrun,Result.andThen_ok,Sem.run_pure]
 ·rename_i f args tys heq;exact Qfu heq hok hR h
 ·rename_i args tys heq;split at h
  ·rename_i x y t t2 ha ht;obtain ⟨rfl,h⟩:=h
   have hae:args=#[x,y]:=by rw [← QJ (xs:=args),ha]
   have hte:tys=#[t,t]:=by rw [← QJ (xs:=tys),ht]
   have hx:=DT hR.tmps (h1 x (by rw [heq,hae];simp [Op.operands,Call.operands]));have hy:=DT hR.tmps (h1 y (by rw [heq,hae];simp [Op.operands,Call.operands]));have hap:=h3 args tys heq t (by rw [ht];rfl)
   have hz:∃z,((se P t).bind fun k=>tz P k.1)=some z/\∀k,se P t=some k->z.length=k.2.1:=by
    unfold Qrs at hap
    cases hk:se P t with
    | none=>simp [hk] at hap
    | some k =>
     obtain ⟨e,sz,by_⟩:=k;simp only [hk] at hap
     cases hz:tz P e with
     | none=>simp [hz] at hap
     | some z =>
      simp only [hz] at hap;exact ⟨z,by simpa using hz,fun k hk'=>by injection hk' with hk';subst hk';simpa using hap⟩
   obtain ⟨cv,w',hrun,hpost⟩:=Qfk (ty:=o.type) hR h2 hx hy hz h;refine BI (cv:=cv) (w':=w') ?_ hpost;subst hae;subst hte;simp only [execOp,heq,resolve,invoke,builtin,Sem.run_bind,Sem.run_pure,Result.andThen_ok,List.map_toArray,List.map_cons,List.map_nil,hrun]
  ·exact h.elim
 ·rename_i t x lo hi mx heq;exact Qpf hok hR (by rw [heq];exact h)
 ·rename_i t g heq;unfold BX at h
  cases hv:U7 P s.σ t g with
  | none=>simp [hv] at h
  | some v =>
   simp only [hv] at h;obtain ⟨cv,hrun,hrv⟩:=Qkp hR.sim hR.tb hv
   have hrun':(execOp a.eval o).run P w=.ok (.value cv) w:=by
    simp only [execOp,heq,Sem.run_bind];have:a.eval (.global g)=.pointer (some ⟨g,0,none⟩):=rfl;rw [this,hrun];rfl
   exact BI hrun' (Bh (s':=⟨s.T,s.σ⟩) hR h2 rfl (hR.sim.below (Below.refl _ _)) (Step.DM (Below.refl _ _)) hrv h)
 ·exact Qen hok hR h
def gd (D:List (Option Tmp)) (j:Nat):Option Tmp:=(D[j]?).bind id
def gw (D:List (Option Tmp)) (T:Nat->AV):Option (Nat × Bool)->Option Bool
 | none=>some true
 | some (j,want) =>
  match gd D j with
  | some d=>(match T d with | .bool b=>some (b == want) | .tup []=>some false | _=>none)
  | none=>some false
def Bv (g:Option Bool) (A B:Prop):Prop:=∃t,g=some t/\(t=true->A)/\(t=false->B)
def Qoz (P:Program) (D:List (Option Tmp)) (o:Oper) (s:AS) (K:AS->Prop):Prop:=Bv (gw D s.T o.guard) (aop P o s K) (K (s.put o.dst Jm))
def Pk (P:Program) (D:List (Option Tmp)):List Oper->(AS->Prop)->AS->Prop
 | [],K,s=>K s
 | o :: os,K,s=>Qoz P D o s (Pk P D os K)
theorem Qqf {ops:Array Oper} {o:Oper} {T:Nat->AV} {σ:Sto} {w:World} {a:Act} {t:Bool} (hT:Qea n σ w T a) (h:gw (ops.toList.map (·.dst)) T o.guard=some t):Region.wanted o (yielded ops a.tmps)=t:=by
 unfold Region.wanted
 cases hg:o.guard with
 | none=>simp only [gw,hg,Option.some.injEq] at h;exact h
 | some jw =>
  obtain ⟨j,want⟩:=jw;simp only [gw,hg] at h
  have hy:∀r,yielded ops a.tmps j=r->(yielded ops a.tmps j == some want)=(r == some want):=fun r hr=>by rw [hr]
  have hgd:gd (ops.toList.map (·.dst)) j=(ops[j]?).bind (·.dst):=by
   unfold gd;rw [QE,Array.getElem?_toList];cases ops[j]?<;>rfl
  rw [hgd] at h;show (yielded ops a.tmps j == some want)=t
  cases hd:(ops[j]?).bind (·.dst) with
  | none =>
   simp only [hd,Option.some.injEq] at h;subst h;rw [hy none (by unfold yielded;rw [hd];rfl)];rfl
  | some d =>
   simp only [hd] at h;have hrv:=hT.2.2 d
   have hdd:a.tmps.getD d undef=(a.tmps[d]?).getD undef:=by rw [QK]
   rw [hdd] at hrv
   have hyd:yielded ops a.tmps j=(match a.tmps[d]? with | some (.bool b)=>some b | _=>none):=by
    unfold yielded;rw [hd];rfl
   cases hTd:T d<;>rw [hTd] at h hrv<;>try (cases h;done)
   case bool b =>
    simp only [Option.some.injEq] at h
    cases ht:a.tmps[d]? with
    | none=>rw [ht] at hrv;simp only [Option.getD_none,undef] at hrv;cases hrv
    | some v =>
     rw [ht] at hrv hyd;simp only [Q5] at hrv;cases hrv;rw [hyd];simpa using h
   case tup vs =>
    cases vs with
    | cons _ _=>cases h
    | nil =>
     simp only [Option.some.injEq] at h;subst h
     cases ht:a.tmps[d]? with
     | none=>rw [ht] at hyd;rw [hyd];rfl
     | some v =>
      rw [ht] at hrv hyd;simp only [Q5] at hrv;cases hrv;rw [hyd];rfl
theorem Qmk {ops:Array Oper} {Q:Exit->Act->World->Prop} {o:Oper} {s:AS} {a:Act} {w:World} {K:AS->Prop} {K':Act->World->Prop} (hok:Um P n o=true) (hR:Rel P n ss0 w0 s a w) (h:Qoz P (ops.toList.map (·.dst)) o s K) (hK:∀a w,NT P n ss0 w0 K a w->K' a w) :
  if Region.wanted o (yielded ops a.tmps) then o.wp P a w K' Q∨(o.asks P a w/\LetsOut Q) else K' (a.put o.dst undef) w:=by
 obtain ⟨t,hg,h1,h2⟩:=h;rw [Qqf hR.tmps hg]
 cases t with
 | true=>simp only [if_true];exact .inl (Oper.wp_mono hK (Qaq hok hR (h1 rfl)))
 | false=>simp only [Qo,if_false];exact hK _ _ (Bh (s':=⟨s.T,s.σ⟩) hR (Dp hok).2.1 rfl hR.sim (Step.refl _ _) LJ (h2 rfl))
theorem Qfj {ops:Array Oper} {Q:Exit->Act->World->Prop} {K:AS->Prop} (hQ:∀a w,NT P n ss0 w0 K a w->Q .normal a w):∀(l:List Oper) (s:AS) (a:Act) (w:World),(∀o∈l,Um P n o=true)->Rel P n ss0 w0 s a w->Pk P (ops.toList.map (·.dst)) l K s->wpList P ops Q l a w
 | [],s,a,w,_,hR,h=>hQ a w ⟨s,h,hR⟩
 | o :: os,s,a,w,hok,hR,h=>by
  unfold wpList
  exact Qmk (hok o (by simp)) hR h (fun a' w' hp=>by
   obtain ⟨s',hs',hR'⟩:=hp
   exact Qfj hQ os s' a' w' (fun o ho=>hok o (by simp [ho])) hR' hs')
inductive AX where
 | nrm | ex (id:Nat) | ret
def AX.exit:AX->Exit
 | .nrm=>.normal
 | .ex id=>.exit id
 | .ret=>.ret
def thn (k:AS->Prop) (Q:AX->AS->Prop):AX->AS->Prop
 | .nrm,s=>k s
 | x,s=>Q x s
def Tx (id:Nat) (Q:AX->AS->Prop):AX->AS->Prop
 | .ex id',s=>if id'=id then Q .nrm s else Q (.ex id') s
 | x,s=>Q x s
def Qid (c:AV) (A B:Prop):Prop:=(∃t,c=.bool t/\(t=true->A)/\(t=false->B))∨(c=.ub/\A/\B)
def RJ (P:Program) (ops:Array Oper) (K:AS->Prop) (s:AS):Prop :=
 ∀(n:Nat) (ss0:Sto) (w0:World) (a:Act) (w:World) (Q:Exit->Act->World->Prop),(∀o∈ops.toList,Um P n o=true)->Rel P n ss0 w0 s a w->(∀a w,NT P n ss0 w0 K a w->Q .normal a w) ->
  wpAny P .any ops Q ops.size (Q3 ops.size false) a w
def Wkn (P:Program) (s s':AS):Prop:=∀(n:Nat) (ss0:Sto) (w0:World) (a:Act) (w:World),Rel P n ss0 w0 s a w->Rel P n ss0 w0 s' a w
def wkQ (P:Program) (Q:AX->AS->Prop) (x:AX) (s:AS):Prop:=∃s',Wkn P s s'/\Q x s'
theorem wq {P:Program} {Q:AX->AS->Prop} {x:AX} {s:AS} (h:Q x s):wkQ P Q x s:=⟨s,fun _ _ _ _ _ h=>h,h⟩
def Qem (P:Program) (body:(AX->AS->Prop)->AS->Prop) (Q:AX->AS->Prop) (s:AS):Prop :=
 ∀X:AS->Prop,(∀s,body (thn X (wkQ P Q)) s->X s)->X s
def GH (P:Program):Code->(AX->AS->Prop)->AS->Prop
 | .skip,Q,s=>Q .nrm s
 | .region _ ops false,Q,s=>Pk P (ops.toList.map (·.dst)) ops.toList (Q .nrm) s
 | .region _ ops true,Q,s=>RJ P ops (Q .nrm) s
 | .seq x y,Q,s=>GH P x (thn (GH P y Q) Q) s
 | .cond c x y,Q,s=>Qid (aev s.T c) (GH P x Q s) (GH P y Q s)
 | .block id c,Q,s=>GH P c (Tx id Q) s
 | .loop c,Q,s=>Qem P (GH P c) Q s
 | .exit id,Q,s=>Q (.ex id) s
 | .ret,Q,s=>Q .ret s
 | _,_,_=>False
def QC (P:Program) (n:Nat) (ss0:Sto) (w0:World) (Q:AX->AS->Prop) (e:Exit) (a:Act) (w:World):Prop:=∃x:AX,e=x.exit/\NT P n ss0 w0 (Q x) a w
theorem Qik (hm:P.follows .mixedOrders=true):∀(c:Code) (Q:AX->AS->Prop) (s:AS) (a:Act) (w:World),codeOk P n c=true->Rel P n ss0 w0 s a w->GH P c Q s->c.wp P (QC P n ss0 w0 Q) a w:=by
 intro c
 induction c with
 | skip=>exact fun Q s a w _ hR h=>wp_skip ⟨.nrm,rfl,s,h,hR⟩
 | region id ops draw =>
  intro Q s a w hok hR h;have hok':∀o∈ops.toList,Um P n o=true:=List.all_eq_true.1 hok
  cases draw with
  | false=>exact wp_region_list (Qfj (fun a w hp=>⟨.nrm,rfl,hp⟩) ops.toList s a w hok' hR h)
  | true =>
   have hR':Rel P n ss0 w0 s a w.drew:=⟨hR.sim.drew,hR.tmps.step (Step.drew _ _),hR.step.trans (Step.drew _ _),hR.tb.step (Step.drew _ _)⟩;exact wp_region_any hm (h n ss0 w0 a w.drew _ hok' hR' (fun a w hp=>⟨.nrm,rfl,hp⟩))
 | seq x y ihx ihy =>
  intro Q s a w hok hR h;rw [codeOk,QG] at hok;refine wp_seq (wp_mono (ihx _ s a w hok.1 hR h) ?_);rintro e a' w' ⟨x',rfl,s',hs',hR'⟩
  cases x' with
  | nrm=>exact ihy Q s' a' w' hok.2 hR' hs'
  | ex id=>exact ⟨.ex id,rfl,s',hs',hR'⟩
  | ret=>exact ⟨.ret,rfl,s',hs',hR'⟩
 | cond c x y ihx ihy =>
  intro Q s a w hok hR h;rw [codeOk,QG,QG] at hok;have hrv:=DT hR.tmps hok.1.1
  rcases h with ⟨t,hc,h1,h2⟩ | ⟨hc,h1,h2⟩
  ·rw [hc] at hrv;generalize hcv:a.eval c=cv at hrv;cases hrv;exact wp_cond_split hcv (fun ht=>ihx Q s a w hok.1.2 hR (h1 ht)) (fun ht=>ihy Q s a w hok.2 hR (h2 ht))
  ·rw [hc] at hrv;generalize hcv:a.eval c=cv at hrv;cases hrv;exact wp_cond_split hcv (fun ht=>ihx Q s a w hok.1.2 hR h1) (fun ht=>ihy Q s a w hok.2 hR h2)
 | block id c ih =>
  intro Q s a w hok hR h;refine wp_block (wp_mono (ih _ s a w hok hR h) ?_);rintro e a' w' ⟨x',rfl,s',hs',hR'⟩
  cases x' with
  | nrm=>exact ⟨.nrm,rfl,s',hs',hR'⟩
  | ex id' =>
   simp only [AX.exit,Exit.inBlock];simp only [Tx] at hs';split
   ·rename_i he;rw [if_pos he] at hs';exact ⟨.nrm,rfl,s',hs',hR'⟩
   ·rename_i he;rw [if_neg he] at hs';exact ⟨.ex id',rfl,s',hs',hR'⟩
  | ret=>exact ⟨.ret,rfl,s',hs',hR'⟩
 | loop c ih =>
  intro Q s a w hok hR h
  have key:∀a w,Rel P n ss0 w0 s a w->∀(b:Frame) (k:List Item) (cs:List Frame),∃e a' w',QC P n ss0 w0 Q e a' w'/\Arrives P (lone (b.at a (.code c :: .inLoop c :: k)) cs w) b k cs e a' w':=by
   refine h (fun s=>∀a w,Rel P n ss0 w0 s a w->∀(b:Frame) (k:List Item) (cs:List Frame),∃e a' w',QC P n ss0 w0 Q e a' w'/\Arrives P (lone (b.at a (.code c :: .inLoop c :: k)) cs w) b k cs e a' w') ?_;intro s hs a w hR b k cs;obtain ⟨e,a₁,w₁,⟨x,rfl,s',hx,hR'⟩,harr⟩:=ih _ s a w hok hR hs b (.inLoop c :: k) cs
   cases x with
   | nrm =>
    obtain ⟨e₂,a₂,w₂,hq₂,harr₂⟩:=hx a₁ w₁ hR' b k cs;exact ⟨e₂,a₂,w₂,hq₂,.of_steps (Steps.trans harr (.one step_inLoop)) harr₂⟩
   | ex id =>
    obtain ⟨s2,hk,hx⟩:=hx;exact ⟨_,a₁,w₁,⟨.ex id,rfl,s2,hx,hk _ _ _ _ _ hR'⟩,.pass (x:=.inLoop c) rfl (fun _ _=>.inl (by simp [AX.exit])) harr⟩
   | ret =>
    obtain ⟨s2,hk,hx⟩:=hx;exact ⟨_,a₁,w₁,⟨.ret,rfl,s2,hx,hk _ _ _ _ _ hR'⟩,.pass (x:=.inLoop c) rfl (fun _ _=>.inl (by simp [AX.exit])) harr⟩
  intro b k cs;obtain ⟨e,a',w',hq,harr⟩:=key a w hR b k cs;exact ⟨e,a',w',hq,.of_steps (.one step_loop) harr⟩
 | exit id=>exact fun Q s a w _ hR h=>wp_exit ⟨.ex id,rfl,s,h,hR⟩
 | ret=>exact fun Q s a w _ hR h=>wp_ret ⟨.ret,rfl,s,h,hR⟩
 | rangeFunc=>exact fun Q s a w _ hR h=>h.elim
 | scope=>exact fun Q s a w _ hR h=>h.elim
 | label=>exact fun Q s a w _ hR h=>h.elim
 | goto=>exact fun Q s a w _ hR h=>h.elim
 | refuse=>exact fun Q s a w _ hR h=>h.elim
end
end Go.Proofs.Shadow
namespace Go.Proofs.Shadow
open Go Go.RowKit
def Qfm (P:Program) (s:AS):ResultVar->Option AV
 | .tmp t=>some (s.T t)
 | .cell p ty=>CQ s.σ (tk P ty) (s.T p)
def M1 (P:Program) (s:AS):List ResultVar->Option (List AV)
 | []=>some []
 | r :: rs=>(Qfm P s r).bind fun v=>(M1 P s rs).map (v :: ·)
def packed:List AV->AV
 | [v]=>v
 | vs=>.tup vs
def ID (P:Program) (rs:List ResultVar) (Q:AV->Sto->Prop) (s:AS):Prop:=∃vs,M1 P s rs=some vs/\∃r' ss',Wk s.σ (packed vs) ss' r'/\Q r' ss'
def Qpe (P:Program) (rs:List ResultVar) (Q:AV->Sto->Prop):AX->AS->Prop
 | .ex _,_=>False
 | _,s=>ID P rs Q s
def T0 (args:List AV):Nat->AV:=fun i=>args.getD i Jm
def Qst (tmps:Array Value):ResultVar->Sem Value
 | .tmp t=>pure (tmps.getD t undef)
 | .cell p t=>do loadVar t (← asAddr (tmps.getD p undef))
section
variable {P:Program} {n:Nat} {ss0:Sto} {w0:World}
theorem Qlv {s:AS} {a:Act} {w:World} (hR:Rel P n ss0 w0 s a w):∀(rs:List ResultVar) (vs:List AV),M1 P s rs=some vs ->
  ∃cvs:List Value,(rs.mapM (Qst a.tmps)).run P w=.ok cvs w/\cvs.length=vs.length/\∀i v,vs[i]?=some v->Rv s.σ w v (cvs.getD i undef)
 | [],vs,h=>by simp only [M1,Option.some.injEq] at h;subst h;exact ⟨[],by simp,rfl,by simp⟩
 | r :: rs,vs,h=>by
  simp only [M1] at h
  cases hv:Qfm P s r with
  | none=>simp [hv] at h
  | some v =>
   simp only [hv,Qh] at h;obtain ⟨vs',hvs',rfl⟩:=Qx.1 h;obtain ⟨cvs,h1,h2,h3⟩:=Qlv hR rs vs' hvs'
   have one:∃cv,(Qst a.tmps r).run P w=.ok cv w/\Rv s.σ w v cv:=by
    cases r with
    | tmp t =>
     simp only [Qfm,Option.some.injEq] at hv;subst hv;exact ⟨_,rfl,hR.tmps.2.2 t⟩
    | cell p ty =>
     simp only [Qfm] at hv;have hp:=hR.tmps.2.2 p;obtain ⟨cv,hrun,hrv⟩:=UR hR.sim hp hv;refine ⟨cv,?_,hrv⟩;unfold CQ at hv
     cases hk:tk P ty with
     | none=>simp [hk] at hv
     | some k =>
      simp only [hk] at hv
      cases hm:mem s.σ (s.T p) with
      | none=>simp [hm] at hv
      | some cs =>
       obtain ⟨b,o,hcp,_⟩:=Qls hR.sim hp hm;rw [hcp] at hrun;show (do loadVar ty (← asAddr (a.tmps.getD p undef)):Sem Value).run P w=.ok cv w;rw [hcp];simpa [Instr.loadAt,Instr.sureAddr,asAddr] using hrun
   obtain ⟨cv,g1,g2⟩:=one;refine ⟨cv :: cvs,?_,by simp [h2],fun i v' hi=>?_⟩
   ·rw [List.mapM_cons,Sem.run_bind,g1,Result.andThen_ok,Sem.run_bind,h1];rfl
   ·cases i with
    | zero=>simp at hi;subst hi;exact g2
    | succ i=>simp at hi;simpa using h3 i v' hi
theorem Qdl {fn:Func} {s:AS} {a:Act} {w:World} (hR:Rel P n ss0 w0 s a w) {vs:List AV} (h:M1 P s fn.results.toList=some vs) :
  ∃cv,(results fn a.tmps).run P w=.ok cv w/\Rv s.σ w (packed vs) cv:=by
 obtain ⟨cvs,h1,h2,h3⟩:=Qlv hR fn.results.toList vs h
 have hrun:(results fn a.tmps).run P w=.ok (if hh:cvs.toArray.size=1 then cvs.toArray[0] else .tuple cvs.toArray) w:=by
  have he:results fn a.tmps=(do let vs ← fn.results.mapM (Qst a.tmps);pure (if h:vs.size=1 then vs[0] else .tuple vs)):=rfl;rw [he]
  have:fn.results=fn.results.toList.toArray:=by simp
  rw [this,List.mapM_toArray];simp only [Sem.run_bind,Sem.run_map,Sem.run_pure];rw [h1];rfl
 refine ⟨_,hrun,?_⟩
 cases vs with
 | nil =>
  have:cvs=[]:=by cases cvs with | nil=>rfl | cons _ _=>simp at h2
  subst this;exact .tup rfl (by simp)
 | cons v vs =>
  cases vs with
  | nil =>
   cases cvs with
   | nil=>simp at h2
   | cons c cvs =>
    cases cvs with
    | cons _ _=>simp at h2
    | nil=>exact h3 0 v rfl
  | cons v2 vs =>
   have hne:¬cvs.toArray.size=1:=by simp [h2]
   rw [dif_neg hne];refine .tup (by simp [h2]) (fun i c hic=>?_);have:=h3 i c hic;simpa using this
theorem Qlb {f : FuncId} {fn : Func} {c : Code} {args : List AV} {σ : Sto} {Q : AV -> Sto -> Prop} (hm : P.follows .mixedOrders = true) (hf : P.funcs[f]? = some fn) (hb : fn.body = some c) (hname : (fn.name == "runtime.NumGoroutine") = false) {rs : List ResultVar} (hrs : fn.results.toList = rs)
  (hok:(codeOk P fn.ntmps c&&decide (args.length<=fn.ntmps))=true) (h:GH P c (Qpe P rs Q) ⟨T0 args,σ⟩):Ctr P f args σ Q:=by
 subst hrs;rw [QG,decide_eq_true_iff] at hok;refine ⟨⟨fn,hf,by rw [hb];rfl,hname⟩,fun w cargs hs htb hl hr=>?_⟩;refine calls_of_wp hf hb ?_
 have hR:Rel P fn.ntmps σ w ⟨T0 args,σ⟩ { tmps:=cargs.toArray++Q3 (fn.ntmps - cargs.toArray.size) undef,defers:=[] } w:=by
  refine ⟨hs,⟨by simp;omega,rfl,fun i=>?_⟩,Step.refl _ _,htb⟩;simp only [T0]
  by_cases hi:i < args.length
  ·have ha:=Qj hi;have:=hr i _ ha
   have e1:args.getD i Jm=args[i]:=by simp [hi]
   have e2:(cargs.toArray++Q3 (fn.ntmps - cargs.toArray.size) undef).getD i undef=cargs.getD i undef:=by
    have:i < cargs.length:=by omega
    rw [QK,Array.getElem?_append_left (by simpa using this)]
    simp
   rw [e1,e2];exact this
  ·have e1:args.getD i Jm=Jm:=by simp [Nat.le_of_not_lt hi]
   have e2:(cargs.toArray++Q3 (fn.ntmps - cargs.toArray.size) undef).getD i undef=undef:=by
    rw [QK,Array.getElem?_append_right (by simp;omega),Array.getElem?_replicate];split<;>rfl
   rw [e1,e2];exact LJ
 refine wp_mono (Qik hm c _ _ _ w hok.1 hR h) ?_;rintro e a' w' ⟨x,rfl,s',hs',hR'⟩
 have fin:ID P fn.results.toList Q s'->a'.defers=[]/\∃v,(results fn a'.tmps).run P w'=.ok v w'/\∃v' r ss',Ending.returned v=.returned v'/\Step σ w ss' w'/\Sim ss' w'/\Rv ss' w' r v'/\Q r ss':=by
  rintro ⟨vs,hvs,r',ss',hwk,hQ⟩;obtain ⟨cv,hrun,hrv⟩:=Qdl hR' hvs;obtain ⟨g1,g2,g3⟩:=hwk w' cv hR'.sim hrv;exact ⟨hR'.tmps.2.1,cv,hrun,cv,r',ss',rfl,hR'.step.trans (Step.drop g3),g1,g2,hQ⟩
 cases x with
 | nrm=>exact fin hs'
 | ret=>exact fin hs'
 | ex id=>exact hs'.elim
theorem Ctr.mono {f:FuncId} {args:List AV} {σ:Sto} {Q Q':AV->Sto->Prop} (h:Ctr P f args σ Q) (hq:∀r ss',Q r ss'->Q' r ss'):Ctr P f args σ Q' :=
 ⟨h.1,fun w cargs hs htb hl hr=>Calls.mono (h.2 w cargs hs htb hl hr) (fun e w' he=>by
  obtain ⟨v,r,ss',h1,h2,h3,h4,h5⟩:=he
  exact ⟨v,r,ss',h1,h2,h3,h4,hq r ss' h5⟩)⟩
end
def WkV (r r':AV):Prop:=∀σ w v,Rv σ w r v->Rv σ w r' v
theorem WkV.refl (r:AV):WkV r r:=fun _ _ _ h=>h
theorem WkV.Yd:WkV .Yd (.sl false []):=fun _ _ _ h=>by cases h;exact .slE (fun h=>by cases h)
theorem WkV.slT (xs:List (List AV)):WkV (.sl true xs) (.sl false xs):=fun _ _ _ h=>by
 cases h with
 | slE hc=>exact .slE (fun h=>by cases h)
 | slC hx hn hle hcp hsz hc hd hb hi hf hr=>exact .slC hx hn hle hcp hsz (fun h=>by cases h) hd hb hi hf hr
inductive Dz:List AV->List AV->Prop
 | nil:Dz [] []
 | cons {a b:AV} {as bs:List AV} (h:WkV a b) (hc:a.Y8=true->b.Y8=true) (t:Dz as bs):Dz (a :: as) (b :: bs)
theorem Dz.refl:∀as,Dz as as
 | []=>.nil
 | a :: as=>.cons (.refl a) id (Dz.refl as)
theorem Dz.length {as bs:List AV} (h:Dz as bs):as.length=bs.length:=by induction h with | nil=>rfl | cons _ _ _ ih=>simp [ih]
theorem Dz.get {as bs:List AV} (h:Dz as bs):∀(i:Nat) (b:AV),bs[i]?=some b->∃a,as[i]?=some a/\WkV a b/\(a.Y8=true->b.Y8=true):=by
 induction h with
 | nil=>intro i b hb;simp at hb
 | cons h hc _ ih =>
  intro i b hb
  cases i with
  | zero=>simp at hb;subst hb;exact ⟨_,rfl,h,hc⟩
  | succ i=>simp at hb;simpa using ih i b hb
theorem WkV.agg {as bs:List AV} (h:Dz as bs):WkV (.agg as) (.agg bs):=fun σ w v hv=>by
 cases hv with
 | agg hl hi hr =>
  refine .agg (by rw [← h.length];exact hl) (fun c hc=>?_) (fun i b hb=>?_)
  ·obtain ⟨i,hib⟩:=Qq.1 hc;obtain ⟨a,ha,_,hcc⟩:=h.get i c hib;exact hcc (hi a (Qf ha))
  ·obtain ⟨a,ha,hw,_⟩:=h.get i b hb;exact hw σ w _ (hr i a ha)
theorem Ctr.args {P:Program} {f:FuncId} {as bs:List AV} {σ:Sto} {Q:AV->Sto->Prop} (h:Dz as bs) (hc:Ctr P f bs σ Q):Ctr P f as σ Q :=
 ⟨hc.1,fun w cargs hs htb hl hr=>hc.2 w cargs hs htb (hl.trans h.length) (fun i b hb=>by
  obtain ⟨a,ha,hw,_⟩:=h.get i b hb
  exact hw σ w _ (hr i a ha))⟩
structure Sub (σ ss':Sto):Prop where
 var:∀b e,σ.var b=some e->ss'.var b=some e
 own:∀b e,σ.own b=some e->ss'.own b=some e
theorem Sub.refl (σ:Sto):Sub σ σ:=⟨fun _ _ h=>h,fun _ _ h=>h⟩
theorem Sub.trans {a b c:Sto} (h:Sub a b) (k:Sub b c):Sub a c:=⟨fun x e hx=>k.var x e (h.var x e hx),fun x e hx=>k.own x e (h.own x e hx)⟩
theorem Sub.dead {σ ss':Sto} (h:Sub σ ss') {b:Nat} (hd:ss'.dead b):σ.dead b:=⟨Fz h.var hd.1,Fz h.own hd.2⟩
theorem Sub.YG {σ ss':Sto} (h:Sub σ ss') {b:Nat} (hb:σ.var b=none) (e:Ent):Sub σ (ss'.YG b e) :=
 ⟨fun x e' hx=>by
  simp only [Sto.YG];rw [if_neg (fun he=>by subst he;rw [hb] at hx;cases hx)]
  exact h.var x e' hx,h.own⟩
theorem Sub.Vo {σ ss':Sto} (h:Sub σ ss') {b:Nat} (hb:σ.own b=none) (e:Ent):Sub σ (ss'.Vo b e) :=
 ⟨h.var,fun x e' hx=>by
  simp only [Sto.Vo];rw [if_neg (fun he=>by subst he;rw [hb] at hx;cases hx)]
  exact h.own x e' hx⟩
theorem Wk.refl (σ:Sto) (r:AV):Wk σ r σ r:=fun _ _ hs hr=>⟨hs,hr,fun _ h=>h⟩
theorem Wk.trans {ss1 ss2 ss3:Sto} {a b c:AV} (h:Wk ss1 a ss2 b) (k:Wk ss2 b ss3 c):Wk ss1 a ss3 c:=fun w v hs hr=>by
 obtain ⟨h1,h2,h3⟩:=h w v hs hr;obtain ⟨k1,k2,k3⟩:=k w v h1 h2;exact ⟨k1,k2,fun b hb=>k3 b (h3 b hb)⟩
theorem Wk.sub {σ ss':Sto} (h:Sub ss' σ) (r:AV):Wk σ r ss' r:=fun w v hs hr =>
 ⟨hs.drop h.var h.own,hr.step (Step.drop (fun b hb=>h.dead hb)),fun b hb=>h.dead hb⟩
theorem Wk.val {σ:Sto} {r r':AV} (h:WkV r r'):Wk σ r σ r':=fun w v hs hr=>⟨hs,h σ w v hr,fun _ h=>h⟩
inductive WkL (σ ss':Sto):List AV->List AV->Prop
 | nil:WkL σ ss' [] []
 | cons {a b:AV} {as bs:List AV} (h:Wk σ a ss' b) (hc:a.Y8=true->b.Y8=true) (t:WkL σ ss' as bs):WkL σ ss' (a :: as) (b :: bs)
theorem WkL.length {σ ss':Sto} {as bs:List AV} (h:WkL σ ss' as bs):as.length=bs.length:=by induction h with | nil=>rfl | cons _ _ _ ih=>simp [ih]
theorem WkL.get {σ ss':Sto} {as bs:List AV} (h:WkL σ ss' as bs):∀(i:Nat) (b:AV),bs[i]?=some b->∃a,as[i]?=some a/\Wk σ a ss' b/\(a.Y8=true->b.Y8=true):=by
 induction h with
 | nil=>intro i b hb;simp at hb
 | cons h hc _ ih =>
  intro i b hb
  cases i with
  | zero=>simp at hb;subst hb;exact ⟨_,rfl,h,hc⟩
  | succ i=>simp at hb;simpa using ih i b hb
theorem Wk.agg {σ ss':Sto} {as bs:List AV} (hs:Sub ss' σ) (h:WkL σ ss' as bs):Wk σ (.agg as) ss' (.agg bs):=fun w v hsim hv=>by
 refine ⟨hsim.drop hs.var hs.own,?_,fun b hb=>hs.dead hb⟩
 cases hv with
 | agg hl hi hr =>
  refine .agg (by rw [← h.length];exact hl) (fun c hc=>?_) (fun i b hb=>?_)
  ·obtain ⟨i,hib⟩:=Qq.1 hc;obtain ⟨a,ha,_,hcc⟩:=h.get i c hib;exact hcc (hi a (Qf ha))
  ·obtain ⟨a,ha,hw,_⟩:=h.get i b hb;exact (hw w _ hsim (hr i a ha)).2.1
theorem Wk.tup {σ ss':Sto} {as bs:List AV} (hs:Sub ss' σ) (h:WkL σ ss' as bs):Wk σ (.tup as) ss' (.tup bs):=fun w v hsim hv=>by
 refine ⟨hsim.drop hs.var hs.own,?_,fun b hb=>hs.dead hb⟩
 cases hv with
 | tup hl hr =>
  refine .tup (by rw [← h.length];exact hl) (fun i b hb=>?_);obtain ⟨a,ha,hw,_⟩:=h.get i b hb;exact (hw w _ hsim (hr i a ha)).2.1
theorem Sub.IG (σ:Sto) (b:Nat):Sub (σ.IG b) σ:=⟨fun _ _ h=>h,fun x e h=>by simp only [Sto.IG] at h;split at h;cases h;exact h⟩
theorem P5.freeze {σ:Sto} {e:TypeId} {sz:Nat} {v:AV} {xs:List (List AV)} (h:P5 σ e sz v xs):∃ss',Sub ss' σ/\ss'.var=σ.var/\(∀b,some b≠v.blk->ss'.own b=σ.own b)/\Wk σ v ss' (.sl false xs):=by
 rcases h.2 with ⟨rfl,rfl⟩ | rfl | ⟨b,cap,rfl,he⟩
 ·exact ⟨σ,Sub.refl _,rfl,fun _ _=>rfl,Wk.val .Yd⟩
 ·exact ⟨σ,Sub.refl _,rfl,fun _ _=>rfl,Wk.val (.slT xs)⟩
 ·refine ⟨σ.IG b,Sub.IG σ b,rfl,fun b' hb'=>?_,fun w v hs hv=>⟨hs.IG b,Rv.freeze hs he rfl rfl h.1 hv,fun b hb=>(Sub.IG σ _).dead hb⟩⟩;simp only [AV.blk,ne_eq,Option.some.injEq] at hb';simp [Sto.IG,hb']
def EZ (ss0 σ:Sto) (e:TypeId) (sz:Nat) (v:AV) (xs:List (List AV)):Prop:=P5 σ e sz v xs/\∀b,v.blk=some b->ss0.own b=none
theorem EZ.nil (ss0 σ:Sto) (e:TypeId) (sz:Nat):EZ ss0 σ e sz .Yd []:=⟨⟨by simp,.inl ⟨rfl,rfl⟩⟩,fun b h=>by cases h⟩
theorem EZ.lit (ss0 σ:Sto) (e:TypeId) (sz:Nat) (xs:List (List AV)) (h:∀x∈xs,x.length=sz):EZ ss0 σ e sz (.sl true xs) xs:=⟨⟨h,.inr (.inl rfl)⟩,fun b h=>by cases h⟩
theorem EZ.cell {ss0 σ:Sto} {e:TypeId} {sz:Nat} {v:AV} {xs:List (List AV)} (h:EZ ss0 σ e sz v xs):v.Y8=true:=by
 rcases h.1.2 with ⟨rfl,_⟩ | rfl | ⟨b,cap,rfl,_⟩<;>rfl
theorem EZ.len {ss0 σ:Sto} {e:TypeId} {sz:Nat} {v:AV} {xs:List (List AV)} (h:EZ ss0 σ e sz v xs):Qpi v=some (xs.length:Int):=by
 rcases h.1.2 with ⟨rfl,rfl⟩ | rfl | ⟨b,cap,rfl,_⟩<;>rfl
theorem EZ.same {ss0 σ ss':Sto} {e:TypeId} {sz:Nat} {v:AV} {xs:List (List AV)} (h:EZ ss0 σ e sz v xs) (ho:ss'.own=σ.own):EZ ss0 ss' e sz v xs :=
 ⟨⟨h.1.1,h.1.2.imp id (Or.imp id (fun ⟨b,cap,h1,h2⟩=>⟨b,cap,h1,by rw [ho];exact h2⟩))⟩,h.2⟩
theorem EZ.freeze {ss0 σ:Sto} {e:TypeId} {sz:Nat} {v:AV} {xs:List (List AV)} (h:EZ ss0 σ e sz v xs) (hs:Sub ss0 σ):∃ss',Sub ss0 ss'/\Sub ss' σ/\ss'.var=σ.var/\(∀b,some b≠v.blk->ss'.own b=σ.own b)/\Wk σ v ss' (.sl false xs):=by
 obtain ⟨ss',h1,h2,h3,h4⟩:=h.1.freeze;refine ⟨ss',⟨fun b e hb=>by rw [h2];exact hs.var b e hb,fun b e hb=>?_⟩,h1,h2,h3,h4⟩;rw [h3 b (fun he=>by rw [h.2 b he.symm] at hb;cases hb)];exact hs.own b e hb
theorem EZ.app {ss0 σ ss':Sto} {e:TypeId} {sz:Nat} {v v':AV} {xs zs:List (List AV)} (h:EZ ss0 σ e sz v xs) (hs:Sub ss0 σ) (ha:GZ σ e sz v ss' v' zs):EZ ss0 ss' e sz v' zs/\Sub ss0 ss':=by
 refine ⟨⟨ha.own,fun b hb=>?_⟩,⟨fun b e hb=>by rw [ha.var];exact hs.var b e hb,fun b e hb=>?_⟩⟩
 ·rcases ha.blk with h1 | h1
  ·exact h.2 b (h1▸hb)
  ·exact (hs.dead (h1 b hb)).2
 ·rw [ha.same b (fun he=>by rw [h.2 b he.symm] at hb;cases hb) (by rw [hs.own b e hb];simp)];exact hs.own b e hb
theorem EZ.other {ss0 σ ss':Sto} {e e2:TypeId} {sz sz2:Nat} {v v' v2:AV} {zs xs2:List (List AV)} (h:EZ ss0 σ e2 sz2 v2 xs2) (ha:GZ σ e sz v ss' v' zs) (hne:v2.blk=none∨v2.blk≠v.blk):EZ ss0 ss' e2 sz2 v2 xs2/\(v2.blk=none∨v2.blk≠v'.blk):=by
 have hal:∀b,v2.blk=some b->σ.own b≠none:=by
  intro b hb
  rcases h.1.2 with ⟨rfl,_⟩ | rfl | ⟨b',cap,rfl,he⟩
  ·cases hb
  ·cases hb
  ·simp only [AV.blk,Option.some.injEq] at hb;subst hb;rw [he];simp
 refine ⟨⟨⟨h.1.1,?_⟩,h.2⟩,?_⟩
 ·rcases h.1.2 with h1 | h1 | ⟨b,cap,h1,h2⟩
  ·exact .inl h1
  ·exact .inr (.inl h1)
  ·refine .inr (.inr ⟨b,cap,h1,?_⟩);subst h1
   rw [ha.same b (fun he=>by
    rcases hne with hn | hn
    ·cases hn
    ·exact hn he) (by rw [h2];simp)]
   exact h2
 ·cases hb:v2.blk with
  | none=>exact .inl rfl
  | some b =>
   right;intro he
   rcases ha.blk with h1 | h1
   ·rcases hne with hn | hn
    ·rw [hb] at hn;cases hn
    ·exact hn (by rw [hb,he,h1])
   ·exact hal b hb (h1 b he.symm).2
end Go.Proofs.Shadow
