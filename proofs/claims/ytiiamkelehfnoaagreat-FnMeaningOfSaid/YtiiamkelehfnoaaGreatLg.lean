/- Live rows of any type: cells that are plain, and slices that are ours. -/
import Derived.Test.YtiiamkelehfnoaaGreatLc
open _root_.List renaming eq_nil_of_length_eq_zero → Kt, mem_cons_of_mem → Kf, getElem?_eq_some_iff → Qd, drop_of_length_le → KP, drop_append → KQ, mem_cons_self → KD, getElem?_append_right → QN, getElem?_append_left → QO, flatten_cons → Qr, append_assoc → QD, nil_append → QS, mem_append_right → Ka, mem_append_left → Kb, drop_zero → KR
open _root_.Nat renaming add_mul → KJ, mul_le_mul_right → Kx
open _root_.Option renaming bind_some → Qf
set_option linter.unusedVariables false
set_option linter.unusedSimpArgs false
namespace Go.Proofs.Shadow
open Go
inductive Tg | int | form | core | val | slot | bnd | hit
def Tg.sz:Tg->Nat
 | .int=>1 | .form=>5 | .core=>11 | .val=>16 | .slot=>17 | .bnd=>3 | .hit=>12
def Tg.shp:Tg->List (Option Tg)
 | .int=>[none]
 | .form=>[none,none,none,some .int,some .form]
 | .core=>[none,none,none,none,some .int,none,none,none,some .int,some .form,some .core]
 | .val=>[none,none,none,some .val,none,none,none,none,some .int,none,none,none,some .int,some .form,some .core,some .slot]
 | .slot=>[none,none,none,none,some .val,none,none,none,none,some .int,none,none,none,some .int,some .form,some .core,some .slot]
 | .bnd=>[none,some .int,none]
 | .hit=>[none,none,none,none,none,none,none,none,none,none,none,some .hit]
theorem Tg.Qn6 (t:Tg):t.shp.length=t.sz:=by cases t<;>rfl
inductive Fr:AV->Prop
 | nil:Fr .Yd
 | lit:Fr (.sl true [])
 | ref (b n c:Nat):Fr (.ref b n c)
theorem Fr.cell {v:AV} (h:Fr v):v.Y6=true:=by cases h<;>rfl
theorem Fr.of {tt σ:Sto} {bs:List (Nat × Ent)} {ms:List Ib} (hF:Fx tt σ bs ms) {m:Ib} (hm:m∈ms) (hsz:m.sz≠17):Fr m.v:=by
 rcases (hF.own m hm).1.2 with ⟨h1,_⟩ | h1 | ⟨b,cap,h1,_⟩
 ·rw [h1];exact .nil
 ·rcases hF.wr m hm with h2 | h2 | h2
  ·rw [h1,h2];exact .lit
  ·rw [h1] at h2;exact absurd rfl h2
  ·exact absurd h2 hsz
 ·rw [h1];exact .ref _ _ _
section
variable (ty:Tg->TypeId) (K:AV->Prop)
mutual
inductive LvR:List (Option Tg)->List AV->List AV->List Ib->Prop
 | nil:LvR [] [] [] []
 | flat {ss:List (Option Tg)} {c:AV} {ps ls:List AV} {L:List Ib} (h:K c) (u:LvR ss ps ls L):LvR (none :: ss) (c :: ps) (c :: ls) L
 | sl {ss:List (Option Tg)} {t:Tg} {v:AV} {pr lr:List (List AV)} {ps ls:List AV} {L0 L:List Ib} (hv:Fr v) (h:Em t pr lr L0) (u:LvR ss ps ls L):LvR (some t :: ss) (.sl false pr :: ps) (v :: ls) (⟨v,ty t,t.sz,lr⟩ :: (L0++L))
inductive Em:Tg->List (List AV)->List (List AV)->List Ib->Prop
 | nil {t:Tg} : Em t [] [] []
 | cons {t:Tg} {p l:List AV} {L:List Ib} {ps ls:List (List AV)} {Ls:List Ib} (h:LvR t.shp p l L) (u:Em t ps ls Ls):Em t (p :: ps) (l :: ls) (L++Ls)
end
end
variable {ty:Tg->TypeId} {K:AV->Prop}
theorem LvR.len:∀{ss:List (Option Tg)} {p l:List AV} {L:List Ib},LvR ty K ss p l L->p.length=ss.length/\l.length=ss.length
 | _,_,_,_,.nil=>⟨rfl,rfl⟩
 | _,_,_,_,.flat _ u=>by obtain ⟨a,b⟩:=u.len;simp [a,b]
 | _,_,_,_,.sl _ _ u=>by obtain ⟨a,b⟩:=u.len;simp [a,b]
theorem Em.len {t:Tg} : ∀{ps ls:List (List AV)} {L:List Ib},Em ty K t ps ls L->ls.length=ps.length/\(∀r∈ps,r.length=t.sz)/\∀r∈ls,r.length=t.sz
 | _,_,_,.nil=>⟨rfl,by simp,by simp⟩
 | _,_,_,.cons h u=>by
  obtain ⟨a,b,c⟩:=u.len;obtain ⟨d,e⟩:=h.len;rw [Tg.Qn6] at d e;refine ⟨by simp [a],fun r hr=>?_,fun r hr=>?_⟩
  ·rcases List.mem_cons.1 hr with rfl | hr
   ·exact d
   ·exact b r hr
  ·rcases List.mem_cons.1 hr with rfl | hr
   ·exact e
   ·exact c r hr
theorem Qhh {σ ρ:Sto} {w:World} (hs:Sim σ w) (hsub:Sub ρ σ) {e:TypeId} {sz:Nat} {v:AV} {xs ys:List (List AV)} (h:RB σ e sz v xs) (hd0:∀b,v.blk=some b->ρ.own b=none) (hl:ys.length=xs.length) (hy:∀y∈ys,y.length=sz)
  (hc:∀(i:Nat) (c:AV),ys.flatten[i]?=some c->c.Y6=true/\∃a,xs.flatten[i]?=some a/\∀val,Rv σ w a val->Rv ρ w c val) {val:Value} (hv:Rv σ w v val):Rv ρ w (.sl false ys) val:=by
 have nil:xs=[]->ys=[]:=fun hx=>Kt (by rw [hl,hx];rfl)
 have cell:∀c∈ys.flatten,c.Y6=true:=fun c hm=>by
  obtain ⟨i,hi⟩:=List.mem_iff_getElem?.1 hm;exact (hc i c hi).1
 rcases h.2 with ⟨rfl,hx⟩ | rfl | ⟨b,cap,rfl,he⟩
 ·rw [nil hx];cases hv;exact .slE (fun h=>by cases h)
 ·cases hv with
  | slE _=>rw [nil rfl];exact .slE (fun h=>by cases h)
  | slC hx hn hle hcp hsz _ hd hb hi hf hr =>
   rename_i b o n cap sz' f hcc;refine .slC (f:=f) (sz:=sz) (fun h0=>hx (Kt (by rw [← hl,h0];rfl))) (by rw [hn,hl]) hle hcp hy (fun h=>by cases h) (hsub.dead hd) hb cell (fun i c hic=>?_) (fun i c hic=>?_)
   ·obtain ⟨_,a,ha,_⟩:=hc i c hic;exact hf i a ha
   ·obtain ⟨_,a,ha,hcv⟩:=hc i c hic;exact hcv _ (hr i a ha)
 ·cases hv with
  | ref hle hcp hcm =>
   obtain ⟨cs,h1,h2,h3,h4⟩:=hs.own b _ he
   have hvn:ρ.var b=none:=by
    cases hvb:ρ.var b with
    | none=>rfl
    | some e' =>
     have:=(hs.var b e' (hsub.var b e' hvb)).2.2;rw [this] at he;cases he
   by_cases hx:xs=[]
   ·rw [nil hx,hx];exact .slE (fun h=>by cases h)
   ·refine .slC (f:=fun i=>cs.getD i undef) (sz:=sz) (fun h0=>hx (Kt (by rw [← hl,h0];rfl))) (by rw [hl]) hle hcp hy (fun h=>by cases h) ⟨hvn,hd0 b rfl⟩ (Array.getElem?_eq_some_iff.1 h1).1 cell (fun i c hic=>?_) (fun i c hic=>?_)
    ·obtain ⟨_,a,ha,_⟩:=hc i c hic;rw [Nat.zero_add,cell_of_row w b i cs e (0,0) h1]
     have hlt:i < cs.size:=by have:=(Qd.1 ha).1;simp only at h2 h3;omega
     simp [hlt]
    ·obtain ⟨_,a,ha,hcv⟩:=hc i c hic;exact hcv _ (h4 i a ha).2
def Ql2 (σ ρ:Sto) (L:List Ib):Prop:=∀m∈L,RB σ m.e m.sz m.v m.rows/\∀b,m.v.blk=some b->ρ.own b=none
mutual
theorem LvR.rd {σ ρ:Sto} {w:World} (hs:Sim σ w) (hsub:Sub ρ σ) (hK:∀c,K c->c.Y6=true):∀{ss:List (Option Tg)} {p l:List AV} {L:List Ib},LvR ty K ss p l L->Ql2 σ ρ L->∀(i:Nat) (c:AV),p[i]?=some c->c.Y6=true/\∃a,l[i]?=some a/\∀val,Rv σ w a val->Rv ρ w c val
 | _,_,_,_,.nil,_=>fun i c h=>by cases h
 | _,_,_,_,.flat h u,hL=>fun i c hi=>by
  cases i with
  | zero=>injection hi with hi;subst hi;exact ⟨hK _ h,_,rfl,fun val hv=>hv.step (Step.drop fun b hb=>hsub.dead hb)⟩
  | succ i=>exact u.rd hs hsub hK hL i c hi
 | _,_,_,_,.sl (t:=t) (pr:=pr) (lr:=lr) hv h u,hL=>fun i c hi=>by
  obtain ⟨o1,o2⟩:=hL _ (KD ..)
  cases i with
  | zero =>
   injection hi with hi
   subst hi;obtain ⟨p1,p2,p3⟩:=h.len;refine ⟨rfl,_,rfl,fun val hv=>Qhh hs hsub o1 o2 p1.symm p2 (h.rd hs hsub hK fun m hm=>hL m (Kf _ (Kb _ hm))) hv⟩
  | succ i=>exact u.rd hs hsub hK (fun m hm=>hL m (Kf _ (Ka _ hm))) i c hi
theorem Em.rd {σ ρ:Sto} {w:World} (hs:Sim σ w) (hsub:Sub ρ σ) (hK:∀c,K c->c.Y6=true):∀{t:Tg} {ps ls:List (List AV)} {L:List Ib},Em ty K t ps ls L->Ql2 σ ρ L->∀(i:Nat) (c:AV),ps.flatten[i]?=some c->c.Y6=true/\∃a,ls.flatten[i]?=some a/\∀val,Rv σ w a val->Rv ρ w c val
 | _,_,_,_,.nil,_=>fun i c h=>by cases h
 | t,_,_,_,.cons (p:=p) (l:=l) (ps:=ps) (ls:=ls) h u,hL=>fun i c hi=>by
  have h1:=h.rd hs hsub hK fun m hm=>hL m (Kb _ hm);have h2:=u.rd hs hsub hK fun m hm=>hL m (Ka _ hm);obtain ⟨l1,l2⟩:=h.len;rw [Qr] at hi ⊢
  rcases Nat.lt_or_ge i p.length with hlt | hge
  ·rw [QO hlt] at hi;obtain ⟨a1,a,a2,a3⟩:=h1 i c hi;exact ⟨a1,a,by rw [QO (by omega)];exact a2,a3⟩
  ·rw [QN hge] at hi;obtain ⟨a1,a,a2,a3⟩:=h2 (i - p.length) c hi;exact ⟨a1,a,by rw [QN (by omega),show i - l.length=i - p.length by omega];exact a2,a3⟩
end
theorem Ql2.of {tt σ:Sto} {bs:List (Nat × Ent)} {ms L:List Ib} (hF:Fx tt σ bs ms) (hs:∀m∈L,m∈ms):Ql2 σ tt L:=fun m hm=>⟨(hF.own m (hs m hm)).1,(hF.own m (hs m hm)).2⟩
theorem Em.wk {σ ρ:Sto} (hsub:Sub ρ σ) (hK:∀c,K c->c.Y6=true) {t:Tg} {ps ls:List (List AV)} {L:List Ib} {v:AV} {e:TypeId} (h:Em ty K t ps ls L) (hL:Ql2 σ ρ (⟨v,e,t.sz,ls⟩ :: L)):Wk σ v ρ (.sl false ps):=fun w val hw hr=>by
 obtain ⟨o1,o2⟩:=hL _ (KD ..);obtain ⟨p1,p2,p3⟩:=h.len;exact ⟨hw.drop hsub.var hsub.own,Qhh hw hsub o1 o2 p1.symm p2 (h.rd hw hsub hK fun m hm=>hL m (Kf _ hm)) hr,fun b hb=>hsub.dead hb⟩
theorem Em.app {t:Tg} : ∀{ps qs ls ms:List (List AV)} {L M:List Ib},Em ty K t ps ls L->Em ty K t qs ms M->Em ty K t (ps++qs) (ls++ms) (L++M)
 | _,_,_,_,_,_,.nil,k=>k
 | _,_,_,_,_,_,.cons h u,k=>by
  rw [QD];exact .cons h (u.app k)
theorem Em.snoc {t:Tg} {ps ls:List (List AV)} {p l:List AV} {L M:List Ib} (h:Em ty K t ps ls L) (k:LvR ty K t.shp p l M):Em ty K t (ps++[p]) (ls++[l]) (L++M):=by
 have:=h.app (.cons k .nil);rwa [List.append_nil] at this
theorem Em.at {t:Tg} : ∀{ps ls:List (List AV)} {L:List Ib},Em ty K t ps ls L->∀(i:Nat) (p:List AV),ps[i]?=some p->∃l A B C,ls[i]?=some l/\L=A++(B++C)/\LvR ty K t.shp p l B/\∀p' l' B',LvR ty K t.shp p' l' B'->Em ty K t (ps.set i p') (ls.set i l') (A++(B'++C))
 | _,_,_,.nil,i,p,h=>by cases h
 | _,_,_,.cons (p:=q) (l:=l) (L:=L) (Ls:=Ls) h u,0,p,hi=>by
  injection hi with hi
  subst hi;exact ⟨l,[],L,Ls,rfl,rfl,h,fun p' l' B' k=>(show Em ty K t (p' :: _) (l' :: _) (B'++Ls) from Em.cons k u)⟩
 | _,_,_,.cons (p:=q) (l:=l) (ps:=ps) (ls:=ls) (L:=L) (Ls:=Ls) h u,i+1,p,hi=>by
  obtain ⟨r,A,B,C,h1,h2,h3,h4⟩:=u.at i p hi;refine ⟨r,L++A,B,C,h1,by rw [h2,QD],h3,fun p' l' B' k=>?_⟩;rw [QD];exact (show Em ty K t (q :: ps.set i p') (l :: ls.set i l') (L++(A++(B'++C))) from Em.cons h (h4 p' l' B' k))
theorem Em.ints (hK:∀n,K (.int .i64 n)):∀l:List Int,Em ty K .int (rws cI l) (rws cI l) []
 | []=>.nil
 | x :: l=>Em.cons (L:=[]) (.flat (hK x) .nil) (Em.ints hK l)
theorem Em.Qjw {l:List Int} {lr:List (List AV)} {L:List Ib} (h:Em ty K .int (rws cI l) lr L):lr=rws cI l/\L=[]:=by
 induction l generalizing lr L with
 | nil=>cases h;exact ⟨rfl,rfl⟩
 | cons x l ih =>
  cases h with
  | cons h u =>
   obtain ⟨rfl,rfl⟩:=ih u;have h:LvR ty K [none] [.int .i64 x] _ _:=h
   cases h with
   | flat _ u2=>cases u2;exact ⟨rfl,rfl⟩
theorem Oe {tt σ:Sto} {bs:List (Nat × Ent)} {ms:List Ib} (hF:Fx tt σ bs ms) (j:Nat) {ag:Bool} {k b n c o i:Nat} {e:TypeId} {sz:Nat} {rows:List (List AV)} {row:List AV} {p:Nat} {v:AV} (hp:p=i * sz+o) (hj:ms[j]?=some ⟨.ref b n c,e,sz,rows⟩) (h:rows[i]?=some row) (hk:o+(if ag then k else 1)<=sz) (hv:(seg row o (if ag then k else 1)).bind (R5 ag)=some v):Dq σ (some (ag,k)) (.optr b p)=some v:=by
 subst hp;obtain ⟨h0,h1,h2⟩:=Nb hF j hj;have hfl:=VZ rows h2;have hil:=(Qd.1 h).1;have hrl:=h2 row (List.mem_of_getElem? h)
 have hle:i * sz+sz<=rows.length * sz:=by
  have:(i+1) * sz<=rows.length * sz:=Kx sz hil;rwa [KJ,Nat.one_mul] at this
 have hm:mem σ (.optr b (i * sz+o))=some (rows.flatten.drop (i * sz+o)):=by
  simp only [mem,h1,Qf];rw [if_pos (by rw [hfl];omega)]
 have hdrop:rows.flatten.drop (i * sz)=row++rows.flatten.drop (i * sz+sz):=by
  have:∀(l:List (List AV)) (i:Nat),(∀r∈l,r.length=sz)->l[i]?=some row->l.flatten.drop (i * sz)=row++l.flatten.drop (i * sz+sz):=by
   intro l
   induction l with
   | nil=>intro i _ h;cases h
   | cons x l ih =>
    intro i hl h;have hx:=hl x (KD ..)
    cases i with
    | zero =>
     injection h with h
     subst h;rw [Qr,Nat.zero_mul,KR,Nat.zero_add,KQ,KP (by omega),QS,show sz - x.length=0 by omega,KR]
    | succ i =>
     have:=ih i (fun r hr=>hl r (Kf _ hr)) h;rw [Qr,KQ,KP (by rw [hx,KJ];omega),QS,KQ,KP (l:=x) (by rw [hx,KJ];omega),QS,show (i+1) * sz - x.length=i * sz by rw [hx,KJ];omega,show (i+1) * sz+sz - x.length=i * sz+sz by rw [hx,KJ];omega];exact this
  exact this rows i h2 h
 have hq:∀m:Nat,o+m<=sz->seg (rows.flatten.drop (i * sz+o)) 0 m=seg row o m:=by
  intro m hm';unfold seg;rw [if_pos (by rw [List.length_drop,hfl];omega),if_pos (by omega)];rw [← List.drop_drop,hdrop,KQ,KR,List.take_append,show m - (row.drop o).length=0 by rw [List.length_drop];omega,List.take_zero,List.append_nil]
 unfold Dq;rw [hm];simp only [Qf];rw [hq _ hk];exact hv
theorem Qbz {tt σ:Sto} {bs:List (Nat × Ent)} {ms:List Ib} (hF:Fx tt σ bs ms) (j:Nat) {ag:Bool} {k b n c o i:Nat} {e:TypeId} {sz:Nat} {rows:List (List AV)} {row row':List AV} {p:Nat} {v:AV} {cs:List AV} (hp:p=i * sz+o) (hj:ms[j]?=some ⟨.ref b n c,e,sz,rows⟩) (hx:rows[i]?=some row) (hc:Vv v=some cs) (hl:cs.length=k) (hle:o+k<=sz) (hy:Wz row o cs=row') (hr':row'.length=sz):∃ss',JO (some (ag,k)) σ (.optr b p) v=some ss'/\Fx tt ss' bs (ms.set j ⟨.ref b n c,e,sz,rows.set i row'⟩)/\ss'.var=σ.var:=by
 subst hp;obtain ⟨h0,h1,h2⟩:=Nb hF j hj;have hfl:=VZ rows h2;have hil:=(Qd.1 hx).1
 have hle2:i * sz+sz<=rows.length * sz:=by
  have:(i+1) * sz<=rows.length * sz:=Kx sz hil;rwa [KJ,Nat.one_mul] at this
 refine ⟨σ.Vj b ⟨e,c * sz,(rows.set i row').flatten⟩,?_,hF.oset j hj (by simp) (fun r hr=>?_),rfl⟩
 ·simp only [JO,hc,h1,Qf];rw [if_pos hl,if_pos (by rw [hfl];omega),MW h2 hx (by omega),hy]
 ·rcases List.mem_or_eq_of_mem_set hr with hr | hr
  ·exact h2 r hr
  ·rw [hr];exact hr'
theorem Qjn {tt σ:Sto} {bs:List (Nat × Ent)} {ms:List Ib} (hF:Fx tt σ bs ms) (j:Nat) {ag:Bool} {k b n c o i:Nat} {e:TypeId} {sz:Nat} {rows:List (List AV)} {row:List AV} (row':List AV) {p:Nat} {v:AV} {cs:List AV} {T:Nat->AV} {K:AS->Prop} (hp:p=i * sz+o) (hj:ms[j]?=some ⟨.ref b n c,e,sz,rows⟩) (hx:rows[i]?=some row) (hc:Vv v=some cs) (hl:cs.length=k) (hle:o+k<=sz) (hy:Wz row o cs=row') (hr':row'.length=sz) (hK:∀ss',Fx tt ss' bs (ms.set j ⟨.ref b n c,e,sz,rows.set i row'⟩)->K ⟨T,ss'⟩):Af (JO (some (ag,k)) σ (.optr b p) v) ⟨T,σ⟩ none K:=by
 obtain ⟨ss',h1,h2,_⟩:=Qbz (ag:=ag) hF j hp hj hx hc hl hle hy hr';rw [h1];exact hK _ h2
theorem Ty {E:Nat->Prop} {tt σ:Sto} {bs:List (Nat × Ent)} {ms:List Ib} (hF:Fx tt σ bs ms) (j:Nat) {ag:Bool} {k b n c o i:Nat} {e:TypeId} {sz:Nat} {rows:List (List AV)} {row:List AV} (row':List AV) {p:Nat} {v:AV} {cs:List AV} {T:Nat->AV} {K:AS->Prop} (hp:p=i * sz+o) (hj:ms[j]?=some ⟨.ref b n c,e,sz,rows⟩) (hx:rows[i]?=some row) (hc:Vv v=some cs) (hl:cs.length=k) (hle:o+k<=sz) (hy:Wz row o cs=row') (hr':row'.length=sz) (hK:∀ss',Fx tt ss' bs (ms.set j ⟨.ref b n c,e,sz,rows.set i row'⟩)->K ⟨T,ss'⟩):Af (JO (some (ag,k)) σ (.optr b p) v) ⟨T,σ⟩ none (kp E σ K):=by
 obtain ⟨ss',h1,h2,h3⟩:=Qbz (ag:=ag) hF j hp hj hx hc hl hle hy hr';rw [h1];exact By (F8.RO h3) (hK _ h2)
theorem Qgx {tt σ:Sto} {bs:List (Nat × Ent)} {ms:List Ib} (hF:Fx tt σ bs ms) (j:Nat) {v y:AV} {e:TypeId} {sz by_:Nat} {xs ys:List (List AV)} {T:Nat->AV} {d:Tmp} {K:AS->Prop} (hj:ms[j]?=some ⟨v,e,sz,xs⟩) (hsz:0 < sz) (hby:0 < by_) (hy:RdL σ sz y ys) (hb:(xs.length+ys.length) * by_<=140737488355328)
  (h:∀v' ss',Fx tt ss' bs (ms.set j ⟨v',e,sz,xs++ys⟩)->K ⟨upd T d v',ss'⟩):JN (some (e,sz,by_)) v y ⟨T,σ⟩ (some d) K:=by
 refine ⟨xs,ys,hsz,hby,(hF.DV j hj).1,hy,hb,fun v' ss' hp=>?_⟩;exact ⟨v',ss',Wk1.refl _ _,h v' ss' (hF.app j hj hp)⟩
theorem Fx.Qsj {tt σ:Sto} {bs:List (Nat × Ent)} {ms:List Ib} (hF:Fx tt σ bs ms) (j:Nat) {v:AV} {e:TypeId} {sz:Nat} {rows:List (List AV)} {i:Nat} (hj:ms[j]?=some ⟨v,e,sz,rows⟩) (hi:i < rows.length) (hne:sz≠17:=by decide):∃b c,v=.ref b rows.length c:=by
 obtain ⟨x,hx⟩:∃x,rows[i]?=some x:=⟨_,List.getElem?_eq_getElem hi⟩;have:=hF.ref (v:=v) (e:=e) (sz:=sz) j (g:=id) (l:=rows) (x:=x) (i:=(i:Int)) (by simpa [rws] using hj) (by unfold idx;simpa using hx) hne;exact this
theorem RX {σ:Sto} {e:TypeId} {sz by_ b n c i:Nat} {k:IntKind} (h:i < n):Uw σ (some (e,sz,by_)) (.ref b n c) (.int k (i:Int))=some (.optr b (i * sz)):=Qiv h
end Go.Proofs.Shadow
