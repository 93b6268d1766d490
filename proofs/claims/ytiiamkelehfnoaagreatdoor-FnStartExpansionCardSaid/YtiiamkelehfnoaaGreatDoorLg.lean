/- Live rows of any type: cells that are plain, and slices that are ours. -/
import Derived.Test.YtiiamkelehfnoaaGreatDoorLc
open _root_.List renaming eq_nil_of_length_eq_zero → Kv, mem_cons_of_mem → Kh, getElem?_eq_some_iff → Qb, drop_of_length_le → KR, drop_append → KS, mem_cons_self → KF, getElem?_append_right → QN, getElem?_append_left → QO, flatten_cons → Qr, append_assoc → QD, nil_append → QU, mem_append_right → Kc, mem_append_left → Kd, drop_zero → KT
open _root_.Nat renaming add_mul → KL, mul_le_mul_right → Kz
open _root_.Option renaming bind_some → Qh
set_option linter.unusedVariables false
set_option linter.unusedSimpArgs false
namespace Go.Proofs.Shadow
open Go
inductive Tg | int | form | core | val | slot | bnd | hit
def Tg.sz:Tg->Nat
 | .int=>1 | .form=>5 | .core=>11 | .val=>16 | .slot=>17 | .bnd=>3 | .hit=>12
def Tg.shp:Tg->List (Option Tg)
 | .int=>[none]
 | .form=>[none,none,none,some .int,some .form]
 | .core=>[none,none,none,none,some .int,none,none,none,some .int,some .form,some .core]
 | .val=>[none,none,none,some .val,none,none,none,none,some .int,none,none,none,some .int,some .form,some .core,some .slot]
 | .slot=>[none,none,none,none,some .val,none,none,none,none,some .int,none,none,none,some .int,some .form,some .core,some .slot]
 | .bnd=>[none,some .int,none]
 | .hit=>[none,none,none,none,none,none,none,none,none,none,none,some .hit]
theorem Tg.Qn6 (t:Tg):t.shp.length=t.sz:=by cases t<;>rfl
inductive Fr:AV->Prop
 | nil:Fr .Yd
 | lit:Fr (.sl true [])
 | ref (b n c:Nat):Fr (.ref b n c)
theorem Fr.cell {v:AV} (h:Fr v):v.Y8=true:=by cases h<;>rfl
theorem Fr.of {tt σ:Sto} {bs:List (Nat × Ent)} {ms:List H2} (hF:Fx tt σ bs ms) {m:H2} (hm:m∈ms) (hsz:m.sz≠17):Fr m.v:=by
 rcases (hF.own m hm).1.2 with ⟨h1,_⟩ | h1 | ⟨b,cap,h1,_⟩
 ·rw [h1];exact .nil
 ·rcases hF.wr m hm with h2 | h2 | h2
  ·rw [h1,h2];exact .lit
  ·rw [h1] at h2;exact absurd rfl h2
  ·exact absurd h2 hsz
 ·rw [h1];exact .ref _ _ _
section
variable (ty:Tg->TypeId) (K:AV->Prop)
mutual
inductive LvR:List (Option Tg)->List AV->List AV->List H2->Prop
 | nil:LvR [] [] [] []
 | flat {ss:List (Option Tg)} {c:AV} {ps ls:List AV} {L:List H2} (h:K c) (u:LvR ss ps ls L):LvR (none :: ss) (c :: ps) (c :: ls) L
 | sl {ss:List (Option Tg)} {t:Tg} {v:AV} {pr lr:List (List AV)} {ps ls:List AV} {L0 L:List H2} (hv:Fr v) (h:D8 t pr lr L0) (u:LvR ss ps ls L):LvR (some t :: ss) (.sl false pr :: ps) (v :: ls) (⟨v,ty t,t.sz,lr⟩ :: (L0++L))
inductive D8:Tg->List (List AV)->List (List AV)->List H2->Prop
 | nil {t:Tg} : D8 t [] [] []
 | cons {t:Tg} {p l:List AV} {L:List H2} {ps ls:List (List AV)} {Ls:List H2} (h:LvR t.shp p l L) (u:D8 t ps ls Ls):D8 t (p :: ps) (l :: ls) (L++Ls)
end
end
variable {ty:Tg->TypeId} {K:AV->Prop}
theorem LvR.len:∀{ss:List (Option Tg)} {p l:List AV} {L:List H2},LvR ty K ss p l L->p.length=ss.length/\l.length=ss.length
 | _,_,_,_,.nil=>⟨rfl,rfl⟩
 | _,_,_,_,.flat _ u=>by obtain ⟨a,b⟩:=u.len;simp [a,b]
 | _,_,_,_,.sl _ _ u=>by obtain ⟨a,b⟩:=u.len;simp [a,b]
theorem D8.len {t:Tg} : ∀{ps ls:List (List AV)} {L:List H2},D8 ty K t ps ls L->ls.length=ps.length/\(∀r∈ps,r.length=t.sz)/\∀r∈ls,r.length=t.sz
 | _,_,_,.nil=>⟨rfl,by simp,by simp⟩
 | _,_,_,.cons h u=>by
  obtain ⟨a,b,c⟩:=u.len;obtain ⟨d,e⟩:=h.len;rw [Tg.Qn6] at d e;refine ⟨by simp [a],fun r hr=>?_,fun r hr=>?_⟩
  ·rcases List.mem_cons.1 hr with rfl | hr
   ·exact d
   ·exact b r hr
  ·rcases List.mem_cons.1 hr with rfl | hr
   ·exact e
   ·exact c r hr
theorem Qhb {σ ρ:Sto} {w:World} (hs:Sim σ w) (hsub:Sub ρ σ) {e:TypeId} {sz:Nat} {v:AV} {xs ys:List (List AV)} (h:P5 σ e sz v xs) (hd0:∀b,v.blk=some b->ρ.own b=none) (hl:ys.length=xs.length) (hy:∀y∈ys,y.length=sz)
  (hc:∀(i:Nat) (c:AV),ys.flatten[i]?=some c->c.Y8=true/\∃a,xs.flatten[i]?=some a/\∀val,Rv σ w a val->Rv ρ w c val) {val:Value} (hv:Rv σ w v val):Rv ρ w (.sl false ys) val:=by
 have nil:xs=[]->ys=[]:=fun hx=>Kv (by rw [hl,hx];rfl)
 have cell:∀c∈ys.flatten,c.Y8=true:=fun c hm=>by
  obtain ⟨i,hi⟩:=List.mem_iff_getElem?.1 hm;exact (hc i c hi).1
 rcases h.2 with ⟨rfl,hx⟩ | rfl | ⟨b,cap,rfl,he⟩
 ·rw [nil hx];cases hv;exact .slE (fun h=>by cases h)
 ·cases hv with
  | slE _=>rw [nil rfl];exact .slE (fun h=>by cases h)
  | slC hx hn hle hcp hsz _ hd hb hi hf hr =>
   rename_i b o n cap sz' f hcc;refine .slC (f:=f) (sz:=sz) (fun h0=>hx (Kv (by rw [← hl,h0];rfl))) (by rw [hn,hl]) hle hcp hy (fun h=>by cases h) (hsub.dead hd) hb cell (fun i c hic=>?_) (fun i c hic=>?_)
   ·obtain ⟨_,a,ha,_⟩:=hc i c hic;exact hf i a ha
   ·obtain ⟨_,a,ha,hcv⟩:=hc i c hic;exact hcv _ (hr i a ha)
 ·cases hv with
  | ref hle hcp hcm =>
   obtain ⟨cs,h1,h2,h3,h4⟩:=hs.own b _ he
   have hvn:ρ.var b=none:=by
    cases hvb:ρ.var b with
    | none=>rfl
    | some e' =>
     have:=(hs.var b e' (hsub.var b e' hvb)).2.2;rw [this] at he;cases he
   by_cases hx:xs=[]
   ·rw [nil hx,hx];exact .slE (fun h=>by cases h)
   ·refine .slC (f:=fun i=>cs.getD i undef) (sz:=sz) (fun h0=>hx (Kv (by rw [← hl,h0];rfl))) (by rw [hl]) hle hcp hy (fun h=>by cases h) ⟨hvn,hd0 b rfl⟩ (Array.getElem?_eq_some_iff.1 h1).1 cell (fun i c hic=>?_) (fun i c hic=>?_)
    ·obtain ⟨_,a,ha,_⟩:=hc i c hic;rw [Nat.zero_add,cell_of_row w b i cs e (0,0) h1]
     have hlt:i < cs.size:=by have:=(Qb.1 ha).1;simp only at h2 h3;omega
     simp [hlt]
    ·obtain ⟨_,a,ha,hcv⟩:=hc i c hic;exact hcv _ (h4 i a ha).2
def Ql3 (σ ρ:Sto) (L:List H2):Prop:=∀m∈L,P5 σ m.e m.sz m.v m.rows/\∀b,m.v.blk=some b->ρ.own b=none
mutual
theorem LvR.rd {σ ρ:Sto} {w:World} (hs:Sim σ w) (hsub:Sub ρ σ) (hK:∀c,K c->c.Y8=true):∀{ss:List (Option Tg)} {p l:List AV} {L:List H2},LvR ty K ss p l L->Ql3 σ ρ L->∀(i:Nat) (c:AV),p[i]?=some c->c.Y8=true/\∃a,l[i]?=some a/\∀val,Rv σ w a val->Rv ρ w c val
 | _,_,_,_,.nil,_=>fun i c h=>by cases h
 | _,_,_,_,.flat h u,hL=>fun i c hi=>by
  cases i with
  | zero=>injection hi with hi;subst hi;exact ⟨hK _ h,_,rfl,fun val hv=>hv.step (Step.drop fun b hb=>hsub.dead hb)⟩
  | succ i=>exact u.rd hs hsub hK hL i c hi
 | _,_,_,_,.sl (t:=t) (pr:=pr) (lr:=lr) hv h u,hL=>fun i c hi=>by
  obtain ⟨o1,o2⟩:=hL _ (KF ..)
  cases i with
  | zero =>
   injection hi with hi
   subst hi;obtain ⟨p1,p2,p3⟩:=h.len;refine ⟨rfl,_,rfl,fun val hv=>Qhb hs hsub o1 o2 p1.symm p2 (h.rd hs hsub hK fun m hm=>hL m (Kh _ (Kd _ hm))) hv⟩
  | succ i=>exact u.rd hs hsub hK (fun m hm=>hL m (Kh _ (Kc _ hm))) i c hi
theorem D8.rd {σ ρ:Sto} {w:World} (hs:Sim σ w) (hsub:Sub ρ σ) (hK:∀c,K c->c.Y8=true):∀{t:Tg} {ps ls:List (List AV)} {L:List H2},D8 ty K t ps ls L->Ql3 σ ρ L->∀(i:Nat) (c:AV),ps.flatten[i]?=some c->c.Y8=true/\∃a,ls.flatten[i]?=some a/\∀val,Rv σ w a val->Rv ρ w c val
 | _,_,_,_,.nil,_=>fun i c h=>by cases h
 | t,_,_,_,.cons (p:=p) (l:=l) (ps:=ps) (ls:=ls) h u,hL=>fun i c hi=>by
  have h1:=h.rd hs hsub hK fun m hm=>hL m (Kd _ hm);have h2:=u.rd hs hsub hK fun m hm=>hL m (Kc _ hm);obtain ⟨l1,l2⟩:=h.len;rw [Qr] at hi ⊢
  rcases Nat.lt_or_ge i p.length with hlt | hge
  ·rw [QO hlt] at hi;obtain ⟨a1,a,a2,a3⟩:=h1 i c hi;exact ⟨a1,a,by rw [QO (by omega)];exact a2,a3⟩
  ·rw [QN hge] at hi;obtain ⟨a1,a,a2,a3⟩:=h2 (i - p.length) c hi;exact ⟨a1,a,by rw [QN (by omega),show i - l.length=i - p.length by omega];exact a2,a3⟩
end
theorem Ql3.of {tt σ:Sto} {bs:List (Nat × Ent)} {ms L:List H2} (hF:Fx tt σ bs ms) (hs:∀m∈L,m∈ms):Ql3 σ tt L:=fun m hm=>⟨(hF.own m (hs m hm)).1,(hF.own m (hs m hm)).2⟩
theorem D8.wk {σ ρ:Sto} (hsub:Sub ρ σ) (hK:∀c,K c->c.Y8=true) {t:Tg} {ps ls:List (List AV)} {L:List H2} {v:AV} {e:TypeId} (h:D8 ty K t ps ls L) (hL:Ql3 σ ρ (⟨v,e,t.sz,ls⟩ :: L)):Wk σ v ρ (.sl false ps):=fun w val hw hr=>by
 obtain ⟨o1,o2⟩:=hL _ (KF ..);obtain ⟨p1,p2,p3⟩:=h.len;exact ⟨hw.drop hsub.var hsub.own,Qhb hw hsub o1 o2 p1.symm p2 (h.rd hw hsub hK fun m hm=>hL m (Kh _ hm)) hr,fun b hb=>hsub.dead hb⟩
theorem D8.app {t:Tg} : ∀{ps qs ls ms:List (List AV)} {L M:List H2},D8 ty K t ps ls L->D8 ty K t qs ms M->D8 ty K t (ps++qs) (ls++ms) (L++M)
 | _,_,_,_,_,_,.nil,k=>k
 | _,_,_,_,_,_,.cons h u,k=>by
  rw [QD];exact .cons h (u.app k)
theorem D8.snoc {t:Tg} {ps ls:List (List AV)} {p l:List AV} {L M:List H2} (h:D8 ty K t ps ls L) (k:LvR ty K t.shp p l M):D8 ty K t (ps++[p]) (ls++[l]) (L++M):=by
 have:=h.app (.cons k .nil);rwa [List.append_nil] at this
theorem D8.at {t:Tg} : ∀{ps ls:List (List AV)} {L:List H2},D8 ty K t ps ls L->∀(i:Nat) (p:List AV),ps[i]?=some p->∃l A B C,ls[i]?=some l/\L=A++(B++C)/\LvR ty K t.shp p l B/\∀p' l' B',LvR ty K t.shp p' l' B'->D8 ty K t (ps.set i p') (ls.set i l') (A++(B'++C))
 | _,_,_,.nil,i,p,h=>by cases h
 | _,_,_,.cons (p:=q) (l:=l) (L:=L) (Ls:=Ls) h u,0,p,hi=>by
  injection hi with hi
  subst hi;exact ⟨l,[],L,Ls,rfl,rfl,h,fun p' l' B' k=>(show D8 ty K t (p' :: _) (l' :: _) (B'++Ls) from D8.cons k u)⟩
 | _,_,_,.cons (p:=q) (l:=l) (ps:=ps) (ls:=ls) (L:=L) (Ls:=Ls) h u,i+1,p,hi=>by
  obtain ⟨r,A,B,C,h1,h2,h3,h4⟩:=u.at i p hi;refine ⟨r,L++A,B,C,h1,by rw [h2,QD],h3,fun p' l' B' k=>?_⟩;rw [QD];exact (show D8 ty K t (q :: ps.set i p') (l :: ls.set i l') (L++(A++(B'++C))) from D8.cons h (h4 p' l' B' k))
theorem D8.ints (hK:∀n,K (.int .i64 n)):∀l:List Int,D8 ty K .int (rws cI l) (rws cI l) []
 | []=>.nil
 | x :: l=>D8.cons (L:=[]) (.flat (hK x) .nil) (D8.ints hK l)
theorem D8.Qjr {l:List Int} {lr:List (List AV)} {L:List H2} (h:D8 ty K .int (rws cI l) lr L):lr=rws cI l/\L=[]:=by
 induction l generalizing lr L with
 | nil=>cases h;exact ⟨rfl,rfl⟩
 | cons x l ih =>
  cases h with
  | cons h u =>
   obtain ⟨rfl,rfl⟩:=ih u;have h:LvR ty K [none] [.int .i64 x] _ _:=h
   cases h with
   | flat _ u2=>cases u2;exact ⟨rfl,rfl⟩
theorem NW {tt σ:Sto} {bs:List (Nat × Ent)} {ms:List H2} (hF:Fx tt σ bs ms) (j:Nat) {ag:Bool} {k b n c o i:Nat} {e:TypeId} {sz:Nat} {rows:List (List AV)} {row:List AV} {p:Nat} {v:AV} (hp:p=i * sz+o) (hj:ms[j]?=some ⟨.ref b n c,e,sz,rows⟩) (h:rows[i]?=some row) (hk:o+(if ag then k else 1)<=sz) (hv:(seg row o (if ag then k else 1)).bind (RU ag)=some v):CQ σ (some (ag,k)) (.optr b p)=some v:=by
 subst hp;obtain ⟨h0,h1,h2⟩:=MT hF j hj;have hfl:=V1 rows h2;have hil:=(Qb.1 h).1;have hrl:=h2 row (List.mem_of_getElem? h)
 have hle:i * sz+sz<=rows.length * sz:=by
  have:(i+1) * sz<=rows.length * sz:=Kz sz hil;rwa [KL,Nat.one_mul] at this
 have hm:mem σ (.optr b (i * sz+o))=some (rows.flatten.drop (i * sz+o)):=by
  simp only [mem,h1,Qh];rw [if_pos (by rw [hfl];omega)]
 have hdrop:rows.flatten.drop (i * sz)=row++rows.flatten.drop (i * sz+sz):=by
  have:∀(l:List (List AV)) (i:Nat),(∀r∈l,r.length=sz)->l[i]?=some row->l.flatten.drop (i * sz)=row++l.flatten.drop (i * sz+sz):=by
   intro l
   induction l with
   | nil=>intro i _ h;cases h
   | cons x l ih =>
    intro i hl h;have hx:=hl x (KF ..)
    cases i with
    | zero =>
     injection h with h
     subst h;rw [Qr,Nat.zero_mul,KT,Nat.zero_add,KS,KR (by omega),QU,show sz - x.length=0 by omega,KT]
    | succ i =>
     have:=ih i (fun r hr=>hl r (Kh _ hr)) h;rw [Qr,KS,KR (by rw [hx,KL];omega),QU,KS,KR (l:=x) (by rw [hx,KL];omega),QU,show (i+1) * sz - x.length=i * sz by rw [hx,KL];omega,show (i+1) * sz+sz - x.length=i * sz+sz by rw [hx,KL];omega];exact this
  exact this rows i h2 h
 have hq:∀m:Nat,o+m<=sz->seg (rows.flatten.drop (i * sz+o)) 0 m=seg row o m:=by
  intro m hm';unfold seg;rw [if_pos (by rw [List.length_drop,hfl];omega),if_pos (by omega)];rw [← List.drop_drop,hdrop,KS,KT,List.take_append,show m - (row.drop o).length=0 by rw [List.length_drop];omega,List.take_zero,List.append_nil]
 unfold CQ;rw [hm];simp only [Qh];rw [hq _ hk];exact hv
theorem Qbn {tt σ:Sto} {bs:List (Nat × Ent)} {ms:List H2} (hF:Fx tt σ bs ms) (j:Nat) {ag:Bool} {k b n c o i:Nat} {e:TypeId} {sz:Nat} {rows:List (List AV)} {row row':List AV} {p:Nat} {v:AV} {cs:List AV} (hp:p=i * sz+o) (hj:ms[j]?=some ⟨.ref b n c,e,sz,rows⟩) (hx:rows[i]?=some row) (hc:Vx v=some cs) (hl:cs.length=k) (hle:o+k<=sz) (hy:Ww row o cs=row') (hr':row'.length=sz):∃ss',JL (some (ag,k)) σ (.optr b p) v=some ss'/\Fx tt ss' bs (ms.set j ⟨.ref b n c,e,sz,rows.set i row'⟩)/\ss'.var=σ.var:=by
 subst hp;obtain ⟨h0,h1,h2⟩:=MT hF j hj;have hfl:=V1 rows h2;have hil:=(Qb.1 hx).1
 have hle2:i * sz+sz<=rows.length * sz:=by
  have:(i+1) * sz<=rows.length * sz:=Kz sz hil;rwa [KL,Nat.one_mul] at this
 refine ⟨σ.Vo b ⟨e,c * sz,(rows.set i row').flatten⟩,?_,hF.oset j hj (by simp) (fun r hr=>?_),rfl⟩
 ·simp only [JL,hc,h1,Qh];rw [if_pos hl,if_pos (by rw [hfl];omega),ME h2 hx (by omega),hy]
 ·rcases List.mem_or_eq_of_mem_set hr with hr | hr
  ·exact h2 r hr
  ·rw [hr];exact hr'
theorem Qji {tt σ:Sto} {bs:List (Nat × Ent)} {ms:List H2} (hF:Fx tt σ bs ms) (j:Nat) {ag:Bool} {k b n c o i:Nat} {e:TypeId} {sz:Nat} {rows:List (List AV)} {row:List AV} (row':List AV) {p:Nat} {v:AV} {cs:List AV} {T:Nat->AV} {K:AS->Prop} (hp:p=i * sz+o) (hj:ms[j]?=some ⟨.ref b n c,e,sz,rows⟩) (hx:rows[i]?=some row) (hc:Vx v=some cs) (hl:cs.length=k) (hle:o+k<=sz) (hy:Ww row o cs=row') (hr':row'.length=sz) (hK:∀ss',Fx tt ss' bs (ms.set j ⟨.ref b n c,e,sz,rows.set i row'⟩)->K ⟨T,ss'⟩):Ab (JL (some (ag,k)) σ (.optr b p) v) ⟨T,σ⟩ none K:=by
 obtain ⟨ss',h1,h2,_⟩:=Qbn (ag:=ag) hF j hp hj hx hc hl hle hy hr';rw [h1];exact hK _ h2
theorem To {E:Nat->Prop} {tt σ:Sto} {bs:List (Nat × Ent)} {ms:List H2} (hF:Fx tt σ bs ms) (j:Nat) {ag:Bool} {k b n c o i:Nat} {e:TypeId} {sz:Nat} {rows:List (List AV)} {row:List AV} (row':List AV) {p:Nat} {v:AV} {cs:List AV} {T:Nat->AV} {K:AS->Prop} (hp:p=i * sz+o) (hj:ms[j]?=some ⟨.ref b n c,e,sz,rows⟩) (hx:rows[i]?=some row) (hc:Vx v=some cs) (hl:cs.length=k) (hle:o+k<=sz) (hy:Ww row o cs=row') (hr':row'.length=sz) (hK:∀ss',Fx tt ss' bs (ms.set j ⟨.ref b n c,e,sz,rows.set i row'⟩)->K ⟨T,ss'⟩):Ab (JL (some (ag,k)) σ (.optr b p) v) ⟨T,σ⟩ none (kp E σ K):=by
 obtain ⟨ss',h1,h2,h3⟩:=Qbn (ag:=ag) hF j hp hj hx hc hl hle hy hr';rw [h1];exact Bs (FO.RC h3) (hK _ h2)
theorem Qgp {tt σ:Sto} {bs:List (Nat × Ent)} {ms:List H2} (hF:Fx tt σ bs ms) (j:Nat) {v y:AV} {e:TypeId} {sz by_:Nat} {xs ys:List (List AV)} {T:Nat->AV} {d:Tmp} {K:AS->Prop} (hj:ms[j]?=some ⟨v,e,sz,xs⟩) (hsz:0 < sz) (hby:0 < by_) (hy:RdL σ sz y ys) (hb:(xs.length+ys.length) * by_<=140737488355328)
  (h:∀v' ss',Fx tt ss' bs (ms.set j ⟨v',e,sz,xs++ys⟩)->K ⟨upd T d v',ss'⟩):JK (some (e,sz,by_)) v y ⟨T,σ⟩ (some d) K:=by
 refine ⟨xs,ys,hsz,hby,(hF.DL j hj).1,hy,hb,fun v' ss' hp=>?_⟩;exact ⟨v',ss',Wk1.refl _ _,h v' ss' (hF.app j hj hp)⟩
theorem Fx.Qss {tt σ:Sto} {bs:List (Nat × Ent)} {ms:List H2} (hF:Fx tt σ bs ms) (j:Nat) {v:AV} {e:TypeId} {sz:Nat} {rows:List (List AV)} {i:Nat} (hj:ms[j]?=some ⟨v,e,sz,rows⟩) (hi:i < rows.length) (hne:sz≠17:=by decide):∃b c,v=.ref b rows.length c:=by
 obtain ⟨x,hx⟩:∃x,rows[i]?=some x:=⟨_,List.getElem?_eq_getElem hi⟩;have:=hF.ref (v:=v) (e:=e) (sz:=sz) j (g:=id) (l:=rows) (x:=x) (i:=(i:Int)) (by simpa [rws] using hj) (by unfold idx;simpa using hx) hne;exact this
theorem RM {σ:Sto} {e:TypeId} {sz by_ b n c i:Nat} {k:IntKind} (h:i < n):Ur σ (some (e,sz,by_)) (.ref b n c) (.int k (i:Int))=some (.optr b (i * sz)):=Qiq h
end Go.Proofs.Shadow
