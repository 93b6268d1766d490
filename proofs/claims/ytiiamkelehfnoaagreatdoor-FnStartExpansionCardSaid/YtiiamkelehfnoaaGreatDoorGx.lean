/- For walks written by a program: plain functions' partial operations; the local store in one hypothesis. -/
import Derived.Test.YtiiamkelehfnoaaGreatDoorFmA
open _root_.List renaming getElem?_eq_some_iff → Qb, pairwise_iff_getElem → Kp, mem_append → QS, mem_iff_getElem? → Qq, mem_map → QZ, mem_cons → Kl, mem_of_getElem? → Qf, getElem?_map → QE, getElem?_set → Kq, map_append → Kr, flatten_append → Q7, all_eq_true → Q8, nodup_append → Ks, length_append → QX, take_append_drop → Kt, pairwise_append → Ku, eq_nil_of_length_eq_zero → Kv, getElem?_set_self → Kw, eraseIdx_sublist → Kx, getElem?_inj → Ky, getElem?_set_ne → KA, getElem_set → KB, getElem?_eq_getElem → Qj, ext_getElem? → KC, pairwise_cons → KE, mem_cons_self → KF, cons_append → Kj, not_mem_nil → KG, map_set → KH, getElem?_eraseIdx → KI, append_eq_nil_iff → KJ, append_nil → KK, mem_cons_of_mem → Kh, mem_range → Kf, mem_filterMap → KO, find?_eq_none → KP, drop_sublist → KQ
open _root_.Option renaming bind_some → Qh
open _root_.ByteArray renaming mk → Qd
open _root_.Nat renaming mul_le_mul_right → Kz, lt_or_ge → KD, add_mul → KL, one_mul → KM
open _root_.Bool renaming and_eq_true → QG
open _root_.Int renaming toNat_of_nonneg → KN
set_option linter.unusedVariables false
set_option linter.unusedSimpArgs false
namespace Go.Proofs.Shadow
open Go Go.RowKit
theorem bnd {α β:Type} {o:Option α} {k:α->Option β} {r:β} (h:(o>>=k)=some r):∃x,o=some x/\k x=some r:=Option.bind_eq_some_iff.1 h
theorem pur {α:Type} {a r:α} (h:(pure a:Option α)=some r):a=r:=Option.some.inj h
def idx {α:Type} (l:List α) (i:Int):Option α:=if 0<=i then l[i.toNat]? else none
def MU (s:ByteArray) (i:Int):Option Int:=if 0<=i/\i < (s.size:Int) then some (byt s i.toNat) else none
def WT {α:Type} (n:Nat) (xs ys:List α):Option (List α):=if (xs.length+ys.length) * n<=140737488355328 then some (xs++ys) else none
def Qkj (s:ByteArray) (lo hi:Int):Option ByteArray:=if 0<=lo/\lo<=hi/\hi<=(s.size:Int) then some (s.extract lo.toNat hi.toNat) else none
def Lp {α:Type} (l:List α) (lo hi:Int):Option (List α):=if 0<=lo/\lo<=hi/\hi<=(l.length:Int) then some ((l.drop lo.toNat).take (hi - lo).toNat) else none
def Qju (a b:Int):Option Int:=if b=0 then none else some (a.tmod b)
def Qo1 (a b:Int):Option Int:=if b=0 then none else some (IntKind.wrap .i64 (a.tdiv b))
def rws {α:Type} (g:α->List AV) (l:List α):List (List AV):=l.map g
theorem lpe {α:Type} {x:Option α} {a b:α} (h:x=some a) (hc:x=some b):a=b:=Option.some.inj (h.symm.trans hc)
abbrev zB:ByteArray:=Qd #[]
abbrev i6 (n:Int):AV:=.int .i64 n
abbrev sf {α:Type} (c:α->List AV) (l:List α):AV:=.sl false (rws c l)
def cI (x:Int):List AV:=[.int .i64 x]
def cU (x:Int):List AV:=[.int .u8 x]
def cS (x:ByteArray):List AV:=[.str x]
def cL {α:Type} (g:α->List AV) (x:List α):List AV:=[.sl false (rws g x)]
section
variable {α:Type} {g:α->List AV}
theorem Jl (l:List α):(rws g l).length=l.length:=by simp [rws]
theorem Bi (a b:List α):rws g (a++b)=rws g a++rws g b:=by simp [rws]
theorem VQ:rws g []=[]:=(rfl)
theorem Vn (x:α) (l:List α):rws g (x :: l)=g x :: rws g l:=(rfl)
theorem Cc {sz:Nat} (hs:∀x,(g x).length=sz) (l:List α):∀r∈rws g l,r.length=sz:=by
 intro r hr;obtain ⟨f,_,rfl⟩:=QZ.1 hr;exact hs f
theorem Qkb (l:List Int):ints l=rws cI l:=(rfl)
theorem Qq8 (l:List Fm):Fm.rows l=rws Fm.cells l:=Fm.Ae l
theorem Fc {l:List α} {i:Int} {x:α} (h:idx l i=some x):0<=i/\i.toNat < l.length/\l[i.toNat]?=some x:=by
 unfold idx at h;split at h
 ·rename_i hi;exact ⟨hi,(Qb.1 h).1,h⟩
 ·cases h
theorem RL {l:List α} {i:Int} {x:α} {c:Bool} {k:IntKind} {σ:Sto} {e:TypeId} {sz by_:Nat} (hs:∀x,(g x).length=sz) (h:idx l i=some x):Ur σ (some (e,sz,by_)) (.sl c (rws g l)) (.int k i)=some (.ept (g x)):=by
 obtain ⟨h0,h1,h2⟩:=Fc h
 have hl:i.toNat < (rws g l).length:=by rw [Jl];exact h1
 have he:(rws g l)[i.toNat]=g x:=by
  rw [Qj h1] at h2
  injection h2 with h2
  simp [rws,h2]
 have:=Qez (sz:=sz) (c:=c) (k:=k) (σ:=σ) (e:=e) (by_:=by_) hl (by rw [he];exact hs x);rw [he,KN h0] at this;exact this
theorem Us {s:ByteArray} {i x:Int} {k:IntKind} (h:MU s i=some x):ML true (.str s) (.int k i)=some (.int .u8 x):=by
 unfold MU at h;split at h
 ·rename_i hi
  injection h with h
  have:=Qcr (s:=s) (i:=i.toNat) (k:=k) (by omega);rw [KN hi.1,h] at this;exact this
 ·cases h
theorem Bg {n:Nat} {xs ys zs:List α} (h:WT n xs ys=some zs):zs=xs++ys/\(xs.length+ys.length) * n<=140737488355328:=by
 unfold WT at h;split at h
 ·injection h with h;exact ⟨h.symm,by assumption⟩
 ·cases h
theorem Ux {k:Option (TypeId × Nat × Nat)} {s z:ByteArray} {lo hi:Option AV} {l h:Int} (hl:bound 0 lo=some l) (hh:bound s.size hi=some h) (he:Qkj s l h=some z):Bx true k (.str s) lo hi none=some (.str z):=by
 unfold Qkj at he;split at he
 ·rename_i hc
  injection he with he
  subst he;simp only [Bx,hl,hh,Qh,Option.isNone_none,and_self,if_true];rw [if_pos hc]
 ·cases he
theorem Uw {e:TypeId} {sz by_:Nat} {c:Bool} {xs zs:List α} {lo hi:Option AV} {l h:Int} (hs:∀x,(g x).length=sz) (hl:bound 0 lo=some l) (hh:bound xs.length hi=some h) (he:Lp xs l h=some zs) :
  Bx false (some (e,sz,by_)) (.sl c (rws g xs)) lo hi none=some (.sl (c&&decide (h=xs.length)) (rws g zs)):=by
 unfold Lp at he;split at he
 ·rename_i hc
  injection he with he
  subst he
  have hall:(rws g xs).all (fun x=>x.length == sz)=true:=by
   rw [Q8];intro r hr;simpa using Cc hs xs r hr
  simp only [Bx,hall,if_true,hl,Jl,hh,Qh];rw [if_pos hc];simp [rws,List.map_drop,List.map_take]
 ·cases he
end
structure H2 where
 v:AV
 e:TypeId
 sz:Nat
 rows:List (List AV)
def FP (a b:H2):Prop:=a.v.blk=none∨a.v.blk≠b.v.blk
theorem FP.symm {a b:H2} (h:FP a b):FP b a:=by
 unfold FP at *
 cases hb:b.v.blk with
 | none=>exact .inl rfl
 | some x =>
  right
  rcases h with h | h
  ·rw [h];simp
  ·rw [hb] at h;exact fun he=>h he.symm
structure Fx (tt σ:Sto) (bs:List (Nat × Ent)) (ms:List H2):Prop where
 sub:Sub tt σ
 var:∀p∈bs,σ.var p.1=some p.2/\tt.dead p.1
 nd:(bs.map (·.1)).Nodup
 own:∀m∈ms,EZ tt σ m.e m.sz m.v m.rows
 sep:ms.Pairwise FP
 wr:∀m∈ms,m.rows=[]∨(m.v.blk≠none∨m.sz=17)
section
variable {P:Program} {E:Nat->Prop} {tt σ:Sto} {bs:List (Nat × Ent)} {ms:List H2}
theorem Fx.refl (σ:Sto):Fx σ σ [] []:=⟨Sub.refl _,by simp,by simp,by simp,.nil,by simp⟩
theorem Fx.at (h:Fx tt σ bs ms) (i:Nat) {b:Nat} {e:Ent} (hi:bs[i]?=some (b,e)):σ.var b=some e:=(h.var _ (Qf hi)).1
theorem Fx.DL (h:Fx tt σ bs ms) (i:Nat) {m:H2} (hi:ms[i]?=some m):EZ tt σ m.e m.sz m.v m.rows:=h.own _ (Qf hi)
theorem Fx.wk (h:Fx tt σ bs ms) (i:Nat) {v:AV} {e:TypeId} {sz:Nat} {rows:List (List AV)} (hi:ms[i]?=some ⟨v,e,sz,rows⟩):Wk σ v tt (.sl false rows):=Wk.DL (h.DL i hi) h.sub
theorem Fx.cell (h:Fx tt σ bs ms) (i:Nat) {v:AV} {e:TypeId} {sz:Nat} {rows:List (List AV)} (hi:ms[i]?=some ⟨v,e,sz,rows⟩):v.Y8=true:=EZ.cell (h.DL i hi)
theorem Fx.cells (h:Fx tt σ bs ms) (i:Nat) {v:AV} {e:TypeId} {sz:Nat} {rows:List (List AV)} (hi:ms[i]?=some ⟨v,e,sz,rows⟩):Vx v=some [v]:=CE (h.cell i hi)
theorem Fx.len (h:Fx tt σ bs ms) (i:Nat) {v:AV} {e:TypeId} {sz:Nat} {rows:List (List AV)} (hi:ms[i]?=some ⟨v,e,sz,rows⟩):Fs false v=some (.int .i64 (rows.length:Int)):=by
 have hm:=h.DL i hi;refine Qan hm.len hm.cell ?_;intro s hs
 rcases hm.1.2 with ⟨h1,_⟩ | h1 | ⟨b,cap,h1,_⟩<;>(simp only at h1;rw [h1] at hs;cases hs)
theorem Fx.wk0 (h:Fx tt σ bs ms) (r:AV):Wk σ r tt r:=Wk.sub h.sub r
theorem Fx.nil (h:Fx tt σ bs ms) (e:TypeId) (sz:Nat):Fx tt σ bs (⟨.Yd,e,sz,[]⟩ :: ms) :=
 ⟨h.sub,h.var,h.nd,by
  intro m hm
  rcases Kl.1 hm with rfl | hm
  ·exact EZ.nil _ _ _ _
  ·exact h.own m hm,KE.2 ⟨fun _ _=>.inl rfl,h.sep⟩,by
  intro m hm
  rcases Kl.1 hm with rfl | hm
  ·exact .inl rfl
  ·exact h.wr m hm⟩
theorem Fx.lit (h:Fx tt σ bs ms) (e:TypeId) (sz:Nat) (rows:List (List AV)) (h0:rows=[]):Fx tt σ bs (⟨.sl true rows,e,sz,rows⟩ :: ms) :=
 ⟨h.sub,h.var,h.nd,by
  intro m hm
  rcases Kl.1 hm with rfl | hm
  ·exact EZ.lit _ _ _ _ _ (by subst h0;simp)
  ·exact h.own m hm,KE.2 ⟨fun _ _=>.inl rfl,h.sep⟩,by
  intro m hm
  rcases Kl.1 hm with rfl | hm
  ·exact .inl h0
  ·exact h.wr m hm⟩
theorem Fx.less (h:Fx tt σ bs ms) {bs':List (Nat × Ent)} {ms':List H2} (h1:bs'.Sublist bs) (h2:ms'.Sublist ms):Fx tt σ bs' ms' :=
 ⟨h.sub,fun p hp=>h.var p (h1.subset hp),h.nd.sublist (h1.map _),fun m hm=>h.own m (h2.subset hm),h.sep.sublist h2,fun m hm=>h.wr m (h2.subset hm)⟩
theorem Fx.new (h:Fx tt σ bs ms) {b:Nat} (hb:σ.dead b) (e:Ent):Fx tt (σ.YG b e) ((b,e) :: bs) ms:=by
 have hne:∀p∈bs,p.1≠b:=fun p hp he=>by have:=(h.var p hp).1;rw [he,hb.1] at this;cases this
 refine ⟨h.sub.YG (h.sub.dead hb).1 e,?_,?_,fun m hm=>(h.own m hm).same rfl,h.sep,h.wr⟩
 ·intro p hp
  rcases Kl.1 hp with rfl | hp
  ·exact ⟨by simp [Sto.YG],h.sub.dead hb⟩
  ·refine ⟨?_,(h.var p hp).2⟩;simp only [Sto.YG];rw [if_neg (hne p hp)];exact (h.var p hp).1
 ·rw [List.map_cons,List.nodup_cons];exact ⟨fun hm=>by obtain ⟨p,hp,he⟩:=QZ.1 hm;exact hne p hp he,h.nd⟩
theorem Fx.set (h:Fx tt σ bs ms) (i:Nat) {b:Nat} {e:Ent} (hi:bs[i]?=some (b,e)) (e':Ent):Fx tt (σ.YG b e') (bs.set i (b,e')) ms:=by
 have hb:=h.var _ (Qf hi);have hil:=(Qb.1 hi).1
 have hmap:(bs.set i (b,e')).map (·.1)=bs.map (·.1):=by
  rw [KH];apply KC;intro j;rw [Kq];split
  ·rename_i hj;subst hj;rw [QE,hi];simp [hil]
  ·rfl
 refine ⟨h.sub.YG hb.2.1 e',?_,by rw [hmap];exact h.nd,fun m hm=>(h.own m hm).same rfl,h.sep,h.wr⟩;intro p hp;obtain ⟨j,hj⟩:=Qq.1 hp;rw [Kq] at hj;split at hj
 ·rename_i hij
  first | rw [if_pos hil] at hj | skip
  injection hj with hj
  subst hj;exact ⟨by simp [Sto.YG],hb.2⟩
 ·rename_i hij;have hp':=h.var p (Qf hj);refine ⟨?_,hp'.2⟩
  have hne:p.1≠b:=by
   intro he;apply hij
   have h1:(bs.map (·.1))[i]?=some b:=by rw [QE,hi];rfl
   have h2:(bs.map (·.1))[j]?=some b:=by rw [QE,hj];simp [he]
   exact (Ky (by simpa using hil) h.nd).1 (h1.trans h2.symm)
  simp only [Sto.YG];rw [if_neg hne];exact hp'.1
theorem Fx.Qth (h:Fx tt σ bs ms) {b:Nat} {e:Ent} (hb:tt.var b=some e) (e':Ent):Fx (tt.YG b e') (σ.YG b e') bs ms:=by
 have hd:∀x,tt.dead x->(tt.YG b e').dead x:=fun x hx=>⟨by simp only [Sto.YG];rw [if_neg (fun he=>by subst he;rw [hx.1] at hb;cases hb)];exact hx.1,hx.2⟩;refine ⟨⟨fun x ex hx=>?_,h.sub.own⟩,?_,h.nd,fun m hm=>?_,h.sep,h.wr⟩
 ·simp only [Sto.YG] at hx ⊢;split at hx
  ·rename_i hxb;rw [if_pos hxb];exact hx
  ·rename_i hxb;rw [if_neg hxb];exact h.sub.var x ex hx
 ·intro p hp;obtain ⟨h1,h2⟩:=h.var p hp;refine ⟨?_,hd _ h2⟩;simp only [Sto.YG];rw [if_neg (fun he=>by rw [he] at h2;rw [h2.1] at hb;cases hb)];exact h1
 ·have:=h.own m hm;exact ⟨(this.same (ss':=σ.YG b e') rfl).1,this.2⟩
theorem Fx.app (h:Fx tt σ bs ms) (j:Nat) {v v':AV} {e:TypeId} {sz:Nat} {xs zs:List (List AV)} (hj:ms[j]?=some ⟨v,e,sz,xs⟩) {ss':Sto} (ha:GZ σ e sz v ss' v' zs):Fx tt ss' bs (ms.set j ⟨v',e,sz,zs⟩):=by
 obtain ⟨h1,h2⟩:=(h.DL j hj).app h.sub ha;have hjl:=(Qb.1 hj).1
 have hap:∀k m,k≠j->ms[k]?=some m->FP m ⟨v,e,sz,xs⟩:=by
  intro k m hk hm;have hkl:=(Qb.1 hm).1
  rcases KD k j with hlt | hge
  ·have:=Kp.1 h.sep k j hkl hjl hlt;rw [(Qb.1 hm).2,(Qb.1 hj).2] at this;exact this
  ·have:=Kp.1 h.sep j k hjl hkl (by omega);rw [(Qb.1 hm).2,(Qb.1 hj).2] at this;exact this.symm
 refine ⟨h2,fun p hp=>by rw [ha.var];exact h.var p hp,h.nd,?_,?_,?_⟩
 ·intro m hm;obtain ⟨k,hk⟩:=Qq.1 hm;rw [Kq] at hk;split at hk
  ·first | rw [if_pos hjl] at hk | skip
   injection hk with hk
   subst hk;exact h1
  ·rename_i hkj;exact ((h.DL k hk).other ha (hap k m (Ne.symm hkj) hk)).1
 ·rw [Kp];intro a b hal hbl hab;simp only [List.length_set] at hal hbl;have hpa:=Kp.1 h.sep a b hal hbl hab;rw [KB,KB];have ga:=Qj hal;have gb:=Qj hbl;split
  ·rename_i hja;subst hja;split
   ·omega
   ·exact FP.symm ((h.DL b gb).other ha (hap b _ (by omega) gb)).2
  ·rename_i hja;split
   ·exact ((h.DL a ga).other ha (hap a _ (by omega) ga)).2
   ·exact hpa
 ·intro m hm;obtain ⟨k,hk⟩:=Qq.1 hm;rw [Kq] at hk;split at hk
  ·first | rw [if_pos hjl] at hk | skip
   injection hk with hk
   subst hk
   rcases ha.cap with hc | hc
   ·rcases h.wr _ (Qf hj) with h3 | h3
    ·simp only at h3;subst h3;have ho:=ha.own.2;rw [← hc] at ho ⊢
     rcases (h.DL j hj).1.2 with ⟨h4,_⟩ | h4 | ⟨b,cap,h4,_⟩
     ·simp only at h4;rw [h4] at ho
      rcases ho with ⟨_,h5⟩ | h5 | ⟨b,cap,h5,_⟩
      ·exact .inl h5
      ·cases h5
      ·cases h5
     ·simp only at h4;rw [h4] at ho
      rcases ho with ⟨h5,_⟩ | h5 | ⟨b,cap,h5,_⟩
      ·cases h5
      ·injection h5 with h6 h7;exact .inl h7.symm
      ·cases h5
     ·simp only at h4;rw [h4];exact .inr (by simp [AV.blk])
    ·exact .inr (by rw [← hc];exact h3)
   ·exact .inr (.inl hc)
  ·exact h.wr m (Qf hk)
theorem Ya (hF:Fx tt σ bs ms) {cs:List AV} {ty:TypeId} {T:Nat->AV} {d:Tmp} {K:AS->Prop} {n:Nat} (hn:cs.length=n) (h:∀b ss',Fx tt ss' ((b,⟨ty,n,cs⟩) :: bs) ms->K ⟨upd T d (.ptr b 0),ss'⟩):Im (some cs) ty ⟨T,σ⟩ (some d) K:=by
 subst hn;exact fun b hb=>h b _ (hF.new hb _)
theorem HH (hF:Fx tt σ bs ms) {cs:List AV} {ty:TypeId} {T:Nat->AV} {d:Tmp} {K:AS->Prop} {n:Nat} (hn:cs.length=n) (h:∀b ss',Fx tt ss' ((b,⟨ty,n,cs⟩) :: bs) ms->K ⟨upd T d (.ptr b 0),ss'⟩):Im (some cs) ty ⟨T,σ⟩ (some d) (kp E σ K):=by
 subst hn;exact fun b hb=>Bs (FO.new hb.1 _) (h b _ (hF.new hb _))
theorem Qjj (hF:Fx tt σ bs ms) (i:Nat) {b o k n:Nat} {ty:TypeId} {ag:Bool} {cells cs cells':List AV} {v:AV} {T:Nat->AV} {K:AS->Prop} (hi:bs[i]?=some (b,⟨ty,n,cells⟩)) (hc:Vx v=some cs) (hl:cs.length=k) (hle:o+k<=cells.length) (hs:Ww cells o cs=cells')
  (h:∀ss',Fx tt ss' (bs.set i (b,⟨ty,n,cells'⟩)) ms->K ⟨T,ss'⟩):Ab (JL (some (ag,k)) σ (.ptr b o) v) ⟨T,σ⟩ none K:=by
 subst hs
 have e:JL (some (ag,k)) σ (.ptr b o) v=some (σ.YG b ⟨ty,n,Ww cells o cs⟩):=by
  rw [ET,hc,Qh,if_pos hl,hF.at i hi,Qh];exact if_pos hle
 rw [e];exact h _ (hF.set i hi _)
theorem Qgt (hF:Fx tt σ bs ms) {b o k n:Nat} {ty:TypeId} {ag:Bool} {cells cs cells':List AV} {v:AV} {T:Nat->AV} {K:AS->Prop} (hi:tt.var b=some ⟨ty,n,cells⟩) (hc:Vx v=some cs) (hl:cs.length=k) (hle:o+k<=cells.length) (hs:Ww cells o cs=cells')
  (h:∀ss',Fx (tt.YG b ⟨ty,n,cells'⟩) ss' bs ms->K ⟨T,ss'⟩):Ab (JL (some (ag,k)) σ (.ptr b o) v) ⟨T,σ⟩ none K:=by
 subst hs
 have e:JL (some (ag,k)) σ (.ptr b o) v=some (σ.YG b ⟨ty,n,Ww cells o cs⟩):=by
  rw [ET,hc,Qh,if_pos hl,hF.sub.var b _ hi,Qh];exact if_pos hle
 rw [e];exact h _ (hF.Qth hi _)
theorem Qlo (hF:Fx tt σ bs ms) (j:Nat) {v y:AV} {e:TypeId} {sz by_:Nat} {α:Type} {g:α->List AV} {xs ys zs:List α} {T:Nat->AV} {d:Tmp} {K:AS->Prop} (hj:ms[j]?=some ⟨v,e,sz,rws g xs⟩) (hsz:0 < sz) (hby:0 < by_) (hy:RdL σ sz y (rws g ys)) (hb:WT by_ xs ys=some zs)
  (h:∀v' ss',Fx tt ss' bs (ms.set j ⟨v',e,sz,rws g zs⟩)->K ⟨upd T d v',ss'⟩):JK (some (e,sz,by_)) v y ⟨T,σ⟩ (some d) K:=by
 obtain ⟨rfl,hb2⟩:=Bg hb;refine ⟨rws g xs,rws g ys,hsz,hby,(hF.DL j hj).1,hy,by simpa only [Jl] using hb2,fun v' ss' hp=>?_⟩;rw [← Bi] at hp;exact ⟨v',ss',Wk1.refl _ _,h v' ss' (hF.app j hj hp)⟩
theorem Qnd (hF:Fx tt σ bs ms) (j:Nat) {v y:AV} {e:TypeId} {sz by_:Nat} {α:Type} {g:α->List AV} {xs ys zs:List α} {T:Nat->AV} {d:Tmp} {K:AS->Prop} (hj:ms[j]?=some ⟨v,e,sz,rws g xs⟩) (hsz:0 < sz) (hby:0 < by_) (hy:RdL σ sz y (rws g ys)) (hb:WT by_ xs ys=some zs)
  (h:∀v' ss',Fx tt ss' bs (ms.set j ⟨v',e,sz,rws g zs⟩)->K ⟨upd T d v',ss'⟩):JK (some (e,sz,by_)) v y ⟨T,σ⟩ (some d) (kp E σ K):=by
 obtain ⟨rfl,hb2⟩:=Bg hb;refine ⟨rws g xs,rws g ys,hsz,hby,(hF.DL j hj).1,hy,by simpa only [Jl] using hb2,fun v' ss' hp=>?_⟩;have hv:=hp.var;rw [← Bi] at hp;exact ⟨v',ss',Wk1.refl _ _,Bs (FO.RC hv) (h v' ss' (hF.app j hj hp))⟩
theorem RdL.Quj {σ:Sto} {c:Bool} {sz:Nat} {α:Type} {g:α->List AV} (hs:∀x,(g x).length=sz) (ys:List α):RdL σ sz (.sl c (rws g ys)) (rws g ys):=RdL.sl _ _ _ _ (Cc hs ys)
theorem MY {α:Type} {g:α->List AV} {e:TypeId} {sz by_:Nat} {x y:AV} {xs ys zs:List α} {s:AS} {dst:Option Tmp} {K:AS->Prop} (hs:∀x,(g x).length=sz) (hsz:0 < sz) (hby:0 < by_) (hx:(x=.Yd/\xs=[])∨x=.sl true (rws g xs)) (hy:(y=.Yd/\ys=[])∨∃c,y=.sl c (rws g ys))
  (hb:WT by_ xs ys=some zs) (hK:K (s.put dst (.sl false (rws g zs)))):Qre (some (e,sz,by_)) x y s dst K:=by
 obtain ⟨rfl,hb2⟩:=Bg hb;refine Qdz (xs:=rws g xs) (ys:=rws g ys) hsz hby (hx.imp (fun h=>⟨h.1,by rw [h.2];rfl⟩) id) (Cc hs xs) (hy.imp (fun h=>⟨h.1,by rw [h.2];rfl⟩) id) (Cc hs ys) (by simpa only [Jl] using hb2) ?_;rw [← Bi];exact hK
theorem Qqe {rs:List ResultVar} {T:Nat->AV} {vs:List AV} {v:AV} (h:M1 P ⟨T,σ⟩ rs=some vs) (hw:Wk σ (packed vs) tt v):ID P rs (fun r ss'=>r=v/\ss'=tt) ⟨T,σ⟩:=Qma h hw
theorem Qpd {c:AV} (p:Prop) [Decidable p] {x y:Code} {Q:AX->AS->Prop} {s:AS} (hc:c=.bool (decide p)) (h1:p->GH P x Q s) (h2:¬p->GH P y Q s):Qb9 P c x y Q s :=
 .inl ⟨_,hc,fun h=>h1 (of_decide_eq_true h),fun h=>h2 (of_decide_eq_false h)⟩
theorem Qpc {c:AV} (p:Prop) [Decidable p] {x y:Code} {Q:AX->AS->Prop} {s:AS} (hc:c=.bool (!decide p)) (h1:¬p->GH P x Q s) (h2:p->GH P y Q s):Qb9 P c x y Q s :=
 .inl ⟨_,hc,fun h=>h1 (by simpa using h),fun h=>h2 (by simpa using h)⟩
theorem Qpb {c:AV} (b:Bool) {x y:Code} {Q:AX->AS->Prop} {s:AS} (hc:c=.bool b) (h1:b=true->GH P x Q s) (h2:¬b=true->GH P y Q s):Qb9 P c x y Q s :=
 .inl ⟨_,hc,h1,fun h=>h2 (by simp [h])⟩
def Fy:Code->List Code
 | .seq a b=>Fy a++Fy b
 | .cond _ a b=>Fy a++Fy b
 | .block _ c=>Fy c
 | .loop c=>c :: Fy c
 | _=>[]
def Yg (f:Func) (i:Nat):Option Code:=f.body.bind fun c=>(Fy c)[i]?
theorem Fm.Yb (f:Fm):f.cells=[.int .i64 f.kind,.str f.name,.int .i64 f.num,.sl false (rws cI f.sc),.sl false (rws Fm.cells f.kids)]:=by
 cases f;rw [Fm.cells,Qkb,Qq8];rfl
theorem Fm.eta (f:Fm):Fm.mk f.kind f.name f.num f.sc f.kids=f:=by cases f;rfl
end
theorem Qar {P:Program} {D:List (Option Tmp)} (K:AS->Prop):∀(a b:List Oper) (s:AS),Pk P D (a++b) K s=Pk P D a (Pk P D b K) s
 | [],b,s=>rfl
 | o :: a,b,s=>by
  simp only [Kj,S1]
  congr 1
  funext s';exact Qar K a b s'
theorem Yc {P:Program} (n lo d:Nat) (v:AV) {g:Option Bool} {o:Oper} {D:List (Option Tmp)} {os:List Oper} {T:Nat->AV} {σ:Sto} {K:AS->Prop}
  (h:aGd P g o ⟨T,σ⟩ (Pk P D (os.take n) fun s'=>∃J,s'=⟨upd (low lo J T) d v,σ⟩)) (hK:∀J,Pk P D (os.drop n) K ⟨upd (low lo J T) d v,σ⟩):aGd P g o ⟨T,σ⟩ (Pk P D os K):=by
 have e:Pk P D os K=Pk P D (os.take n) (Pk P D (os.drop n) K):=by
  funext s';rw [← Qar,Kt]
 rw [e];exact Ql9 lo d v h hK
theorem SG {P:Program} {E:Nat->Prop} {D:List (Option Tmp)} (K:AS->Prop):∀(a b:List (Cl × Oper)) (s:AS),LI P E D (a++b) K s=LI P E D a (LI P E D b K) s
 | [],b,s=>rfl
 | o :: a,b,s=>by
  obtain ⟨c,o⟩:=o;simp only [Kj,Ui]
  congr 1
  funext s';exact SG K a b s'
theorem V0 {P:Program} {E:Nat->Prop} (n lo d:Nat) (v:AV) {g:Option Bool} {c:Cl} {o:Oper} {D:List (Option Tmp)} {os:List (Cl × Oper)} {T:Nat->AV} {σ:Sto} {K:AS->Prop}
  (h:tGd P E g c o ⟨T,σ⟩ (LI P E D (os.take n) fun s'=>∃J,s'=⟨upd (low lo J T) d v,σ⟩)) (hK:∀J,LI P E D (os.drop n) K ⟨upd (low lo J T) d v,σ⟩):tGd P E g c o ⟨T,σ⟩ (LI P E D os K):=by
 have e:LI P E D os K=LI P E D (os.take n) (LI P E D (os.drop n) K):=by
  funext s';rw [← SG,Kt]
 rw [e];exact Qog lo d v h hK
theorem Qui {p:Prop} [Decidable p] (h:(!decide p)=true):¬p:=by simpa using h
theorem Quh {p:Prop} [Decidable p] (h:(!decide p)=false):p:=by simpa using h
theorem b_f {b:Bool} (h:b=false):¬b=true:=by simp [h]
def cB (x:Bool):List AV:=[.bool x]
theorem RdL.of {σ:Sto} {c:Bool} {sz:Nat} {α:Type} {g:α->List AV} {ys:List α} {y:AV} (hs:∀x,(g x).length=sz) (h:y=.sl c (rws g ys)):RdL σ sz y (rws g ys):=by
 subst h;exact RdL.Quj hs ys
def Qhq:Sto:=⟨fun _=>none,fun _=>none⟩
theorem Sub.zero (σ:Sto):Sub Qhq σ:=⟨(fun _ _ h=>by cases h),(fun _ _ h=>by cases h)⟩
inductive Flat:AV->Prop
 | int {k:IntKind} {n:Int} : Flat (.int k n)
 | bool {b:Bool} : Flat (.bool b)
 | str {s:ByteArray} : Flat (.str s)
 | unit:Flat (.tup [])
theorem Flat.rv {σ ss':Sto} {w:World} {a:AV} {v:Value} (h:Flat a) (hr:Rv σ w a v):Rv ss' w a v:=by
 cases h<;>cases hr
 ·exact .int
 ·exact .bool
 ·rename_i h;exact .str h
 ·exact .tup (by assumption) (fun i c h=>by simp at h)
theorem Qhr (w:World):Sim Qhq w:=⟨(fun _ _ h=>by cases h),(fun _ _ h=>by cases h)⟩
theorem P6 {P:Program} {f:FuncId} {args bs:List AV} {v:AV} {T:Nat->AV} {σ:Sto} {dst:Option Tmp} {K:AS->Prop} (h:VP P f bs v) (hv:Flat v) (hw:WkL σ Qhq args bs) (hK:K (AS.put ⟨T,σ⟩ dst v)):M0 P (.fn f []) args ⟨T,σ⟩ dst K:=by
 show Ctr P f (args++[]) σ _;rw [KK];refine ⟨(h Qhq).1,fun w cargs hs htb hl hr=>?_⟩;refine Calls.mono ((h Qhq).2 w cargs (Qhr w) (htb.drop fun _ _=>⟨rfl,rfl⟩) (by rw [hl,hw.length]) (fun i b hb=>?_)) ?_
 ·obtain ⟨a,ha,h1,_⟩:=hw.get i b hb;exact (h1 w _ hs (hr i a ha)).2.1
 ·rintro e w' ⟨v',r,ss',rfl,hst,hsim,hrv,rfl,rfl⟩;have hst2:Step σ w σ w':=⟨hst.os,hst.tape,hst.output,hst.size,fun b hb hd=>⟨(hst.dead b hb ⟨rfl,rfl⟩).1,hd⟩⟩;refine ⟨v',r,σ,rfl,hst2,?_,hv.rv hrv,hK⟩;refine hs.step hst2 (fun _ _ h=>h) (fun _ _ h=>h) (fun b hd=>?_);exact (hst.dead b (hs.Sj hd) ⟨rfl,rfl⟩).1
attribute [go_sem] Jl VQ Vn cI cS cU cL cB Fm.Yb
end Go.Proofs.Shadow
namespace Go.Proofs.Shadow
open Go Go.RowKit
noncomputable instance ccpo4 {α β γ δ ε:Type} [Lean.Order.CCPO ε]:Lean.Order.CCPO (α->β->γ->δ->ε):=inferInstance
structure Stp where
 id:Int
 rule:Int
 scope:Int
 use:Fm
 res:Fm
def Stp.cells (x:Stp):List AV:=[.int .i64 x.id,.int .i64 x.rule,.int .i64 x.scope]++(x.use.cells++x.res.cells)
theorem Stp.Yb (x:Stp):x.cells=[.int .i64 x.id,.int .i64 x.rule,.int .i64 x.scope,.int .i64 x.use.kind,.str x.use.name,.int .i64 x.use.num,.sl false (rws cI x.use.sc),.sl false (rws Fm.cells x.use.kids),.int .i64 x.res.kind,.str x.res.name,.int .i64 x.res.num,.sl false (rws cI x.res.sc),.sl false (rws Fm.cells x.res.kids)]:=by
 simp only [Stp.cells,Fm.Yb];rfl
theorem Stp.X6 (x:Stp):x.cells.length=13:=by rw [Stp.Yb];rfl
structure Bnd where
 name:ByteArray
 sc:List Int
 id:Int
def Bnd.cells (x:Bnd):List AV:=[.str x.name,.sl false (rws cI x.sc),.int .i64 x.id]
theorem Bnd.Yb (x:Bnd):x.cells=[.str x.name,.sl false (rws cI x.sc),.int .i64 x.id]:=(rfl)
theorem Bnd.X6 (x:Bnd):x.cells.length=3:=(rfl)
structure Rul where
 pat:Fm
 tpl:Fm
def Rul.cells (x:Rul):List AV:=x.pat.cells++x.tpl.cells
theorem Rul.Yb (x:Rul):x.cells=[.int .i64 x.pat.kind,.str x.pat.name,.int .i64 x.pat.num,.sl false (rws cI x.pat.sc),.sl false (rws Fm.cells x.pat.kids),.int .i64 x.tpl.kind,.str x.tpl.name,.int .i64 x.tpl.num,.sl false (rws cI x.tpl.sc),.sl false (rws Fm.cells x.tpl.kids)]:=by
 simp only [Rul.cells,Fm.Yb];rfl
theorem Rul.X6 (x:Rul):x.cells.length=10:=by rw [Rul.Yb];rfl
structure Mac where
 id:Int
 lits:List Fm
 rules:List Rul
def Mac.cells (x:Mac):List AV:=[.int .i64 x.id,.sl false (rws Fm.cells x.lits),.sl false (rws Rul.cells x.rules)]
theorem Mac.Yb (x:Mac):x.cells=[.int .i64 x.id,.sl false (rws Fm.cells x.lits),.sl false (rws Rul.cells x.rules)]:=(rfl)
theorem Mac.X6 (x:Mac):x.cells.length=3:=(rfl)
structure Xpn where
 binds:List Bnd
 macs:List Mac
 scope:Int
 id:Int
 steps:Int
def Xpn.cells (x:Xpn):List AV:=[.sl false (rws Bnd.cells x.binds),.sl false (rws Mac.cells x.macs),.int .i64 x.scope,.int .i64 x.id,.int .i64 x.steps]
theorem Xpn.Yb (x:Xpn):x.cells=[.sl false (rws Bnd.cells x.binds),.sl false (rws Mac.cells x.macs),.int .i64 x.scope,.int .i64 x.id,.int .i64 x.steps]:=(rfl)
theorem Xpn.X6 (x:Xpn):x.cells.length=5:=(rfl)
structure Rdr where
 b:List Int
 p:Int
def Rdr.cells (x:Rdr):List AV:=[.sl false (rws cU x.b),.int .i64 x.p]
theorem Rdr.Yb (x:Rdr):x.cells=[.sl false (rws cU x.b),.int .i64 x.p]:=(rfl)
theorem Rdr.X6 (x:Rdr):x.cells.length=2:=(rfl)
structure Scn where
 s:ByteArray
 bad:Bool
def Scn.cells (x:Scn):List AV:=[.str x.s,.bool x.bad]
theorem Scn.Yb (x:Scn):x.cells=[.str x.s,.bool x.bad]:=(rfl)
theorem Scn.X6 (x:Scn):x.cells.length=2:=(rfl)
structure Mch where
 fuel:Int
 code:Int
def Mch.cells (x:Mch):List AV:=[.int .i64 x.fuel,.int .i64 x.code]
theorem Mch.Yb (x:Mch):x.cells=[.int .i64 x.fuel,.int .i64 x.code]:=(rfl)
theorem Mch.X6 (x:Mch):x.cells.length=2:=(rfl)
structure Xdr where
 x:Xpn
 budget:Int
 naive:Bool
 code:Int
 steps:List Stp
def Xdr.cells (g:Xdr):List AV:=g.x.cells++[.int .i64 g.budget,.bool g.naive,.int .i64 g.code,.sl false (rws Stp.cells g.steps)]
theorem Xdr.Yb (g:Xdr):g.cells=[.sl false (rws Bnd.cells g.x.binds),.sl false (rws Mac.cells g.x.macs),.int .i64 g.x.scope,.int .i64 g.x.id,.int .i64 g.x.steps,.int .i64 g.budget,.bool g.naive,.int .i64 g.code,.sl false (rws Stp.cells g.steps)]:=(rfl)
theorem Xdr.X6 (x:Xdr):x.cells.length=9:=(rfl)
inductive Cor where
 | mk (kind id:Int) (name:ByteArray) (num:Int) (ids:List Int) (data:Fm) (kids:List Cor)
def Cor.kind:Cor->Int | .mk k _ _ _ _ _ _=>k
def Cor.id:Cor->Int | .mk _ i _ _ _ _ _=>i
def Cor.name:Cor->ByteArray | .mk _ _ s _ _ _ _=>s
def Cor.num:Cor->Int | .mk _ _ _ n _ _ _=>n
def Cor.ids:Cor->List Int | .mk _ _ _ _ l _ _=>l
def Cor.data:Cor->Fm | .mk _ _ _ _ _ d _=>d
def Cor.kids:Cor->List Cor | .mk _ _ _ _ _ _ ks=>ks
mutual
def Cor.cells:Cor->List AV
 | .mk k i s n l d ks=>[.int .i64 k,.int .i64 i,.str s,.int .i64 n,.sl false (rws cI l),.int .i64 d.kind,.str d.name,.int .i64 d.num,.sl false (rws cI d.sc),.sl false (rws Fm.cells d.kids),.sl false (Cor.rows ks)]
def Cor.rows:List Cor->List (List AV)
 | []=>[]
 | f :: fs=>f.cells :: Cor.rows fs
end
theorem Cor.Ae:∀fs:List Cor,Cor.rows fs=rws Cor.cells fs
 | []=>rfl
 | f :: fs=>by rw [Cor.rows,Cor.Ae fs];rfl
theorem Cor.Yb (x:Cor):x.cells=[.int .i64 x.kind,.int .i64 x.id,.str x.name,.int .i64 x.num,.sl false (rws cI x.ids),.int .i64 x.data.kind,.str x.data.name,.int .i64 x.data.num,.sl false (rws cI x.data.sc),.sl false (rws Fm.cells x.data.kids),.sl false (rws Cor.cells x.kids)]:=by
 cases x;rw [Cor.cells,Cor.Ae];rfl
theorem Cor.X6 (x:Cor):x.cells.length=11:=by rw [Cor.Yb];rfl
inductive Hit where
 | mk (name:Fm) (depth:Int) (one:Fm) (many:List Hit)
def Hit.name:Hit->Fm | .mk n _ _ _=>n
def Hit.depth:Hit->Int | .mk _ d _ _=>d
def Hit.one:Hit->Fm | .mk _ _ o _=>o
def Hit.many:Hit->List Hit | .mk _ _ _ m=>m
mutual
def Hit.cells:Hit->List AV
 | .mk n d o m=>[.int .i64 n.kind,.str n.name,.int .i64 n.num,.sl false (rws cI n.sc),.sl false (rws Fm.cells n.kids),.int .i64 d,.int .i64 o.kind,.str o.name,.int .i64 o.num,.sl false (rws cI o.sc),.sl false (rws Fm.cells o.kids),.sl false (Hit.rows m)]
def Hit.rows:List Hit->List (List AV)
 | []=>[]
 | f :: fs=>f.cells :: Hit.rows fs
end
theorem Hit.Ae:∀fs:List Hit,Hit.rows fs=rws Hit.cells fs
 | []=>rfl
 | f :: fs=>by rw [Hit.rows,Hit.Ae fs];rfl
theorem Hit.Yb (x:Hit):x.cells=[.int .i64 x.name.kind,.str x.name.name,.int .i64 x.name.num,.sl false (rws cI x.name.sc),.sl false (rws Fm.cells x.name.kids),.int .i64 x.depth,.int .i64 x.one.kind,.str x.one.name,.int .i64 x.one.num,.sl false (rws cI x.one.sc),.sl false (rws Fm.cells x.one.kids),.sl false (rws Hit.cells x.many)]:=by
 cases x;rw [Hit.cells,Hit.Ae];rfl
theorem Hit.X6 (x:Hit):x.cells.length=12:=by rw [Hit.Yb];rfl
mutual
inductive Val where
 | mk (kind num:Int) (name:ByteArray) (items:List Val) (fn:Cor) (env:List Slt)
inductive Slt where
 | mk (id:Int) (val:Val)
end
def Val.kind:Val->Int | .mk k _ _ _ _ _=>k
def Val.num:Val->Int | .mk _ n _ _ _ _=>n
def Val.name:Val->ByteArray | .mk _ _ s _ _ _=>s
def Val.items:Val->List Val | .mk _ _ _ l _ _=>l
def Val.fn:Val->Cor | .mk _ _ _ _ f _=>f
def Val.env:Val->List Slt | .mk _ _ _ _ _ e=>e
def Slt.id:Slt->Int | .mk i _=>i
def Slt.val:Slt->Val | .mk _ v=>v
mutual
def Val.cells:Val->List AV
 | .mk k n s l f e=>[.int .i64 k,.int .i64 n,.str s,.sl false (Val.rows l),.int .i64 f.kind,.int .i64 f.id,.str f.name,.int .i64 f.num,.sl false (rws cI f.ids),.int .i64 f.data.kind,.str f.data.name,.int .i64 f.data.num,.sl false (rws cI f.data.sc),.sl false (rws Fm.cells f.data.kids),.sl false (rws Cor.cells f.kids),.sl false (Slt.rows e)]
def Val.rows:List Val->List (List AV)
 | []=>[]
 | f :: fs=>f.cells :: Val.rows fs
def Slt.cells:Slt->List AV
 | .mk i v=>.int .i64 i :: v.cells
def Slt.rows:List Slt->List (List AV)
 | []=>[]
 | f :: fs=>f.cells :: Slt.rows fs
end
theorem Val.Ae:∀fs:List Val,Val.rows fs=rws Val.cells fs
 | []=>rfl
 | f :: fs=>by rw [Val.rows,Val.Ae fs];rfl
theorem Slt.Ae:∀fs:List Slt,Slt.rows fs=rws Slt.cells fs
 | []=>rfl
 | f :: fs=>by rw [Slt.rows,Slt.Ae fs];rfl
theorem Val.Yb (x:Val):x.cells=[.int .i64 x.kind,.int .i64 x.num,.str x.name,.sl false (rws Val.cells x.items),.int .i64 x.fn.kind,.int .i64 x.fn.id,.str x.fn.name,.int .i64 x.fn.num,.sl false (rws cI x.fn.ids),.int .i64 x.fn.data.kind,.str x.fn.data.name,.int .i64 x.fn.data.num,.sl false (rws cI x.fn.data.sc),.sl false (rws Fm.cells x.fn.data.kids),.sl false (rws Cor.cells x.fn.kids),.sl false (rws Slt.cells x.env)]:=by
 cases x;rw [Val.cells,Val.Ae,Slt.Ae];rfl
theorem Val.X6 (x:Val):x.cells.length=16:=by rw [Val.Yb];rfl
theorem Slt.Yb (x:Slt):x.cells=[.int .i64 x.id,.int .i64 x.val.kind,.int .i64 x.val.num,.str x.val.name,.sl false (rws Val.cells x.val.items),.int .i64 x.val.fn.kind,.int .i64 x.val.fn.id,.str x.val.fn.name,.int .i64 x.val.fn.num,.sl false (rws cI x.val.fn.ids),.int .i64 x.val.fn.data.kind,.str x.val.fn.data.name,.int .i64 x.val.fn.data.num,.sl false (rws cI x.val.fn.data.sc),.sl false (rws Fm.cells x.val.fn.data.kids),.sl false (rws Cor.cells x.val.fn.kids),.sl false (rws Slt.cells x.val.env)]:=by
 cases x;rw [Slt.cells,Val.Yb];rfl
theorem Slt.X6 (x:Slt):x.cells.length=17:=by rw [Slt.Yb];rfl
attribute [go_sem] Stp.Yb Bnd.Yb Rul.Yb Mac.Yb Xpn.Yb Rdr.Yb Scn.Yb Mch.Yb Xdr.Yb Cor.Yb Hit.Yb Val.Yb Slt.Yb
end Go.Proofs.Shadow
namespace Go.Proofs.Shadow
open Go Go.RowKit
noncomputable def strip (σ:Sto) (ms:List H2):Sto:=⟨σ.var,fun b=>@ite _ (∃m∈ms,m.v.blk=some b) (Classical.propDecidable _) none (σ.own b)⟩
theorem Qds {σ:Sto} {ms:List H2} {b:Nat} {m:H2} (hm:m∈ms) (hb:m.v.blk=some b):(strip σ ms).own b=none:=by
 simp only [strip];rw [if_pos ⟨m,hm,hb⟩]
theorem MF {σ:Sto} {ms:List H2} {b:Nat} (h:∀m∈ms,m.v.blk≠some b):(strip σ ms).own b=σ.own b:=by
 simp only [strip];rw [if_neg (fun ⟨m,hm,hb⟩=>h m hm hb)]
structure Tau (tt0:Sto) (es:List (Nat × Ent)) (tt:Sto):Prop where
 own:tt.own=tt0.own
 at':∀p∈es,tt.var p.1=some p.2
 off:∀b,(∀p∈es,p.1≠b)->tt.var b=tt0.var b
 live:∀p∈es,tt0.var p.1≠none
 nd:(es.map (·.1)).Nodup
structure Pre (σ:Sto) (es:List (Nat × Ent)) (ms:List H2):Prop where
 at':∀p∈es,σ.var p.1=some p.2
 nd:(es.map (·.1)).Nodup
 own:∀m∈ms,P5 σ m.e m.sz m.v m.rows
 sep:ms.Pairwise FP
 wr:∀m∈ms,m.rows=[]∨(m.v.blk≠none∨m.sz=17)
theorem Pre.start {σ:Sto} {es:List (Nat × Ent)} {ms:List H2} (h:Pre σ es ms):Fx (strip σ ms) σ [] ms/\Tau (strip σ ms) es (strip σ ms):=by
 refine ⟨⟨⟨fun b e hb=>hb,fun b e hb=>?_⟩,by simp,by simp,fun m hm=>⟨h.own m hm,fun b hb=>Qds hm hb⟩,h.sep,h.wr⟩,⟨rfl,h.at',fun _ _=>rfl,fun p hp=>by
  rw [show (strip σ ms).var p.1=σ.var p.1 from rfl,h.at' p hp];simp,h.nd⟩⟩
 simp only [strip] at hb;split at hb
 ·cases hb
 ·exact hb
theorem Tau.at {tt0 tt:Sto} {es:List (Nat × Ent)} (h:Tau tt0 es tt) (i:Nat) {b:Nat} {e:Ent} (hi:es[i]?=some (b,e)):tt.var b=some e:=h.at' _ (Qf hi)
section
variable {P:Program} {E:Nat->Prop} {tt0 tt σ:Sto} {es bs:List (Nat × Ent)} {ms:List H2}
theorem Fx.xat (hF:Fx tt σ bs ms) (h:Tau tt0 es tt) (i:Nat) {b:Nat} {e:Ent} (hi:es[i]?=some (b,e)):σ.var b=some e:=hF.sub.var _ _ (h.at i hi)
theorem Qjy {l:List (Nat × Ent)} {i:Nat} {b:Nat} {e e':Ent} (hi:l[i]?=some (b,e)):(l.set i (b,e')).map (·.1)=l.map (·.1):=by
 have hil:=(Qb.1 hi).1;rw [KH];apply KC;intro j;rw [Kq];split
 ·rename_i hj;subst hj;rw [QE,hi];simp [hil]
 ·rfl
theorem Tau.set (h:Tau tt0 es tt) (i:Nat) {b:Nat} {e:Ent} (hi:es[i]?=some (b,e)) (e':Ent):Tau tt0 (es.set i (b,e')) (tt.YG b e'):=by
 have hil:=(Qb.1 hi).1;have hk:=Qjy (e':=e') hi;refine ⟨h.own,fun p hp=>?_,fun x hx=>?_,fun p hp=>?_,by rw [hk];exact h.nd⟩
 ·obtain ⟨j,hj⟩:=Qq.1 hp;rw [Kq] at hj;split at hj
  ·first | rw [if_pos hil] at hj | skip
   injection hj with hj;subst hj;simp [Sto.YG]
  ·rename_i hij;have hne:p.1≠b:=fun he=>hij ((Ky (by simpa using hil) h.nd).1 (by rw [QE,hi,QE,hj];simp [he]));simp only [Sto.YG];rw [if_neg hne];exact h.at' p (Qf hj)
 ·have hxb:x≠b:=fun he=>hx (b,e') (Qq.2 ⟨i,by simp [Kq,hil]⟩) he.symm;simp only [Sto.YG];rw [if_neg hxb];refine h.off x (fun p hp=>?_);obtain ⟨j,hj⟩:=Qq.1 hp
  by_cases hij:j=i
  ·subst hij;rw [hi] at hj;injection hj with hj;subst hj;exact Ne.symm hxb
  ·exact hx p (Qq.2 ⟨j,by rw [Kq,if_neg (Ne.symm hij)];exact hj⟩)
 ·have:p.1∈(es.set i (b,e')).map (·.1):=QZ.2 ⟨p,hp,rfl⟩;rw [hk] at this;obtain ⟨q,hq,he⟩:=QZ.1 this;rw [← he];exact h.live q hq
theorem Qgs (hF:Fx tt σ bs ms) (hX:Tau tt0 es tt) (i:Nat) {b o k n:Nat} {ty:TypeId} {ag:Bool} {cells cs cells':List AV} {v:AV} {T:Nat->AV} {K:AS->Prop} (hi:es[i]?=some (b,⟨ty,n,cells⟩)) (hc:Vx v=some cs) (hl:cs.length=k) (hle:o+k<=cells.length) (hs:Ww cells o cs=cells')
  (h:∀tt' ss',Fx tt' ss' bs ms->Tau tt0 (es.set i (b,⟨ty,n,cells'⟩)) tt'->K ⟨T,ss'⟩):Ab (JL (some (ag,k)) σ (.ptr b o) v) ⟨T,σ⟩ none K :=
 Qgt hF (hX.at i hi) hc hl hle hs (fun ss' hF'=>h _ ss' hF' (hX.set i hi _))
def pk {α:Type} (l:List α) (is:List Nat):List α:=is.filterMap (l[·]?)
theorem Qg9 {α:Type} {l:List α} {is:List Nat} {x:α} (h:x∈pk l is):x∈l:=by
 obtain ⟨i,_,hi⟩:=KO.1 h;exact Qf hi
theorem FA {α:Type} {R:α->α->Prop} (hs:∀a b,R a b->R b a) {l:List α} (h:l.Pairwise R):∀{is:List Nat},is.Nodup->(pk l is).Pairwise R
 | [],_=>List.Pairwise.nil
 | i :: is,hn=>by
  rw [List.nodup_cons] at hn;unfold pk;rw [List.filterMap_cons];have ih:=FA hs h hn.2
  cases hi:l[i]? with
  | none=>exact ih
  | some x =>
   refine KE.2 ⟨fun y hy=>?_,ih⟩;obtain ⟨j,hj,hy⟩:=KO.1 hy;have hij:i≠j:=fun he=>hn.1 (he▸hj);obtain ⟨hil,hix⟩:=Qb.1 hi;obtain ⟨hjl,hjy⟩:=Qb.1 hy
   rcases KD i j with hlt | hge
   ·have:=Kp.1 h i j hil hjl hlt;rwa [hix,hjy] at this
   ·have:=Kp.1 h j i hjl hil (by omega);rw [hix,hjy] at this;exact hs _ _ this
theorem Qq4 {α β:Type} (f:α->β) (l:List α) (is:List Nat):(pk l is).map f=pk (l.map f) is:=by
 unfold pk;rw [List.map_filterMap]
 congr 1
 funext i
 simp
theorem Fx.pick (h:Fx tt σ bs ms) (is js:List Nat) (hi:is.Nodup) (hj:js.Nodup):Fx tt σ (pk bs is) (pk ms js) :=
 ⟨h.sub,fun p hp=>h.var p (Qg9 hp),by rw [Qq4];exact FA (R:=(· ≠ ·)) (fun _ _ h=>Ne.symm h) h.nd hi,fun m hm=>h.own m (Qg9 hm),FA (fun _ _ h=>h.symm) h.sep hj,fun m hm=>h.wr m (Qg9 hm)⟩
theorem Fx.after {esL esX bsr xsr esL' esX' bn:List (Nat × Ent)} {ms0 msr ms':List H2} {tt' ss':Sto} (hF:Fx tt σ (esL++bsr) (ms0++msr)) (hX:Tau tt0 (esX++xsr) tt) (hT:Tau (strip σ ms0) (esL'++esX') tt') (hG:Fx tt' ss' bn ms')
  (kL:esL'.map (·.1)=esL.map (·.1)) (kX:esX'.map (·.1)=esX.map (·.1)):∃tt2,Tau tt0 (esX'++xsr) tt2/\Fx tt2 ss' (bn++(esL'++bsr)) (ms'++msr):=by
 have keyL:∀p∈esL',p.1∈esL.map (·.1):=fun p hp=>by rw [← kL];exact QZ.2 ⟨p,hp,rfl⟩
 have keyX:∀p∈esX',p.1∈esX.map (·.1):=fun p hp=>by rw [← kX];exact QZ.2 ⟨p,hp,rfl⟩
 have keyX2:∀p∈esX,p.1∈esX'.map (·.1):=fun p hp=>by rw [kX];exact QZ.2 ⟨p,hp,rfl⟩
 have liveX:∀p∈esX++xsr,tt.var p.1≠none:=fun p hp=>by rw [hX.at' p hp];simp
 have deadL:∀p∈esL++bsr,tt.var p.1=none:=fun p hp=>((hF.var p hp).2).1;have neLX:∀p∈esL++bsr,∀q∈esX++xsr,p.1≠q.1:=fun p hp q hq he=>liveX q hq (he▸deadL p hp)
 have hown:∀b,tt.own b≠none->tt'.own b=tt.own b:=fun b hb=>by
  rw [hT.own]
  cases h:tt.own b with
  | none=>exact absurd h hb
  | some e =>
   rw [MF (fun m hm he=>by rw [(hF.own m (by simp [hm])).2 b he] at h;cases h)];exact hF.sub.own b e h
 have hoff:∀b e,(∀p∈esL++esX,p.1≠b)->σ.var b=some e->ss'.var b=some e:=fun b e hb he=>by
  refine hG.sub.var b e ?_;rw [hT.off b (fun p hp hpb=>?_)]
  ·exact he
  ·rcases QS.1 hp with hp | hp
   ·obtain ⟨q,hq,hqe⟩:=QZ.1 (keyL p hp);exact hb q (by simp [hq]) (hqe.trans hpb)
   ·obtain ⟨q,hq,hqe⟩:=QZ.1 (keyX p hp);exact hb q (by simp [hq]) (hqe.trans hpb)
 have hndX:(esX'++xsr).map (·.1)=(esX++xsr).map (·.1):=by rw [Kr,Kr,kX]
 let look:Nat->Option Ent:=fun b=>(esX'.find? (fun p=>p.1 == b)).map (·.2)
 have hlook:∀p∈esX',look p.1=some p.2:=fun p hp=>by
  have hnd:(esX'.map (·.1)).Nodup:=by rw [kX];have:=hX.nd;rw [Kr] at this;exact (Ks.1 this).1
  show ((esX'.find? (fun q=>q.1 == p.1)).map (·.2))=some p.2
  cases hf:esX'.find? (fun q=>q.1 == p.1) with
  | none=>have:=KP.1 hf p hp;simp at this
  | some q =>
   have h1:=List.mem_of_find?_eq_some hf;have h2:=List.find?_some hf;simp only [beq_iff_eq] at h2;obtain ⟨i,hi⟩:=Qq.1 h1;obtain ⟨j,hj⟩:=Qq.1 hp;have hil:=(Qb.1 hi).1;have:i=j:=(Ky (by simpa using hil) hnd).1 (by rw [QE,hi,QE,hj];simp [h2]);subst this;rw [hi] at hj
   injection hj with hj
   rw [hj];rfl
 have hlook0:∀b,(∀p∈esX',p.1≠b)->look b=none:=fun b hb=>by
  show ((esX'.find? (fun q=>q.1 == b)).map (·.2))=none;rw [KP.2 (fun p hp=>by simpa using hb p hp)];rfl
 let tt2:Sto:=⟨fun b=>match look b with | some e=>some e | none=>tt.var b,tt.own⟩
 have h2X:∀p∈esX',tt2.var p.1=some p.2:=fun p hp=>by show (match look p.1 with | some e=>some e | none=>tt.var p.1)=_;rw [hlook p hp]
 have h2o:∀b,(∀p∈esX',p.1≠b)->tt2.var b=tt.var b:=fun b hb=>by show (match look b with | some e=>some e | none=>tt.var b)=_;rw [hlook0 b hb]
 have hd2:∀b,tt.dead b->tt2.dead b:=fun b hb=>⟨by
  rw [h2o b (fun p hp he=>by obtain ⟨q,hq,hqe⟩:=QZ.1 (keyX p hp);exact liveX q (by simp [hq]) (by rw [hqe,he];exact hb.1))];exact hb.1,hb.2⟩
 have hkeep:∀p∈bsr,tt'.var p.1=some p.2:=fun p hp=>by
  rw [hT.off p.1 (fun q hq he=>?_)]
  ·exact (hF.var p (by simp [hp])).1
  ·rcases QS.1 hq with hq | hq
   ·obtain ⟨q',hq',hqe⟩:=QZ.1 (keyL q hq);have:=hF.nd;rw [Kr,Ks] at this;exact this.2.2 q'.1 (QZ.2 ⟨q',hq',rfl⟩) p.1 (QZ.2 ⟨p,hp,rfl⟩) (hqe.trans he)
   ·obtain ⟨q',hq',hqe⟩:=QZ.1 (keyX q hq);exact neLX p (by simp [hp]) q' (by simp [hq']) (he.symm.trans hqe.symm)
 have hnew:∀p∈bn,tt2.dead p.1:=fun p hp=>by
  have hd:=(hG.var p hp).2
  have hx:∀q∈esX',q.1≠p.1:=fun q hq he=>by have:=hT.at' q (by simp [hq]);rw [he,hd.1] at this;cases this
  refine hd2 _ ⟨?_,?_⟩
  ·cases h:tt.var p.1 with
   | none=>rfl
   | some e =>
    exfalso;have h1:=hF.sub.var _ _ h
    have h2:tt'.var p.1=some e:=by
     rw [hT.off p.1 (fun q hq he=>?_)]
     ·exact h1
     ·rcases QS.1 hq with hq | hq
      ·have:=hT.at' q (by simp [hq]);rw [he,hd.1] at this;cases this
      ·exact hx q hq he
    rw [hd.1] at h2;cases h2
  ·cases h:tt.own p.1 with
   | none=>rfl
   | some e=>have h2:=hown p.1 (by rw [h];simp);rw [hd.2,h] at h2;cases h2
 refine ⟨tt2,⟨hX.own,fun p hp=>?_,fun b hb=>?_,fun p hp=>?_,by rw [hndX];exact hX.nd⟩,⟨⟨fun b e hb=>?_,fun b e hb=>?_⟩,fun p hp=>?_,?_,fun m hm=>?_,?_,fun m hm=>(QS.1 hm).elim (hG.wr m) (fun h=>hF.wr m (by simp [h]))⟩⟩
 ·rcases QS.1 hp with hp | hp
  ·exact h2X p hp
  ·rw [h2o p.1 (fun q hq he=>?_)]
   ·exact hX.at' p (by simp [hp])
   ·obtain ⟨q',hq',hqe⟩:=QZ.1 (keyX q hq);have:=hX.nd;rw [Kr,Ks] at this;exact this.2.2 q'.1 (QZ.2 ⟨q',hq',rfl⟩) p.1 (QZ.2 ⟨p,hp,rfl⟩) (hqe.trans he)
 ·rw [h2o b (fun p hp=>hb p (by simp [hp]))];refine hX.off b (fun p hp=>?_)
  rcases QS.1 hp with hp | hp
  ·obtain ⟨q,hq,hqe⟩:=QZ.1 (keyX2 p hp);exact fun he=>hb q (by simp [hq]) (hqe.trans he)
  ·exact hb p (by simp [hp])
 ·have:p.1∈(esX'++xsr).map (·.1):=QZ.2 ⟨p,hp,rfl⟩;rw [hndX] at this;obtain ⟨q,hq,hqe⟩:=QZ.1 this;rw [← hqe];exact hX.live q hq
 ·
  by_cases hbx:∃p∈esX',p.1=b
  ·obtain ⟨p,hp,rfl⟩:=hbx;rw [h2X p hp] at hb;rw [hG.sub.var p.1 p.2 (hT.at' p (by simp [hp]))];exact hb
  ·have hbx':∀p∈esX',p.1≠b:=fun p hp he=>hbx ⟨p,hp,he⟩;rw [h2o b hbx'] at hb;refine hoff b e (fun p hp he=>?_) (hF.sub.var b e hb)
   rcases QS.1 hp with hp | hp
   ·rw [← he,deadL p (by simp [hp])] at hb;cases hb
   ·obtain ⟨q,hq,hqe⟩:=QZ.1 (keyX2 p hp);exact hbx' q hq (hqe.trans he)
 ·exact hG.sub.own b e (by rw [hown b (by rw [show tt.own b=some e from hb];simp)];exact hb)
 ·
  rcases QS.1 hp with hp | hp
  ·exact ⟨(hG.var p hp).1,hnew p hp⟩
  rcases QS.1 hp with hp | hp
  ·refine ⟨hG.sub.var _ _ (hT.at' p (by simp [hp])),hd2 _ ?_⟩;obtain ⟨q,hq,hqe⟩:=QZ.1 (keyL p hp);rw [← hqe];exact (hF.var q (by simp [hq])).2
  ·refine ⟨hoff _ _ (fun q hq he=>?_) (hF.var p (by simp [hp])).1,hd2 _ (hF.var p (by simp [hp])).2⟩
   rcases QS.1 hq with hq | hq
   ·have:=hF.nd;rw [Kr,Ks] at this;exact this.2.2 q.1 (QZ.2 ⟨q,hq,rfl⟩) p.1 (QZ.2 ⟨p,hp,rfl⟩) he
   ·exact neLX p (by simp [hp]) q (by simp [hq]) he.symm
 ·rw [Kr,Ks];refine ⟨hG.nd,by rw [Kr,kL,← Kr];exact hF.nd,fun a ha b hb he=>?_⟩;obtain ⟨p,hp,rfl⟩:=QZ.1 ha;obtain ⟨q,hq,rfl⟩:=QZ.1 hb;have hd:=((hG.var p hp).2).1
  rcases QS.1 hq with hq | hq
  ·rw [he,hT.at' q (by simp [hq])] at hd;cases hd
  ·rw [he,hkeep q hq] at hd;cases hd
 ·rcases QS.1 hm with hm | hm
  ·have:=hG.own m hm;refine ⟨this.1,fun b hb=>?_⟩;show tt.own b=none
   cases h:tt.own b with
   | none=>rfl
   | some e=>have h2:=hown b (by rw [h];simp);rw [this.2 b hb,h] at h2;cases h2
  ·have h1:=hF.own m (by simp [hm]);refine ⟨⟨h1.1.1,h1.1.2.imp id (Or.imp id (fun ⟨b,cap,h2,h3⟩=>⟨b,cap,h2,?_⟩))⟩,h1.2⟩;refine hG.sub.own b _ ?_;rw [hT.own,MF (fun m0 hm0 he=>?_)]
   ·exact h3
   ·have:=hF.sep;rw [Ku] at this
    rcases this.2.2 m0 hm0 m hm with h4 | h4
    ·rw [h4] at he;cases he
    ·exact h4 (by rw [he,h2];rfl)
 ·rw [Ku];refine ⟨hG.sep,?_,fun m' hm' m hm=>?_⟩
  ·have:=hF.sep;rw [Ku] at this;exact this.2.1
  ·cases hb:m'.v.blk with
   | none=>exact .inl hb
   | some b =>
    right;rw [hb];intro he;have h1:=(hG.own m' hm').2 b hb;have h2:=hF.own m (by simp [hm])
    rcases h2.1.2 with ⟨h3,_⟩ | h3 | ⟨b',cap,h3,h4⟩
    ·rw [h3] at he;cases he
    ·rw [h3] at he;cases he
    ·rw [h3] at he;simp only [AV.blk,Option.some.injEq] at he;subst he;rw [hT.own,MF (fun m0 hm0 he0=>?_),h4] at h1
     ·cases h1
     ·have:=hF.sep;rw [Ku] at this
      rcases this.2.2 m0 hm0 m hm with h5 | h5
      ·rw [h5] at he0;cases he0
      ·exact h5 (by rw [he0,h3];rfl)
theorem Fx.pre {esL esX bsr xsr:List (Nat × Ent)} {ms0 msr:List H2} (hF:Fx tt σ (esL++bsr) (ms0++msr)) (hX:Tau tt0 (esX++xsr) tt):Pre σ (esL++esX) ms0:=by
 refine ⟨fun p hp=>?_,?_,fun m hm=>(hF.own m (by simp [hm])).1,?_,fun m hm=>hF.wr m (by simp [hm])⟩
 ·rcases QS.1 hp with hp | hp
  ·exact (hF.var p (by simp [hp])).1
  ·exact hF.sub.var _ _ (hX.at' p (by simp [hp]))
 ·rw [Kr,Ks];have h1:=hF.nd;have h2:=hX.nd;rw [Kr,Ks] at h1 h2;refine ⟨h1.1,h2.1,fun a ha b hb he=>?_⟩;obtain ⟨p,hp,rfl⟩:=QZ.1 ha;obtain ⟨q,hq,rfl⟩:=QZ.1 hb;have h3:=((hF.var p (by simp [hp])).2).1;rw [he,hX.at' q (by simp [hq])] at h3;cases h3
 ·have:=hF.sep;rw [Ku] at this;exact this.1
theorem Tau.none (σ:Sto):Tau σ [] σ:=⟨rfl,by simp,fun _ _=>rfl,by simp,by simp⟩
theorem Fx.self (tt:Sto):Fx tt tt [] []:=Fx.refl tt
theorem Qtn {rs:List ResultVar} {T:Nat->AV} {vs:List AV} {Q:AV->Sto->Prop} {r:AV} {ss':Sto} (h:M1 P ⟨T,σ⟩ rs=some vs) (hw:Wk σ (packed vs) ss' r) (hq:Q r ss'):ID P rs Q ⟨T,σ⟩:=⟨vs,h,r,ss',hw,hq⟩
theorem EP {e:TypeId} {sz by_ b n c:Nat} {k:IntKind} {i:Int} {α:Type} {l:List α} {x:α} (hn:n=l.length) (h:idx l i=some x):Ur σ (some (e,sz,by_)) (.ref b n c) (.int k i)=some (.optr b (i.toNat * sz)):=by
 obtain ⟨h0,h1,_⟩:=Fc h;simp only [Ur];rw [if_pos ⟨h0,by omega⟩]
theorem MT (hF:Fx tt σ bs ms) (j:Nat) {b n c:Nat} {e:TypeId} {sz:Nat} {rows:List (List AV)} (hj:ms[j]?=some ⟨.ref b n c,e,sz,rows⟩):n=rows.length/\σ.own b=some ⟨e,c * sz,rows.flatten⟩/\∀r∈rows,r.length=sz:=by
 have h:=(hF.DL j hj).1
 rcases h.2 with ⟨h1,_⟩ | h1 | ⟨b',cap,h1,h2⟩
 ·cases h1
 ·cases h1
 ·injection h1 with h3 h4 h5
  subst h3;subst h5;exact ⟨h4,h2,h.1⟩
theorem Fx.ref (hF:Fx tt σ bs ms) (j:Nat) {v:AV} {e:TypeId} {sz:Nat} {α:Type} {g:α->List AV} {l:List α} {x:α} {i:Int} (hj:ms[j]?=some ⟨v,e,sz,rws g l⟩) (h:idx l i=some x) (hne:sz≠17:=by decide):∃b c,v=.ref b l.length c:=by
 have h1:=hF.DL j hj;have h2:=hF.wr _ (List.mem_of_getElem? hj);obtain ⟨_,h3,_⟩:=Fc h;have hb:v.blk≠none:=h2.elim (fun h4=>by simp only at h4;have:=congrArg List.length h4;rw [Jl] at this;simp at this;subst this;simp at h3) (fun h4=>h4.elim id fun h5=>absurd h5 hne)
 rcases h1.1.2 with ⟨h4,_⟩ | h4 | ⟨b,cap,h4,_⟩
 ·simp only at h4;rw [h4] at hb;exact absurd rfl hb
 ·simp only at h4;rw [h4] at hb;exact absurd rfl hb
 ·exact ⟨b,cap,by simp only at h4;rw [h4,Jl]⟩
theorem SY (hF : Fx tt σ bs ms) (j : Nat) {ag : Bool} {k b n c o : Nat} {e : TypeId} {sz : Nat} {α : Type} {g : α -> List AV} {l : List α} {x : α} {i : Int} {p : Nat} {v : AV} (hp : p = i.toNat * sz + o) (hs : ∀ x, (g x).length = sz) (hj : ms[j]? = some ⟨.ref b n c, e, sz, rws g l⟩) (h : idx l i = some x) (hk : o + (if ag then k else 1) <= sz) (hv : (seg (g x) o (if ag then k else 1)).bind (RU ag) = some v) :
    CQ σ (some (ag, k)) (.optr b p) = some v := by
  subst hp
  obtain ⟨h0, h1, h2⟩ := MT hF j hj
  obtain ⟨i0, i1, i2⟩ := Fc h
  have hfl := V1 (rws g l) h2
  rw [Jl] at hfl
  have hle : i.toNat * sz + sz <= l.length * sz := by
    have : (i.toNat + 1) * sz <= l.length * sz := Kz sz i1
    rwa [KL, KM] at this
  have hm : mem σ (.optr b (i.toNat * sz + o)) = some ((rws g l).flatten.drop (i.toNat * sz + o)) := by
    simp only [mem, h1, Qh]
    rw [if_pos (by rw [hfl]; omega)]
  have hq : ∀ m : Nat, o + m <= sz -> seg ((rws g l).flatten.drop (i.toNat * sz + o)) 0 m = seg (g x) o m := by
   intro m hm'
   unfold seg
   rw [if_pos (by rw [List.length_drop, hfl]; omega), if_pos (by rw [hs]; exact hm')]
   congr 1
   apply KC
   intro q
   simp only [List.drop_zero, List.getElem?_take, List.getElem?_drop]
   split
   · rename_i hq
     have := BZ (rws g l) i.toNat (o + q) (fun r hr => h2 r hr) (by omega)
     rw [Nat.add_assoc, this]
     have hx : (rws g l)[i.toNat]? = some (g x) := by simp [rws, i2]
     rw [hx]; rfl
   · rfl
  simp only [CQ, hm, Qh, hq _ hk]
  exact hv
theorem Uq (f b o:Nat):MK (some f) (.optr b o)=some (.optr b (o+f)):=(rfl)
theorem ME {sz:Nat} {rows:List (List AV)} {q o:Nat} {x cs:List AV} (h2:∀r∈rows,r.length=sz) (hq:rows[q]?=some x) (hle:o+cs.length<=sz):Ww rows.flatten (q * sz+o) cs=(rows.set q (Ww x o cs)).flatten:=by
 have hql:=(Qb.1 hq).1;have hx:=h2 x (Qf hq);have hfl:=V1 rows h2
 have hle2:q * sz+sz<=rows.length * sz:=by
  have:(q+1) * sz<=rows.length * sz:=Kz sz hql;rwa [KL,KM] at this
 have hrow:(Ww x o cs).length=sz:=by rw [A6 (by omega)];exact hx
 have hr:rows.set q x=rows:=by
  apply KC;intro j;rw [Kq];split
  ·rename_i h;subst h;first | (rw [if_pos hql,hq];done) | (rw [hq];done)
  ·rfl
 rw [← St (Ww x o cs) hrow rows q h2 hql]
 conv=>lhs;rw [← hr,← St x hx rows q h2 hql]
 generalize hA:rows.flatten.take (q * sz)=A
 have hAl:A.length=q * sz:=by rw [← hA,List.length_take,hfl];omega
 have hd:q * sz+x.length=q * sz+(Ww x o cs).length:=by rw [hx,hrow]
 rw [hd];generalize rows.flatten.drop (q * sz+(Ww x o cs).length)=B;simp only [Hq];rw [← hAl,List.append_assoc A x B,List.take_length_add_append,List.take_append,Nat.add_assoc,List.drop_length_add_append,List.drop_append]
 have e1:o - x.length=0:=by omega
 have e2:o+cs.length - x.length=0:=by omega
 rw [e1,e2]
 simp
theorem Fx.oset (hF:Fx tt σ bs ms) (j:Nat) {b n c:Nat} {e:TypeId} {sz:Nat} {rows rows':List (List AV)} (hj:ms[j]?=some ⟨.ref b n c,e,sz,rows⟩) (hl:rows'.length=rows.length) (hr:∀r∈rows',r.length=sz):Fx tt (σ.Vo b ⟨e,c * sz,rows'.flatten⟩) bs (ms.set j ⟨.ref b n c,e,sz,rows'⟩):=by
 obtain ⟨h0,h1,h2⟩:=MT hF j hj;have hm:=hF.DL j hj;have hjl:=(Qb.1 hj).1
 refine ⟨hF.sub.Vo (hm.2 b rfl) _,fun p hp=>hF.var p hp,hF.nd,fun m hm'=>?_,?_,fun m hm'=>by
  obtain ⟨q,hq⟩:=Qq.1 hm';rw [Kq] at hq;split at hq
  ·first | rw [if_pos hjl] at hq | skip
   injection hq with hq
   subst hq;exact .inr (by simp [AV.blk])
  ·exact hF.wr m (Qf hq)⟩
 ·obtain ⟨q,hq⟩:=Qq.1 hm';rw [Kq] at hq;split at hq
  ·first | rw [if_pos hjl] at hq | skip
   injection hq with hq
   subst hq;exact ⟨⟨hr,.inr (.inr ⟨b,c,by rw [h0,hl],by simp [Sto.Vo]⟩)⟩,hm.2⟩
  ·rename_i hqj;have h3:=hF.DL q hq;refine ⟨⟨h3.1.1,h3.1.2.imp id (Or.imp id (fun ⟨b',cap,h4,h5⟩=>⟨b',cap,h4,?_⟩))⟩,h3.2⟩;simp only [Sto.Vo];rw [if_neg (fun he=>?_)]
   ·exact h5
   ·subst he;have hql:=(Qb.1 hq).1
    have hap:FP m ⟨.ref b' n c,e,sz,rows⟩:=by
     rcases KD q j with hlt | hge
     ·have:=Kp.1 hF.sep q j hql hjl hlt;rw [(Qb.1 hq).2,(Qb.1 hj).2] at this;exact this
     ·have:=Kp.1 hF.sep j q hjl hql (by omega);rw [(Qb.1 hq).2,(Qb.1 hj).2] at this;exact this.symm
    rcases hap with h6 | h6
    ·rw [h4] at h6;cases h6
    ·exact h6 (by rw [h4];rfl)
 ·rw [Kp];intro a b2 hal hbl hab;simp only [List.length_set] at hal hbl;have hpa:=Kp.1 hF.sep a b2 hal hbl hab;rw [KB,KB]
  have hjv:(ms[j]'hjl).v=.ref b n c:=by rw [(Qb.1 hj).2]
  split
  ·rename_i hja;subst hja;split
   ·omega
   ·unfold FP at hpa ⊢;rw [hjv] at hpa;exact hpa
  ·split
   ·rename_i hjb;subst hjb;unfold FP at hpa ⊢;rw [hjv] at hpa;exact hpa
   ·exact hpa
theorem UK (hF:Fx tt σ bs ms) (j:Nat) {ag:Bool} {k b n c o:Nat} {e:TypeId} {sz:Nat} {α:Type} {g:α->List AV} {l:List α} {x:α} {i:Int} {p:Nat} {v:AV} {cs:List AV} {T:Nat->AV} {K:AS->Prop} (y:α) (hs:∀x,(g x).length=sz) (hp:p=i.toNat * sz+o) (hj:ms[j]?=some ⟨.ref b n c,e,sz,rws g l⟩) (h:idx l i=some x)
  (hc:Vx v=some cs) (hl:cs.length=k) (hle:o+k<=sz) (hy:Ww (g x) o cs=g y) (hK:∀ss',Fx tt ss' bs (ms.set j ⟨.ref b n c,e,sz,rws g (l.set i.toNat y)⟩)->K ⟨T,ss'⟩):Ab (JL (some (ag,k)) σ (.optr b p) v) ⟨T,σ⟩ none K:=by
 subst hp;obtain ⟨h0,h1,h2⟩:=MT hF j hj;obtain ⟨i0,i1,i2⟩:=Fc h;have hfl:=V1 (rws g l) h2;rw [Jl] at hfl
 have hle2:i.toNat * sz+sz<=l.length * sz:=by
  have:(i.toNat+1) * sz<=l.length * sz:=Kz sz i1;rwa [KL,KM] at this
 have hx:(rws g l)[i.toNat]?=some (g x):=by simp [rws,i2]
 have hset:rws g (l.set i.toNat y)=(rws g l).set i.toNat (g y):=by simp [rws,KH]
 have e1:JL (some (ag,k)) σ (.optr b (i.toNat * sz+o)) v=some (σ.Vo b ⟨e,c * sz,(rws g (l.set i.toNat y)).flatten⟩):=by
  simp only [JL,hc,h1,Qh];rw [if_pos hl,if_pos (by rw [hfl];omega),ME h2 hx (by omega),hy,hset]
 rw [e1];refine hK _ ?_;exact hF.oset j hj (by simp [Jl]) (Cc hs _)
theorem Fx.drop (h:Fx tt σ bs ms) (i j:Nat):Fx tt σ (bs.drop i) (ms.drop j):=h.less (KQ i _) (KQ j _)
theorem neX (hF:Fx tt σ bs ms) (i:Nat) {b:Nat} {e:Ent} (hi:bs[i]?=some (b,e)) (hX:Tau tt0 es tt) (j:Nat) {c:Nat} {f:Ent} (hj:es[j]?=some (c,f)):b≠c:=fun he=>by
 have h1:=(hF.var _ (Qf hi)).2.1;simp only at h1;rw [he,hX.at j hj] at h1;cases h1
theorem neL (hF:Fx tt σ bs ms) (i j:Nat) {b c:Nat} {e f:Ent} (hi:bs[i]?=some (b,e)) (hj:bs[j]?=some (c,f)) (hij:i≠j):b≠c:=fun he=>by
 have hil:=(Qb.1 hi).1;exact hij ((Ky (by simpa using hil) hF.nd).1 (by rw [QE,hi,QE,hj];simp [he]))
theorem neE (h:Tau tt0 es tt) (i j:Nat) {b c:Nat} {e f:Ent} (hi:es[i]?=some (b,e)) (hj:es[j]?=some (c,f)) (hij:i≠j):b≠c:=fun he=>by
 have hil:=(Qb.1 hi).1;exact hij ((Ky (by simpa using hil) h.nd).1 (by rw [QE,hi,QE,hj];simp [he]))
def EE (σ:Sto) (l:List Nat):Nat->Prop:=fun b=>σ.var b=none∨b∈l
theorem EE.not {σ:Sto} {l:List Nat} {b:Nat} {e:Ent} (h:σ.var b=some e) (hl:b∉l):¬EE σ l b:=fun hh=>hh.elim (fun h2=>by rw [h] at h2;cases h2) hl
theorem EE.of {σ:Sto} {l:List Nat} {b:Nat} (hl:b∈l):EE σ l b:=.inr hl
theorem EE.new {σ:Sto} {l:List Nat} {b:Nat} (h:σ.var b=none):EE σ l b:=.inl h
theorem Ny {ops:Array Oper} {K:AS->Prop} {s:AS} (E:Nat->Prop) (cl:List Cl) (is:List Nat) (hchk:S7 P ops (cl.zip is)=true) (h:LI P E (ops.toList.map (·.dst)) ((cl.zip is).map fun p=>(p.1,Ac ops p.2)) K s):RJ P ops K s:=Qf9 E _ hchk h
theorem Qfp (l:List Oper) (i:Nat):Ac l.toArray i=(l[i]?).getD default:=by
 simp [Ac]
theorem Fx.freeze (hF:Fx tt σ bs ms) (j:Nat) {v:AV} {e:TypeId} {sz:Nat} {rows:List (List AV)} (hj:ms[j]?=some ⟨v,e,sz,rows⟩):∃ssf,Fx tt ssf bs (ms.eraseIdx j)/\Wk σ v ssf (.sl false rows)/\Sub ssf σ/\ssf.var=σ.var:=by
 have hm:=hF.DL j hj;obtain ⟨ssf,h1,h2,h3,h4,h5⟩:=hm.freeze hF.sub;have hjl:=(Qb.1 hj).1;have hjv:=(Qb.1 hj).2;refine ⟨ssf,⟨h1,fun p hp=>by rw [h3];exact hF.var p hp,hF.nd,fun m hm'=>?_,hF.sep.sublist (Kx _ _),fun m hm'=>hF.wr m ((Kx _ _).subset hm')⟩,h5,h2,h3⟩;obtain ⟨k,hk⟩:=Qq.1 hm';rw [KI] at hk
 have hap:∀q m,q≠j->ms[q]?=some m->EZ tt ssf m.e m.sz m.v m.rows:=fun q m hq hqm=>by
  have hql:=(Qb.1 hqm).1;have hqv:=(Qb.1 hqm).2
  have ha:FP m ⟨v,e,sz,rows⟩:=by
   rcases KD q j with hlt | hge
   ·have:=Kp.1 hF.sep q j hql hjl hlt;rwa [hqv,hjv] at this
   ·have:=Kp.1 hF.sep j q hjl hql (by omega);rw [hqv,hjv] at this;exact this.symm
  have hmq:=hF.DL q hqm;refine ⟨⟨hmq.1.1,hmq.1.2.imp id (Or.imp id (fun ⟨b,cap,h6,h7⟩=>⟨b,cap,h6,?_⟩))⟩,hmq.2⟩;rw [h4 b (fun he=>?_)]
  ·exact h7
  ·rcases ha with h8 | h8
   ·rw [h6] at h8;cases h8
   ·exact h8 (by rw [h6];exact he)
 split at hk
 ·exact hap k m (by omega) hk
 ·exact hap (k+1) m (by omega) hk
theorem Qam {f:FuncId} {caps args bs':List AV} {ssf:Sto} {Q:AV->Sto->Prop} {T:Nat->AV} {dst:Option Tmp} {K:AS->Prop} (h:Ctr P f bs' ssf Q) (hw:WkL σ ssf (args++caps) bs') (hs:Sub ssf σ) (hK:∀r ss',Q r ss'->K (AS.put ⟨T,ss'⟩ dst r)):M0 P (.fn f caps) args ⟨T,σ⟩ dst K:=by
 refine ⟨h.1,fun w cargs hsim htb hl hr=>?_⟩;have hsim':Sim ssf w:=hsim.drop hs.var hs.own;refine Calls.mono (h.2 w cargs hsim' (htb.drop fun b hb=>hs.dead hb) (by rw [hl,hw.length]) (fun i b hb=>?_)) ?_
 ·obtain ⟨a,ha,h1,_⟩:=hw.get i b hb;exact (h1 w _ hsim (hr i a ha)).2.1
 ·rintro e w' ⟨v,r,ss',he,hst,hsm,hrv,hq⟩;exact ⟨v,r,ss',he,(Step.drop (fun b hb=>hs.dead hb)).trans hst,hsm,hrv,hK r ss' hq⟩
theorem Tau.eq {tt0 tt:Sto} (h:Tau tt0 [] tt):tt=tt0:=by
 obtain ⟨h1,_,h3,_,_⟩:=h;cases tt;cases tt0;simp only at h1 h3;subst h1
 congr 1
 funext b;exact h3 b (by simp)
theorem Fx.kept {E:Nat->Prop} {σ tt' ss':Sto} {es:List (Nat × Ent)} {ms0 ms':List H2} (hT:Tau (strip σ ms0) es tt') {bn:List (Nat × Ent)} (hG:Fx tt' ss' bn ms') (hE:∀p∈es,E p.1):FO E σ ss':=fun b e hb he =>
 hG.sub.var b e (by rw [hT.off b (fun p hp h=>hb (h▸hE p hp))];exact he)
theorem FO.set {E:Nat->Prop} {σ:Sto} {b:Nat} (hb:E b) (e:Ent):FO E σ (σ.YG b e):=fun b' e' hb' he=>by
 simp only [Sto.YG];rw [if_neg (fun h:b'=b=>hb' (by rw [h];exact hb))];exact he
theorem Qgr {E:Nat->Prop} (hF:Fx tt σ bs ms) (i:Nat) {b o k n:Nat} {ty:TypeId} {ag:Bool} {cells cs cells':List AV} {v:AV} {T:Nat->AV} {K:AS->Prop} (hb:E b) (hi:bs[i]?=some (b,⟨ty,n,cells⟩)) (hc:Vx v=some cs) (hl:cs.length=k) (hle:o+k<=cells.length) (hs:Ww cells o cs=cells')
  (h:∀ss',Fx tt ss' (bs.set i (b,⟨ty,n,cells'⟩)) ms->K ⟨T,ss'⟩):Ab (JL (some (ag,k)) σ (.ptr b o) v) ⟨T,σ⟩ none (kp E σ K):=by
 subst hs
 have e:JL (some (ag,k)) σ (.ptr b o) v=some (σ.YG b ⟨ty,n,Ww cells o cs⟩):=by
  rw [ET,hc,Qh,if_pos hl,hF.at i hi,Qh];exact if_pos hle
 rw [e];exact Bs (FO.set hb _) (h _ (hF.set i hi _))
theorem Qc4 {E:Nat->Prop} (hF:Fx tt σ bs ms) (hX:Tau tt0 es tt) (i:Nat) {b o k n:Nat} {ty:TypeId} {ag:Bool} {cells cs cells':List AV} {v:AV} {T:Nat->AV} {K:AS->Prop} (hb:E b) (hi:es[i]?=some (b,⟨ty,n,cells⟩)) (hc:Vx v=some cs) (hl:cs.length=k) (hle:o+k<=cells.length) (hs:Ww cells o cs=cells')
  (h:∀tt' ss',Fx tt' ss' bs ms->Tau tt0 (es.set i (b,⟨ty,n,cells'⟩)) tt'->K ⟨T,ss'⟩):Ab (JL (some (ag,k)) σ (.ptr b o) v) ⟨T,σ⟩ none (kp E σ K):=by
 subst hs;have hv:=hX.at i hi
 have e:JL (some (ag,k)) σ (.ptr b o) v=some (σ.YG b ⟨ty,n,Ww cells o cs⟩):=by
  rw [ET,hc,Qh,if_pos hl,hF.sub.var b _ hv,Qh];exact if_pos hle
 rw [e];exact Bs (FO.set hb _) (h _ _ (hF.Qth hv _) (hX.set i hi _))
theorem Qnk {E:Nat->Prop} {K:AS->Prop} (T:Nat->AV) (σ:Sto):kp E σ K ⟨T,σ⟩=K ⟨T,σ⟩:=propext ⟨fun h=>h.2,fun h=>⟨fun _ _ _ h=>h,h⟩⟩
theorem Qil (c:Bool) (n:Int):Up none true true (.sl c [[.int .u8 n]])=some (.str (strOfNums [n])):=(rfl)
theorem Qce {k:IntKind} {a b c:Int} (h:Qju a b=some c):(if b=0 then none else some (AV.int k (a.tmod b)))=some (.int k c):=by
 unfold Qju at h;split at h
 ·cases h
 ·rename_i hb;rw [if_neg hb];injection h with h;rw [h]
theorem Qcd {a b c:Int} (h:Qo1 a b=some c):(if b=0 then none else some (AV.int .i64 (IntKind.wrap .i64 (a.tdiv b))))=some (.int .i64 c):=by
 unfold Qo1 at h;split at h
 ·cases h
 ·rename_i hb;rw [if_neg hb];injection h with h;rw [h]
end
attribute [go_sem] Qnk Uq Qil Qfp Option.getD_some
end Go.Proofs.Shadow
namespace Go.Proofs.Shadow
open Go Go.RowKit
@[reducible] def Qh9 (σ:Sto):List (Nat × Ent)->Prop
 | []=>0+0=0
 | p :: l=>σ.var p.1=some p.2/\Qh9 σ l
@[reducible] def Qeh:List H2->Prop
 | []=>0+0=0
 | m :: l=>Vx m.v=some [m.v]/\Fs false m.v=some (.int .i64 (m.rows.length:Int))/\Qeh l
section
variable {P:Program} {E:Nat->Prop} {tt0 tt σ:Sto} {es bs:List (Nat × Ent)} {ms:List H2}
theorem Qmp:∀{l:List (Nat × Ent)},(∀p∈l,σ.var p.1=some p.2)->Qh9 σ l
 | [],_=>rfl
 | p :: l,h=>⟨h p (KF ..),Qmp fun q hq=>h q (Kh _ hq)⟩
theorem Qlt:∀{l:List H2},(∀m∈l,EZ tt σ m.e m.sz m.v m.rows)->Qeh l
 | [],_=>rfl
 | m :: l,h=>by
  refine ⟨CE (EZ.cell (h m (KF ..))),?_,Qlt fun q hq=>h q (Kh _ hq)⟩;have hm:=h m (KF ..);refine Qan hm.len (EZ.cell hm) ?_;intro s hs
  rcases hm.1.2 with ⟨h1,_⟩ | h1 | ⟨b,cap,h1,_⟩<;>(rw [h1] at hs;cases hs)
theorem Fx.f (h:Fx tt σ bs ms):Qh9 σ bs:=Qmp fun p hp=>(h.var p hp).1
theorem Fx.m (h:Fx tt σ bs ms):Qeh ms:=Qlt h.own
theorem Fx.x (h:Fx tt σ bs ms) (hX:Tau tt0 es tt):Qh9 σ es:=Qmp fun p hp=>h.sub.var _ _ (hX.at' p hp)
theorem dum:0+0=0:=rfl
theorem go {p q':Prop} (h:q') (e:p=q':=by
 (try simp only [go_sem,↓reduceIte,Nat.reduceEqDiff,Nat.reduceAdd,Nat.reduceMul,Nat.reduceLeDiff,Nat.reduceLT,Int.reduceEq,Int.toNat_natCast,q,tT,hF.f,hF.m,hF.x hX])<;>exact rfl):p:=e▸h
theorem go1 {p q':Prop} (h:q') (e:p=q':=by
 (try simp only [go_sem,↓reduceIte,Nat.reduceEqDiff,Nat.reduceAdd,Nat.reduceMul,Nat.reduceLeDiff,Nat.reduceLT,Int.reduceEq,Int.toNat_natCast,q,tT,hF.f,hF.m,hF.x hX,f1])<;>exact rfl):p:=e▸h
theorem go2 {p q':Prop} (h:q') (e:p=q':=by
 (try simp only [go_sem,↓reduceIte,Nat.reduceEqDiff,Nat.reduceAdd,Nat.reduceMul,Nat.reduceLeDiff,Nat.reduceLT,Int.reduceEq,Int.toNat_natCast,q,tT,hF.f,hF.m,hF.x hX,f1,f2])<;>exact rfl):p:=e▸h
theorem go4 {p q':Prop} (h:q') (e:p=q':=by
 (try simp only [go_sem,↓reduceIte,Nat.reduceEqDiff,Nat.reduceAdd,Nat.reduceMul,Nat.reduceLeDiff,Nat.reduceLT,Int.reduceEq,Int.toNat_natCast,q,tT,hF.f,hF.m,hF.x hX,f1,f2,f3,f4])<;>exact rfl):p:=e▸h
theorem go5 {p q':Prop} (h:q') (e:p=q':=by
 (try simp only [go_sem,↓reduceIte,Nat.reduceEqDiff,Nat.reduceAdd,Nat.reduceMul,Nat.reduceLeDiff,Nat.reduceLT,Int.reduceEq,Int.toNat_natCast,q,tT,hF.f,hF.m,hF.x hX,f1,f2,f3,f4,f5])<;>exact rfl):p:=e▸h
theorem goL {p q':Prop} (h:q') (e:p=q':=by
 (try simp only [go_sem,↓reduceIte,Nat.reduceEqDiff,Nat.reduceAdd,Nat.reduceMul,Nat.reduceLeDiff,Nat.reduceLT,Int.reduceEq,Int.toNat_natCast,q,tT,hF.f,hF.m,hF.x hX,List.append_eq,List.cons_append,List.nil_append])<;>exact rfl):p:=e▸h
theorem gh {p q':Prop} (h:q') (e:p=q':=by
 (try simp only [go_sem,↓reduceIte,Nat.reduceEqDiff,Nat.reduceAdd,Nat.reduceMul,Nat.reduceLeDiff,Nat.reduceLT,Int.reduceEq,Int.toNat_natCast,q,tT,hF.f,hF.m,hF.x hX,z])<;>exact rfl):p:=e▸h
theorem gh1 {p q':Prop} (h:q') (e:p=q':=by
 (try simp only [go_sem,↓reduceIte,Nat.reduceEqDiff,Nat.reduceAdd,Nat.reduceMul,Nat.reduceLeDiff,Nat.reduceLT,Int.reduceEq,Int.toNat_natCast,q,tT,hF.f,hF.m,hF.x hX,z,f1])<;>exact rfl):p:=e▸h
theorem gh2 {p q':Prop} (h:q') (e:p=q':=by
 (try simp only [go_sem,↓reduceIte,Nat.reduceEqDiff,Nat.reduceAdd,Nat.reduceMul,Nat.reduceLeDiff,Nat.reduceLT,Int.reduceEq,Int.toNat_natCast,q,tT,hF.f,hF.m,hF.x hX,z,f1,f2])<;>exact rfl):p:=e▸h
theorem hdg {P:Program} {f:FuncId} {fn:Func} {c:Code} {args:List AV} {σ:Sto} {Q:AV->Sto->Prop} (hm:P.follows .mixedOrders=true) (hf:P.funcs[f]?=some fn) {rs:List ResultVar} (h:0+0=0->0+0=0->GH P c (Qpe P rs Q) ⟨T0 args,σ⟩)
  (hb : fn.body = some c := by rfl) (hname : (fn.name == "runtime.NumGoroutine") = false := by kernel_rfl) (hrs : fn.results.toList = rs := by rfl) (hok : (codeOk P fn.ntmps c && decide (args.length <= fn.ntmps)) = true := by kernel_rfl) : Ctr P f args σ Q :=
 Qlb hm hf hb hname hrs hok (h rfl rfl)
theorem bp {α β:Type} {o:Option α} {k:α->Option β} {r:β} {A:α->Prop} {G:Prop} (H:(o>>=k)=some r) (g:∀x,o=some x->A x) (K:∀x,A x->k x=some r->G):G:=by
 obtain ⟨x,hx,h⟩:=bnd H;exact K x (g x hx) h
theorem hdh {P:Program} {f:FuncId} {fn:Func} {c:Code} {args:List AV} {σ:Sto} {Q:AV->Sto->Prop} (hm:P.follows .mixedOrders=true) (hf:P.funcs[f]?=some fn) {rs:List ResultVar} (h:0+0=0->0+0=0->Fx σ σ [] []->Tau σ [] σ->GH P c (Qpe P rs Q) ⟨T0 args,σ⟩)
  (hb : fn.body = some c := by rfl) (hname : (fn.name == "runtime.NumGoroutine") = false := by kernel_rfl) (hrs : fn.results.toList = rs := by rfl) (hok : (codeOk P fn.ntmps c && decide (args.length <= fn.ntmps)) = true := by kernel_rfl) : Ctr P f args σ Q :=
 Qlb hm hf hb hname hrs hok (h rfl rfl (Fx.refl _) (Tau.none _))
theorem lpx {P:Program} {o:Option Code} {c c0:Code} {Q:AX->AS->Prop} {s:AS} (tt:Sto) (hc:o=some c) (h:o=some c0) (k:0+0=0->Tau tt [] tt->GH P c0 (thn (aLp P c0 Q) (wkQ P Q)) s):aLp P c Q s:=by
 obtain rfl:=lpe h hc;exact Ye (k rfl (Tau.none tt))
theorem lpy {P:Program} {o:Option Code} {c c0:Code} {Q:AX->AS->Prop} {s:AS} (hc:o=some c) (h:o=some c0) (k:0+0=0->GH P c0 (thn (aLp P c0 Q) (wkQ P Q)) s):aLp P c Q s:=by
 obtain rfl:=lpe h hc;exact Ye (k rfl)
abbrev TT:=Nat->AV
abbrev QT:=AX->AS->Prop
theorem nm1 {a b:Nat} (h:a≠b):a∉[b]:=fun hh=>h (List.mem_singleton.1 hh)
theorem nm2 {a b c:Nat} (h:a≠b/\a≠c):a∉[b,c]:=by simp only [Kl,KG,or_false,not_or];exact h
theorem nm3 {a b c d:Nat} (h:a≠b/\a≠c/\a≠d):a∉[b,c,d]:=by simp only [Kl,KG,or_false,not_or];exact h
theorem nm4 {a b c d e:Nat} (h:a≠b/\a≠c/\a≠d/\a≠e):a∉[b,c,d,e]:=by simp only [Kl,KG,or_false,not_or];exact h
theorem hsq {p q:Prop} (h:p) (e:p=q:=by
 first | rfl | (simp only [sf,i6,zB,Fm.Yb,Xpn.Yb,Cor.Yb,Bnd.Yb,Hit.Yb,Rul.Yb,Mac.Yb,Stp.Yb,Val.Yb,Slt.Yb])<;>rfl):q:=e▸h
theorem S {p:Prop} (h:p:=by
 (repeat' refine And.intro ?_ ?_)<;>first | (simp only [go_sem,↓reduceIte,Nat.reduceEqDiff,Nat.reduceAdd,Nat.reduceMul,Nat.reduceLeDiff,Nat.reduceLT,Int.reduceEq,Int.toNat_natCast,q,tT,hF.f,hF.m,hF.x hX];done) | rfl | (simp only [go_sem,↓reduceIte,Nat.reduceEqDiff,Nat.reduceAdd,Nat.reduceMul,Nat.reduceLeDiff,Nat.reduceLT,Int.reduceEq,Int.toNat_natCast,q,tT,hF.f,hF.m,hF.x hX];rfl)):p:=h
section
variable {α β:Type} {g:α->List AV} {sz:Nat} {r:β}
theorem bil (hs:∀x,(g x).length=sz) {l:List α} {i:Int} {k:α->Option β} (H:(idx l i>>=k)=some r) :
  ∃x,(∀(σ:Sto) (c:Bool) (kk:IntKind) (e:TypeId) (by_:Nat),Ur σ (some (e,sz,by_)) (.sl c (rws g l)) (.int kk i)=some (.ept (g x)))/\k x=some r:=by
 obtain ⟨x,h,H⟩:=bnd H;exact ⟨x,fun _ _ _ _ _=>RL hs h,H⟩
theorem bll {xs:List (List α)} (rows:List (List AV)) (hr:rows=xs.map fun x=>[.sl true (rws g x)]) {i:Int} {k:List α->Option β} (H:(idx xs i>>=k)=some r) :
  ∃x,(∀(σ:Sto) (c:Bool) (kk:IntKind) (e:TypeId) (by_:Nat),Ur σ (some (e,1,by_)) (.sl c rows) (.int kk i)=some (.ept [.sl true (rws g x)]))/\k x=some r:=by
 obtain ⟨x,h,H⟩:=bnd H;subst hr;exact ⟨x,fun _ _ _ _ _=>RL (g:=fun x=>[AV.sl true (rws g x)]) (fun _=>rfl) h,H⟩
theorem bsx {s:ByteArray} {i:Int} {k:Int->Option β} (H:(MU s i>>=k)=some r):∃x,(∀kk:IntKind,ML true (.str s) (.int kk i)=some (.int .u8 x))/\k x=some r:=by
 obtain ⟨x,h,H⟩:=bnd H;exact ⟨x,fun _=>Us h,H⟩
theorem Qei {i:Int} {x:ByteArray} (h:idx Jq i=some x) (kk:IntKind):Ql8 (some 5) (.agg [.str (Qd #[108,97,109,98,100,97]),.str (Qd #[105,102]),.str (Qd #[113,117,111,116,101]),.str (Qd #[108,101,116]),.str (Qd #[108,101,116,45,115,121,110,116,97,120])]) (.int kk i)=some (.str x):=by
 obtain ⟨h0,h1,h2⟩:=Fc h;have h5:(Jq.length:Int)=5:=rfl;simp only [Ql8];rw [if_pos (by omega)];have:([.str (Qd #[108,97,109,98,100,97]),.str (Qd #[105,102]),.str (Qd #[113,117,111,116,101]),.str (Qd #[108,101,116]),.str (Qd #[108,101,116,45,115,121,110,116,97,120])]:List AV)=Jq.map AV.str:=rfl;rw [this,QE,h2];rfl
theorem bct {i:Int} {k:ByteArray->Option β} (H:(idx Jq i>>=k)=some r):∃x,(∀kk:IntKind,Ql8 (some 5) (.agg [.str (Qd #[108,97,109,98,100,97]),.str (Qd #[105,102]),.str (Qd #[113,117,111,116,101]),.str (Qd #[108,101,116]),.str (Qd #[108,101,116,45,115,121,110,116,97,120])]) (.int kk i)=some (.str x))/\k x=some r:=by
 obtain ⟨x,h,H⟩:=bnd H;exact ⟨x,fun kk=>Qei h kk,H⟩
theorem brm {a b:Int} {k:Int->Option β} (H:(Qju a b>>=k)=some r):∃c,(∀kk:IntKind,(if b=0 then none else some (AV.int kk (a.tmod b)))=some (.int kk c))/\k c=some r:=by
 obtain ⟨z,h,H⟩:=bnd H;exact ⟨z,fun _=>Qce h,H⟩
theorem bqu {a b:Int} {k:Int->Option β} (H:(Qo1 a b>>=k)=some r):∃c,(if b=0 then none else some (AV.int .i64 (IntKind.wrap .i64 (a.tdiv b))))=some (.int .i64 c)/\k c=some r:=by
 obtain ⟨z,h,H⟩:=bnd H;exact ⟨z,Qcd h,H⟩
theorem bss {s:ByteArray} {lo hi:Option AV} {l h:Int} {k:ByteArray->Option β} (hl:bound 0 lo=some l) (hh:bound s.size hi=some h) (H:(Qkj s l h>>=k)=some r):∃z,(∀kk,Bx true kk (.str s) lo hi none=some (.str z))/\k z=some r:=by
 obtain ⟨z,hz,H⟩:=bnd H;exact ⟨z,fun _=>Ux hl hh hz,H⟩
theorem bls (hs:∀x,(g x).length=sz) {xs:List α} {lo hi:Option AV} {l h:Int} {k:List α->Option β} (hl:bound 0 lo=some l) (hh:bound xs.length hi=some h) (H:(Lp xs l h>>=k)=some r) :
  ∃z,(∀(e:TypeId) (by_:Nat) (c:Bool),Bx false (some (e,sz,by_)) (.sl c (rws g xs)) lo hi none=some (.sl (c&&decide (h=xs.length)) (rws g z)))/\k z=some r:=by
 obtain ⟨z,hz,H⟩:=bnd H;exact ⟨z,fun _ _ _=>Uw hs hl hh hz,H⟩
end
section
variable {β:Type} {c:AV} {r:β} {x y:Code} {Q:AX->AS->Prop} {s:AS} {p:Prop} {inst:Decidable p} {a b:Option β}
theorem cdp (H:@ite _ p inst a b=some r) (h1:p->a=some r->GH P x Q s) (h2:¬p->b=some r->GH P y Q s) (hc:c=.bool (decide p):=by rfl):Qb9 P c x y Q s :=
 Qpd p hc (fun h=>h1 h (by rw [if_pos h] at H;exact H)) (fun h=>h2 h (by rw [if_neg h] at H;exact H))
theorem cdn (H:@ite _ p inst a b=some r) (h1:¬p->b=some r->GH P x Q s) (h2:p->a=some r->GH P y Q s) (hc:c=.bool (!decide p):=by rfl):Qb9 P c x y Q s :=
 Qpc p hc (fun h=>h1 h (by rw [if_neg h] at H;exact H)) (fun h=>h2 h (by rw [if_pos h] at H;exact H))
theorem cdb {t:Bool} (H:(if t=true then a else b)=some r) (h1:t=true->a=some r->GH P x Q s) (h2:¬t=true->b=some r->GH P y Q s) (hc:c=.bool t:=by rfl):Qb9 P c x y Q s :=
 Qpb t hc (fun h=>h1 h (by rw [if_pos h] at H;exact H)) (fun h=>h2 h (by rw [if_neg h] at H;exact H))
end
theorem gi {Z:Prop} (q:Z) {t:Bool} {o:Oper} {s:AS} {K:AS->Prop} (h1:t=true/\Z->aop P o s K) (h2:t=false/\Z->K (s.put o.dst Jm)):aGd P (some t) o s K:=SQ (fun h=>h1 ⟨h,q⟩) (fun h=>h2 ⟨h,q⟩)
theorem giN {Z:Prop} (q:Z) {t:Bool} {o:Oper} {s:AS} {K:AS->Prop} (h1:t=false/\Z->aop P o s K) (h2:t=true/\Z->K (s.put o.dst Jm)):aGd P (some (!t)) o s K:=Qcc (fun h=>h1 ⟨h,q⟩) (fun h=>h2 ⟨h,q⟩)
theorem ti {Z:Prop} (q:Z) {t:Bool} {c:Cl} {o:Oper} {s:AS} {K:AS->Prop} (h1:t=true/\Z->tGd P E (some true) c o s K) (h2:t=false/\Z->K (s.put o.dst Jm)):tGd P E (some t) c o s K:=T2 (fun h=>h1 ⟨h,q⟩) (fun h=>h2 ⟨h,q⟩)
theorem tiN {Z:Prop} (q:Z) {t:Bool} {c:Cl} {o:Oper} {s:AS} {K:AS->Prop} (h1:t=false/\Z->tGd P E (some true) c o s K) (h2:t=true/\Z->K (s.put o.dst Jm)):tGd P E (some (!t)) c o s K:=Qdv (fun h=>h1 ⟨h,q⟩) (fun h=>h2 ⟨h,q⟩)
theorem dt {p:Prop} [Decidable p] {Z:Prop} (h:decide p=true/\Z):p:=of_decide_eq_true h.1
theorem df {p:Prop} [Decidable p] {Z:Prop} (h:decide p=false/\Z):¬p:=of_decide_eq_false h.1
theorem dnt {p:Prop} [Decidable p] {Z:Prop} (h:(!decide p)=true/\Z):¬p:=Qui h.1
theorem dnf {p:Prop} [Decidable p] {Z:Prop} (h:(!decide p)=false/\Z):p:=Quh h.1
theorem dbt {b:Bool} {Z:Prop} (h:b=true/\Z):b=true:=h.1
theorem dbf {b:Bool} {Z:Prop} (h:b=false/\Z):¬b=true:=b_f h.1
theorem Yt {T T':Nat->AV} {d:Nat} (lo:Nat) {y x:Bool} (H:(pure y:Option Bool)=some x) (hd:T' d=.bool y:=by
  first | rfl | (refine congrArg AV.bool ?_;simp only [q,decide_true,decide_false,Bool.true_and,Bool.and_true,Bool.false_and,Bool.and_false,Bool.or_true,Bool.true_or,Bool.false_or,Bool.or_false,Bool.not_true,Bool.not_false];done) | (simp only [go_sem,↓reduceIte,Nat.reduceEqDiff,Nat.reduceAdd,Nat.reduceMul,Nat.reduceLeDiff,Nat.reduceLT,Int.reduceEq,Int.toNat_natCast,q];done) | (simp only [go_sem,↓reduceIte,Nat.reduceEqDiff,Nat.reduceAdd,Nat.reduceMul,Nat.reduceLeDiff,Nat.reduceLT,Int.reduceEq,Int.toNat_natCast,q];simp_all [U9]) | simp_all [U9])
  (h:∀i,i < lo->i≠d->T' i=T i:=by (repeat (first | refine SW (by decide) ?_ | refine SU (by decide) ?_))<;>(repeat (first | refine Qcq (by decide) ?_ | refine Qcp (by decide) ?_))<;>exact fun _ _ _=>rfl) :
  ∃J,(⟨T',σ⟩:AS)=⟨upd (low lo J T) d (.bool x),σ⟩:=by
 obtain rfl:=pur H;exact Qjc lo hd h
section
variable {b o k n:Nat} {ty:TypeId} {ag:Bool} {cells cs cells':List AV} {v:AV} {T:Nat->AV} {K:AS->Prop}
theorem st (hF:Fx tt σ bs ms) (i:Nat) {bs':List (Nat × Ent)} (hc:Vx v=some cs) (h:∀ss',Fx tt ss' bs' ms->K ⟨T,ss'⟩) (hi:bs[i]?=some (b,⟨ty,n,cells⟩):=by rfl) (hl:cs.length=k:=by rfl)
  (hle:o+k<=cells.length:=by (simp only [List.length_cons,List.length_nil];decide)) (hs:Ww cells o cs=cells':=by (simp only [Hq,List.take_succ_cons,List.take_zero,List.drop_succ_cons,List.drop_zero,List.length_cons,List.length_nil,Nat.reduceAdd,Nat.zero_add,List.cons_append,List.nil_append,List.append_nil,List.drop_nil])<;>exact rfl)
  (hb:bs.set i (b,⟨ty,n,cells'⟩)=bs':=by (simp only [List.set_cons_succ,List.set_cons_zero])<;>exact rfl):Ab (JL (some (ag,k)) σ (.ptr b o) v) ⟨T,σ⟩ none K:=by
 subst hb;exact Qjj hF i hi hc hl hle hs h
theorem stK (hF:Fx tt σ bs ms) (i:Nat) (hE:E b) {bs':List (Nat × Ent)} (hc:Vx v=some cs) (h:∀ss',Fx tt ss' bs' ms->K ⟨T,ss'⟩) (hi:bs[i]?=some (b,⟨ty,n,cells⟩):=by rfl) (hl:cs.length=k:=by rfl)
  (hle:o+k<=cells.length:=by (simp only [List.length_cons,List.length_nil];decide)) (hs:Ww cells o cs=cells':=by (simp only [Hq,List.take_succ_cons,List.take_zero,List.drop_succ_cons,List.drop_zero,List.length_cons,List.length_nil,Nat.reduceAdd,Nat.zero_add,List.cons_append,List.nil_append,List.append_nil,List.drop_nil])<;>exact rfl)
  (hb:bs.set i (b,⟨ty,n,cells'⟩)=bs':=by (simp only [List.set_cons_succ,List.set_cons_zero])<;>exact rfl):Ab (JL (some (ag,k)) σ (.ptr b o) v) ⟨T,σ⟩ none (kp E σ K):=by
 subst hb;exact Qgr hF i hE hi hc hl hle hs h
theorem stT (hF:Fx tt σ bs ms) (hX:Tau tt0 es tt) (i:Nat) {es':List (Nat × Ent)} (hc:Vx v=some cs) (h:∀tt' ss',Fx tt' ss' bs ms->Tau tt0 es' tt'->K ⟨T,ss'⟩) (hi:es[i]?=some (b,⟨ty,n,cells⟩):=by rfl) (hl:cs.length=k:=by rfl)
  (hle:o+k<=cells.length:=by (simp only [List.length_cons,List.length_nil];decide)) (hs:Ww cells o cs=cells':=by (simp only [Hq,List.take_succ_cons,List.take_zero,List.drop_succ_cons,List.drop_zero,List.length_cons,List.length_nil,Nat.reduceAdd,Nat.zero_add,List.cons_append,List.nil_append,List.append_nil,List.drop_nil])<;>exact rfl)
  (hb:es.set i (b,⟨ty,n,cells'⟩)=es':=by (simp only [List.set_cons_succ,List.set_cons_zero])<;>exact rfl):Ab (JL (some (ag,k)) σ (.ptr b o) v) ⟨T,σ⟩ none K:=by
 subst hb;exact Qgs hF hX i hi hc hl hle hs h
theorem Qti (hF:Fx tt σ bs ms) (hX:Tau tt0 es tt) (i:Nat) (hE:E b) {es':List (Nat × Ent)} (hc:Vx v=some cs) (h:∀tt' ss',Fx tt' ss' bs ms->Tau tt0 es' tt'->K ⟨T,ss'⟩) (hi:es[i]?=some (b,⟨ty,n,cells⟩):=by rfl) (hl:cs.length=k:=by rfl)
  (hle:o+k<=cells.length:=by (simp only [List.length_cons,List.length_nil];decide)) (hs:Ww cells o cs=cells':=by (simp only [Hq,List.take_succ_cons,List.take_zero,List.drop_succ_cons,List.drop_zero,List.length_cons,List.length_nil,Nat.reduceAdd,Nat.zero_add,List.cons_append,List.nil_append,List.append_nil,List.drop_nil])<;>exact rfl)
  (hb:es.set i (b,⟨ty,n,cells'⟩)=es':=by (simp only [List.set_cons_succ,List.set_cons_zero])<;>exact rfl):Ab (JL (some (ag,k)) σ (.ptr b o) v) ⟨T,σ⟩ none (kp E σ K):=by
 subst hb;exact Qc4 hF hX i hE hi hc hl hle hs h
end
theorem rdo {c:Bool} {sz:Nat} {α:Type} {g:α->List AV} {ys:List α} {y:AV} (hs:∀x,(g x).length=sz) (h:y=.sl c (rws g ys):=by first | rfl | (simp only [Vn,VQ,cI,cU,cS,cL,cB,Fm.Yb,Stp.Yb,Cor.Yb,Bnd.Yb,Hit.Yb,Rul.Yb,Mac.Yb,Xpn.Yb,Val.Yb,Slt.Yb];done) | simp only [Vn,VQ,cI,cU,cS,cL,cB,Fm.Yb,Stp.Yb,Cor.Yb,Bnd.Yb,Hit.Yb,Rul.Yb,Mac.Yb,Xpn.Yb,Val.Yb,Slt.Yb,Fm.kind,Fm.name,Fm.num,Fm.sc,Fm.kids,Hit.name,Hit.depth,Hit.one,Hit.many,Cor.kind,Cor.id,Cor.name,Cor.num,Cor.ids,Cor.data,Cor.kids,Val.kind,Val.num,Val.name,Val.items,Val.fn,Val.env,Slt.id,Slt.val]):RdL σ sz y (rws g ys):=RdL.of hs h
section
variable {α β:Type} {g:α->List AV} {xs ys:List α} {r:β} {v y:AV} {e:TypeId} {sz by_:Nat} {T:Nat->AV} {d:Tmp} {K:AS->Prop} {kk:List α->Option β}
theorem apd (hF:Fx tt σ bs ms) (j:Nat) (H:(WT by_ xs ys>>=kk)=some r) (hy:RdL σ sz y (rws g ys)) {ms':List α->AV->List H2} (h:∀z,kk z=some r->∀v' ss',Fx tt ss' bs (ms' z v')->K ⟨upd T d v',ss'⟩) (hj:ms[j]?=some ⟨v,e,sz,rws g xs⟩:=by rfl)
  (hsz:0 < sz:=by decide) (hby:0 < by_:=by decide) (hm:∀z v',ms.set j ⟨v',e,sz,rws g z⟩=ms' z v':=by intro _ _;(simp only [List.set_cons_succ,List.set_cons_zero])<;>exact rfl):JK (some (e,sz,by_)) v y ⟨T,σ⟩ (some d) K:=by
 obtain ⟨z,hz,H⟩:=bnd H;exact Qlo hF j hj hsz hby hy hz fun v' ss' hF=>h z H v' ss' (hm z v'▸hF)
theorem SL (hF:Fx tt σ bs ms) (j:Nat) (H:(WT by_ xs ys>>=kk)=some r) (hy:RdL σ sz y (rws g ys)) {ms':List α->AV->List H2} (h:∀z,kk z=some r->∀v' ss',Fx tt ss' bs (ms' z v')->K ⟨upd T d v',ss'⟩) (hj:ms[j]?=some ⟨v,e,sz,rws g xs⟩:=by rfl)
  (hsz:0 < sz:=by decide) (hby:0 < by_:=by decide) (hm:∀z v',ms.set j ⟨v',e,sz,rws g z⟩=ms' z v':=by intro _ _;(simp only [List.set_cons_succ,List.set_cons_zero])<;>exact rfl):JK (some (e,sz,by_)) v y ⟨T,σ⟩ (some d) (kp E σ K):=by
 obtain ⟨z,hz,H⟩:=bnd H;exact Qnd hF j hj hsz hby hy hz fun v' ss' hF=>h z H v' ss' (hm z v'▸hF)
end
theorem pre (nL nX nM:Nat) (hF:Fx tt σ bs ms) (hX:Tau tt0 es tt):Pre σ (bs.take nL++es.take nX) (ms.take nM) :=
 Fx.pre (bsr:=bs.drop nL) (xsr:=es.drop nX) (msr:=ms.drop nM) (by rw [Kt,Kt];exact hF) (by rw [Kt];exact hX)
theorem aft (nL nX nM:Nat) {es' bn bs1 es1:List (Nat × Ent)} {ms' ms1:List H2} {tt' ss':Sto} (hF:Fx tt σ bs ms) (hX:Tau tt0 es tt) (hT:Tau (strip σ (ms.take nM)) es' tt') (hG:Fx tt' ss' bn ms') (k1:(es'.take nL).map (·.1)=(bs.take nL).map (·.1):=by rfl) (k2:(es'.drop nL).map (·.1)=(es.take nX).map (·.1):=by rfl)
  (e1:bn++(es'.take nL++bs.drop nL)=bs1:=by (try simp only [List.take_succ_cons,List.take_zero,List.drop_succ_cons,List.drop_zero,List.cons_append,List.nil_append,List.append_nil])<;>exact rfl)
  (e2:es'.drop nL++es.drop nX=es1:=by (try simp only [List.take_succ_cons,List.take_zero,List.drop_succ_cons,List.drop_zero,List.cons_append,List.nil_append,List.append_nil])<;>exact rfl)
  (e3:ms'++ms.drop nM=ms1:=by (try simp only [List.take_succ_cons,List.take_zero,List.drop_succ_cons,List.drop_zero,List.cons_append,List.nil_append,List.append_nil])<;>exact rfl):∃tt2,Tau tt0 es1 tt2/\Fx tt2 ss' bs1 ms1:=by
 subst e1 e2 e3;exact Fx.after (esL:=bs.take nL) (bsr:=bs.drop nL) (esX:=es.take nX) (xsr:=es.drop nX) (ms0:=ms.take nM) (msr:=ms.drop nM) (esL':=es'.take nL) (esX':=es'.drop nL) (by rw [List.take_append_drop,List.take_append_drop];exact hF) (by rw [List.take_append_drop];exact hX) (by rw [List.take_append_drop];exact hT) hG k1 k2
theorem DA (nL nM:Nat) {es' bn bs1:List (Nat × Ent)} {ms' ms1:List H2} {tt' ss':Sto} (hF:Fx tt σ bs ms) (hX:Tau tt [] tt) (hT:Tau (strip σ (ms.take nM)) es' tt') (hG:Fx tt' ss' bn ms') (k1:(es'.take nL).map (·.1)=(bs.take nL).map (·.1):=by rfl) (k2:(es'.drop nL).map (·.1)=[]:=by rfl)
  (e1:bn++(es'.take nL++bs.drop nL)=bs1:=by (try simp only [List.take_succ_cons,List.take_zero,List.drop_succ_cons,List.drop_zero,List.cons_append,List.nil_append,List.append_nil])<;>exact rfl)
  (e3:ms'++ms.drop nM=ms1:=by (try simp only [List.take_succ_cons,List.take_zero,List.drop_succ_cons,List.drop_zero,List.cons_append,List.nil_append,List.append_nil])<;>exact rfl):Fx tt ss' bs1 ms1:=by
 have e0:es'.drop nL=[]:=List.map_eq_nil_iff.1 k2;obtain ⟨tt2,h1,h2⟩:=aft (es1:=[]) nL 0 nM hF hX hT hG k1 k2 e1 (by rw [e0];rfl) e3;rw [h1.eq] at h2;exact h2
theorem pck (h:Fx tt σ bs ms) (is js:List Nat) {bs1:List (Nat × Ent)} {ms1:List H2} (hi:is.Nodup:=by decide) (hj:js.Nodup:=by decide)
  (e1:pk bs is=bs1:=by (try simp only [pk,List.filterMap_cons,List.filterMap_nil,List.getElem?_cons_zero,List.getElem?_cons_succ])<;>exact rfl)
  (e3:pk ms js=ms1:=by (try simp only [pk,List.filterMap_cons,List.filterMap_nil,List.getElem?_cons_zero,List.getElem?_cons_succ])<;>exact rfl):Fx tt σ bs1 ms1:=by
 subst e1 e3;exact h.pick is js hi hj
theorem frz (hF:Fx tt σ bs ms) (j:Nat) {v:AV} {e:TypeId} {sz:Nat} {rows:List (List AV)} {ms1:List H2} (hj:ms[j]?=some ⟨v,e,sz,rows⟩:=by rfl)
  (e1:ms.eraseIdx j=ms1:=by (try simp only [List.eraseIdx_cons_zero,List.eraseIdx_cons_succ])<;>exact rfl):∃ssf,Fx tt ssf bs ms1/\Wk σ v ssf (.sl false rows)/\Sub ssf σ/\ssf.var=σ.var:=by
 subst e1;exact hF.freeze j hj
theorem Cor.En (k i:Int) (s:ByteArray) (n:Int) (l:List Int) (d:Fm) (ks:List Cor):(Cor.mk k i s n l d ks).kids=ks:=rfl
section
variable {f:FuncId} {args as caps:List AV} {v:AV} {T:Nat->AV} {dst:Option Tmp} {K:AS->Prop}
theorem cl (h:VP P f as v) (hK:K (AS.put ⟨T,σ⟩ dst v)) (hw:Dz args as:=by
  first | exact Dz.refl _ | ((try simp only [sf,i6,zB,Fm.Yb,Stp.Yb,Cor.Yb,Bnd.Yb,Hit.Yb,Rul.Yb,Mac.Yb,Xpn.Yb,Val.Yb,Slt.Yb,Rdr.Yb])<;>repeat' first | exact Dz.refl _ | refine Dz.cons ?_ ?_ ?_ | exact WkV.refl _ | exact WkV.Yd | exact WkV.slT _ | assumption | (simp only [sf,Vn,VQ,Cor.En,cI,cU,cS,cL,cB,Fm.Yb,Stp.Yb,Cor.Yb,Bnd.Yb,Hit.Yb,Rul.Yb];exact WkV.slT _) | (simp only [sf,Vn,VQ,Cor.En,cI,cU,cS,cL,cB,Fm.Yb,Stp.Yb,Cor.Yb,Bnd.Yb,Hit.Yb,Rul.Yb];refine WkV.rows ?_) | refine WkV.rows ?_ | exact WkR.nil | refine WkR.cons ?_ ?_ | refine WkV.agg ?_ | exact fun h=>h | exact fun _=>rfl)):M0 P (.fn f []) args ⟨T,σ⟩ dst K:=P8 h hw hK
theorem cv {s:AS} (h:VP P f as v) (hK:K (s.put dst v)) (hw:Dz args as:=by
  first | exact Dz.refl _ | ((try simp only [sf,i6,zB,Fm.Yb,Stp.Yb,Cor.Yb,Bnd.Yb,Hit.Yb,Rul.Yb,Mac.Yb,Xpn.Yb,Val.Yb,Slt.Yb,Rdr.Yb])<;>repeat' first | exact Dz.refl _ | refine Dz.cons ?_ ?_ ?_ | exact WkV.refl _ | exact WkV.Yd | exact WkV.slT _ | assumption | (simp only [sf,Vn,VQ,Cor.En,cI,cU,cS,cL,cB,Fm.Yb,Stp.Yb,Cor.Yb,Bnd.Yb,Hit.Yb,Rul.Yb];exact WkV.slT _) | (simp only [sf,Vn,VQ,Cor.En,cI,cU,cS,cL,cB,Fm.Yb,Stp.Yb,Cor.Yb,Bnd.Yb,Hit.Yb,Rul.Yb];refine WkV.rows ?_) | refine WkV.rows ?_ | exact WkR.nil | refine WkR.cons ?_ ?_ | refine WkV.agg ?_ | exact fun h=>h | exact fun _=>rfl)):Qku P (.fn f []) args s dst K:=Qd0 h hw hK
theorem cx {Q:AV->Sto->Prop} (h:Ctr P f as σ Q) (hK:∀r ss',Q r ss'->K (AS.put ⟨T,ss'⟩ dst r)) (hw:Dz (args++caps) as:=by
  first | exact Dz.refl _ | ((try simp only [sf,i6,zB,List.cons_append,List.nil_append,Fm.Yb,Stp.Yb,Cor.Yb,Bnd.Yb,Hit.Yb,Rul.Yb,Mac.Yb,Xpn.Yb,Val.Yb,Slt.Yb,Rdr.Yb])<;>repeat' first | exact Dz.refl _ | refine Dz.cons ?_ ?_ ?_ | exact WkV.refl _ | exact WkV.Yd | exact WkV.slT _ | assumption | (simp only [sf,Vn,VQ,Cor.En,cI,cU,cS,cL,cB,Fm.Yb,Stp.Yb,Cor.Yb,Bnd.Yb,Hit.Yb,Rul.Yb];exact WkV.slT _) | (simp only [sf,Vn,VQ,Cor.En,cI,cU,cS,cL,cB,Fm.Yb,Stp.Yb,Cor.Yb,Bnd.Yb,Hit.Yb,Rul.Yb];refine WkV.rows ?_) | refine WkV.rows ?_ | exact WkR.nil | refine WkR.cons ?_ ?_ | refine WkV.agg ?_ | exact fun h=>h | exact fun _=>rfl)):M0 P (.fn f caps) args ⟨T,σ⟩ dst K:=Qej h hw hK
end
section
variable {rs:List ResultVar} {T:Nat->AV} {v:AV}
theorem rt (vs:List AV) (h:M1 P ⟨T,σ⟩ rs=some vs:=by
  first | (simp only [go_sem,↓reduceIte,Nat.reduceEqDiff,Nat.reduceAdd,Nat.reduceMul,Nat.reduceLeDiff,Nat.reduceLT,Int.reduceEq,Int.toNat_natCast,q,tT,hF.f,hF.m,hF.x hX];done) | rfl | (simp only [go_sem,↓reduceIte,Nat.reduceEqDiff,Nat.reduceAdd,Nat.reduceMul,Nat.reduceLeDiff,Nat.reduceLT,Int.reduceEq,Int.toNat_natCast,q,tT,hF.f,hF.m,hF.x hX];rfl))
  (hw:Wk σ (packed vs) tt v:=by (try simp only [Fm.Yb,Stp.Yb,Cor.Yb,Bnd.Yb,Hit.Yb,Rul.Yb,Mac.Yb,Xpn.Yb,Val.Yb,Slt.Yb,Rdr.Yb])<;>repeat' first | exact hF.wk0 _ | exact WkL.nil | refine Wk.tup hF.sub ?_ | refine WkL.cons ?_ ?_ ?_ | refine Wk.agg hF.sub ?_ | exact Wk.Qo4 .Yd hF.sub | exact Wk.Qo4 (.slT _) hF.sub | exact hF.wk 0 rfl | exact hF.wk 1 rfl | exact hF.wk 2 rfl | exact hF.wk 3 rfl | exact hF.wk 4 rfl | exact hF.wk 5 rfl | exact fun h=>h | exact fun _=>rfl | (simp only [sf,Vn,VQ,cI,cU,cS,cL,cB];exact Wk.Qo4 (.slT _) hF.sub)):ID P rs (fun r ss'=>r=v/\ss'=tt) ⟨T,σ⟩:=Qqe h hw
theorem rg {Q:AV->Sto->Prop} {r:AV} {ss':Sto} (vs:List AV) (hq:Q r ss') (h:M1 P ⟨T,σ⟩ rs=some vs:=by
  first | (simp only [go_sem,↓reduceIte,Nat.reduceEqDiff,Nat.reduceAdd,Nat.reduceMul,Nat.reduceLeDiff,Nat.reduceLT,Int.reduceEq,Int.toNat_natCast,q,tT,hF.f,hF.m,hF.x hX];done) | rfl | (simp only [go_sem,↓reduceIte,Nat.reduceEqDiff,Nat.reduceAdd,Nat.reduceMul,Nat.reduceLeDiff,Nat.reduceLT,Int.reduceEq,Int.toNat_natCast,q,tT,hF.f,hF.m,hF.x hX];rfl))
  (hw:Wk σ (packed vs) ss' r:=by (try simp only [Fm.Yb,Stp.Yb,Cor.Yb,Bnd.Yb,Hit.Yb,Rul.Yb,Mac.Yb,Xpn.Yb,Val.Yb,Slt.Yb,Rdr.Yb])<;>repeat' first | exact Wk.refl _ _ | exact hF.wk0 _ | exact WkL.nil | refine Wk.tup (Sub.refl _) ?_ | refine Wk.tup hF.sub ?_ | refine WkL.cons ?_ ?_ ?_ | refine Wk.agg (Sub.refl _) ?_ | refine Wk.agg hF.sub ?_ | exact Wk.val .Yd | exact Wk.val (.slT _) | exact Wk.Qo4 .Yd hF.sub | exact Wk.Qo4 (.slT _) hF.sub | exact hF.wk 0 rfl | exact hF.wk 1 rfl | exact hF.wk 2 rfl | exact hF.wk 3 rfl | exact hF.wk 4 rfl | exact hF.wk 5 rfl | exact fun h=>h | exact fun _=>rfl | (simp only [sf,Vn,VQ,cI,cU,cS,cL,cB];first | exact Wk.Qo4 (.slT _) hF.sub | exact Wk.val (.slT _))):ID P rs Q ⟨T,σ⟩:=Qtn h hw hq
end
end
end Go.Proofs.Shadow
namespace Go.Proofs.Shadow
open Go
theorem Sto.Qjf {σ:Sto} {ρ:Nat->Option Ent} {b:Nat} : (σ.ext ρ).dead b↔ρ b=none/\σ.dead b:=by
 simp only [Sto.dead,Sto.ext];cases ρ b<;>simp
theorem P5.ext {σ:Sto} {ρ:Nat->Option Ent} {e:TypeId} {sz:Nat} {v:AV} {xs:List (List AV)} (h:P5 σ e sz v xs):P5 (σ.ext ρ) e sz v xs:=h
theorem GZ.ext {σ ss':Sto} {e:TypeId} {sz:Nat} {v v':AV} {zs:List (List AV)} (hp:GZ σ e sz v ss' v' zs) (ρ:Nat->Option Ent) (hr:∀b,ρ b≠none->ss'.dead b):GZ (σ.ext ρ) e sz v (ss'.ext ρ) v' zs:=by
 refine ⟨by simp only [Sto.ext];rw [hp.var],hp.own,hp.same,hp.fresh,hp.blk.imp id (fun h b hb=>Sto.Qjf.2 ⟨?_,h b hb⟩),hp.cap⟩
 cases hρ:ρ b with
 | none=>rfl
 | some x =>
  have hd:=(hr b (by rw [hρ];simp)).2
  rcases hp.own.2 with ⟨h1,_⟩ | h1 | ⟨b',cap,h1,h2⟩
  ·rw [h1] at hb;cases hb
  ·rw [h1] at hb;cases hb
  ·rw [h1] at hb;simp only [AV.blk,Option.some.injEq] at hb;subst hb;rw [h2] at hd;cases hd
theorem GZ.sub {σ ss':Sto} {e:TypeId} {sz:Nat} {v v':AV} {zs:List (List AV)} (hp:GZ σ e sz v ss' v' zs) (hx:v.blk=none):Sub σ ss' :=
 ⟨fun b e hb=>by rw [hp.var];exact hb,fun b e hb=>by rw [hp.same b (by rw [hx];simp) (by rw [hb];simp)];exact hb⟩
theorem GZ.frz {σ ss':Sto} {e:TypeId} {sz:Nat} {v v':AV} {zs:List (List AV)} (hp:GZ σ e sz v ss' v' zs) (hx:v.blk=none):Wk ss' v' σ (.sl false zs):=by
 obtain ⟨ss2,f1,f2,f3,f4⟩:=hp.own.freeze;refine f4.trans (Wk.sub ⟨fun b e hbe=>by rw [f2,hp.var];exact hbe,fun b e hbe=>?_⟩ _)
 have hne:σ.own b≠none:=by rw [hbe];simp
 have hnv:some b≠v'.blk:=by
  rcases hp.blk with h1 | h1
  ·rw [h1,hx];simp
  ·exact fun he=>hne (h1 b he.symm).2
 rw [f3 b hnv,hp.same b (by rw [hx];simp) hne];exact hbe
theorem GZ.Qrm {σ ss':Sto} {e:TypeId} {sz:Nat} {v v':AV} {zs:List (List AV)} (hp:GZ σ e sz v ss' v' zs) (hx:v.blk=none):Wk1 ss' v' σ (.sl false zs) :=
 ⟨hp.frz hx,hp.var.symm,fun b hb=>(hp.sub hx).dead hb,fun ρ hr=>(hp.ext ρ hr).frz hx⟩
theorem Qbo {σ:Sto} {b:Nat} {ty:TypeId} {size:Nat} {cells cells':List AV} (he:σ.own b=some ⟨ty,size,cells⟩) (hw:Dz cells cells') (v:AV):Wk σ v (σ.Vo b ⟨ty,size,cells'⟩) v:=by
 have hd:∀b',σ.dead b'->(σ.Vo b ⟨ty,size,cells'⟩).dead b':=fun b' h=>⟨h.1,by
  simp only [Sto.Vo];split
  ·rename_i h1;subst h1;rw [h.2] at he;cases he
  ·exact h.2⟩
 intro w cv hs hr;have hst:Step σ w (σ.Vo b ⟨ty,size,cells'⟩) w:=Step.drop hd;refine ⟨⟨fun b' e h=>?_,fun b' e h=>?_⟩,hr.step hst,hd⟩
 ·obtain ⟨h1,h2,h3⟩:=hs.var b' e h;refine ⟨h1.step hst rfl,h2,?_⟩;simp only [Sto.Vo];split
  ·rename_i h4;subst h4;rw [h3] at he;cases he
  ·exact h3
 ·simp only [Sto.Vo] at h;split at h
  ·rename_i h4;subst h4
   injection h with h
   subst h;obtain ⟨cs,h1,h2,h3,h4⟩:=(hs.own b' _ he).step hst rfl;refine ⟨cs,h1,h2,by rw [← hw.length];exact h3,fun i c hc=>?_⟩;obtain ⟨a,ha,hwv,hcc⟩:=hw.get i c hc;exact ⟨hcc (h4 i a ha).1,hwv _ _ _ (h4 i a ha).2⟩
  ·exact (hs.own b' e h).step hst rfl
theorem Dz.app {a b c d:List AV} (h:Dz a b) (k:Dz c d):Dz (a++c) (b++d):=by
 induction h with
 | nil=>exact k
 | cons h hc _ ih=>exact .cons h hc ih
theorem GZ.told {σ ss':Sto} {e:TypeId} {sz:Nat} {v v':AV} {xs ys ys':List (List AV)} (ho:P5 σ e sz v xs) (hp:GZ σ e sz v ss' v' (xs++ys)) (hl:ys'.length=ys.length) (hs:∀r∈ys',r.length=sz) (hw:Dz ys.flatten ys'.flatten) :
  ∃s'',Wk1 ss' v' s'' v'/\GZ σ e sz v s'' v' (xs++ys'):=by
 by_cases hy:ys=[]
 ·subst hy;obtain rfl:ys'=[]:=Kv (by simpa using hl);exact ⟨ss',Wk1.refl _ _,hp⟩
 ·have hly:0 < ys.length:=List.length_pos_iff.2 hy
  rcases hp.own.2 with ⟨h1,h2⟩ | h1 | ⟨b,cap,h1,h2⟩
  ·exact absurd (KJ.1 h2).2 hy
  ·exfalso
   rcases hp.cap with h3 | h3
   ·subst h3
    rcases ho.2 with ⟨h4,_⟩ | h4 | ⟨b,cap,h4,_⟩
    ·rw [h4] at h1;cases h1
    ·rw [h4] at h1
     injection h1 with _ h1
     have:=congrArg List.length h1;simp at this;exact hy this
    ·rw [h4] at h1;cases h1
   ·rw [h1] at h3;exact h3 rfl
  ·have hwa:Dz (xs++ys).flatten (xs++ys').flatten:=by rw [Q7,Q7];exact (Dz.refl _).app hw
   have hlen:(xs++ys').length=(xs++ys).length:=by simp [hl]
   refine ⟨ss'.Vo b ⟨e,cap * sz,(xs++ys').flatten⟩,⟨Qbo h2 hwa v',rfl,fun b' h=>⟨h.1,?_⟩,fun ρ _=>Qbo (σ:=ss'.ext ρ) h2 hwa v'⟩,⟨hp.var,⟨fun r hr=>?_,.inr (.inr ⟨b,cap,by rw [hlen];exact h1,by simp [Sto.Vo]⟩)⟩,fun b' hb' hn=>?_,fun b' hb' hn=>?_,hp.blk,hp.cap⟩⟩
   ·simp only [Sto.Vo];split
    ·rename_i h4;subst h4;rw [h.2] at h2;cases h2
    ·exact h.2
   ·rcases QS.1 hr with hr | hr
    ·exact ho.1 r hr
    ·exact hs r hr
   ·simp only [Sto.Vo];split
    ·rename_i h4;subst h4;exfalso
     rcases hp.blk with h5 | h5
     ·rw [← h5,h1] at hb';exact hb' rfl
     ·exact hn (h5 b' (by rw [h1];rfl)).2
    ·exact hp.same b' hb' hn
   ·simp only [Sto.Vo];split
    ·rename_i h4;subst h4;rw [h1] at hn;exact absurd rfl hn
    ·exact hp.fresh b' hb' hn
def Sto.CS (σ:Sto) (v:AV):Sto:=match v with | .ref b _ _=>σ.IG b | _=>σ
theorem Sto.Dg (σ:Sto) (v:AV):(σ.CS v).var=σ.var:=by cases v<;>rfl
theorem Sto.S9 (σ:Sto) (v:AV) (ρ:Nat->Option Ent):(σ.ext ρ).CS v=(σ.CS v).ext ρ:=by cases v<;>rfl
theorem Sto.Df (σ:Sto) (v:AV):Sub (σ.CS v) σ:=by
 cases v<;>first | exact Sub.refl _ | exact Sub.IG _ _
theorem Sto.N4 (σ:Sto) (v:AV) {b:Nat} (h:some b≠v.blk):(σ.CS v).own b=σ.own b:=by
 cases v with
 | ref b' n c =>
  simp only [AV.blk,ne_eq,Option.some.injEq] at h;simp [Sto.CS,Sto.IG,h]
 | _=>rfl
theorem P5.Qr5 {σ:Sto} {e:TypeId} {sz:Nat} {v:AV} {xs:List (List AV)} (h:P5 σ e sz v xs):Wk σ v (σ.CS v) (.sl false xs):=by
 rcases h.2 with ⟨rfl,rfl⟩ | rfl | ⟨b,cap,rfl,he⟩
 ·exact Wk.val .Yd
 ·exact Wk.val (.slT xs)
 ·exact fun w v hs hv=>⟨hs.IG b,Rv.freeze hs he rfl rfl h.1 hv,fun b hb=>(Sub.IG σ _).dead hb⟩
theorem P5.Qrm {σ:Sto} {e:TypeId} {sz:Nat} {v:AV} {xs:List (List AV)} (h:P5 σ e sz v xs):Wk1 σ v (σ.CS v) (.sl false xs) :=
 ⟨h.Qr5,σ.Dg v,fun b hb=>(σ.Df v).dead hb,fun ρ _=>by rw [← Sto.S9];exact (h.ext (ρ:=ρ)).Qr5⟩
theorem Wk1.trans {a b c:Sto} {u v w:AV} (h:Wk1 a u b v) (k:Wk1 b v c w):Wk1 a u c w :=
 ⟨h.wk.trans k.wk,k.var.trans h.var,fun x hx=>k.dead x (h.dead x hx),fun ρ hr=>(h.ext ρ hr).trans (k.ext ρ fun b hb=>h.dead b (hr b hb))⟩
theorem Fx.apart {tt σ:Sto} {bs:List (Nat × Ent)} {ms:List H2} (hF:Fx tt σ bs ms) {j q:Nat} {m m':H2} (hj:ms[j]?=some m) (hq:ms[q]?=some m') (hne:q≠j):FP m' m:=by
 have hjl:=(Qb.1 hj).1;have hql:=(Qb.1 hq).1
 rcases KD q j with hlt | hge
 ·have:=Kp.1 hF.sep q j hql hjl hlt;rwa [(Qb.1 hq).2,(Qb.1 hj).2] at this
 ·have:=Kp.1 hF.sep j q hjl hql (by omega);rw [(Qb.1 hq).2,(Qb.1 hj).2] at this;exact this.symm
theorem EZ.Qtf {tt σ ss':Sto} {e:TypeId} {sz:Nat} {v:AV} {xs:List (List AV)} (h:EZ tt σ e sz v xs) (ho:∀b,v.blk=some b->ss'.own b=σ.own b):EZ tt ss' e sz v xs :=
 ⟨⟨h.1.1,h.1.2.imp id (Or.imp id (fun ⟨b,cap,h6,h7⟩=>⟨b,cap,h6,by rw [ho b (by rw [h6];rfl)];exact h7⟩))⟩,h.2⟩
theorem Fx.CS {tt σ:Sto} {bs:List (Nat × Ent)} {ms:List H2} (hF:Fx tt σ bs ms) (j:Nat) {v:AV} {e:TypeId} {sz:Nat} {rows:List (List AV)} (hj:ms[j]?=some ⟨v,e,sz,rows⟩):Fx tt (σ.CS v) bs (ms.eraseIdx j):=by
 have hm:=hF.DL j hj;refine ⟨⟨fun b e hb=>by rw [Sto.Dg];exact hF.sub.var b e hb,fun b e hb=>?_⟩,fun p hp=>by rw [Sto.Dg];exact hF.var p hp,hF.nd,fun m hm'=>?_,hF.sep.sublist (Kx _ _),fun m hm'=>hF.wr m ((Kx _ _).subset hm')⟩
 ·rw [Sto.N4 _ _ (fun he=>by rw [hm.2 b he.symm] at hb;cases hb)];exact hF.sub.own b e hb
 ·obtain ⟨k,hk⟩:=Qq.1 hm';rw [KI] at hk
  have hap:∀q m,q≠j->ms[q]?=some m->EZ tt (σ.CS v) m.e m.sz m.v m.rows:=fun q m hq hqm=>by
   refine (hF.DL q hqm).Qtf fun b hb=>Sto.N4 _ _ fun he=>?_
   rcases hF.apart hj hqm hq with h8 | h8
   ·rw [hb] at h8;cases h8
   ·exact h8 (by rw [hb];exact he)
  split at hk
  ·exact hap k m (by omega) hk
  ·exact hap (k+1) m (by omega) hk
section
variable {P:Program} {E:Nat->Prop} {tt σ:Sto} {bs:List (Nat × Ent)} {ms:List H2}
variable {α β:Type} {g:α->List AV} {xs ys:List α} {r:β} {v y:AV} {e:TypeId} {sz by_:Nat} {T:Nat->AV} {d:Tmp} {K:AS->Prop} {kk:List α->Option β}
theorem apv (H:(WT by_ xs ys>>=kk)=some r) (hs:∀x,(g x).length=sz) (hy:RdL σ sz y (rws g ys)) (h:∀z,kk z=some r->K ⟨upd T d (.sl false (rws g z)),σ⟩)
  (hx:(v=.Yd/\xs=[])∨v=.sl true (rws g xs):=by first | exact .inl ⟨rfl,rfl⟩ | exact .inr rfl | (refine .inr ?_;simp only [Vn,VQ,cI,cU,cS,cL,cB,Fm.Yb,Stp.Yb,Cor.Yb,Bnd.Yb,Hit.Yb,Rul.Yb,Mac.Yb,Xpn.Yb,Val.Yb,Slt.Yb]))
  (hsz:0 < sz:=by decide) (hby:0 < by_:=by decide):JK (some (e,sz,by_)) v y ⟨T,σ⟩ (some d) K:=by
 obtain ⟨z,hz,H⟩:=bnd H;obtain ⟨rfl,hb⟩:=Bg hz;have ho:P5 σ e sz v (rws g xs):=⟨Cc hs xs,hx.imp (fun h=>⟨h.1,by rw [h.2];rfl⟩) (fun h=>.inl h)⟩
 have hn:v.blk=none:=by rcases hx with ⟨h,_⟩ | h<;>rw [h]<;>rfl
 refine ⟨rws g xs,rws g ys,hsz,hby,ho,hy,by simpa only [Jl] using hb,fun v' ss' hp=>?_⟩;rw [← Bi] at hp;exact ⟨_,σ,hp.Qrm hn,h _ H⟩
theorem Qgq {rows:List (List AV)} (hF:Fx tt σ bs ms) (j:Nat) {zs:List α} (hj:ms[j]?=some ⟨v,e,sz,rws g xs⟩) (hs:∀x,(g x).length=sz) (hsz:0 < sz) (hby:0 < by_) (hy:RdL σ sz y rows) (hl:rows.length=ys.length) (hw:Dz rows.flatten (rws g ys).flatten) (hb:WT by_ xs ys=some zs)
  (h:∀v' ss',Fx tt ss' bs (ms.set j ⟨v',e,sz,rws g zs⟩)->ss'.var=σ.var->K ⟨upd T d v',ss'⟩):JK (some (e,sz,by_)) v y ⟨T,σ⟩ (some d) K:=by
 obtain ⟨rfl,hb2⟩:=Bg hb;refine ⟨rws g xs,rows,hsz,hby,(hF.DL j hj).1,hy,by rw [Jl,hl];exact hb2,fun v' ss' hp=>?_⟩;obtain ⟨ss2,h1,h2⟩:=hp.told (hF.DL j hj).1 (by rw [Jl,hl]) (Cc hs ys) hw;rw [← Bi] at h2;exact ⟨v',ss2,h1,h v' ss2 (hF.app j hj h2) h2.var⟩
theorem apw {rows:List (List AV)} (hF:Fx tt σ bs ms) (j:Nat) (H:(WT by_ xs ys>>=kk)=some r) (hs:∀x,(g x).length=sz) (c:Bool) (hy:y=.sl c rows) (hw:Dz rows.flatten (rws g ys).flatten) {ms':List α->AV->List H2} (h:∀z,kk z=some r->∀v' ss',Fx tt ss' bs (ms' z v')->K ⟨upd T d v',ss'⟩) (hj:ms[j]?=some ⟨v,e,sz,rws g xs⟩:=by rfl)
  (hl:rows.length=ys.length:=by rfl) (hr:∀r∈rows,r.length=sz:=by intro r h;simp only [List.mem_cons,List.not_mem_nil,or_false] at h;(first | (subst h;rfl) | (rcases h with h | h<;>subst h<;>rfl)))
  (hsz:0 < sz:=by decide) (hby:0 < by_:=by decide) (hm:∀z v',ms.set j ⟨v',e,sz,rws g z⟩=ms' z v':=by intro _ _;(simp only [List.set_cons_succ,List.set_cons_zero])<;>exact rfl):JK (some (e,sz,by_)) v y ⟨T,σ⟩ (some d) K:=by
 obtain ⟨z,hz,H⟩:=bnd H;subst hy;exact Qgq hF j hj hs hsz hby (RdL.sl _ _ _ _ hr) hl hw hz fun v' ss' hF _=>h z H v' ss' (hm z v'▸hF)
theorem Qrt {rows:List (List AV)} (hF:Fx tt σ bs ms) (j:Nat) (H:(WT by_ xs ys>>=kk)=some r) (hs:∀x,(g x).length=sz) (c:Bool) (hy:y=.sl c rows) (hw:Dz rows.flatten (rws g ys).flatten) {ms':List α->AV->List H2} (h:∀z,kk z=some r->∀v' ss',Fx tt ss' bs (ms' z v')->K ⟨upd T d v',ss'⟩) (hj:ms[j]?=some ⟨v,e,sz,rws g xs⟩:=by rfl)
  (hl:rows.length=ys.length:=by rfl) (hr:∀r∈rows,r.length=sz:=by intro r h;simp only [List.mem_cons,List.not_mem_nil,or_false] at h;(first | (subst h;rfl) | (rcases h with h | h<;>subst h<;>rfl)))
  (hsz:0 < sz:=by decide) (hby:0 < by_:=by decide) (hm:∀z v',ms.set j ⟨v',e,sz,rws g z⟩=ms' z v':=by intro _ _;(simp only [List.set_cons_succ,List.set_cons_zero])<;>exact rfl):JK (some (e,sz,by_)) v y ⟨T,σ⟩ (some d) (kp E σ K):=by
 obtain ⟨z,hz,H⟩:=bnd H;subst hy;exact Qgq hF j hj hs hsz hby (RdL.sl _ _ _ _ hr) hl hw hz fun v' ss' hF hv=>Bs (FO.RC hv) (h z H v' ss' (hm z v'▸hF))
theorem apf (hF:Fx tt σ bs ms) (j:Nat) (H:(WT by_ xs ys>>=kk)=some r) (hy:RdL σ sz y (rws g ys)) {ms':List H2} (h:∀z,kk z=some r->∀ss',Fx tt ss' bs ms'->K ⟨upd T d (.sl false (rws g z)),ss'⟩) (hj:ms[j]?=some ⟨v,e,sz,rws g xs⟩:=by rfl)
  (hsz:0 < sz:=by decide) (hby:0 < by_:=by decide) (hm:∀x,(ms.set j x).eraseIdx j=ms':=by intro _;(simp only [List.set_cons_succ,List.set_cons_zero,List.eraseIdx_cons_zero,List.eraseIdx_cons_succ])<;>exact rfl):JK (some (e,sz,by_)) v y ⟨T,σ⟩ (some d) K:=by
 obtain ⟨z,hz,H⟩:=bnd H;obtain ⟨rfl,hb⟩:=Bg hz;refine ⟨rws g xs,rws g ys,hsz,hby,(hF.DL j hj).1,hy,by simpa only [Jl] using hb,fun v' ss' hp=>?_⟩;rw [← Bi] at hp;have hF':=hF.app j hj hp;have hj':(ms.set j ⟨v',e,sz,rws g (xs++ys)⟩)[j]?=some ⟨v',e,sz,rws g (xs++ys)⟩:=List.getElem?_set_self (List.getElem?_eq_some_iff.1 hj).1;exact ⟨_,_,hp.own.Qrm,h _ H _ (hm _▸hF'.CS j hj')⟩
theorem Qtb (hF:Fx tt σ bs ms) (j:Nat) (H:(WT by_ xs ys>>=kk)=some r) (hy:RdL σ sz y (rws g ys)) {ms':List H2} (h:∀z,kk z=some r->∀ss',Fx tt ss' bs ms'->K ⟨upd T d (.sl false (rws g z)),ss'⟩) (hj:ms[j]?=some ⟨v,e,sz,rws g xs⟩:=by rfl)
  (hsz:0 < sz:=by decide) (hby:0 < by_:=by decide) (hm:∀x,(ms.set j x).eraseIdx j=ms':=by intro _;(simp only [List.set_cons_succ,List.set_cons_zero,List.eraseIdx_cons_zero,List.eraseIdx_cons_succ])<;>exact rfl):JK (some (e,sz,by_)) v y ⟨T,σ⟩ (some d) (kp E σ K):=by
 obtain ⟨z,hz,H⟩:=bnd H;obtain ⟨rfl,hb⟩:=Bg hz;refine ⟨rws g xs,rws g ys,hsz,hby,(hF.DL j hj).1,hy,by simpa only [Jl] using hb,fun v' ss' hp=>?_⟩;rw [← Bi] at hp;have hF':=hF.app j hj hp;have hj':(ms.set j ⟨v',e,sz,rws g (xs++ys)⟩)[j]?=some ⟨v',e,sz,rws g (xs++ys)⟩:=List.getElem?_set_self (List.getElem?_eq_some_iff.1 hj).1;exact ⟨_,_,hp.own.Qrm,Bs (FO.RC ((Sto.Dg _ _).trans hp.var)) (h _ H _ (hm _▸hF'.CS j hj'))⟩
end
theorem AO {E:Nat->Prop} {tt σ:Sto} {bs:List (Nat × Ent)} {ms:List H2} (hF:Fx tt σ bs ms) {cs:List AV} {ty:TypeId} {T:Nat->AV} {d:Tmp} {K:AS->Prop} {n:Nat} (hn:cs.length=n) (h:∀b ss',σ.var b=none->(∀x,ss'.var x=none->σ.var x=none)->Fx tt ss' ((b,⟨ty,n,cs⟩) :: bs) ms->K ⟨upd T d (.ptr b 0),ss'⟩):Im (some cs) ty ⟨T,σ⟩ (some d) (kp E σ K):=by
 subst hn;refine fun b hb=>Bs (FO.new hb.1 _) (h b _ hb.1 (fun x hx=>?_) (hF.new hb _));simp only [Sto.YG] at hx;split at hx
 ·cases hx
 ·exact hx
theorem em0 {E:Nat->Prop} {σ:Sto} {l:List Nat} (hE:E=EE σ l):∀x,σ.var x=none->E x:=fun x h=>by rw [hE];exact EE.new h
theorem W3 {E:Nat->Prop} {σ:Sto} {K:AS->Prop} {s:AS} (h1:FO E σ s.σ) (h2:FO E σ s.σ->K s):kp E σ K s:=⟨h1,h2 h1⟩
inductive WkU (u:AV) (ro:List (List AV)):List AV->List AV->Prop
 | nil:WkU u ro [] []
 | wk {a b:AV} {as bs:List AV} (h:WkV a b) (hc:a.Y8=true->b.Y8=true) (t:WkU u ro as bs):WkU u ro (a :: as) (b :: bs)
 | own {as bs:List AV} (t:WkU u ro as bs):WkU u ro (u :: as) (.sl false ro :: bs)
theorem WkU.length {u:AV} {ro:List (List AV)} {as bs:List AV} (h:WkU u ro as bs):as.length=bs.length:=by
 induction h with
 | nil=>rfl
 | wk _ _ _ ih=>simp [ih]
 | own _ ih=>simp [ih]
theorem WkU.get {u:AV} {ro:List (List AV)} {as bs:List AV} (h:WkU u ro as bs):∀(i:Nat) (b:AV),bs[i]?=some b->∃a,as[i]?=some a/\((WkV a b/\(a.Y8=true->b.Y8=true))∨(a=u/\b=.sl false ro)):=by
 induction h with
 | nil=>intro i b hb;simp at hb
 | wk h hc _ ih =>
  intro i b hb
  cases i with
  | zero=>simp at hb;subst hb;exact ⟨_,rfl,.inl ⟨h,hc⟩⟩
  | succ i=>simp at hb;simpa using ih i b hb
 | own _ ih =>
  intro i b hb
  cases i with
  | zero=>simp at hb;subst hb;exact ⟨_,rfl,.inr ⟨rfl,rfl⟩⟩
  | succ i=>simp at hb;simpa using ih i b hb
theorem WkU.front {u:AV} {ro:List (List AV)} {as bs:List AV} (h:WkU u ro as bs):∀l:List AV,WkU u ro (l++as) (l++bs)
 | []=>h
 | a :: l=>.wk (.refl a) id (h.front l)
theorem TF {σ:Sto} {b:Nat} {ty:TypeId} {size:Nat} {cells cells':List AV} {u:AV} {e2:TypeId} {sz2:Nat} {ro:List (List AV)} (hu:P5 σ e2 sz2 u ro) (hub:u.blk≠some b) (he:σ.own b=some ⟨ty,size,cells⟩) (hw:WkU u ro cells cells') (v:AV):Wk σ v ((σ.CS u).Vo b ⟨ty,size,cells'⟩) v:=by
 have hob:(σ.CS u).own b=some ⟨ty,size,cells⟩:=by rw [Sto.N4 _ _ (fun h=>hub h.symm)];exact he
 have hd2:∀b',(σ.CS u).dead b'->((σ.CS u).Vo b ⟨ty,size,cells'⟩).dead b':=fun b' h=>⟨h.1,by
  simp only [Sto.Vo];split
  ·rename_i h1;subst h1;rw [h.2] at hob;cases hob
  ·exact h.2⟩
 have hd:∀b',σ.dead b'->((σ.CS u).Vo b ⟨ty,size,cells'⟩).dead b':=fun b' h=>hd2 b' ((σ.Df u).dead h);intro w cv hs hr;have hst:Step σ w ((σ.CS u).Vo b ⟨ty,size,cells'⟩) w:=Step.drop hd;refine ⟨⟨fun b' e h=>?_,fun b' e h=>?_⟩,hr.step hst,hd⟩
 ·have h':σ.var b'=some e:=by rw [← Sto.Dg σ u];exact h
  obtain ⟨h1,h2,h3⟩:=hs.var b' e h';refine ⟨h1.step hst rfl,h2,?_⟩;simp only [Sto.Vo];split
  ·rename_i h4;subst h4;rw [h3] at he;cases he
  ·exact Fz (σ.Df u).own h3
 ·simp only [Sto.Vo] at h;split at h
  ·rename_i h4;subst h4
   injection h with h
   subst h;obtain ⟨cs,h1,h2,h3,h4⟩:=hs.own b' _ he;refine ⟨cs,h1,h2,by rw [← hw.length];exact h3,fun i c hc=>?_⟩;obtain ⟨a,ha,hor⟩:=hw.get i c hc
   rcases hor with ⟨hwv,hcc⟩ | ⟨rfl,rfl⟩
   ·exact ⟨hcc (h4 i a ha).1,hwv _ _ _ ((h4 i a ha).2.step hst)⟩
   ·exact ⟨rfl,(hu.Qr5 w _ hs (h4 i _ ha).2).2.1.step (Step.drop hd2)⟩
  ·exact (hs.own b' e ((σ.Df u).own _ _ h)).step hst rfl
theorem Fx.Qn5 {tt σ:Sto} {bs:List (Nat × Ent)} {ms:List H2} (hF:Fx tt σ bs ms) (j:Nat) {g n cap:Nat} {e:TypeId} {sz:Nat} {rows rows':List (List AV)} (hj:ms[j]?=some ⟨.ref g n cap,e,sz,rows⟩) (hl:rows'.length=rows.length) (hs:∀r∈rows',r.length=sz):Fx tt (σ.Vo g ⟨e,cap * sz,rows'.flatten⟩) bs (ms.set j ⟨.ref g n cap,e,sz,rows'⟩):=by
 have hm:=hF.DL j hj
 obtain ⟨hg,hn⟩:σ.own g=some ⟨e,cap * sz,rows.flatten⟩/\n=rows.length:=by
  rcases hm.1.2 with ⟨h,_⟩ | h | ⟨b,cap',h,h2⟩
  ·cases h
  ·cases h
  ·injection h with h3 h4 h5
   subst h3;subst h5;exact ⟨h2,h4⟩
 have hjl:=(Qb.1 hj).1;refine ⟨⟨hF.sub.var,fun b e' hb=>?_⟩,hF.var,hF.nd,fun m hm'=>?_,?_,fun m hm'=>?_⟩
 ·have:b≠g:=fun h=>by subst h;rw [hm.2 b rfl] at hb;cases hb
  simp only [Sto.Vo,if_neg this];exact hF.sub.own b e' hb
 ·obtain ⟨q,hq⟩:=Qq.1 hm'
  by_cases hqj:q=j
  ·subst hqj;rw [Kw hjl] at hq
   injection hq with hq
   subst hq;exact ⟨⟨hs,.inr (.inr ⟨g,cap,by rw [hl,← hn],by simp [Sto.Vo]⟩)⟩,hm.2⟩
  ·rw [KA (fun h=>hqj h.symm)] at hq;refine (hF.DL q hq).Qtf fun b hb=>?_;simp only [Sto.Vo];split
   ·rename_i h;subst h
    rcases hF.apart hj hq hqj with h8 | h8
    ·rw [hb] at h8;cases h8
    ·exact absurd hb h8
   ·rfl
 ·refine Kp.2 fun p q hp hq hpq=>?_
  have hp':p < ms.length:=by simpa using hp
  have hq':q < ms.length:=by simpa using hq
  have hv:∀(i:Nat) (hi:i < ms.length),((ms.set j ⟨.ref g n cap,e,sz,rows'⟩)[i]'(by simpa using hi)).v=ms[i].v:=fun i hi=>by
   rw [KB];split
   ·rename_i h;subst h;have:=(Qb.1 hj).2;rw [this]
   ·rfl
  have:=Kp.1 hF.sep p q hp' hq' hpq;unfold FP at this ⊢;rw [hv p hp',hv q hq'];exact this
 ·rcases List.mem_or_eq_of_mem_set hm' with h | h
  ·exact hF.wr m h
  ·subst h;exact .inr (by simp [AV.blk])
theorem Fx.swap {tt σ:Sto} {bs:List (Nat × Ent)} {ms:List H2} (hF:Fx tt σ bs ms) (j k j':Nat) (hjk:j≠k) {g n cap:Nat} {e e2:TypeId} {sz sz2:Nat} {rows rows' ro:List (List AV)} {u:AV} (hj:ms[j]?=some ⟨.ref g n cap,e,sz,rows⟩) (hk:ms[k]?=some ⟨u,e2,sz2,ro⟩) (hj':(ms.eraseIdx k)[j']?=some ⟨.ref g n cap,e,sz,rows⟩) (hl:rows'.length=rows.length) (hs:∀r∈rows',r.length=sz) (hw:WkU u ro rows.flatten rows'.flatten) :
  ∃ss2,Wk1 σ (.ref g n cap) ss2 (.ref g n cap)/\Fx tt ss2 bs ((ms.eraseIdx k).set j' ⟨.ref g n cap,e,sz,rows'⟩):=by
 have hm:=hF.DL j hj
 have hg:σ.own g=some ⟨e,cap * sz,rows.flatten⟩:=by
  rcases hm.1.2 with ⟨h,_⟩ | h | ⟨b,cap',h,h2⟩
  ·cases h
  ·cases h
  ·injection h with h3 h4 h5
   subst h3;subst h5;exact h2
 have hub:u.blk≠some g:=by
  rcases hF.apart hj hk (fun h=>hjk h.symm) with h | h
  ·rw [h];simp
  ·exact h
 have hou:=(hF.DL k hk).1;refine ⟨(σ.CS u).Vo g ⟨e,cap * sz,rows'.flatten⟩,⟨TF hou hub hg hw _,Sto.Dg _ _,fun b hb=>?_,fun ρ _=>?_⟩,(hF.CS k hk).Qn5 j' hj' hl hs⟩
 ·refine ⟨((σ.Df u).dead hb).1,?_⟩;simp only [Sto.Vo];split
  ·rename_i h;subst h;rw [hb.2] at hg;cases hg
  ·exact ((σ.Df u).dead hb).2
 ·have:=TF (σ:=σ.ext ρ) (hou.ext (ρ:=ρ)) hub hg hw (.ref g n cap);rw [Sto.S9] at this;exact this
theorem GZ.Qqt {σ ss':Sto} {e:TypeId} {sz:Nat} {v v':AV} {xs ys:List (List AV)} (ho:P5 σ e sz v xs) (hp:GZ σ e sz v ss' v' (xs++ys)) (hy:ys≠[]):∃b cap,v'=.ref b (xs++ys).length cap:=by
 rcases hp.own.2 with ⟨h1,h2⟩ | h1 | ⟨b,cap,h1,h2⟩
 ·exact absurd (KJ.1 h2).2 hy
 ·exfalso
  rcases hp.cap with h3 | h3
  ·subst h3
   rcases ho.2 with ⟨h4,_⟩ | h4 | ⟨b,cap,h4,_⟩
   ·rw [h4] at h1;cases h1
   ·rw [h4] at h1
    injection h1 with _ h1
    have:=congrArg List.length h1;simp at this;exact hy this
   ·rw [h4] at h1;cases h1
  ·rw [h1] at h3;exact h3 rfl
 ·exact ⟨b,cap,h1⟩
section
variable {P:Program} {E:Nat->Prop} {tt σ:Sto} {bs:List (Nat × Ent)} {ms:List H2}
variable {α β:Type} {g:α->List AV} {xs ys:List α} {r:β} {v y:AV} {e:TypeId} {sz by_:Nat} {T:Nat->AV} {d:Tmp} {K:AS->Prop} {kk:List α->Option β}
theorem Qnb {rows:List (List AV)} (hF:Fx tt σ bs ms) (j k j':Nat) {zs:List α} (hjk:j≠k) {u:AV} {e2:TypeId} {sz2:Nat} {ro:List (List AV)} (hj:ms[j]?=some ⟨v,e,sz,rws g xs⟩) (hk:ms[k]?=some ⟨u,e2,sz2,ro⟩) (hjj:∀x,((ms.set j x).eraseIdx k)[j']?=some x) (hs:∀x,(g x).length=sz) (hsz:0 < sz) (hby:0 < by_) (hy:RdL σ sz y rows) (hl:rows.length=ys.length) (hne:ys≠[]) (hw:WkU u ro rows.flatten (rws g ys).flatten) (hb:WT by_ xs ys=some zs) {F:H2->List H2} (hm:∀a c,((ms.set j a).eraseIdx k).set j' c=F c)
  (h:∀v' ss',Fx tt ss' bs (F ⟨v',e,sz,rws g zs⟩)->ss'.var=σ.var->K ⟨upd T d v',ss'⟩):JK (some (e,sz,by_)) v y ⟨T,σ⟩ (some d) K:=by
 obtain ⟨rfl,hb2⟩:=Bg hb;refine ⟨rws g xs,rows,hsz,hby,(hF.DL j hj).1,hy,by rw [Jl,hl];exact hb2,fun v' ss' hp=>?_⟩;have hrne:rows≠[]:=fun h=>hne (Kv (by rw [← hl,h];rfl));obtain ⟨b,cap,rfl⟩:=hp.Qqt (hF.DL j hj).1 hrne;have hF':=hF.app j hj hp;have hjl:=(Qb.1 hj).1;obtain ⟨ss2,h1,h2⟩:=hF'.swap j k j' (rows':=rws g (xs++ys)) hjk (Kw hjl) (by rw [KA hjk];exact hk) (hjj _) (by rw [Jl,QX,QX,Jl,hl]) (Cc hs _) (by rw [Bi,Q7,Q7];exact hw.front _);exact ⟨_,ss2,h1,h _ ss2 (hm _ _▸h2) (h1.var.trans hp.var)⟩
theorem Qtl {rows:List (List AV)} (hF:Fx tt σ bs ms) (j k j':Nat) (H:(WT by_ xs ys>>=kk)=some r) (hs:∀x,(g x).length=sz) (c:Bool) (hy:y=.sl c rows) {u:AV} {e2:TypeId} {sz2:Nat} {ro:List (List AV)} (hw:WkU u ro rows.flatten (rws g ys).flatten) {F:H2->List H2} (h:∀z,kk z=some r->∀v' ss',Fx tt ss' bs (F ⟨v',e,sz,rws g z⟩)->K ⟨upd T d v',ss'⟩) (hj:ms[j]?=some ⟨v,e,sz,rws g xs⟩:=by rfl) (hk:ms[k]?=some ⟨u,e2,sz2,ro⟩:=by rfl)
  (hjk:j≠k:=by decide) (hjj:∀x,((ms.set j x).eraseIdx k)[j']?=some x:=by intro x;exact rfl)
  (hl:rows.length=ys.length:=by rfl) (hne:ys≠[]:=by (intro h;cases h)) (hr:∀r∈rows,r.length=sz:=by intro r h;simp only [List.mem_cons,List.not_mem_nil,or_false] at h;(first | (subst h;rfl) | (rcases h with h | h<;>subst h<;>rfl)))
  (hsz:0 < sz:=by decide) (hby:0 < by_:=by decide) (hm:∀a c,((ms.set j a).eraseIdx k).set j' c=F c:=by intro _ _;(simp only [List.set_cons_succ,List.set_cons_zero,List.eraseIdx_cons_zero,List.eraseIdx_cons_succ])<;>exact rfl):JK (some (e,sz,by_)) v y ⟨T,σ⟩ (some d) K:=by
 obtain ⟨z,hz,H⟩:=bnd H;subst hy
 exact Qnb hF j k j' hjk hj hk hjj hs hsz hby (RdL.sl _ _ _ _ hr) hl hne hw hz hm fun v' ss' hF hv=>by
  exact h z H v' ss' hF
end
section
variable {P:Program} {E:Nat->Prop} {tt σ:Sto} {bs:List (Nat × Ent)} {ms:List H2}
end
end Go.Proofs.Shadow
namespace Go.Proofs.Shadow
open Go
section
variable {P:Program} {E:Nat->Prop} {n:Nat} {ss0:Sto} {w0:World}
theorem NF {ops:Array Oper} {K:AS->Prop} {s:AS} (A B:List (Cl × Nat)):Oz P E ops (A++B) K s=Oz P E ops A (Oz P E ops B K) s:=by
 unfold Oz;rw [Kr,SG]
theorem Qfr {ops:Array Oper} {B:List (List Nat)} (hB:FU ops B=true) {listed:Array Bool} (hsz:listed.size=ops.size) (hcl:∀i,i < ops.size->listed.getD i true=true->∀m∈N2 (Ac ops i),listed.getD m false=true) {i:Nat} (hi:i < ops.size) (hid:∀m∈N2 (Ac ops i),listed.getD m false=true) {l:Nat} (hl:l∈B.getD i []):listed.getD l false=true:=by
 have hB':=hB;unfold FU at hB;rw [Q8] at hB;have hBi:=hB i (Kf.2 hi);rw [QG,Q8,Q8] at hBi;have h3:=hBi.2 l hl;rw [Bool.or_eq_true] at h3
 rcases h3 with h3 | h3
 ·exact hid l (by simpa using h3)
 ·rw [List.any_eq_true] at h3;obtain ⟨m,hm,hml⟩:=h3
  have hmi:m < i:=by simpa using hBi.1 m hm
  exact Rq hB' hsz hcl m (by omega) (by rw [Ap (by omega) true false];exact hid m hm) l (by simpa using hml)
theorem Qf4 {ops:Array Oper} {B:List (List Nat)} (hB:FU ops B=true) {i m:Nat} (hi:i < ops.size) (hm:m∈N2 (Ac ops i)):m < i:=by
 unfold FU at hB;rw [Q8] at hB;have:=hB i (Kf.2 hi);rw [QG,Q8] at this;simpa using this.1 m hm
structure Qtk (P:Program) (ops:Array Oper) (B:List (List Nat)) (Pre:List (Cl × Nat)) (p q:Cl × Nat) (A Z:List (Cl × Nat)) (listed:Array Bool):Prop where
 size:listed.size=ops.size
 mem:∀i,i < ops.size->(listed.getD i true=false↔∃c,(c,i)∈Pre++p :: (A++q :: Z))
 lt:∀x∈Pre++p :: (A++q :: Z),x.2 < ops.size
 closed:∀i,i < ops.size->listed.getD i true=true->∀m∈N2 (Ac ops i),listed.getD m false=true
 pairs:As P ops B (Pre++(A++q :: Z))=true
 pairp:As P ops B (Pre++p :: (A++Z))=true
 post:∀x∈A++Z,p.2∈B.getD x.2 []
 pq:q.2∉N2 (Ac ops p.2)/\p.2≠q.2
theorem Qbu {listed:Array Bool} {i:Nat} (hi:i < listed.size) (j:Nat) (b:Bool):(listed.setIfInBounds i true).getD j b=if j=i then true else listed.getD j b:=by
 by_cases hj:j=i
 ·subst hj;rw [if_pos rfl];simp [hi]
 ·rw [if_neg hj];simp [Array.getElem?_setIfInBounds_ne (Ne.symm hj)]
theorem Mb {ops:Array Oper} {listed:Array Bool} (hsz:listed.size=ops.size) {i:Nat} (hi:i < ops.size) {A A':List (Cl × Nat)} (hm:∀j,j < ops.size->(listed.getD j true=false↔∃c,(c,j)∈A)) (hn:∀c,(c,i)∉A') (hA:∀c j,j≠i->((c,j)∈A↔(c,j)∈A')):∀j,j < ops.size->((listed.setIfInBounds i true).getD j true=false↔∃c,(c,j)∈A'):=by
 intro j hj;rw [Qbu (by omega)]
 by_cases hji:j=i
 ·subst hji;rw [if_pos rfl];constructor
  ·intro h;cases h
  ·rintro ⟨c,hc⟩;exact absurd hc (hn c)
 ·rw [if_neg hji,hm j hj];constructor
  ·rintro ⟨c,hc⟩;exact ⟨c,(hA c j hji).1 hc⟩
  ·rintro ⟨c,hc⟩;exact ⟨c,(hA c j hji).2 hc⟩
theorem DJ {ops:Array Oper} {listed:Array Bool} (hsz:listed.size=ops.size) {i:Nat} (hi:i < ops.size) (hc:∀j,j < ops.size->listed.getD j true=true->∀m∈N2 (Ac ops j),listed.getD m false=true) (hid:∀m∈N2 (Ac ops i),listed.getD m false=true):∀j,j < ops.size->(listed.setIfInBounds i true).getD j true=true->∀m∈N2 (Ac ops j),(listed.setIfInBounds i true).getD m false=true:=by
 intro j hj hjl m hm;rw [Qbu (by omega)] at hjl ⊢
 by_cases hmi:m=i
 ·rw [if_pos hmi]
 ·rw [if_neg hmi]
  by_cases hji:j=i
  ·subst hji;exact hid m hm
  ·rw [if_neg hji] at hjl;exact hc j hj hjl m hm
theorem Ft {ops:Array Oper} {B:List (List Nat)} {Qe:Exit->Act->World->Prop} {K:AS->Prop} (hB:FU ops B=true) (hok:∀o∈ops.toList,Um P n o=true) (hQ:∀a w,NT P n ss0 w0 K a w->Qe .normal a w) (p q:Cl × Nat) (A Z:List (Cl × Nat)) :
  ∀(fuel:Nat) (Pre:List (Cl × Nat)) (listed:Array Bool) (s:AS) (a:Act) (w:World),(Pre++p :: (A++q :: Z)).length=fuel->Qtk P ops B Pre p q A Z listed->Rel P n ss0 w0 s a w->Oz P E ops Pre (fun s'=>Oz P E ops (p :: (A++q :: Z)) K s'/\Oz P E ops (q :: p :: (A++Z)) K s') s->wpAny P .any ops Qe fuel listed a w
 | 0,Pre,listed,s,a,w,hl,hI,hR,h=>by simp at hl
 | fuel+1,Pre,listed,s,a,w,hl,hI,hR,h=>by
  have hpm:p∈Pre++p :: (A++q :: Z):=by simp
  have hqm:q∈Pre++p :: (A++q :: Z):=by simp
  have unl:∀x∈Pre++p :: (A++q :: Z),listed.getD x.2 false=false:=fun x hx=>by
   rw [Ap (by rw [hI.size];exact hI.lt x hx) false true];exact (hI.mem x.2 (hI.lt x hx)).2 ⟨x.1,hx⟩
  refine ⟨fun hr=>?_,fun i hi=>?_⟩
  ·exfalso
   have key:∀h∈Pre++p :: (A++q :: Z),(∀x∈Pre++p :: (A++q :: Z),x.2∉N2 (Ac ops h.2))->False:=fun h hm hd=>by
    have hmem:h.2∈Region.ready .any ops listed:=Qbs (hI.lt h hm) ((hI.mem h.2 (hI.lt h hm)).2 ⟨h.1,hm⟩) (fun m hmd=>by
     apply Classical.byContradiction;intro hml;have hmi:=Qf4 hB (hI.lt h hm) hmd
     have hms:m < ops.size:=by have:=hI.lt h hm;omega
     have hml':listed.getD m true=false:=by
      rw [Ap (by rw [hI.size];exact hms) true false];simpa using hml
     obtain ⟨c,hc⟩:=(hI.mem m hms).1 hml'
     exact hd _ hc hmd)
    rw [hr] at hmem;cases hmem
   have self:∀h∈Pre++p :: (A++q :: Z),h.2∉N2 (Ac ops h.2):=fun h hm hd=>by
    have:=Qf4 hB (hI.lt h hm) hd;omega
   cases Pre with
   | nil =>
    have a2:=(Hu [] (A++Z) hI.pairp).2.2;refine key p hpm (fun x hx=>?_);simp only [List.nil_append,Kl,QS] at hx
    rcases hx with rfl | hx | rfl | hx
    ·exact self _ hpm
    ·exact (Vj (a2 x (by simp [hx]))).1
    ·exact hI.pq.1
    ·exact (Vj (a2 x (by simp [hx]))).1
   | cons y Pre =>
    have a1:=(Hu [] (Pre++(A++q :: Z)) hI.pairs).2.2;have a2:=(Hu [] (Pre++p :: (A++Z)) hI.pairp).2.2;refine key y (by simp) (fun x hx=>?_);simp only [Kj,Kl,QS] at hx
    rcases hx with rfl | hx | rfl | hx | rfl | hx
    ·exact self _ (by simp)
    ·exact (Vj (a1 x (by simp [hx]))).1
    ·exact (Vj (a2 x (by simp))).1
    ·exact (Vj (a1 x (by simp [hx]))).1
    ·exact (Vj (a1 x (by simp))).1
    ·exact (Vj (a1 x (by simp [hx]))).1
  ·obtain ⟨hil,hiu,hid⟩:=Md hi;obtain ⟨c,hc⟩:=(hI.mem i hil).1 hiu
   have bef:∀x∈Pre++p :: (A++q :: Z),x.2∉B.getD i []:=fun x hx hb=>by
    have:=Qfr hB hI.size hI.closed hil hid hb;rw [unl x hx] at this;cases this
   unfold wpOp
   have hg:ops[i]?=some (Ac ops i):=by simp [Ac,hil]
   simp only [hg];have hop:=hok _ (by rw [Qq];exact ⟨i,by simpa using hg⟩);have hpq:=hI.pq.2;simp only [QS,Kl] at hc
   rcases hc with hc | hc | hc | hc | hc
   ·
    obtain ⟨R1,R2,rfl⟩:=List.append_of_mem hc
    have hs1:As P ops B (R1++(c,i) :: (R2++(A++q :: Z)))=true:=by have:=hI.pairs;simpa using this
    have hs2:As P ops B (R1++(c,i) :: (R2++p :: (A++Z)))=true:=by have:=hI.pairp;simpa using this
    obtain ⟨p1,p2,p3⟩:=Hu R1 _ hs1;obtain ⟨p1',p2',p3'⟩:=Hu R1 _ hs2
    have hfirst:=Er (P:=P) (E:=E) R1 R2 s (fun x hx=>by
     obtain ⟨q1,q2,q3⟩:=Vj (p2 x hx)
     rcases q3 with q3 | q3
     ·exact absurd q3 (bef x (by simp [hx]))
     ·exact q3) h
    refine NI (E:=E) (c:=c) hop hR hfirst (fun a' w' hp=>?_);obtain ⟨s',hs',hR'⟩:=hp;have hpne:p.2≠i:=fun he=>(Vj (p3' p (by simp))).2.1 he.symm;refine Ft hB hok hQ p q A Z fuel (R1++R2) _ s' a' w' (by simp at hl ⊢;omega) ⟨by simp [hI.size],Mb hI.size hil hI.mem ?_ ?_,fun x hx=>hI.lt x ?_,DJ hI.size hil hI.closed hid,by simpa using p1,by simpa using p1',hI.post,hI.pq⟩ hR' hs'
    ·intro c' hc';simp only [QS,Kl] at hc'
     rcases hc' with (hc' | hc') | hc' | hc' | hc' | hc'
     ·exact (Vj (p2 (c',i) hc')).2.1 rfl
     ·exact (Vj (p3 (c',i) (by simp [hc']))).2.1 rfl
     ·exact hpne (congrArg Prod.snd hc').symm
     ·exact (Vj (p3 (c',i) (by simp [hc']))).2.1 rfl
     ·exact (Vj (p3 (c',i) (by simp [hc']))).2.1 rfl
     ·exact (Vj (p3 (c',i) (by simp [hc']))).2.1 rfl
    ·intro c' j hj;simp only [QS,Kl,Prod.mk.injEq];constructor
     ·rintro ((h | ⟨h1,h2⟩ | h) | h)
      ·exact .inl (.inl h)
      ·exact absurd h2 hj
      ·exact .inl (.inr h)
      ·exact .inr h
     ·rintro ((h | h) | h)
      ·exact .inl (.inl h)
      ·exact .inl (.inr (.inr h))
      ·exact .inr h
    ·simp only [QS,Kl] at hx ⊢
     rcases hx with (h | h) | h
     ·exact .inl (.inl h)
     ·exact .inl (.inr (.inr h))
     ·exact .inr h
   ·
    have hci:c=p.1:=congrArg Prod.fst hc;have hip:i=p.2:=congrArg Prod.snd hc;subst hci;subst hip
    have h1:Oz P E ops (Pre++[p]) (Oz P E ops (A++q :: Z) K) s:=by
     rw [NF];exact Dy _ h (fun s' hs'=>hs'.1)
    obtain ⟨_,p2,p3⟩:=Hu Pre (A++Z) hI.pairp
    have hfirst:=Er (P:=P) (E:=E) (c:=p.1) (i:=p.2) Pre [] s (fun x hx=>by
     obtain ⟨q1,q2,q3⟩:=Vj (p2 x hx)
     rcases q3 with q3 | q3
     ·exact absurd q3 (bef x (by simp [hx]))
     ·exact q3) h1
    refine NI (E:=E) (c:=p.1) hop hR hfirst (fun a' w' hp=>?_);obtain ⟨s',hs',hR'⟩:=hp;rw [KK] at hs'
    have hs2:Oz P E ops (Pre++(A++q :: Z)) K s':=by rw [NF];exact hs'
    refine Nz (E:=E) hB hok hQ fuel (Pre++(A++q :: Z)) _ s' a' w' (by simp at hl ⊢;omega) ⟨by simp [hI.size],Mb hI.size hil hI.mem ?_ ?_,fun x hx=>hI.lt x ?_,DJ hI.size hil hI.closed hid,hI.pairs⟩ hR' hs2
    ·intro c' hc';simp only [QS,Kl] at hc'
     rcases hc' with hc' | hc' | hc' | hc'
     ·exact (Vj (p2 (c',p.2) hc')).2.1 rfl
     ·exact (Vj (p3 (c',p.2) (by simp [hc']))).2.1 rfl
     ·exact hpq (show (c',p.2).2=q.2 from congrArg Prod.snd hc')
     ·exact (Vj (p3 (c',p.2) (by simp [hc']))).2.1 rfl
    ·intro c' j hj;simp only [QS,Kl];constructor
     ·rintro (h | h | h)
      ·exact .inl h
      ·exact absurd (congrArg Prod.snd h) hj
      ·exact .inr h
     ·rintro (h | h)
      ·exact .inl h
      ·exact .inr (.inr h)
    ·simp only [QS,Kl] at hx ⊢
     rcases hx with h | h
     ·exact .inl h
     ·exact .inr (.inr h)
   ·exact absurd (hI.post (c,i) (by simp [hc])) (bef p hpm)
   ·
    have hci:c=q.1:=congrArg Prod.fst hc;have hip:i=q.2:=congrArg Prod.snd hc;subst hci;subst hip
    have h1:Oz P E ops (Pre++[q]) (Oz P E ops (p :: (A++Z)) K) s:=by
     rw [NF];exact Dy _ h (fun s' hs'=>hs'.2)
    have hs1:As P ops B ((Pre++A)++q :: Z)=true:=by have:=hI.pairs;simpa using this
    obtain ⟨p1,p2,p3⟩:=Hu (Pre++A) _ hs1
    have hfirst:=Er (P:=P) (E:=E) (c:=q.1) (i:=q.2) Pre [] s (fun x hx=>by
     obtain ⟨q1,q2,q3⟩:=Vj (p2 x (by simp [hx]))
     rcases q3 with q3 | q3
     ·exact absurd q3 (bef x (by simp [hx]))
     ·exact q3) h1
    refine NI (E:=E) (c:=q.1) hop hR hfirst (fun a' w' hp=>?_);obtain ⟨s',hs',hR'⟩:=hp;rw [KK] at hs'
    have hs2:Oz P E ops (Pre++p :: (A++Z)) K s':=by rw [NF];exact hs'
    refine Nz (E:=E) hB hok hQ fuel (Pre++p :: (A++Z)) _ s' a' w' (by simp at hl ⊢;omega) ⟨by simp [hI.size],Mb hI.size hil hI.mem ?_ ?_,fun x hx=>hI.lt x ?_,DJ hI.size hil hI.closed hid,hI.pairp⟩ hR' hs2
    ·intro c' hc';simp only [QS,Kl] at hc'
     rcases hc' with hc' | hc' | hc' | hc'
     ·exact (Vj (p2 (c',q.2) (by simp [hc']))).2.1 rfl
     ·exact hpq (show (c',q.2).2=p.2 from congrArg Prod.snd hc').symm
     ·exact (Vj (p2 (c',q.2) (by simp [hc']))).2.1 rfl
     ·exact (Vj (p3 (c',q.2) (by simp [hc']))).2.1 rfl
    ·intro c' j hj;simp only [QS,Kl];constructor
     ·rintro (h | h | h | h | h)
      ·exact .inl h
      ·exact .inr (.inl h)
      ·exact .inr (.inr (.inl h))
      ·exact absurd (congrArg Prod.snd h) hj
      ·exact .inr (.inr (.inr h))
     ·rintro (h | h | h | h)
      ·exact .inl h
      ·exact .inr (.inl h)
      ·exact .inr (.inr (.inl h))
      ·exact .inr (.inr (.inr (.inr h)))
    ·simp only [QS,Kl] at hx ⊢
     rcases hx with h | h | h | h
     ·exact .inl h
     ·exact .inr (.inl h)
     ·exact .inr (.inr (.inl h))
     ·exact .inr (.inr (.inr (.inr h)))
   ·exact absurd (hI.post (c,i) (by simp [hc])) (bef p hpm)
def Qaw (P:Program) (ops:Array Oper) (Pre:List (Cl × Nat)) (p q:Cl × Nat) (A Z:List (Cl × Nat)):Bool :=
 FU ops (Qo0 ops)&&As P ops (Qo0 ops) (Pre++(A++q :: Z))&&As P ops (Qo0 ops) (Pre++p :: (A++Z))&&(List.range ops.size).all (fun i=>(Pre++p :: (A++q :: Z)).any fun p=>p.2 == i)&&(Pre++p :: (A++q :: Z)).all (fun p=>decide (p.2 < ops.size))&&((Pre++p :: (A++q :: Z)).length == ops.size)
  && (A++Z).all (fun x=>((Qo0 ops).getD x.2 []).contains p.2)&&(!(N2 (Ac ops p.2)).contains q.2&&p.2 != q.2)
theorem RZ {ops:Array Oper} {K:AS->Prop} {s:AS} (E:Nat->Prop) (cl:List Cl) (is:List Nat) (p q:Nat) (clA:List Cl) (isA:List Nat) (clZ:List Cl) (isZ:List Nat) (hchk:Qaw P ops (cl.zip is) (.x,p) (.x,q) (clA.zip isA) (clZ.zip isZ)=true)
  (h:LI P E (ops.toList.map (·.dst)) ((cl.zip is).map fun p=>(p.1,Ac ops p.2)) (fun s'=>LI P E (ops.toList.map (·.dst)) ((Cl.x,Ac ops p) :: (((clA.zip isA).map fun p=>(p.1,Ac ops p.2))++(Cl.x,Ac ops q) :: (clZ.zip isZ).map fun p=>(p.1,Ac ops p.2))) K s'/\LI P E (ops.toList.map (·.dst)) ((Cl.x,Ac ops q) :: (Cl.x,Ac ops p) :: (((clA.zip isA).map fun p=>(p.1,Ac ops p.2))++(clZ.zip isZ).map fun p=>(p.1,Ac ops p.2))) K s') s):RJ P ops K s:=by
 intro n ss0 w0 a w Qe hok hR hQ;unfold Qaw at hchk;simp only [QG] at hchk;obtain ⟨⟨⟨⟨⟨⟨⟨h1,h2⟩,h2'⟩,h3⟩,h4⟩,h5⟩,h6⟩,h7⟩:=hchk;generalize cl.zip is=Pre at *;generalize clA.zip isA=A at *;generalize clZ.zip isZ=Z at *
 have h5':(Pre++(Cl.x,p) :: (A++(Cl.x,q) :: Z)).length=ops.size:=by simpa using h5
 refine Ft (E:=E) h1 hok hQ (.x,p) (.x,q) A Z ops.size Pre _ s a w h5' ⟨by simp,fun i hi=>?_,fun p hp=>by have:=(Q8.1 h4) p hp;simpa using this,fun i hi hl=>?_,h2,h2',fun x hx=>by have:=(Q8.1 h6) x hx;simpa using this,by simpa using h7⟩ hR (Dy _ h fun s' hs=>⟨by have:=hs.1;unfold Oz;simpa using this,by have:=hs.2;unfold Oz;simpa using this⟩)
 ·have hf:(Array.replicate ops.size false).getD i true=false:=by simp [hi]
  rw [hf];have:=(Q8.1 h3) i (Kf.2 hi);rw [List.any_eq_true] at this;obtain ⟨p,hp,hpi⟩:=this
  have:p.2=i:=by simpa using hpi
  subst this;exact ⟨fun _=>⟨p.1,hp⟩,fun _=>rfl⟩
 ·have hf:(Array.replicate ops.size false).getD i true=false:=by simp [hi]
  rw [hf] at hl;cases hl
theorem Qa9 {E:Nat->Prop} {tt σ:Sto} {bs:List (Nat × Ent)} {ms:List H2} (hF:Fx tt σ bs ms) (j:Nat) {ag:Bool} {k b n c o:Nat} {e:TypeId} {sz:Nat} {α:Type} {g:α->List AV} {l:List α} {x:α} {i:Int} {p:Nat} {v:AV} {cs:List AV} {T:Nat->AV} {K:AS->Prop} (y:α) (hs:∀x,(g x).length=sz) (hp:p=i.toNat * sz+o) (hj:ms[j]?=some ⟨.ref b n c,e,sz,rws g l⟩) (h:idx l i=some x)
  (hc:Vx v=some cs) (hl:cs.length=k) (hle:o+k<=sz) (hy:Ww (g x) o cs=g y) (hK:∀ss',Fx tt ss' bs (ms.set j ⟨.ref b n c,e,sz,rws g (l.set i.toNat y)⟩)->K ⟨T,ss'⟩):Ab (JL (some (ag,k)) σ (.optr b p) v) ⟨T,σ⟩ none (kp E σ K):=by
 subst hp;obtain ⟨h0,h1,h2⟩:=MT hF j hj;obtain ⟨i0,i1,i2⟩:=Fc h;have hfl:=V1 (rws g l) h2;rw [Jl] at hfl
 have hle2:i.toNat * sz+sz<=l.length * sz:=by
  have:(i.toNat+1) * sz<=l.length * sz:=Kz sz i1;rwa [KL,KM] at this
 have hx:(rws g l)[i.toNat]?=some (g x):=by simp [rws,i2]
 have hset:rws g (l.set i.toNat y)=(rws g l).set i.toNat (g y):=by simp [rws,KH]
 have e1:JL (some (ag,k)) σ (.optr b (i.toNat * sz+o)) v=some (σ.Vo b ⟨e,c * sz,(rws g (l.set i.toNat y)).flatten⟩):=by
  simp only [JL,hc,h1,Qh];rw [if_pos hl,if_pos (by rw [hfl];omega),ME h2 hx (by omega),hy,hset]
 rw [e1];refine Bs (FO.RC rfl) (hK _ ?_);exact hF.oset j hj (by simp [Jl]) (Cc hs _)
theorem Qph (T:Nat->AV):aev T (.const (Value.agg #[Value.int IntKind.i64 0,Value.string (Qd #[]),Value.int IntKind.i64 0,Value.slice none 0 0,Value.slice none 0 0]))=AV.agg [AV.int IntKind.i64 0,AV.str (Qd #[]),AV.int IntKind.i64 0,AV.Yd,AV.Yd]:=by rfl
end
section
variable {P:Program} {E:Nat->Prop} {tt σ:Sto} {bs:List (Nat × Ent)} {ms:List H2}
variable {α β:Type} {g:α->List AV} {xs ys:List α} {r:β} {v y:AV} {e:TypeId} {sz by_:Nat} {T:Nat->AV} {d:Tmp} {K:AS->Prop} {kk:List α->Option β}
theorem Qnc {rows mid:List (List AV)} (hF:Fx tt σ bs ms) (j k j' k2 j2:Nat) {zs:List α} (hjk:j≠k) (hjk2:j'≠k2) {u u2:AV} {e2 e3:TypeId} {sz2 sz3:Nat} {ro ro2:List (List AV)} (hj:ms[j]?=some ⟨v,e,sz,rws g xs⟩) (hk:ms[k]?=some ⟨u,e2,sz2,ro⟩) (hjj:∀x,((ms.set j x).eraseIdx k)[j']?=some x) (hk2:∀x,((ms.set j x).eraseIdx k)[k2]?=some ⟨u2,e3,sz3,ro2⟩) (hjj2:∀x y,((((ms.set j x).eraseIdx k).set j' y).eraseIdx k2)[j2]?=some y)
  (hs:∀x,(g x).length=sz) (hsz:0 < sz) (hby:0 < by_) (hy:RdL σ sz y rows) (hl:rows.length=ys.length) (hne:ys≠[]) (hml:mid.length=rows.length) (hms:∀r∈mid,r.length=sz) (hw:WkU u ro rows.flatten mid.flatten) (hw2:WkU u2 ro2 mid.flatten (rws g ys).flatten) (hb:WT by_ xs ys=some zs) {F:H2->List H2} (hm:∀a b c,((((ms.set j a).eraseIdx k).set j' b).eraseIdx k2).set j2 c=F c)
  (h:∀v' ss',Fx tt ss' bs (F ⟨v',e,sz,rws g zs⟩)->ss'.var=σ.var->K ⟨upd T d v',ss'⟩):JK (some (e,sz,by_)) v y ⟨T,σ⟩ (some d) K:=by
 obtain ⟨rfl,hb2⟩:=Bg hb;refine ⟨rws g xs,rows,hsz,hby,(hF.DL j hj).1,hy,by rw [Jl,hl];exact hb2,fun v' ss' hp=>?_⟩;have hrne:rows≠[]:=fun h=>hne (Kv (by rw [← hl,h];rfl));obtain ⟨b,cap,rfl⟩:=hp.Qqt (hF.DL j hj).1 hrne;have hF':=hF.app j hj hp;have hjl:=(Qb.1 hj).1
 obtain ⟨ss2,h1,h2⟩:=hF'.swap j k j' (rows':=rws g xs++mid) hjk (Kw hjl) (by rw [KA hjk];exact hk) (hjj _) (by rw [QX,QX,hml]) (fun r hr=>by
  rcases QS.1 hr with hr | hr
  ·exact Cc hs _ r hr
  ·exact hms r hr) (by rw [Q7,Q7];exact hw.front _)
 have hjl2:=(Qb.1 (hjj ⟨.ref b (rws g xs++rows).length cap,e,sz,rws g xs++rows⟩)).1;obtain ⟨ss3,h3,h4⟩:=h2.swap j' k2 j2 (rows':=rws g (xs++ys)) hjk2 (Kw hjl2) (by rw [KA hjk2];exact hk2 _) (hjj2 _ _) (by rw [Jl,QX,QX,Jl,hml,hl]) (Cc hs _) (by rw [Bi,Q7,Q7];exact hw2.front _);exact ⟨_,ss3,h1.trans h3,h _ ss3 (hm _ _ _▸h4) (h3.var.trans (h1.var.trans hp.var))⟩
theorem Qtc {rows mid:List (List AV)} (hF:Fx tt σ bs ms) (j k j' k2 j2:Nat) (H:(WT by_ xs ys>>=kk)=some r) (hs:∀x,(g x).length=sz) (c:Bool) (hy:y=.sl c rows) {u u2:AV} {e2 e3:TypeId} {sz2 sz3:Nat} {ro ro2:List (List AV)} (hw:WkU u ro rows.flatten mid.flatten) (hw2:WkU u2 ro2 mid.flatten (rws g ys).flatten) {F:H2->List H2} (h:∀z,kk z=some r->∀v' ss',Fx tt ss' bs (F ⟨v',e,sz,rws g z⟩)->K ⟨upd T d v',ss'⟩) (hj:ms[j]?=some ⟨v,e,sz,rws g xs⟩:=by rfl) (hk:ms[k]?=some ⟨u,e2,sz2,ro⟩:=by rfl)
  (hjk:j≠k:=by decide) (hjk2:j'≠k2:=by decide) (hjj:∀x,((ms.set j x).eraseIdx k)[j']?=some x:=by intro x;exact rfl) (hk2:∀x,((ms.set j x).eraseIdx k)[k2]?=some ⟨u2,e3,sz3,ro2⟩:=by intro x;exact rfl) (hjj2:∀x y,((((ms.set j x).eraseIdx k).set j' y).eraseIdx k2)[j2]?=some y:=by intro x y;exact rfl)
  (hl:rows.length=ys.length:=by rfl) (hml:mid.length=rows.length:=by rfl) (hne:ys≠[]:=by (intro h;cases h)) (hr:∀r∈rows,r.length=sz:=by intro r h;simp only [List.mem_cons,List.not_mem_nil,or_false] at h;(first | (subst h;rfl) | (rcases h with h | h<;>subst h<;>rfl))) (hms:∀r∈mid,r.length=sz:=by intro r h;simp only [List.mem_cons,List.not_mem_nil,or_false] at h;(first | (subst h;rfl) | (rcases h with h | h<;>subst h<;>rfl)))
  (hsz:0 < sz:=by decide) (hby:0 < by_:=by decide) (hm:∀a b c,((((ms.set j a).eraseIdx k).set j' b).eraseIdx k2).set j2 c=F c:=by intro _ _ _;(simp only [List.set_cons_succ,List.set_cons_zero,List.eraseIdx_cons_zero,List.eraseIdx_cons_succ])<;>exact rfl):JK (some (e,sz,by_)) v y ⟨T,σ⟩ (some d) K:=by
 obtain ⟨z,hz,H⟩:=bnd H;subst hy;exact Qnc hF j k j' k2 j2 hjk hjk2 hj hk hjj hk2 hjj2 hs hsz hby (RdL.sl _ _ _ _ hr) hl hne hml hms hw hw2 hz hm fun v' ss' hF hv=>h z H v' ss' hF
end
end Go.Proofs.Shadow
