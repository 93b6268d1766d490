/- The shadow of memory: abstract values, what they stand for in a world, and how this lives on while the world goes on. -/
import Derived.Laws.AppendOwn
import Derived.Maps.AppendAt
import Derived.Orders
import Derived.Below
import Derived.Tactics
import Derived.Deep.LoopGhost
import Derived.KernelRfl
import Derived.Laws.Rows
import Derived.Laws.Strings
import Derived.Laws.BytesArg
import Derived.Lib.ItoaNum
import Derived.Laws.Tables
open _root_.List renaming getElem?_eq_some_iff → Qb, mem_of_getElem? → Qf, getElem?_eq_getElem → Qj, getElem?_drop → Qk, mem_iff_getElem? → Qq, flatten_cons → Qr
open _root_.ByteArray renaming mk → Qd
open _root_.Option renaming bind_some → Qh, map_some → Qu
open _root_.Nat renaming lt_of_lt_of_le → Ql, zero_add → Qp, le_refl → Qt
open _root_.Array renaming getElem?_eq_some_iff → Qm
open _root_.Bool renaming false_eq_true → Qo
set_option linter.unusedVariables false
set_option linter.unusedSimpArgs false
namespace Go.Proofs.Shadow
open Go Go.RowKit
inductive AV where
 | int (k:IntKind) (n:Int)
 | bool (b:Bool)
 | str (s:ByteArray)
 | opq (v:Value)
 | sl (c:Bool) (xs:List (List AV))
 | Yd
 | ref (b n cap:Nat)
 | ptr (b o:Nat)
 | optr (b o:Nat)
 | ept (cs:List AV)
 | nilp
 | fn (f:FuncId) (caps:List AV)
 | nilfn
 | agg (cs:List AV)
 | tup (vs:List AV)
 | junk
 | ub
 deriving Inhabited
def AV.Y8:AV->Bool
 | .agg _ | .tup _ | .junk=>false
 | .opq v=>v.oneCell'
 | _=>true
structure Ent where
 ty:TypeId
 size:Nat
 cells:List AV
structure Sto where
 var:Nat->Option Ent
 own:Nat->Option Ent
def Sto.dead (σ:Sto) (b:Nat):Prop:=σ.var b=none/\σ.own b=none
def Sto.YG (σ:Sto) (b:Nat) (e:Ent):Sto := { σ with var:=fun i=>if i=b then some e else σ.var i }
def Sto.Vo (σ:Sto) (b:Nat) (e:Ent):Sto := { σ with own:=fun i=>if i=b then some e else σ.own i }
def Sto.IG (σ:Sto) (b:Nat):Sto := { σ with own:=fun i=>if i=b then none else σ.own i }
inductive Rv (σ:Sto) (w:World):AV->Value->Prop
 | int {k n} : Rv σ w (.int k n) (.int k n)
 | bool {b} : Rv σ w (.bool b) (.bool b)
 | str {s} (h:s.size<=4611686018427387904):Rv σ w (.str s) (.string s)
 | opq {v} : Rv σ w (.opq v) v
 | slE {c A cap} (hc:c=true->cap=0):Rv σ w (.sl c []) (.slice A 0 cap)
 | slC {c xs b o n cap sz} {f:Nat->Value} (hx:xs≠[]) (hn:n=xs.length) (hle:n<=4611686018427387904) (hcp:n<=cap) (hsz:∀x∈xs,x.length=sz) (hc:c=true->cap=n) (hd:σ.dead b) (hb:b < w.heap.size)
   (hi:∀c∈xs.flatten,c.Y8=true) (hf:∀i c,xs.flatten[i]?=some c->w.cell? ⟨b,o+i,none⟩=some (f i)) (hr:∀i c,xs.flatten[i]?=some c->Rv σ w c (f i)):Rv σ w (.sl c xs) (.slice (some ⟨b,o,none⟩) n cap)
 | Yd:Rv σ w .Yd (.slice none 0 0)
 | ref {b n cap} (h:n<=4611686018427387904) (hcp:n<=cap) (hcm:cap<=9223372036854775807):Rv σ w (.ref b n cap) (.slice (some ⟨b,0,none⟩) n cap)
 | ptr {b o} : Rv σ w (.ptr b o) (.pointer (some ⟨b,o,none⟩))
 | optr {b o} : Rv σ w (.optr b o) (.pointer (some ⟨b,o,none⟩))
 | ept {cs b o} {f:Nat->Value} (hd:σ.dead b) (hb:b < w.heap.size) (hi:∀c∈cs,c.Y8=true)
   (hf:∀i c,cs[i]?=some c->w.cell? ⟨b,o+i,none⟩=some (f i)) (hr:∀i c,cs[i]?=some c->Rv σ w c (f i)):Rv σ w (.ept cs) (.pointer (some ⟨b,o,none⟩))
 | nilp:Rv σ w .nilp (.pointer none)
 | fn {f caps vs} (hl:caps.length=vs.size) (hr:∀i c,caps[i]?=some c->Rv σ w c (vs.getD i undef)):Rv σ w (.fn f caps) (.func (.func f) #[] vs)
 | nilfn:Rv σ w .nilfn .nilFunc
 | agg {cs vs} (hl:cs.length=vs.size) (hi:∀c∈cs,c.Y8=true) (hr:∀i c,cs[i]?=some c->Rv σ w c (vs.getD i undef)):Rv σ w (.agg cs) (.agg vs)
 | tup {cs vs} (hl:cs.length=vs.size) (hr:∀i c,cs[i]?=some c->Rv σ w c (vs.getD i undef)):Rv σ w (.tup cs) (.tuple vs)
 | junk {v} : Rv σ w .junk v
 | ub {b} : Rv σ w .ub (.bool b)
structure Step (σ:Sto) (w:World) (ss':Sto) (w':World):Prop where
 os:w'.os=w.os
 tape:w'.tape=w.tape
 output:w'.output=w.output
 size:w.heap.size<=w'.heap.size
 dead:∀b,b < w.heap.size->σ.dead b->w'.heap[b]?=w.heap[b]?/\ss'.dead b
theorem Step.refl (σ:Sto) (w:World):Step σ w σ w:=⟨rfl,rfl,rfl,Qt _,fun _ _ h=>⟨rfl,h⟩⟩
theorem Step.trans {σ ss1 ss2:Sto} {w w1 w2:World} (h:Step σ w ss1 w1) (k:Step ss1 w1 ss2 w2):Step σ w ss2 w2 :=
 ⟨k.os.trans h.os,k.tape.trans h.tape,k.output.trans h.output,Nat.le_trans h.size k.size,fun b hb hd=>by
  obtain ⟨h1,h2⟩:=h.dead b hb hd;obtain ⟨k1,k2⟩:=k.dead b (Ql hb h.size) h2
  exact ⟨k1.trans h1,k2⟩⟩
theorem Step.drop {σ ss':Sto} {w:World} (h:∀b,σ.dead b->ss'.dead b):Step σ w ss' w:=⟨rfl,rfl,rfl,Qt _,fun b _ hd=>⟨rfl,h b hd⟩⟩
theorem Step.DM {σ:Sto} {w w':World} (h:Below w.heap.size w w'):Step σ w σ w':=⟨h.os,h.tape,h.output,h.size,fun b hb hd=>⟨h.block b hb,hd⟩⟩
theorem S3 {w w':World} {b o:Nat} (h:w'.heap[b]?=w.heap[b]?):w'.cell? ⟨b,o,none⟩=w.cell? ⟨b,o,none⟩:=by simp [World.cell?,h]
theorem Rv.step {σ ss':Sto} {w w':World} (hs:Step σ w ss' w') {a:AV} {v:Value} (h:Rv σ w a v):Rv ss' w' a v:=by
 induction h with
 | int=>exact .int
 | bool=>exact .bool
 | str h=>exact .str h
 | opq=>exact .opq
 | slE hc=>exact .slE hc
 | slC hx hn hle hcp hsz hc hd hb hi hf hr ih =>
  obtain ⟨h1,h2⟩:=hs.dead _ hb hd;exact .slC hx hn hle hcp hsz hc h2 (Ql hb hs.size) hi (fun i c hic=>(S3 h1).trans (hf i c hic)) ih
 | Yd=>exact .Yd
 | ref h hcp hcm=>exact .ref h hcp hcm
 | ptr=>exact .ptr
 | optr=>exact .optr
 | ept hd hb hi hf hr ih =>
  obtain ⟨h1,h2⟩:=hs.dead _ hb hd;exact .ept h2 (Ql hb hs.size) hi (fun i c hic=>(S3 h1).trans (hf i c hic)) ih
 | nilp=>exact .nilp
 | fn hl hr ih=>exact .fn hl ih
 | nilfn=>exact .nilfn
 | agg hl hi hr ih=>exact .agg hl hi ih
 | tup hl hr ih=>exact .tup hl ih
 | junk=>exact .junk
 | ub=>exact .ub
theorem Rv.one {σ:Sto} {w:World} {a:AV} {v:Value} (h:Rv σ w a v) (hc:a.Y8=true):v.oneCell'=true:=by
 cases h<;>first | rfl | (simp [AV.Y8] at hc;done) | exact hc
def Pm (σ:Sto) (w:World) (b:Nat) (e:Ent):Prop :=
 ∃cs,w.heap[b]?=some (.cells cs e.ty (0,0))/\cs.size=e.size/\e.cells.length<=e.size/\∀i c,e.cells[i]?=some c->c.Y8=true/\Rv σ w c (cs.getD i undef)
structure Sim (σ:Sto) (w:World):Prop where
 var:∀b e,σ.var b=some e->Pm σ w b e/\e.cells.length=e.size/\σ.own b=none
 own:∀b e,σ.own b=some e->Pm σ w b e
theorem Pm.lt {σ:Sto} {w:World} {b:Nat} {e:Ent} (h:Pm σ w b e):b < w.heap.size:=by
 obtain ⟨cs,h,_⟩:=h;exact (Qm.1 h).1
theorem Pm.step {σ ss':Sto} {w w':World} (hs:Step σ w ss' w') {b:Nat} {e:Ent} (h:Pm σ w b e) (hb:w'.heap[b]?=w.heap[b]?):Pm ss' w' b e:=by
 obtain ⟨cs,h1,h2,h3,h4⟩:=h;exact ⟨cs,hb.trans h1,h2,h3,fun i c hic=>⟨(h4 i c hic).1,(h4 i c hic).2.step hs⟩⟩
theorem Sim.step {σ ss':Sto} {w w':World} (h:Sim σ w) (hs:Step σ w ss' w') (hv:∀b e,ss'.var b=some e->σ.var b=some e) (ho:∀b e,ss'.own b=some e->σ.own b=some e)
  (hb:∀b,¬ss'.dead b->w'.heap[b]?=w.heap[b]?):Sim ss' w':=by
 constructor
 ·intro b e he;obtain ⟨h1,h2,h3⟩:=h.var b e (hv b e he);refine ⟨h1.step hs (hb b (fun hd=>by rw [hd.1] at he;cases he)),h2,?_⟩
  cases h4:ss'.own b with
  | none=>rfl
  | some e'=>rw [ho b e' h4] at h3;cases h3
 ·intro b e he;exact (h.own b e (ho b e he)).step hs (hb b (fun hd=>by rw [hd.2] at he;cases he))
theorem Fz {f g:Nat->Option Ent} (h:∀b e,g b=some e->f b=some e) {b:Nat} (hn:f b=none):g b=none:=by
 cases h1:g b with
 | none=>rfl
 | some e=>rw [h b e h1] at hn;cases hn
theorem Sim.drop {σ ss':Sto} {w:World} (h:Sim σ w) (hv:∀b e,ss'.var b=some e->σ.var b=some e) (ho:∀b e,ss'.own b=some e->σ.own b=some e):Sim ss' w :=
 h.step (Step.drop (fun b hd=>⟨Fz hv hd.1,Fz ho hd.2⟩)) hv ho (fun _ _=>rfl)
theorem Sim.Sj {σ:Sto} {w:World} (h:Sim σ w) {b:Nat} (hd:¬σ.dead b):b < w.heap.size:=by
 cases h1:σ.var b with
 | some e=>exact (h.var b e h1).1.lt
 | none =>
  cases h2:σ.own b with
  | some e=>exact (h.own b e h2).lt
  | none=>exact absurd ⟨h1,h2⟩ hd
theorem Sim.fresh {σ:Sto} {w:World} (h:Sim σ w):σ.dead w.heap.size:=by
 apply Classical.byContradiction;intro hd;exact absurd (h.Sj hd) (by omega)
theorem Sim.below {σ:Sto} {w w':World} (h:Sim σ w) (hb:Below w.heap.size w w'):Sim σ w' :=
 h.step (Step.DM hb) (fun _ _ h=>h) (fun _ _ h=>h) (fun b hd=>hb.block b (h.Sj hd))
theorem Sim.drew {σ:Sto} {w:World} (h:Sim σ w):Sim σ w.drew:=h.below (Below.refl _ _).drew
theorem Step.drew (σ:Sto) (w:World):Step σ w σ w.drew:=Step.DM (Below.refl _ _).drew
theorem Step.new {σ:Sto} {w:World} (o:Obj) (e:Ent):Step σ w (σ.YG w.heap.size e) (w.alloc o) :=
 ⟨rfl,rfl,rfl,by simp,fun b hb hd=>⟨heap_alloc_old w o b hb,⟨by simp only [Sto.YG];rw [if_neg (by omega)];exact hd.1,hd.2⟩⟩⟩
theorem Step.TC {σ:Sto} {w:World} (o:Obj) (e:Ent):Step σ w (σ.Vo w.heap.size e) (w.alloc o) :=
 ⟨rfl,rfl,rfl,by simp,fun b hb hd=>⟨heap_alloc_old w o b hb,⟨hd.1,by simp only [Sto.Vo];rw [if_neg (by omega)];exact hd.2⟩⟩⟩
theorem Sim.newVar {σ:Sto} {w:World} (h:Sim σ w) (ty:TypeId) (cs:Array Value) (as:List AV) (hl:as.length=cs.size) (hi:∀c∈as,c.Y8=true) (hr:∀i c,as[i]?=some c->Rv σ w c (cs.getD i undef)) :
  Sim (σ.YG w.heap.size ⟨ty,as.length,as⟩) (w.alloc (.cells cs ty)):=by
 have hs:=Step.new (σ:=σ) (w:=w) (.cells cs ty) ⟨ty,as.length,as⟩;constructor
 ·intro b e he;simp only [Sto.YG] at he;split at he
  ·rename_i hbe;subst hbe;cases he;refine ⟨⟨cs,heap_alloc_new w _,hl.symm,Qt _,fun i c hic=>⟨hi c (Qf hic),(hr i c hic).step hs⟩⟩,rfl,h.fresh.2⟩
  ·rename_i hbe;obtain ⟨h1,h2,h3⟩:=h.var b e he;exact ⟨h1.step hs (heap_alloc_old w _ b h1.lt),h2,h3⟩
 ·intro b e he;have h1:=h.own b e he;exact h1.step hs (heap_alloc_old w _ b h1.lt)
theorem Sim.TC {σ:Sto} {w:World} (h:Sim σ w) (ty:TypeId) (cs:Array Value) (as:List AV) (hl:as.length<=cs.size) (hi:∀c∈as,c.Y8=true) (hr:∀i c,as[i]?=some c->Rv σ w c (cs.getD i undef)) :
  Sim (σ.Vo w.heap.size ⟨ty,cs.size,as⟩) (w.alloc (.cells cs ty)):=by
 have hs:=Step.TC (σ:=σ) (w:=w) (.cells cs ty) ⟨ty,cs.size,as⟩;constructor
 ·intro b e he;obtain ⟨h1,h2,h3⟩:=h.var b e he;refine ⟨h1.step hs (heap_alloc_old w _ b h1.lt),h2,?_⟩;simp only [Sto.Vo];rw [if_neg (by have:=h1.lt;omega)];exact h3
 ·intro b e he;simp only [Sto.Vo] at he;split at he
  ·rename_i hbe;subst hbe;cases he;exact ⟨cs,heap_alloc_new w _,rfl,hl,fun i c hic=>⟨hi c (Qf hic),(hr i c hic).step hs⟩⟩
  ·rename_i hbe;have h1:=h.own b e he;exact h1.step hs (heap_alloc_old w _ b h1.lt)
theorem Step.row {σ ss':Sto} {w:World} (g:Nat) (cs:Array Value) (hg:¬σ.dead g) (hd:∀b,b≠g->σ.dead b->ss'.dead b):Step σ w ss' (w.setRow g cs) :=
 ⟨rfl,rfl,rfl,by simp [World.setRow],fun b hb hdb=>by
  have hne:b≠g:=fun e=>hg (e▸hdb)
  exact ⟨setRow_other w g b cs hne,hd b hne hdb⟩⟩
theorem Sim.Qq6 {σ:Sto} {w:World} (h:Sim σ w) {g:Nat} {e:Ent} (he:σ.var g=some e) (cs:Array Value) (as:List AV) (hl:as.length=e.size) (hcs:cs.size=e.size) (hi:∀c∈as,c.Y8=true) (hr:∀i c,as[i]?=some c->Rv σ w c (cs.getD i undef)) :
  Sim (σ.YG g ⟨e.ty,e.size,as⟩) (w.setRow g cs)/\Step σ w (σ.YG g ⟨e.ty,e.size,as⟩) (w.setRow g cs):=by
 have hlive:¬σ.dead g:=fun hd=>by rw [hd.1] at he;cases he
 have hs:Step σ w (σ.YG g ⟨e.ty,e.size,as⟩) (w.setRow g cs):=Step.row g cs hlive (fun b hne hd=>⟨by simp only [Sto.YG];rw [if_neg hne];exact hd.1,hd.2⟩);obtain ⟨⟨old,ho,hos,_,_⟩,_,hown⟩:=h.var g e he;refine ⟨⟨?_,?_⟩,hs⟩
 ·intro b e' he';simp only [Sto.YG] at he';split at he'
  ·rename_i hbe;subst hbe;cases he';exact ⟨⟨cs,setRow_heap w b old cs e.ty (0,0) ho,hcs,Nat.le_of_eq hl,fun i c hic=>⟨hi c (Qf hic),(hr i c hic).step hs⟩⟩,hl,hown⟩
  ·rename_i hbe;obtain ⟨h1,h2,h3⟩:=h.var b e' he';exact ⟨h1.step hs (setRow_other w g b cs hbe),h2,h3⟩
 ·intro b e' he';have h1:=h.own b e' he'
  have hne:b≠g:=fun hbe=>by
   subst hbe;have:σ.own b=some e':=he';rw [hown] at this;cases this
  exact h1.step hs (setRow_other w g b cs hne)
theorem Sim.Qq5 {σ:Sto} {w:World} (h:Sim σ w) {g:Nat} {e:Ent} (he:σ.own g=some e) (cs:Array Value) (as:List AV) (hl:as.length<=e.size) (hcs:cs.size=e.size) (hi:∀c∈as,c.Y8=true) (hr:∀i c,as[i]?=some c->Rv σ w c (cs.getD i undef)) :
  Sim (σ.Vo g ⟨e.ty,e.size,as⟩) (w.setRow g cs)/\Step σ w (σ.Vo g ⟨e.ty,e.size,as⟩) (w.setRow g cs):=by
 have hlive:¬σ.dead g:=fun hd=>by rw [hd.2] at he;cases he
 have hs:Step σ w (σ.Vo g ⟨e.ty,e.size,as⟩) (w.setRow g cs):=Step.row g cs hlive (fun b hne hd=>⟨hd.1,by simp only [Sto.Vo];rw [if_neg hne];exact hd.2⟩);obtain ⟨old,ho,hos,_,_⟩:=h.own g e he;refine ⟨⟨?_,?_⟩,hs⟩
 ·intro b e' he';obtain ⟨h1,h2,h3⟩:=h.var b e' he'
  have hne:b≠g:=fun hbe=>by subst hbe;rw [h3] at he;cases he
  refine ⟨h1.step hs (setRow_other w g b cs hne),h2,?_⟩;simp only [Sto.Vo];rw [if_neg hne];exact h3
 ·intro b e' he';simp only [Sto.Vo] at he';split at he'
  ·rename_i hbe;subst hbe;cases he';exact ⟨cs,setRow_heap w b old cs e.ty (0,0) ho,hcs,hl,fun i c hic=>⟨hi c (Qf hic),(hr i c hic).step hs⟩⟩
  ·rename_i hbe;have h1:=h.own b e' he';exact h1.step hs (setRow_other w g b cs hbe)
theorem Rv.freeze {σ:Sto} {w:World} (h:Sim σ w) {b n cap sz:Nat} {e:Ent} (he:σ.own b=some e) {xs:List (List AV)} (hx:e.cells=xs.flatten) (hn:n=xs.length) (hsz:∀x∈xs,x.length=sz) {v:Value} (hv:Rv σ w (.ref b n cap) v) :
  Rv (σ.IG b) w (.sl false xs) v:=by
 have hs:Step σ w (σ.IG b) w:=Step.drop (fun b' hd=>⟨hd.1,by simp only [Sto.IG];split;rfl;exact hd.2⟩)
 cases hv with
 | ref hle hcp hcm =>
  obtain ⟨cs,h1,h2,h3,h4⟩:=h.own b e he
  have hvar:σ.var b=none:=by
   cases hb:σ.var b with
   | none=>rfl
   | some e'=>have:=(h.var b e' hb).2.2;rw [this] at he;cases he
  cases xs with
  | nil=>simp at hn;subst hn;exact .slE (fun h=>by cases h)
  | cons x xs =>
   refine .slC (f:=fun i=>cs.getD i undef) (by simp) hn hle hcp hsz (fun h=>by cases h) ⟨hvar,by simp [Sto.IG]⟩ (Qm.1 h1).1 (fun c hc=>?_) (fun i c hic=>?_) (fun i c hic=>?_)
   ·rw [← hx] at hc;obtain ⟨i,hi⟩:=Qq.1 hc;exact (h4 i c hi).1
   ·rw [Qp,cell_of_row w b i cs e.ty (0,0) h1];rw [← hx] at hic
    have hlt:i < cs.size:=by have:=(Qb.1 hic).1;omega
    simp [hlt]
   ·rw [← hx] at hic;exact ((h4 i c hic).2).step hs
theorem Sim.IG {σ:Sto} {w:World} (h:Sim σ w) (b:Nat):Sim (σ.IG b) w :=
 h.drop (fun _ _ h=>h) (fun b' e he=>by simp only [Sto.IG] at he;split at he;cases he;exact he)
theorem Step.IG (σ:Sto) (w:World) (b:Nat):Step σ w (σ.IG b) w:=Step.drop (fun b' hd=>⟨hd.1,by simp only [Sto.IG];split;rfl;exact hd.2⟩)
end Go.Proofs.Shadow
namespace Go.Proofs.Shadow
open Go Go.RowKit
def RB:Value->AV
 | .int k n=>.int k n
 | .bool b=>.bool b
 | .string s=>.str s
 | .slice none 0 0=>.Yd
 | .pointer none=>.nilp
 | .nilFunc=>.nilfn
 | v=>.opq v
def L2:Value->Bool
 | .string s=>decide (s.size<=4611686018427387904)
 | _=>true
def Qdf:Value->AV
 | .agg vs=>if vs.toList.all (fun v=>L2 v&&v.oneCell')=true then .agg (vs.toList.map RB) else .opq (.agg vs)
 | v=>RB v
theorem TE (σ:Sto) (w:World) {v:Value} (h:L2 v=true):Rv σ w (RB v) v:=by
 unfold RB
 split<;>first | exact .int | exact .bool | (refine .str ?_;simpa [L2] using h) | exact .Yd | exact .nilp | exact .nilfn | exact .opq
theorem Ov {v:Value} (h:v.oneCell'=true):(RB v).Y8=true:=by
 unfold RB
 split<;>first | rfl | simpa [AV.Y8] using h
theorem Qbj (σ:Sto) (w:World) {v:Value} (h:L2 v=true):Rv σ w (Qdf v) v:=by
 unfold Qdf;split
 ·rename_i vs;split
  ·rename_i ha;rw [List.all_eq_true] at ha;refine .agg (by simp) (fun c hc=>?_) (fun i c hi=>?_)
   ·obtain ⟨v,hv,rfl⟩:=List.mem_map.1 hc;have:=ha v hv;rw [Bool.and_eq_true] at this;exact Ov this.2
   ·rw [List.getElem?_map] at hi;obtain ⟨v,hv,rfl⟩:=Option.map_eq_some_iff.1 hi;have:=ha v (Qf hv);rw [Bool.and_eq_true] at this
    have he:vs.getD i undef=v:=by
     have:vs[i]?=some v:=by rw [← Array.getElem?_toList];exact hv
     simp [Array.getD_eq_getD_getElem?,this]
    rw [he];exact TE σ w this.1
  ·exact .opq
 ·exact TE σ w h
theorem Qdg {v:Value} (h:v.oneCell'=true):(Qdf v).Y8=true:=by
 unfold Qdf;split
 ·rename_i vs;split
  ·simp [Value.oneCell'] at h
  ·simpa [AV.Y8] using h
 ·exact Ov h
def aev (T:Nat->AV):Operand->AV
 | .tmp t=>T t
 | .const v=>Qdf v
 | .global g=>.ptr g 0
 | .func f=>.fn f []
def Lt:Operand->Bool
 | .const v=>L2 v
 | _=>true
def Qgy:TypeDesc->Bool
 | .struct _ | .array _ _=>true
 | _=>false
def tk (P:Program) (t:TypeId):Option (Bool × Nat) :=
 match P.info? t,P.underlying t with
 | some i,some d=>some (Qgy d,i.size)
 | _,_=>none
def se (P:Program) (t:TypeId):Option (TypeId × Nat × Nat) :=
 match P.underlying t with
 | some (.slice e)=>(P.info? e).map fun i=>(e,i.size,i.bytes)
 | _=>none
def UD (cs:List Value):Option (List AV):=if cs.all (fun v=>L2 v&&v.oneCell') then some (cs.map Qdf) else none
def tz (P:Program) (t:TypeId):Option (List AV) :=
 match P.info? t with
 | some i=>(match i.zero with | some z=>UD z.cells.toList | none=>none)
 | none=>none
def fo (P:Program) (t:TypeId) (f:Nat):Option Nat :=
 match P.underlying t with
 | some (.struct fs)=>(match fs[f]? with
  | some d=>(match P.info? d.type with | some i=>if i.size=0 then none else some d.offset | none=>none)
  | none=>none)
 | _=>none
def fps (P:Program) (t:TypeId):Option (List (Nat × Nat)) :=
 match P.underlying t with
 | some (.struct fs)=>fs.toList.mapM fun f=>(P.info? f.type).map fun i=>(f.offset,i.size)
 | _=>none
def ik (P:Program) (t:TypeId):Option IntKind:=match P.underlying t with | some (.int k)=>some k | _=>none
def isB (P:Program) (t:TypeId):Bool:=match P.underlying t with | some .bool=>true | _=>false
def isS (P:Program) (t:TypeId):Bool:=match P.underlying t with | some .string=>true | _=>false
def Vx:AV->Option (List AV)
 | .agg cs=>some cs
 | v=>if v.Y8 then some [v] else none
def seg (cs:List AV) (o k:Nat):Option (List AV):=if o+k<=cs.length then some ((cs.drop o).take k) else none
def RU (ag:Bool) (cs:List AV):Option AV :=
 if ag then some (.agg cs) else match cs with | [c]=>some c | _=>none
def mem (σ:Sto):AV->Option (List AV)
 | .ptr b o=>(σ.var b).bind fun e=>if o<=e.cells.length then some (e.cells.drop o) else none
 | .optr b o=>(σ.own b).bind fun e=>if o<=e.cells.length then some (e.cells.drop o) else none
 | .ept cs=>some cs
 | _=>none
def CQ (σ:Sto) (k:Option (Bool × Nat)) (p:AV):Option AV :=
 match k with
 | some (ag,n)=>(mem σ p).bind fun cs=>(seg cs 0 (if ag then n else 1)).bind (RU ag)
 | none=>none
def MK (off:Option Nat) (p:AV):Option AV :=
 match off,p with
 | some f,.ptr b o=>some (.ptr b (o+f))
 | some f,.optr b o=>some (.optr b (o+f))
 | some f,.ept cs=>some (.ept (cs.drop f))
 | _,_=>none
def Ur (σ:Sto) (k:Option (TypeId × Nat × Nat)) (x i:AV):Option AV :=
 match k,x,i with
 | some (_,sz,_),.sl _ xs,.int _ n=>if 0<=n/\n < (xs.length:Int)/\(xs.getD n.toNat []).length=sz then some (.ept (xs.getD n.toNat [])) else none
 | some (_,sz,_),.ref b l _,.int _ n=>if 0<=n/\n < (l:Int) then some (.optr b (n.toNat * sz)) else none
 | _,_,_=>none
def Qpi:AV->Option Int
 | .sl _ xs=>some xs.length
 | .Yd=>some 0
 | .ref _ n _=>some n
 | .str s=>some s.size
 | _=>none
def Fs (str:Bool) (x:AV):Option AV :=
 match str,x with
 | true,.str s=>some (.int .i64 s.size)
 | false,.str _=>none
 | false,v=>(Qpi v).map (.int .i64)
 | _,_=>none
def ML (str:Bool) (x i:AV):Option AV :=
 match str,x,i with
 | true,.str s,.int _ n=>if 0<=n/\n < (s.size:Int) then some (.int .u8 ((s.data.toList.getD n.toNat 0).toNat:Int)) else none
 | _,_,_=>none
def Qih (op:BinOp) (k:IntKind) (a b:Int):Option AV :=
 match op with
 | .add=>some (.int k (k.wrap (a+b)))
 | .sub=>some (.int k (k.wrap (a - b)))
 | .mul=>some (.int k (k.wrap (a * b)))
 | .quo=>if b=0 then none else some (.int k (k.wrap (a.tdiv b)))
 | .rem=>if b=0 then none else some (.int k (a.tmod b))
 | .xor=>some (.int k (bits .xor k a b))
 | .and=>some (.int k (bits .and k a b))
 | .or=>some (.int k (bits .or k a b))
 | .eql=>some (.bool (decide (a=b)))
 | .neq=>some (.bool (!decide (a=b)))
 | .lss=>some (.bool (decide (a < b)))
 | .leq=>some (.bool (decide (a<=b)))
 | .gtr=>some (.bool (decide (a > b)))
 | .geq=>some (.bool (decide (a≥b)))
 | _=>none
def Qep (op:BinOp) (x y:ByteArray):Option AV :=
 match op with
 | .add=>if x.size+y.size<=4611686018427387904 then some (.str (x++y)) else none
 | .eql=>some (.bool (decide (x=y)))
 | .neq=>some (.bool (!decide (x=y)))
 | _=>none
def Qiu (op:BinOp) (b:Bool):Option AV:=match op with | .eql=>some (.bool b) | .neq=>some (.bool !b) | _=>none
def Qpj (op:BinOp):Option AV:=match op with | .eql=>some .ub | .neq=>some .ub | _=>none
def Qeb (isb isl:Bool) (op:BinOp) (x y:AV):Option AV :=
 match x,y with
 | .Yd,.Yd=>if isl then Qiu op true else none
 | .sl _ [],.Yd=>if isl then Qpj op else none
 | .sl _ (_ :: _),.Yd=>if isl then Qiu op false else none
 | .int k a,.int k' b=>if k=k' then Qih op k a b else none
 | .str a,.str b=>Qep op a b
 | .bool a,.bool b=>if isb then (match op with | .eql=>some (.bool (a == b)) | .neq=>some (.bool (!(a == b))) | _=>none) else none
 | _,_=>none
def aun (op:UnOp) (x:AV):Option AV :=
 match op,x with
 | .not,.bool b=>some (.bool !b)
 | .neg,.int k n=>some (.int k (k.wrap (0 - n)))
 | _,_=>none
def Qox (x:AV) (i:Nat):Option AV:=match x with | .tup vs=>vs[i]? | _=>none
def Ww (cells:List AV) (o:Nat) (cs:List AV):List AV:=cells.take o++cs++cells.drop (o+cs.length)
def Pn (places:List (Nat × Nat)) (cells:List AV):List (Nat × AV)->Option (List AV)
 | []=>some cells
 | (i,v) :: rest =>
  match places[i]?,Vx v with
  | some (off,size),some cs=>if cs.length=size/\off+size<=cells.length then Pn places (Ww cells off cs) rest else none
  | _,_=>none
def P9 (z:Option (List AV)) (places:Option (List (Nat × Nat))) (parts:List (Nat × AV)):Option AV :=
 match z,places with
 | some z,some ps=>(Pn ps z parts).map .agg
 | _,_=>none
def rowsOf (sz:Nat):Nat->List (Nat × AV)->Option (List (List AV))
 | _,[]=>some []
 | k,(i,v) :: rest =>
  match Vx v with
  | some cs=>if i=k/\cs.length=sz then (rowsOf sz (k+1) rest).map (cs :: ·) else none
  | none=>none
def LV (k:Option (TypeId × Nat × Nat)) (z:Bool) (len:Nat) (parts:List (Nat × AV)):Option AV :=
 match k with
 | some (_,sz,_)=>if z=true/\len<=16777216/\len * sz<=16777216/\parts.length=len then (rowsOf sz 0 parts).map (.sl true) else none
 | none=>none
def Qoy (x:AV):Option AV :=
 match x with
 | .ptr b o=>some (.ptr b o)
 | .optr b o=>some (.optr b o)
 | .ept cs=>some (.ept cs)
 | .fn f c=>some (.fn f c)
 | _=>none
def bound (d:Int):Option AV->Option Int
 | none=>some d
 | some (.int _ n)=>some n
 | _=>none
def Bx (str:Bool) (k:Option (TypeId × Nat × Nat)) (x:AV) (lo hi mx:Option AV):Option AV :=
 match x with
 | .str s=>if str=true/\mx.isNone then (bound 0 lo).bind fun l=>(bound s.size hi).bind fun h=>if 0<=l/\l<=h/\h<=s.size then some (.str (s.extract l.toNat h.toNat)) else none else none
 | .sl c xs =>
  match k with
  | some (_,sz,_) =>
   if xs.all (fun x=>x.length == sz) then
    (bound 0 lo).bind fun l=>(bound xs.length hi).bind fun h =>
     match mx with
     | none=>if 0<=l/\l<=h/\h<=xs.length then some (.sl (c&&decide (h=xs.length)) ((xs.drop l.toNat).take (h - l).toNat)) else none
     | some (.int _ m)=>if hi.isSome=true/\0<=l/\l<=h/\h=m/\m<=xs.length then some (.sl true ((xs.drop l.toNat).take (h - l).toNat)) else none
     | _=>none
   else none
  | none=>none
 | .ref b n cap =>
  match k with
  | some _=>(bound 0 lo).bind fun l=>(bound n hi).bind fun h=>if l=0/\0<=h/\h<=n/\mx.isNone=true then some (.ref b h.toNat cap) else none
  | none=>none
 | _=>none
def Qsr:List ByteArray:=[Qd #[108,105,115,116],Qd #[43],Qd #[60],Qd #[61],Qd #[104,101,97,100],Qd #[116,97,105,108]]
def Jq:List ByteArray:=[Qd #[108,97,109,98,100,97],Qd #[105,102],Qd #[113,117,111,116,101],Qd #[108,101,116],Qd #[108,101,116,45,115,121,110,116,97,120]]
def Qo3 : List (String × List Value) := [("loop.example/macroexpander/impl.coreForms", Jq.map Value.string)]
def cellOf:Value->Option AV
 | .int k n=>some (.int k n)
 | .bool b=>some (.bool b)
 | .string s=>if s.size<=4611686018427387904 then some (.str s) else none
 | _=>none
def Qro (P:Program) (t:TypeId) (g:Nat):Option AV :=
 match P.underlying t,Qo3.find? (fun x=>P.globalNamed x.1 == some g) with
 | some (.array n e),some x=>if (P.info? e).isSome=true/\n=x.2.length/\0 < n/\n<=4611686018427387904 then (x.2.mapM cellOf).map fun l=>.sl true (l.map fun a=>[a]) else none
 | _,_=>none
def Uh (P:Program) (g:Nat):Option (List AV):=(Qo3.find? (fun x=>P.globalNamed x.1 == some g)).bind fun x=>x.2.mapM cellOf
def U7 (P:Program) (σ:Sto) (t:TypeId) (g:Nat):Option AV:=(Uh P g).bind fun cs=>CQ σ (tk P t) (.ept cs)
def Qqn (P:Program) (t:TypeId):Option Nat :=
 match P.underlying t with
 | some (.array n e)=>(match P.info? e,P.underlying e with | some i,some d=>if i.size=1/\Qgy d=false then some n else none | _,_=>none)
 | _=>none
def Ql8 (k:Option Nat) (x i:AV):Option AV :=
 match k,x,i with
 | some m,.agg cs,.int _ n=>if 0<=n/\n < (m:Int) then cs[n.toNat]? else none
 | _,_,_=>none
def LX (P:Program) (t:TypeId):Bool->AV->AV->Option AV
 | true,x,i=>ML true x i
 | false,x,i=>Ql8 (Qqn P t) x i
theorem SX (P:Program) (t:TypeId) (x i:AV):LX P t true x i=ML true x i:=(rfl)
theorem RN (P:Program) (t:TypeId) (x i:AV):LX P t false x i=Ql8 (Qqn P t) x i:=(rfl)
def Qh4 (P:Program) (t:TypeId) (str:Bool) (k:Option (TypeId × Nat × Nat)) (x:AV) (lo hi mx:Option AV):Option AV :=
 match x with
 | .ptr g 0=>if (lo.isNone&&hi.isNone&&mx.isNone)=true then Qro P t g else none
 | .ptr _ _=>none
 | x=>Bx str k x lo hi mx
def bytesOf:List (List AV)->Option (List Int)
 | []=>some []
 | [.int .u8 n] :: rest=>(bytesOf rest).map (n :: ·)
 | _=>none
def Up (k:Option IntKind) (u8 str:Bool) (x:AV):Option AV :=
 match k,x with
 | some k,.int _ n=>some (.int k (k.wrap n))
 | none,.sl _ xs=>if u8&&str then (bytesOf xs).map fun l=>.str (strOfNums l) else none
 | none,.Yd=>if u8&&str then some (.str .empty) else none
 | _,_=>none
def UN (P:Program) (t:TypeId):Bool:=match P.underlying t with | some (.slice e)=>(match P.underlying e with | some (.int .u8)=>true | _=>false) | _=>false
def Qqg (P:Program) (t:TypeId):Bool:=(P.underlying t).isSome
def Qmj (x y:AV):Option AV :=
 match x,y with
 | .int k a,.int k' b=>if k=k' then some (.int k (if b > a then b else a)) else none
 | _,_=>none
def vop (P : Program) (σ : Sto) (ρ : Operand -> AV) : Op -> Option AV
  | .move x | .assign x => some (ρ x)
  | .pick c a b => (match ρ c with | .bool t => some (bif t then ρ a else ρ b) | _ => none)
  | .load t p => CQ σ (tk P t) (ρ p)
  | .nilCheck x => Qoy (ρ x)
  | .fieldAddr t x f => MK (fo P t f) (ρ x)
  | .indexAddr t x i => Ur σ (se P t) (ρ x) (ρ i)
  | .index t x i => LX P t (isS P t) (ρ x) (ρ i)
  | .binOp op t x y _ => Qeb (isB P t) (se P t).isSome op (ρ x) (ρ y)
  | .unOp op _ x => aun op (ρ x)
  | .extract x i => Qox (ρ x) i
  | .build t parts => P9 (tz P t) (fps P t) (parts.toList.map fun p => (p.1, ρ p.2))
  | .buildSlice t len parts => LV (se P t) ((se P t).bind fun k => tz P k.1).isSome len (parts.toList.map fun p => (p.1, ρ p.2))
  | .slice t x lo hi mx => Qh4 P t (isS P t) (se P t) (ρ x) (lo.map ρ) (hi.map ρ) (mx.map ρ)
  | .convert s d x => if Qqg P s then Up (ik P d) (UN P s) (isS P d) (ρ x) else none
  | .makeFunc (.func f) first caps => if first.size = 0 then some (.fn f (caps.toList.map ρ)) else none
  | .call { callee := .builtin .len, args, argTypes } =>
    (match args.toList, argTypes.toList with
     | [x], [t] => if isS P t || (se P t).isSome then Fs (isS P t) (ρ x) else none
     | _, _ => none)
  | .call { callee := .builtin .max, args, .. } =>
    (match args.toList with | [x, y] => Qmj (ρ x) (ρ y) | _ => none)
  | _ => none
end Go.Proofs.Shadow
namespace Go.Proofs.Shadow
open Go Go.RowKit
theorem LW (b o j:Nat):(⟨b,o,none⟩:Addr).add j=⟨b,o+j,none⟩:=by unfold Addr.add;split<;>simp_all
section
variable {P:Program} {σ:Sto} {w:World}
theorem Qls (hs:Sim σ w) {p:AV} {cp:Value} {cs:List AV} (hp:Rv σ w p cp) (h:mem σ p=some cs) :
  ∃b o,cp=.pointer (some ⟨b,o,none⟩)/\∀i c,cs[i]?=some c->c.Y8=true/\∃v,w.cell? ⟨b,o+i,none⟩=some v/\Rv σ w c v:=by
 have key:∀(b o:Nat) (e:Ent),Pm σ w b e->o<=e.cells.length->cs=e.cells.drop o->∀i c,cs[i]?=some c->c.Y8=true/\∃v,w.cell? ⟨b,o+i,none⟩=some v/\Rv σ w c v:=by
  intro b o e ⟨cv,h1,h2,h3,h4⟩ hle hcs i c hic;rw [hcs,Qk] at hic;obtain ⟨h5,h6⟩:=h4 _ _ hic
  have hlt:o+i < cv.size:=by have:=(Qb.1 hic).1;omega
  refine ⟨h5,_,?_,h6⟩;rw [cell_of_row w b _ cv e.ty (0,0) h1];simp [hlt]
 cases hp<;>simp only [mem] at h<;>try (cases h;done)
 case ptr b o =>
  cases he:σ.var b with
  | none=>simp [he] at h
  | some e =>
   simp only [he,Qh] at h;split at h
   ·rename_i hle
    injection h with h
    exact ⟨b,o,rfl,key b o e (hs.var b e he).1 hle h.symm⟩
   ·cases h
 case optr b o =>
  cases he:σ.own b with
  | none=>simp [he] at h
  | some e =>
   simp only [he,Qh] at h;split at h
   ·rename_i hle
    injection h with h
    exact ⟨b,o,rfl,key b o e (hs.own b e he) hle h.symm⟩
   ·cases h
 case ept cs' b o f hd hb hi hf hr =>
  injection h with h
  subst h;exact ⟨b,o,rfl,fun i c hic=>⟨hi c (Qf hic),f i,hf i c hic,hr i c hic⟩⟩
theorem TN {t:TypeId} {d:TypeDesc} (h:P.underlying t=some d):(isAgg t).run P w=.ok (Qgy d) w:=by
 unfold isAgg;rw [Sem.run_bind,run_underlying h w];cases d<;>rfl
theorem Qkd {cs r:List AV} {o k:Nat} (h:seg cs o k=some r):r.length=k/\∀i c,r[i]?=some c->cs[o+i]?=some c:=by
 unfold seg at h;split at h
 ·injection h with h
  subst h;refine ⟨by simp;omega,fun i c hic=>?_⟩;rw [List.getElem?_take] at hic;split at hic
  ·rwa [Qk] at hic
  ·cases hic
 ·cases h
theorem UR (hs:Sim σ w) {t:TypeId} {p:AV} {cp:Value} {v:AV} (hp:Rv σ w p cp) (h:CQ σ (tk P t) p=some v) :
  ∃cv,(Instr.loadAt t cp).run P w=.ok cv w/\Rv σ w v cv:=by
 unfold CQ at h
 cases hk:tk P t with
 | none=>simp [hk] at h
 | some k =>
  obtain ⟨ag,n⟩:=k;simp only [hk] at h
  cases hm:mem σ p with
  | none=>simp [hm] at h
  | some cs =>
   simp only [hm,Qh] at h;obtain ⟨b,o,rfl,hc⟩:=Qls hs hp hm;unfold tk at hk
   cases hi:P.info? t with
   | none=>simp [hi] at hk
   | some i =>
    cases hu:P.underlying t with
    | none=>simp [hi,hu] at hk
    | some d =>
     simp only [hi,hu,Option.some.injEq,Prod.mk.injEq] at hk;obtain ⟨hag,hn⟩:=hk
     cases hsg:seg cs 0 (if ag then n else 1) with
     | none=>simp [hsg] at h
     | some r =>
      simp only [hsg,Qh] at h;obtain ⟨hrl,hr⟩:=Qkd hsg;simp only [Qp] at hr;simp only [Instr.loadAt,Instr.sureAddr,Sem.run_bind,Sem.run_pure,Result.andThen_ok,loadVar,TN hu,hag]
      cases ag with
      | true =>
       simp only [if_true] at hrl h;simp only [RU,if_true,Option.some.injEq] at h;subst h
       have hl:(loadCells ⟨b,o,none⟩ n).run P w=.ok ((List.range n).map fun j=>(w.cell? ⟨b,o+j,none⟩).getD undef).toArray w :=
        run_loadCells w _ n _ (fun j hj=>by
         rw [LW];obtain ⟨_,v,hv,_⟩:=hc j (r[j]'(by omega)) (hr j _ (Qj (by omega)))
         simp [hv])
       refine ⟨.agg ((List.range n).map fun j=>(w.cell? ⟨b,o+j,none⟩).getD undef).toArray,by simp [sizeOf,typeInfo,hi,hn,hl],.agg (by simp [hrl]) (fun c hcm=>?_) (fun j c hj=>?_)⟩
       ·obtain ⟨j,hj⟩:=Qq.1 hcm;exact (hc j c (hr j c hj)).1
       ·have hjl:j < n:=by have:=(Qb.1 hj).1;omega
        obtain ⟨_,v,hv,hrv⟩:=hc j c (hr j c hj);simpa [hjl,hv] using hrv
      | false =>
       simp only [Qo,if_false] at hrl h ⊢;simp only [RU,Qo,if_false] at h
       cases r with
       | nil=>simp at hrl
       | cons c r =>
        cases r with
        | cons c' r=>simp at hrl
        | nil =>
         simp only [Option.some.injEq] at h;subst h;obtain ⟨_,v,hv,hrv⟩:=hc 0 c (hr 0 c rfl);rw [Nat.add_zero] at hv;exact ⟨v,by simp [hv],hrv⟩
theorem Qjg {t:TypeId} {f:Nat} {p:AV} {cp:Value} {v:AV} (hp:Rv σ w p cp) (h:MK (fo P t f) p=some v) :
  ∃cv,(Instr.fieldAt t cp f).run P w=.ok cv w/\Rv σ w v cv:=by
 unfold MK at h
 cases hf:fo P t f with
 | none=>simp [hf] at h
 | some off =>
  simp only [hf] at h;unfold fo at hf
  cases hu:P.underlying t with
  | none=>simp [hu] at hf
  | some d =>
   cases d<;>simp only [hu] at hf<;>try (cases hf;done)
   rename_i fs
   cases hd:fs[f]? with
   | none=>simp [hd] at hf
   | some fd =>
    simp only [hd] at hf
    cases hi:P.info? fd.type with
    | none=>simp [hi] at hf
    | some i =>
     simp only [hi] at hf;split at hf
     ·cases hf
     ·rename_i hne
      injection hf with hf
      have hrun:∀b o,(Instr.fieldAt t (.pointer (some ⟨b,o,none⟩)) f).run P w=.ok (.pointer (some ⟨b,o+off,none⟩)) w:=by
       intro b o;simp [Instr.fieldAt,run_underlying hu,hd,Instr.sureAddr,fieldPlace,sizeOf,typeInfo,hi,hne,hf,LW]
      cases hp<;>simp only at h<;>try (cases h;done)
      case ptr b o=>injection h with h;subst h;exact ⟨_,hrun b o,.ptr⟩
      case optr b o=>injection h with h;subst h;exact ⟨_,hrun b o,.optr⟩
      case ept cs b o g hd hb hi2 hg hr =>
       injection h with h
       subst h;refine ⟨_,hrun b o,.ept (f:=fun i=>g (off+i)) hd hb (fun c hc=>hi2 c (List.mem_of_mem_drop hc)) (fun i c hic=>?_) (fun i c hic=>?_)⟩
       ·rw [Qk] at hic;rw [Nat.add_assoc];exact hg _ c hic
       ·rw [Qk] at hic;exact hr _ c hic
theorem CX {t e:TypeId} {sz by_:Nat} (h:se P t=some (e,sz,by_)):P.underlying t=some (.slice e)/\∃i,P.info? e=some i/\i.size=sz/\i.bytes=by_:=by
 unfold se at h
 cases hu:P.underlying t with
 | none=>simp [hu] at h
 | some d =>
  cases d<;>simp only [hu] at h<;>try (cases h;done)
  rename_i e'
  cases hi:P.info? e' with
  | none=>simp [hi] at h
  | some i =>
   simp only [hi,Qu,Option.some.injEq,Prod.mk.injEq] at h;obtain ⟨rfl,rfl,rfl⟩:=h;exact ⟨rfl,i,hi,rfl,rfl⟩
theorem BZ {α:Type} {sz:Nat} : ∀(xs:List (List α)) (k j:Nat),(∀x∈xs,x.length=sz)->j < sz->xs.flatten[k * sz+j]?=(xs[k]?).bind (·[j]?)
 | [],k,j,_,_=>by simp
 | x :: xs,0,j,h,hj=>by
  have:=h x (by simp);simp only [Qr,Nat.zero_mul,Qp,List.getElem?_cons_zero,Qh];rw [List.getElem?_append_left (by omega)]
 | x :: xs,k+1,j,h,hj=>by
  have hx:=h x (by simp);simp only [Qr,List.getElem?_cons_succ];rw [List.getElem?_append_right (by rw [hx,Nat.succ_mul];omega),show (k+1) * sz+j - x.length=k * sz+j by rw [hx,Nat.succ_mul];omega];exact BZ xs k j (fun y hy=>h y (by simp [hy])) hj
theorem Qql {t : TypeId} {x i : AV} {cx ci : Value} {v : AV} (hx : Rv σ w x cx) (hi : Rv σ w i ci) (h : Ur σ (se P t) x i = some v) :
    ∃ cv, (Instr.indexAt t cx ci).run P w = .ok cv w /\ Rv σ w v cv := by
  unfold Ur at h
  cases hk : se P t with
  | none => simp [hk] at h
  | some k =>
    obtain ⟨e, sz, by_⟩ := k
    obtain ⟨hu, it, hit, hsz, _⟩ := CX hk
    simp only [hk] at h
    have hrun : ∀ (b o l cap : Nat) (kd : IntKind) (n : Int), 0 <= n -> n < (l : Int) -> (Instr.indexAt t (.slice (some ⟨b, o, none⟩) l cap) (.int kd n)).run P w = .ok (.pointer (some ⟨b, o + n.toNat * sz, none⟩)) w := by
      intro b o l cap kd n h0 h1
      simp [Instr.indexAt, run_underlying hu, asIntOf, sizeOf, typeInfo, hit, hsz, h0, h1, LW]
    cases hx <;> cases hi <;> simp only at h <;> try (cases h; done)
    case slE.int c A cap hc kd n => split at h; · rename_i hh; simp at hh; omega
                                    · cases h
    case slC.int c xs b o n cap sz' f hne hn hle hcp hszx hc hd hb hcl hf hr kd m =>
      split at h
      · rename_i hh
        obtain ⟨h0, h1, h2⟩ := hh
        injection h with h
        subst h
        have hml : m.toNat < xs.length := by omega
        have hget : xs.getD m.toNat [] = xs[m.toNat] := by simp [hml]
        have hmem : xs[m.toNat] ∈ xs := List.getElem_mem hml
        have hzz : sz' = sz := by rw [← h2, hget]; exact (hszx _ hmem).symm
        subst hzz
        rw [hget]
        have hat : ∀ i c, xs[m.toNat][i]? = some c -> xs.flatten[m.toNat * sz' + i]? = some c := by
          intro i c hic
          have : i < sz' := by have := (Qb.1 hic).1; rw [hszx _ hmem] at this; exact this
          rw [BZ xs _ i hszx this, Qj hml]
          exact hic
        refine ⟨_, hrun b o n cap kd m h0 (by omega), .ept (f := fun i => f (m.toNat * sz' + i)) hd hb (fun c hcm => ?_) (fun i c hic => ?_) (fun i c hic => hr _ c (hat i c hic))⟩
        · exact hcl c (List.mem_flatten.2 ⟨_, hmem, hcm⟩)
        · rw [Nat.add_assoc]
          exact hf _ c (hat i c hic)
      · cases h
    case ref.int b n cap hn hcp hcm kd m =>
      split at h
      · rename_i hh
        injection h with h
        subst h
        have := hrun b 0 n cap kd m hh.1 hh.2
        rw [Qp] at this
        exact ⟨_, this, .optr⟩
      · cases h
theorem Qjq {t:TypeId} {x i:AV} {cx ci:Value} {v:AV} (hx:Rv σ w x cx) (hi:Rv σ w i ci) (h:ML (isS P t) x i=some v) :
  ∃cv,(Instr.index t cx ci).run P w=.ok cv w/\Rv σ w v cv:=by
 unfold ML at h
 cases hk:isS P t with
 | false=>simp [hk] at h
 | true =>
  have hu:P.underlying t=some .string:=by
   unfold isS at hk
   split at hk<;>first | assumption | cases hk
  simp only [hk] at h
  cases hx<;>cases hi<;>simp only at h<;>try (cases h;done)
  rename_i s hs k n;split at h
  ·rename_i hh;obtain ⟨h0,h1⟩:=hh
   injection h with h
   subst h
   have hlt:n.toNat < s.size:=by omega
   have hg:s[n.toNat]?=some (s[n.toNat]'hlt):=by simp [hlt]
   refine ⟨.int .u8 ((s[n.toNat]'hlt).toNat:Int),?_,?_⟩
   ·generalize s[n.toNat]'hlt=by_ at hg ⊢;simp only [Instr.index,asIntOf,Sem.run_bind,Sem.run_pure,Result.andThen_ok,run_underlying hu,h0,if_true,hg]
   ·have:s.data.toList.getD n.toNat 0=s[n.toNat]'hlt:=by
     have hl2:n.toNat < s.data.toList.length:=by rw [Array.length_toList];exact hlt
     rw [List.getD_eq_getElem?_getD,Qj hl2];rfl
    rw [this];exact .int
  ·cases h
theorem Qgx {t:TypeId} {x i:AV} {cx ci:Value} {v:AV} (hx:Rv σ w x cx) (hi:Rv σ w i ci) (h:LX P t (isS P t) x i=some v) :
  ∃cv,(Instr.index t cx ci).run P w=.ok cv w/\Rv σ w v cv:=by
 cases hS:isS P t with
 | true=>rw [hS] at h;exact Qjq hx hi (by rw [hS];exact h)
 | false =>
  rw [hS] at h;change Ql8 (Qqn P t) x i=some v at h;unfold Ql8 at h;split at h
  ·rename_i m cs kk n hk;split at h
   ·rename_i hh;cases hi;cases hx;rename_i vs hl hi' hr;unfold Qqn at hk;split at hk
    ·rename_i n' e hu;split at hk
     ·rename_i it d hit hd;split at hk
      ·rename_i hc
       injection hk with hk;subst hk
       obtain ⟨hc1,hc2⟩:=hc
       have hlt:n.toNat < vs.size:=by rw [← hl];exact (Qb.1 h).1
       refine ⟨vs.getD n.toNat undef,?_,hr _ _ h⟩
       have hsz:(sizeOf e).run P w=.ok 1 w:=by simp [sizeOf,typeInfo,program,Sem.run,Sem.run_bind,Sem.run_pure,Result.andThen_ok,hit,hc1]
       simp only [Instr.index,asIntOf,Sem.run_bind,Sem.run_pure,Result.andThen_ok,run_underlying hu];rw [if_pos hh];simp only [Sem.run_bind,hsz,Result.andThen_ok,part,TN hd,hc2,Nat.mul_one,Qo,if_false];simp [hlt]
      ·cases hk
     ·cases hk
    ·cases hk
   ·cases h
  ·cases h
theorem Qqu {t ty:TypeId} {x:AV} {cx:Value} {v:AV} (ht:isS P t=true∨(se P t).isSome=true) (hx:Rv σ w x cx)
  (h:Fs (isS P t) x=some v) :
  ∃cv,(Builtin.len_ #[t] ty #[cx]).run P w=.ok cv w/\Rv σ w v cv:=by
 cases hk:isS P t with
 | true =>
  have hu:P.underlying t=some .string:=by
   unfold isS at hk
   split at hk<;>first | assumption | cases hk
  simp only [hk] at h
  cases hx<;>simp only [Fs] at h<;>try (cases h;done)
  injection h with h
  subst h;exact ⟨_,by simp [Builtin.len_,run_underlying hu,goInt],.int⟩
 | false =>
  rcases ht with ht | ht
  ·rw [hk] at ht;cases ht
  ·obtain ⟨k,hse⟩:=Option.isSome_iff_exists.1 ht;obtain ⟨e,sz,by_⟩:=k;obtain ⟨hu,_⟩:=CX hse;simp only [hk] at h
   cases hx<;>simp only [Fs,Qpi,Option.map_none,Qu,Option.some.injEq] at h<;>try (cases h;done)
   all_goals (subst h;exact ⟨_,by simp [Builtin.len_,run_underlying hu,goInt];try rfl,by first | exact .int | (simp_all;exact .int)⟩)
theorem LH (x y:ByteArray):(x.toList == y.toList)=decide (x=y):=by
 have h:∀z:ByteArray,z.toList=z.data.toList:=fun z=>Go.ByteArray.toList_eq z;rw [h,h]
 by_cases e:x=y
 ·subst e;simp
 ·have:¬x.data=y.data:=fun h=>e (by cases x;cases y;simp at h;subst h;rfl);simp [e,this]
end
end Go.Proofs.Shadow
