/- The shadow of memory: abstract values, what they stand for in a world, and how this lives on while the world goes on. -/
import Derived.Laws.AppendOwn
import Derived.Maps.AppendAt
import Derived.Orders
import Derived.Below
import Derived.Tactics
import Derived.Deep.LoopGhost
import Derived.KernelRfl
set_option linter.unusedVariables false
set_option linter.unusedSimpArgs false
namespace Go.Proofs.Shadow
open Go Go.RowKit
/-- Abstract values. 'sl c xs': a slice that nobody writes any more (rows of cells; c: its capacity is its length); 'ref b n cap': a slice over a live block b; 'ptr': into a variable's block; 'optr': into a live slice's block; 'ept': at cells that nobody writes any more. -/
inductive AV where
  | int (k : IntKind) (n : Int)
  | bool (b : Bool)
  | str (s : ByteArray)
  | opq (v : Value)
  | sl (c : Bool) (xs : List (List AV))
  | nilsl
  | ref (b n cap : Nat)
  | ptr (b o : Nat)
  | optr (b o : Nat)
  | ept (cs : List AV)
  | nilp
  | fn (f : FuncId) (caps : List AV)
  | nilfn
  | agg (cs : List AV)
  | tup (vs : List AV)
  | junk
  | ub
  deriving Inhabited
def AV.isCell : AV → Bool
  | .agg _ | .tup _ | .junk => false
  | .opq v => v.oneCell'
  | _ => true
structure Ent where
  ty : TypeId
  size : Nat
  cells : List AV
structure Sto where
  var : Nat → Option Ent
  own : Nat → Option Ent
def Sto.dead (σ : Sto) (b : Nat) : Prop := σ.var b = none ∧ σ.own b = none
def Sto.setVar (σ : Sto) (b : Nat) (e : Ent) : Sto := { σ with var := fun i => if i = b then some e else σ.var i }
def Sto.setOwn (σ : Sto) (b : Nat) (e : Ent) : Sto := { σ with own := fun i => if i = b then some e else σ.own i }
def Sto.delOwn (σ : Sto) (b : Nat) : Sto := { σ with own := fun i => if i = b then none else σ.own i }
inductive Rv (σ : Sto) (w : World) : AV → Value → Prop
  | int {k n} : Rv σ w (.int k n) (.int k n)
  | bool {b} : Rv σ w (.bool b) (.bool b)
  | str {s} (h : s.size ≤ 4611686018427387904) : Rv σ w (.str s) (.string s)
  | opq {v} : Rv σ w (.opq v) v
  | slE {c A cap} (hc : c = true → cap = 0) : Rv σ w (.sl c []) (.slice A 0 cap)
  | slC {c xs b o n cap sz} {f : Nat → Value} (hx : xs ≠ []) (hn : n = xs.length) (hle : n ≤ 4611686018427387904) (hcp : n ≤ cap) (hsz : ∀ x ∈ xs, x.length = sz) (hc : c = true → cap = n) (hd : σ.dead b) (hb : b < w.heap.size)
      (hi : ∀ c ∈ xs.flatten, c.isCell = true) (hf : ∀ i c, xs.flatten[i]? = some c → w.cell? ⟨b, o + i, none⟩ = some (f i)) (hr : ∀ i c, xs.flatten[i]? = some c → Rv σ w c (f i)) : Rv σ w (.sl c xs) (.slice (some ⟨b, o, none⟩) n cap)
  | nilsl : Rv σ w .nilsl (.slice none 0 0)
  | ref {b n cap} (h : n ≤ 4611686018427387904) (hcp : n ≤ cap) (hcm : cap ≤ 9223372036854775807) : Rv σ w (.ref b n cap) (.slice (some ⟨b, 0, none⟩) n cap)
  | ptr {b o} : Rv σ w (.ptr b o) (.pointer (some ⟨b, o, none⟩))
  | optr {b o} : Rv σ w (.optr b o) (.pointer (some ⟨b, o, none⟩))
  | ept {cs b o} {f : Nat → Value} (hd : σ.dead b) (hb : b < w.heap.size) (hi : ∀ c ∈ cs, c.isCell = true)
      (hf : ∀ i c, cs[i]? = some c → w.cell? ⟨b, o + i, none⟩ = some (f i)) (hr : ∀ i c, cs[i]? = some c → Rv σ w c (f i)) : Rv σ w (.ept cs) (.pointer (some ⟨b, o, none⟩))
  | nilp : Rv σ w .nilp (.pointer none)
  | fn {f caps vs} (hl : caps.length = vs.size) (hr : ∀ i c, caps[i]? = some c → Rv σ w c (vs.getD i undef)) : Rv σ w (.fn f caps) (.func (.func f) #[] vs)
  | nilfn : Rv σ w .nilfn .nilFunc
  | agg {cs vs} (hl : cs.length = vs.size) (hi : ∀ c ∈ cs, c.isCell = true) (hr : ∀ i c, cs[i]? = some c → Rv σ w c (vs.getD i undef)) : Rv σ w (.agg cs) (.agg vs)
  | tup {cs vs} (hl : cs.length = vs.size) (hr : ∀ i c, cs[i]? = some c → Rv σ w c (vs.getD i undef)) : Rv σ w (.tup cs) (.tuple vs)
  | junk {v} : Rv σ w .junk v
  | ub {b} : Rv σ w .ub (.bool b)
/-- What a step of the run keeps: dead blocks stay as they are, and dead. -/
structure Step (σ : Sto) (w : World) (σ' : Sto) (w' : World) : Prop where
  os : w'.os = w.os
  tape : w'.tape = w.tape
  output : w'.output = w.output
  size : w.heap.size ≤ w'.heap.size
  dead : ∀ b, b < w.heap.size → σ.dead b → w'.heap[b]? = w.heap[b]? ∧ σ'.dead b
theorem Step.refl (σ : Sto) (w : World) : Step σ w σ w := ⟨rfl, rfl, rfl, Nat.le_refl _, fun _ _ h => ⟨rfl, h⟩⟩
theorem Step.trans {σ σ1 σ2 : Sto} {w w1 w2 : World} (h : Step σ w σ1 w1) (k : Step σ1 w1 σ2 w2) : Step σ w σ2 w2 :=
  ⟨k.os.trans h.os, k.tape.trans h.tape, k.output.trans h.output, Nat.le_trans h.size k.size, fun b hb hd => by
    obtain ⟨h1, h2⟩ := h.dead b hb hd
    obtain ⟨k1, k2⟩ := k.dead b (Nat.lt_of_lt_of_le hb h.size) h2
    exact ⟨k1.trans h1, k2⟩⟩
/-- Fewer live blocks. -/
theorem Step.drop {σ σ' : Sto} {w : World} (h : ∀ b, σ.dead b → σ'.dead b) : Step σ w σ' w := ⟨rfl, rfl, rfl, Nat.le_refl _, fun b _ hd => ⟨rfl, h b hd⟩⟩
theorem Step.of_below {σ : Sto} {w w' : World} (h : Below w.heap.size w w') : Step σ w σ w' := ⟨h.os, h.tape, h.output, h.size, fun b hb hd => ⟨h.block b hb, hd⟩⟩
theorem cell_same {w w' : World} {b o : Nat} (h : w'.heap[b]? = w.heap[b]?) : w'.cell? ⟨b, o, none⟩ = w.cell? ⟨b, o, none⟩ := by simp [World.cell?, h]
theorem Rv.step {σ σ' : Sto} {w w' : World} (hs : Step σ w σ' w') {a : AV} {v : Value} (h : Rv σ w a v) : Rv σ' w' a v := by
  induction h with
  | int => exact .int
  | bool => exact .bool
  | str h => exact .str h
  | opq => exact .opq
  | slE hc => exact .slE hc
  | slC hx hn hle hcp hsz hc hd hb hi hf hr ih =>
    obtain ⟨h1, h2⟩ := hs.dead _ hb hd
    exact .slC hx hn hle hcp hsz hc h2 (Nat.lt_of_lt_of_le hb hs.size) hi (fun i c hic => (cell_same h1).trans (hf i c hic)) ih
  | nilsl => exact .nilsl
  | ref h hcp hcm => exact .ref h hcp hcm
  | ptr => exact .ptr
  | optr => exact .optr
  | ept hd hb hi hf hr ih =>
    obtain ⟨h1, h2⟩ := hs.dead _ hb hd
    exact .ept h2 (Nat.lt_of_lt_of_le hb hs.size) hi (fun i c hic => (cell_same h1).trans (hf i c hic)) ih
  | nilp => exact .nilp
  | fn hl hr ih => exact .fn hl ih
  | nilfn => exact .nilfn
  | agg hl hi hr ih => exact .agg hl hi ih
  | tup hl hr ih => exact .tup hl ih
  | junk => exact .junk
  | ub => exact .ub
theorem Rv.one {σ : Sto} {w : World} {a : AV} {v : Value} (h : Rv σ w a v) (hc : a.isCell = true) : v.oneCell' = true := by
  cases h <;> first | rfl | (simp [AV.isCell] at hc; done) | exact hc
def BlkOk (σ : Sto) (w : World) (b : Nat) (e : Ent) : Prop :=
  ∃ cs, w.heap[b]? = some (.cells cs e.ty (0, 0)) ∧ cs.size = e.size ∧ e.cells.length ≤ e.size ∧ ∀ i c, e.cells[i]? = some c → c.isCell = true ∧ Rv σ w c (cs.getD i undef)
structure Sim (σ : Sto) (w : World) : Prop where
  var : ∀ b e, σ.var b = some e → BlkOk σ w b e ∧ e.cells.length = e.size ∧ σ.own b = none
  own : ∀ b e, σ.own b = some e → BlkOk σ w b e
theorem BlkOk.lt {σ : Sto} {w : World} {b : Nat} {e : Ent} (h : BlkOk σ w b e) : b < w.heap.size := by
  obtain ⟨cs, h, _⟩ := h
  exact (Array.getElem?_eq_some_iff.1 h).1
theorem BlkOk.step {σ σ' : Sto} {w w' : World} (hs : Step σ w σ' w') {b : Nat} {e : Ent} (h : BlkOk σ w b e) (hb : w'.heap[b]? = w.heap[b]?) : BlkOk σ' w' b e := by
  obtain ⟨cs, h1, h2, h3, h4⟩ := h
  exact ⟨cs, hb.trans h1, h2, h3, fun i c hic => ⟨(h4 i c hic).1, (h4 i c hic).2.step hs⟩⟩
/-- The world has gone on, the live blocks are as they were. -/
theorem Sim.step {σ σ' : Sto} {w w' : World} (h : Sim σ w) (hs : Step σ w σ' w') (hv : ∀ b e, σ'.var b = some e → σ.var b = some e) (ho : ∀ b e, σ'.own b = some e → σ.own b = some e)
    (hb : ∀ b, ¬ σ'.dead b → w'.heap[b]? = w.heap[b]?) : Sim σ' w' := by
  constructor
  · intro b e he
    obtain ⟨h1, h2, h3⟩ := h.var b e (hv b e he)
    refine ⟨h1.step hs (hb b (fun hd => by rw [hd.1] at he; cases he)), h2, ?_⟩
    cases h4 : σ'.own b with
    | none => rfl
    | some e' => rw [ho b e' h4] at h3; cases h3
  · intro b e he
    exact (h.own b e (ho b e he)).step hs (hb b (fun hd => by rw [hd.2] at he; cases he))
theorem none_of {f g : Nat → Option Ent} (h : ∀ b e, g b = some e → f b = some e) {b : Nat} (hn : f b = none) : g b = none := by
  cases h1 : g b with
  | none => rfl
  | some e => rw [h b e h1] at hn; cases hn
theorem Sim.drop {σ σ' : Sto} {w : World} (h : Sim σ w) (hv : ∀ b e, σ'.var b = some e → σ.var b = some e) (ho : ∀ b e, σ'.own b = some e → σ.own b = some e) : Sim σ' w :=
  h.step (Step.drop (fun b hd => ⟨none_of hv hd.1, none_of ho hd.2⟩)) hv ho (fun _ _ => rfl)
theorem Sim.live_lt {σ : Sto} {w : World} (h : Sim σ w) {b : Nat} (hd : ¬ σ.dead b) : b < w.heap.size := by
  cases h1 : σ.var b with
  | some e => exact (h.var b e h1).1.lt
  | none =>
    cases h2 : σ.own b with
    | some e => exact (h.own b e h2).lt
    | none => exact absurd ⟨h1, h2⟩ hd
theorem Sim.fresh {σ : Sto} {w : World} (h : Sim σ w) : σ.dead w.heap.size := by
  apply Classical.byContradiction
  intro hd
  exact absurd (h.live_lt hd) (by omega)
/-- New blocks, draws: nothing that was there has turned. -/
theorem Sim.below {σ : Sto} {w w' : World} (h : Sim σ w) (hb : Below w.heap.size w w') : Sim σ w' :=
  h.step (Step.of_below hb) (fun _ _ h => h) (fun _ _ h => h) (fun b hd => hb.block b (h.live_lt hd))
theorem Sim.drew {σ : Sto} {w : World} (h : Sim σ w) : Sim σ w.drew := h.below (Below.refl _ _).drew
theorem Step.drew (σ : Sto) (w : World) : Step σ w σ w.drew := Step.of_below (Below.refl _ _).drew
/-- A new variable. -/
theorem Step.new {σ : Sto} {w : World} (o : Obj) (e : Ent) : Step σ w (σ.setVar w.heap.size e) (w.alloc o) :=
  ⟨rfl, rfl, rfl, by simp, fun b hb hd => ⟨heap_alloc_old w o b hb, ⟨by simp only [Sto.setVar]; rw [if_neg (by omega)]; exact hd.1, hd.2⟩⟩⟩
theorem Step.newOwn {σ : Sto} {w : World} (o : Obj) (e : Ent) : Step σ w (σ.setOwn w.heap.size e) (w.alloc o) :=
  ⟨rfl, rfl, rfl, by simp, fun b hb hd => ⟨heap_alloc_old w o b hb, ⟨hd.1, by simp only [Sto.setOwn]; rw [if_neg (by omega)]; exact hd.2⟩⟩⟩
theorem Sim.newVar {σ : Sto} {w : World} (h : Sim σ w) (ty : TypeId) (cs : Array Value) (as : List AV) (hl : as.length = cs.size) (hi : ∀ c ∈ as, c.isCell = true) (hr : ∀ i c, as[i]? = some c → Rv σ w c (cs.getD i undef)) :
    Sim (σ.setVar w.heap.size ⟨ty, as.length, as⟩) (w.alloc (.cells cs ty)) := by
  have hs := Step.new (σ := σ) (w := w) (.cells cs ty) ⟨ty, as.length, as⟩
  constructor
  · intro b e he
    simp only [Sto.setVar] at he
    split at he
    · rename_i hbe
      subst hbe
      cases he
      refine ⟨⟨cs, heap_alloc_new w _, hl.symm, Nat.le_refl _, fun i c hic => ⟨hi c (List.mem_of_getElem? hic), (hr i c hic).step hs⟩⟩, rfl, h.fresh.2⟩
    · rename_i hbe
      obtain ⟨h1, h2, h3⟩ := h.var b e he
      exact ⟨h1.step hs (heap_alloc_old w _ b h1.lt), h2, h3⟩
  · intro b e he
    have h1 := h.own b e he
    exact h1.step hs (heap_alloc_old w _ b h1.lt)
theorem Sim.newOwn {σ : Sto} {w : World} (h : Sim σ w) (ty : TypeId) (cs : Array Value) (as : List AV) (hl : as.length ≤ cs.size) (hi : ∀ c ∈ as, c.isCell = true) (hr : ∀ i c, as[i]? = some c → Rv σ w c (cs.getD i undef)) :
    Sim (σ.setOwn w.heap.size ⟨ty, cs.size, as⟩) (w.alloc (.cells cs ty)) := by
  have hs := Step.newOwn (σ := σ) (w := w) (.cells cs ty) ⟨ty, cs.size, as⟩
  constructor
  · intro b e he
    obtain ⟨h1, h2, h3⟩ := h.var b e he
    refine ⟨h1.step hs (heap_alloc_old w _ b h1.lt), h2, ?_⟩
    simp only [Sto.setOwn]
    rw [if_neg (by have := h1.lt; omega)]
    exact h3
  · intro b e he
    simp only [Sto.setOwn] at he
    split at he
    · rename_i hbe
      subst hbe
      cases he
      exact ⟨cs, heap_alloc_new w _, rfl, hl, fun i c hic => ⟨hi c (List.mem_of_getElem? hic), (hr i c hic).step hs⟩⟩
    · rename_i hbe
      have h1 := h.own b e he
      exact h1.step hs (heap_alloc_old w _ b h1.lt)
/-- A live block is written: its new row of cells. -/
theorem Step.row {σ σ' : Sto} {w : World} (g : Nat) (cs : Array Value) (hg : ¬ σ.dead g) (hd : ∀ b, b ≠ g → σ.dead b → σ'.dead b) : Step σ w σ' (w.setRow g cs) :=
  ⟨rfl, rfl, rfl, by simp [World.setRow], fun b hb hdb => by
    have hne : b ≠ g := fun e => hg (e ▸ hdb)
    exact ⟨setRow_other w g b cs hne, hd b hne hdb⟩⟩
theorem Sim.rowVar {σ : Sto} {w : World} (h : Sim σ w) {g : Nat} {e : Ent} (he : σ.var g = some e) (cs : Array Value) (as : List AV) (hl : as.length = e.size) (hcs : cs.size = e.size) (hi : ∀ c ∈ as, c.isCell = true) (hr : ∀ i c, as[i]? = some c → Rv σ w c (cs.getD i undef)) :
    Sim (σ.setVar g ⟨e.ty, e.size, as⟩) (w.setRow g cs) ∧ Step σ w (σ.setVar g ⟨e.ty, e.size, as⟩) (w.setRow g cs) := by
  have hlive : ¬ σ.dead g := fun hd => by rw [hd.1] at he; cases he
  have hs : Step σ w (σ.setVar g ⟨e.ty, e.size, as⟩) (w.setRow g cs) := Step.row g cs hlive (fun b hne hd => ⟨by simp only [Sto.setVar]; rw [if_neg hne]; exact hd.1, hd.2⟩)
  obtain ⟨⟨old, ho, hos, _, _⟩, _, hown⟩ := h.var g e he
  refine ⟨⟨?_, ?_⟩, hs⟩
  · intro b e' he'
    simp only [Sto.setVar] at he'
    split at he'
    · rename_i hbe
      subst hbe
      cases he'
      exact ⟨⟨cs, setRow_heap w b old cs e.ty (0, 0) ho, hcs, Nat.le_of_eq hl, fun i c hic => ⟨hi c (List.mem_of_getElem? hic), (hr i c hic).step hs⟩⟩, hl, hown⟩
    · rename_i hbe
      obtain ⟨h1, h2, h3⟩ := h.var b e' he'
      exact ⟨h1.step hs (setRow_other w g b cs hbe), h2, h3⟩
  · intro b e' he'
    have h1 := h.own b e' he'
    have hne : b ≠ g := fun hbe => by
      subst hbe
      have : σ.own b = some e' := he'
      rw [hown] at this
      cases this
    exact h1.step hs (setRow_other w g b cs hne)
theorem Sim.rowOwn {σ : Sto} {w : World} (h : Sim σ w) {g : Nat} {e : Ent} (he : σ.own g = some e) (cs : Array Value) (as : List AV) (hl : as.length ≤ e.size) (hcs : cs.size = e.size) (hi : ∀ c ∈ as, c.isCell = true) (hr : ∀ i c, as[i]? = some c → Rv σ w c (cs.getD i undef)) :
    Sim (σ.setOwn g ⟨e.ty, e.size, as⟩) (w.setRow g cs) ∧ Step σ w (σ.setOwn g ⟨e.ty, e.size, as⟩) (w.setRow g cs) := by
  have hlive : ¬ σ.dead g := fun hd => by rw [hd.2] at he; cases he
  have hs : Step σ w (σ.setOwn g ⟨e.ty, e.size, as⟩) (w.setRow g cs) := Step.row g cs hlive (fun b hne hd => ⟨hd.1, by simp only [Sto.setOwn]; rw [if_neg hne]; exact hd.2⟩)
  obtain ⟨old, ho, hos, _, _⟩ := h.own g e he
  refine ⟨⟨?_, ?_⟩, hs⟩
  · intro b e' he'
    obtain ⟨h1, h2, h3⟩ := h.var b e' he'
    have hne : b ≠ g := fun hbe => by subst hbe; rw [h3] at he; cases he
    refine ⟨h1.step hs (setRow_other w g b cs hne), h2, ?_⟩
    simp only [Sto.setOwn]
    rw [if_neg hne]
    exact h3
  · intro b e' he'
    simp only [Sto.setOwn] at he'
    split at he'
    · rename_i hbe
      subst hbe
      cases he'
      exact ⟨cs, setRow_heap w b old cs e.ty (0, 0) ho, hcs, hl, fun i c hic => ⟨hi c (List.mem_of_getElem? hic), (hr i c hic).step hs⟩⟩
    · rename_i hbe
      have h1 := h.own b e' he'
      exact h1.step hs (setRow_other w g b cs hbe)
/-- A live slice is written no more: from now on it is plain data. -/
theorem Rv.freeze {σ : Sto} {w : World} (h : Sim σ w) {b n cap sz : Nat} {e : Ent} (he : σ.own b = some e) {xs : List (List AV)} (hx : e.cells = xs.flatten) (hn : n = xs.length) (hsz : ∀ x ∈ xs, x.length = sz) {v : Value} (hv : Rv σ w (.ref b n cap) v) :
    Rv (σ.delOwn b) w (.sl false xs) v := by
  have hs : Step σ w (σ.delOwn b) w := Step.drop (fun b' hd => ⟨hd.1, by simp only [Sto.delOwn]; split; rfl; exact hd.2⟩)
  cases hv with
  | ref hle hcp hcm =>
    obtain ⟨cs, h1, h2, h3, h4⟩ := h.own b e he
    have hvar : σ.var b = none := by
      cases hb : σ.var b with
      | none => rfl
      | some e' => have := (h.var b e' hb).2.2; rw [this] at he; cases he
    cases xs with
    | nil => simp at hn; subst hn; exact .slE (fun h => by cases h)
    | cons x xs =>
      refine .slC (f := fun i => cs.getD i undef) (by simp) hn hle hcp hsz (fun h => by cases h) ⟨hvar, by simp [Sto.delOwn]⟩ (Array.getElem?_eq_some_iff.1 h1).1 (fun c hc => ?_) (fun i c hic => ?_) (fun i c hic => ?_)
      · rw [← hx] at hc
        obtain ⟨i, hi⟩ := List.mem_iff_getElem?.1 hc
        exact (h4 i c hi).1
      · rw [Nat.zero_add, cell_of_row w b i cs e.ty (0, 0) h1]
        rw [← hx] at hic
        have hlt : i < cs.size := by have := (List.getElem?_eq_some_iff.1 hic).1; omega
        simp [hlt]
      · rw [← hx] at hic
        exact ((h4 i c hic).2).step hs
theorem Sim.delOwn {σ : Sto} {w : World} (h : Sim σ w) (b : Nat) : Sim (σ.delOwn b) w :=
  h.drop (fun _ _ h => h) (fun b' e he => by simp only [Sto.delOwn] at he; split at he; cases he; exact he)
theorem Step.delOwn (σ : Sto) (w : World) (b : Nat) : Step σ w (σ.delOwn b) w := Step.drop (fun b' hd => ⟨hd.1, by simp only [Sto.delOwn]; split; rfl; exact hd.2⟩)
end Go.Proofs.Shadow
