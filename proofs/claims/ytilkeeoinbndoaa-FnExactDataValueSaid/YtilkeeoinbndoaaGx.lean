/- For walks written by a program: plain functions' partial operations; the local store in one hypothesis. -/
import Derived.Test.YtilkeeoinbndoaaFmA
set_option linter.unusedVariables false
set_option linter.unusedSimpArgs false
namespace Go.Proofs.Shadow
open Go Go.RowKit
/-! ### Plain functions -/
theorem bnd {α β : Type} {o : Option α} {k : α → Option β} {r : β} (h : (o >>= k) = some r) : ∃ x, o = some x ∧ k x = some r := Option.bind_eq_some_iff.1 h
theorem pur {α : Type} {a r : α} (h : (pure a : Option α) = some r) : a = r := Option.some.inj h
def idx {α : Type} (l : List α) (i : Int) : Option α := if 0 ≤ i then l[i.toNat]? else none
def sidx (s : ByteArray) (i : Int) : Option Int := if 0 ≤ i ∧ i < (s.size : Int) then some (byt s i.toNat) else none
def lcat {α : Type} (n : Nat) (xs ys : List α) : Option (List α) := if (xs.length + ys.length) * n ≤ 140737488355328 then some (xs ++ ys) else none
def scat (x y : ByteArray) : Option ByteArray := if x.size + y.size ≤ 4611686018427387904 then some (x ++ y) else none
def lmake {α : Type} (n : Nat) (z : α) (k : Int) : Option (List α) := if 0 ≤ k ∧ k * n ≤ 140737488355328 ∧ k ≤ 140737488355328 then some (List.replicate k.toNat z) else none
def rws {α : Type} (g : α → List AV) (l : List α) : List (List AV) := l.map g
/-- Short words for printed texts (used by mini.py). -/
theorem lpe {α : Type} {x : Option α} {a b : α} (h : x = some a) (hc : x = some b) : a = b := Option.some.inj (h.symm.trans hc)
abbrev zB : ByteArray := ByteArray.mk #[]
abbrev i6 (n : Int) : AV := .int .i64 n
abbrev sf {α : Type} (c : α → List AV) (l : List α) : AV := .sl false (rws c l)
def cI (x : Int) : List AV := [.int .i64 x]
def cU (x : Int) : List AV := [.int .u8 x]
def cS (x : ByteArray) : List AV := [.str x]
def cL {α : Type} (g : α → List AV) (x : List α) : List AV := [.sl false (rws g x)]
section
variable {α : Type} {g : α → List AV}
theorem rws_len (l : List α) : (rws g l).length = l.length := by simp [rws]
theorem rws_app (a b : List α) : rws g (a ++ b) = rws g a ++ rws g b := by simp [rws]
theorem rws_nil : rws g [] = [] := (rfl)
theorem rws_cons (x : α) (l : List α) : rws g (x :: l) = g x :: rws g l := (rfl)
theorem rws_mem {sz : Nat} (hs : ∀ x, (g x).length = sz) (l : List α) : ∀ r ∈ rws g l, r.length = sz := by
  intro r hr; obtain ⟨f, _, rfl⟩ := List.mem_map.1 hr; exact hs f
theorem rws_ints (l : List Int) : ints l = rws cI l := (rfl)
theorem rws_fm (l : List Fm) : Fm.rows l = rws Fm.cells l := Fm.rows_eq l
theorem idx_lt {l : List α} {i : Int} {x : α} (h : idx l i = some x) : 0 ≤ i ∧ i.toNat < l.length ∧ l[i.toNat]? = some x := by
  unfold idx at h
  split at h
  · rename_i hi; exact ⟨hi, (List.getElem?_eq_some_iff.1 h).1, h⟩
  · cases h
theorem aidx_idx {l : List α} {i : Int} {x : α} {c : Bool} {k : IntKind} {σ : Sto} {e : TypeId} {sz by_ : Nat} (hs : ∀ x, (g x).length = sz) (h : idx l i = some x) : aidx σ (some (e, sz, by_)) (.sl c (rws g l)) (.int k i) = some (.ept (g x)) := by
  obtain ⟨h0, h1, h2⟩ := idx_lt h
  have hl : i.toNat < (rws g l).length := by rw [rws_len]; exact h1
  have he : (rws g l)[i.toNat] = g x := by
    rw [List.getElem?_eq_getElem h1] at h2
    injection h2 with h2
    simp [rws, h2]
  have := aidx_rows (sz := sz) (c := c) (k := k) (σ := σ) (e := e) (by_ := by_) hl (by rw [he]; exact hs x)
  rw [he, Int.toNat_of_nonneg h0] at this
  exact this
theorem aindex_sidx {s : ByteArray} {i x : Int} {k : IntKind} (h : sidx s i = some x) : aindex true (.str s) (.int k i) = some (.int .u8 x) := by
  unfold sidx at h
  split at h
  · rename_i hi
    injection h with h
    have := aindex_str (s := s) (i := i.toNat) (k := k) (by omega)
    rw [Int.toNat_of_nonneg hi.1, h] at this
    exact this
  · cases h
theorem lcat_eq {n : Nat} {xs ys zs : List α} (h : lcat n xs ys = some zs) : zs = xs ++ ys ∧ (xs.length + ys.length) * n ≤ 140737488355328 := by
  unfold lcat at h
  split at h
  · injection h with h; exact ⟨h.symm, by assumption⟩
  · cases h
theorem abinS_scat {x y z : ByteArray} (h : scat x y = some z) : abinS .add x y = some (.str z) := by
  unfold scat at h
  split at h
  · rename_i hh; injection h with h; subst h; simp only [abinS]; rw [if_pos hh]
  · cases h
end
/-! ### The local store -/
structure OwnR where
  v : AV
  e : TypeId
  sz : Nat
  rows : List (List AV)
def Apart (a b : OwnR) : Prop := a.v.blk = none ∨ a.v.blk ≠ b.v.blk
theorem Apart.symm {a b : OwnR} (h : Apart a b) : Apart b a := by
  unfold Apart at *
  cases hb : b.v.blk with
  | none => exact .inl rfl
  | some x =>
    right
    rcases h with h | h
    · rw [h]; simp
    · rw [hb] at h; exact fun he => h he.symm
/-- σ: τ (what will be left), the variables bs, the slices of ours ms. -/
structure Fx (τ σ : Sto) (bs : List (Nat × Ent)) (ms : List OwnR) : Prop where
  sub : Sub τ σ
  var : ∀ p ∈ bs, σ.var p.1 = some p.2 ∧ τ.dead p.1
  nd : (bs.map (·.1)).Nodup
  own : ∀ m ∈ ms, Mine τ σ m.e m.sz m.v m.rows
  sep : ms.Pairwise Apart
  wr : ∀ m ∈ ms, m.rows = [] ∨ (m.v.blk ≠ none ∨ m.sz = 17)
section
variable {P : Program} {E : Nat → Prop} {τ σ : Sto} {bs : List (Nat × Ent)} {ms : List OwnR}
theorem Fx.refl (σ : Sto) : Fx σ σ [] [] := ⟨Sub.refl _, by simp, by simp, by simp, .nil, by simp⟩
theorem Fx.at (h : Fx τ σ bs ms) (i : Nat) {b : Nat} {e : Ent} (hi : bs[i]? = some (b, e)) : σ.var b = some e := (h.var _ (List.mem_of_getElem? hi)).1
theorem Fx.mine (h : Fx τ σ bs ms) (i : Nat) {m : OwnR} (hi : ms[i]? = some m) : Mine τ σ m.e m.sz m.v m.rows := h.own _ (List.mem_of_getElem? hi)
theorem Fx.wk (h : Fx τ σ bs ms) (i : Nat) {v : AV} {e : TypeId} {sz : Nat} {rows : List (List AV)} (hi : ms[i]? = some ⟨v, e, sz, rows⟩) : Wk σ v τ (.sl false rows) := Wk.mine (h.mine i hi) h.sub
theorem Fx.cell (h : Fx τ σ bs ms) (i : Nat) {v : AV} {e : TypeId} {sz : Nat} {rows : List (List AV)} (hi : ms[i]? = some ⟨v, e, sz, rows⟩) : v.isCell = true := Mine.cell (h.mine i hi)
theorem Fx.cells (h : Fx τ σ bs ms) (i : Nat) {v : AV} {e : TypeId} {sz : Nat} {rows : List (List AV)} (hi : ms[i]? = some ⟨v, e, sz, rows⟩) : avCells v = some [v] := avCells_cell (h.cell i hi)
theorem Fx.len (h : Fx τ σ bs ms) (i : Nat) {v : AV} {e : TypeId} {sz : Nat} {rows : List (List AV)} (hi : ms[i]? = some ⟨v, e, sz, rows⟩) : alenT false v = some (.int .i64 (rows.length : Int)) := by
  have hm := h.mine i hi
  refine alenT_of hm.len hm.cell ?_
  intro s hs
  rcases hm.1.2 with ⟨h1, _⟩ | h1 | ⟨b, cap, h1, _⟩ <;> (simp only at h1; rw [h1] at hs; cases hs)
theorem Fx.wk0 (h : Fx τ σ bs ms) (r : AV) : Wk σ r τ r := Wk.sub h.sub r
theorem Fx.nil (h : Fx τ σ bs ms) (e : TypeId) (sz : Nat) : Fx τ σ bs (⟨.nilsl, e, sz, []⟩ :: ms) :=
  ⟨h.sub, h.var, h.nd, by
    intro m hm
    rcases List.mem_cons.1 hm with rfl | hm
    · exact Mine.nil _ _ _ _
    · exact h.own m hm, List.pairwise_cons.2 ⟨fun _ _ => .inl rfl, h.sep⟩, by
    intro m hm
    rcases List.mem_cons.1 hm with rfl | hm
    · exact .inl rfl
    · exact h.wr m hm⟩
/-- Facts that are no longer needed. -/
theorem Fx.less (h : Fx τ σ bs ms) {bs' : List (Nat × Ent)} {ms' : List OwnR} (h1 : bs'.Sublist bs) (h2 : ms'.Sublist ms) : Fx τ σ bs' ms' :=
  ⟨h.sub, fun p hp => h.var p (h1.subset hp), h.nd.sublist (h1.map _), fun m hm => h.own m (h2.subset hm), h.sep.sublist h2, fun m hm => h.wr m (h2.subset hm)⟩
theorem Fx.new (h : Fx τ σ bs ms) {b : Nat} (hb : σ.dead b) (e : Ent) : Fx τ (σ.setVar b e) ((b, e) :: bs) ms := by
  have hne : ∀ p ∈ bs, p.1 ≠ b := fun p hp he => by have := (h.var p hp).1; rw [he, hb.1] at this; cases this
  refine ⟨h.sub.setVar (h.sub.dead hb).1 e, ?_, ?_, fun m hm => (h.own m hm).same rfl, h.sep, h.wr⟩
  · intro p hp
    rcases List.mem_cons.1 hp with rfl | hp
    · exact ⟨by simp [Sto.setVar], h.sub.dead hb⟩
    · refine ⟨?_, (h.var p hp).2⟩
      simp only [Sto.setVar]
      rw [if_neg (hne p hp)]
      exact (h.var p hp).1
  · rw [List.map_cons, List.nodup_cons]
    exact ⟨fun hm => by obtain ⟨p, hp, he⟩ := List.mem_map.1 hm; exact hne p hp he, h.nd⟩
theorem Fx.set (h : Fx τ σ bs ms) (i : Nat) {b : Nat} {e : Ent} (hi : bs[i]? = some (b, e)) (e' : Ent) : Fx τ (σ.setVar b e') (bs.set i (b, e')) ms := by
  have hb := h.var _ (List.mem_of_getElem? hi)
  have hil := (List.getElem?_eq_some_iff.1 hi).1
  have hmap : (bs.set i (b, e')).map (·.1) = bs.map (·.1) := by
    rw [List.map_set]
    apply List.ext_getElem?
    intro j
    rw [List.getElem?_set]
    split
    · rename_i hj
      subst hj
      rw [List.getElem?_map, hi]
      simp [hil]
    · rfl
  refine ⟨h.sub.setVar hb.2.1 e', ?_, by rw [hmap]; exact h.nd, fun m hm => (h.own m hm).same rfl, h.sep, h.wr⟩
  intro p hp
  obtain ⟨j, hj⟩ := List.mem_iff_getElem?.1 hp
  rw [List.getElem?_set] at hj
  split at hj
  · rename_i hij
    first | rw [if_pos hil] at hj | skip
    injection hj with hj
    subst hj
    exact ⟨by simp [Sto.setVar], hb.2⟩
  · rename_i hij
    have hp' := h.var p (List.mem_of_getElem? hj)
    refine ⟨?_, hp'.2⟩
    have hne : p.1 ≠ b := by
      intro he
      apply hij
      have h1 : (bs.map (·.1))[i]? = some b := by rw [List.getElem?_map, hi]; rfl
      have h2 : (bs.map (·.1))[j]? = some b := by rw [List.getElem?_map, hj]; simp [he]
      exact (List.getElem?_inj (by simpa using hil) h.nd).1 (h1.trans h2.symm)
    simp only [Sto.setVar]
    rw [if_neg hne]
    exact hp'.1
/-- A block that was live at the beginning is written. -/
theorem Fx.setX (h : Fx τ σ bs ms) {b : Nat} {e : Ent} (hb : τ.var b = some e) (e' : Ent) : Fx (τ.setVar b e') (σ.setVar b e') bs ms := by
  have hd : ∀ x, τ.dead x → (τ.setVar b e').dead x := fun x hx => ⟨by simp only [Sto.setVar]; rw [if_neg (fun he => by subst he; rw [hx.1] at hb; cases hb)]; exact hx.1, hx.2⟩
  refine ⟨⟨fun x ex hx => ?_, h.sub.own⟩, ?_, h.nd, fun m hm => ?_, h.sep, h.wr⟩
  · simp only [Sto.setVar] at hx ⊢
    split at hx
    · rename_i hxb; rw [if_pos hxb]; exact hx
    · rename_i hxb; rw [if_neg hxb]; exact h.sub.var x ex hx
  · intro p hp
    obtain ⟨h1, h2⟩ := h.var p hp
    refine ⟨?_, hd _ h2⟩
    simp only [Sto.setVar]
    rw [if_neg (fun he => by rw [he] at h2; rw [h2.1] at hb; cases hb)]
    exact h1
  · have := h.own m hm
    exact ⟨(this.same (σ' := σ.setVar b e') rfl).1, this.2⟩
theorem Mine.app0 {τ σ : Sto} {e : TypeId} {sz : Nat} {v : AV} {xs : List (List AV)} (h : Mine τ σ e sz v xs) (b : Nat) (hb : v.blk = some b) : ¬ σ.dead b := by
  intro hd
  rcases h.1.2 with ⟨rfl, _⟩ | rfl | ⟨b', cap, rfl, he⟩
  · cases hb
  · cases hb
  · simp only [AV.blk, Option.some.injEq] at hb; subst hb; rw [hd.2] at he; cases he
/-- One of our slices has been appended to. -/
theorem Fx.app (h : Fx τ σ bs ms) (j : Nat) {v v' : AV} {e : TypeId} {sz : Nat} {xs zs : List (List AV)} (hj : ms[j]? = some ⟨v, e, sz, xs⟩) {σ' : Sto} (ha : AppPost σ e sz v σ' v' zs) : Fx τ σ' bs (ms.set j ⟨v', e, sz, zs⟩) := by
  obtain ⟨h1, h2⟩ := (h.mine j hj).app h.sub ha
  have hjl := (List.getElem?_eq_some_iff.1 hj).1
  have hap : ∀ k m, k ≠ j → ms[k]? = some m → Apart m ⟨v, e, sz, xs⟩ := by
    intro k m hk hm
    have hkl := (List.getElem?_eq_some_iff.1 hm).1
    rcases Nat.lt_or_ge k j with hlt | hge
    · have := List.pairwise_iff_getElem.1 h.sep k j hkl hjl hlt
      rw [(List.getElem?_eq_some_iff.1 hm).2, (List.getElem?_eq_some_iff.1 hj).2] at this
      exact this
    · have := List.pairwise_iff_getElem.1 h.sep j k hjl hkl (by omega)
      rw [(List.getElem?_eq_some_iff.1 hm).2, (List.getElem?_eq_some_iff.1 hj).2] at this
      exact this.symm
  refine ⟨h2, fun p hp => by rw [ha.var]; exact h.var p hp, h.nd, ?_, ?_, ?_⟩
  · intro m hm
    obtain ⟨k, hk⟩ := List.mem_iff_getElem?.1 hm
    rw [List.getElem?_set] at hk
    split at hk
    · first | rw [if_pos hjl] at hk | skip
      injection hk with hk
      subst hk
      exact h1
    · rename_i hkj
      exact ((h.mine k hk).other ha (hap k m (Ne.symm hkj) hk)).1
  · rw [List.pairwise_iff_getElem]
    intro a b hal hbl hab
    simp only [List.length_set] at hal hbl
    have hpa := List.pairwise_iff_getElem.1 h.sep a b hal hbl hab
    rw [List.getElem_set, List.getElem_set]
    have ga := List.getElem?_eq_getElem hal
    have gb := List.getElem?_eq_getElem hbl
    split
    · rename_i hja
      subst hja
      split
      · omega
      · exact Apart.symm ((h.mine b gb).other ha (hap b _ (by omega) gb)).2
    · rename_i hja
      split
      · exact ((h.mine a ga).other ha (hap a _ (by omega) ga)).2
      · exact hpa
  · intro m hm
    obtain ⟨k, hk⟩ := List.mem_iff_getElem?.1 hm
    rw [List.getElem?_set] at hk
    split at hk
    · first | rw [if_pos hjl] at hk | skip
      injection hk with hk
      subst hk
      rcases ha.cap with hc | hc
      · rcases h.wr _ (List.mem_of_getElem? hj) with h3 | h3
        · simp only at h3
          subst h3
          have ho := ha.own.2
          rw [← hc] at ho ⊢
          rcases (h.mine j hj).1.2 with ⟨h4, _⟩ | h4 | ⟨b, cap, h4, _⟩
          · simp only at h4; rw [h4] at ho
            rcases ho with ⟨_, h5⟩ | h5 | ⟨b, cap, h5, _⟩
            · exact .inl h5
            · cases h5
            · cases h5
          · simp only at h4; rw [h4] at ho
            rcases ho with ⟨h5, _⟩ | h5 | ⟨b, cap, h5, _⟩
            · cases h5
            · injection h5 with h6 h7; exact .inl h7.symm
            · cases h5
          · simp only at h4; rw [h4]; exact .inr (by simp [AV.blk])
        · exact .inr (by rw [← hc]; exact h3)
      · exact .inr (.inl hc)
    · exact h.wr m (List.mem_of_getElem? hk)
/-! ### steps -/
theorem fx_alloc (hF : Fx τ σ bs ms) {cs : List AV} {ty : TypeId} {T : Nat → AV} {d : Tmp} {K : AS → Prop} {n : Nat} (hn : cs.length = n) (h : ∀ b σ', Fx τ σ' ((b, ⟨ty, n, cs⟩) :: bs) ms → K ⟨upd T d (.ptr b 0), σ'⟩) : aAlloc (some cs) ty ⟨T, σ⟩ (some d) K := by
  subst hn
  exact fun b hb => h b _ (hF.new hb _)
theorem fx_store (hF : Fx τ σ bs ms) (i : Nat) {b o k n : Nat} {ty : TypeId} {ag : Bool} {cells cs cells' : List AV} {v : AV} {T : Nat → AV} {K : AS → Prop} (hi : bs[i]? = some (b, ⟨ty, n, cells⟩)) (hc : avCells v = some cs) (hl : cs.length = k) (hle : o + k ≤ cells.length) (hs : splice cells o cs = cells')
    (h : ∀ σ', Fx τ σ' (bs.set i (b, ⟨ty, n, cells'⟩)) ms → K ⟨T, σ'⟩) : aStore (astore (some (ag, k)) σ (.ptr b o) v) ⟨T, σ⟩ none K := by
  subst hs
  have e : astore (some (ag, k)) σ (.ptr b o) v = some (σ.setVar b ⟨ty, n, splice cells o cs⟩) := by
    rw [astore_ptr, hc, Option.bind_some, if_pos hl, hF.at i hi, Option.bind_some]
    exact if_pos hle
  rw [e]
  exact h _ (hF.set i hi _)
theorem fx_storeX (hF : Fx τ σ bs ms) {b o k n : Nat} {ty : TypeId} {ag : Bool} {cells cs cells' : List AV} {v : AV} {T : Nat → AV} {K : AS → Prop} (hi : τ.var b = some ⟨ty, n, cells⟩) (hc : avCells v = some cs) (hl : cs.length = k) (hle : o + k ≤ cells.length) (hs : splice cells o cs = cells')
    (h : ∀ σ', Fx (τ.setVar b ⟨ty, n, cells'⟩) σ' bs ms → K ⟨T, σ'⟩) : aStore (astore (some (ag, k)) σ (.ptr b o) v) ⟨T, σ⟩ none K := by
  subst hs
  have e : astore (some (ag, k)) σ (.ptr b o) v = some (σ.setVar b ⟨ty, n, splice cells o cs⟩) := by
    rw [astore_ptr, hc, Option.bind_some, if_pos hl, hF.sub.var b _ hi, Option.bind_some]
    exact if_pos hle
  rw [e]
  exact h _ (hF.setX hi _)
theorem fx_appK (hF : Fx τ σ bs ms) (j : Nat) {v y : AV} {e : TypeId} {sz by_ : Nat} {α : Type} {g : α → List AV} {xs ys zs : List α} {T : Nat → AV} {d : Tmp} {K : AS → Prop} (hj : ms[j]? = some ⟨v, e, sz, rws g xs⟩) (hsz : 0 < sz) (hby : 0 < by_) (hy : RdL σ sz y (rws g ys)) (hb : lcat by_ xs ys = some zs)
    (h : ∀ v' σ', Fx τ σ' bs (ms.set j ⟨v', e, sz, rws g zs⟩) → K ⟨upd T d v', σ'⟩) : aAppend (some (e, sz, by_)) v y ⟨T, σ⟩ (some d) (kp E σ K) := by
  obtain ⟨rfl, hb2⟩ := lcat_eq hb
  refine ⟨rws g xs, rws g ys, hsz, hby, (hF.mine j hj).1, hy, by simpa only [rws_len] using hb2, fun v' σ' hp => ?_⟩
  have hv := hp.var
  rw [← rws_app] at hp
  exact ⟨v', σ', Wk1.refl _ _, kp_intro (Keep.of_var hv) (h v' σ' (hF.app j hj hp))⟩
theorem RdL.rwsL {σ : Sto} {c : Bool} {sz : Nat} {α : Type} {g : α → List AV} (hs : ∀ x, (g x).length = sz) (ys : List α) : RdL σ sz (.sl c (rws g ys)) (rws g ys) := RdL.sl _ _ _ _ (rws_mem hs ys)
theorem fx_ret {rs : List ResultVar} {T : Nat → AV} {vs : List AV} {v : AV} (h : aresL P ⟨T, σ⟩ rs = some vs) (hw : Wk σ (packed vs) τ v) : aRet P rs (fun r σ' => r = v ∧ σ' = τ) ⟨T, σ⟩ := aRet_wk h hw
theorem aCnd_p {c : AV} (p : Prop) [Decidable p] {x y : Code} {Q : AX → AS → Prop} {s : AS} (hc : c = .bool (decide p)) (h1 : p → acode P x Q s) (h2 : ¬ p → acode P y Q s) : aCnd P c x y Q s :=
  .inl ⟨_, hc, fun h => h1 (of_decide_eq_true h), fun h => h2 (of_decide_eq_false h)⟩
theorem aCnd_n {c : AV} (p : Prop) [Decidable p] {x y : Code} {Q : AX → AS → Prop} {s : AS} (hc : c = .bool (!decide p)) (h1 : ¬ p → acode P x Q s) (h2 : p → acode P y Q s) : aCnd P c x y Q s :=
  .inl ⟨_, hc, fun h => h1 (by simpa using h), fun h => h2 (by simpa using h)⟩
theorem aCnd_b {c : AV} (b : Bool) {x y : Code} {Q : AX → AS → Prop} {s : AS} (hc : c = .bool b) (h1 : b = true → acode P x Q s) (h2 : ¬ b = true → acode P y Q s) : aCnd P c x y Q s :=
  .inl ⟨_, hc, h1, fun h => h2 (by simp [h])⟩
/-- The function's loops, in the order of the text. -/
def loopsOf : Code → List Code
  | .seq a b => loopsOf a ++ loopsOf b
  | .cond _ a b => loopsOf a ++ loopsOf b
  | .block _ c => loopsOf c
  | .loop c => c :: loopsOf c
  | _ => []
def loopAt (f : Func) (i : Nat) : Option Code := f.body.bind fun c => (loopsOf c)[i]?
theorem Fm.cells_eq (f : Fm) : f.cells = [.int .i64 f.kind, .str f.name, .int .i64 f.num, .sl false (rws cI f.sc), .sl false (rws Fm.cells f.kids)] := by
  cases f
  rw [Fm.cells, rws_ints, rws_fm]
  rfl
theorem Fm.eta (f : Fm) : Fm.mk f.kind f.name f.num f.sc f.kids = f := by cases f; rfl
end
theorem aops_app {P : Program} {D : List (Option Tmp)} (K : AS → Prop) : ∀ (a b : List Oper) (s : AS), aops P D (a ++ b) K s = aops P D a (aops P D b K) s
  | [], b, s => rfl
  | o :: a, b, s => by
    simp only [List.cons_append, aops_cons]
    congr 1
    funext s'
    exact aops_app K a b s'
/-- .. the first n operations behind the guard. -/
theorem aGd_cutN {P : Program} (n lo d : Nat) (v : AV) {g : Option Bool} {o : Oper} {D : List (Option Tmp)} {os : List Oper} {T : Nat → AV} {σ : Sto} {K : AS → Prop}
    (h : aGd P g o ⟨T, σ⟩ (aops P D (os.take n) fun s' => ∃ J, s' = ⟨upd (low lo J T) d v, σ⟩)) (hK : ∀ J, aops P D (os.drop n) K ⟨upd (low lo J T) d v, σ⟩) : aGd P g o ⟨T, σ⟩ (aops P D os K) := by
  have e : aops P D os K = aops P D (os.take n) (aops P D (os.drop n) K) := by
    funext s'
    rw [← aops_app, List.take_append_drop]
  rw [e]
  exact aGd_cut lo d v h hK
theorem trun_app {P : Program} {E : Nat → Prop} {D : List (Option Tmp)} (K : AS → Prop) : ∀ (a b : List (Cl × Oper)) (s : AS), trun P E D (a ++ b) K s = trun P E D a (trun P E D b K) s
  | [], b, s => rfl
  | o :: a, b, s => by
    obtain ⟨c, o⟩ := o
    simp only [List.cons_append, trun_cons]
    congr 1
    funext s'
    exact trun_app K a b s'
theorem tGd_cutN {P : Program} {E : Nat → Prop} (n lo d : Nat) (v : AV) {g : Option Bool} {c : Cl} {o : Oper} {D : List (Option Tmp)} {os : List (Cl × Oper)} {T : Nat → AV} {σ : Sto} {K : AS → Prop}
    (h : tGd P E g c o ⟨T, σ⟩ (trun P E D (os.take n) fun s' => ∃ J, s' = ⟨upd (low lo J T) d v, σ⟩)) (hK : ∀ J, trun P E D (os.drop n) K ⟨upd (low lo J T) d v, σ⟩) : tGd P E g c o ⟨T, σ⟩ (trun P E D os K) := by
  have e : trun P E D os K = trun P E D (os.take n) (trun P E D (os.drop n) K) := by
    funext s'
    rw [← trun_app, List.take_append_drop]
  rw [e]
  exact tGd_cut lo d v h hK
theorem b_f {b : Bool} (h : b = false) : ¬ b = true := by simp [h]
def cB (x : Bool) : List AV := [.bool x]
theorem RdL.of {σ : Sto} {c : Bool} {sz : Nat} {α : Type} {g : α → List AV} {ys : List α} {y : AV} (hs : ∀ x, (g x).length = sz) (h : y = .sl c (rws g ys)) : RdL σ sz y (rws g ys) := by
  subst h; exact RdL.rwsL hs ys
/-- No store. -/
def sto00 : Sto := ⟨fun _ => none, fun _ => none⟩
theorem Sub.zero (σ : Sto) : Sub sto00 σ := ⟨(fun _ _ h => by cases h), (fun _ _ h => by cases h)⟩
inductive Flat : AV → Prop
  | int {k : IntKind} {n : Int} : Flat (.int k n)
  | bool {b : Bool} : Flat (.bool b)
  | str {s : ByteArray} : Flat (.str s)
  | unit : Flat (.tup [])
theorem Flat.rv {σ σ' : Sto} {w : World} {a : AV} {v : Value} (h : Flat a) (hr : Rv σ w a v) : Rv σ' w a v := by
  cases h <;> cases hr
  · exact .int
  · exact .bool
  · rename_i h; exact .str h
  · exact .tup (by assumption) (fun i c h => by simp at h)
theorem sto00_sim (w : World) : Sim sto00 w := ⟨(fun _ _ h => by cases h), (fun _ _ h => by cases h)⟩
/-- A pure function that answers a number, a bool or a string may be shown everything. -/
theorem aCall_flat {P : Program} {f : FuncId} {args bs : List AV} {v : AV} {T : Nat → AV} {σ : Sto} {dst : Option Tmp} {K : AS → Prop} (h : PCtr P f bs v) (hv : Flat v) (hw : WkL σ sto00 args bs) (hK : K (AS.put ⟨T, σ⟩ dst v)) : aCall P (.fn f []) args ⟨T, σ⟩ dst K := by
  show Ctr P f (args ++ []) σ _
  rw [List.append_nil]
  refine ⟨(h sto00).1, fun w cargs hs htb hl hr => ?_⟩
  refine Calls.mono ((h sto00).2 w cargs (sto00_sim w) (htb.drop fun _ _ => ⟨rfl, rfl⟩) (by rw [hl, hw.length]) (fun i b hb => ?_)) ?_
  · obtain ⟨a, ha, h1, _⟩ := hw.get i b hb
    exact (h1 w _ hs (hr i a ha)).2.1
  · rintro e w' ⟨v', r, σ', rfl, hst, hsim, hrv, rfl, rfl⟩
    have hst2 : Step σ w σ w' := ⟨hst.os, hst.tape, hst.output, hst.size, fun b hb hd => ⟨(hst.dead b hb ⟨rfl, rfl⟩).1, hd⟩⟩
    refine ⟨v', r, σ, rfl, hst2, ?_, hv.rv hrv, hK⟩
    refine hs.step hst2 (fun _ _ h => h) (fun _ _ h => h) (fun b hd => ?_)
    exact (hst.dead b (hs.live_lt hd) ⟨rfl, rfl⟩).1
attribute [go_sem] rws_len rws_nil rws_cons cI cS cU cL cB Fm.cells_eq
end Go.Proofs.Shadow

