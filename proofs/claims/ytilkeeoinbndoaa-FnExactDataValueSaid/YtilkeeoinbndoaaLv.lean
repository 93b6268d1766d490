/- Live trees: forms whose slices are all ours. -/
import Derived.Test.YtilkeeoinbndoaaGu
set_option linter.unusedVariables false
set_option linter.unusedSimpArgs false
namespace Go.Proofs.Shadow
open Go
/-- What can be read as xs, told as ys where nothing is live. -/
theorem rd_ref {σ : Sto} {w : World} (hs : Sim σ w) {e : TypeId} {sz : Nat} {v : AV} {xs ys : List (List AV)} (h : OwnL σ e sz v xs) (hl : ys.length = xs.length) (hy : ∀ y ∈ ys, y.length = sz)
    (hc : ∀ (i : Nat) (c : AV), ys.flatten[i]? = some c → c.isCell = true ∧ ∃ a, xs.flatten[i]? = some a ∧ ∀ val, Rv σ w a val → Rv sto00 w c val) {val : Value} (hv : Rv σ w v val) : Rv sto00 w (.sl false ys) val := by
  have nil : xs = [] → ys = [] := fun hx => List.eq_nil_of_length_eq_zero (by rw [hl, hx]; rfl)
  have cell : ∀ c ∈ ys.flatten, c.isCell = true := fun c hm => by
    obtain ⟨i, hi⟩ := List.mem_iff_getElem?.1 hm
    exact (hc i c hi).1
  rcases h.2 with ⟨rfl, hx⟩ | rfl | ⟨b, cap, rfl, he⟩
  · rw [nil hx]; cases hv; exact .slE (fun h => by cases h)
  · cases hv with
    | slE _ => rw [nil rfl]; exact .slE (fun h => by cases h)
    | slC hx hn hle hcp hsz _ hd hb hi hf hr =>
      rename_i b o n cap sz' f hcc
      refine .slC (f := f) (sz := sz) (fun h0 => hx (List.eq_nil_of_length_eq_zero (by rw [← hl, h0]; rfl))) (by rw [hn, hl]) hle hcp hy (fun h => by cases h) ⟨rfl, rfl⟩ hb cell (fun i c hic => ?_) (fun i c hic => ?_)
      · obtain ⟨_, a, ha, _⟩ := hc i c hic
        exact hf i a ha
      · obtain ⟨_, a, ha, hcv⟩ := hc i c hic
        exact hcv _ (hr i a ha)
  · cases hv with
    | ref hle hcp hcm =>
      obtain ⟨cs, h1, h2, h3, h4⟩ := hs.own b _ he
      by_cases hx : xs = []
      · rw [nil hx, hx]; exact .slE (fun h => by cases h)
      · refine .slC (f := fun i => cs.getD i undef) (sz := sz) (fun h0 => hx (List.eq_nil_of_length_eq_zero (by rw [← hl, h0]; rfl))) (by rw [hl]) hle hcp hy (fun h => by cases h) ⟨rfl, rfl⟩ (Array.getElem?_eq_some_iff.1 h1).1 cell (fun i c hic => ?_) (fun i c hic => ?_)
        · obtain ⟨_, a, ha, _⟩ := hc i c hic
          rw [Nat.zero_add, cell_of_row w b i cs e (0, 0) h1]
          have hlt : i < cs.size := by have := (List.getElem?_eq_some_iff.1 ha).1; simp only at h2 h3; omega
          simp [hlt]
        · obtain ⟨_, a, ha, hcv⟩ := hc i c hic
          exact hcv _ (h4 i a ha).2
/-! ### Forms whose slices are ours -/
mutual
/-- A form's row of cells, and its slices. -/
inductive LvF (tI tF : TypeId) : Fm → List AV → List OwnR → Prop
  | mk {k n : Int} {s : ByteArray} {sc : List Int} {ks : List Fm} {vs vk : AV} {rows : List (List AV)} {Ls : List OwnR} (h : LvL tI tF ks rows Ls) : LvF tI tF (.mk k s n sc ks) [.int .i64 k, .str s, .int .i64 n, vs, vk] (⟨vs, tI, 1, rws cI sc⟩ :: ⟨vk, tF, 5, rows⟩ :: Ls)
inductive LvL (tI tF : TypeId) : List Fm → List (List AV) → List OwnR → Prop
  | nil : LvL tI tF [] [] []
  | cons {f : Fm} {fs : List Fm} {r : List AV} {rs : List (List AV)} {L Ls : List OwnR} (h : LvF tI tF f r L) (t : LvL tI tF fs rs Ls) : LvL tI tF (f :: fs) (r :: rs) (L ++ Ls)
end
theorem LvF.len {tI tF : TypeId} {f : Fm} {r : List AV} {L : List OwnR} (h : LvF tI tF f r L) : r.length = 5 := by cases h; rfl
theorem LvL.len {tI tF : TypeId} : ∀ {fs : List Fm} {rs : List (List AV)} {L : List OwnR}, LvL tI tF fs rs L → rs.length = fs.length ∧ ∀ r ∈ rs, r.length = 5
  | _, _, _, .nil => ⟨rfl, by simp⟩
  | _, _, _, .cons h t => by
    obtain ⟨h1, h2⟩ := t.len
    refine ⟨by simp [h1], fun r hr => ?_⟩
    rcases List.mem_cons.1 hr with rfl | hr
    · exact h.len
    · exact h2 r hr
theorem rws_int (sc : List Int) : (rws cI sc).length = sc.length ∧ (∀ y ∈ rws cI sc, y.length = 1) ∧ ∀ (i : Nat) (c : AV), (rws cI sc).flatten[i]? = some c → ∃ n, c = .int .i64 n := by
  refine ⟨by simp [rws], fun y hy => ?_, fun i c hc => ?_⟩
  · obtain ⟨n, _, rfl⟩ := List.mem_map.1 hy; rfl
  · have hm := List.mem_of_getElem? hc
    obtain ⟨l, hl, hcl⟩ := List.mem_flatten.1 hm
    obtain ⟨n, _, rfl⟩ := List.mem_map.1 hl
    exact ⟨n, List.mem_singleton.1 hcl⟩
/-- Five cells told anew. -/
theorem cells5 {σ : Sto} {w : World} {k n : Int} {s : ByteArray} {vs vk c3 c4 : AV} (hs : ∀ val, Rv σ w vs val → Rv sto00 w c3 val) (hk : ∀ val, Rv σ w vk val → Rv sto00 w c4 val) (h3 : c3.isCell = true) (h4 : c4.isCell = true) : ∀ (i : Nat) (c : AV), [.int .i64 k, .str s, .int .i64 n, c3, c4][i]? = some c → c.isCell = true ∧ ∃ a, [.int .i64 k, .str s, .int .i64 n, vs, vk][i]? = some a ∧ ∀ val, Rv σ w a val → Rv sto00 w c val := by
  intro i c hi
  match i, hi with
  | 0, hi => injection hi with hi; subst hi; exact ⟨rfl, _, rfl, fun val h => by cases h; exact .int⟩
  | 1, hi => injection hi with hi; subst hi; exact ⟨rfl, _, rfl, fun val h => by cases h with | str h => exact .str h⟩
  | 2, hi => injection hi with hi; subst hi; exact ⟨rfl, _, rfl, fun val h => by cases h; exact .int⟩
  | 3, hi => injection hi with hi; subst hi; exact ⟨h3, _, rfl, hs⟩
  | 4, hi => injection hi with hi; subst hi; exact ⟨h4, _, rfl, hk⟩
  | i + 5, hi => cases hi
mutual
theorem LvF.rd {σ : Sto} {w : World} (hs : Sim σ w) {tI tF : TypeId} : ∀ {f : Fm} {r : List AV} {L : List OwnR}, LvF tI tF f r L → (∀ m ∈ L, OwnL σ m.e m.sz m.v m.rows) → ∀ (i : Nat) (c : AV), f.cells[i]? = some c → c.isCell = true ∧ ∃ a, r[i]? = some a ∧ ∀ val, Rv σ w a val → Rv sto00 w c val
  | _, _, _, .mk (k := k) (n := n) (s := s) (sc := sc) (ks := ks) (rows := rows) h, hL => by
    have o1 := hL _ (List.mem_cons_self ..)
    have o2 := hL _ (List.mem_cons_of_mem _ (List.mem_cons_self ..))
    obtain ⟨q1, q2, q3⟩ := rws_int sc
    have rd1 := fun val hv => rd_ref (ys := rws cI sc) hs o1 rfl q2 (fun i c hi => by
      obtain ⟨m, rfl⟩ := q3 i c hi
      exact ⟨rfl, _, hi, fun val h => by cases h; exact .int⟩) (val := val) hv
    obtain ⟨p1, p2⟩ := h.len
    have rd2 := fun val hv => rd_ref (ys := rws Fm.cells ks) hs o2 (by simp [rws, p1]) (fun y hy => by
      obtain ⟨g, _, rfl⟩ := List.mem_map.1 hy; exact Fm.cells_len g) (h.rd hs fun m hm => hL m (List.mem_cons_of_mem _ (List.mem_cons_of_mem _ hm))) (val := val) hv
    rw [Fm.cells_eq]
    exact cells5 rd1 rd2 rfl rfl
theorem LvL.rd {σ : Sto} {w : World} (hs : Sim σ w) {tI tF : TypeId} : ∀ {fs : List Fm} {rs : List (List AV)} {L : List OwnR}, LvL tI tF fs rs L → (∀ m ∈ L, OwnL σ m.e m.sz m.v m.rows) → ∀ (i : Nat) (c : AV), (rws Fm.cells fs).flatten[i]? = some c → c.isCell = true ∧ ∃ a, rs.flatten[i]? = some a ∧ ∀ val, Rv σ w a val → Rv sto00 w c val
  | _, _, _, .nil, _ => fun i c h => by cases h
  | _, _, _, .cons (f := f) (fs := fs) (r := r) (rs := rs) h t, hL => fun i c hi => by
    have h1 := h.rd hs fun m hm => hL m (List.mem_append_left _ hm)
    have h2 := t.rd hs fun m hm => hL m (List.mem_append_right _ hm)
    have hl := h.len
    have hc : f.cells.length = 5 := Fm.cells_len f
    rw [show rws Fm.cells (f :: fs) = f.cells :: rws Fm.cells fs from rfl, List.flatten_cons] at hi
    rw [List.flatten_cons]
    rcases Nat.lt_or_ge i 5 with hlt | hge
    · rw [List.getElem?_append_left (by omega)] at hi
      obtain ⟨a1, a, a2, a3⟩ := h1 i c hi
      exact ⟨a1, a, by rw [List.getElem?_append_left (by omega)]; exact a2, a3⟩
    · rw [List.getElem?_append_right (by omega)] at hi
      obtain ⟨a1, a, a2, a3⟩ := h2 (i - 5) c (by rw [hc] at hi; exact hi)
      exact ⟨a1, a, by rw [List.getElem?_append_right (by omega), hl]; exact a2, a3⟩
end
/-- A live tree, handed on to be read only. -/
theorem LvF.wk {τ σ : Sto} {bs : List (Nat × Ent)} {ms : List OwnR} (hF : Fx τ σ bs ms) {tI tF : TypeId} {f : Fm} {r : List AV} {L : List OwnR} (h : LvF tI tF f r L) (hs : ∀ m ∈ L, m ∈ ms) : Wk σ (.agg r) sto00 (.agg f.cells) := fun w v hw hv => by
  refine ⟨sto00_sim w, ?_, fun b _ => ⟨rfl, rfl⟩⟩
  have hrd := h.rd hw fun m hm => (hF.own m (hs m hm)).1
  have hl5 := h.len
  have hc5 : f.cells.length = 5 := Fm.cells_len f
  cases hv with
  | agg hl hi hr =>
    refine .agg (by omega) (fun c hc => ?_) (fun i c hic => ?_)
    · obtain ⟨i, hi⟩ := List.mem_iff_getElem?.1 hc
      exact (hrd i c hi).1
    · obtain ⟨_, a, ha, hv⟩ := hrd i c hic
      exact hv _ (hr i a ha)
/-- The slices in another order. -/
theorem Fx.perm {τ σ : Sto} {bs : List (Nat × Ent)} {ms ms' : List OwnR} (hF : Fx τ σ bs ms) (h : ms.Perm ms') : Fx τ σ bs ms' :=
  ⟨hF.sub, hF.var, hF.nd, fun m hm => hF.own m (h.mem_iff.2 hm), (h.pairwise_iff (fun h => h.symm)).1 hF.sep, fun m hm => hF.wr m (h.mem_iff.2 hm)⟩
theorem LvL.app {tI tF : TypeId} : ∀ {fs gs : List Fm} {rs qs : List (List AV)} {L M : List OwnR}, LvL tI tF fs rs L → LvL tI tF gs qs M → LvL tI tF (fs ++ gs) (rs ++ qs) (L ++ M)
  | _, _, _, _, _, _, .nil, k => k
  | _, _, _, _, _, _, .cons h t, k => by
    rw [List.append_assoc]
    exact .cons h (t.app k)
theorem LvL.snoc {tI tF : TypeId} {fs : List Fm} {f : Fm} {rs : List (List AV)} {r : List AV} {L M : List OwnR} (h : LvL tI tF fs rs L) (k : LvF tI tF f r M) : LvL tI tF (fs ++ [f]) (rs ++ [r]) (L ++ M) := by
  have := h.app (.cons k .nil)
  rwa [List.append_nil] at this
/-- The row of one kid, and its slices, in the middle of the others'. -/
theorem LvL.at {tI tF : TypeId} : ∀ {fs : List Fm} {rs : List (List AV)} {L : List OwnR}, LvL tI tF fs rs L → ∀ (i : Nat) (f : Fm), fs[i]? = some f → ∃ r A B C, rs[i]? = some r ∧ L = A ++ (B ++ C) ∧ LvF tI tF f r B ∧ ∀ f' r' B', LvF tI tF f' r' B' → LvL tI tF (fs.set i f') (rs.set i r') (A ++ (B' ++ C))
  | _, _, _, .nil, i, f, h => by cases h
  | _, _, _, .cons (f := g) (fs := fs) (r := q) (rs := rs) (L := L) (Ls := Ls) h t, 0, f, hi => by
    injection hi with hi
    subst hi
    exact ⟨q, [], L, Ls, rfl, rfl, h, fun f' r' B' k => (show LvL tI tF (f' :: fs) (r' :: rs) (B' ++ Ls) from .cons k t)⟩
  | _, _, _, .cons (f := g) (fs := fs) (r := q) (rs := rs) (L := L) (Ls := Ls) h t, i + 1, f, hi => by
    obtain ⟨r, A, B, C, h1, h2, h3, h4⟩ := t.at i f hi
    refine ⟨r, L ++ A, B, C, h1, by rw [h2, List.append_assoc], h3, fun f' r' B' k => ?_⟩
    rw [List.append_assoc]
    exact (show LvL tI tF (g :: fs.set i f') (q :: rs.set i r') (L ++ (A ++ (B' ++ C))) from .cons h (h4 f' r' B' k))
/-- A row of ours is written whole. -/
theorem fx_osetR {τ σ : Sto} {bs : List (Nat × Ent)} {ms : List OwnR} (hF : Fx τ σ bs ms) (j : Nat) {ag : Bool} {k b n c : Nat} {e : TypeId} {sz : Nat} {rows : List (List AV)} {i : Nat} {v : AV} {cs : List AV} {T : Nat → AV} {K : AS → Prop} (hj : ms[j]? = some ⟨.ref b n c, e, sz, rows⟩) (hi : i < rows.length)
    (hc : avCells v = some cs) (hl : cs.length = k) (hk : k = sz) (hK : ∀ σ', Fx τ σ' bs (ms.set j ⟨.ref b n c, e, sz, rows.set i cs⟩) → K ⟨T, σ'⟩) : aStore (astore (some (ag, k)) σ (.optr b (i * sz)) v) ⟨T, σ⟩ none K := by
  subst hk
  obtain ⟨h0, h1, h2⟩ := own_at hF j hj
  have hfl := flatten_length rows h2
  have hle2 : i * k + k ≤ rows.length * k := by
    have : (i + 1) * k ≤ rows.length * k := Nat.mul_le_mul_right k hi
    rwa [Nat.add_mul, Nat.one_mul] at this
  have hx : rows[i]? = some rows[i] := List.getElem?_eq_getElem hi
  have hxl := h2 _ (List.getElem_mem hi)
  have hsp : splice rows[i] 0 cs = cs := by
    rw [splice_eq, List.take_zero, List.nil_append, Nat.zero_add, List.drop_of_length_le (by omega), List.append_nil]
  have e1 : astore (some (ag, k)) σ (.optr b (i * k)) v = some (σ.setOwn b ⟨e, c * k, (rows.set i cs).flatten⟩) := by
    simp only [astore, hc, h1, Option.bind_some]
    have := splice_row (o := 0) (cs := cs) h2 hx (by omega)
    rw [Nat.add_zero] at this
    rw [if_pos hl, if_pos (by rw [hfl]; omega), this, hsp]
  rw [e1]
  refine hK _ (hF.oset j hj (by simp) (fun r hr => ?_))
  rcases List.mem_or_eq_of_mem_set hr with hr | hr
  · exact h2 r hr
  · rw [hr]; exact hl
/-- Rows of zeros. -/
def zrow : List AV := [.int .i64 0, .str (ByteArray.mk #[]), .int .i64 0, .nilsl, .nilsl]
def zfm : Fm := Fm.mk 0 (ByteArray.mk #[]) 0 [] []
theorem LvF.zero (tI tF : TypeId) : LvF tI tF zfm zrow [⟨.nilsl, tI, 1, []⟩, ⟨.nilsl, tF, 5, []⟩] := .mk .nil
theorem LvL.zeros (tI tF : TypeId) : ∀ n : Nat, ∃ L, LvL tI tF (List.replicate n zfm) (List.replicate n zrow) L ∧ ∀ {τ σ : Sto} {bs : List (Nat × Ent)} {ms : List OwnR}, Fx τ σ bs ms → Fx τ σ bs (L ++ ms)
  | 0 => ⟨[], .nil, fun h => h⟩
  | n + 1 => by
    obtain ⟨L, h1, h2⟩ := LvL.zeros tI tF n
    refine ⟨(⟨.nilsl, tI, 1, []⟩ : OwnR) :: (⟨.nilsl, tF, 5, []⟩ : OwnR) :: L, ?_, fun {τ σ bs ms} h => ?_⟩
    · exact LvL.cons (LvF.zero tI tF) h1
    · exact ((h2 h).nil tF 5).nil tI 1
/-- The slices behind a kid that was put in another's place. -/
theorem Fx.place {τ σ : Sto} {bs : List (Nat × Ent)} {o : OwnR} {A B C M : List OwnR} (h : Fx τ σ bs ((o :: (A ++ (B ++ C))) ++ M)) : Fx τ σ bs (o :: (A ++ (M ++ C))) := by
  have p1 : ((A ++ (B ++ C)) ++ M).Perm (B ++ (A ++ (M ++ C))) := by
    refine (List.Perm.append_right M (List.perm_append_comm_assoc A B C)).trans ?_
    rw [List.append_assoc, List.append_assoc]
    exact .append_left B (.append_left A List.perm_append_comm)
  have p2 : ((o :: (A ++ (B ++ C))) ++ M).Perm (B ++ (o :: (A ++ (M ++ C)))) := (List.Perm.cons o p1).trans List.perm_middle.symm
  exact (h.perm p2).less (List.Sublist.refl _) (List.sublist_append_right _ _)
/-- Rows are appended to one of ours, in a region whose order is open. -/
theorem fx_appRK {E : Nat → Prop} {τ σ : Sto} {bs : List (Nat × Ent)} {ms : List OwnR} (hF : Fx τ σ bs ms) (j : Nat) {v y : AV} {e : TypeId} {sz by_ : Nat} {xs ys : List (List AV)} {T : Nat → AV} {d : Tmp} {K : AS → Prop} (hj : ms[j]? = some ⟨v, e, sz, xs⟩) (hsz : 0 < sz) (hby : 0 < by_) (hy : RdL σ sz y ys) (hb : (xs.length + ys.length) * by_ ≤ 140737488355328)
    (h : ∀ v' σ', Fx τ σ' bs (ms.set j ⟨v', e, sz, xs ++ ys⟩) → K ⟨upd T d v', σ'⟩) : aAppend (some (e, sz, by_)) v y ⟨T, σ⟩ (some d) (kp E σ K) := by
  refine ⟨xs, ys, hsz, hby, (hF.mine j hj).1, hy, hb, fun v' σ' hp => ?_⟩
  have hv := hp.var
  exact ⟨v', σ', Wk1.refl _ _, kp_intro (Keep.of_var hv) (h v' σ' (hF.app j hj hp))⟩
theorem fx_osetR1 {τ σ : Sto} {bs : List (Nat × Ent)} {ms : List OwnR} (hF : Fx τ σ bs ms) (j : Nat) {ag : Bool} {b n c : Nat} {e : TypeId} {rows : List (List AV)} {i : Nat} {v : AV} {cs : List AV} {T : Nat → AV} {K : AS → Prop} (hj : ms[j]? = some ⟨.ref b n c, e, 1, rows⟩) (hi : i < rows.length)
    (hc : avCells v = some cs) (hl : cs.length = 1) (hK : ∀ σ', Fx τ σ' bs (ms.set j ⟨.ref b n c, e, 1, rows.set i cs⟩) → K ⟨T, σ'⟩) : aStore (astore (some (ag, 1)) σ (.optr b i) v) ⟨T, σ⟩ none K := by
  have := fx_osetR (ag := ag) (T := T) (K := K) hF j hj hi hc hl rfl hK
  rwa [Nat.mul_one] at this
end Go.Proofs.Shadow

