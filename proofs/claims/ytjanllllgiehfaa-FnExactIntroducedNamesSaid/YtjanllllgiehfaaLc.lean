/- Live trees: a list of them handed on to be read; a row of ours written in an open region; two stores of an open region in either order, the second of which may turn a variable. -/
import Derived.Test.YtjanllllgiehfaaLb
set_option linter.unusedVariables false
set_option linter.unusedSimpArgs false
namespace Go.Proofs.Shadow
open Go
/-- A list of live trees, handed on to be read only. -/
theorem LvL.wk {τ σ : Sto} {bs : List (Nat × Ent)} {ms : List OwnR} (hF : Fx τ σ bs ms) {tI tF : TypeId} {fs : List Fm} {rows : List (List AV)} {L : List OwnR} {v : AV} {e : TypeId} (h : LvL tI tF fs rows L) (hv : ⟨v, e, 5, rows⟩ ∈ ms) (hs : ∀ m ∈ L, m ∈ ms) : Wk σ v sto00 (.sl false (rws Fm.cells fs)) := fun w val hw hr => by
  refine ⟨sto00_sim w, ?_, fun b _ => ⟨rfl, rfl⟩⟩
  have o2 := (hF.own _ hv).1
  obtain ⟨p1, p2⟩ := h.len
  exact rd_ref (ys := rws Fm.cells fs) hw o2 (by simp [rws, p1]) (fun y hy => by
      obtain ⟨g, _, rfl⟩ := List.mem_map.1 hy; exact Fm.cells_len g) (h.rd hw fun m hm => (hF.own m (hs m hm)).1) (val := val) hr
/-- A row of ours is written whole, in an open region. -/
theorem fx_osetRK {E : Nat → Prop} {τ σ : Sto} {bs : List (Nat × Ent)} {ms : List OwnR} (hF : Fx τ σ bs ms) (j : Nat) {ag : Bool} {k b n c : Nat} {e : TypeId} {sz : Nat} {rows : List (List AV)} {i : Nat} {v : AV} {cs : List AV} {T : Nat → AV} {K : AS → Prop} (hj : ms[j]? = some ⟨.ref b n c, e, sz, rows⟩) (hi : i < rows.length)
    (hc : avCells v = some cs) (hl : cs.length = k) (hk : k = sz) (hK : ∀ σ', Fx τ σ' bs (ms.set j ⟨.ref b n c, e, sz, rows.set i cs⟩) → K ⟨T, σ'⟩) : aStore (astore (some (ag, k)) σ (.optr b (i * sz)) v) ⟨T, σ⟩ none (kp E σ K) := by
  subst hk
  obtain ⟨h0, h1, h2⟩ := own_at hF j hj
  have hfl := flatten_length rows h2
  have hle2 : i * k + k ≤ rows.length * k := by
    have : (i + 1) * k ≤ rows.length * k := Nat.mul_le_mul_right k hi
    rwa [Nat.add_mul, Nat.one_mul] at this
  have hx : rows[i]? = some rows[i] := List.getElem?_eq_getElem hi
  have hxl := h2 _ (List.getElem_mem hi)
  have hsp : splice rows[i] 0 cs = cs := by
    rw [splice_eq, List.take_zero, List.nil_append, Nat.zero_add, List.drop_of_length_le (by omega), List.append_nil]
  have e1 : astore (some (ag, k)) σ (.optr b (i * k)) v = some (σ.setOwn b ⟨e, c * k, (rows.set i cs).flatten⟩) := by
    simp only [astore, hc, h1, Option.bind_some]
    have := splice_row (o := 0) (cs := cs) h2 hx (by omega)
    rw [Nat.add_zero] at this
    rw [if_pos hl, if_pos (by rw [hfl]; omega), this, hsp]
  rw [e1]
  refine kp_intro (Keep.of_var rfl) (hK _ (hF.oset j hj (by simp) (fun r hr => ?_)))
  rcases List.mem_or_eq_of_mem_set hr with hr | hr
  · exact h2 r hr
  · rw [hr]; exact hl
/-- All of ours is handed on, with the caller's variables. -/
theorem preW {τ0 τ σ : Sto} {bs es : List (Nat × Ent)} {ms : List OwnR} (hF : Fx τ σ bs ms) (hX : Tau τ0 es τ) : Pre σ es ms := by
  have h := Fx.pre (esL := []) (bsr := bs) (esX := es) (xsr := []) (ms0 := ms) (msr := []) (by simpa using hF) (by simpa using hX)
  simpa using h
theorem aftW {τ0 τ σ τ' σ' : Sto} {bs es es' bn : List (Nat × Ent)} {ms ms' : List OwnR} (hF : Fx τ σ bs ms) (hX : Tau τ0 es τ) (hT : Tau (strip σ ms) es' τ') (hG : Fx τ' σ' bn ms') (k : es'.map (·.1) = es.map (·.1) := by rfl) : ∃ τ2, Tau τ0 es' τ2 ∧ Fx τ2 σ' (bn ++ bs) ms' := by
  have h := Fx.after (esL := []) (bsr := bs) (esX := es) (xsr := []) (ms0 := ms) (msr := []) (esL' := []) (esX' := es') (by simpa using hF) (by simpa using hX) (by simpa using hT) hG rfl k
  simpa using h
theorem borrowG {P : Program} {f : FuncId} {args as : List AV} {G : AV → List OwnR → Prop} {τ σ : Sto} {bs : List (Nat × Ent)} {ms : List OwnR} {T : Nat → AV} {dst : Option Tmp} {K : AS → Prop} (hR : ∀ r L, G r L → (∀ m ∈ L, Free m.v) → Free r ∧ ∀ m ∈ L, ∀ c ∈ m.rows.flatten, Free c) (hF : Fx τ σ bs ms)
    (hC : Ctr P f as sto00 fun r' σ' => ∃ (τ' : Sto) (L : List OwnR), G r' L ∧ Tau (strip sto00 []) [] τ' ∧ Fx τ' σ' [] L) (hsz : ∀ r L, G r L → ∀ m ∈ L, m.sz ≠ 17) (hw : WkL σ sto00 args as)
    (hK : ∀ r L σ', G r L → Fx τ σ' bs (L ++ ms) → K (AS.put ⟨T, σ'⟩ dst r)) : aCall P (.fn f []) args ⟨T, σ⟩ dst K := by
  show Ctr P f (args ++ []) σ _
  rw [List.append_nil]
  refine ⟨hC.1, fun w cargs hs htb hl hr => ?_⟩
  refine Calls.mono (hC.2 w cargs (sto00_sim w) (htb.drop fun _ _ => ⟨rfl, rfl⟩) (by rw [hl, hw.length]) (fun i b hb => ?_)) ?_
  · obtain ⟨a, ha, h1, _⟩ := hw.get i b hb
    exact (h1 w _ hs (hr i a ha)).2.1
  · rintro e w' ⟨v', r, σ1, rfl, hst, hsim, hrv, τ1, L, hLv, _, hG⟩
    have hfree := hR _ _ hLv fun m hm => Free.own hG hm (hsz _ _ hLv m hm)
    have hsame : ∀ b, b < w.heap.size → w'.heap[b]? = w.heap[b]? ∧ σ1.own b = none := fun b hb => ⟨(hst.dead b hb ⟨rfl, rfl⟩).1, (hst.dead b hb ⟨rfl, rfl⟩).2.2⟩
    have hold : ∀ b e, σ.own b = some e → b < w.heap.size := fun b e he => (hs.own b e he).lt
    have hst2 : Step σ w (joinS σ σ1 L) w' := ⟨hst.os, hst.tape, hst.output, hst.size, fun b hb hd => ⟨(hsame b hb).1, hd.1, by
      simp only [joinS]
      rw [hd.2, (hsame b hb).2]
      split <;> rfl⟩⟩
    have hsub : Sub σ (joinS σ σ1 L) := ⟨fun b e h => h, fun b e h => by simp only [joinS]; rw [h]; rfl⟩
    have hnew : ∀ m ∈ L, ∀ b, m.v.blk = some b → σ.own b = none ∧ (joinS σ σ1 L).own b = σ1.own b := fun m hm b hb => by
      have hn : σ.own b = none := by
        cases he : σ.own b with
        | none => rfl
        | some e =>
          exfalso
          have h1 := (hsame b (hold b e he)).2
          rcases (hG.own m hm).1.2 with ⟨h2, _⟩ | h2 | ⟨b', cap, h2, h3⟩
          · rw [h2] at hb; cases hb
          · rw [h2] at hb; cases hb
          · rw [h2] at hb; injection hb with hb; subst hb; rw [h1] at h3; cases h3
      refine ⟨hn, ?_⟩
      simp only [joinS]
      rw [hn, if_pos ⟨m, hm, hb⟩]; rfl
    have hsim2 : Sim (joinS σ σ1 L) w' := by
      refine ⟨fun b e hb => ?_, fun b e hb => ?_⟩
      · obtain ⟨v1, v2, v3⟩ := hs.var b e hb
        refine ⟨v1.step hst2 (hsame b v1.lt).1, v2, ?_⟩
        simp only [joinS]
        rw [v3, (hsame b v1.lt).2]
        split <;> rfl
      · cases he : σ.own b with
        | some e2 =>
          have : (joinS σ σ1 L).own b = some e2 := hsub.own b e2 he
          rw [this] at hb
          injection hb with hb
          subst hb
          have := hs.own b e2 he
          exact this.step hst2 (hsame b this.lt).1
        | none =>
          simp only [joinS] at hb
          rw [he] at hb
          by_cases hm : ∃ m ∈ L, m.v.blk = some b
          · rw [if_pos hm] at hb
            have hb1 : σ1.own b = some e := hb
            obtain ⟨cs, h1, h2, h3, h4⟩ := hsim.own b e hb1
            obtain ⟨m, hml, hmb⟩ := hm
            refine ⟨cs, h1, h2, h3, fun i c hic => ⟨(h4 i c hic).1, ?_⟩⟩
            rcases (hG.own m hml).1.2 with ⟨q2, _⟩ | q2 | ⟨b', cap, q2, q3⟩
            · rw [q2] at hmb; cases hmb
            · rw [q2] at hmb; cases hmb
            · rw [q2] at hmb; injection hmb with hmb; subst hmb
              rw [hb1] at q3
              injection q3 with q3
              subst q3
              exact hfree.2 m hml c (List.mem_of_getElem? hic) _ _ _ _ _ (h4 i c hic).2
          · rw [if_neg hm] at hb; cases hb
    refine ⟨v', r, joinS σ σ1 L, rfl, hst2, hsim2, hfree.1 _ _ _ _ _ hrv, hK r L _ hLv ?_⟩
    refine ⟨hF.sub.trans hsub, fun p hp => hF.var p hp, hF.nd, fun m hm => ?_, ?_, fun m hm => ?_⟩
    · rcases List.mem_append.1 hm with hm | hm
      · obtain ⟨h1, h2⟩ := (hG.own m hm).1
        refine ⟨⟨h1, h2.imp id (Or.imp id fun ⟨b, cap, h3, h4⟩ => ⟨b, cap, h3, by rw [(hnew m hm b (by rw [h3]; rfl)).2]; exact h4⟩)⟩, fun b hb => ?_⟩
        cases ht : τ.own b with
        | none => rfl
        | some e => have := hF.sub.own b e ht; rw [(hnew m hm b hb).1] at this; cases this
      · exact (hF.own m hm).sub hsub
    · rw [List.pairwise_append]
      refine ⟨hG.sep, hF.sep, fun m hm n hn => ?_⟩
      cases hb : m.v.blk with
      | none => exact .inl hb
      | some b =>
        refine .inr (fun he => ?_)
        have h1 := (hnew m hm b hb).1
        rcases (hF.own n hn).1.2 with ⟨h2, _⟩ | h2 | ⟨b', cap, h2, h3⟩
        · rw [hb, h2] at he; cases he
        · rw [hb, h2] at he; cases he
        · rw [hb, h2] at he; injection he with he; subst he; rw [h1] at h3; cases h3
    · rcases List.mem_append.1 hm with hm | hm
      · exact hG.wr m hm
      · exact hF.wr m hm
mutual
theorem LvF.noc {tI tF : TypeId} : ∀ {f : Fm} {r : List AV} {L : List OwnR}, LvF tI tF f r L → ∀ m ∈ L, m.sz ≠ 17
  | _, _, _, .mk h, m, hm => by
    rcases List.mem_cons.1 hm with rfl | hm
    · show (1 : Nat) ≠ 17
      decide
    rcases List.mem_cons.1 hm with rfl | hm
    · show (5 : Nat) ≠ 17
      decide
    exact h.noc m hm
theorem LvL.noc {tI tF : TypeId} : ∀ {fs : List Fm} {rs : List (List AV)} {L : List OwnR}, LvL tI tF fs rs L → ∀ m ∈ L, m.sz ≠ 17
  | _, _, _, .nil, m, hm => by cases hm
  | _, _, _, .cons h t, m, hm => by
    rcases List.mem_append.1 hm with hm | hm
    · exact h.noc m hm
    · exact t.noc m hm
end
/-- Two rows of live trees behind some numbers, handed on to be read only. -/
theorem stp_wk {τ σ : Sto} {bs : List (Nat × Ent)} {ms : List OwnR} (hF : Fx τ σ bs ms) {tI tF : TypeId} {a : Stp} {ru rr : List AV} {Lu Lr : List OwnR} (hu : LvF tI tF a.use ru Lu) (hr : LvF tI tF a.res rr Lr) (hmu : ∀ m ∈ Lu, m ∈ ms) (hmr : ∀ m ∈ Lr, m ∈ ms) : Wk σ (.agg ([.int .i64 a.id, .int .i64 a.rule, .int .i64 a.scope] ++ (ru ++ rr))) sto00 (.agg a.cells) := fun w v hw hv => by
  refine ⟨sto00_sim w, ?_, fun b _ => ⟨rfl, rfl⟩⟩
  have h1 := hu.rd hw fun m hm => (hF.own m (hmu m hm)).1
  have h2 := hr.rd hw fun m hm => (hF.own m (hmr m hm)).1
  have l1 := hu.len
  have l2 := hr.len
  have c1 : a.use.cells.length = 5 := Fm.cells_len _
  have c2 : a.res.cells.length = 5 := Fm.cells_len _
  have hce : a.cells = [.int .i64 a.id, .int .i64 a.rule, .int .i64 a.scope] ++ (a.use.cells ++ a.res.cells) := by rw [Stp.cells_eq, Fm.cells_eq a.use, Fm.cells_eq a.res]; rfl
  rw [hce]
  have key : ∀ (i : Nat) (c : AV), ([.int .i64 a.id, .int .i64 a.rule, .int .i64 a.scope] ++ (a.use.cells ++ a.res.cells) : List AV)[i]? = some c → c.isCell = true ∧ ∃ x, ([.int .i64 a.id, .int .i64 a.rule, .int .i64 a.scope] ++ (ru ++ rr) : List AV)[i]? = some x ∧ ∀ val, Rv σ w x val → Rv sto00 w c val := by
    intro i c hi
    rcases Nat.lt_or_ge i 3 with h3 | h3
    · rw [List.getElem?_append_left (by simpa using h3)] at hi
      rw [List.getElem?_append_left (by simpa using h3)]
      match i, hi with
      | 0, hi => injection hi with hi; subst hi; exact ⟨rfl, _, rfl, fun val h => by cases h; exact .int⟩
      | 1, hi => injection hi with hi; subst hi; exact ⟨rfl, _, rfl, fun val h => by cases h; exact .int⟩
      | 2, hi => injection hi with hi; subst hi; exact ⟨rfl, _, rfl, fun val h => by cases h; exact .int⟩
    · rw [List.getElem?_append_right (by simpa using h3)] at hi
      rw [List.getElem?_append_right (by simpa using h3)]
      have e3 : i - [AV.int .i64 a.id, AV.int .i64 a.rule, AV.int .i64 a.scope].length = i - 3 := rfl
      rw [e3] at hi ⊢
      rcases Nat.lt_or_ge (i - 3) 5 with h5 | h5
      · rw [List.getElem?_append_left (by omega)] at hi ⊢
        exact h1 _ c hi
      · rw [List.getElem?_append_right (by omega)] at hi ⊢
        rw [c1] at hi
        rw [l1]
        exact h2 _ c hi
  cases hv with
  | agg hl hi hr =>
    refine .agg (by simp only [List.length_append] at hl ⊢; omega) (fun c hc => ?_) (fun i c hic => ?_)
    · obtain ⟨i, hi⟩ := List.mem_iff_getElem?.1 hc
      exact (key i c hi).1
    · obtain ⟨_, x, hx, hv⟩ := key i c hic
      exact hv _ (hr i x hx)
end Go.Proofs.Shadow

