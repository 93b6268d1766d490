/- Every operation: what the abstract one says, the machine's does. -/
import Derived.Test.YtilkeeoinbndoaaShF
set_option linter.unusedVariables false
set_option linter.unusedSimpArgs false
namespace Go.Proofs.Shadow
open Go Go.RowKit
section
variable {P : Program} {n : Nat} {σ0 : Sto} {w0 : World}
theorem post_of {s s' : AS} {a : Act} {w w' : World} {K : AS → Prop} {v : AV} {cv : Value} {dst : Option Tmp} (hR : Rel P n σ0 w0 s a w) (hd : ∀ d, dst = some d → d < n) (hT : s'.T = s.T) (hs : Sim s'.σ w') (hst : Step s.σ w s'.σ w') (hv : Rv s'.σ w' v cv) (hK : K (s'.put dst v)) :
    Post P n σ0 w0 K (a.put dst cv) w' := by
  refine ⟨_, hK, by rw [put_σ]; exact hs, ?_, by rw [put_σ]; exact hR.step.trans hst, by rw [put_σ]; exact hR.tb.step hst⟩
  rw [put_σ]
  exact RelT.put (by rw [hT]; exact hR.tmps.step hst) hv dst hd
theorem alloc_ok {s : AS} {a : Act} {w : World} {K : AS → Prop} {Q : Exit → Act → World → Prop} {dst : Option Tmp} {as : List AV} {cs : Array Value} {ty : TypeId} (hR : Rel P n σ0 w0 s a w) (hd : ∀ d, dst = some d → d < n)
    (h : aAlloc (some as) ty s dst K) (hl : as.length = cs.size) (hi : ∀ c ∈ as, c.isCell = true) (hr : ∀ i c, as[i]? = some c → Rv s.σ w c (cs.getD i undef)) :
    Post P n σ0 w0 K (a.put dst (.pointer (some ⟨w.heap.size, 0, none⟩))) (w.alloc (.cells cs ty)) := by
  have hK := h w.heap.size hR.sim.fresh
  exact post_of (s' := ⟨s.T, s.σ.setVar w.heap.size ⟨ty, as.length, as⟩⟩) hR hd rfl (hR.sim.newVar ty cs as hl hi hr) (Step.new _ _) .ptr hK
theorem wp_of_run {o : Oper} {a : Act} {w w' : World} {cv : Value} {K : Act → World → Prop} {Q : Exit → Act → World → Prop} (hrun : (execOp a.eval o).run P w = .ok (.value cv) w') (h : K (a.put o.dst cv) w') : o.wp P a w K Q := by
  unfold Oper.wp
  rw [hrun]
  exact h
theorem avCells_RvC {σ : Sto} {w : World} {x : AV} {cx : Value} {cs : List AV} (hx : Rv σ w x cx) (h : avCells x = some cs) : RvC σ w cs cx.cells := by
  obtain ⟨h1, h2, h3, _⟩ := avCells_ok hx h
  exact ⟨h1.symm, h2, h3⟩
theorem row_spliced {σ : Sto} {w : World} {as cs : List AV} {cur vs : Array Value} {o : Nat} (h : RvC σ w as cur ∨ (as.length ≤ cur.size ∧ (∀ c ∈ as, c.isCell = true) ∧ ∀ i c, as[i]? = some c → Rv σ w c (cur.getD i undef))) (hv : RvC σ w cs vs) (hle : o + cs.length ≤ as.length) :
    (splice as o cs).length = as.length ∧ (∀ c ∈ splice as o cs, c.isCell = true) ∧ ∀ i c, (splice as o cs)[i]? = some c → Rv σ w c ((cur.toList.take o ++ vs.toList ++ cur.toList.drop (o + vs.toList.length)).toArray.getD i undef) := by
  have h' : as.length ≤ cur.size ∧ (∀ c ∈ as, c.isCell = true) ∧ ∀ i c, as[i]? = some c → Rv σ w c (cur.getD i undef) := h.elim (fun h => ⟨Nat.le_of_eq h.1, h.2.1, h.2.2⟩) id
  obtain ⟨h1, h2, h3⟩ := h'
  obtain ⟨v1, v2, v3⟩ := hv
  refine ⟨splice_length hle, fun c hc => (splice_mem hle hc).elim (h2 c) (v2 c), fun i c hic => ?_⟩
  have hil : i < as.length := by rw [← splice_length hle]; exact (List.getElem?_eq_some_iff.1 hic).1
  rw [splice_get hle] at hic
  have hget : (cur.toList.take o ++ vs.toList ++ cur.toList.drop (o + vs.toList.length)).toArray.getD i undef = (if o ≤ i ∧ i < o + cs.length then vs.toList[i - o]? else cur.toList[i]?).getD undef := by
    have hvl : vs.toList.length = cs.length := by simp [v1]
    rw [Array.getD_eq_getD_getElem?]
    congr 1
    simp only [List.getElem?_toArray, hvl]
    by_cases hi1 : i < o
    · rw [if_neg (by omega), List.append_assoc, List.getElem?_append_left (by simp; omega), List.getElem?_take, if_pos hi1]
    · by_cases hi2 : i < o + cs.length
      · rw [if_pos ⟨by omega, hi2⟩, List.append_assoc, List.getElem?_append_right (by simp; omega), List.getElem?_append_left (by simp; omega)]
        congr 1
        simp; omega
      · rw [if_neg (by omega), List.getElem?_append_right (by simp; omega), List.getElem?_drop]
        congr 1
        simp; omega
  rw [hget]
  split at hic
  · rename_i hh
    rw [if_pos hh]
    have := v3 _ c hic
    simpa using this
  · rename_i hh
    rw [if_neg hh]
    have := h3 i c hic
    simpa using this
theorem store_ok {s : AS} {a : Act} {w : World} {K : AS → Prop} {Q : Exit → Act → World → Prop} {dst : Option Tmp} {t : TypeId} {p x : AV} {cp cx : Value} (hR : Rel P n σ0 w0 s a w) (hd : ∀ d, dst = some d → d < n) (hp : Rv s.σ w p cp) (hx : Rv s.σ w x cx)
    (h : aStore (astore (tk P t) s.σ p x) s dst K) : ∃ w', (Instr.storeAt t cp cx).run P w = .ok () w' ∧ Post P n σ0 w0 K (a.put dst undef) w' := by
  unfold aStore at h
  cases hst : astore (tk P t) s.σ p x with
  | none => simp [hst] at h
  | some σ' =>
    simp only [hst] at h
    unfold astore at hst
    cases hk : tk P t with
    | none => simp [hk] at hst
    | some k =>
      obtain ⟨ag, k⟩ := k
      cases hc : avCells x with
      | none => simp [hk, hc] at hst
      | some cs =>
        simp only [hk, hc] at hst
        split at hst
        case isFalse => cases hst
        case isTrue hck =>
          have hsz : ∃ i, P.info? t = some i ∧ i.size = k := by
            unfold tk at hk
            cases hi : P.info? t with
            | none => simp [hi] at hk
            | some i =>
              cases hu : P.underlying t with
              | none => simp [hi, hu] at hk
              | some d => simp only [hi, hu, Option.some.injEq, Prod.mk.injEq] at hk; exact ⟨i, rfl, hk.2⟩
          obtain ⟨i, hi, hik⟩ := hsz
          have hv := avCells_RvC hx hc
          obtain ⟨_, _, _, hone⟩ := avCells_ok hx hc
          have hvl : cx.cells.toList.length = k := by rw [Array.length_toList, ← hv.1, hck]
          have hrun : ∀ (b o : Nat) (cur : Array Value) (ty : TypeId), w.heap[b]? = some (.cells cur ty (0, 0)) → o + k ≤ cur.size →
              (Instr.storeAt t (.pointer (some ⟨b, o, none⟩)) cx).run P w = .ok () (w.setRow b (cur.toList.take o ++ cx.cells.toList ++ cur.toList.drop (o + cx.cells.toList.length)).toArray) := by
            intro b o cur ty hb hle
            have := run_storeCells_at P b o ty cx.cells.toList 0 cur w hb (by omega) hone
            simp only [Nat.add_zero] at this
            have hne : ¬ cx.cells.size ≠ i.size := by rw [hik]; simpa using hvl
            simp only [Instr.storeAt, Instr.sureAddr, Sem.run_bind, Sem.run_pure, Result.andThen_ok, storeVar, sizeOf, typeInfo, program, Sem.run, hi]
            rw [if_neg hne]
            exact this
          cases hp <;> simp only at hst <;> try (cases hst; done)
          case ptr b o =>
            cases he : s.σ.var b with
            | none => simp [he] at hst
            | some e =>
              simp only [he, Option.bind_some] at hst
              split at hst
              case isFalse => cases hst
              case isTrue hle =>
                injection hst with hst
                subst hst
                obtain ⟨⟨cur, g1, g2, g3, g4⟩, g5, g6⟩ := hR.sim.var b e he
                have hcur : RvC s.σ w e.cells cur := ⟨by omega, fun c hc => by obtain ⟨j, hj⟩ := List.mem_iff_getElem?.1 hc; exact (g4 j c hj).1, fun j c hj => (g4 j c hj).2⟩
                obtain ⟨r1, r2, r3⟩ := row_spliced (o := o) (.inl hcur) hv (by omega)
                refine ⟨_, hrun b o cur e.ty g1 (by omega), ?_⟩
                obtain ⟨q1, q2⟩ := hR.sim.rowVar he _ _ (r1.trans g5) (by simp; omega) r2 r3
                exact post_of (s' := ⟨s.T, s.σ.setVar b ⟨e.ty, e.size, splice e.cells o cs⟩⟩) hR hd rfl q1 q2 undef_rv h
          case optr b o =>
            cases he : s.σ.own b with
            | none => simp [he] at hst
            | some e =>
              simp only [he, Option.bind_some] at hst
              split at hst
              case isFalse => cases hst
              case isTrue hle =>
                injection hst with hst
                subst hst
                obtain ⟨cur, g1, g2, g3, g4⟩ := hR.sim.own b e he
                obtain ⟨r1, r2, r3⟩ := row_spliced (o := o) (cur := cur) (.inr ⟨by omega, fun c hc => by obtain ⟨j, hj⟩ := List.mem_iff_getElem?.1 hc; exact (g4 j c hj).1, fun j c hj => (g4 j c hj).2⟩) hv (by omega)
                refine ⟨_, hrun b o cur e.ty g1 (by omega), ?_⟩
                obtain ⟨q1, q2⟩ := hR.sim.rowOwn he _ _ (by rw [r1]; exact g3) (by simp; omega) r2 r3
                exact post_of (s' := ⟨s.T, s.σ.setOwn b ⟨e.ty, e.size, splice e.cells o cs⟩⟩) hR hd rfl q1 q2 undef_rv h
theorem make_ok {s : AS} {a : Act} {w : World} {K : AS → Prop} {dst : Option Tmp} {t : TypeId} {l c : AV} {cl cc : Value} (hR : Rel P n σ0 w0 s a w) (hd : ∀ d, dst = some d → d < n) (hl : Rv s.σ w l cl) (hc : Rv s.σ w c cc)
    (h : aMake (se P t) ((se P t).bind fun k => tz P k.1) l c s dst K) : ∃ cv w', (Instr.makeSlice t cl cc).run P w = .ok cv w' ∧ Post P n σ0 w0 K (a.put dst cv) w' := by
  cases hk : se P t with
  | none => simp [hk, aMake] at h
  | some k =>
    obtain ⟨e, sz, by_⟩ := k
    obtain ⟨hu, it, hit, hsz, hby⟩ := se_spec hk
    simp only [hk, Option.bind_some] at h
    cases hz : tz P e with
    | none => simp [hz, aMake] at h
    | some z =>
      simp only [hz] at h
      unfold aMake at h
      cases hl <;> try (exact h.elim)
      cases hc <;> try (exact h.elim)
      rename_i k1 m k2 m2
      simp only at h
      obtain ⟨rfl, h0, h1, h2, h3, z', ⟨h5, h6⟩, h4⟩ := h
      obtain ⟨i, zc, hi, hzc, hzr⟩ := tz_spec (σ := s.σ) (w := w) hz
      rw [hit] at hi
      injection hi with hi
      subst hi
      have hrun := run_make (P := P) w t e it zc hu hit hzc k1 k2 m m h0 (Int.le_refl _) (by rw [hby, Int.mul_comm]; omega) (by omega)
      refine ⟨_, _, hrun, ?_⟩
      rw [hsz]
      have hzs : zc.cells.size = sz := by rw [← hzr.1, h3]
      have hms : (madeCells zc.cells (m.toNat * sz)).size = m.toNat * sz := by simp [madeCells]
      have hrep : ((List.replicate m.toNat z').flatten).length = m.toNat * sz := by
        rw [flatten_length (sz := sz) _ (fun x hx => by rw [List.eq_of_mem_replicate hx, h5]; exact h3)]; simp
      have hget : ∀ i c, ((List.replicate m.toNat z').flatten)[i]? = some c → c.isCell = true ∧ Rv s.σ w c ((madeCells zc.cells (m.toNat * sz)).getD i undef) := by
        intro i c hic
        have hil : i < m.toNat * sz := by rw [← hrep]; exact (List.getElem?_eq_some_iff.1 hic).1
        have hsp : 0 < sz := by
          rcases Nat.eq_zero_or_pos sz with h | h
          · rw [h] at hil; simp at hil
          · exact h
        have hdiv : i / sz < m.toNat := by rw [Nat.div_lt_iff_lt_mul hsp]; exact hil
        have hmod := Nat.mod_lt i hsp
        have heq : i / sz * sz + i % sz = i := Nat.div_add_mod' i sz
        have hfa := flatten_at (List.replicate m.toNat z') (i / sz) (i % sz) (fun x hx => by rw [List.eq_of_mem_replicate hx, h5]; exact h3) hmod
        rw [heq, hic] at hfa
        simp only [List.getElem?_replicate, hdiv, if_true, Option.bind_some] at hfa
        obtain ⟨c0, hc0, hcw, hcc⟩ := h6 _ c hfa.symm
        have hz2 := hcw _ _ _ (hzr.2.2 _ c0 hc0)
        refine ⟨hcc (hzr.2.1 c0 (List.mem_of_getElem? hc0)), ?_⟩
        have : (madeCells zc.cells (m.toNat * sz)).getD i undef = zc.cells.getD (i % sz) undef := by
          have hms' : i % sz < zc.cells.size := by omega
          simp only [madeCells]
          rw [Array.getD_eq_getD_getElem?, Array.getElem?_map, Array.getElem?_range, if_pos hil]
          simp only [Option.map_some, Option.getD_some, hzs]
          rw [getElem!_pos zc.cells (i % sz) hms', Array.getD_eq_getD_getElem?, Array.getElem?_eq_getElem hms']
          rfl
        rw [this]
        exact hz2
      have hK := h4 w.heap.size hR.sim.fresh
      have hnew := hR.sim.newOwn e (madeCells zc.cells (m.toNat * sz)) ((List.replicate m.toNat z').flatten) (by rw [hrep, hms]; exact Nat.le_refl _) (fun c hc => by obtain ⟨i, hi⟩ := List.mem_iff_getElem?.1 hc; exact (hget i c hi).1) (fun i c hic => (hget i c hic).2)
      rw [hms] at hnew
      exact post_of (s' := ⟨s.T, s.σ.setOwn w.heap.size ⟨e, m.toNat * sz, (List.replicate m.toNat z').flatten⟩⟩) hR hd rfl hnew (Step.newOwn _ _) (.ref (by omega) (Nat.le_refl _) (by omega)) hK
theorem Rv.len_cap {σ : Sto} {w : World} {x : AV} {v : Value} (h : Rv σ w x v) : ∀ A m cap, v = .slice A m cap → ((∃ c xs, x = .sl c xs) ∨ x = .nilsl ∨ ∃ b n cap, x = .ref b n cap) → m ≤ cap := by
  intro A m cap hv hx
  cases h <;> cases hv <;> first | omega | (exfalso; rcases hx with ⟨_, _, h⟩ | h | ⟨_, _, _, h⟩ <;> cases h)
set_option maxHeartbeats 1000000 in
theorem append_ok {s : AS} {a : Act} {w : World} {K : AS → Prop} {dst : Option Tmp} {t ty : TypeId} {x y : AV} {cx cy : Value} (hR : Rel P n σ0 w0 s a w) (hd : ∀ d, dst = some d → d < n) (hx : Rv s.σ w x cx) (hy : Rv s.σ w y cy)
    (hz : ∃ z, ((se P t).bind fun k => tz P k.1) = some z ∧ ∀ k, se P t = some k → z.length = k.2.1)
    (h : aAppend (se P t) x y s dst K) : ∃ cv w', (Builtin.append_ #[t, t] ty #[cx, cy]).run P w = .ok cv w' ∧ Post P n σ0 w0 K (a.put dst cv) w' := by
  cases hk : se P t with
  | none => simp [hk, aAppend] at h
  | some k =>
    obtain ⟨e, sz, by_⟩ := k
    obtain ⟨hu, it, hit, hsz, hby⟩ := se_spec hk
    rw [hk] at h hz
    obtain ⟨z, hz1, hz2⟩ := hz
    simp only [Option.bind_some] at hz1
    have hzl : z.length = sz := hz2 _ rfl
    obtain ⟨i, zc, hi, hzc, hzr⟩ := tz_spec (σ := s.σ) (w := w) hz1
    rw [hit] at hi
    injection hi with hi
    subst hi
    have hzs : zc.cells.size = sz := by rw [← hzr.1, hzl]
    obtain ⟨xs, ys, hs0, hb0, hox, hry, hbytes, hK⟩ := h
    obtain ⟨hyl, hyi, A, ycap, rfl, hyc⟩ := hry.cells hR.sim hs0 hy
    have hxrd : RdL s.σ sz x xs := ⟨hox.1, by
      rcases hox.2 with h | h | ⟨b, cap, h, h2⟩
      · exact .inl h
      · exact .inr (.inl ⟨true, h⟩)
      · exact .inr (.inr ⟨b, cap, _, h, h2, rfl⟩)⟩
    obtain ⟨hxl, hxi, xA, xcap, rfl, hxc⟩ := hxrd.cells hR.sim hs0 hx
    have hlen : (xs ++ ys).length = xs.length + ys.length := List.length_append
    have hsmall : xs.length + ys.length ≤ 140737488355328 := Nat.le_trans (Nat.le_mul_of_pos_right _ hb0) hbytes
    have hfl : (xs ++ ys).flatten.length = (xs.length + ys.length) * sz := by
      rw [flatten_length (sz := sz) _ (fun x hx => (List.mem_append.1 hx).elim (hox.1 x) (hry.1 x)), hlen]
    -- nothing is appended
    by_cases hy0 : ys = []
    · subst hy0
      have hrun : (Builtin.append_ #[t, t] ty #[.slice xA xs.length xcap, .slice A ([] : List (List AV)).length ycap]).run P w = .ok (.slice xA xs.length xcap) w := by
        have hcap : xs.length ≤ xcap := hx.len_cap _ _ _ rfl (by
          rcases hox.2 with ⟨h, _⟩ | h | ⟨b, cap, h, _⟩
          · exact .inr (.inl h)
          · exact .inl ⟨_, _, h⟩
          · exact .inr (.inr ⟨_, _, _, h⟩))
        cases A with
        | none => cases xA <;> simp [Builtin.append_, run_underlying hu, sizeOf, typeInfo, hit, Builtin.lenOf, Builtin.firstCells, hcap, storeCells]
        | some ad => cases xA <;> simp [Builtin.append_, run_underlying hu, sizeOf, typeInfo, hit, Builtin.lenOf, Builtin.firstCells, hcap, storeCells, loadCells, loadCellsFrom]
      refine ⟨_, _, hrun, ?_⟩
      have hpost : AppPost s.σ e sz x s.σ x (xs ++ []) := ⟨rfl, by rw [List.append_nil]; exact hox, fun b _ _ => rfl, fun b hb _ => hb, .inl rfl, .inl rfl⟩
      obtain ⟨v2, σ2, hw, hk⟩ := hK x s.σ hpost
      obtain ⟨k1, k2, _⟩ := hw.wk w _ hR.sim hx
      exact post_of (s' := ⟨s.T, σ2⟩) hR hd rfl k1 (Step.drop hw.dead) k2 hk
    · rcases hyc with hyc | ⟨ya, rfl, news, hn1, hn2, hn3, hn4⟩
      · exact absurd hyc hy0
      have hy1 : 0 < ys.length := by cases ys with | nil => exact absurd rfl hy0 | cons _ _ => simp
      -- what the new row's cells stand for
      have hcells : ∀ (olds : List Value), olds.length = xs.length * sz → (∀ i c, xs.flatten[i]? = some c → Rv s.σ w c (olds.getD i undef)) →
          ∀ i c, (xs ++ ys).flatten[i]? = some c → Rv s.σ w c ((olds ++ news).getD i undef) := by
        intro olds hol hor i c hic
        have hxf : xs.flatten.length = olds.length := by rw [flatten_length xs hox.1, hol]
        rw [List.flatten_append, List.getElem?_append] at hic
        rw [List.getD_eq_getElem?_getD, List.getElem?_append]
        split at hic
        · rename_i hlt
          rw [if_pos (by omega), ← List.getD_eq_getElem?_getD]
          exact hor i c hic
        · rename_i hge
          rw [if_neg (by omega), ← List.getD_eq_getElem?_getD, ← hxf]
          exact hn4 _ c hic
      have hall : ∀ c ∈ (xs ++ ys).flatten, c.isCell = true := by
        intro c hc
        rw [List.flatten_append] at hc
        exact (List.mem_append.1 hc).elim (hxi c) (hyi c)
      have hnl : news.length = ys.length * sz := hn1
      have hat' : ∀ {cv : Value} {r : Option Nat}, (cv.ownBlock = r ∨ cv.ownBlock = some w.heap.size) → cv.ownBlock = r ∨ ∃ g, cv.ownBlock = some g ∧ w.heap.size ≤ g := fun h => h.imp id (fun h => ⟨_, h, Nat.le_refl _⟩)
      -- the machine's append, told by ownsRow
      have fin : ∀ (cv : Value) (w' : World) (olds : List Value) (row : Option Nat), olds.length = xs.length * sz → (∀ i c, xs.flatten[i]? = some c → Rv s.σ w c (olds.getD i undef)) →
          w'.ownsRow 0 e sz cv (xs.length + ys.length) (olds ++ news) → w.grownBy w' row → (row = x.blk) → (cv.ownBlock = row ∨ ∃ g, cv.ownBlock = some g ∧ w.heap.size ≤ g) → Post P n σ0 w0 K (a.put dst cv) w' := by
        intro cv w' olds row hol hor hown hg hrow hblk
        have hsh : ∃ g cap, cv = .slice (some ⟨g, 0, none⟩) (xs.length + ys.length) cap ∧ xs.length + ys.length ≤ cap ∧ cap ≤ 9223372036854775807 := by
          rcases hown.2 with ⟨_, h0⟩ | ⟨g, cap, cur, rfl, _, _, hnc, hcm, _⟩
          · omega
          · exact ⟨g, cap, rfl, hnc, hcm⟩
        obtain ⟨g, cap, rfl, hgc, hcm⟩ := hsh
        have hgb : row = some g ∨ w.heap.size ≤ g := by
          rcases hblk with h | ⟨g', h, h2⟩
          · exact .inl (by simpa [Value.ownBlock] using h.symm)
          · simp only [Value.ownBlock, Option.some.injEq] at h
            subst h
            exact .inr h2
        have hrl : ∀ b, row = some b → s.σ.own b ≠ none := by
          intro b hb
          rw [hrow] at hb
          rcases hox.2 with ⟨rfl, _⟩ | rfl | ⟨b', cap', rfl, he⟩
          · simp [AV.blk] at hb
          · simp [AV.blk] at hb
          · simp [AV.blk] at hb
            subst hb
            rw [he]
            simp
        obtain ⟨σ', q1, q2, q3, q4, q5, q6⟩ := hR.sim.ownsNew hg hrl hown hgb (by rw [hfl, List.length_append, hol, hnl, Nat.add_mul]) hall (hcells olds hol hor)
        have hpost : AppPost s.σ e sz x σ' (.ref g (xs.length + ys.length) cap) (xs ++ ys) := by
          refine ⟨q1, ⟨fun x hx => (List.mem_append.1 hx).elim (hox.1 x) (hry.1 x), .inr (.inr ⟨g, cap, by rw [hlen], q2⟩)⟩, fun b hb hbn => ?_, fun b hb hbv => ?_, ?_, .inr (by simp [AV.blk])⟩
          · by_cases hbg : b = g
            · subst hbg
              rcases hgb with h | h
              · exact absurd (h.symm.trans hrow) hb
              · exfalso
                exact hbn (hR.sim.dead_ge h).2
            · exact q3 b hbg (by rw [hrow]; exact hb)
          · simp only [AV.blk, ne_eq, Option.some.injEq] at hbv
            by_cases hbr : row = some b
            · exact q4 b hbv hbr
            · rw [q3 b hbv (fun h => hbr h.symm)]
              exact hb
          · rcases hgb with h | h
            · left
              rw [← hrow, h]
              rfl
            · right
              intro b hb
              simp only [AV.blk, Option.some.injEq] at hb
              rw [← hb]
              exact hR.sim.dead_ge h
        obtain ⟨v2, σ2, hw, hk⟩ := hK _ σ' hpost
        obtain ⟨k1, k2, _⟩ := hw.wk w' _ q5 (.ref (by omega) hgc hcm)
        exact post_of (s' := ⟨s.T, σ2⟩) hR hd rfl k1 (q6.trans (Step.drop hw.dead)) k2 hk
      rcases hox.2 with ⟨hxe, hxs⟩ | hxe | ⟨b, cap, hxe, he⟩
      · subst hxe; subst hxs
        cases hx
        obtain ⟨cv, w', hrun, hown, hg, _, hat⟩ := run_append_own_at (P := P) w 0 t ty e it zc sz by_ hu hit hzc hsz hby hzs hs0 (.slice none 0 0) 0 [] (World.ownsRow_nil w 0 e sz) ya ys.length ycap news hn1 hn2 hn3 (by simp only [maxLen]; simp at hsmall; omega) (by simpa using hbytes) (Nat.zero_le _)
        refine ⟨cv, w', hrun, ?_⟩
        exact fin cv w' [] none (by simp) (by simp) (by simpa using hown) hg rfl (hat' hat)
      · subst hxe
        -- a slice whose capacity is its length: it grows
        have grows : ∀ (bx : Addr) (olds : List Value), xA = some bx → olds.length = xs.length * sz → (∀ j u, olds[j]? = some u → w.cell? (bx.add j) = some u) → (∀ i c, xs.flatten[i]? = some c → Rv s.σ w c (olds.getD i undef)) → xcap = xs.length →
            ∃ cv w', (Builtin.append_ #[t, t] ty #[.slice xA xs.length xcap, .slice (some ya) ys.length ycap]).run P w = .ok cv w' ∧ Post P n σ0 w0 K (a.put dst cv) w' := by
          intro bx olds hbx hol hoc hor hcap
          subst hbx; subst hcap
          obtain ⟨cv, w', hrun, hown, hg⟩ := run_append_arg_grows (P := P) w t ty e it zc sz by_ hu hit hzc hsz hby hzs hs0 bx xs.length xs.length olds hol hoc ya ys.length ycap news hn1 hn2 (by omega) (by simp only [maxLen]; omega) hbytes
          refine ⟨cv, w', hrun, fin cv w' olds none hol hor ?_ hg rfl ?_⟩
          · refine ⟨hown.1, hown.2.imp id ?_⟩
            rintro ⟨g, c, cur, h1, _, h2⟩
            exact ⟨g, c, cur, h1, Nat.zero_le _, h2⟩
          · right
            rcases hown.2 with ⟨_, h0⟩ | ⟨g, c, cur, rfl, hgb, hh, _⟩
            · omega
            · exact ⟨g, rfl, hgb⟩
        cases hx with
        | @slE _ _ _ hc =>
          have hcap := hc rfl
          subst hcap
          cases xA with
          | some bx => exact grows bx [] rfl (by simp) (by simp) (by simp) rfl
          | none =>
            obtain ⟨cv, w', hrun, hown, hg, _, hat⟩ := run_append_own_at (P := P) w 0 t ty e it zc sz by_ hu hit hzc hsz hby hzs hs0 (.slice none 0 0) 0 [] (World.ownsRow_nil w 0 e sz) ya ys.length ycap news hn1 hn2 hn3 (by simp only [maxLen]; simp at hsmall; omega) (by simpa using hbytes) (Nat.zero_le _)
            refine ⟨cv, w', hrun, ?_⟩
            exact fin cv w' [] none (by simp) (by simp) (by simpa using hown) hg rfl (hat' hat)
        | slC hne hn hle hcp hszx hc hdd hbl hcl hf hr =>
          rcases hxc with hxc | ⟨bx, hbx, olds, o1, o2, o3, o4⟩
          · exact absurd hxc hne
          · exact grows bx olds hbx o1 o2 o4 (hc rfl)
      · subst hxe
        cases hx with
        | ref hle hcp hcm =>
          rcases hxc with hxc | ⟨bx, hbx, olds, o1, o2, o3, o4⟩
          · subst hxc
            obtain ⟨cur, g1, g2, g3, g4⟩ := hR.sim.own b _ he
            have hown0 : w.ownsRow 0 e sz (.slice (some ⟨b, 0, none⟩) 0 xcap) 0 [] := ⟨by simp, .inr ⟨b, xcap, cur, rfl, Nat.zero_le _, g1, Nat.zero_le _, hcm, g2, by simp⟩⟩
            obtain ⟨cv, w', hrun, hown, hg, _, hat⟩ := run_append_own_at (P := P) w 0 t ty e it zc sz by_ hu hit hzc hsz hby hzs hs0 _ 0 [] hown0 ya ys.length ycap news hn1 hn2 hn3 (by simp only [maxLen]; simp at hsmall; omega) (by simpa using hbytes) (Nat.zero_le _)
            exact ⟨cv, w', hrun, fin cv w' [] (some b) (by simp) (by simp) (by simpa using hown) hg rfl (hat' hat)⟩
          · injection hbx with hbx
            subst hbx
            obtain ⟨cur, g1, g2, g3, g4⟩ := hR.sim.own b _ he
            have hcl : xs.length * sz ≤ cur.size := by
              have g3' : xs.flatten.length ≤ xcap * sz := g3
              have g2' : cur.size = xcap * sz := g2
              rw [flatten_length xs hox.1] at g3'
              omega
            have holds : cur.toList.take (xs.length * sz) = olds := by
              apply List.ext_getElem?
              intro j
              by_cases hj : j < xs.length * sz
              · have hjo : j < olds.length := by omega
                have := o2 j _ (List.getElem?_eq_getElem hjo)
                rw [add_at0, Nat.zero_add, cell_of_row w b j cur e (0, 0) g1] at this
                rw [List.getElem?_take, if_pos hj, List.getElem?_eq_getElem hjo]
                simpa using this
              · rw [List.getElem?_eq_none (by simp; omega), List.getElem?_eq_none (by omega)]
            have hown0 : w.ownsRow 0 e sz (.slice (some ⟨b, 0, none⟩) xs.length xcap) xs.length olds := ⟨o1, .inr ⟨b, xcap, cur, rfl, Nat.zero_le _, g1, hcp, hcm, g2, holds⟩⟩
            obtain ⟨cv, w', hrun, hown, hg, _, hat⟩ := run_append_own_at (P := P) w 0 t ty e it zc sz by_ hu hit hzc hsz hby hzs hs0 _ xs.length olds hown0 ya ys.length ycap news hn1 hn2 hn3 (by simp only [maxLen]; omega) hbytes (Nat.zero_le _)
            exact ⟨cv, w', hrun, fin cv w' olds (some b) o1 o4 hown hg rfl (hat' hat)⟩
end
end Go.Proofs.Shadow

