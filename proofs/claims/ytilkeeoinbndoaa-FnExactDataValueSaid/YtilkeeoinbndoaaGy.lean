/- Functions that are handed pointers to variables, closures, slices that they may append to: contracts, calls. -/
import Derived.Test.YtilkeeoinbndoaaGt
set_option linter.unusedVariables false
set_option linter.unusedSimpArgs false
namespace Go.Proofs.Shadow
open Go Go.RowKit
/-- σ without the blocks of ms. -/
noncomputable def strip (σ : Sto) (ms : List OwnR) : Sto := ⟨σ.var, fun b => @ite _ (∃ m ∈ ms, m.v.blk = some b) (Classical.propDecidable _) none (σ.own b)⟩
theorem strip_none {σ : Sto} {ms : List OwnR} {b : Nat} {m : OwnR} (hm : m ∈ ms) (hb : m.v.blk = some b) : (strip σ ms).own b = none := by
  simp only [strip]; rw [if_pos ⟨m, hm, hb⟩]
theorem strip_some {σ : Sto} {ms : List OwnR} {b : Nat} (h : ∀ m ∈ ms, m.v.blk ≠ some b) : (strip σ ms).own b = σ.own b := by
  simp only [strip]; rw [if_neg (fun ⟨m, hm, hb⟩ => h m hm hb)]
/-- τ: τ0, where the blocks of es hold what es says. -/
structure Tau (τ0 : Sto) (es : List (Nat × Ent)) (τ : Sto) : Prop where
  own : τ.own = τ0.own
  at' : ∀ p ∈ es, τ.var p.1 = some p.2
  off : ∀ b, (∀ p ∈ es, p.1 ≠ b) → τ.var b = τ0.var b
  live : ∀ p ∈ es, τ0.var p.1 ≠ none
  nd : (es.map (·.1)).Nodup
/-- What a caller must show: its variables es, its slices ms. -/
structure Pre (σ : Sto) (es : List (Nat × Ent)) (ms : List OwnR) : Prop where
  at' : ∀ p ∈ es, σ.var p.1 = some p.2
  nd : (es.map (·.1)).Nodup
  own : ∀ m ∈ ms, OwnL σ m.e m.sz m.v m.rows
  sep : ms.Pairwise Apart
  wr : ∀ m ∈ ms, m.rows = [] ∨ (m.v.blk ≠ none ∨ m.sz = 17)
theorem Pre.start {σ : Sto} {es : List (Nat × Ent)} {ms : List OwnR} (h : Pre σ es ms) : Fx (strip σ ms) σ [] ms ∧ Tau (strip σ ms) es (strip σ ms) := by
  refine ⟨⟨⟨fun b e hb => hb, fun b e hb => ?_⟩, by simp, by simp, fun m hm => ⟨h.own m hm, fun b hb => strip_none hm hb⟩, h.sep, h.wr⟩, ⟨rfl, h.at', fun _ _ => rfl, fun p hp => by
    rw [show (strip σ ms).var p.1 = σ.var p.1 from rfl, h.at' p hp]; simp, h.nd⟩⟩
  simp only [strip] at hb
  split at hb
  · cases hb
  · exact hb
theorem Tau.at {τ0 τ : Sto} {es : List (Nat × Ent)} (h : Tau τ0 es τ) (i : Nat) {b : Nat} {e : Ent} (hi : es[i]? = some (b, e)) : τ.var b = some e := h.at' _ (List.mem_of_getElem? hi)
section
variable {P : Program} {E : Nat → Prop} {τ0 τ σ : Sto} {es bs : List (Nat × Ent)} {ms : List OwnR}
theorem keys_set {l : List (Nat × Ent)} {i : Nat} {b : Nat} {e e' : Ent} (hi : l[i]? = some (b, e)) : (l.set i (b, e')).map (·.1) = l.map (·.1) := by
  have hil := (List.getElem?_eq_some_iff.1 hi).1
  rw [List.map_set]
  apply List.ext_getElem?
  intro j
  rw [List.getElem?_set]
  split
  · rename_i hj
    subst hj
    rw [List.getElem?_map, hi]
    simp [hil]
  · rfl
theorem Tau.set (h : Tau τ0 es τ) (i : Nat) {b : Nat} {e : Ent} (hi : es[i]? = some (b, e)) (e' : Ent) : Tau τ0 (es.set i (b, e')) (τ.setVar b e') := by
  have hil := (List.getElem?_eq_some_iff.1 hi).1
  have hk := keys_set (e' := e') hi
  refine ⟨h.own, fun p hp => ?_, fun x hx => ?_, fun p hp => ?_, by rw [hk]; exact h.nd⟩
  · obtain ⟨j, hj⟩ := List.mem_iff_getElem?.1 hp
    rw [List.getElem?_set] at hj
    split at hj
    · first | rw [if_pos hil] at hj | skip
      injection hj with hj; subst hj; simp [Sto.setVar]
    · rename_i hij
      have hne : p.1 ≠ b := fun he => hij ((List.getElem?_inj (by simpa using hil) h.nd).1 (by rw [List.getElem?_map, hi, List.getElem?_map, hj]; simp [he]))
      simp only [Sto.setVar]
      rw [if_neg hne]
      exact h.at' p (List.mem_of_getElem? hj)
  · have hxb : x ≠ b := fun he => hx (b, e') (List.mem_iff_getElem?.2 ⟨i, by simp [List.getElem?_set, hil]⟩) he.symm
    simp only [Sto.setVar]
    rw [if_neg hxb]
    refine h.off x (fun p hp => ?_)
    obtain ⟨j, hj⟩ := List.mem_iff_getElem?.1 hp
    by_cases hij : j = i
    · subst hij; rw [hi] at hj; injection hj with hj; subst hj; exact Ne.symm hxb
    · exact hx p (List.mem_iff_getElem?.2 ⟨j, by rw [List.getElem?_set, if_neg (Ne.symm hij)]; exact hj⟩)
  · have : p.1 ∈ (es.set i (b, e')).map (·.1) := List.mem_map.2 ⟨p, hp, rfl⟩
    rw [hk] at this
    obtain ⟨q, hq, he⟩ := List.mem_map.1 this
    rw [← he]
    exact h.live q hq
/-- A variable of the caller's is written. -/
theorem fx_storeT (hF : Fx τ σ bs ms) (hX : Tau τ0 es τ) (i : Nat) {b o k n : Nat} {ty : TypeId} {ag : Bool} {cells cs cells' : List AV} {v : AV} {T : Nat → AV} {K : AS → Prop} (hi : es[i]? = some (b, ⟨ty, n, cells⟩)) (hc : avCells v = some cs) (hl : cs.length = k) (hle : o + k ≤ cells.length) (hs : splice cells o cs = cells')
    (h : ∀ τ' σ', Fx τ' σ' bs ms → Tau τ0 (es.set i (b, ⟨ty, n, cells'⟩)) τ' → K ⟨T, σ'⟩) : aStore (astore (some (ag, k)) σ (.ptr b o) v) ⟨T, σ⟩ none K :=
  fx_storeX hF (hX.at i hi) hc hl hle hs (fun σ' hF' => h _ σ' hF' (hX.set i hi _))
/-- Behind a call that was handed the variables esL (ours), esX (our caller's) and the slices ms0. -/
theorem Fx.after {esL esX bsr xsr esL' esX' bn : List (Nat × Ent)} {ms0 msr ms' : List OwnR} {τ' σ' : Sto} (hF : Fx τ σ (esL ++ bsr) (ms0 ++ msr)) (hX : Tau τ0 (esX ++ xsr) τ) (hT : Tau (strip σ ms0) (esL' ++ esX') τ') (hG : Fx τ' σ' bn ms')
    (kL : esL'.map (·.1) = esL.map (·.1)) (kX : esX'.map (·.1) = esX.map (·.1)) : ∃ τ2, Tau τ0 (esX' ++ xsr) τ2 ∧ Fx τ2 σ' (bn ++ (esL' ++ bsr)) (ms' ++ msr) := by
  have keyL : ∀ p ∈ esL', p.1 ∈ esL.map (·.1) := fun p hp => by rw [← kL]; exact List.mem_map.2 ⟨p, hp, rfl⟩
  have keyX : ∀ p ∈ esX', p.1 ∈ esX.map (·.1) := fun p hp => by rw [← kX]; exact List.mem_map.2 ⟨p, hp, rfl⟩
  have keyX2 : ∀ p ∈ esX, p.1 ∈ esX'.map (·.1) := fun p hp => by rw [kX]; exact List.mem_map.2 ⟨p, hp, rfl⟩
  have liveX : ∀ p ∈ esX ++ xsr, τ.var p.1 ≠ none := fun p hp => by rw [hX.at' p hp]; simp
  have deadL : ∀ p ∈ esL ++ bsr, τ.var p.1 = none := fun p hp => ((hF.var p hp).2).1
  have neLX : ∀ p ∈ esL ++ bsr, ∀ q ∈ esX ++ xsr, p.1 ≠ q.1 := fun p hp q hq he => liveX q hq (he ▸ deadL p hp)
  have hown : ∀ b, τ.own b ≠ none → τ'.own b = τ.own b := fun b hb => by
    rw [hT.own]
    cases h : τ.own b with
    | none => exact absurd h hb
    | some e =>
      rw [strip_some (fun m hm he => by rw [(hF.own m (by simp [hm])).2 b he] at h; cases h)]
      exact hF.sub.own b e h
  -- what the call leaves of the variables that it was not handed
  have hoff : ∀ b e, (∀ p ∈ esL ++ esX, p.1 ≠ b) → σ.var b = some e → σ'.var b = some e := fun b e hb he => by
    refine hG.sub.var b e ?_
    rw [hT.off b (fun p hp hpb => ?_)]
    · exact he
    · rcases List.mem_append.1 hp with hp | hp
      · obtain ⟨q, hq, hqe⟩ := List.mem_map.1 (keyL p hp)
        exact hb q (by simp [hq]) (hqe.trans hpb)
      · obtain ⟨q, hq, hqe⟩ := List.mem_map.1 (keyX p hp)
        exact hb q (by simp [hq]) (hqe.trans hpb)
  -- the caller's store
  have hndX : (esX' ++ xsr).map (·.1) = (esX ++ xsr).map (·.1) := by rw [List.map_append, List.map_append, kX]
  let look : Nat → Option Ent := fun b => (esX'.find? (fun p => p.1 == b)).map (·.2)
  have hlook : ∀ p ∈ esX', look p.1 = some p.2 := fun p hp => by
    have hnd : (esX'.map (·.1)).Nodup := by rw [kX]; have := hX.nd; rw [List.map_append] at this; exact (List.nodup_append.1 this).1
    show ((esX'.find? (fun q => q.1 == p.1)).map (·.2)) = some p.2
    cases hf : esX'.find? (fun q => q.1 == p.1) with
    | none => have := List.find?_eq_none.1 hf p hp; simp at this
    | some q =>
      have h1 := List.mem_of_find?_eq_some hf
      have h2 := List.find?_some hf
      simp only [beq_iff_eq] at h2
      obtain ⟨i, hi⟩ := List.mem_iff_getElem?.1 h1
      obtain ⟨j, hj⟩ := List.mem_iff_getElem?.1 hp
      have hil := (List.getElem?_eq_some_iff.1 hi).1
      have : i = j := (List.getElem?_inj (by simpa using hil) hnd).1 (by rw [List.getElem?_map, hi, List.getElem?_map, hj]; simp [h2])
      subst this
      rw [hi] at hj
      injection hj with hj
      rw [hj]; rfl
  have hlook0 : ∀ b, (∀ p ∈ esX', p.1 ≠ b) → look b = none := fun b hb => by
    show ((esX'.find? (fun q => q.1 == b)).map (·.2)) = none
    rw [List.find?_eq_none.2 (fun p hp => by simpa using hb p hp)]; rfl
  let τ2 : Sto := ⟨fun b => match look b with | some e => some e | none => τ.var b, τ.own⟩
  have h2X : ∀ p ∈ esX', τ2.var p.1 = some p.2 := fun p hp => by show (match look p.1 with | some e => some e | none => τ.var p.1) = _; rw [hlook p hp]
  have h2o : ∀ b, (∀ p ∈ esX', p.1 ≠ b) → τ2.var b = τ.var b := fun b hb => by show (match look b with | some e => some e | none => τ.var b) = _; rw [hlook0 b hb]
  have hd2 : ∀ b, τ.dead b → τ2.dead b := fun b hb => ⟨by
    rw [h2o b (fun p hp he => by obtain ⟨q, hq, hqe⟩ := List.mem_map.1 (keyX p hp); exact liveX q (by simp [hq]) (by rw [hqe, he]; exact hb.1))]; exact hb.1, hb.2⟩
  have hkeep : ∀ p ∈ bsr, τ'.var p.1 = some p.2 := fun p hp => by
    rw [hT.off p.1 (fun q hq he => ?_)]
    · exact (hF.var p (by simp [hp])).1
    · rcases List.mem_append.1 hq with hq | hq
      · obtain ⟨q', hq', hqe⟩ := List.mem_map.1 (keyL q hq)
        have := hF.nd
        rw [List.map_append, List.nodup_append] at this
        exact this.2.2 q'.1 (List.mem_map.2 ⟨q', hq', rfl⟩) p.1 (List.mem_map.2 ⟨p, hp, rfl⟩) (hqe.trans he)
      · obtain ⟨q', hq', hqe⟩ := List.mem_map.1 (keyX q hq)
        exact neLX p (by simp [hp]) q' (by simp [hq']) (he.symm.trans hqe.symm)
  have hnew : ∀ p ∈ bn, τ2.dead p.1 := fun p hp => by
    have hd := (hG.var p hp).2
    have hx : ∀ q ∈ esX', q.1 ≠ p.1 := fun q hq he => by have := hT.at' q (by simp [hq]); rw [he, hd.1] at this; cases this
    refine hd2 _ ⟨?_, ?_⟩
    · cases h : τ.var p.1 with
      | none => rfl
      | some e =>
        exfalso
        have h1 := hF.sub.var _ _ h
        have h2 : τ'.var p.1 = some e := by
          rw [hT.off p.1 (fun q hq he => ?_)]
          · exact h1
          · rcases List.mem_append.1 hq with hq | hq
            · have := hT.at' q (by simp [hq]); rw [he, hd.1] at this; cases this
            · exact hx q hq he
        rw [hd.1] at h2; cases h2
    · cases h : τ.own p.1 with
      | none => rfl
      | some e => have h2 := hown p.1 (by rw [h]; simp); rw [hd.2, h] at h2; cases h2
  refine ⟨τ2, ⟨hX.own, fun p hp => ?_, fun b hb => ?_, fun p hp => ?_, by rw [hndX]; exact hX.nd⟩, ⟨⟨fun b e hb => ?_, fun b e hb => ?_⟩, fun p hp => ?_, ?_, fun m hm => ?_, ?_, fun m hm => (List.mem_append.1 hm).elim (hG.wr m) (fun h => hF.wr m (by simp [h]))⟩⟩
  · rcases List.mem_append.1 hp with hp | hp
    · exact h2X p hp
    · rw [h2o p.1 (fun q hq he => ?_)]
      · exact hX.at' p (by simp [hp])
      · obtain ⟨q', hq', hqe⟩ := List.mem_map.1 (keyX q hq)
        have := hX.nd
        rw [List.map_append, List.nodup_append] at this
        exact this.2.2 q'.1 (List.mem_map.2 ⟨q', hq', rfl⟩) p.1 (List.mem_map.2 ⟨p, hp, rfl⟩) (hqe.trans he)
  · rw [h2o b (fun p hp => hb p (by simp [hp]))]
    refine hX.off b (fun p hp => ?_)
    rcases List.mem_append.1 hp with hp | hp
    · obtain ⟨q, hq, hqe⟩ := List.mem_map.1 (keyX2 p hp)
      exact fun he => hb q (by simp [hq]) (hqe.trans he)
    · exact hb p (by simp [hp])
  · have : p.1 ∈ (esX' ++ xsr).map (·.1) := List.mem_map.2 ⟨p, hp, rfl⟩
    rw [hndX] at this
    obtain ⟨q, hq, hqe⟩ := List.mem_map.1 this
    rw [← hqe]; exact hX.live q hq
  · -- Sub, variables
    by_cases hbx : ∃ p ∈ esX', p.1 = b
    · obtain ⟨p, hp, rfl⟩ := hbx
      rw [h2X p hp] at hb
      rw [hG.sub.var p.1 p.2 (hT.at' p (by simp [hp]))]; exact hb
    · have hbx' : ∀ p ∈ esX', p.1 ≠ b := fun p hp he => hbx ⟨p, hp, he⟩
      rw [h2o b hbx'] at hb
      refine hoff b e (fun p hp he => ?_) (hF.sub.var b e hb)
      rcases List.mem_append.1 hp with hp | hp
      · rw [← he, deadL p (by simp [hp])] at hb; cases hb
      · obtain ⟨q, hq, hqe⟩ := List.mem_map.1 (keyX2 p hp)
        exact hbx' q hq (hqe.trans he)
  · exact hG.sub.own b e (by rw [hown b (by rw [show τ.own b = some e from hb]; simp)]; exact hb)
  · -- the local variables
    rcases List.mem_append.1 hp with hp | hp
    · exact ⟨(hG.var p hp).1, hnew p hp⟩
    rcases List.mem_append.1 hp with hp | hp
    · refine ⟨hG.sub.var _ _ (hT.at' p (by simp [hp])), hd2 _ ?_⟩
      obtain ⟨q, hq, hqe⟩ := List.mem_map.1 (keyL p hp)
      rw [← hqe]; exact (hF.var q (by simp [hq])).2
    · refine ⟨hoff _ _ (fun q hq he => ?_) (hF.var p (by simp [hp])).1, hd2 _ (hF.var p (by simp [hp])).2⟩
      rcases List.mem_append.1 hq with hq | hq
      · have := hF.nd
        rw [List.map_append, List.nodup_append] at this
        exact this.2.2 q.1 (List.mem_map.2 ⟨q, hq, rfl⟩) p.1 (List.mem_map.2 ⟨p, hp, rfl⟩) he
      · exact neLX p (by simp [hp]) q (by simp [hq]) he.symm
  · rw [List.map_append, List.nodup_append]
    refine ⟨hG.nd, by rw [List.map_append, kL, ← List.map_append]; exact hF.nd, fun a ha b hb he => ?_⟩
    obtain ⟨p, hp, rfl⟩ := List.mem_map.1 ha
    obtain ⟨q, hq, rfl⟩ := List.mem_map.1 hb
    have hd := ((hG.var p hp).2).1
    rcases List.mem_append.1 hq with hq | hq
    · rw [he, hT.at' q (by simp [hq])] at hd; cases hd
    · rw [he, hkeep q hq] at hd; cases hd
  · rcases List.mem_append.1 hm with hm | hm
    · have := hG.own m hm
      refine ⟨this.1, fun b hb => ?_⟩
      show τ.own b = none
      cases h : τ.own b with
      | none => rfl
      | some e => have h2 := hown b (by rw [h]; simp); rw [this.2 b hb, h] at h2; cases h2
    · have h1 := hF.own m (by simp [hm])
      refine ⟨⟨h1.1.1, h1.1.2.imp id (Or.imp id (fun ⟨b, cap, h2, h3⟩ => ⟨b, cap, h2, ?_⟩))⟩, h1.2⟩
      refine hG.sub.own b _ ?_
      rw [hT.own, strip_some (fun m0 hm0 he => ?_)]
      · exact h3
      · have := hF.sep
        rw [List.pairwise_append] at this
        rcases this.2.2 m0 hm0 m hm with h4 | h4
        · rw [h4] at he; cases he
        · exact h4 (by rw [he, h2]; rfl)
  · rw [List.pairwise_append]
    refine ⟨hG.sep, ?_, fun m' hm' m hm => ?_⟩
    · have := hF.sep; rw [List.pairwise_append] at this; exact this.2.1
    · cases hb : m'.v.blk with
      | none => exact .inl hb
      | some b =>
        right
        rw [hb]
        intro he
        have h1 := (hG.own m' hm').2 b hb
        have h2 := hF.own m (by simp [hm])
        rcases h2.1.2 with ⟨h3, _⟩ | h3 | ⟨b', cap, h3, h4⟩
        · rw [h3] at he; cases he
        · rw [h3] at he; cases he
        · rw [h3] at he
          simp only [AV.blk, Option.some.injEq] at he
          subst he
          rw [hT.own, strip_some (fun m0 hm0 he0 => ?_), h4] at h1
          · cases h1
          · have := hF.sep
            rw [List.pairwise_append] at this
            rcases this.2.2 m0 hm0 m hm with h5 | h5
            · rw [h5] at he0; cases he0
            · exact h5 (by rw [he0, h3]; rfl)
theorem Fx.pre {esL esX bsr xsr : List (Nat × Ent)} {ms0 msr : List OwnR} (hF : Fx τ σ (esL ++ bsr) (ms0 ++ msr)) (hX : Tau τ0 (esX ++ xsr) τ) : Pre σ (esL ++ esX) ms0 := by
  refine ⟨fun p hp => ?_, ?_, fun m hm => (hF.own m (by simp [hm])).1, ?_, fun m hm => hF.wr m (by simp [hm])⟩
  · rcases List.mem_append.1 hp with hp | hp
    · exact (hF.var p (by simp [hp])).1
    · exact hF.sub.var _ _ (hX.at' p (by simp [hp]))
  · rw [List.map_append, List.nodup_append]
    have h1 := hF.nd
    have h2 := hX.nd
    rw [List.map_append, List.nodup_append] at h1 h2
    refine ⟨h1.1, h2.1, fun a ha b hb he => ?_⟩
    obtain ⟨p, hp, rfl⟩ := List.mem_map.1 ha
    obtain ⟨q, hq, rfl⟩ := List.mem_map.1 hb
    have h3 := ((hF.var p (by simp [hp])).2).1
    rw [he, hX.at' q (by simp [hq])] at h3
    cases h3
  · have := hF.sep; rw [List.pairwise_append] at this; exact this.1
/-- The same facts, where nothing of our caller's is in hand. -/
theorem Tau.none (σ : Sto) : Tau σ [] σ := ⟨rfl, by simp, fun _ _ => rfl, by simp, by simp⟩
theorem Fx.self (τ : Sto) : Fx τ τ [] [] := Fx.refl τ
theorem gRet {rs : List ResultVar} {T : Nat → AV} {vs : List AV} {Q : AV → Sto → Prop} {r : AV} {σ' : Sto} (h : aresL P ⟨T, σ⟩ rs = some vs) (hw : Wk σ (packed vs) σ' r) (hq : Q r σ') : aRet P rs Q ⟨T, σ⟩ := ⟨vs, h, r, σ', hw, hq⟩
/-- Rows that are made, all alike. -/
theorem fx_make {α : Type} {g : α → List AV} (z : α) (hF : Fx τ σ bs ms) {zc : List AV} {e : TypeId} {sz by_ : Nat} {k : Int} {l : List α} {T : Nat → AV} {d : Tmp} {K : AS → Prop} (hz : zc.length = sz) (hs : ∀ x, (g x).length = sz) (hw : WkVL zc (g z)) (hl : lmake by_ z k = some l)
    (h : ∀ b σ', Fx τ σ' bs (⟨.ref b k.toNat k.toNat, e, sz, rws g l⟩ :: ms) → K ⟨upd T d (.ref b k.toNat k.toNat), σ'⟩) : aMake (some (e, sz, by_)) (some zc) (.int .i64 k) (.int .i64 k) ⟨T, σ⟩ (some d) K := by
  have hwc : WkC zc (g z) := ⟨hw.length.symm, fun i c' hc => by obtain ⟨a, h1, h2, h3⟩ := hw.get i c' hc; exact ⟨a, h1, h2, h3⟩⟩
  unfold lmake at hl
  split at hl
  · rename_i hh
    injection hl with hl
    subst hl
    refine ⟨rfl, hh.1, hh.2.1, hh.2.2, hz, g z, hwc, fun b hb => h b _ ?_⟩
    have hrows : rws g (List.replicate k.toNat z) = List.replicate k.toNat (g z) := by simp [rws]
    refine ⟨hF.sub.setOwn (hF.sub.dead hb).2 _, fun p hp => hF.var p hp, hF.nd, ?_, ?_, fun m hm => by
      rcases List.mem_cons.1 hm with rfl | hm
      · exact .inr (by simp [AV.blk])
      · exact hF.wr m hm⟩
    · intro m hm
      rcases List.mem_cons.1 hm with rfl | hm
      · refine ⟨⟨rws_mem hs _, .inr (.inr ⟨b, k.toNat, ?_, ?_⟩)⟩, fun b' hb' => ?_⟩
        · simp [rws_len]
        · simp [Sto.setOwn, hrows]
        · simp only [AV.blk, Option.some.injEq] at hb'; subst hb'; exact (hF.sub.dead hb).2
      · have h1 := hF.own m hm
        refine ⟨⟨h1.1.1, h1.1.2.imp id (Or.imp id (fun ⟨b', cap, h2, h3⟩ => ⟨b', cap, h2, ?_⟩))⟩, h1.2⟩
        simp only [Sto.setOwn]
        rw [if_neg (fun he => by subst he; rw [hb.2] at h3; cases h3)]
        exact h3
    · refine List.pairwise_cons.2 ⟨fun m hm => ?_, hF.sep⟩
      right
      intro he
      have h1 := Mine.app0 (hF.own m hm) b (by rw [← he]; rfl)
      exact h1 hb
  · cases hl
theorem aidx_own {e : TypeId} {sz by_ b n c : Nat} {k : IntKind} {i : Int} {α : Type} {l : List α} {x : α} (hn : n = l.length) (h : idx l i = some x) : aidx σ (some (e, sz, by_)) (.ref b n c) (.int k i) = some (.optr b (i.toNat * sz)) := by
  obtain ⟨h0, h1, _⟩ := idx_lt h
  simp only [aidx]
  rw [if_pos ⟨h0, by omega⟩]
theorem own_at (hF : Fx τ σ bs ms) (j : Nat) {b n c : Nat} {e : TypeId} {sz : Nat} {rows : List (List AV)} (hj : ms[j]? = some ⟨.ref b n c, e, sz, rows⟩) : n = rows.length ∧ σ.own b = some ⟨e, c * sz, rows.flatten⟩ ∧ ∀ r ∈ rows, r.length = sz := by
  have h := (hF.mine j hj).1
  rcases h.2 with ⟨h1, _⟩ | h1 | ⟨b', cap, h1, h2⟩
  · cases h1
  · cases h1
  · injection h1 with h3 h4 h5
    subst h3; subst h5
    exact ⟨h4, h2, h.1⟩
/-- A slice of ours that has an element lies in a block. -/
theorem Fx.ref (hF : Fx τ σ bs ms) (j : Nat) {v : AV} {e : TypeId} {sz : Nat} {α : Type} {g : α → List AV} {l : List α} {x : α} {i : Int} (hj : ms[j]? = some ⟨v, e, sz, rws g l⟩) (h : idx l i = some x) (hne : sz ≠ 17 := by decide) : ∃ b c, v = .ref b l.length c := by
  have h1 := hF.mine j hj
  have h2 := hF.wr _ (List.mem_of_getElem? hj)
  obtain ⟨_, h3, _⟩ := idx_lt h
  have hb : v.blk ≠ none := h2.elim (fun h4 => by simp only at h4; have := congrArg List.length h4; rw [rws_len] at this; simp at this; subst this; simp at h3) (fun h4 => h4.elim id fun h5 => absurd h5 hne)
  rcases h1.1.2 with ⟨h4, _⟩ | h4 | ⟨b, cap, h4, _⟩
  · simp only at h4; rw [h4] at hb; exact absurd rfl hb
  · simp only at h4; rw [h4] at hb; exact absurd rfl hb
  · exact ⟨b, cap, by simp only at h4; rw [h4, rws_len]⟩
theorem aload_own (hF : Fx τ σ bs ms) (j : Nat) {ag : Bool} {k b n c o : Nat} {e : TypeId} {sz : Nat} {α : Type} {g : α → List AV} {l : List α} {x : α} {i : Int} {p : Nat} {v : AV} (hp : p = i.toNat * sz + o) (hs : ∀ x, (g x).length = sz) (hj : ms[j]? = some ⟨.ref b n c, e, sz, rws g l⟩) (h : idx l i = some x) (hk : o + (if ag then k else 1) ≤ sz) (hv : (seg (g x) o (if ag then k else 1)).bind (asVal ag) = some v) :
    aload σ (some (ag, k)) (.optr b p) = some v := by
  subst hp
  obtain ⟨h0, h1, h2⟩ := own_at hF j hj
  obtain ⟨i0, i1, i2⟩ := idx_lt h
  have hfl := flatten_length (rws g l) h2
  rw [rws_len] at hfl
  have hle : i.toNat * sz + sz ≤ l.length * sz := by
    have : (i.toNat + 1) * sz ≤ l.length * sz := Nat.mul_le_mul_right sz i1
    rwa [Nat.add_mul, Nat.one_mul] at this
  have hm : mem σ (.optr b (i.toNat * sz + o)) = some ((rws g l).flatten.drop (i.toNat * sz + o)) := by
    simp only [mem, h1, Option.bind_some]
    rw [if_pos (by rw [hfl]; omega)]
  have hq : ∀ m : Nat, o + m ≤ sz → seg ((rws g l).flatten.drop (i.toNat * sz + o)) 0 m = seg (g x) o m := by
   intro m hm'
   unfold seg
   rw [if_pos (by rw [List.length_drop, hfl]; omega), if_pos (by rw [hs]; exact hm')]
   congr 1
   apply List.ext_getElem?
   intro q
   simp only [List.drop_zero, List.getElem?_take, List.getElem?_drop]
   split
   · rename_i hq
     have := flatten_at (rws g l) i.toNat (o + q) (fun r hr => h2 r hr) (by omega)
     rw [Nat.add_assoc, this]
     have hx : (rws g l)[i.toNat]? = some (g x) := by simp [rws, i2]
     rw [hx]; rfl
   · rfl
  simp only [aload, hm, Option.bind_some, hq _ hk]
  exact hv
theorem afield_optr (f b o : Nat) : afield (some f) (.optr b o) = some (.optr b (o + f)) := (rfl)
theorem splice_row {sz : Nat} {rows : List (List AV)} {q o : Nat} {x cs : List AV} (h2 : ∀ r ∈ rows, r.length = sz) (hq : rows[q]? = some x) (hle : o + cs.length ≤ sz) : splice rows.flatten (q * sz + o) cs = (rows.set q (splice x o cs)).flatten := by
  have hql := (List.getElem?_eq_some_iff.1 hq).1
  have hx := h2 x (List.mem_of_getElem? hq)
  have hfl := flatten_length rows h2
  have hle2 : q * sz + sz ≤ rows.length * sz := by
    have : (q + 1) * sz ≤ rows.length * sz := Nat.mul_le_mul_right sz hql
    rwa [Nat.add_mul, Nat.one_mul] at this
  have hrow : (splice x o cs).length = sz := by rw [splice_length (by omega)]; exact hx
  have hr : rows.set q x = rows := by
    apply List.ext_getElem?
    intro j
    rw [List.getElem?_set]
    split
    · rename_i h; subst h; first | (rw [if_pos hql, hq]; done) | (rw [hq]; done)
    · rfl
  rw [← set_rows (splice x o cs) hrow rows q h2 hql]
  conv => lhs; rw [← hr, ← set_rows x hx rows q h2 hql]
  generalize hA : rows.flatten.take (q * sz) = A
  have hAl : A.length = q * sz := by rw [← hA, List.length_take, hfl]; omega
  have hd : q * sz + x.length = q * sz + (splice x o cs).length := by rw [hx, hrow]
  rw [hd]
  generalize rows.flatten.drop (q * sz + (splice x o cs).length) = B
  simp only [splice_eq]
  rw [← hAl, List.append_assoc A x B, List.take_length_add_append, List.take_append, Nat.add_assoc, List.drop_length_add_append, List.drop_append]
  have e1 : o - x.length = 0 := by omega
  have e2 : o + cs.length - x.length = 0 := by omega
  rw [e1, e2]
  simp
theorem Fx.oset (hF : Fx τ σ bs ms) (j : Nat) {b n c : Nat} {e : TypeId} {sz : Nat} {rows rows' : List (List AV)} (hj : ms[j]? = some ⟨.ref b n c, e, sz, rows⟩) (hl : rows'.length = rows.length) (hr : ∀ r ∈ rows', r.length = sz) : Fx τ (σ.setOwn b ⟨e, c * sz, rows'.flatten⟩) bs (ms.set j ⟨.ref b n c, e, sz, rows'⟩) := by
  obtain ⟨h0, h1, h2⟩ := own_at hF j hj
  have hm := hF.mine j hj
  have hjl := (List.getElem?_eq_some_iff.1 hj).1
  refine ⟨hF.sub.setOwn (hm.2 b rfl) _, fun p hp => hF.var p hp, hF.nd, fun m hm' => ?_, ?_, fun m hm' => by
    obtain ⟨q, hq⟩ := List.mem_iff_getElem?.1 hm'
    rw [List.getElem?_set] at hq
    split at hq
    · first | rw [if_pos hjl] at hq | skip
      injection hq with hq
      subst hq
      exact .inr (by simp [AV.blk])
    · exact hF.wr m (List.mem_of_getElem? hq)⟩
  · obtain ⟨q, hq⟩ := List.mem_iff_getElem?.1 hm'
    rw [List.getElem?_set] at hq
    split at hq
    · first | rw [if_pos hjl] at hq | skip
      injection hq with hq
      subst hq
      exact ⟨⟨hr, .inr (.inr ⟨b, c, by rw [h0, hl], by simp [Sto.setOwn]⟩)⟩, hm.2⟩
    · rename_i hqj
      have h3 := hF.mine q hq
      refine ⟨⟨h3.1.1, h3.1.2.imp id (Or.imp id (fun ⟨b', cap, h4, h5⟩ => ⟨b', cap, h4, ?_⟩))⟩, h3.2⟩
      simp only [Sto.setOwn]
      rw [if_neg (fun he => ?_)]
      · exact h5
      · subst he
        have hql := (List.getElem?_eq_some_iff.1 hq).1
        have hap : Apart m ⟨.ref b' n c, e, sz, rows⟩ := by
          rcases Nat.lt_or_ge q j with hlt | hge
          · have := List.pairwise_iff_getElem.1 hF.sep q j hql hjl hlt
            rw [(List.getElem?_eq_some_iff.1 hq).2, (List.getElem?_eq_some_iff.1 hj).2] at this; exact this
          · have := List.pairwise_iff_getElem.1 hF.sep j q hjl hql (by omega)
            rw [(List.getElem?_eq_some_iff.1 hq).2, (List.getElem?_eq_some_iff.1 hj).2] at this; exact this.symm
        rcases hap with h6 | h6
        · rw [h4] at h6; cases h6
        · exact h6 (by rw [h4]; rfl)
  · rw [List.pairwise_iff_getElem]
    intro a b2 hal hbl hab
    simp only [List.length_set] at hal hbl
    have hpa := List.pairwise_iff_getElem.1 hF.sep a b2 hal hbl hab
    rw [List.getElem_set, List.getElem_set]
    have hjv : (ms[j]'hjl).v = .ref b n c := by rw [(List.getElem?_eq_some_iff.1 hj).2]
    split
    · rename_i hja; subst hja
      split
      · omega
      · unfold Apart at hpa ⊢; rw [hjv] at hpa; exact hpa
    · split
      · rename_i hjb; subst hjb; unfold Apart at hpa ⊢; rw [hjv] at hpa; exact hpa
      · exact hpa
/-- A row of ours is written. -/
theorem fx_oset (hF : Fx τ σ bs ms) (j : Nat) {ag : Bool} {k b n c o : Nat} {e : TypeId} {sz : Nat} {α : Type} {g : α → List AV} {l : List α} {x : α} {i : Int} {p : Nat} {v : AV} {cs : List AV} {T : Nat → AV} {K : AS → Prop} (y : α) (hs : ∀ x, (g x).length = sz) (hp : p = i.toNat * sz + o) (hj : ms[j]? = some ⟨.ref b n c, e, sz, rws g l⟩) (h : idx l i = some x)
    (hc : avCells v = some cs) (hl : cs.length = k) (hle : o + k ≤ sz) (hy : splice (g x) o cs = g y) (hK : ∀ σ', Fx τ σ' bs (ms.set j ⟨.ref b n c, e, sz, rws g (l.set i.toNat y)⟩) → K ⟨T, σ'⟩) : aStore (astore (some (ag, k)) σ (.optr b p) v) ⟨T, σ⟩ none K := by
  subst hp
  obtain ⟨h0, h1, h2⟩ := own_at hF j hj
  obtain ⟨i0, i1, i2⟩ := idx_lt h
  have hfl := flatten_length (rws g l) h2
  rw [rws_len] at hfl
  have hle2 : i.toNat * sz + sz ≤ l.length * sz := by
    have : (i.toNat + 1) * sz ≤ l.length * sz := Nat.mul_le_mul_right sz i1
    rwa [Nat.add_mul, Nat.one_mul] at this
  have hx : (rws g l)[i.toNat]? = some (g x) := by simp [rws, i2]
  have hset : rws g (l.set i.toNat y) = (rws g l).set i.toNat (g y) := by simp [rws, List.map_set]
  have e1 : astore (some (ag, k)) σ (.optr b (i.toNat * sz + o)) v = some (σ.setOwn b ⟨e, c * sz, (rws g (l.set i.toNat y)).flatten⟩) := by
    simp only [astore, hc, h1, Option.bind_some]
    rw [if_pos hl, if_pos (by rw [hfl]; omega), splice_row h2 hx (by omega), hy, hset]
  rw [e1]
  refine hK _ ?_
  exact hF.oset j hj (by simp [rws_len]) (rws_mem hs _)
theorem Fx.drop (h : Fx τ σ bs ms) (i j : Nat) : Fx τ σ (bs.drop i) (ms.drop j) := h.less (List.drop_sublist i _) (List.drop_sublist j _)
theorem atOp_list (l : List Oper) (i : Nat) : atOp l.toArray i = (l[i]?).getD default := by
  simp [atOp]
/-- A slice of ours is plain data from now on. -/
theorem Fx.freeze (hF : Fx τ σ bs ms) (j : Nat) {v : AV} {e : TypeId} {sz : Nat} {rows : List (List AV)} (hj : ms[j]? = some ⟨v, e, sz, rows⟩) : ∃ σf, Fx τ σf bs (ms.eraseIdx j) ∧ Wk σ v σf (.sl false rows) ∧ Sub σf σ ∧ σf.var = σ.var := by
  have hm := hF.mine j hj
  obtain ⟨σf, h1, h2, h3, h4, h5⟩ := hm.freeze hF.sub
  have hjl := (List.getElem?_eq_some_iff.1 hj).1
  have hjv := (List.getElem?_eq_some_iff.1 hj).2
  refine ⟨σf, ⟨h1, fun p hp => by rw [h3]; exact hF.var p hp, hF.nd, fun m hm' => ?_, hF.sep.sublist (List.eraseIdx_sublist _ _), fun m hm' => hF.wr m ((List.eraseIdx_sublist _ _).subset hm')⟩, h5, h2, h3⟩
  obtain ⟨k, hk⟩ := List.mem_iff_getElem?.1 hm'
  rw [List.getElem?_eraseIdx] at hk
  have hap : ∀ q m, q ≠ j → ms[q]? = some m → Mine τ σf m.e m.sz m.v m.rows := fun q m hq hqm => by
    have hql := (List.getElem?_eq_some_iff.1 hqm).1
    have hqv := (List.getElem?_eq_some_iff.1 hqm).2
    have ha : Apart m ⟨v, e, sz, rows⟩ := by
      rcases Nat.lt_or_ge q j with hlt | hge
      · have := List.pairwise_iff_getElem.1 hF.sep q j hql hjl hlt
        rwa [hqv, hjv] at this
      · have := List.pairwise_iff_getElem.1 hF.sep j q hjl hql (by omega)
        rw [hqv, hjv] at this; exact this.symm
    have hmq := hF.mine q hqm
    refine ⟨⟨hmq.1.1, hmq.1.2.imp id (Or.imp id (fun ⟨b, cap, h6, h7⟩ => ⟨b, cap, h6, ?_⟩))⟩, hmq.2⟩
    rw [h4 b (fun he => ?_)]
    · exact h7
    · rcases ha with h8 | h8
      · rw [h6] at h8; cases h8
      · exact h8 (by rw [h6]; exact he)
  split at hk
  · exact hap k m (by omega) hk
  · exact hap (k + 1) m (by omega) hk
theorem Tau.eq {τ0 τ : Sto} (h : Tau τ0 [] τ) : τ = τ0 := by
  obtain ⟨h1, _, h3, _, _⟩ := h
  cases τ; cases τ0
  simp only at h1 h3
  subst h1
  congr 1
  funext b
  exact h3 b (by simp)
theorem Fx.kept {E : Nat → Prop} {σ τ' σ' : Sto} {es : List (Nat × Ent)} {ms0 ms' : List OwnR} (hT : Tau (strip σ ms0) es τ') {bn : List (Nat × Ent)} (hG : Fx τ' σ' bn ms') (hE : ∀ p ∈ es, E p.1) : Keep E σ σ' := fun b e hb he =>
  hG.sub.var b e (by rw [hT.off b (fun p hp h => hb (h ▸ hE p hp))]; exact he)
theorem kp_self {E : Nat → Prop} {K : AS → Prop} (T : Nat → AV) (σ : Sto) : kp E σ K ⟨T, σ⟩ = K ⟨T, σ⟩ := propext ⟨fun h => h.2, fun h => ⟨fun _ _ _ h => h, h⟩⟩
theorem aconv_b1 (c : Bool) (n : Int) : aconv none true true (.sl c [[.int .u8 n]]) = some (.str (strOfNums [n])) := (rfl)
end
attribute [go_sem] kp_self afield_optr aconv_b1 atOp_list Option.getD_some
end Go.Proofs.Shadow

