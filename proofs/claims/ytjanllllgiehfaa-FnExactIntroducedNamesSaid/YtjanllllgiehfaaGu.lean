/- Open regions that hold a call and allocs in either order. -/
import Derived.Test.YtjanllllgiehfaaGw
set_option linter.unusedVariables false
set_option linter.unusedSimpArgs false
namespace Go.Proofs.Shadow
open Go
section
variable {P : Program} {E : Nat → Prop} {n : Nat} {σ0 : Sto} {w0 : World}
theorem runI_app {ops : Array Oper} {K : AS → Prop} {s : AS} (A B : List (Cl × Nat)) : runI P E ops (A ++ B) K s = runI P E ops A (runI P E ops B K) s := by
  unfold runI
  rw [List.map_append, trun_app]
theorem bef_ready {ops : Array Oper} {B : List (List Nat)} (hB : befOk ops B = true) {listed : Array Bool} (hsz : listed.size = ops.size) (hcl : ∀ i, i < ops.size → listed.getD i true = true → ∀ m ∈ dirs (atOp ops i), listed.getD m false = true) {i : Nat} (hi : i < ops.size) (hid : ∀ m ∈ dirs (atOp ops i), listed.getD m false = true) {l : Nat} (hl : l ∈ B.getD i []) : listed.getD l false = true := by
  have hB' := hB
  unfold befOk at hB
  rw [List.all_eq_true] at hB
  have hBi := hB i (List.mem_range.2 hi)
  rw [Bool.and_eq_true, List.all_eq_true, List.all_eq_true] at hBi
  have h3 := hBi.2 l hl
  rw [Bool.or_eq_true] at h3
  rcases h3 with h3 | h3
  · exact hid l (by simpa using h3)
  · rw [List.any_eq_true] at h3
    obtain ⟨m, hm, hml⟩ := h3
    have hmi : m < i := by simpa using hBi.1 m hm
    exact bef_listed hB' hsz hcl m (by omega) (by rw [getD_listed (by omega) true false]; exact hid m hm) l (by simpa using hml)
theorem dirs_lt {ops : Array Oper} {B : List (List Nat)} (hB : befOk ops B = true) {i m : Nat} (hi : i < ops.size) (hm : m ∈ dirs (atOp ops i)) : m < i := by
  unfold befOk at hB
  rw [List.all_eq_true] at hB
  have := hB i (List.mem_range.2 hi)
  rw [Bool.and_eq_true, List.all_eq_true] at this
  simpa using this.1 m hm
/-- To come: Pre, then the call p and the alloc q in either order, A behind p, B behind both. -/
structure InvC (P : Program) (ops : Array Oper) (B : List (List Nat)) (Pre : List (Cl × Nat)) (p q : Cl × Nat) (A Z : List (Cl × Nat)) (listed : Array Bool) : Prop where
  size : listed.size = ops.size
  mem : ∀ i, i < ops.size → (listed.getD i true = false ↔ ∃ c, (c, i) ∈ Pre ++ p :: (A ++ q :: Z))
  lt : ∀ x ∈ Pre ++ p :: (A ++ q :: Z), x.2 < ops.size
  closed : ∀ i, i < ops.size → listed.getD i true = true → ∀ m ∈ dirs (atOp ops i), listed.getD m false = true
  pairs : pairsOk P ops B (Pre ++ (A ++ q :: Z)) = true
  pairp : pairsOk P ops B (Pre ++ p :: (A ++ Z)) = true
  post : ∀ x ∈ A ++ Z, p.2 ∈ B.getD x.2 []
  pq : q.2 ∉ dirs (atOp ops p.2) ∧ p.2 ≠ q.2
theorem set_getD {listed : Array Bool} {i : Nat} (hi : i < listed.size) (j : Nat) (b : Bool) : (listed.setIfInBounds i true).getD j b = if j = i then true else listed.getD j b := by
  by_cases hj : j = i
  · subst hj
    rw [if_pos rfl]
    simp [hi]
  · rw [if_neg hj]
    simp [Array.getElem?_setIfInBounds_ne (Ne.symm hj)]
/-- What is listed and what is to come, behind one more. -/
theorem listed_mem {ops : Array Oper} {listed : Array Bool} (hsz : listed.size = ops.size) {i : Nat} (hi : i < ops.size) {A A' : List (Cl × Nat)} (hm : ∀ j, j < ops.size → (listed.getD j true = false ↔ ∃ c, (c, j) ∈ A)) (hn : ∀ c, (c, i) ∉ A') (hA : ∀ c j, j ≠ i → ((c, j) ∈ A ↔ (c, j) ∈ A')) : ∀ j, j < ops.size → ((listed.setIfInBounds i true).getD j true = false ↔ ∃ c, (c, j) ∈ A') := by
  intro j hj
  rw [set_getD (by omega)]
  by_cases hji : j = i
  · subst hji
    rw [if_pos rfl]
    constructor
    · intro h; cases h
    · rintro ⟨c, hc⟩; exact absurd hc (hn c)
  · rw [if_neg hji, hm j hj]
    constructor
    · rintro ⟨c, hc⟩; exact ⟨c, (hA c j hji).1 hc⟩
    · rintro ⟨c, hc⟩; exact ⟨c, (hA c j hji).2 hc⟩
theorem listed_closed {ops : Array Oper} {listed : Array Bool} (hsz : listed.size = ops.size) {i : Nat} (hi : i < ops.size) (hc : ∀ j, j < ops.size → listed.getD j true = true → ∀ m ∈ dirs (atOp ops j), listed.getD m false = true) (hid : ∀ m ∈ dirs (atOp ops i), listed.getD m false = true) : ∀ j, j < ops.size → (listed.setIfInBounds i true).getD j true = true → ∀ m ∈ dirs (atOp ops j), (listed.setIfInBounds i true).getD m false = true := by
  intro j hj hjl m hm
  rw [set_getD (by omega)] at hjl ⊢
  by_cases hmi : m = i
  · rw [if_pos hmi]
  · rw [if_neg hmi]
    by_cases hji : j = i
    · subst hji; exact hid m hm
    · rw [if_neg hji] at hjl; exact hc j hj hjl m hm
theorem draw_ca_run {ops : Array Oper} {B : List (List Nat)} {Qe : Exit → Act → World → Prop} {K : AS → Prop} (hB : befOk ops B = true) (hok : ∀ o ∈ ops.toList, opOk P n o = true) (hQ : ∀ a w, Post P n σ0 w0 K a w → Qe .normal a w) (p q : Cl × Nat) (A Z : List (Cl × Nat)) :
    ∀ (fuel : Nat) (Pre : List (Cl × Nat)) (listed : Array Bool) (s : AS) (a : Act) (w : World), (Pre ++ p :: (A ++ q :: Z)).length = fuel → InvC P ops B Pre p q A Z listed → Rel P n σ0 w0 s a w → runI P E ops Pre (fun s' => runI P E ops (p :: (A ++ q :: Z)) K s' ∧ runI P E ops (q :: p :: (A ++ Z)) K s') s → wpAny P .any ops Qe fuel listed a w
  | 0, Pre, listed, s, a, w, hl, hI, hR, h => by simp at hl
  | fuel + 1, Pre, listed, s, a, w, hl, hI, hR, h => by
    have hpm : p ∈ Pre ++ p :: (A ++ q :: Z) := by simp
    have hqm : q ∈ Pre ++ p :: (A ++ q :: Z) := by simp
    have unl : ∀ x ∈ Pre ++ p :: (A ++ q :: Z), listed.getD x.2 false = false := fun x hx => by
      rw [getD_listed (by rw [hI.size]; exact hI.lt x hx) false true]
      exact (hI.mem x.2 (hI.lt x hx)).2 ⟨x.1, hx⟩
    refine ⟨fun hr => ?_, fun i hi => ?_⟩
    · exfalso
      have key : ∀ h ∈ Pre ++ p :: (A ++ q :: Z), (∀ x ∈ Pre ++ p :: (A ++ q :: Z), x.2 ∉ dirs (atOp ops h.2)) → False := fun h hm hd => by
        have hmem : h.2 ∈ Region.ready .any ops listed := ready_mk (hI.lt h hm) ((hI.mem h.2 (hI.lt h hm)).2 ⟨h.1, hm⟩) (fun m hmd => by
          apply Classical.byContradiction
          intro hml
          have hmi := dirs_lt hB (hI.lt h hm) hmd
          have hms : m < ops.size := by have := hI.lt h hm; omega
          have hml' : listed.getD m true = false := by
            rw [getD_listed (by rw [hI.size]; exact hms) true false]
            simpa using hml
          obtain ⟨c, hc⟩ := (hI.mem m hms).1 hml'
          exact hd _ hc hmd)
        rw [hr] at hmem
        cases hmem
      have self : ∀ h ∈ Pre ++ p :: (A ++ q :: Z), h.2 ∉ dirs (atOp ops h.2) := fun h hm hd => by
        have := dirs_lt hB (hI.lt h hm) hd; omega
      cases Pre with
      | nil =>
        have a2 := (pairs_split [] (A ++ Z) hI.pairp).2.2
        refine key p hpm (fun x hx => ?_)
        simp only [List.nil_append, List.mem_cons, List.mem_append] at hx
        rcases hx with rfl | hx | rfl | hx
        · exact self _ hpm
        · exact (pairOk_spec (a2 x (by simp [hx]))).1
        · exact hI.pq.1
        · exact (pairOk_spec (a2 x (by simp [hx]))).1
      | cons y Pre =>
        have a1 := (pairs_split [] (Pre ++ (A ++ q :: Z)) hI.pairs).2.2
        have a2 := (pairs_split [] (Pre ++ p :: (A ++ Z)) hI.pairp).2.2
        refine key y (by simp) (fun x hx => ?_)
        simp only [List.cons_append, List.mem_cons, List.mem_append] at hx
        rcases hx with rfl | hx | rfl | hx | rfl | hx
        · exact self _ (by simp)
        · exact (pairOk_spec (a1 x (by simp [hx]))).1
        · exact (pairOk_spec (a2 x (by simp))).1
        · exact (pairOk_spec (a1 x (by simp [hx]))).1
        · exact (pairOk_spec (a1 x (by simp))).1
        · exact (pairOk_spec (a1 x (by simp [hx]))).1
    · obtain ⟨hil, hiu, hid⟩ := ready_spec hi
      obtain ⟨c, hc⟩ := (hI.mem i hil).1 hiu
      have bef : ∀ x ∈ Pre ++ p :: (A ++ q :: Z), x.2 ∉ B.getD i [] := fun x hx hb => by
        have := bef_ready hB hI.size hI.closed hil hid hb
        rw [unl x hx] at this
        cases this
      unfold wpOp
      have hg : ops[i]? = some (atOp ops i) := by simp [atOp, hil]
      simp only [hg]
      have hop := hok _ (by rw [List.mem_iff_getElem?]; exact ⟨i, by simpa using hg⟩)
      have hpq := hI.pq.2
      simp only [List.mem_append, List.mem_cons] at hc
      rcases hc with hc | hc | hc | hc | hc
      · -- one ahead of both
        obtain ⟨R1, R2, rfl⟩ := List.append_of_mem hc
        have hs1 : pairsOk P ops B (R1 ++ (c, i) :: (R2 ++ (A ++ q :: Z))) = true := by have := hI.pairs; simpa using this
        have hs2 : pairsOk P ops B (R1 ++ (c, i) :: (R2 ++ p :: (A ++ Z))) = true := by have := hI.pairp; simpa using this
        obtain ⟨p1, p2, p3⟩ := pairs_split R1 _ hs1
        obtain ⟨p1', p2', p3'⟩ := pairs_split R1 _ hs2
        have hfirst := run_first (P := P) (E := E) R1 R2 s (fun x hx => by
          obtain ⟨q1, q2, q3⟩ := pairOk_spec (p2 x hx)
          rcases q3 with q3 | q3
          · exact absurd q3 (bef x (by simp [hx]))
          · exact q3) h
        refine tstep_ok (E := E) (c := c) hop hR hfirst (fun a' w' hp => ?_)
        obtain ⟨s', hs', hR'⟩ := hp
        have hpne : p.2 ≠ i := fun he => (pairOk_spec (p3' p (by simp))).2.1 he.symm
        refine draw_ca_run hB hok hQ p q A Z fuel (R1 ++ R2) _ s' a' w' (by simp at hl ⊢; omega) ⟨by simp [hI.size], listed_mem hI.size hil hI.mem ?_ ?_, fun x hx => hI.lt x ?_, listed_closed hI.size hil hI.closed hid, by simpa using p1, by simpa using p1', hI.post, hI.pq⟩ hR' hs'
        · intro c' hc'
          simp only [List.mem_append, List.mem_cons] at hc'
          rcases hc' with (hc' | hc') | hc' | hc' | hc' | hc'
          · exact (pairOk_spec (p2 (c', i) hc')).2.1 rfl
          · exact (pairOk_spec (p3 (c', i) (by simp [hc']))).2.1 rfl
          · exact hpne (congrArg Prod.snd hc').symm
          · exact (pairOk_spec (p3 (c', i) (by simp [hc']))).2.1 rfl
          · exact (pairOk_spec (p3 (c', i) (by simp [hc']))).2.1 rfl
          · exact (pairOk_spec (p3 (c', i) (by simp [hc']))).2.1 rfl
        · intro c' j hj
          simp only [List.mem_append, List.mem_cons, Prod.mk.injEq]
          constructor
          · rintro ((h | ⟨h1, h2⟩ | h) | h)
            · exact .inl (.inl h)
            · exact absurd h2 hj
            · exact .inl (.inr h)
            · exact .inr h
          · rintro ((h | h) | h)
            · exact .inl (.inl h)
            · exact .inl (.inr (.inr h))
            · exact .inr h
        · simp only [List.mem_append, List.mem_cons] at hx ⊢
          rcases hx with (h | h) | h
          · exact .inl (.inl h)
          · exact .inl (.inr (.inr h))
          · exact .inr h
      · -- the call
        have hci : c = p.1 := congrArg Prod.fst hc
        have hip : i = p.2 := congrArg Prod.snd hc
        subst hci
        subst hip
        have h1 : runI P E ops (Pre ++ [p]) (runI P E ops (A ++ q :: Z) K) s := by
          rw [runI_app]
          exact trun_mono _ h (fun s' hs' => hs'.1)
        obtain ⟨_, p2, p3⟩ := pairs_split Pre (A ++ Z) hI.pairp
        have hfirst := run_first (P := P) (E := E) (c := p.1) (i := p.2) Pre [] s (fun x hx => by
          obtain ⟨q1, q2, q3⟩ := pairOk_spec (p2 x hx)
          rcases q3 with q3 | q3
          · exact absurd q3 (bef x (by simp [hx]))
          · exact q3) h1
        refine tstep_ok (E := E) (c := p.1) hop hR hfirst (fun a' w' hp => ?_)
        obtain ⟨s', hs', hR'⟩ := hp
        rw [List.append_nil] at hs'
        have hs2 : runI P E ops (Pre ++ (A ++ q :: Z)) K s' := by rw [runI_app]; exact hs'
        refine draw_run (E := E) hB hok hQ fuel (Pre ++ (A ++ q :: Z)) _ s' a' w' (by simp at hl ⊢; omega) ⟨by simp [hI.size], listed_mem hI.size hil hI.mem ?_ ?_, fun x hx => hI.lt x ?_, listed_closed hI.size hil hI.closed hid, hI.pairs⟩ hR' hs2
        · intro c' hc'
          simp only [List.mem_append, List.mem_cons] at hc'
          rcases hc' with hc' | hc' | hc' | hc'
          · exact (pairOk_spec (p2 (c', p.2) hc')).2.1 rfl
          · exact (pairOk_spec (p3 (c', p.2) (by simp [hc']))).2.1 rfl
          · exact hpq (show (c', p.2).2 = q.2 from congrArg Prod.snd hc')
          · exact (pairOk_spec (p3 (c', p.2) (by simp [hc']))).2.1 rfl
        · intro c' j hj
          simp only [List.mem_append, List.mem_cons]
          constructor
          · rintro (h | h | h)
            · exact .inl h
            · exact absurd (congrArg Prod.snd h) hj
            · exact .inr h
          · rintro (h | h)
            · exact .inl h
            · exact .inr (.inr h)
        · simp only [List.mem_append, List.mem_cons] at hx ⊢
          rcases hx with h | h
          · exact .inl h
          · exact .inr (.inr h)
      · exact absurd (hI.post (c, i) (by simp [hc])) (bef p hpm)
      · -- the alloc
        have hci : c = q.1 := congrArg Prod.fst hc
        have hip : i = q.2 := congrArg Prod.snd hc
        subst hci
        subst hip
        have h1 : runI P E ops (Pre ++ [q]) (runI P E ops (p :: (A ++ Z)) K) s := by
          rw [runI_app]
          exact trun_mono _ h (fun s' hs' => hs'.2)
        have hs1 : pairsOk P ops B ((Pre ++ A) ++ q :: Z) = true := by have := hI.pairs; simpa using this
        obtain ⟨p1, p2, p3⟩ := pairs_split (Pre ++ A) _ hs1
        have hfirst := run_first (P := P) (E := E) (c := q.1) (i := q.2) Pre [] s (fun x hx => by
          obtain ⟨q1, q2, q3⟩ := pairOk_spec (p2 x (by simp [hx]))
          rcases q3 with q3 | q3
          · exact absurd q3 (bef x (by simp [hx]))
          · exact q3) h1
        refine tstep_ok (E := E) (c := q.1) hop hR hfirst (fun a' w' hp => ?_)
        obtain ⟨s', hs', hR'⟩ := hp
        rw [List.append_nil] at hs'
        have hs2 : runI P E ops (Pre ++ p :: (A ++ Z)) K s' := by rw [runI_app]; exact hs'
        refine draw_run (E := E) hB hok hQ fuel (Pre ++ p :: (A ++ Z)) _ s' a' w' (by simp at hl ⊢; omega) ⟨by simp [hI.size], listed_mem hI.size hil hI.mem ?_ ?_, fun x hx => hI.lt x ?_, listed_closed hI.size hil hI.closed hid, hI.pairp⟩ hR' hs2
        · intro c' hc'
          simp only [List.mem_append, List.mem_cons] at hc'
          rcases hc' with hc' | hc' | hc' | hc'
          · exact (pairOk_spec (p2 (c', q.2) (by simp [hc']))).2.1 rfl
          · exact hpq (show (c', q.2).2 = p.2 from congrArg Prod.snd hc').symm
          · exact (pairOk_spec (p2 (c', q.2) (by simp [hc']))).2.1 rfl
          · exact (pairOk_spec (p3 (c', q.2) (by simp [hc']))).2.1 rfl
        · intro c' j hj
          simp only [List.mem_append, List.mem_cons]
          constructor
          · rintro (h | h | h | h | h)
            · exact .inl h
            · exact .inr (.inl h)
            · exact .inr (.inr (.inl h))
            · exact absurd (congrArg Prod.snd h) hj
            · exact .inr (.inr (.inr h))
          · rintro (h | h | h | h)
            · exact .inl h
            · exact .inr (.inl h)
            · exact .inr (.inr (.inl h))
            · exact .inr (.inr (.inr (.inr h)))
        · simp only [List.mem_append, List.mem_cons] at hx ⊢
          rcases hx with h | h | h | h
          · exact .inl h
          · exact .inr (.inl h)
          · exact .inr (.inr (.inl h))
          · exact .inr (.inr (.inr (.inr h)))
      · exact absurd (hI.post (c, i) (by simp [hc])) (bef p hpm)
/-- What is asked of the region. -/
def drawCa (P : Program) (ops : Array Oper) (Pre : List (Cl × Nat)) (p q : Cl × Nat) (A Z : List (Cl × Nat)) : Bool :=
  befOk ops (befs ops) && pairsOk P ops (befs ops) (Pre ++ (A ++ q :: Z)) && pairsOk P ops (befs ops) (Pre ++ p :: (A ++ Z)) && (List.range ops.size).all (fun i => (Pre ++ p :: (A ++ q :: Z)).any fun p => p.2 == i) && (Pre ++ p :: (A ++ q :: Z)).all (fun p => decide (p.2 < ops.size)) && ((Pre ++ p :: (A ++ q :: Z)).length == ops.size)
    && (A ++ Z).all (fun x => ((befs ops).getD x.2 []).contains p.2) && (!(dirs (atOp ops p.2)).contains q.2 && p.2 != q.2)
/-- A call and one alloc in either order: both are walked. -/
theorem draw_ca1 {ops : Array Oper} {K : AS → Prop} {s : AS} (E : Nat → Prop) (cl : List Cl) (is : List Nat) (p q : Nat) (clA : List Cl) (isA : List Nat) (clZ : List Cl) (isZ : List Nat) (hchk : drawCa P ops (cl.zip is) (.x, p) (.x, q) (clA.zip isA) (clZ.zip isZ) = true)
    (h : trun P E (ops.toList.map (·.dst)) ((cl.zip is).map fun p => (p.1, atOp ops p.2)) (fun s' => trun P E (ops.toList.map (·.dst)) ((Cl.x, atOp ops p) :: (((clA.zip isA).map fun p => (p.1, atOp ops p.2)) ++ (Cl.x, atOp ops q) :: (clZ.zip isZ).map fun p => (p.1, atOp ops p.2))) K s' ∧ trun P E (ops.toList.map (·.dst)) ((Cl.x, atOp ops q) :: (Cl.x, atOp ops p) :: (((clA.zip isA).map fun p => (p.1, atOp ops p.2)) ++ (clZ.zip isZ).map fun p => (p.1, atOp ops p.2))) K s') s) : aDraw P ops K s := by
  intro n σ0 w0 a w Qe hok hR hQ
  unfold drawCa at hchk
  simp only [Bool.and_eq_true] at hchk
  obtain ⟨⟨⟨⟨⟨⟨⟨h1, h2⟩, h2'⟩, h3⟩, h4⟩, h5⟩, h6⟩, h7⟩ := hchk
  generalize cl.zip is = Pre at *
  generalize clA.zip isA = A at *
  generalize clZ.zip isZ = Z at *
  have h5' : (Pre ++ (Cl.x, p) :: (A ++ (Cl.x, q) :: Z)).length = ops.size := by simpa using h5
  refine draw_ca_run (E := E) h1 hok hQ (.x, p) (.x, q) A Z ops.size Pre _ s a w h5' ⟨by simp, fun i hi => ?_, fun p hp => by have := (List.all_eq_true.1 h4) p hp; simpa using this, fun i hi hl => ?_, h2, h2', fun x hx => by have := (List.all_eq_true.1 h6) x hx; simpa using this, by simpa using h7⟩ hR (trun_mono _ h fun s' hs => ⟨by have := hs.1; unfold runI; simpa using this, by have := hs.2; unfold runI; simpa using this⟩)
  · have hf : (Array.replicate ops.size false).getD i true = false := by simp [hi]
    rw [hf]
    have := (List.all_eq_true.1 h3) i (List.mem_range.2 hi)
    rw [List.any_eq_true] at this
    obtain ⟨p, hp, hpi⟩ := this
    have : p.2 = i := by simpa using hpi
    subst this
    exact ⟨fun _ => ⟨p.1, hp⟩, fun _ => rfl⟩
  · have hf : (Array.replicate ops.size false).getD i true = false := by simp [hi]
    rw [hf] at hl
    cases hl
theorem fx_osetK {E : Nat → Prop} {τ σ : Sto} {bs : List (Nat × Ent)} {ms : List OwnR} (hF : Fx τ σ bs ms) (j : Nat) {ag : Bool} {k b n c o : Nat} {e : TypeId} {sz : Nat} {α : Type} {g : α → List AV} {l : List α} {x : α} {i : Int} {p : Nat} {v : AV} {cs : List AV} {T : Nat → AV} {K : AS → Prop} (y : α) (hs : ∀ x, (g x).length = sz) (hp : p = i.toNat * sz + o) (hj : ms[j]? = some ⟨.ref b n c, e, sz, rws g l⟩) (h : idx l i = some x)
    (hc : avCells v = some cs) (hl : cs.length = k) (hle : o + k ≤ sz) (hy : splice (g x) o cs = g y) (hK : ∀ σ', Fx τ σ' bs (ms.set j ⟨.ref b n c, e, sz, rws g (l.set i.toNat y)⟩) → K ⟨T, σ'⟩) : aStore (astore (some (ag, k)) σ (.optr b p) v) ⟨T, σ⟩ none (kp E σ K) := by
  subst hp
  obtain ⟨h0, h1, h2⟩ := own_at hF j hj
  obtain ⟨i0, i1, i2⟩ := idx_lt h
  have hfl := flatten_length (rws g l) h2
  rw [rws_len] at hfl
  have hle2 : i.toNat * sz + sz ≤ l.length * sz := by
    have : (i.toNat + 1) * sz ≤ l.length * sz := Nat.mul_le_mul_right sz i1
    rwa [Nat.add_mul, Nat.one_mul] at this
  have hx : (rws g l)[i.toNat]? = some (g x) := by simp [rws, i2]
  have hset : rws g (l.set i.toNat y) = (rws g l).set i.toNat (g y) := by simp [rws, List.map_set]
  have e1 : astore (some (ag, k)) σ (.optr b (i.toNat * sz + o)) v = some (σ.setOwn b ⟨e, c * sz, (rws g (l.set i.toNat y)).flatten⟩) := by
    simp only [astore, hc, h1, Option.bind_some]
    rw [if_pos hl, if_pos (by rw [hfl]; omega), splice_row h2 hx (by omega), hy, hset]
  rw [e1]
  refine kp_intro (Keep.of_var rfl) (hK _ ?_)
  exact hF.oset j hj (by simp [rws_len]) (rws_mem hs _)
/-- The form of nothing but zeros, as a constant. -/
theorem aev_zF (T : Nat → AV) : aev T (.const (Value.agg #[Value.int IntKind.i64 0, Value.string (ByteArray.mk #[]), Value.int IntKind.i64 0, Value.slice none 0 0, Value.slice none 0 0])) = AV.agg [AV.int IntKind.i64 0, AV.str (ByteArray.mk #[]), AV.int IntKind.i64 0, AV.nilsl, AV.nilsl] := by rfl
end
end Go.Proofs.Shadow

