/- Open regions with two pairs whose order is open: all four ways are walked. -/
import Derived.Test.YtjanllllgiehfaaLc
set_option linter.unusedVariables false
set_option linter.unusedSimpArgs false
namespace Go.Proofs.Shadow
open Go
section
variable {P : Program} {E : Nat → Prop} {n : Nat} {σ0 : Sto} {w0 : World}
/-- To come: Pre, then p and q in either order, then Z1, then p2 and q2 in either order (A2 behind p2, Z2 behind both). -/
structure InvD (P : Program) (ops : Array Oper) (B : List (List Nat)) (Pre : List (Cl × Nat)) (p q : Cl × Nat) (A1 Z1 : List (Cl × Nat)) (p2 q2 : Cl × Nat) (A2 Z2 : List (Cl × Nat)) (listed : Array Bool) : Prop where
  size : listed.size = ops.size
  mem : ∀ i, i < ops.size → (listed.getD i true = false ↔ ∃ c, (c, i) ∈ Pre ++ p :: (A1 ++ q :: (Z1 ++ p2 :: (A2 ++ q2 :: Z2))))
  lt : ∀ x ∈ Pre ++ p :: (A1 ++ q :: (Z1 ++ p2 :: (A2 ++ q2 :: Z2))), x.2 < ops.size
  closed : ∀ i, i < ops.size → listed.getD i true = true → ∀ m ∈ dirs (atOp ops i), listed.getD m false = true
  cp1 : pairsOk P ops B (Pre ++ p :: (A1 ++ (Z1 ++ (A2 ++ q2 :: Z2)))) = true
  cp2 : pairsOk P ops B (Pre ++ p :: (A1 ++ (Z1 ++ p2 :: (A2 ++ Z2)))) = true
  cq1 : pairsOk P ops B (Pre ++ (A1 ++ q :: (Z1 ++ (A2 ++ q2 :: Z2)))) = true
  cq2 : pairsOk P ops B (Pre ++ (A1 ++ q :: (Z1 ++ p2 :: (A2 ++ Z2)))) = true
  postA : ∀ x ∈ A1, p.2 ∈ B.getD x.2 []
  post : ∀ x ∈ Z1 ++ p2 :: (A2 ++ q2 :: Z2), p.2 ∈ B.getD x.2 []
  pq : q.2 ∉ dirs (atOp ops p.2) ∧ p.2 ≠ q.2
  post2 : ∀ x ∈ A2 ++ Z2, p2.2 ∈ B.getD x.2 []
  pq2 : q2.2 ∉ dirs (atOp ops p2.2) ∧ p2.2 ≠ q2.2
/-- The run of what stands behind the first pair. -/
def tail2 (P : Program) (E : Nat → Prop) (ops : Array Oper) (Z1 : List (Cl × Nat)) (p2 q2 : Cl × Nat) (A2 Z2 : List (Cl × Nat)) (K : AS → Prop) (s' : AS) : Prop := runI P E ops Z1 (fun s' => runI P E ops (p2 :: (A2 ++ q2 :: Z2)) K s' ∧ runI P E ops (q2 :: p2 :: (A2 ++ Z2)) K s') s'
theorem draw_cc_run {ops : Array Oper} {B : List (List Nat)} {Qe : Exit → Act → World → Prop} {K : AS → Prop} (hB : befOk ops B = true) (hok : ∀ o ∈ ops.toList, opOk P n o = true) (hQ : ∀ a w, Post P n σ0 w0 K a w → Qe .normal a w) (p q : Cl × Nat) (A1 Z1 : List (Cl × Nat)) (p2 q2 : Cl × Nat) (A2 Z2 : List (Cl × Nat)) :
    ∀ (fuel : Nat) (Pre : List (Cl × Nat)) (listed : Array Bool) (s : AS) (a : Act) (w : World), (Pre ++ p :: (A1 ++ q :: (Z1 ++ p2 :: (A2 ++ q2 :: Z2)))).length = fuel → InvD P ops B Pre p q A1 Z1 p2 q2 A2 Z2 listed → Rel P n σ0 w0 s a w → runI P E ops Pre (fun s' => runI P E ops (p :: (A1 ++ [q])) (tail2 P E ops Z1 p2 q2 A2 Z2 K) s' ∧ runI P E ops (q :: p :: A1) (tail2 P E ops Z1 p2 q2 A2 Z2 K) s') s → wpAny P .any ops Qe fuel listed a w
  | 0, Pre, listed, s, a, w, hl, hI, hR, h => by simp at hl
  | fuel + 1, Pre, listed, s, a, w, hl, hI, hR, h => by
    have hpm : p ∈ Pre ++ p :: (A1 ++ q :: (Z1 ++ p2 :: (A2 ++ q2 :: Z2))) := by simp
    have hqm : q ∈ Pre ++ p :: (A1 ++ q :: (Z1 ++ p2 :: (A2 ++ q2 :: Z2))) := by simp
    have unl : ∀ x ∈ Pre ++ p :: (A1 ++ q :: (Z1 ++ p2 :: (A2 ++ q2 :: Z2))), listed.getD x.2 false = false := fun x hx => by
      rw [getD_listed (by rw [hI.size]; exact hI.lt x hx) false true]
      exact (hI.mem x.2 (hI.lt x hx)).2 ⟨x.1, hx⟩
    have inR : ∀ x, x ∈ Z1 ++ p2 :: (A2 ++ q2 :: Z2) → x ∈ Z1 ++ (A2 ++ q2 :: Z2) ∨ x ∈ Z1 ++ p2 :: (A2 ++ Z2) := fun x hx => by
      simp only [List.mem_append, List.mem_cons] at hx ⊢
      rcases hx with h | h | h | h | h
      · exact .inl (.inl h)
      · exact .inr (.inr (.inl h))
      · exact .inl (.inr (.inl h))
      · exact .inl (.inr (.inr (.inl h)))
      · exact .inl (.inr (.inr (.inr h)))
    refine ⟨fun hr => ?_, fun i hi => ?_⟩
    · exfalso
      have key : ∀ h ∈ Pre ++ p :: (A1 ++ q :: (Z1 ++ p2 :: (A2 ++ q2 :: Z2))), (∀ x ∈ Pre ++ p :: (A1 ++ q :: (Z1 ++ p2 :: (A2 ++ q2 :: Z2))), x.2 ∉ dirs (atOp ops h.2)) → False := fun h hm hd => by
        have hmem : h.2 ∈ Region.ready .any ops listed := ready_mk (hI.lt h hm) ((hI.mem h.2 (hI.lt h hm)).2 ⟨h.1, hm⟩) (fun m hmd => by
          apply Classical.byContradiction
          intro hml
          have hmi := dirs_lt hB (hI.lt h hm) hmd
          have hms : m < ops.size := by have := hI.lt h hm; omega
          have hml' : listed.getD m true = false := by
            rw [getD_listed (by rw [hI.size]; exact hms) true false]
            simpa using hml
          obtain ⟨c, hc⟩ := (hI.mem m hms).1 hml'
          exact hd _ hc hmd)
        rw [hr] at hmem
        cases hmem
      have self : ∀ h ∈ Pre ++ p :: (A1 ++ q :: (Z1 ++ p2 :: (A2 ++ q2 :: Z2))), h.2 ∉ dirs (atOp ops h.2) := fun h hm hd => by
        have := dirs_lt hB (hI.lt h hm) hd; omega
      cases Pre with
      | nil =>
        have a1 := (pairs_split [] (A1 ++ (Z1 ++ (A2 ++ q2 :: Z2))) hI.cp1).2.2
        have a2 := (pairs_split [] (A1 ++ (Z1 ++ p2 :: (A2 ++ Z2))) hI.cp2).2.2
        refine key p hpm (fun x hx => ?_)
        rw [List.nil_append, List.mem_cons, List.mem_append, List.mem_cons] at hx
        rcases hx with rfl | hx | rfl | hx
        · exact self _ hpm
        · exact (pairOk_spec (a1 x (List.mem_append_left _ hx))).1
        · exact hI.pq.1
        · rcases inR x hx with h | h
          · exact (pairOk_spec (a1 x (List.mem_append_right _ h))).1
          · exact (pairOk_spec (a2 x (List.mem_append_right _ h))).1
      | cons y Pre =>
        have a1 := (pairs_split [] (Pre ++ p :: (A1 ++ (Z1 ++ (A2 ++ q2 :: Z2)))) hI.cp1).2.2
        have a2 := (pairs_split [] (Pre ++ p :: (A1 ++ (Z1 ++ p2 :: (A2 ++ Z2)))) hI.cp2).2.2
        have a3 := (pairs_split [] (Pre ++ (A1 ++ q :: (Z1 ++ p2 :: (A2 ++ Z2)))) hI.cq2).2.2
        refine key y (by simp) (fun x hx => ?_)
        rw [List.cons_append, List.mem_cons, List.mem_append, List.mem_cons, List.mem_append, List.mem_cons] at hx
        rcases hx with rfl | hx | rfl | hx | rfl | hx
        · exact self _ (by simp)
        · exact (pairOk_spec (a1 x (by simp [hx]))).1
        · exact (pairOk_spec (a1 x (by simp))).1
        · exact (pairOk_spec (a1 x (by simp [hx]))).1
        · exact (pairOk_spec (a3 x (by simp))).1
        · rcases inR x hx with h | h
          · exact (pairOk_spec (a1 x (List.mem_append_right _ (List.mem_cons_of_mem _ (List.mem_append_right _ h))))).1
          · exact (pairOk_spec (a2 x (List.mem_append_right _ (List.mem_cons_of_mem _ (List.mem_append_right _ h))))).1
    · obtain ⟨hil, hiu, hid⟩ := ready_spec hi
      obtain ⟨c, hc⟩ := (hI.mem i hil).1 hiu
      have bef : ∀ x ∈ Pre ++ p :: (A1 ++ q :: (Z1 ++ p2 :: (A2 ++ q2 :: Z2))), x.2 ∉ B.getD i [] := fun x hx hb => by
        have := bef_ready hB hI.size hI.closed hil hid hb
        rw [unl x hx] at this
        cases this
      unfold wpOp
      have hg : ops[i]? = some (atOp ops i) := by simp [atOp, hil]
      simp only [hg]
      have hop := hok _ (by rw [List.mem_iff_getElem?]; exact ⟨i, by simpa using hg⟩)
      have hpq := hI.pq.2
      rw [List.mem_append, List.mem_cons, List.mem_append, List.mem_cons] at hc
      rcases hc with hc | hc | hc | hc | hc
      · -- one ahead of both
        obtain ⟨R1, R2, rfl⟩ := List.append_of_mem hc
        have f1 : pairsOk P ops B (R1 ++ (c, i) :: (R2 ++ p :: (A1 ++ (Z1 ++ (A2 ++ q2 :: Z2))))) = true := by have := hI.cp1; simpa using this
        have f2 : pairsOk P ops B (R1 ++ (c, i) :: (R2 ++ p :: (A1 ++ (Z1 ++ p2 :: (A2 ++ Z2))))) = true := by have := hI.cp2; simpa using this
        have f3 : pairsOk P ops B (R1 ++ (c, i) :: (R2 ++ (A1 ++ q :: (Z1 ++ (A2 ++ q2 :: Z2))))) = true := by have := hI.cq1; simpa using this
        have f4 : pairsOk P ops B (R1 ++ (c, i) :: (R2 ++ (A1 ++ q :: (Z1 ++ p2 :: (A2 ++ Z2))))) = true := by have := hI.cq2; simpa using this
        obtain ⟨g1, b1, d1⟩ := pairs_split R1 _ f1
        obtain ⟨g2, b2, d2⟩ := pairs_split R1 _ f2
        obtain ⟨g3, b3, d3⟩ := pairs_split R1 _ f3
        obtain ⟨g4, b4, d4⟩ := pairs_split R1 _ f4
        have hfirst := run_first (P := P) (E := E) R1 R2 s (fun x hx => by
          obtain ⟨q1, q2, q3⟩ := pairOk_spec (b1 x hx)
          rcases q3 with q3 | q3
          · exact absurd q3 (bef x (by simp [hx]))
          · exact q3) h
        refine tstep_ok (E := E) (c := c) hop hR hfirst (fun a' w' hp => ?_)
        obtain ⟨s', hs', hR'⟩ := hp
        refine draw_cc_run hB hok hQ p q A1 Z1 p2 q2 A2 Z2 fuel (R1 ++ R2) _ s' a' w' (by simp at hl ⊢; omega) ⟨by simp [hI.size], listed_mem hI.size hil hI.mem ?_ ?_, fun x hx => hI.lt x ?_, listed_closed hI.size hil hI.closed hid, by simpa using g1, by simpa using g2, by simpa using g3, by simpa using g4, hI.postA, hI.post, hI.pq, hI.post2, hI.pq2⟩ hR' hs'
        · intro c' hc'
          rw [List.append_assoc, List.mem_append, List.mem_append, List.mem_cons, List.mem_append, List.mem_cons] at hc'
          rcases hc' with hc' | hc' | hc' | hc' | hc' | hc'
          · exact (pairOk_spec (b1 (c', i) hc')).2.1 rfl
          · exact (pairOk_spec (d1 (c', i) (by simp [hc']))).2.1 rfl
          · exact (pairOk_spec (d1 (c', i) (by simp [hc']))).2.1 rfl
          · exact (pairOk_spec (d1 (c', i) (by simp [hc']))).2.1 rfl
          · exact (pairOk_spec (d3 (c', i) (by simp [hc']))).2.1 rfl
          · rcases inR _ hc' with h | h
            · exact (pairOk_spec (d1 (c', i) (List.mem_append_right _ (List.mem_cons_of_mem _ (List.mem_append_right _ h))))).2.1 rfl
            · exact (pairOk_spec (d2 (c', i) (List.mem_append_right _ (List.mem_cons_of_mem _ (List.mem_append_right _ h))))).2.1 rfl
        · intro c' j hj
          simp only [List.mem_append, List.mem_cons, Prod.mk.injEq]
          constructor
          · rintro ((h | ⟨h1, h2⟩ | h) | h)
            · exact .inl (.inl h)
            · exact absurd h2 hj
            · exact .inl (.inr h)
            · exact .inr h
          · rintro ((h | h) | h)
            · exact .inl (.inl h)
            · exact .inl (.inr (.inr h))
            · exact .inr h
        · simp only [List.mem_append, List.mem_cons] at hx ⊢
          rcases hx with (h | h) | h
          · exact .inl (.inl h)
          · exact .inl (.inr (.inr h))
          · exact .inr h
      · -- p
        have hci : c = p.1 := congrArg Prod.fst hc
        have hip : i = p.2 := congrArg Prod.snd hc
        subst hci
        subst hip
        have h1 : runI P E ops (Pre ++ [p]) (runI P E ops (A1 ++ [q]) (tail2 P E ops Z1 p2 q2 A2 Z2 K)) s := by
          rw [runI_app]
          exact trun_mono _ h (fun s' hs' => hs'.1)
        obtain ⟨_, b1, d1⟩ := pairs_split Pre _ hI.cp1
        obtain ⟨_, b2, d2⟩ := pairs_split Pre _ hI.cp2
        have hfirst := run_first (P := P) (E := E) (c := p.1) (i := p.2) Pre [] s (fun x hx => by
          obtain ⟨q1, q2, q3⟩ := pairOk_spec (b1 x hx)
          rcases q3 with q3 | q3
          · exact absurd q3 (bef x (by simp [hx]))
          · exact q3) h1
        refine tstep_ok (E := E) (c := p.1) hop hR hfirst (fun a' w' hp => ?_)
        obtain ⟨s', hs', hR'⟩ := hp
        rw [List.append_nil] at hs'
        have hs2 : runI P E ops (Pre ++ (A1 ++ q :: Z1)) (fun s' => runI P E ops (p2 :: (A2 ++ q2 :: Z2)) K s' ∧ runI P E ops (q2 :: p2 :: (A2 ++ Z2)) K s') s' := by
          rw [show Pre ++ (A1 ++ q :: Z1) = Pre ++ ((A1 ++ [q]) ++ Z1) by simp, runI_app]
          refine trun_mono _ hs' fun s' hs' => ?_
          rw [runI_app]
          exact hs'
        refine draw_ca_run (E := E) hB hok hQ p2 q2 A2 Z2 fuel (Pre ++ (A1 ++ q :: Z1)) _ s' a' w' (by simp at hl ⊢; omega) ⟨by simp [hI.size], listed_mem hI.size hil hI.mem ?_ ?_, fun x hx => hI.lt x ?_, listed_closed hI.size hil hI.closed hid, by have := hI.cq1; simpa using this, by have := hI.cq2; simpa using this, hI.post2, hI.pq2⟩ hR' hs2
        · intro c' hc'
          rw [List.append_assoc, List.mem_append, List.append_assoc, List.mem_append, List.cons_append, List.mem_cons] at hc'
          rcases hc' with hc' | hc' | hc' | hc'
          · exact (pairOk_spec (b1 (c', p.2) hc')).2.1 rfl
          · exact (pairOk_spec (d1 (c', p.2) (List.mem_append_left _ hc'))).2.1 rfl
          · exact hpq (show (c', p.2).2 = q.2 from congrArg Prod.snd hc')
          · rcases inR _ hc' with h | h
            · exact (pairOk_spec (d1 (c', p.2) (List.mem_append_right _ h))).2.1 rfl
            · exact (pairOk_spec (d2 (c', p.2) (List.mem_append_right _ h))).2.1 rfl
        · intro c' j hj
          rw [List.append_assoc, List.append_assoc, List.cons_append]
          rw [List.mem_append, List.mem_cons, List.mem_append, List.mem_append (s := Pre), List.mem_append (s := A1)]
          constructor
          · rintro (h | h | h)
            · exact .inl h
            · exact absurd (congrArg Prod.snd h) hj
            · exact .inr h
          · rintro (h | h)
            · exact .inl h
            · exact .inr (.inr h)
        · rw [List.append_assoc, List.append_assoc, List.cons_append, List.mem_append] at hx
          rw [List.mem_append, List.mem_cons]
          rcases hx with h | h
          · exact .inl h
          · exact .inr (.inr h)
      · exact absurd (hI.postA (c, i) hc) (bef p hpm)
      · -- q
        have hci : c = q.1 := congrArg Prod.fst hc
        have hip : i = q.2 := congrArg Prod.snd hc
        subst hci
        subst hip
        have h1 : runI P E ops (Pre ++ [q]) (runI P E ops (p :: A1) (tail2 P E ops Z1 p2 q2 A2 Z2 K)) s := by
          rw [runI_app]
          exact trun_mono _ h (fun s' hs' => hs'.2)
        obtain ⟨_, b1, d1⟩ := pairs_split (Pre ++ A1) (Z1 ++ (A2 ++ q2 :: Z2)) (by have := hI.cq1; simpa using this)
        obtain ⟨_, b2, d2⟩ := pairs_split (Pre ++ A1) (Z1 ++ p2 :: (A2 ++ Z2)) (by have := hI.cq2; simpa using this)
        have hfirst := run_first (P := P) (E := E) (c := q.1) (i := q.2) Pre [] s (fun x hx => by
          obtain ⟨q1, q2, q3⟩ := pairOk_spec (b1 x (List.mem_append_left _ hx))
          rcases q3 with q3 | q3
          · exact absurd q3 (bef x (by simp [hx]))
          · exact q3) h1
        refine tstep_ok (E := E) (c := q.1) hop hR hfirst (fun a' w' hp => ?_)
        obtain ⟨s', hs', hR'⟩ := hp
        rw [List.append_nil] at hs'
        have hs2 : runI P E ops (Pre ++ p :: (A1 ++ Z1)) (fun s' => runI P E ops (p2 :: (A2 ++ q2 :: Z2)) K s' ∧ runI P E ops (q2 :: p2 :: (A2 ++ Z2)) K s') s' := by
          rw [show Pre ++ p :: (A1 ++ Z1) = Pre ++ ((p :: A1) ++ Z1) from rfl, runI_app]
          refine trun_mono _ hs' fun s' hs' => ?_
          rw [runI_app]
          exact hs'
        refine draw_ca_run (E := E) hB hok hQ p2 q2 A2 Z2 fuel (Pre ++ p :: (A1 ++ Z1)) _ s' a' w' (by simp at hl ⊢; omega) ⟨by simp [hI.size], listed_mem hI.size hil hI.mem ?_ ?_, fun x hx => hI.lt x ?_, listed_closed hI.size hil hI.closed hid, by have := hI.cp1; simpa using this, by have := hI.cp2; simpa using this, hI.post2, hI.pq2⟩ hR' hs2
        · intro c' hc'
          rw [List.append_assoc, List.mem_append, List.cons_append, List.mem_cons, List.append_assoc, List.mem_append] at hc'
          rcases hc' with hc' | hc' | hc' | hc'
          · exact (pairOk_spec (b1 (c', q.2) (List.mem_append_left _ hc'))).2.1 rfl
          · exact hpq (show (c', q.2).2 = p.2 from congrArg Prod.snd hc').symm
          · exact (pairOk_spec (b1 (c', q.2) (List.mem_append_right _ hc'))).2.1 rfl
          · rcases inR _ hc' with h | h
            · exact (pairOk_spec (d1 (c', q.2) h)).2.1 rfl
            · exact (pairOk_spec (d2 (c', q.2) h)).2.1 rfl
        · intro c' j hj
          rw [List.append_assoc, List.cons_append, List.append_assoc]
          rw [List.mem_append, List.mem_cons, List.mem_append, List.mem_cons, List.mem_append (s := Pre), List.mem_cons (b := p), List.mem_append (s := A1)]
          constructor
          · rintro (h | h | h | h | h)
            · exact .inl h
            · exact .inr (.inl h)
            · exact .inr (.inr (.inl h))
            · exact absurd (congrArg Prod.snd h) hj
            · exact .inr (.inr (.inr h))
          · rintro (h | h | h | h)
            · exact .inl h
            · exact .inr (.inl h)
            · exact .inr (.inr (.inl h))
            · exact .inr (.inr (.inr (.inr h)))
        · rw [List.append_assoc, List.cons_append, List.append_assoc, List.mem_append, List.mem_cons, List.mem_append] at hx
          rw [List.mem_append, List.mem_cons, List.mem_append, List.mem_cons]
          rcases hx with h | h | h | h
          · exact .inl h
          · exact .inr (.inl h)
          · exact .inr (.inr (.inl h))
          · exact .inr (.inr (.inr (.inr h)))
      · -- behind
        exact absurd (hI.post (c, i) hc) (bef p hpm)
/-- What is asked of the region. -/
def drawCc (P : Program) (ops : Array Oper) (Pre : List (Cl × Nat)) (p q : Cl × Nat) (A1 Z1 : List (Cl × Nat)) (p2 q2 : Cl × Nat) (A2 Z2 : List (Cl × Nat)) : Bool :=
  befOk ops (befs ops) && pairsOk P ops (befs ops) (Pre ++ p :: (A1 ++ (Z1 ++ (A2 ++ q2 :: Z2)))) && pairsOk P ops (befs ops) (Pre ++ p :: (A1 ++ (Z1 ++ p2 :: (A2 ++ Z2)))) && pairsOk P ops (befs ops) (Pre ++ (A1 ++ q :: (Z1 ++ (A2 ++ q2 :: Z2)))) && pairsOk P ops (befs ops) (Pre ++ (A1 ++ q :: (Z1 ++ p2 :: (A2 ++ Z2)))) && (List.range ops.size).all (fun i => (Pre ++ p :: (A1 ++ q :: (Z1 ++ p2 :: (A2 ++ q2 :: Z2)))).any fun p => p.2 == i) && (Pre ++ p :: (A1 ++ q :: (Z1 ++ p2 :: (A2 ++ q2 :: Z2)))).all (fun p => decide (p.2 < ops.size)) && ((Pre ++ p :: (A1 ++ q :: (Z1 ++ p2 :: (A2 ++ q2 :: Z2)))).length == ops.size)
    && A1.all (fun x => ((befs ops).getD x.2 []).contains p.2) && (Z1 ++ p2 :: (A2 ++ q2 :: Z2)).all (fun x => ((befs ops).getD x.2 []).contains p.2) && (!(dirs (atOp ops p.2)).contains q.2 && p.2 != q.2) && (A2 ++ Z2).all (fun x => ((befs ops).getD x.2 []).contains p2.2) && (!(dirs (atOp ops p2.2)).contains q2.2 && p2.2 != q2.2)
/-- Two pairs in either order each: all is walked. -/
theorem draw_cc {ops : Array Oper} {K : AS → Prop} {s : AS} (E : Nat → Prop) (cl : List Cl) (is : List Nat) (cp : Cl) (p : Nat) (cq : Cl) (q : Nat) (clA1 : List Cl) (isA1 : List Nat) (cl1 : List Cl) (is1 : List Nat) (cp2 : Cl) (p2 : Nat) (cq2 : Cl) (q2 : Nat) (clA : List Cl) (isA : List Nat) (clZ : List Cl) (isZ : List Nat) (hchk : drawCc P ops (cl.zip is) (cp, p) (cq, q) (clA1.zip isA1) (cl1.zip is1) (cp2, p2) (cq2, q2) (clA.zip isA) (clZ.zip isZ) = true)
    (h : trun P E (ops.toList.map (·.dst)) ((cl.zip is).map fun p => (p.1, atOp ops p.2)) (fun s' =>
      trun P E (ops.toList.map (·.dst)) ((cp, atOp ops p) :: (((clA1.zip isA1).map fun p => (p.1, atOp ops p.2)) ++ [(cq, atOp ops q)])) (fun s' => trun P E (ops.toList.map (·.dst)) ((cl1.zip is1).map fun p => (p.1, atOp ops p.2)) (fun s' => trun P E (ops.toList.map (·.dst)) ((cp2, atOp ops p2) :: (((clA.zip isA).map fun p => (p.1, atOp ops p.2)) ++ (cq2, atOp ops q2) :: (clZ.zip isZ).map fun p => (p.1, atOp ops p.2))) K s' ∧ trun P E (ops.toList.map (·.dst)) ((cq2, atOp ops q2) :: (cp2, atOp ops p2) :: (((clA.zip isA).map fun p => (p.1, atOp ops p.2)) ++ (clZ.zip isZ).map fun p => (p.1, atOp ops p.2))) K s') s') s' ∧
      trun P E (ops.toList.map (·.dst)) ((cq, atOp ops q) :: (cp, atOp ops p) :: ((clA1.zip isA1).map fun p => (p.1, atOp ops p.2))) (fun s' => trun P E (ops.toList.map (·.dst)) ((cl1.zip is1).map fun p => (p.1, atOp ops p.2)) (fun s' => trun P E (ops.toList.map (·.dst)) ((cp2, atOp ops p2) :: (((clA.zip isA).map fun p => (p.1, atOp ops p.2)) ++ (cq2, atOp ops q2) :: (clZ.zip isZ).map fun p => (p.1, atOp ops p.2))) K s' ∧ trun P E (ops.toList.map (·.dst)) ((cq2, atOp ops q2) :: (cp2, atOp ops p2) :: (((clA.zip isA).map fun p => (p.1, atOp ops p.2)) ++ (clZ.zip isZ).map fun p => (p.1, atOp ops p.2))) K s') s') s') s) : aDraw P ops K s := by
  intro n σ0 w0 a w Qe hok hR hQ
  unfold drawCc at hchk
  simp only [Bool.and_eq_true] at hchk
  obtain ⟨⟨⟨⟨⟨⟨⟨⟨⟨⟨⟨⟨h1, c1⟩, c2⟩, c3⟩, c4⟩, h3⟩, h4⟩, h5⟩, hA1⟩, h6⟩, h7⟩, h8⟩, h9⟩ := hchk
  generalize cl.zip is = Pre at *
  generalize cl1.zip is1 = Z1 at *
  generalize clA1.zip isA1 = A1 at *
  generalize clA.zip isA = A at *
  generalize clZ.zip isZ = Z at *
  have h5' : (Pre ++ (cp, p) :: (A1 ++ (cq, q) :: (Z1 ++ (cp2, p2) :: (A ++ (cq2, q2) :: Z)))).length = ops.size := by simpa using h5
  refine draw_cc_run (E := E) h1 hok hQ (cp, p) (cq, q) A1 Z1 (cp2, p2) (cq2, q2) A Z ops.size Pre _ s a w h5' ⟨by simp, fun i hi => ?_, fun p hp => by have := (List.all_eq_true.1 h4) p hp; simpa using this, fun i hi hl => ?_, c1, c2, c3, c4, fun x hx => by have := (List.all_eq_true.1 hA1) x hx; simpa using this, fun x hx => by have := (List.all_eq_true.1 h6) x hx; simpa using this, by simpa using h7, fun x hx => by have := (List.all_eq_true.1 h8) x hx; simpa using this, by simpa using h9⟩ hR (trun_mono _ h fun s' hs => ⟨?_, ?_⟩)
  · have hf : (Array.replicate ops.size false).getD i true = false := by simp [hi]
    rw [hf]
    have := (List.all_eq_true.1 h3) i (List.mem_range.2 hi)
    rw [List.any_eq_true] at this
    obtain ⟨p, hp, hpi⟩ := this
    have : p.2 = i := by simpa using hpi
    subst this
    exact ⟨fun _ => ⟨p.1, hp⟩, fun _ => rfl⟩
  · have hf : (Array.replicate ops.size false).getD i true = false := by simp [hi]
    rw [hf] at hl
    cases hl
  · have h1 := hs.1
    unfold runI
    rw [List.map_cons, List.map_append]
    refine trun_mono _ h1 fun s' hs => ?_
    unfold tail2
    refine trun_mono _ hs fun s' hs => ⟨?_, ?_⟩
    · have := hs.1; unfold runI; simpa using this
    · have := hs.2; unfold runI; simpa using this
  · have h1 := hs.2
    unfold runI
    rw [List.map_cons, List.map_cons]
    refine trun_mono _ h1 fun s' hs => ?_
    unfold tail2
    refine trun_mono _ hs fun s' hs => ⟨?_, ?_⟩
    · have := hs.1; unfold runI; simpa using this
    · have := hs.2; unfold runI; simpa using this
end
end Go.Proofs.Shadow

