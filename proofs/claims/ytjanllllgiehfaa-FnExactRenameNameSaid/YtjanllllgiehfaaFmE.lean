/- Forms that came in. -/
import Derived.Test.YtjanllllgiehfaaFmD
set_option linter.unusedVariables false
set_option linter.unusedSimpArgs false
namespace Go.Proofs.Shadow
open Go Go.RowKit
/-- A struct's fields: type and place. -/
def flds (P : Program) (t : TypeId) : Option (List (TypeId × Nat)) := match P.underlying t with | some (.struct fs) => some (fs.toList.map fun f => (f.type, f.offset)) | _ => none
/-- A slice's element type, of so many cells. -/
def slOf (P : Program) (t : TypeId) : Option (TypeId × Nat × Bool) := match P.underlying t with | some (.slice e) => some (e, P.cellsOf e, decide (0 < P.bytesOf e)) | _ => none
section
variable {H : Type} {enc : TypeId × Value → H} {P : Program} {w : World}
theorem Fm.allL_of : ∀ (ks : List Fm) (g : Fm), g ∈ Fm.allL ks → ∃ k ∈ ks, g ∈ k.all
  | [], _, h => by simp [Fm.allL] at h
  | k :: ks, g, h => by
    simp only [Fm.allL, List.mem_append] at h
    rcases h with h | h
    · exact ⟨k, by simp, h⟩
    · obtain ⟨k', h1, h2⟩ := Fm.allL_of ks g h
      exact ⟨k', by simp [h1], h2⟩
theorem fld_open {t : TypeId} {l : List (TypeId × Nat)} (hl : flds P t = some l) {fuel : Nat} {cs : List Value} {x : DataW H × List MemPlace} (h : DataW.trod enc P w 0 (fun _ => true) true fuel t cs = some x) :
    ∃ n, fuel = n + 1 ∧ cs.length = P.cellsOf t ∧ ∀ (i : Nat) (ty : TypeId) (off : Nat), l[i]? = some (ty, off) → ∃ y, DataW.trod enc P w 0 (fun _ => true) true n ty ((cs.drop off).take (P.cellsOf ty)) = some y ∧ ∀ m ∈ y.1.weights P ty, m ∈ x.1.weights P t := by
  unfold flds at hl
  split at hl
  · rename_i fs hu
    injection hl with hl
    subst hl
    obtain ⟨xs, n, rfl, rfl, h1, h2, h3⟩ := DataW.trod_struct hu h
    refine ⟨n, rfl, h1, fun i ty off hi => ?_⟩
    rw [List.getElem?_map] at hi
    obtain ⟨f, hf, he⟩ := Option.map_eq_some_iff.1 hi
    injection he with he1 he2
    subst he1; subst he2
    have hi2 : i < xs.length := by rw [h2]; have := (List.getElem?_eq_some_iff.1 hf).1; simpa using this
    have h4 := h3 i f (by simpa using hf)
    rw [List.getElem?_eq_getElem hi2] at h4
    refine ⟨_, h4, fun m hm => ?_⟩
    simp only [DataW.weights, hu]
    exact DataW.weights_mem_each (j := i) (t := f.type) (d := (xs[i]).1) (by rw [List.getElem?_map, hf]; rfl) (by rw [List.getElem?_map, List.getElem?_eq_getElem hi2]; rfl) m hm
  · cases hl
theorem slOf_und {t e : TypeId} {k : Nat} (h : slOf P t = some (e, k, true)) : P.underlying t = some (.slice e) ∧ P.cellsOf e = k ∧ 0 < P.bytesOf e := by
  unfold slOf at h
  split at h
  · rename_i e' hu
    injection h with h
    injection h with h1 h2
    injection h2 with h2 h3
    subst h1
    exact ⟨hu, h2, by simpa using h3⟩
  · cases h
theorem getD_seg {cs : List Value} {o k j : Nat} (hj : j < k) : ((cs.drop o).take k).getD j undef = cs.getD (o + j) undef := by
  simp only [List.getD_eq_getElem?_getD]
  rw [List.getElem?_take_of_lt hj, List.getElem?_drop]
/-- The types of a form, as the program has them. -/
structure FormTy (P : Program) (tF tI tS tLI tLF : TypeId) : Prop where
  fF : flds P tF = some [(tI, 0), (tS, 1), (tI, 2), (tLI, 3), (tLF, 4)]
  cF : P.cellsOf tF = 5
  cI : P.cellsOf tI = 1
  cS : P.cellsOf tS = 1
  cLI : P.cellsOf tLI = 1
  cLF : P.cellsOf tLF = 1
  uI : P.underlying tI = some (.int .i64)
  uS : P.underlying tS = some .string
  uLI : slOf P tLI = some (tI, 1, true)
  uLF : slOf P tLF = some (tF, 5, true)
theorem one_cell {cs : List Value} {o k : Nat} {c : AV} (hk : k = 1) (h : ∀ i c', [c][i]? = some c' → Rv sto0 w c' (((cs.drop o).take k).getD i undef)) : Rv sto0 w c (cs.getD o undef) := by
  have := h 0 c rfl
  rw [getD_seg (by omega)] at this
  exact this
theorem opn_fm {tF tI tS tLI tLF : TypeId} (T : FormTy P tF tI tS tLI tLF) : ∀ fuel, Opn enc P w 5 Fm.cells Fm.Ok tF fuel := by
  intro fuel
  induction fuel using Nat.strongRecOn with
  | ind fuel ih =>
  intro cs x h hwt
  obtain ⟨n, rfl, h1, h2⟩ := fld_open T.fF h
  obtain ⟨y0, a0, b0⟩ := h2 0 _ _ rfl
  obtain ⟨y1, a1, b1⟩ := h2 1 _ _ rfl
  obtain ⟨y2, a2, b2⟩ := h2 2 _ _ rfl
  obtain ⟨y3, a3, b3⟩ := h2 3 _ _ rfl
  obtain ⟨y4, a4, b4⟩ := h2 4 _ _ rfl
  obtain ⟨k, _, _, _, _, r0⟩ := opn_int T.uI n _ _ a0 (fun m hm => hwt m (b0 m hm))
  obtain ⟨s, qs, _, _, _, r1⟩ := opn_str T.uS n _ _ a1 (fun m hm => hwt m (b1 m hm))
  obtain ⟨m, _, _, _, _, r2⟩ := opn_int T.uI n _ _ a2 (fun m hm => hwt m (b2 m hm))
  obtain ⟨v1, v2, v3⟩ := slOf_und T.uLI
  obtain ⟨v4, v5, v6⟩ := slOf_und T.uLF
  obtain ⟨sc, qc, _, _, _, r3⟩ := opn_sl (by omega) v1 v2 v3 (fun n _ => opn_int T.uI n) _ _ a3 (fun m hm => hwt m (b3 m hm))
  obtain ⟨ks, qk, _, _, _, r4⟩ := opn_sl (by omega) v4 v5 v6 (fun m hm => ih m (by omega)) _ _ a4 (fun m hm => hwt m (b4 m hm))
  have e0 := one_cell T.cI r0
  have e1 := one_cell T.cS r1
  have e2 := one_cell T.cI r2
  have e3 := one_cell T.cLI r3
  have e4 := one_cell T.cLF r4
  refine ⟨.mk k s m sc ks, ?_, by rw [h1, T.cF], Fm.cells_len _, ?_, ?_⟩
  · intro g hg
    simp only [Fm.all, List.mem_cons] at hg
    rcases hg with rfl | hg
    · exact ⟨by simp only [Fm.name]; omega, by simp only [Fm.sc]; have := qc.1; omega, by simp only [Fm.kids]; have := qk.1; omega⟩
    · obtain ⟨g', h5, h6⟩ := Fm.allL_of ks g hg
      exact qk.2 g' h5 g h6
  · simp [Fm.cells, AV.isCell]
  · rw [Fm.cells, Fm.rows_eq]
    intro i c hc
    match i, hc with
    | 0, hc => simp at hc; subst hc; exact e0
    | 1, hc => simp at hc; subst hc; exact e1
    | 2, hc => simp at hc; subst hc; exact e2
    | 3, hc => simp at hc; subst hc; exact e3
    | 4, hc => simp at hc; subst hc; exact e4
    | i + 5, hc => simp at hc
/-- A form as an argument. -/
theorem open_form {tF tI tS tLI tLF : TypeId} (T : FormTy P tF tI tS tLI tLF) {v : Value} {d : DataW H} {ps : List MemPlace} {base : Nat} {ts : List TypeId} {ds : List (DataW H)} {j : Nat} (hv : Value.okWide P w .any base tF v) (h : DataW.Trod enc P w 0 (fun _ => true) true tF v d ps)
    (hsz : (DataW.weightsEach P ts ds).all (· ≤ reachBytes) = true) (ht : ts[j]? = some tF) (hd : ds[j]? = some d) : ∃ f : Fm, f.Ok ∧ Rv sto0 w (.agg f.cells) v := by
  obtain ⟨fuel, hf⟩ := h
  have hfl := T.fF
  unfold flds at hfl
  split at hfl
  · rename_i fs hu
    simp only [Value.okWide, hu] at hv
    obtain ⟨cs, rfl, hcs, _⟩ := hv
    obtain ⟨f, hok, h1, h2, h3, h4⟩ := opn_fm T fuel _ _ hf (fun n hn => by
      have := List.all_eq_true.1 hsz n (DataW.weights_mem_each ht hd n hn)
      simpa using this)
    simp only [Value.cells] at h1 h4
    refine ⟨f, hok, .agg (by rw [h2]; simpa using h1.symm) h3 (fun i c hc => ?_)⟩
    have := h4 i c hc
    simpa [List.getD_eq_getElem?_getD] using this
  · cases hfl
theorem open_str_sz {t : TypeId} {v : Value} {d : DataW H} {ps : List MemPlace} {base : Nat} {ts : List TypeId} {ds : List (DataW H)} {j : Nat} (hu : P.underlying t = some .string) (hv : Value.okWide P w .any base t v) (h : DataW.Trod enc P w 0 (fun _ => true) true t v d ps)
    (hsz : (DataW.weightsEach P ts ds).all (· ≤ reachBytes) = true) (ht : ts[j]? = some t) (hd : ds[j]? = some d) : ∃ s : ByteArray, s.size ≤ 140737488355328 ∧ Rv sto0 w (.str s) v := by
  obtain ⟨s, rfl, rfl, rfl, _⟩ := Go.ChangeMaps.open_string hu hv h
  have := sized_string hsz ht hd
  simp [reachBytes] at this
  have e : s.size = s.data.size := rfl
  exact ⟨s, by omega, .str (by omega)⟩
/-- A slice as an argument: of elements that open. -/
theorem open_slice_arg {α : Type} {cells : α → List AV} {Q : α → Prop} {t e : TypeId} {k : Nat} (hk : 0 < k) (hu : slOf P t = some (e, k, true)) (he : ∀ n, Opn enc P w k cells Q e n) {v : Value} {d : DataW H} {ps : List MemPlace} {base : Nat} {ts : List TypeId} {ds : List (DataW H)} {j : Nat}
    (hv : Value.okWide P w .any base t v) (h : DataW.Trod enc P w 0 (fun _ => true) true t v d ps) (hsz : (DataW.weightsEach P ts ds).all (· ≤ reachBytes) = true) (ht : ts[j]? = some t) (hd : ds[j]? = some d) :
    ∃ xs : List α, xs.length ≤ 140737488355328 ∧ (∀ x ∈ xs, Q x) ∧ Rv sto0 w (.sl false (xs.map cells)) v := by
  obtain ⟨u1, u2, u3⟩ := slOf_und hu
  obtain ⟨a, len, cap, rfl⟩ := Go.WideShapes.okWide_slice u1 hv
  obtain ⟨fuel, hf⟩ := h
  obtain ⟨xs, ⟨h1, h2⟩, _, _, _, h3⟩ := opn_sl hk u1 u2 u3 (fun n _ => he n) _ _ hf (fun n hn => by
    have := List.all_eq_true.1 hsz n (DataW.weights_mem_each ht hd n hn)
    simpa using this)
  exact ⟨xs, h1, h2, h3 0 _ rfl⟩
/-- A pure contract, at the row's door. -/
theorem PCtr.door {f : FuncId} {as : List AV} {vs : List Value} {b : Bool} (h : PCtr P f as (.bool b)) (htb : Tb P sto0 w) (hl : vs.length = as.length) (hr : ∀ i a, as[i]? = some a → Rv sto0 w a (vs.getD i undef)) :
    Calls P f vs.toArray w fun e w' => e = .returned (.bool b) ∧ Below w.heap.size w w' := by
  have h := h sto0
  refine Calls.mono (h.2 w vs ?_ htb hl hr) (fun e w' he => ?_)
  · exact ⟨(fun b e hb => by cases hb), (fun b e hb => by cases hb)⟩
  · obtain ⟨v, r, σ', rfl, hs, hsim, hrv, rfl, rfl⟩ := he
    cases hrv
    exact ⟨rfl, hs.os, hs.tape, hs.output, hs.size, fun k hk => (hs.dead k hk (sto0_dead k)).1⟩
end
end Go.Proofs.Shadow
