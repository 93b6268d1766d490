/- The operations that turn no live block: the machine's operation yields what the abstract one says. -/
import Derived.Test.YtjanllllgiehfaaShB
import Derived.Laws.Tables
set_option linter.unusedVariables false
set_option linter.unusedSimpArgs false
namespace Go.Proofs.Shadow
open Go Go.RowKit
theorem add_at0 (b o j : Nat) : (⟨b, o, none⟩ : Addr).add j = ⟨b, o + j, none⟩ := by unfold Addr.add; split <;> simp_all
section
variable {P : Program} {σ : Sto} {w : World}
theorem mem_ok (hs : Sim σ w) {p : AV} {cp : Value} {cs : List AV} (hp : Rv σ w p cp) (h : mem σ p = some cs) :
    ∃ b o, cp = .pointer (some ⟨b, o, none⟩) ∧ ∀ i c, cs[i]? = some c → c.isCell = true ∧ ∃ v, w.cell? ⟨b, o + i, none⟩ = some v ∧ Rv σ w c v := by
  have key : ∀ (b o : Nat) (e : Ent), BlkOk σ w b e → o ≤ e.cells.length → cs = e.cells.drop o → ∀ i c, cs[i]? = some c → c.isCell = true ∧ ∃ v, w.cell? ⟨b, o + i, none⟩ = some v ∧ Rv σ w c v := by
    intro b o e ⟨cv, h1, h2, h3, h4⟩ hle hcs i c hic
    rw [hcs, List.getElem?_drop] at hic
    obtain ⟨h5, h6⟩ := h4 _ _ hic
    have hlt : o + i < cv.size := by have := (List.getElem?_eq_some_iff.1 hic).1; omega
    refine ⟨h5, _, ?_, h6⟩
    rw [cell_of_row w b _ cv e.ty (0, 0) h1]
    simp [hlt]
  cases hp <;> simp only [mem] at h <;> try (cases h; done)
  case ptr b o =>
    cases he : σ.var b with
    | none => simp [he] at h
    | some e =>
      simp only [he, Option.bind_some] at h
      split at h
      · rename_i hle
        injection h with h
        exact ⟨b, o, rfl, key b o e (hs.var b e he).1 hle h.symm⟩
      · cases h
  case optr b o =>
    cases he : σ.own b with
    | none => simp [he] at h
    | some e =>
      simp only [he, Option.bind_some] at h
      split at h
      · rename_i hle
        injection h with h
        exact ⟨b, o, rfl, key b o e (hs.own b e he) hle h.symm⟩
      · cases h
  case ept cs' b o f hd hb hi hf hr =>
    injection h with h
    subst h
    exact ⟨b, o, rfl, fun i c hic => ⟨hi c (List.mem_of_getElem? hic), f i, hf i c hic, hr i c hic⟩⟩
theorem run_isAgg {t : TypeId} {d : TypeDesc} (h : P.underlying t = some d) : (isAgg t).run P w = .ok (isAggD d) w := by
  unfold isAgg
  rw [Sem.run_bind, run_underlying h w]
  cases d <;> rfl
theorem seg_spec {cs r : List AV} {o k : Nat} (h : seg cs o k = some r) : r.length = k ∧ ∀ i c, r[i]? = some c → cs[o + i]? = some c := by
  unfold seg at h
  split at h
  · injection h with h
    subst h
    refine ⟨by simp; omega, fun i c hic => ?_⟩
    rw [List.getElem?_take] at hic
    split at hic
    · rwa [List.getElem?_drop] at hic
    · cases hic
  · cases h
theorem load_ok (hs : Sim σ w) {t : TypeId} {p : AV} {cp : Value} {v : AV} (hp : Rv σ w p cp) (h : aload σ (tk P t) p = some v) :
    ∃ cv, (Instr.loadAt t cp).run P w = .ok cv w ∧ Rv σ w v cv := by
  unfold aload at h
  cases hk : tk P t with
  | none => simp [hk] at h
  | some k =>
    obtain ⟨ag, n⟩ := k
    simp only [hk] at h
    cases hm : mem σ p with
    | none => simp [hm] at h
    | some cs =>
      simp only [hm, Option.bind_some] at h
      obtain ⟨b, o, rfl, hc⟩ := mem_ok hs hp hm
      unfold tk at hk
      cases hi : P.info? t with
      | none => simp [hi] at hk
      | some i =>
        cases hu : P.underlying t with
        | none => simp [hi, hu] at hk
        | some d =>
          simp only [hi, hu, Option.some.injEq, Prod.mk.injEq] at hk
          obtain ⟨hag, hn⟩ := hk
          cases hsg : seg cs 0 (if ag then n else 1) with
          | none => simp [hsg] at h
          | some r =>
            simp only [hsg, Option.bind_some] at h
            obtain ⟨hrl, hr⟩ := seg_spec hsg
            simp only [Nat.zero_add] at hr
            simp only [Instr.loadAt, Instr.sureAddr, Sem.run_bind, Sem.run_pure, Result.andThen_ok, loadVar, run_isAgg hu, hag]
            cases ag with
            | true =>
              simp only [if_true] at hrl h
              simp only [asVal, if_true, Option.some.injEq] at h
              subst h
              have hl : (loadCells ⟨b, o, none⟩ n).run P w = .ok ((List.range n).map fun j => (w.cell? ⟨b, o + j, none⟩).getD undef).toArray w :=
                run_loadCells w _ n _ (fun j hj => by
                  rw [add_at0]
                  obtain ⟨_, v, hv, _⟩ := hc j (r[j]'(by omega)) (hr j _ (List.getElem?_eq_getElem (by omega)))
                  simp [hv])
              refine ⟨.agg ((List.range n).map fun j => (w.cell? ⟨b, o + j, none⟩).getD undef).toArray, by simp [sizeOf, typeInfo, hi, hn, hl], .agg (by simp [hrl]) (fun c hcm => ?_) (fun j c hj => ?_)⟩
              · obtain ⟨j, hj⟩ := List.mem_iff_getElem?.1 hcm
                exact (hc j c (hr j c hj)).1
              · have hjl : j < n := by have := (List.getElem?_eq_some_iff.1 hj).1; omega
                obtain ⟨_, v, hv, hrv⟩ := hc j c (hr j c hj)
                simpa [hjl, hv] using hrv
            | false =>
              simp only [Bool.false_eq_true, if_false] at hrl h ⊢
              simp only [asVal, Bool.false_eq_true, if_false] at h
              cases r with
              | nil => simp at hrl
              | cons c r =>
                cases r with
                | cons c' r => simp at hrl
                | nil =>
                  simp only [Option.some.injEq] at h
                  subst h
                  obtain ⟨_, v, hv, hrv⟩ := hc 0 c (hr 0 c rfl)
                  rw [Nat.add_zero] at hv
                  exact ⟨v, by simp [hv], hrv⟩
theorem field_ok {t : TypeId} {f : Nat} {p : AV} {cp : Value} {v : AV} (hp : Rv σ w p cp) (h : afield (fo P t f) p = some v) :
    ∃ cv, (Instr.fieldAt t cp f).run P w = .ok cv w ∧ Rv σ w v cv := by
  unfold afield at h
  cases hf : fo P t f with
  | none => simp [hf] at h
  | some off =>
    simp only [hf] at h
    unfold fo at hf
    cases hu : P.underlying t with
    | none => simp [hu] at hf
    | some d =>
      cases d <;> simp only [hu] at hf <;> try (cases hf; done)
      rename_i fs
      cases hd : fs[f]? with
      | none => simp [hd] at hf
      | some fd =>
        simp only [hd] at hf
        cases hi : P.info? fd.type with
        | none => simp [hi] at hf
        | some i =>
          simp only [hi] at hf
          split at hf
          · cases hf
          · rename_i hne
            injection hf with hf
            have hrun : ∀ b o, (Instr.fieldAt t (.pointer (some ⟨b, o, none⟩)) f).run P w = .ok (.pointer (some ⟨b, o + off, none⟩)) w := by
              intro b o
              simp [Instr.fieldAt, run_underlying hu, hd, Instr.sureAddr, fieldPlace, sizeOf, typeInfo, hi, hne, hf, add_at0]
            cases hp <;> simp only at h <;> try (cases h; done)
            case ptr b o => injection h with h; subst h; exact ⟨_, hrun b o, .ptr⟩
            case optr b o => injection h with h; subst h; exact ⟨_, hrun b o, .optr⟩
            case ept cs b o g hd hb hi2 hg hr =>
              injection h with h
              subst h
              refine ⟨_, hrun b o, .ept (f := fun i => g (off + i)) hd hb (fun c hc => hi2 c (List.mem_of_mem_drop hc)) (fun i c hic => ?_) (fun i c hic => ?_)⟩
              · rw [List.getElem?_drop] at hic
                rw [Nat.add_assoc]
                exact hg _ c hic
              · rw [List.getElem?_drop] at hic
                exact hr _ c hic
theorem se_spec {t e : TypeId} {sz by_ : Nat} (h : se P t = some (e, sz, by_)) : P.underlying t = some (.slice e) ∧ ∃ i, P.info? e = some i ∧ i.size = sz ∧ i.bytes = by_ := by
  unfold se at h
  cases hu : P.underlying t with
  | none => simp [hu] at h
  | some d =>
    cases d <;> simp only [hu] at h <;> try (cases h; done)
    rename_i e'
    cases hi : P.info? e' with
    | none => simp [hi] at h
    | some i =>
      simp only [hi, Option.map_some, Option.some.injEq, Prod.mk.injEq] at h
      obtain ⟨rfl, rfl, rfl⟩ := h
      exact ⟨rfl, i, hi, rfl, rfl⟩
/-- A row's place among its fellows. -/
theorem flatten_at {α : Type} {sz : Nat} : ∀ (xs : List (List α)) (k j : Nat), (∀ x ∈ xs, x.length = sz) → j < sz → xs.flatten[k * sz + j]? = (xs[k]?).bind (·[j]?)
  | [], k, j, _, _ => by simp
  | x :: xs, 0, j, h, hj => by
    have := h x (by simp)
    simp only [List.flatten_cons, Nat.zero_mul, Nat.zero_add, List.getElem?_cons_zero, Option.bind_some]
    rw [List.getElem?_append_left (by omega)]
  | x :: xs, k + 1, j, h, hj => by
    have hx := h x (by simp)
    simp only [List.flatten_cons, List.getElem?_cons_succ]
    rw [List.getElem?_append_right (by rw [hx, Nat.succ_mul]; omega), show (k + 1) * sz + j - x.length = k * sz + j by rw [hx, Nat.succ_mul]; omega]
    exact flatten_at xs k j (fun y hy => h y (by simp [hy])) hj
theorem idx_ok {t : TypeId} {x i : AV} {cx ci : Value} {v : AV} (hx : Rv σ w x cx) (hi : Rv σ w i ci) (h : aidx σ (se P t) x i = some v) :
    ∃ cv, (Instr.indexAt t cx ci).run P w = .ok cv w ∧ Rv σ w v cv := by
  unfold aidx at h
  cases hk : se P t with
  | none => simp [hk] at h
  | some k =>
    obtain ⟨e, sz, by_⟩ := k
    obtain ⟨hu, it, hit, hsz, _⟩ := se_spec hk
    simp only [hk] at h
    have hrun : ∀ (b o l cap : Nat) (kd : IntKind) (n : Int), 0 ≤ n → n < (l : Int) → (Instr.indexAt t (.slice (some ⟨b, o, none⟩) l cap) (.int kd n)).run P w = .ok (.pointer (some ⟨b, o + n.toNat * sz, none⟩)) w := by
      intro b o l cap kd n h0 h1
      simp [Instr.indexAt, run_underlying hu, asIntOf, sizeOf, typeInfo, hit, hsz, h0, h1, add_at0]
    cases hx <;> cases hi <;> simp only at h <;> try (cases h; done)
    case slE.int c A cap hc kd n => split at h; · rename_i hh; simp at hh; omega
                                    · cases h
    case slC.int c xs b o n cap sz' f hne hn hle hcp hszx hc hd hb hcl hf hr kd m =>
      split at h
      · rename_i hh
        obtain ⟨h0, h1, h2⟩ := hh
        injection h with h
        subst h
        have hml : m.toNat < xs.length := by omega
        have hget : xs.getD m.toNat [] = xs[m.toNat] := by simp [hml]
        have hmem : xs[m.toNat] ∈ xs := List.getElem_mem hml
        have hzz : sz' = sz := by rw [← h2, hget]; exact (hszx _ hmem).symm
        subst hzz
        rw [hget]
        have hat : ∀ i c, xs[m.toNat][i]? = some c → xs.flatten[m.toNat * sz' + i]? = some c := by
          intro i c hic
          have : i < sz' := by have := (List.getElem?_eq_some_iff.1 hic).1; rw [hszx _ hmem] at this; exact this
          rw [flatten_at xs _ i hszx this, List.getElem?_eq_getElem hml]
          exact hic
        refine ⟨_, hrun b o n cap kd m h0 (by omega), .ept (f := fun i => f (m.toNat * sz' + i)) hd hb (fun c hcm => ?_) (fun i c hic => ?_) (fun i c hic => hr _ c (hat i c hic))⟩
        · exact hcl c (List.mem_flatten.2 ⟨_, hmem, hcm⟩)
        · rw [Nat.add_assoc]
          exact hf _ c (hat i c hic)
      · cases h
    case ref.int b n cap hn hcp hcm kd m =>
      split at h
      · rename_i hh
        injection h with h
        subst h
        have := hrun b 0 n cap kd m hh.1 hh.2
        rw [Nat.zero_add] at this
        exact ⟨_, this, .optr⟩
      · cases h
theorem index_ok {t : TypeId} {x i : AV} {cx ci : Value} {v : AV} (hx : Rv σ w x cx) (hi : Rv σ w i ci) (h : aindex (isS P t) x i = some v) :
    ∃ cv, (Instr.index t cx ci).run P w = .ok cv w ∧ Rv σ w v cv := by
  unfold aindex at h
  cases hk : isS P t with
  | false => simp [hk] at h
  | true =>
    have hu : P.underlying t = some .string := by
      unfold isS at hk
      split at hk <;> first | assumption | cases hk
    simp only [hk] at h
    cases hx <;> cases hi <;> simp only at h <;> try (cases h; done)
    rename_i s hs k n
    split at h
    · rename_i hh
      obtain ⟨h0, h1⟩ := hh
      injection h with h
      subst h
      have hlt : n.toNat < s.size := by omega
      have hg : s[n.toNat]? = some (s[n.toNat]'hlt) := by simp [hlt]
      refine ⟨.int .u8 ((s[n.toNat]'hlt).toNat : Int), ?_, ?_⟩
      · generalize s[n.toNat]'hlt = by_ at hg ⊢
        simp only [Instr.index, asIntOf, Sem.run_bind, Sem.run_pure, Result.andThen_ok, run_underlying hu, h0, if_true, hg]
      · have : s.data.toList.getD n.toNat 0 = s[n.toNat]'hlt := by
          have hl2 : n.toNat < s.data.toList.length := by rw [Array.length_toList]; exact hlt
          rw [List.getD_eq_getElem?_getD, List.getElem?_eq_getElem hl2]
          rfl
        rw [this]
        exact .int
    · cases h
theorem len_ok {t ty : TypeId} {x : AV} {cx : Value} {v : AV} (ht : isS P t = true ∨ (se P t).isSome = true) (hx : Rv σ w x cx)
    (h : alenT (isS P t) x = some v) :
    ∃ cv, (Builtin.len_ #[t] ty #[cx]).run P w = .ok cv w ∧ Rv σ w v cv := by
  cases hk : isS P t with
  | true =>
    have hu : P.underlying t = some .string := by
      unfold isS at hk
      split at hk <;> first | assumption | cases hk
    simp only [hk] at h
    cases hx <;> simp only [alenT] at h <;> try (cases h; done)
    injection h with h
    subst h
    exact ⟨_, by simp [Builtin.len_, run_underlying hu, goInt], .int⟩
  | false =>
    rcases ht with ht | ht
    · rw [hk] at ht; cases ht
    · obtain ⟨k, hse⟩ := Option.isSome_iff_exists.1 ht
      obtain ⟨e, sz, by_⟩ := k
      obtain ⟨hu, _⟩ := se_spec hse
      simp only [hk] at h
      cases hx <;> simp only [alenT, alen, Option.map_none, Option.map_some, Option.some.injEq] at h <;> try (cases h; done)
      all_goals (subst h; exact ⟨_, by simp [Builtin.len_, run_underlying hu, goInt]; try rfl, by first | exact .int | (simp_all; exact .int)⟩)
theorem toList_eq_iff (x y : ByteArray) : (x.toList == y.toList) = decide (x = y) := by
  have h : ∀ z : ByteArray, z.toList = z.data.toList := fun z => Go.ByteArray.toList_eq z
  rw [h, h]
  by_cases e : x = y
  · subst e; simp
  · have : ¬ x.data = y.data := fun h => e (by cases x; cases y; simp at h; subst h; rfl)
    simp [e, this]
end
end Go.Proofs.Shadow
