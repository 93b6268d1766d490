/- Arguments that came in, opened: from the reading of a row to abstract values over the empty store. -/
import Derived.Test.YtjanllllgiehfaaFmC
import Derived.WalkKit
import Derived.ProofKit
import Derived.ChangeOld
import Derived.Below
import Derived.SizedLaws
set_option linter.unusedVariables false
set_option linter.unusedSimpArgs false
namespace Go.Proofs.Shadow
open Go Go.RowKit
/-- Nothing is live. -/
def sto0 : Sto := ⟨fun _ => none, fun _ => none⟩
theorem sto0_dead (b : Nat) : sto0.dead b := ⟨rfl, rfl⟩
section
variable {H : Type} {enc : TypeId × Value → H} {P : Program} {w : World}
/-- What reads as type e, reads as cells of some a with Q. -/
def Opn {α : Type} (enc : TypeId × Value → H) (P : Program) (w : World) (k : Nat) (cells : α → List AV) (Q : α → Prop) (e : TypeId) (fuel : Nat) : Prop :=
  ∀ cs x, DataW.trod enc P w 0 (fun _ => true) true fuel e cs = some x → (∀ n ∈ x.1.weights P e, n ≤ reachBytes) →
    ∃ a, Q a ∧ cs.length = k ∧ (cells a).length = k ∧ (∀ c ∈ cells a, c.isCell = true) ∧ ∀ i c, (cells a)[i]? = some c → Rv sto0 w c (cs.getD i undef)
theorem opn_int {k : IntKind} {t : TypeId} (hu : P.underlying t = some (.int k)) (fuel : Nat) : Opn enc P w 1 (fun n => [.int k n]) (fun n => (Lit.int k n).wf = true) t fuel := by
  intro cs x h _
  obtain ⟨n, rfl, rfl, hw⟩ := DataW.trod_int hu h
  refine ⟨n, hw, rfl, rfl, by simp [AV.isCell], fun i c hc => ?_⟩
  cases i with
  | zero => simp at hc; subst hc; exact .int
  | succ i => simp at hc
theorem opn_str {t : TypeId} (hu : P.underlying t = some .string) (fuel : Nat) : Opn enc P w 1 (fun s => [.str s]) (fun s => s.size ≤ 140737488355328) t fuel := by
  intro cs x h hwt
  obtain ⟨s, rfl, rfl, hw⟩ := DataW.trod_string hu h
  have hs : s.size ≤ 140737488355328 := by
    have := hwt s.data.toList.length (by simp [DataW.weights])
    simp [reachBytes] at this
    have e : s.size = s.data.size := rfl
    omega
  refine ⟨s, hs, rfl, rfl, by simp [AV.isCell], fun i c hc => ?_⟩
  cases i with
  | zero => simp at hc; subst hc; exact .str (by omega)
  | succ i => simp at hc
theorem weightsAll_mem {e : TypeId} : ∀ (ds : List (DataW H)) (d : DataW H), d ∈ ds → ∀ n ∈ d.weights P e, n ∈ DataW.weightsAll P e ds
  | [], _, h, _, _ => by simp at h
  | d' :: ds, d, h, n, hn => by
    simp only [DataW.weightsAll, List.mem_append]
    rcases List.mem_cons.1 h with rfl | h
    · exact .inl hn
    · exact .inr (weightsAll_mem ds d h n hn)
theorem opn_sl {α : Type} {cells : α → List AV} {Q : α → Prop} {t e : TypeId} {k : Nat} (hk : 0 < k) (hu : P.underlying t = some (.slice e)) (hc : P.cellsOf e = k) (hb : 0 < P.bytesOf e) {fuel : Nat} (he : ∀ n, n < fuel → Opn enc P w k cells Q e n) :
    Opn enc P w 1 (fun xs : List α => [AV.sl false (xs.map cells)]) (fun xs : List α => xs.length ≤ 140737488355328 ∧ ∀ x ∈ xs, Q x) t fuel := by
  intro cs x h hwt
  rcases DataW.trod_slice hu h with ⟨rfl, rfl⟩ | ⟨a, len, cap, elems, rest, n, rfl, rfl, rfl, hba, hl, hm, hlen, hel, hsp, hns⟩
  · refine ⟨[], ⟨by simp, by simp⟩, rfl, rfl, by simp [AV.isCell], fun i c hc => ?_⟩
    cases i with
    | zero => simp at hc; subst hc; exact .slE (fun h => by cases h)
    | succ i => simp at hc
  subst hc
  have hlb : len ≤ 140737488355328 := by
    have := hwt ((elems.map (·.1)).length * P.bytesOf e + (rest.map (·.1)).length * P.bytesOf e) (by simp [DataW.weights, hu, Nat.add_mul])
    simp [reachBytes, hlen] at this
    have h2 : len * 1 ≤ len * P.bytesOf e := Nat.mul_le_mul_left _ hb
    omega
  have hex : ∀ i : Fin len, ∃ z : α, Q z ∧ (cells z).length = P.cellsOf e ∧ (∀ c ∈ cells z, c.isCell = true) ∧ ∀ j c, (cells z)[j]? = some c → ∃ v, w.cell? (a.add (i.val * P.cellsOf e) |>.add j) = some v ∧ Rv sto0 w c v := by
    intro i
    have h1 := hel i.val i.isLt
    have hi : i.val < elems.length := by rw [hlen]; exact i.isLt
    rw [List.getElem?_eq_getElem hi] at h1
    obtain ⟨cs', h2, h3⟩ := Option.bind_eq_some_iff.1 h1
    obtain ⟨z, z1, z2, z3, z4, z5⟩ := he n (by omega) cs' _ h3 (fun m hm => hwt m (by
      simp only [DataW.weights, hu, List.mem_cons, List.mem_append]
      exact .inr (.inl (weightsAll_mem _ _ (List.mem_map.2 ⟨_, List.getElem_mem hi, rfl⟩) m hm))))
    obtain ⟨_, h5, h6⟩ := World.cells?_some h2
    refine ⟨z, z1, z3, z4, fun j c hjc => ?_⟩
    have hj : j < P.cellsOf e := by rw [← z3]; exact (List.getElem?_eq_some_iff.1 hjc).1
    have h7 := h6 j hj
    have hj2 : j < cs'.length := by omega
    rw [List.getElem?_eq_getElem hj2] at h7
    refine ⟨_, h7, ?_⟩
    have := z5 j c hjc
    simpa [hj2] using this
  have hxs : ∃ xs : List α, xs.length = len ∧ ∀ i (hi : i < len), ∃ z, xs[i]? = some z ∧ Q z ∧ (cells z).length = P.cellsOf e ∧ (∀ c ∈ cells z, c.isCell = true) ∧ ∀ j c, (cells z)[j]? = some c → ∃ v, w.cell? (a.add (i * P.cellsOf e) |>.add j) = some v ∧ Rv sto0 w c v :=
    ⟨List.ofFn fun i => (hex i).choose, by simp, fun i hi => ⟨_, by simp [hi], (hex ⟨i, hi⟩).choose_spec⟩⟩
  obtain ⟨xs, hxl, hx⟩ := hxs
  have hmem : ∀ z ∈ xs, Q z ∧ (cells z).length = P.cellsOf e ∧ ∀ c ∈ cells z, c.isCell = true := by
    intro z hz
    obtain ⟨i, hi⟩ := List.mem_iff_getElem?.1 hz
    have hil := (List.getElem?_eq_some_iff.1 hi).1
    obtain ⟨z', h1, h2, h3, h4, _⟩ := hx i (by omega)
    rw [hi] at h1
    injection h1 with h1
    subst h1
    exact ⟨h2, h3, h4⟩
  refine ⟨xs, ⟨by omega, fun z hz => (hmem z hz).1⟩, rfl, rfl, by simp [AV.isCell], fun i c hc => ?_⟩
  cases i with
  | succ i => simp at hc
  | zero =>
  simp at hc
  subst hc
  show Rv sto0 w (.sl false (xs.map cells)) (.slice (some a) len cap)
  by_cases h0 : len = 0
  · have : xs = [] := by simpa [h0] using hxl
    subst this
    subst h0
    exact .slE (fun h => by cases h)
  have hrow : ∀ r ∈ xs.map cells, r.length = P.cellsOf e := by
    intro r hr
    obtain ⟨z, hz, rfl⟩ := List.mem_map.1 hr
    exact (hmem z hz).2.1
  have hcell : ∀ i c, (xs.map cells).flatten[i]? = some c → ∃ v, w.cell? (a.add i) = some v ∧ Rv sto0 w c v := by
    intro i c hic
    have hd : i = (i / P.cellsOf e) * P.cellsOf e + i % P.cellsOf e := by rw [Nat.mul_comm]; exact (Nat.div_add_mod _ _).symm
    have hlt := Nat.mod_lt i hk
    rw [hd, flatten_at _ _ _ hrow hlt] at hic
    obtain ⟨r, hr1, hr2⟩ := Option.bind_eq_some_iff.1 hic
    rw [List.getElem?_map] at hr1
    obtain ⟨z, hz1, rfl⟩ := Option.map_eq_some_iff.1 hr1
    have hil := (List.getElem?_eq_some_iff.1 hz1).1
    obtain ⟨z', h1, h2, h3, h4, h5⟩ := hx (i / P.cellsOf e) (by omega)
    rw [hz1] at h1
    injection h1 with h1
    subst h1
    obtain ⟨v, hv1, hv2⟩ := h5 _ c hr2
    refine ⟨v, ?_, hv2⟩
    rw [← hv1]
    conv => lhs; rw [hd]
    unfold Addr.add
    generalize i / P.cellsOf e * P.cellsOf e = A
    generalize i % P.cellsOf e = B
    by_cases hA : A = 0
    · subst hA; simp
    · by_cases hB : B = 0
      · subst hB; simp
      · rw [if_neg (by omega), if_neg hB, if_neg hA]
        simp [Nat.add_assoc]
  obtain ⟨z0, q1, q2, q3, q4, q5⟩ := hx 0 (by omega)
  have hz0 : ∃ c0, (cells z0)[0]? = some c0 := ⟨_, List.getElem?_eq_getElem (by omega)⟩
  obtain ⟨c0, hc0⟩ := hz0
  obtain ⟨v0, hv0, _⟩ := q5 0 c0 hc0
  have ha : a.spot = none ∧ a.block < w.heap.size := by
    simp only [Nat.zero_mul, Addr.add, if_true] at hv0
    unfold World.cell? at hv0
    split at hv0
    · rename_i c1 _ _ hh
      split at hv0
      · cases hv0
      · rename_i hs
        exact ⟨by simpa using hs, (Array.getElem?_eq_some_iff.1 hh).1⟩
    · cases hv0
  obtain ⟨b, o, sp⟩ := a
  obtain ⟨ha1, ha2⟩ := ha
  simp only at ha1 ha2
  subst ha1
  have hadd : ∀ i, (⟨b, o, none⟩ : Addr).add i = ⟨b, o + i, none⟩ := by
    intro i
    unfold Addr.add
    split
    · rename_i h; subst h; rfl
    · rfl
  refine Rv.slC (sz := P.cellsOf e) (f := fun i => (w.cell? ⟨b, o + i, none⟩).getD undef) (by intro he; simp at he; subst he; simp at hxl; omega) (by simp [hxl]) (by omega) hl hrow (fun h => by cases h) (sto0_dead b) ha2 ?_ ?_ ?_
  · intro c hc
    obtain ⟨r, hr, hcr⟩ := List.mem_flatten.1 hc
    obtain ⟨z, hz, rfl⟩ := List.mem_map.1 hr
    exact (hmem z hz).2.2 c hcr
  · intro i c hic
    obtain ⟨v, hv, _⟩ := hcell i c hic
    rw [hadd] at hv
    rw [hv]; rfl
  · intro i c hic
    obtain ⟨v, hv, hr⟩ := hcell i c hic
    rw [hadd] at hv
    rw [hv]; exact hr
end
end Go.Proofs.Shadow
