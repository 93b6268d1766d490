/- Forms as data; small laws of rows and numbers for the walks. -/
import Derived.Test.YtilkeeoinbndoaaShM
import Derived.Laws.BitsLemmas
import Derived.WalkKit
import Derived.ProofKit
import Derived.ChangeOld
import Derived.Below
import Derived.SizedLaws
import Derived.Laws.BitsAllLaws
import Derived.Lib.LaidTab
import Derived.Stop.LaidErr
section
set_option linter.unusedVariables false
set_option linter.unusedSimpArgs false
namespace Go.Proofs.Shadow
open Go Go.RowKit
inductive Fm where
  | mk (kind : Int) (name : ByteArray) (n : Int) (sc : List Int) (kids : List Fm)
def ints (l : List Int) : List (List AV) := l.map fun x => [.int .i64 x]
def strs (l : List ByteArray) : List (List AV) := l.map fun x => [.str x]
mutual
def Fm.cells : Fm → List AV
  | .mk k s n sc ks => [.int .i64 k, .str s, .int .i64 n, .sl false (ints sc), .sl false (Fm.rows ks)]
def Fm.rows : List Fm → List (List AV)
  | [] => []
  | f :: fs => f.cells :: Fm.rows fs
end
def Fm.kind : Fm → Int | .mk k _ _ _ _ => k
def Fm.name : Fm → ByteArray | .mk _ s _ _ _ => s
def Fm.num : Fm → Int | .mk _ _ n _ _ => n
def Fm.sc : Fm → List Int | .mk _ _ _ c _ => c
def Fm.kids : Fm → List Fm | .mk _ _ _ _ ks => ks
def Fm.zero : Fm := .mk 0 (ByteArray.mk #[]) 0 [] []
instance : Inhabited Fm := ⟨Fm.zero⟩
theorem Fm.cells_len (f : Fm) : f.cells.length = 5 := by cases f; simp [Fm.cells]
theorem Fm.rows_eq : ∀ fs : List Fm, Fm.rows fs = fs.map Fm.cells
  | [] => rfl
  | f :: fs => by rw [Fm.rows, Fm.rows_eq fs]; rfl
theorem Fm.rows_len (fs : List Fm) : (Fm.rows fs).length = fs.length := by rw [Fm.rows_eq]; simp
theorem ints_len (l : List Int) : (ints l).length = l.length := by simp [ints]
theorem strs_len (l : List ByteArray) : (strs l).length = l.length := by simp [strs]
theorem aidx_rows {xs : List (List AV)} {i : Nat} {sz by_ : Nat} {e : TypeId} {c : Bool} {k : IntKind} {σ : Sto} (hi : i < xs.length) (hs : (xs[i]).length = sz) : aidx σ (some (e, sz, by_)) (.sl c xs) (.int k (i : Int)) = some (.ept xs[i]) := by
  have h1 : xs.getD i [] = xs[i] := by simp [hi]
  simp only [aidx, Int.toNat_natCast, h1]
  rw [if_pos ⟨by omega, by omega, hs⟩]
theorem wrap_id {a : Int} (h1 : -9223372036854775808 ≤ a) (h2 : a < 9223372036854775808) : IntKind.wrap .i64 a = a := by
  rw [IntKind.wrap_i64]; omega
theorem wrap_succ {i : Nat} (h : i < 4611686018427387904) : IntKind.wrap .i64 ((i : Int) + 1) = ((i + 1 : Nat) : Int) := by rw [wrap_id (by omega) (by omega)]; omega
section
variable (k : Int) (s : ByteArray) (n : Int) (sc : List Int) (ks : List Fm)
theorem Fm.kind_mk : (Fm.mk k s n sc ks).kind = k := (rfl)
theorem Fm.name_mk : (Fm.mk k s n sc ks).name = s := (rfl)
theorem Fm.num_mk : (Fm.mk k s n sc ks).num = n := (rfl)
theorem Fm.sc_mk : (Fm.mk k s n sc ks).sc = sc := (rfl)
theorem Fm.kids_mk : (Fm.mk k s n sc ks).kids = ks := (rfl)
end
attribute [go_sem] Fm.rows_len ints_len strs_len Fm.kind_mk Fm.name_mk Fm.num_mk Fm.sc_mk Fm.kids_mk Option.isSome_some Option.isSome_none Bool.or_true Bool.or_false Bool.true_or Bool.false_or
end Go.Proofs.Shadow
end

section
set_option linter.unusedVariables false
set_option linter.unusedSimpArgs false
namespace Go.Proofs.Shadow
open Go Go.RowKit
section
variable {P : Program}
theorem aidx_ref {σ : Sto} {e : TypeId} {sz by_ : Nat} {b l c i : Nat} {k : IntKind} (hi : i < l) : aidx σ (some (e, sz, by_)) (.ref b l c) (.int k (i : Int)) = some (.optr b (i * sz)) := by
  simp only [aidx, Int.toNat_natCast]
  rw [if_pos ⟨by omega, by omega⟩]
theorem alenT_ref (b n c : Nat) : alenT false (.ref b n c) = some (.int .i64 (n : Int)) := (rfl)
theorem set_rows {α : Type} {sz : Nat} (r : List α) (hr : r.length = sz) : ∀ (rows : List (List α)) (i : Nat), (∀ x ∈ rows, x.length = sz) → i < rows.length → rows.flatten.take (i * sz) ++ r ++ rows.flatten.drop (i * sz + r.length) = (rows.set i r).flatten
  | [], i, _, h => by simp at h
  | x :: rows, 0, hx, h => by
    have hl : x.length = sz := hx x (by simp)
    simp [hr, ← hl]
  | x :: rows, i + 1, hx, h => by
    have hl : x.length = sz := hx x (by simp)
    have ih := set_rows r hr rows i (fun y hy => hx y (by simp [hy])) (by simpa using h)
    simp only [List.flatten_cons, List.set_cons_succ, Nat.add_mul, Nat.one_mul]
    rw [← ih, Nat.add_comm (i * sz) sz, ← hl, List.take_length_add_append, Nat.add_assoc, List.drop_length_add_append]
    simp
theorem setOwn_setOwn (σ : Sto) (b : Nat) (e e' : Ent) : (σ.setOwn b e).setOwn b e' = σ.setOwn b e' := by
  simp only [Sto.setOwn]
  congr 1
  funext i
  split <;> rfl
/-- Rows of ours, handed back as data. -/
theorem Wk.mine {σ0 σ : Sto} {e : TypeId} {sz : Nat} {v : AV} {xs : List (List AV)} (h : Mine σ0 σ e sz v xs) (hs : Sub σ0 σ) : Wk σ v σ0 (.sl false xs) := by
  obtain ⟨σ1, h1, h2, _, _, h5⟩ := h.freeze hs
  exact h5.trans (Wk.sub h1 _)
theorem aRet_wk {rs : List ResultVar} {s : AS} {vs : List AV} {σ : Sto} {v : AV} (h : aresL P s rs = some vs) (hw : Wk s.σ (packed vs) σ v) : aRet P rs (fun r σ' => r = v ∧ σ' = σ) s := ⟨vs, h, v, σ, hw, rfl, rfl⟩
theorem agree_upd {lo d e : Nat} {T T' : Nat → AV} {v : AV} (h : (decide (lo ≤ e) || e == d) = true) (k : ∀ i, i < lo → i ≠ d → T' i = T i) : ∀ i, i < lo → i ≠ d → upd T' e v i = T i := fun i h1 h2 => by
  simp only [upd]
  rw [if_neg (fun he => by
    subst he
    simp only [Bool.or_eq_true, decide_eq_true_eq, beq_iff_eq] at h
    rcases h with h | h
    · omega
    · exact h2 h)]
  exact k i h1 h2
theorem agree_low {lo lo' d : Nat} {T T' J : Nat → AV} (h : lo ≤ lo') (k : ∀ i, i < lo → i ≠ d → T' i = T i) : ∀ i, i < lo → i ≠ d → low lo' J T' i = T i := fun i h1 h2 => by
  simp only [low]
  rw [if_pos (by omega)]
  exact k i h1 h2
end
theorem Fm.ind {p : Fm → Prop} (h : ∀ f, (∀ g ∈ f.kids, p g) → p f) (f : Fm) : p f := by
  have : ∀ n (f : Fm), SizeOf.sizeOf f ≤ n → p f := by
    intro n
    induction n with
    | zero => intro f hf; cases f; simp at hf
    | succ n ih =>
      intro f hf
      refine h f (fun g hg => ih g ?_)
      cases f with
      | mk k s m sc ks =>
        have := List.sizeOf_lt_of_mem (show g ∈ ks from hg)
        simp at hf
        omega
  exact this _ f (Nat.le_refl _)
attribute [go_sem] alenT_ref setOwn_setOwn
end Go.Proofs.Shadow
end

section
set_option linter.unusedVariables false
set_option linter.unusedSimpArgs false
namespace Go.Proofs.Shadow
open Go Go.RowKit
theorem agree_updR {lo d e : Nat} {T T' : Nat → AV} {v : AV} (h : (decide (lo ≤ e) || e == d) = true) (k : ∀ i, i < lo → i ≠ d → T' i = T i) : ∀ i, i < lo → i ≠ d → T' i = upd T e v i := fun i h1 h2 => (agree_upd h (fun i h1 h2 => (k i h1 h2).symm) i h1 h2).symm
theorem agree_lowR {lo lo' d : Nat} {T T' J : Nat → AV} (h : lo ≤ lo') (k : ∀ i, i < lo → i ≠ d → T' i = T i) : ∀ i, i < lo → i ≠ d → T' i = low lo' J T i := fun i h1 h2 => (agree_low h (fun i h1 h2 => (k i h1 h2).symm) i h1 h2).symm
theorem packed_one (v : AV) : packed [v] = v := (rfl)
theorem packed_two (a b : AV) : packed [a, b] = .tup [a, b] := (rfl)
theorem packed_three (a b c : AV) : packed [a, b, c] = .tup [a, b, c] := (rfl)
theorem packed_nil : packed [] = .tup [] := (rfl)
mutual
def Fm.sz : Fm → Nat
  | .mk _ s _ sc ks => s.size + sc.length + ks.length + Fm.szL ks
def Fm.szL : List Fm → Nat
  | [] => 0
  | f :: fs => f.sz + Fm.szL fs
end
/-- 1 for the name x. -/
def hit (x : ByteArray) (k : Int) (s : ByteArray) : Nat := if k = 1 ∧ s = x then 1 else 0
/-- Sums over lists. -/
def sumL {α : Type} (g : α → Nat) : List α → Nat
  | [] => 0
  | a :: as => g a + sumL g as
theorem sumL_app {α : Type} (g : α → Nat) : ∀ a b, sumL g (a ++ b) = sumL g a + sumL g b
  | [], b => by simp [sumL]
  | f :: a, b => by simp [sumL, sumL_app g a b]; omega
theorem sumL_take {α : Type} (g : α → Nat) (ks : List α) (i : Nat) (h : i < ks.length) : sumL g (ks.take (i + 1)) = sumL g (ks.take i) + g ks[i] := by
  rw [List.take_succ_eq_append_getElem h, sumL_app]; simp [sumL]
theorem sumL_le {α : Type} (g : α → Nat) (ks : List α) (i : Nat) : sumL g (ks.take i) ≤ sumL g ks := by
  conv => rhs; rw [← List.take_append_drop i ks, sumL_app]
  omega
theorem sumL_mem {α : Type} (g : α → Nat) : ∀ (ks : List α) (a : α), a ∈ ks → g a ≤ sumL g ks
  | [], _, h => by simp at h
  | k :: ks, a, h => by
    simp only [sumL]
    rcases List.mem_cons.1 h with rfl | h
    · omega
    · have := sumL_mem g ks a h; omega
mutual
/-- How many forms. -/
def Fm.nodes : Fm → Nat
  | .mk _ _ _ _ ks => 1 + Fm.nodesL ks
def Fm.nodesL : List Fm → Nat
  | [] => 0
  | f :: fs => f.nodes + Fm.nodesL fs
end
theorem Fm.nodesL_eq : ∀ ks, Fm.nodesL ks = sumL Fm.nodes ks
  | [] => rfl
  | f :: fs => by rw [Fm.nodesL, Fm.nodesL_eq fs]; rfl
theorem Fm.nodes_eq (f : Fm) : f.nodes = 1 + sumL Fm.nodes f.kids := by cases f; simp [Fm.nodes, Fm.nodesL_eq, Fm.kids]
theorem Fm.szL_eq : ∀ ks, Fm.szL ks = sumL Fm.sz ks
  | [] => rfl
  | f :: fs => by rw [Fm.szL, Fm.szL_eq fs]; rfl
theorem Fm.sz_eq (f : Fm) : f.sz = f.name.size + f.sc.length + f.kids.length + sumL Fm.sz f.kids := by cases f; simp [Fm.sz, Fm.szL_eq, Fm.name, Fm.sc, Fm.kids]
theorem Fm.sz_kid {f g : Fm} (h : g ∈ f.kids) : g.sz ≤ f.sz := by
  have := sumL_mem Fm.sz f.kids g h
  rw [Fm.sz_eq f]; omega
theorem sumL_le_len {α : Type} (g g' : α → Nat) : ∀ (ks : List α), (∀ a ∈ ks, g a ≤ g' a + 1) → sumL g ks ≤ sumL g' ks + ks.length
  | [], _ => by simp [sumL]
  | k :: ks, h => by
    simp only [sumL, List.length_cons]
    have := sumL_le_len g g' ks (fun a ha => h a (by simp [ha]))
    have := h k (by simp)
    omega
theorem Fm.take5 (f : Fm) : f.cells.take 5 = f.cells := List.take_of_length_le (by rw [f.cells_len]; exact Nat.le_refl _)
theorem Fm.drop5 (f : Fm) : f.cells.drop 5 = [] := List.drop_eq_nil_of_le (by rw [f.cells_len]; exact Nat.le_refl _)
theorem Fm.nodes_le (f : Fm) : f.nodes ≤ f.sz + 1 := by
  induction f using Fm.ind with
  | h f ih =>
  rw [Fm.nodes_eq, Fm.sz_eq]
  have := sumL_le_len Fm.nodes Fm.sz f.kids ih
  omega
noncomputable instance : DecidableEq Fm := fun _ _ => Classical.propDecidable _
mutual
/-- A form and all below it, in the order of the text. -/
def Fm.all : Fm → List Fm
  | .mk k s n sc ks => .mk k s n sc ks :: Fm.allL ks
def Fm.allL : List Fm → List Fm
  | [] => []
  | f :: fs => f.all ++ Fm.allL fs
end
theorem Fm.allL_mem : ∀ (ks : List Fm) (g h : Fm), g ∈ ks → h ∈ g.all → h ∈ Fm.allL ks
  | [], _, _, h, _ => by simp at h
  | k :: ks, g, h, h1, h2 => by
    simp only [Fm.allL, List.mem_append]
    rcases List.mem_cons.1 h1 with rfl | h1
    · exact .inl h2
    · exact .inr (Fm.allL_mem ks g h h1 h2)
/-- Lengths that the machine can hold. -/
def Fm.Ok (f : Fm) : Prop := ∀ g ∈ f.all, g.name.size ≤ 4611686018427387904 ∧ g.sc.length ≤ 4611686018427387904 ∧ g.kids.length ≤ 4611686018427387904
theorem Fm.Ok.kid {f g : Fm} (h : f.Ok) (hg : g ∈ f.kids) : g.Ok := fun x hx => h x (by
  obtain ⟨k, s, n, sc, ks⟩ := f
  simp only [Fm.all, List.mem_cons]
  exact .inr (Fm.allL_mem ks g x hg hx))
theorem Fm.Ok.self {f : Fm} (h : f.Ok) : f.name.size ≤ 4611686018427387904 ∧ f.sc.length ≤ 4611686018427387904 ∧ f.kids.length ≤ 4611686018427387904 := h f (by obtain ⟨k, s, n, sc, ks⟩ := f; simp [Fm.all])
attribute [go_sem] Fm.take5 Fm.drop5 Fm.cells_len aresL ares1 packed_one packed_two packed_three packed_nil
end Go.Proofs.Shadow
end

section
set_option linter.unusedVariables false
set_option linter.unusedSimpArgs false
namespace Go.Proofs.Shadow
open Go Go.RowKit
/-- Nothing is live. -/
def sto0 : Sto := ⟨fun _ => none, fun _ => none⟩
theorem sto0_dead (b : Nat) : sto0.dead b := ⟨rfl, rfl⟩
section
variable {H : Type} {enc : TypeId × Value → H} {P : Program} {w : World}
/-- What reads as type e, reads as cells of some a with Q. -/
def Opn {α : Type} (enc : TypeId × Value → H) (P : Program) (w : World) (k : Nat) (cells : α → List AV) (Q : α → Prop) (e : TypeId) (fuel : Nat) : Prop :=
  ∀ cs x, DataW.trod enc P w 0 (fun _ => true) true fuel e cs = some x → (∀ n ∈ x.1.weights P e, n ≤ reachBytes) →
    ∃ a, Q a ∧ cs.length = k ∧ (cells a).length = k ∧ (∀ c ∈ cells a, c.isCell = true) ∧ ∀ i c, (cells a)[i]? = some c → Rv sto0 w c (cs.getD i undef)
theorem opn_int {k : IntKind} {t : TypeId} (hu : P.underlying t = some (.int k)) (fuel : Nat) : Opn enc P w 1 (fun n => [.int k n]) (fun n => (Lit.int k n).wf = true) t fuel := by
  intro cs x h _
  obtain ⟨n, rfl, rfl, hw⟩ := DataW.trod_int hu h
  refine ⟨n, hw, rfl, rfl, by simp [AV.isCell], fun i c hc => ?_⟩
  cases i with
  | zero => simp at hc; subst hc; exact .int
  | succ i => simp at hc
theorem opn_str {t : TypeId} (hu : P.underlying t = some .string) (fuel : Nat) : Opn enc P w 1 (fun s => [.str s]) (fun s => s.size ≤ 140737488355328) t fuel := by
  intro cs x h hwt
  obtain ⟨s, rfl, rfl, hw⟩ := DataW.trod_string hu h
  have hs : s.size ≤ 140737488355328 := by
    have := hwt s.data.toList.length (by simp [DataW.weights])
    simp [reachBytes] at this
    have e : s.size = s.data.size := rfl
    omega
  refine ⟨s, hs, rfl, rfl, by simp [AV.isCell], fun i c hc => ?_⟩
  cases i with
  | zero => simp at hc; subst hc; exact .str (by omega)
  | succ i => simp at hc
theorem weightsAll_mem {e : TypeId} : ∀ (ds : List (DataW H)) (d : DataW H), d ∈ ds → ∀ n ∈ d.weights P e, n ∈ DataW.weightsAll P e ds
  | [], _, h, _, _ => by simp at h
  | d' :: ds, d, h, n, hn => by
    simp only [DataW.weightsAll, List.mem_append]
    rcases List.mem_cons.1 h with rfl | h
    · exact .inl hn
    · exact .inr (weightsAll_mem ds d h n hn)
theorem opn_sl {α : Type} {cells : α → List AV} {Q : α → Prop} {t e : TypeId} {k : Nat} (hk : 0 < k) (hu : P.underlying t = some (.slice e)) (hc : P.cellsOf e = k) (hb : 0 < P.bytesOf e) {fuel : Nat} (he : ∀ n, n < fuel → Opn enc P w k cells Q e n) :
    Opn enc P w 1 (fun xs : List α => [AV.sl false (xs.map cells)]) (fun xs : List α => xs.length ≤ 140737488355328 ∧ ∀ x ∈ xs, Q x) t fuel := by
  intro cs x h hwt
  rcases DataW.trod_slice hu h with ⟨rfl, rfl⟩ | ⟨a, len, cap, elems, rest, n, rfl, rfl, rfl, hba, hl, hm, hlen, hel, hsp, hns⟩
  · refine ⟨[], ⟨by simp, by simp⟩, rfl, rfl, by simp [AV.isCell], fun i c hc => ?_⟩
    cases i with
    | zero => simp at hc; subst hc; exact .slE (fun h => by cases h)
    | succ i => simp at hc
  subst hc
  have hlb : len ≤ 140737488355328 := by
    have := hwt ((elems.map (·.1)).length * P.bytesOf e + (rest.map (·.1)).length * P.bytesOf e) (by simp [DataW.weights, hu, Nat.add_mul])
    simp [reachBytes, hlen] at this
    have h2 : len * 1 ≤ len * P.bytesOf e := Nat.mul_le_mul_left _ hb
    omega
  have hex : ∀ i : Fin len, ∃ z : α, Q z ∧ (cells z).length = P.cellsOf e ∧ (∀ c ∈ cells z, c.isCell = true) ∧ ∀ j c, (cells z)[j]? = some c → ∃ v, w.cell? (a.add (i.val * P.cellsOf e) |>.add j) = some v ∧ Rv sto0 w c v := by
    intro i
    have h1 := hel i.val i.isLt
    have hi : i.val < elems.length := by rw [hlen]; exact i.isLt
    rw [List.getElem?_eq_getElem hi] at h1
    obtain ⟨cs', h2, h3⟩ := Option.bind_eq_some_iff.1 h1
    obtain ⟨z, z1, z2, z3, z4, z5⟩ := he n (by omega) cs' _ h3 (fun m hm => hwt m (by
      simp only [DataW.weights, hu, List.mem_cons, List.mem_append]
      exact .inr (.inl (weightsAll_mem _ _ (List.mem_map.2 ⟨_, List.getElem_mem hi, rfl⟩) m hm))))
    obtain ⟨_, h5, h6⟩ := World.cells?_some h2
    refine ⟨z, z1, z3, z4, fun j c hjc => ?_⟩
    have hj : j < P.cellsOf e := by rw [← z3]; exact (List.getElem?_eq_some_iff.1 hjc).1
    have h7 := h6 j hj
    have hj2 : j < cs'.length := by omega
    rw [List.getElem?_eq_getElem hj2] at h7
    refine ⟨_, h7, ?_⟩
    have := z5 j c hjc
    simpa [hj2] using this
  have hxs : ∃ xs : List α, xs.length = len ∧ ∀ i (hi : i < len), ∃ z, xs[i]? = some z ∧ Q z ∧ (cells z).length = P.cellsOf e ∧ (∀ c ∈ cells z, c.isCell = true) ∧ ∀ j c, (cells z)[j]? = some c → ∃ v, w.cell? (a.add (i * P.cellsOf e) |>.add j) = some v ∧ Rv sto0 w c v :=
    ⟨List.ofFn fun i => (hex i).choose, by simp, fun i hi => ⟨_, by simp [hi], (hex ⟨i, hi⟩).choose_spec⟩⟩
  obtain ⟨xs, hxl, hx⟩ := hxs
  have hmem : ∀ z ∈ xs, Q z ∧ (cells z).length = P.cellsOf e ∧ ∀ c ∈ cells z, c.isCell = true := by
    intro z hz
    obtain ⟨i, hi⟩ := List.mem_iff_getElem?.1 hz
    have hil := (List.getElem?_eq_some_iff.1 hi).1
    obtain ⟨z', h1, h2, h3, h4, _⟩ := hx i (by omega)
    rw [hi] at h1
    injection h1 with h1
    subst h1
    exact ⟨h2, h3, h4⟩
  refine ⟨xs, ⟨by omega, fun z hz => (hmem z hz).1⟩, rfl, rfl, by simp [AV.isCell], fun i c hc => ?_⟩
  cases i with
  | succ i => simp at hc
  | zero =>
  simp at hc
  subst hc
  show Rv sto0 w (.sl false (xs.map cells)) (.slice (some a) len cap)
  by_cases h0 : len = 0
  · have : xs = [] := by simpa [h0] using hxl
    subst this
    subst h0
    exact .slE (fun h => by cases h)
  have hrow : ∀ r ∈ xs.map cells, r.length = P.cellsOf e := by
    intro r hr
    obtain ⟨z, hz, rfl⟩ := List.mem_map.1 hr
    exact (hmem z hz).2.1
  have hcell : ∀ i c, (xs.map cells).flatten[i]? = some c → ∃ v, w.cell? (a.add i) = some v ∧ Rv sto0 w c v := by
    intro i c hic
    have hd : i = (i / P.cellsOf e) * P.cellsOf e + i % P.cellsOf e := by rw [Nat.mul_comm]; exact (Nat.div_add_mod _ _).symm
    have hlt := Nat.mod_lt i hk
    rw [hd, flatten_at _ _ _ hrow hlt] at hic
    obtain ⟨r, hr1, hr2⟩ := Option.bind_eq_some_iff.1 hic
    rw [List.getElem?_map] at hr1
    obtain ⟨z, hz1, rfl⟩ := Option.map_eq_some_iff.1 hr1
    have hil := (List.getElem?_eq_some_iff.1 hz1).1
    obtain ⟨z', h1, h2, h3, h4, h5⟩ := hx (i / P.cellsOf e) (by omega)
    rw [hz1] at h1
    injection h1 with h1
    subst h1
    obtain ⟨v, hv1, hv2⟩ := h5 _ c hr2
    refine ⟨v, ?_, hv2⟩
    rw [← hv1]
    conv => lhs; rw [hd]
    unfold Addr.add
    generalize i / P.cellsOf e * P.cellsOf e = A
    generalize i % P.cellsOf e = B
    by_cases hA : A = 0
    · subst hA; simp
    · by_cases hB : B = 0
      · subst hB; simp
      · rw [if_neg (by omega), if_neg hB, if_neg hA]
        simp [Nat.add_assoc]
  obtain ⟨z0, q1, q2, q3, q4, q5⟩ := hx 0 (by omega)
  have hz0 : ∃ c0, (cells z0)[0]? = some c0 := ⟨_, List.getElem?_eq_getElem (by omega)⟩
  obtain ⟨c0, hc0⟩ := hz0
  obtain ⟨v0, hv0, _⟩ := q5 0 c0 hc0
  have ha : a.spot = none ∧ a.block < w.heap.size := by
    simp only [Nat.zero_mul, Addr.add, if_true] at hv0
    unfold World.cell? at hv0
    split at hv0
    · rename_i c1 _ _ hh
      split at hv0
      · cases hv0
      · rename_i hs
        exact ⟨by simpa using hs, (Array.getElem?_eq_some_iff.1 hh).1⟩
    · cases hv0
  obtain ⟨b, o, sp⟩ := a
  obtain ⟨ha1, ha2⟩ := ha
  simp only at ha1 ha2
  subst ha1
  have hadd : ∀ i, (⟨b, o, none⟩ : Addr).add i = ⟨b, o + i, none⟩ := by
    intro i
    unfold Addr.add
    split
    · rename_i h; subst h; rfl
    · rfl
  refine Rv.slC (sz := P.cellsOf e) (f := fun i => (w.cell? ⟨b, o + i, none⟩).getD undef) (by intro he; simp at he; subst he; simp at hxl; omega) (by simp [hxl]) (by omega) hl hrow (fun h => by cases h) (sto0_dead b) ha2 ?_ ?_ ?_
  · intro c hc
    obtain ⟨r, hr, hcr⟩ := List.mem_flatten.1 hc
    obtain ⟨z, hz, rfl⟩ := List.mem_map.1 hr
    exact (hmem z hz).2.2 c hcr
  · intro i c hic
    obtain ⟨v, hv, _⟩ := hcell i c hic
    rw [hadd] at hv
    rw [hv]; rfl
  · intro i c hic
    obtain ⟨v, hv, hr⟩ := hcell i c hic
    rw [hadd] at hv
    rw [hv]; exact hr
end
end Go.Proofs.Shadow
end

section
set_option linter.unusedVariables false
set_option linter.unusedSimpArgs false
namespace Go.Proofs.Shadow
open Go Go.RowKit
/-- A struct's fields: type and place. -/
def flds (P : Program) (t : TypeId) : Option (List (TypeId × Nat)) := match P.underlying t with | some (.struct fs) => some (fs.toList.map fun f => (f.type, f.offset)) | _ => none
/-- A slice's element type, of so many cells. -/
def slOf (P : Program) (t : TypeId) : Option (TypeId × Nat × Bool) := match P.underlying t with | some (.slice e) => some (e, P.cellsOf e, decide (0 < P.bytesOf e)) | _ => none
section
variable {H : Type} {enc : TypeId × Value → H} {P : Program} {w : World}
theorem Fm.allL_of : ∀ (ks : List Fm) (g : Fm), g ∈ Fm.allL ks → ∃ k ∈ ks, g ∈ k.all
  | [], _, h => by simp [Fm.allL] at h
  | k :: ks, g, h => by
    simp only [Fm.allL, List.mem_append] at h
    rcases h with h | h
    · exact ⟨k, by simp, h⟩
    · obtain ⟨k', h1, h2⟩ := Fm.allL_of ks g h
      exact ⟨k', by simp [h1], h2⟩
theorem fld_open {t : TypeId} {l : List (TypeId × Nat)} (hl : flds P t = some l) {fuel : Nat} {cs : List Value} {x : DataW H × List MemPlace} (h : DataW.trod enc P w 0 (fun _ => true) true fuel t cs = some x) :
    ∃ n, fuel = n + 1 ∧ cs.length = P.cellsOf t ∧ ∀ (i : Nat) (ty : TypeId) (off : Nat), l[i]? = some (ty, off) → ∃ y, DataW.trod enc P w 0 (fun _ => true) true n ty ((cs.drop off).take (P.cellsOf ty)) = some y ∧ ∀ m ∈ y.1.weights P ty, m ∈ x.1.weights P t := by
  unfold flds at hl
  split at hl
  · rename_i fs hu
    injection hl with hl
    subst hl
    obtain ⟨xs, n, rfl, rfl, h1, h2, h3⟩ := DataW.trod_struct hu h
    refine ⟨n, rfl, h1, fun i ty off hi => ?_⟩
    rw [List.getElem?_map] at hi
    obtain ⟨f, hf, he⟩ := Option.map_eq_some_iff.1 hi
    injection he with he1 he2
    subst he1; subst he2
    have hi2 : i < xs.length := by rw [h2]; have := (List.getElem?_eq_some_iff.1 hf).1; simpa using this
    have h4 := h3 i f (by simpa using hf)
    rw [List.getElem?_eq_getElem hi2] at h4
    refine ⟨_, h4, fun m hm => ?_⟩
    simp only [DataW.weights, hu]
    exact DataW.weights_mem_each (j := i) (t := f.type) (d := (xs[i]).1) (by rw [List.getElem?_map, hf]; rfl) (by rw [List.getElem?_map, List.getElem?_eq_getElem hi2]; rfl) m hm
  · cases hl
theorem slOf_und {t e : TypeId} {k : Nat} (h : slOf P t = some (e, k, true)) : P.underlying t = some (.slice e) ∧ P.cellsOf e = k ∧ 0 < P.bytesOf e := by
  unfold slOf at h
  split at h
  · rename_i e' hu
    injection h with h
    injection h with h1 h2
    injection h2 with h2 h3
    subst h1
    exact ⟨hu, h2, by simpa using h3⟩
  · cases h
theorem getD_seg {cs : List Value} {o k j : Nat} (hj : j < k) : ((cs.drop o).take k).getD j undef = cs.getD (o + j) undef := by
  simp only [List.getD_eq_getElem?_getD]
  rw [List.getElem?_take_of_lt hj, List.getElem?_drop]
/-- The types of a form, as the program has them. -/
structure FormTy (P : Program) (tF tI tS tLI tLF : TypeId) : Prop where
  fF : flds P tF = some [(tI, 0), (tS, 1), (tI, 2), (tLI, 3), (tLF, 4)]
  cF : P.cellsOf tF = 5
  cI : P.cellsOf tI = 1
  cS : P.cellsOf tS = 1
  cLI : P.cellsOf tLI = 1
  cLF : P.cellsOf tLF = 1
  uI : P.underlying tI = some (.int .i64)
  uS : P.underlying tS = some .string
  uLI : slOf P tLI = some (tI, 1, true)
  uLF : slOf P tLF = some (tF, 5, true)
theorem one_cell {cs : List Value} {o k : Nat} {c : AV} (hk : k = 1) (h : ∀ i c', [c][i]? = some c' → Rv sto0 w c' (((cs.drop o).take k).getD i undef)) : Rv sto0 w c (cs.getD o undef) := by
  have := h 0 c rfl
  rw [getD_seg (by omega)] at this
  exact this
theorem opn_fm {tF tI tS tLI tLF : TypeId} (T : FormTy P tF tI tS tLI tLF) : ∀ fuel, Opn enc P w 5 Fm.cells Fm.Ok tF fuel := by
  intro fuel
  induction fuel using Nat.strongRecOn with
  | ind fuel ih =>
  intro cs x h hwt
  obtain ⟨n, rfl, h1, h2⟩ := fld_open T.fF h
  obtain ⟨y0, a0, b0⟩ := h2 0 _ _ rfl
  obtain ⟨y1, a1, b1⟩ := h2 1 _ _ rfl
  obtain ⟨y2, a2, b2⟩ := h2 2 _ _ rfl
  obtain ⟨y3, a3, b3⟩ := h2 3 _ _ rfl
  obtain ⟨y4, a4, b4⟩ := h2 4 _ _ rfl
  obtain ⟨k, _, _, _, _, r0⟩ := opn_int T.uI n _ _ a0 (fun m hm => hwt m (b0 m hm))
  obtain ⟨s, qs, _, _, _, r1⟩ := opn_str T.uS n _ _ a1 (fun m hm => hwt m (b1 m hm))
  obtain ⟨m, _, _, _, _, r2⟩ := opn_int T.uI n _ _ a2 (fun m hm => hwt m (b2 m hm))
  obtain ⟨v1, v2, v3⟩ := slOf_und T.uLI
  obtain ⟨v4, v5, v6⟩ := slOf_und T.uLF
  obtain ⟨sc, qc, _, _, _, r3⟩ := opn_sl (by omega) v1 v2 v3 (fun n _ => opn_int T.uI n) _ _ a3 (fun m hm => hwt m (b3 m hm))
  obtain ⟨ks, qk, _, _, _, r4⟩ := opn_sl (by omega) v4 v5 v6 (fun m hm => ih m (by omega)) _ _ a4 (fun m hm => hwt m (b4 m hm))
  have e0 := one_cell T.cI r0
  have e1 := one_cell T.cS r1
  have e2 := one_cell T.cI r2
  have e3 := one_cell T.cLI r3
  have e4 := one_cell T.cLF r4
  refine ⟨.mk k s m sc ks, ?_, by rw [h1, T.cF], Fm.cells_len _, ?_, ?_⟩
  · intro g hg
    simp only [Fm.all, List.mem_cons] at hg
    rcases hg with rfl | hg
    · exact ⟨by simp only [Fm.name]; omega, by simp only [Fm.sc]; have := qc.1; omega, by simp only [Fm.kids]; have := qk.1; omega⟩
    · obtain ⟨g', h5, h6⟩ := Fm.allL_of ks g hg
      exact qk.2 g' h5 g h6
  · simp [Fm.cells, AV.isCell]
  · rw [Fm.cells, Fm.rows_eq]
    intro i c hc
    match i, hc with
    | 0, hc => simp at hc; subst hc; exact e0
    | 1, hc => simp at hc; subst hc; exact e1
    | 2, hc => simp at hc; subst hc; exact e2
    | 3, hc => simp at hc; subst hc; exact e3
    | 4, hc => simp at hc; subst hc; exact e4
    | i + 5, hc => simp at hc
/-- A form as an argument. -/
theorem open_form {tF tI tS tLI tLF : TypeId} (T : FormTy P tF tI tS tLI tLF) {v : Value} {d : DataW H} {ps : List MemPlace} {base : Nat} {ts : List TypeId} {ds : List (DataW H)} {j : Nat} (hv : Value.okWide P w .any base tF v) (h : DataW.Trod enc P w 0 (fun _ => true) true tF v d ps)
    (hsz : (DataW.weightsEach P ts ds).all (· ≤ reachBytes) = true) (ht : ts[j]? = some tF) (hd : ds[j]? = some d) : ∃ f : Fm, f.Ok ∧ Rv sto0 w (.agg f.cells) v := by
  obtain ⟨fuel, hf⟩ := h
  have hfl := T.fF
  unfold flds at hfl
  split at hfl
  · rename_i fs hu
    simp only [Value.okWide, hu] at hv
    obtain ⟨cs, rfl, hcs, _⟩ := hv
    obtain ⟨f, hok, h1, h2, h3, h4⟩ := opn_fm T fuel _ _ hf (fun n hn => by
      have := List.all_eq_true.1 hsz n (DataW.weights_mem_each ht hd n hn)
      simpa using this)
    simp only [Value.cells] at h1 h4
    refine ⟨f, hok, .agg (by rw [h2]; simpa using h1.symm) h3 (fun i c hc => ?_)⟩
    have := h4 i c hc
    simpa [List.getD_eq_getElem?_getD] using this
  · cases hfl
theorem open_str_sz {t : TypeId} {v : Value} {d : DataW H} {ps : List MemPlace} {base : Nat} {ts : List TypeId} {ds : List (DataW H)} {j : Nat} (hu : P.underlying t = some .string) (hv : Value.okWide P w .any base t v) (h : DataW.Trod enc P w 0 (fun _ => true) true t v d ps)
    (hsz : (DataW.weightsEach P ts ds).all (· ≤ reachBytes) = true) (ht : ts[j]? = some t) (hd : ds[j]? = some d) : ∃ s : ByteArray, s.size ≤ 140737488355328 ∧ Rv sto0 w (.str s) v := by
  obtain ⟨s, rfl, rfl, rfl, _⟩ := Go.ChangeMaps.open_string hu hv h
  have := sized_string hsz ht hd
  simp [reachBytes] at this
  have e : s.size = s.data.size := rfl
  exact ⟨s, by omega, .str (by omega)⟩
/-- A slice as an argument: of elements that open. -/
theorem open_slice_arg {α : Type} {cells : α → List AV} {Q : α → Prop} {t e : TypeId} {k : Nat} (hk : 0 < k) (hu : slOf P t = some (e, k, true)) (he : ∀ n, Opn enc P w k cells Q e n) {v : Value} {d : DataW H} {ps : List MemPlace} {base : Nat} {ts : List TypeId} {ds : List (DataW H)} {j : Nat}
    (hv : Value.okWide P w .any base t v) (h : DataW.Trod enc P w 0 (fun _ => true) true t v d ps) (hsz : (DataW.weightsEach P ts ds).all (· ≤ reachBytes) = true) (ht : ts[j]? = some t) (hd : ds[j]? = some d) :
    ∃ xs : List α, xs.length ≤ 140737488355328 ∧ (∀ x ∈ xs, Q x) ∧ Rv sto0 w (.sl false (xs.map cells)) v := by
  obtain ⟨u1, u2, u3⟩ := slOf_und hu
  obtain ⟨a, len, cap, rfl⟩ := Go.WideShapes.okWide_slice u1 hv
  obtain ⟨fuel, hf⟩ := h
  obtain ⟨xs, ⟨h1, h2⟩, _, _, _, h3⟩ := opn_sl hk u1 u2 u3 (fun n _ => he n) _ _ hf (fun n hn => by
    have := List.all_eq_true.1 hsz n (DataW.weights_mem_each ht hd n hn)
    simpa using this)
  exact ⟨xs, h1, h2, h3 0 _ rfl⟩
/-- A pure contract, at the row's door. -/
theorem PCtr.door {f : FuncId} {as : List AV} {vs : List Value} {b : Bool} (h : PCtr P f as (.bool b)) (htb : Tb P sto0 w) (hl : vs.length = as.length) (hr : ∀ i a, as[i]? = some a → Rv sto0 w a (vs.getD i undef)) :
    Calls P f vs.toArray w fun e w' => e = .returned (.bool b) ∧ Below w.heap.size w w' := by
  have h := h sto0
  refine Calls.mono (h.2 w vs ?_ htb hl hr) (fun e w' he => ?_)
  · exact ⟨(fun b e hb => by cases hb), (fun b e hb => by cases hb)⟩
  · obtain ⟨v, r, σ', rfl, hs, hsim, hrv, rfl, rfl⟩ := he
    cases hrv
    exact ⟨rfl, hs.os, hs.tape, hs.output, hs.size, fun k hk => (hs.dead k hk (sto0_dead k)).1⟩
end
end Go.Proofs.Shadow
end

section
set_option linter.unusedVariables false
set_option linter.unusedSimpArgs false
namespace Go.Proofs.Shadow
open Go Go.RowKit
def bys (l : List Nat) : List (List AV) := l.map fun (x : Nat) => [.int .u8 (x : Int)]
theorem Wk.val2 {σ σ' : Sto} {r r' : AV} (h : WkV r r') (hs : Sub σ' σ) : Wk σ r σ' r' := (Wk.val h).trans (Wk.sub hs r')
theorem bys_len (l : List Nat) : (bys l).length = l.length := by simp [bys]
theorem tmod_nat (a b : Nat) : (a : Int).tmod (b : Int) = ((a % b : Nat) : Int) := (rfl)
theorem tdiv_nat (a b : Nat) : (a : Int).tdiv (b : Int) = ((a / b : Nat) : Int) := (rfl)
theorem aun_neg (k : IntKind) (n : Int) : aun .neg (.int k n) = some (.int k (k.wrap (0 - n))) := (rfl)
theorem aconv_int (k : IntKind) (u s : Bool) (k' : IntKind) (n : Int) : aconv (some k) u s (.int k' n) = some (.int k (k.wrap n)) := (rfl)
theorem afill_nil (ps : List (Nat × Nat)) (cells : List AV) : afill ps cells [] = some cells := (rfl)
theorem afill_cons (ps : List (Nat × Nat)) (cells : List AV) (i : Nat) (v : AV) (rest : List (Nat × AV)) : afill ps cells ((i, v) :: rest) = (ps[i]?).bind fun p => (avCells v).bind fun cs => if cs.length = p.2 ∧ p.1 + p.2 ≤ cells.length then afill ps (splice cells p.1 cs) rest else none := by
  simp only [afill]
  cases ps[i]? <;> cases avCells v <;> rfl
theorem abuild_eq (z : List AV) (ps : List (Nat × Nat)) (parts : List (Nat × AV)) : abuild (some z) (some ps) parts = (afill ps z parts).map .agg := (rfl)
theorem rowsOf_nil (sz k : Nat) : rowsOf sz k [] = some [] := by cases k <;> rfl
theorem rowsOf_cons (sz k i : Nat) (v : AV) (rest : List (Nat × AV)) : rowsOf sz k ((i, v) :: rest) = (avCells v).bind fun cs => if i = k ∧ cs.length = sz then (rowsOf sz (k + 1) rest).map (cs :: ·) else none := by
  simp only [rowsOf]
  cases avCells v <;> rfl
theorem abslice_eq (e : TypeId) (sz by_ : Nat) (z : Bool) (len : Nat) (parts : List (Nat × AV)) : abslice (some (e, sz, by_)) z len parts = if z = true ∧ len ≤ 16777216 ∧ len * sz ≤ 16777216 ∧ parts.length = len then (rowsOf sz 0 parts).map (.sl true) else none := (rfl)
theorem aslice_str_from {k : Option (TypeId × Nat × Nat)} {s : ByteArray} {l : Nat} {k1 : IntKind} (hl : l ≤ s.size) : aslice true k (.str s) (some (.int k1 (l : Int))) none none = some (.str (s.extract l s.size)) := by
  simp only [aslice, bound, Option.bind_some, Option.isNone_none, Bool.and_self, if_true, Int.toNat_natCast, and_self]
  rw [if_pos ⟨by omega, by omega, by omega⟩]
theorem aGd_introN {P : Program} {t : Bool} {o : Oper} {s : AS} {K : AS → Prop} (h1 : t = false → aop P o s K) (h2 : t = true → K (s.put o.dst skipped)) : aGd P (some (!t)) o s K :=
  aGd_intro (fun h => h1 (by simpa using h)) (fun h => h2 (by simpa using h))
theorem tGd_introN {P : Program} {E : Nat → Prop} {t : Bool} {c : Cl} {o : Oper} {s : AS} {K : AS → Prop} (h1 : t = false → tGd P E (some true) c o s K) (h2 : t = true → K (s.put o.dst skipped)) : tGd P E (some (!t)) c o s K :=
  tGd_intro (fun h => h1 (by simpa using h)) (fun h => h2 (by simpa using h))
/-- A string's byte. -/
def byt (s : ByteArray) (i : Nat) : Int := ((s.data.toList.getD i 0).toNat : Int)
theorem byt_ge (s : ByteArray) (i : Nat) : 0 ≤ byt s i ∧ byt s i < 256 := by
  unfold byt
  have := (s.data.toList.getD i 0).toNat_lt
  omega
theorem aindex_str {s : ByteArray} {i : Nat} {k : IntKind} (h : i < s.size) : aindex true (.str s) (.int k (i : Int)) = some (.int .u8 (byt s i)) := by
  simp only [aindex, Int.toNat_natCast, byt]
  rw [if_pos ⟨by omega, by omega⟩]
/-- σ's blocks but rb are in σ'. -/
structure SubX (rb : Nat) (σ σ' : Sto) : Prop where
  var : ∀ b e, b ≠ rb → σ.var b = some e → σ'.var b = some e
  own : ∀ b e, σ.own b = some e → σ'.own b = some e
theorem SubX.newOwn {rb : Nat} {σ σ' : Sto} (h : SubX rb σ σ') {b : Nat} (hb : σ.dead b) (e : Ent) : SubX rb σ (σ'.setOwn b e) := ⟨h.var, fun x e' he => by
  simp only [Sto.setOwn]; rw [if_neg (fun hh => by subst hh; rw [hb.2] at he; cases he)]; exact h.own x e' he⟩
theorem amax_int (a b : Int) : amax (.int .i64 a) (.int .i64 b) = some (.int .i64 (if b > a then b else a)) := (rfl)
attribute [go_sem] amax_int afill_nil afill_cons abuild_eq rowsOf_nil rowsOf_cons abslice_eq Option.map_none true_and and_true and_self Nat.zero_mul Nat.mul_one Nat.one_mul aun_neg aconv_int bys_len tmod_nat tdiv_nat
end Go.Proofs.Shadow
end

section
set_option linter.unusedVariables false
namespace Go.Proofs.Shadow
open Go Go.RowKit
/-- A table of strings as a row lists it. -/
def strData {H : Type} (zs : List ByteArray) : DataW H := .agg (zs.map fun z => .lit (.string z.data.toList))
theorem cells_of_strs {H : Type} {enc : TypeId × Value → H} {P : Program} {w : World} {base : Nat} {sp : Nat → Bool} {held : Bool} {fuel : Nat} {t e : TypeId} {n : Nat} {cs : List Value} {zs : List ByteArray} {p : List MemPlace}
    (ht : P.underlying t = some (.array n e)) (he : P.underlying e = some .string) (hce : P.cellsOf e = 1) (hct : P.cellsOf t = n)
    (h : DataW.trod enc P w base sp held fuel t cs = some (strData zs, p)) : cs = zs.map fun z => Value.string z := by
  cases fuel with
  | zero => simp [DataW.trod] at h
  | succ fuel =>
    simp only [DataW.trod, ht, hce, hct, Nat.mul_one] at h
    split at h
    · rename_i hl
      obtain ⟨xs, hm, hx⟩ := Option.map_eq_some_iff.1 h
      have hxs : xs.map (·.1) = zs.map fun z => (DataW.lit (.string z.data.toList) : DataW H) := by
        have := congrArg Prod.fst hx
        simpa [strData] using this
      have hxl : xs.length = n := by simpa using Lib.mapM_length hm
      have hzl : zs.length = n := by
        have := congrArg List.length hxs
        simp at this
        omega
      apply List.ext_getElem?
      intro i
      by_cases hi : i < n
      · obtain ⟨b, hb, hf⟩ := Lib.mapM_at hm i i (by simp [hi])
        obtain ⟨z, hc, rfl, _⟩ := DataW.trod_string he hf
        have h1 : cs[i]? = some (.string z) := by
          have := congrArg (·[0]?) hc
          simpa [List.getElem?_take, List.getElem?_drop] using this
        have h2 : (xs.map (·.1))[i]? = some (DataW.lit (.string z.data.toList) : DataW H) := by simp [hb]
        rw [hxs] at h2
        simp only [List.getElem?_map, Option.map_eq_some_iff, DataW.lit.injEq, Lit.string.injEq] at h2
        obtain ⟨z', hz', hz2⟩ := h2
        have : z' = z := by
          cases z'; cases z; simp at hz2 ⊢; exact hz2
        simp [h1, hz', this]
      · rw [List.getElem?_eq_none (by omega), List.getElem?_eq_none (by simp; omega)]
    · cases h
theorem strs_of_head {P : Program} {W : World} {name : String} {zs : List ByteArray} {rest : List (String × DataW Unit)} {g : Nat} {t e : TypeId} {n : Nat}
    (hg : P.globalNamed name = some g) (hty : (P.globals[g]?).map (·.type) = some t) (ht : P.underlying t = some (.array n e)) (he : P.underlying e = some .string) (hce : P.cellsOf e = 1) (hct : P.cellsOf t = n)
    (h : laidMet P ((name, strData zs) :: rest) W) : W.var? P name = some (zs.map fun z => Value.string z).toArray := by
  obtain ⟨ps, ⟨g', t', cs, fuel, p, q, hg', ht', hvar, hd, _, _⟩, _⟩ := h
  obtain rfl := Option.some.inj (hg.symm.trans hg')
  obtain rfl := Option.some.inj (hty.symm.trans ht')
  rw [hvar, ← cells_of_strs ht he hce hct hd]
theorem Tb.of_three {P : Program} {W : World} (h1 : ∀ g, P.globalNamed "internal/strconv.uint64pow10" = some g → W.var? P "internal/strconv.uint64pow10" = some (Lib.pow10Tab.map (Value.int .u64)).toArray)
    (h2 : ∀ g, P.globalNamed "loop.example/macroexpander/impl.primitives" = some g → W.var? P "loop.example/macroexpander/impl.primitives" = some (primTab.map Value.string).toArray)
    (h3 : ∀ g, P.globalNamed "loop.example/macroexpander/impl.coreForms" = some g → W.var? P "loop.example/macroexpander/impl.coreForms" = some (coreTab.map Value.string).toArray) : Tb P sto0 W := fun x hx g hg => by
  simp only [tabs, List.mem_cons, List.not_mem_nil, or_false] at hx
  rcases hx with rfl | rfl | rfl
  · exact ⟨sto0_dead _, h1 g hg⟩
  · exact ⟨sto0_dead _, h2 g hg⟩
  · exact ⟨sto0_dead _, h3 g hg⟩
/-- .. with the third alone. -/
theorem Tb.of_core {P : Program} {W : World} {rest : List (String × DataW Unit)} {g : Nat} {t e : TypeId} {n : Nat} (hp : P.globalNamed "internal/strconv.uint64pow10" = Option.none) (hp2 : P.globalNamed "loop.example/macroexpander/impl.primitives" = Option.none) (hg : P.globalNamed "loop.example/macroexpander/impl.coreForms" = some g) (hty : (P.globals[g]?).map (·.type) = some t) (ht : P.underlying t = some (.array n e)) (he : P.underlying e = some .string) (hce : P.cellsOf e = 1) (hct : P.cellsOf t = n)
    (h : laidMet P (("loop.example/macroexpander/impl.coreForms", strData coreTab) :: rest) W) : Tb P sto0 W :=
  .of_three (fun g' hg' => by rw [hp] at hg'; cases hg') (fun g' hg' => by rw [hp2] at hg'; cases hg') (fun _ _ => strs_of_head hg hty ht he hce hct h)
theorem Tb.of_two {P : Program} {W : World} (hp : P.globalNamed "loop.example/macroexpander/impl.coreForms" = Option.none) (h1 : ∀ g, P.globalNamed "internal/strconv.uint64pow10" = some g → W.var? P "internal/strconv.uint64pow10" = some (Lib.pow10Tab.map (Value.int .u64)).toArray)
    (h2 : ∀ g, P.globalNamed "loop.example/macroexpander/impl.primitives" = some g → W.var? P "loop.example/macroexpander/impl.primitives" = some (primTab.map Value.string).toArray) : Tb P sto0 W :=
  .of_three h1 h2 (fun g' hg' => by rw [hp] at hg'; cases hg')
/-- A program with the first table alone. -/
theorem Tb.of_laid {P : Program} {W : World} (hq : P.globalNamed "loop.example/macroexpander/impl.coreForms" = Option.none) {rest : List (String × DataW Unit)} {g : Nat} {t e : TypeId} {n : Nat} (hp : P.globalNamed "loop.example/macroexpander/impl.primitives" = Option.none) (hg : P.globalNamed "internal/strconv.uint64pow10" = some g) (hty : (P.globals[g]?).map (·.type) = some t) (ht : P.underlying t = some (.array n e)) (he : P.underlying e = some (.int .u64)) (hce : P.cellsOf e = 1) (hct : P.cellsOf t = n)
    (h : laidMet P (("internal/strconv.uint64pow10", Lib.tabData .u64 Lib.pow10Tab) :: rest) W) : Tb P sto0 W :=
  .of_two hq (fun _ _ => Lib.tabIs_of_head hg hty ht he hce hct h) (fun g' hg' => by rw [hp] at hg'; cases hg')
/-- .. with the second alone. -/
theorem Tb.of_prims {P : Program} {W : World} (hq : P.globalNamed "loop.example/macroexpander/impl.coreForms" = Option.none) {rest : List (String × DataW Unit)} {g : Nat} {t e : TypeId} {n : Nat} (hp : P.globalNamed "internal/strconv.uint64pow10" = Option.none) (hg : P.globalNamed "loop.example/macroexpander/impl.primitives" = some g) (hty : (P.globals[g]?).map (·.type) = some t) (ht : P.underlying t = some (.array n e)) (he : P.underlying e = some .string) (hce : P.cellsOf e = 1) (hct : P.cellsOf t = n)
    (h : laidMet P (("loop.example/macroexpander/impl.primitives", strData primTab) :: rest) W) : Tb P sto0 W :=
  .of_two hq (fun g' hg' => by rw [hp] at hg'; cases hg') (fun _ _ => strs_of_head hg hty ht he hce hct h)
/-- .. with both. -/
theorem Tb.of_both {P : Program} {W : World} (hq : P.globalNamed "loop.example/macroexpander/impl.coreForms" = Option.none) {rest rest2 : List (String × DataW Unit)} {g : Nat} {t e : TypeId} {n : Nat} (hg : P.globalNamed "internal/strconv.uint64pow10" = some g) (hty : (P.globals[g]?).map (·.type) = some t) (ht : P.underlying t = some (.array n e)) (he : P.underlying e = some (.int .u64)) (hce : P.cellsOf e = 1) (hct : P.cellsOf t = n)
    {g2 : Nat} {t2 e2 : TypeId} {n2 : Nat} (hg2 : P.globalNamed "loop.example/macroexpander/impl.primitives" = some g2) (hty2 : (P.globals[g2]?).map (·.type) = some t2) (ht2 : P.underlying t2 = some (.array n2 e2)) (he2 : P.underlying e2 = some .string) (hce2 : P.cellsOf e2 = 1) (hct2 : P.cellsOf t2 = n2)
    (h : laidMet P (("internal/strconv.uint64pow10", Lib.tabData .u64 Lib.pow10Tab) :: rest) W) (h2 : laidMet P (("loop.example/macroexpander/impl.primitives", strData primTab) :: rest2) W) : Tb P sto0 W :=
  .of_two hq (fun _ _ => Lib.tabIs_of_head hg hty ht he hce hct h) (fun _ _ => strs_of_head hg2 hty2 ht2 he2 hce2 hct2 h2)
end Go.Proofs.Shadow
end

