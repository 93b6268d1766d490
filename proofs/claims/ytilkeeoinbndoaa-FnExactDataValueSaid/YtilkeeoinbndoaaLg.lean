/- Live rows of any type: cells that are plain, and slices that are ours. -/
import Derived.Test.YtilkeeoinbndoaaLb
set_option linter.unusedVariables false
set_option linter.unusedSimpArgs false
namespace Go.Proofs.Shadow
open Go
/-- Types of rows that hold slices. -/
inductive Tg | int | form | core | val | slot | bnd | hit
def Tg.sz : Tg → Nat
  | .int => 1 | .form => 5 | .core => 11 | .val => 16 | .slot => 17 | .bnd => 3 | .hit => 12
/-- Which cells of a row are slices of ours. -/
def Tg.shp : Tg → List (Option Tg)
  | .int => [none]
  | .form => [none, none, none, some .int, some .form]
  | .core => [none, none, none, none, some .int, none, none, none, some .int, some .form, some .core]
  | .val => [none, none, none, some .val, none, none, none, none, some .int, none, none, none, some .int, some .form, some .core, some .slot]
  | .slot => [none, none, none, none, some .val, none, none, none, none, some .int, none, none, none, some .int, some .form, some .core, some .slot]
  | .bnd => [none, some .int, none]
  | .hit => [none, none, none, none, none, none, none, none, none, none, none, some .hit]
theorem Tg.shp_len (t : Tg) : t.shp.length = t.sz := by cases t <;> rfl
/-- A slice that is nil, an empty literal, or lies in a block of ours. -/
inductive Fr : AV → Prop
  | nil : Fr .nilsl
  | lit : Fr (.sl true [])
  | ref (b n c : Nat) : Fr (.ref b n c)
theorem Fr.free {v : AV} (h : Fr v) : Free v := fun _ _ _ _ _ hv => by
  cases h with
  | nil => cases hv; exact .nilsl
  | lit =>
    cases hv with
    | slE hc => exact .slE hc
    | slC hx => exact absurd rfl hx
  | ref b n c =>
    cases hv with
    | ref a b c => exact .ref a b c
theorem Fr.of {τ σ : Sto} {bs : List (Nat × Ent)} {ms : List OwnR} (hF : Fx τ σ bs ms) {m : OwnR} (hm : m ∈ ms) (hsz : m.sz ≠ 17) : Fr m.v := by
  rcases (hF.own m hm).1.2 with ⟨h1, _⟩ | h1 | ⟨b, cap, h1, _⟩
  · rw [h1]; exact .nil
  · rcases hF.wr m hm with h2 | h2 | h2
    · rw [h1, h2]; exact .lit
    · rw [h1] at h2; exact absurd rfl h2
    · exact absurd h2 hsz
  · rw [h1]; exact .ref _ _ _
section
variable (ty : Tg → TypeId) (K : AV → Prop)
mutual
/-- A row as plain data, as it lies, and its slices. -/
inductive LvR : List (Option Tg) → List AV → List AV → List OwnR → Prop
  | nil : LvR [] [] [] []
  | flat {ss : List (Option Tg)} {c : AV} {ps ls : List AV} {L : List OwnR} (h : K c) (u : LvR ss ps ls L) : LvR (none :: ss) (c :: ps) (c :: ls) L
  | sl {ss : List (Option Tg)} {t : Tg} {v : AV} {pr lr : List (List AV)} {ps ls : List AV} {L0 L : List OwnR} (hv : Fr v) (h : LvRs t pr lr L0) (u : LvR ss ps ls L) : LvR (some t :: ss) (.sl false pr :: ps) (v :: ls) (⟨v, ty t, t.sz, lr⟩ :: (L0 ++ L))
inductive LvRs : Tg → List (List AV) → List (List AV) → List OwnR → Prop
  | nil {t : Tg} : LvRs t [] [] []
  | cons {t : Tg} {p l : List AV} {L : List OwnR} {ps ls : List (List AV)} {Ls : List OwnR} (h : LvR t.shp p l L) (u : LvRs t ps ls Ls) : LvRs t (p :: ps) (l :: ls) (L ++ Ls)
end
end
variable {ty : Tg → TypeId} {K : AV → Prop}
theorem LvR.len : ∀ {ss : List (Option Tg)} {p l : List AV} {L : List OwnR}, LvR ty K ss p l L → p.length = ss.length ∧ l.length = ss.length
  | _, _, _, _, .nil => ⟨rfl, rfl⟩
  | _, _, _, _, .flat _ u => by obtain ⟨a, b⟩ := u.len; simp [a, b]
  | _, _, _, _, .sl _ _ u => by obtain ⟨a, b⟩ := u.len; simp [a, b]
theorem LvRs.len {t : Tg} : ∀ {ps ls : List (List AV)} {L : List OwnR}, LvRs ty K t ps ls L → ls.length = ps.length ∧ (∀ r ∈ ps, r.length = t.sz) ∧ ∀ r ∈ ls, r.length = t.sz
  | _, _, _, .nil => ⟨rfl, by simp, by simp⟩
  | _, _, _, .cons h u => by
    obtain ⟨a, b, c⟩ := u.len
    obtain ⟨d, e⟩ := h.len
    rw [Tg.shp_len] at d e
    refine ⟨by simp [a], fun r hr => ?_, fun r hr => ?_⟩
    · rcases List.mem_cons.1 hr with rfl | hr
      · exact d
      · exact b r hr
    · rcases List.mem_cons.1 hr with rfl | hr
      · exact e
      · exact c r hr
/-- What can be read as xs, told as ys where it is not live. -/
theorem rd_refT {σ ρ : Sto} {w : World} (hs : Sim σ w) (hsub : Sub ρ σ) {e : TypeId} {sz : Nat} {v : AV} {xs ys : List (List AV)} (h : OwnL σ e sz v xs) (hd0 : ∀ b, v.blk = some b → ρ.own b = none) (hl : ys.length = xs.length) (hy : ∀ y ∈ ys, y.length = sz)
    (hc : ∀ (i : Nat) (c : AV), ys.flatten[i]? = some c → c.isCell = true ∧ ∃ a, xs.flatten[i]? = some a ∧ ∀ val, Rv σ w a val → Rv ρ w c val) {val : Value} (hv : Rv σ w v val) : Rv ρ w (.sl false ys) val := by
  have nil : xs = [] → ys = [] := fun hx => List.eq_nil_of_length_eq_zero (by rw [hl, hx]; rfl)
  have cell : ∀ c ∈ ys.flatten, c.isCell = true := fun c hm => by
    obtain ⟨i, hi⟩ := List.mem_iff_getElem?.1 hm
    exact (hc i c hi).1
  rcases h.2 with ⟨rfl, hx⟩ | rfl | ⟨b, cap, rfl, he⟩
  · rw [nil hx]; cases hv; exact .slE (fun h => by cases h)
  · cases hv with
    | slE _ => rw [nil rfl]; exact .slE (fun h => by cases h)
    | slC hx hn hle hcp hsz _ hd hb hi hf hr =>
      rename_i b o n cap sz' f hcc
      refine .slC (f := f) (sz := sz) (fun h0 => hx (List.eq_nil_of_length_eq_zero (by rw [← hl, h0]; rfl))) (by rw [hn, hl]) hle hcp hy (fun h => by cases h) (hsub.dead hd) hb cell (fun i c hic => ?_) (fun i c hic => ?_)
      · obtain ⟨_, a, ha, _⟩ := hc i c hic
        exact hf i a ha
      · obtain ⟨_, a, ha, hcv⟩ := hc i c hic
        exact hcv _ (hr i a ha)
  · cases hv with
    | ref hle hcp hcm =>
      obtain ⟨cs, h1, h2, h3, h4⟩ := hs.own b _ he
      have hvn : ρ.var b = none := by
        cases hvb : ρ.var b with
        | none => rfl
        | some e' =>
          have := (hs.var b e' (hsub.var b e' hvb)).2.2
          rw [this] at he
          cases he
      by_cases hx : xs = []
      · rw [nil hx, hx]; exact .slE (fun h => by cases h)
      · refine .slC (f := fun i => cs.getD i undef) (sz := sz) (fun h0 => hx (List.eq_nil_of_length_eq_zero (by rw [← hl, h0]; rfl))) (by rw [hl]) hle hcp hy (fun h => by cases h) ⟨hvn, hd0 b rfl⟩ (Array.getElem?_eq_some_iff.1 h1).1 cell (fun i c hic => ?_) (fun i c hic => ?_)
        · obtain ⟨_, a, ha, _⟩ := hc i c hic
          rw [Nat.zero_add, cell_of_row w b i cs e (0, 0) h1]
          have hlt : i < cs.size := by have := (List.getElem?_eq_some_iff.1 ha).1; simp only at h2 h3; omega
          simp [hlt]
        · obtain ⟨_, a, ha, hcv⟩ := hc i c hic
          exact hcv _ (h4 i a ha).2
/-- The slices are ours, and not live in ρ. -/
def OwnD (σ ρ : Sto) (L : List OwnR) : Prop := ∀ m ∈ L, OwnL σ m.e m.sz m.v m.rows ∧ ∀ b, m.v.blk = some b → ρ.own b = none
mutual
theorem LvR.rd {σ ρ : Sto} {w : World} (hs : Sim σ w) (hsub : Sub ρ σ) (hK : ∀ c, K c → c.isCell = true) : ∀ {ss : List (Option Tg)} {p l : List AV} {L : List OwnR}, LvR ty K ss p l L → OwnD σ ρ L → ∀ (i : Nat) (c : AV), p[i]? = some c → c.isCell = true ∧ ∃ a, l[i]? = some a ∧ ∀ val, Rv σ w a val → Rv ρ w c val
  | _, _, _, _, .nil, _ => fun i c h => by cases h
  | _, _, _, _, .flat h u, hL => fun i c hi => by
    cases i with
    | zero => injection hi with hi; subst hi; exact ⟨hK _ h, _, rfl, fun val hv => hv.step (Step.drop fun b hb => hsub.dead hb)⟩
    | succ i => exact u.rd hs hsub hK hL i c hi
  | _, _, _, _, .sl (t := t) (pr := pr) (lr := lr) hv h u, hL => fun i c hi => by
    obtain ⟨o1, o2⟩ := hL _ (List.mem_cons_self ..)
    cases i with
    | zero =>
      injection hi with hi
      subst hi
      obtain ⟨p1, p2, p3⟩ := h.len
      refine ⟨rfl, _, rfl, fun val hv => rd_refT hs hsub o1 o2 p1.symm p2 (h.rd hs hsub hK fun m hm => hL m (List.mem_cons_of_mem _ (List.mem_append_left _ hm))) hv⟩
    | succ i => exact u.rd hs hsub hK (fun m hm => hL m (List.mem_cons_of_mem _ (List.mem_append_right _ hm))) i c hi
theorem LvRs.rd {σ ρ : Sto} {w : World} (hs : Sim σ w) (hsub : Sub ρ σ) (hK : ∀ c, K c → c.isCell = true) : ∀ {t : Tg} {ps ls : List (List AV)} {L : List OwnR}, LvRs ty K t ps ls L → OwnD σ ρ L → ∀ (i : Nat) (c : AV), ps.flatten[i]? = some c → c.isCell = true ∧ ∃ a, ls.flatten[i]? = some a ∧ ∀ val, Rv σ w a val → Rv ρ w c val
  | _, _, _, _, .nil, _ => fun i c h => by cases h
  | t, _, _, _, .cons (p := p) (l := l) (ps := ps) (ls := ls) h u, hL => fun i c hi => by
    have h1 := h.rd hs hsub hK fun m hm => hL m (List.mem_append_left _ hm)
    have h2 := u.rd hs hsub hK fun m hm => hL m (List.mem_append_right _ hm)
    obtain ⟨l1, l2⟩ := h.len
    rw [List.flatten_cons] at hi ⊢
    rcases Nat.lt_or_ge i p.length with hlt | hge
    · rw [List.getElem?_append_left hlt] at hi
      obtain ⟨a1, a, a2, a3⟩ := h1 i c hi
      exact ⟨a1, a, by rw [List.getElem?_append_left (by omega)]; exact a2, a3⟩
    · rw [List.getElem?_append_right hge] at hi
      obtain ⟨a1, a, a2, a3⟩ := h2 (i - p.length) c hi
      exact ⟨a1, a, by rw [List.getElem?_append_right (by omega), show i - l.length = i - p.length by omega]; exact a2, a3⟩
end
mutual
theorem LvR.free (hK : ∀ c, K c → Free c) : ∀ {ss : List (Option Tg)} {p l : List AV} {L : List OwnR}, LvR ty K ss p l L → (∀ c ∈ l, Free c) ∧ ∀ m ∈ L, ∀ c ∈ m.rows.flatten, Free c
  | _, _, _, _, .nil => ⟨(fun c h => by cases h), (fun m h => by cases h)⟩
  | _, _, _, _, .flat h u => by
    obtain ⟨a, b⟩ := u.free hK
    refine ⟨fun c hc => ?_, b⟩
    rcases List.mem_cons.1 hc with rfl | hc
    · exact hK _ h
    · exact a c hc
  | _, _, _, _, .sl hv h u => by
    obtain ⟨a, b⟩ := u.free hK
    obtain ⟨d, e⟩ := h.free hK
    refine ⟨fun c hc => ?_, fun m hm => ?_⟩
    · rcases List.mem_cons.1 hc with rfl | hc
      · exact hv.free
      · exact a c hc
    · rcases List.mem_cons.1 hm with rfl | hm
      · exact d
      · rcases List.mem_append.1 hm with hm | hm
        · exact e m hm
        · exact b m hm
theorem LvRs.free (hK : ∀ c, K c → Free c) : ∀ {t : Tg} {ps ls : List (List AV)} {L : List OwnR}, LvRs ty K t ps ls L → (∀ c ∈ ls.flatten, Free c) ∧ ∀ m ∈ L, ∀ c ∈ m.rows.flatten, Free c
  | _, _, _, _, .nil => ⟨(fun c h => by cases h), (fun m h => by cases h)⟩
  | _, _, _, _, .cons h u => by
    obtain ⟨a, b⟩ := h.free hK
    obtain ⟨d, e⟩ := u.free hK
    refine ⟨fun c hc => ?_, fun m hm => ?_⟩
    · rw [List.flatten_cons] at hc
      rcases List.mem_append.1 hc with hc | hc
      · exact a c hc
      · exact d c hc
    · rcases List.mem_append.1 hm with hm | hm
      · exact b m hm
      · exact e m hm
end
theorem OwnD.of0 {τ σ : Sto} {bs : List (Nat × Ent)} {ms L : List OwnR} (hF : Fx τ σ bs ms) (hs : ∀ m ∈ L, m ∈ ms) : OwnD σ sto00 L := fun m hm => ⟨(hF.own m (hs m hm)).1, fun _ _ => rfl⟩
/-- A list of live rows, told as plain data. -/
theorem LvRs.wk {σ ρ : Sto} (hsub : Sub ρ σ) (hK : ∀ c, K c → c.isCell = true) {t : Tg} {ps ls : List (List AV)} {L : List OwnR} {v : AV} {e : TypeId} (h : LvRs ty K t ps ls L) (hL : OwnD σ ρ (⟨v, e, t.sz, ls⟩ :: L)) : Wk σ v ρ (.sl false ps) := fun w val hw hr => by
  obtain ⟨o1, o2⟩ := hL _ (List.mem_cons_self ..)
  obtain ⟨p1, p2, p3⟩ := h.len
  exact ⟨hw.drop hsub.var hsub.own, rd_refT hw hsub o1 o2 p1.symm p2 (h.rd hw hsub hK fun m hm => hL m (List.mem_cons_of_mem _ hm)) hr, fun b hb => hsub.dead hb⟩
/-- A live row, told as plain data. -/
theorem LvR.wk {σ ρ : Sto} (hsub : Sub ρ σ) (hK : ∀ c, K c → c.isCell = true) {ss : List (Option Tg)} {p l : List AV} {L : List OwnR} (h : LvR ty K ss p l L) (hL : OwnD σ ρ L) : Wk σ (.agg l) ρ (.agg p) := fun w v hw hv => by
  have hrd := h.rd hw hsub hK hL
  obtain ⟨l1, l2⟩ := h.len
  refine ⟨hw.drop hsub.var hsub.own, ?_, fun b hb => hsub.dead hb⟩
  cases hv with
  | agg hl hi hr =>
    refine .agg (by omega) (fun c hc => ?_) (fun i c hic => ?_)
    · obtain ⟨i, hi⟩ := List.mem_iff_getElem?.1 hc
      exact (hrd i c hi).1
    · obtain ⟨_, a, ha, hv⟩ := hrd i c hic
      exact hv _ (hr i a ha)
theorem LvRs.app {t : Tg} : ∀ {ps qs ls ms : List (List AV)} {L M : List OwnR}, LvRs ty K t ps ls L → LvRs ty K t qs ms M → LvRs ty K t (ps ++ qs) (ls ++ ms) (L ++ M)
  | _, _, _, _, _, _, .nil, k => k
  | _, _, _, _, _, _, .cons h u, k => by
    rw [List.append_assoc]
    exact .cons h (u.app k)
theorem LvRs.snoc {t : Tg} {ps ls : List (List AV)} {p l : List AV} {L M : List OwnR} (h : LvRs ty K t ps ls L) (k : LvR ty K t.shp p l M) : LvRs ty K t (ps ++ [p]) (ls ++ [l]) (L ++ M) := by
  have := h.app (.cons k .nil)
  rwa [List.append_nil] at this
/-- One row in the middle of the others'. -/
theorem LvRs.at {t : Tg} : ∀ {ps ls : List (List AV)} {L : List OwnR}, LvRs ty K t ps ls L → ∀ (i : Nat) (p : List AV), ps[i]? = some p → ∃ l A B C, ls[i]? = some l ∧ L = A ++ (B ++ C) ∧ LvR ty K t.shp p l B ∧ ∀ p' l' B', LvR ty K t.shp p' l' B' → LvRs ty K t (ps.set i p') (ls.set i l') (A ++ (B' ++ C))
  | _, _, _, .nil, i, p, h => by cases h
  | _, _, _, .cons (p := q) (l := l) (L := L) (Ls := Ls) h u, 0, p, hi => by
    injection hi with hi
    subst hi
    exact ⟨l, [], L, Ls, rfl, rfl, h, fun p' l' B' k => (show LvRs ty K t (p' :: _) (l' :: _) (B' ++ Ls) from LvRs.cons k u)⟩
  | _, _, _, .cons (p := q) (l := l) (ps := ps) (ls := ls) (L := L) (Ls := Ls) h u, i + 1, p, hi => by
    obtain ⟨r, A, B, C, h1, h2, h3, h4⟩ := u.at i p hi
    refine ⟨r, L ++ A, B, C, h1, by rw [h2, List.append_assoc], h3, fun p' l' B' k => ?_⟩
    rw [List.append_assoc]
    exact (show LvRs ty K t (q :: ps.set i p') (l :: ls.set i l') (L ++ (A ++ (B' ++ C))) from LvRs.cons h (h4 p' l' B' k))
/-- Some of ours, in the middle, is handed on. -/
theorem preM {τ0 τ σ : Sto} {bs es : List (Nat × Ent)} {A M B : List OwnR} (hF : Fx τ σ bs (A ++ (M ++ B))) (hX : Tau τ0 es τ) : Pre σ [] M := by
  have hF := hF.perm (List.perm_append_comm_assoc A M B)
  have h := Fx.pre (esL := []) (bsr := bs) (esX := []) (xsr := es) (ms0 := M) (msr := A ++ B) (by simpa using hF) (by simpa using hX)
  simpa using h
theorem aftM {τ0 τ σ τ' σ' : Sto} {bs es bn : List (Nat × Ent)} {A M B M' : List OwnR} (hF : Fx τ σ bs (A ++ (M ++ B))) (hX : Tau τ0 es τ) (hT : Tau (strip σ M) [] τ') (hG : Fx τ' σ' bn M') : ∃ τ2, Tau τ0 es τ2 ∧ Fx τ2 σ' (bn ++ bs) (A ++ (M' ++ B)) := by
  have hF := hF.perm (List.perm_append_comm_assoc A M B)
  have h := Fx.after (esL := []) (bsr := bs) (esX := []) (xsr := es) (ms0 := M) (msr := A ++ B) (esL' := []) (esX' := []) (by simpa using hF) (by simpa using hX) (by simpa using hT) hG rfl rfl
  obtain ⟨τ2, h1, h2⟩ := h
  refine ⟨τ2, by simpa using h1, ?_⟩
  have h2 : Fx τ2 σ' (bn ++ bs) (M' ++ (A ++ B)) := by simpa using h2
  exact h2.perm (List.perm_append_comm_assoc A M' B).symm
/-! ### raw rows -/
theorem aload_raw {τ σ : Sto} {bs : List (Nat × Ent)} {ms : List OwnR} (hF : Fx τ σ bs ms) (j : Nat) {ag : Bool} {k b n c o i : Nat} {e : TypeId} {sz : Nat} {rows : List (List AV)} {row : List AV} {p : Nat} {v : AV} (hp : p = i * sz + o) (hj : ms[j]? = some ⟨.ref b n c, e, sz, rows⟩) (h : rows[i]? = some row) (hk : o + (if ag then k else 1) ≤ sz) (hv : (seg row o (if ag then k else 1)).bind (asVal ag) = some v) : aload σ (some (ag, k)) (.optr b p) = some v := by
  subst hp
  obtain ⟨h0, h1, h2⟩ := own_at hF j hj
  have hfl := flatten_length rows h2
  have hil := (List.getElem?_eq_some_iff.1 h).1
  have hrl := h2 row (List.mem_of_getElem? h)
  have hle : i * sz + sz ≤ rows.length * sz := by
    have : (i + 1) * sz ≤ rows.length * sz := Nat.mul_le_mul_right sz hil
    rwa [Nat.add_mul, Nat.one_mul] at this
  have hm : mem σ (.optr b (i * sz + o)) = some (rows.flatten.drop (i * sz + o)) := by
    simp only [mem, h1, Option.bind_some]
    rw [if_pos (by rw [hfl]; omega)]
  have hdrop : rows.flatten.drop (i * sz) = row ++ rows.flatten.drop (i * sz + sz) := by
    have : ∀ (l : List (List AV)) (i : Nat), (∀ r ∈ l, r.length = sz) → l[i]? = some row → l.flatten.drop (i * sz) = row ++ l.flatten.drop (i * sz + sz) := by
      intro l
      induction l with
      | nil => intro i _ h; cases h
      | cons x l ih =>
        intro i hl h
        have hx := hl x (List.mem_cons_self ..)
        cases i with
        | zero =>
          injection h with h
          subst h
          rw [List.flatten_cons, Nat.zero_mul, List.drop_zero, Nat.zero_add, List.drop_append, List.drop_of_length_le (by omega), List.nil_append, show sz - x.length = 0 by omega, List.drop_zero]
        | succ i =>
          have := ih i (fun r hr => hl r (List.mem_cons_of_mem _ hr)) h
          rw [List.flatten_cons, List.drop_append, List.drop_of_length_le (by rw [hx, Nat.add_mul]; omega), List.nil_append, List.drop_append, List.drop_of_length_le (l := x) (by rw [hx, Nat.add_mul]; omega), List.nil_append, show (i + 1) * sz - x.length = i * sz by rw [hx, Nat.add_mul]; omega, show (i + 1) * sz + sz - x.length = i * sz + sz by rw [hx, Nat.add_mul]; omega]
          exact this
    exact this rows i h2 h
  have hq : ∀ m : Nat, o + m ≤ sz → seg (rows.flatten.drop (i * sz + o)) 0 m = seg row o m := by
    intro m hm'
    unfold seg
    rw [if_pos (by rw [List.length_drop, hfl]; omega), if_pos (by omega)]
    rw [← List.drop_drop, hdrop, List.drop_append, List.drop_zero, List.take_append, show m - (row.drop o).length = 0 by rw [List.length_drop]; omega, List.take_zero, List.append_nil]
  unfold aload
  rw [hm]
  simp only [Option.bind_some]
  rw [hq _ hk]
  exact hv
theorem osetF_eq {τ σ : Sto} {bs : List (Nat × Ent)} {ms : List OwnR} (hF : Fx τ σ bs ms) (j : Nat) {ag : Bool} {k b n c o i : Nat} {e : TypeId} {sz : Nat} {rows : List (List AV)} {row row' : List AV} {p : Nat} {v : AV} {cs : List AV} (hp : p = i * sz + o) (hj : ms[j]? = some ⟨.ref b n c, e, sz, rows⟩) (hx : rows[i]? = some row) (hc : avCells v = some cs) (hl : cs.length = k) (hle : o + k ≤ sz) (hy : splice row o cs = row') (hr' : row'.length = sz) : ∃ σ', astore (some (ag, k)) σ (.optr b p) v = some σ' ∧ Fx τ σ' bs (ms.set j ⟨.ref b n c, e, sz, rows.set i row'⟩) ∧ σ'.var = σ.var := by
  subst hp
  obtain ⟨h0, h1, h2⟩ := own_at hF j hj
  have hfl := flatten_length rows h2
  have hil := (List.getElem?_eq_some_iff.1 hx).1
  have hle2 : i * sz + sz ≤ rows.length * sz := by
    have : (i + 1) * sz ≤ rows.length * sz := Nat.mul_le_mul_right sz hil
    rwa [Nat.add_mul, Nat.one_mul] at this
  refine ⟨σ.setOwn b ⟨e, c * sz, (rows.set i row').flatten⟩, ?_, hF.oset j hj (by simp) (fun r hr => ?_), rfl⟩
  · simp only [astore, hc, h1, Option.bind_some]
    rw [if_pos hl, if_pos (by rw [hfl]; omega), splice_row h2 hx (by omega), hy]
  · rcases List.mem_or_eq_of_mem_set hr with hr | hr
    · exact h2 r hr
    · rw [hr]; exact hr'
theorem fx_osetF {τ σ : Sto} {bs : List (Nat × Ent)} {ms : List OwnR} (hF : Fx τ σ bs ms) (j : Nat) {ag : Bool} {k b n c o i : Nat} {e : TypeId} {sz : Nat} {rows : List (List AV)} {row : List AV} (row' : List AV) {p : Nat} {v : AV} {cs : List AV} {T : Nat → AV} {K : AS → Prop} (hp : p = i * sz + o) (hj : ms[j]? = some ⟨.ref b n c, e, sz, rows⟩) (hx : rows[i]? = some row) (hc : avCells v = some cs) (hl : cs.length = k) (hle : o + k ≤ sz) (hy : splice row o cs = row') (hr' : row'.length = sz) (hK : ∀ σ', Fx τ σ' bs (ms.set j ⟨.ref b n c, e, sz, rows.set i row'⟩) → K ⟨T, σ'⟩) : aStore (astore (some (ag, k)) σ (.optr b p) v) ⟨T, σ⟩ none K := by
  obtain ⟨σ', h1, h2, _⟩ := osetF_eq (ag := ag) hF j hp hj hx hc hl hle hy hr'
  rw [h1]
  exact hK _ h2
/-- One of ours that has a row lies in a block. -/
theorem Fx.refR {τ σ : Sto} {bs : List (Nat × Ent)} {ms : List OwnR} (hF : Fx τ σ bs ms) (j : Nat) {v : AV} {e : TypeId} {sz : Nat} {rows : List (List AV)} {i : Nat} (hj : ms[j]? = some ⟨v, e, sz, rows⟩) (hi : i < rows.length) (hne : sz ≠ 17 := by decide) : ∃ b c, v = .ref b rows.length c := by
  obtain ⟨x, hx⟩ : ∃ x, rows[i]? = some x := ⟨_, List.getElem?_eq_getElem hi⟩
  have := hF.ref (v := v) (e := e) (sz := sz) j (g := id) (l := rows) (x := x) (i := (i : Int)) (by simpa [rws] using hj) (by unfold idx; simpa using hx) hne
  exact this
theorem aidx_raw {σ : Sto} {e : TypeId} {sz by_ b n c i : Nat} {k : IntKind} (h : i < n) : aidx σ (some (e, sz, by_)) (.ref b n c) (.int k (i : Int)) = some (.optr b (i * sz)) := aidx_ref h
end Go.Proofs.Shadow

