/- The rest of the operations that turn no live block, and all of them in one theorem. -/
import Derived.Test.YtilkeeoinbndoaaShD
set_option linter.unusedVariables false
set_option linter.unusedSimpArgs false
namespace Go.Proofs.Shadow
open Go Go.RowKit
section
variable {P : Program} {σ : Sto} {w : World}
theorem isS_spec {t : TypeId} (h : isS P t = true) : P.underlying t = some .string := by
  unfold isS at h
  split at h <;> first | assumption | cases h
/-- An operand that may be left out. -/
def RvO (σ : Sto) (w : World) : Option AV → Option Value → Prop
  | none, none => True
  | some a, some v => Rv σ w a v
  | _, _ => False
theorem arg_form {d : Int} {x : Option AV} {v : Option Value} {l : Int} (h : RvO σ w x v) (hb : bound d x = some l) : (x = none ∧ v = none ∧ l = d) ∨ ∃ k, x = some (.int k l) ∧ v = some (.int k l) := by
  cases x with
  | none =>
    cases v with
    | none => simp only [bound, Option.some.injEq] at hb; exact .inl ⟨rfl, rfl, hb.symm⟩
    | some _ => exact h.elim
  | some a =>
    cases v with
    | none => exact h.elim
    | some v =>
      have hv : Rv σ w a v := h
      cases a <;> simp only [bound] at hb <;> try (cases hb; done)
      injection hb with hb
      subst hb
      cases hv
      exact .inr ⟨_, rfl, rfl⟩
theorem bounds_ok {isSl : Bool} {len cap : Nat} {lo hi : Option AV} {clo chi : Option Value} {l h : Int} (hlo : RvO σ w lo clo) (hhi : RvO σ w hi chi)
    (el : bound 0 lo = some l) (eh : bound len hi = some h) (h0 : 0 ≤ l) (h1 : l ≤ h) (h2 : h ≤ len) (hlc : len ≤ cap) :
    (Instr.sliceBounds isSl len cap clo chi none).run P w = .ok (l.toNat, h.toNat, cap) w := by
  have q1 : 0 ≤ h ∧ h ≤ (cap : Int) := ⟨by omega, by omega⟩
  have q2 : 0 ≤ l ∧ l ≤ (h.toNat : Int) := ⟨h0, by omega⟩
  rcases arg_form hlo el with ⟨_, rfl, e1⟩ | ⟨k1, _, rfl⟩ <;> rcases arg_form hhi eh with ⟨_, rfl, e2⟩ | ⟨k2, _, rfl⟩
  · subst e1; subst e2
    simp [Instr.sliceBounds]
  · subst e1
    simp only [Instr.sliceBounds, Instr.sliceBound, asIntOf, Sem.run_bind, Sem.run_pure, Result.andThen_ok]
    rw [if_pos q1]
    rfl
  · subst e2
    simp only [Int.toNat_natCast] at q2
    simp only [Instr.sliceBounds, Instr.sliceBound, asIntOf, Sem.run_bind, Sem.run_pure, Result.andThen_ok]
    rw [if_pos q2]
    rfl
  · simp only [Instr.sliceBounds, Instr.sliceBound, asIntOf, Sem.run_bind, Sem.run_pure, Result.andThen_ok]
    rw [if_pos q1]
    simp only [Sem.run_pure, Result.andThen_ok]
    rw [if_pos q2]
    rfl
theorem bounds3_ok {len cap : Nat} {lo hi : Option AV} {clo chi : Option Value} {mv : Value} {k : IntKind} {l h m : Int} (hlo : RvO σ w lo clo) (hhi : RvO σ w hi chi) (hm : Rv σ w (.int k m) mv) (his : hi.isSome = true)
    (el : bound 0 lo = some l) (eh : bound len hi = some h) (h0 : 0 ≤ l) (h1 : l ≤ h) (h2 : h ≤ m) (h3 : m ≤ cap) :
    (Instr.sliceBounds true len cap clo chi (some mv)).run P w = .ok (l.toNat, h.toNat, m.toNat) w := by
  cases hm
  have q0 : 0 ≤ m ∧ m ≤ (cap : Int) := ⟨by omega, h3⟩
  have q1 : 0 ≤ h ∧ h ≤ (m.toNat : Int) := ⟨by omega, by omega⟩
  have q2 : 0 ≤ l ∧ l ≤ (h.toNat : Int) := ⟨h0, by omega⟩
  rcases arg_form hhi eh with ⟨rfl, _, e2⟩ | ⟨k2, _, rfl⟩
  · cases his
  · rcases arg_form hlo el with ⟨_, rfl, e1⟩ | ⟨k1, _, rfl⟩
    · subst e1
      simp only [Instr.sliceBounds, Instr.sliceBound, asIntOf, Sem.run_bind, Sem.run_pure, Result.andThen_ok]
      rw [if_pos q0]
      simp only [Sem.run_pure, Result.andThen_ok]
      rw [if_pos q1]
      rfl
    · simp only [Instr.sliceBounds, Instr.sliceBound, asIntOf, Sem.run_bind, Sem.run_pure, Result.andThen_ok]
      rw [if_pos q0]
      simp only [Sem.run_pure, Result.andThen_ok]
      rw [if_pos q1]
      simp only [Sem.run_pure, Result.andThen_ok]
      rw [if_pos q2]
      rfl
theorem drop_rows {α : Type} {sz : Nat} : ∀ (xs : List (List α)) (k : Nat), (∀ x ∈ xs, x.length = sz) → k ≤ xs.length → (xs.drop k).flatten = xs.flatten.drop (k * sz)
  | xs, 0, _, _ => by simp
  | [], k + 1, _, h => by simp at h
  | x :: xs, k + 1, h, hk => by
    have hx := h x (by simp)
    rw [List.drop_succ_cons, drop_rows xs k (fun y hy => h y (by simp [hy])) (by simpa using hk), List.flatten_cons, Nat.succ_mul, List.drop_append, List.drop_of_length_le (l := x) (by omega), List.nil_append]
    congr 1
    omega
theorem take_rows {α : Type} {sz : Nat} : ∀ (xs : List (List α)) (k : Nat), (∀ x ∈ xs, x.length = sz) → k ≤ xs.length → (xs.take k).flatten = xs.flatten.take (k * sz)
  | xs, 0, _, _ => by simp
  | [], k + 1, _, h => by simp at h
  | x :: xs, k + 1, h, hk => by
    have hx := h x (by simp)
    rw [List.take_succ_cons, List.flatten_cons, take_rows xs k (fun y hy => h y (by simp [hy])) (by simpa using hk), List.flatten_cons, Nat.succ_mul, List.take_append, List.take_of_length_le (l := x) (by omega)]
    congr 2
    omega
/-- A part of a slice that is read. -/
theorem sub_ok {t e : TypeId} {sz by_ : Nat} {c c' : Bool} {xs : List (List AV)} {cv : Value} {clo chi cmx : Option Value} {l h : Int} (hk : se P t = some (e, sz, by_)) (hx : Rv σ w (.sl c xs) cv)
    (hsz : ∀ x ∈ xs, x.length = sz) (h0 : 0 ≤ l) (h1 : l ≤ h) (h2 : h ≤ xs.length)
    (hb : ∀ cap, xs.length ≤ cap → (c = true → cap = xs.length) → ∃ m, h ≤ m ∧ m ≤ cap ∧ (c' = true → m = h) ∧ (Instr.sliceBounds true xs.length cap clo chi cmx).run P w = .ok (l.toNat, h.toNat, Int.toNat m) w) :
    ∃ r, (Instr.slice t cv clo chi cmx).run P w = .ok r w ∧ Rv σ w (.sl c' ((xs.drop l.toNat).take (h - l).toNat)) r := by
  obtain ⟨hu, it, hit, hits, _⟩ := se_spec hk
  have hlen : ((xs.drop l.toNat).take (h - l).toNat).length = h.toNat - l.toNat := by simp; omega
  have hrun : ∀ A cap m, (Instr.sliceBounds true xs.length cap clo chi cmx).run P w = .ok (l.toNat, h.toNat, Int.toNat m) w →
      (Instr.slice t (.slice A xs.length cap) clo chi cmx).run P w = .ok (.slice (if m.toNat = l.toNat then A else A.map (·.add (l.toNat * sz))) (h.toNat - l.toNat) (m.toNat - l.toNat)) w := by
    intro A cap m hm
    simp only [Instr.slice, Sem.run_bind, run_underlying hu, Result.andThen_ok, hm, sizeOf, typeInfo, program, Sem.run, hit, Sem.run_pure, hits]
  cases hx with
  | @slE _ A cap hc =>
    obtain ⟨m, g1, g2, g3, g4⟩ := hb cap (by simp) (by simpa using hc)
    refine ⟨_, hrun A cap m (by simpa using g4), ?_⟩
    have : (([] : List (List AV)).drop l.toNat).take (h - l).toNat = [] := by simp
    rw [this]
    have hl0 : h.toNat - l.toNat = 0 := by simp at h2; omega
    rw [hl0]
    exact .slE (fun hc' => by have := g3 hc'; omega)
  | @slC _ _ b o n cap sz' f hne hn hle hcp hszx hc hd hbl hcl hf hr =>
    subst hn
    obtain ⟨m, g1, g2, g3, g4⟩ := hb cap hcp hc
    refine ⟨_, hrun _ cap m g4, ?_⟩
    have hss : sz' = sz := by
      cases xs with
      | nil => exact absurd rfl hne
      | cons x xs => rw [← hszx x (by simp), hsz x (by simp)]
    subst hss
    cases hy : (xs.drop l.toNat).take (h - l).toNat with
    | nil =>
      rw [hy] at hlen
      simp only [List.length_nil] at hlen
      rw [← hlen]
      exact .slE (fun hc' => by have := g3 hc'; omega)
    | cons y ys =>
      rw [← hy]
      have hlt : l.toNat < h.toNat := by rw [hy] at hlen; simp at hlen; omega
      rw [if_neg (by omega), Option.map_some, add_at0]
      have hfl : ((xs.drop l.toNat).take (h - l).toNat).flatten = (xs.flatten.drop (l.toNat * sz')).take ((h - l).toNat * sz') := by
        rw [take_rows _ _ (fun x hx => hsz x (List.mem_of_mem_drop hx)) (by simp; omega), drop_rows _ _ hsz (by omega)]
      refine .slC (sz := sz') (f := fun i => f (l.toNat * sz' + i)) (by simp [hy]) hlen.symm (by omega) (by omega) (fun x hx => hsz x (List.mem_of_mem_drop (List.mem_of_mem_take hx))) (fun hc' => by have := g3 hc'; omega) hd hbl (fun c hc => ?_) (fun i c hic => ?_) (fun i c hic => ?_)
      · rw [hfl] at hc
        exact hcl c (List.mem_of_mem_drop (List.mem_of_mem_take hc))
      · rw [hfl, List.getElem?_take] at hic
        split at hic
        · rw [List.getElem?_drop] at hic
          rw [Nat.add_assoc]
          exact hf _ c hic
        · cases hic
      · rw [hfl, List.getElem?_take] at hic
        split at hic
        · rw [List.getElem?_drop] at hic
          exact hr _ c hic
        · cases hic
theorem slice_ok {t : TypeId} {x : AV} {cx : Value} {lo hi mx : Option AV} {clo chi cmx : Option Value} {v : AV} (hx : Rv σ w x cx) (hlo : RvO σ w lo clo) (hhi : RvO σ w hi chi) (hmx : RvO σ w mx cmx)
    (h : aslice (isS P t) (se P t) x lo hi mx = some v) :
    ∃ cv, (Instr.slice t cx clo chi cmx).run P w = .ok cv w ∧ Rv σ w v cv := by
  unfold aslice at h
  cases x <;> simp only at h <;> try (cases h; done)
  case str s =>
    split at h
    · rename_i hh
      have hu := isS_spec hh.1
      cases mx with
      | some _ => simp at hh
      | none =>
        cases cmx with
        | some _ => exact hmx.elim
        | none =>
          cases hel : bound 0 lo with
          | none => simp [hel] at h
          | some l =>
            cases heh : bound (s.size : Int) hi with
            | none => simp [hel, heh] at h
            | some hb =>
              simp only [hel, heh, Option.bind_some] at h
              split at h
              · rename_i hr
                injection h with h
                subst h
                cases hx with
                | str hs =>
                  refine ⟨.string (s.extract l.toNat hb.toNat), ?_, .str ?_⟩
                  · have := bounds_ok (P := P) (isSl := false) (len := s.size) (cap := s.size) hlo hhi hel heh hr.1 hr.2.1 hr.2.2 (Nat.le_refl _)
                    simp only [Instr.slice, Sem.run_bind, run_underlying hu, Result.andThen_ok, Option.isSome_none, Bool.false_eq_true, if_false, Sem.run_pure, this]
                  · rw [ByteArray.size_extract]; omega
              · cases h
    · cases h
  case sl c xs =>
    cases hk : se P t with
    | none => simp [hk] at h
    | some k =>
      obtain ⟨e, sz, by_⟩ := k
      simp only [hk] at h
      split at h
      · rename_i hall
        have hsz : ∀ x ∈ xs, x.length = sz := by simpa using hall
        cases hel : bound 0 lo with
        | none => simp [hel] at h
        | some l =>
          cases heh : bound (xs.length : Int) hi with
          | none => simp [hel, heh] at h
          | some hb =>
            simp only [hel, heh, Option.bind_some] at h
            cases mx with
            | none =>
              cases cmx with
              | some _ => exact hmx.elim
              | none =>
                simp only at h
                split at h
                · rename_i hr
                  injection h with h
                  subst h
                  refine sub_ok (c := c) (h := hb) hk hx hsz hr.1 hr.2.1 hr.2.2 (fun cap hlc hcc => ⟨(cap : Int), by omega, by omega, fun hc' => ?_, ?_⟩)
                  · rw [Bool.and_eq_true, decide_eq_true_iff] at hc'
                    have := hcc hc'.1
                    omega
                  · have := bounds_ok (P := P) (isSl := true) (len := xs.length) (cap := cap) hlo hhi hel heh hr.1 hr.2.1 hr.2.2 hlc
                    simpa using this
                · cases h
            | some m =>
              cases cmx with
              | none => exact hmx.elim
              | some mv =>
                have hmv : Rv σ w m mv := hmx
                cases m <;> simp only at h <;> try (cases h; done)
                rename_i k m
                split at h
                · rename_i hr
                  obtain ⟨rs, r0, r1, r2, r3⟩ := hr
                  injection h with h
                  subst h
                  refine sub_ok (c := c) (h := hb) hk hx hsz r0 r1 (by omega) (fun cap hlc hcc => ⟨m, by omega, by omega, fun _ => r2.symm, ?_⟩)
                  exact bounds3_ok hlo hhi hmv rs hel heh r0 r1 (by omega) (by omega)
                · cases h
      · cases h
  case ref b n cap =>
    cases hk : se P t with
    | none => simp [hk] at h
    | some k =>
      obtain ⟨e, sz, by_⟩ := k
      simp only [hk] at h
      cases hel : bound 0 lo with
      | none => simp [hel] at h
      | some l =>
        cases heh : bound (n : Int) hi with
        | none => simp [hel, heh] at h
        | some hb =>
          simp only [hel, heh, Option.bind_some] at h
          split at h
          · rename_i hr
            obtain ⟨r0, r1, r2, r3⟩ := hr
            injection h with h
            subst h
            subst r0
            cases mx with
            | some _ => cases r3
            | none =>
            cases cmx with
            | some _ => exact hmx.elim
            | none =>
            cases hx with
            | ref hn hcp hcm =>
            obtain ⟨hu, it, hit, hits, _⟩ := se_spec hk
            have := bounds_ok (P := P) (isSl := true) (len := n) (cap := cap) hlo hhi hel heh (Int.le_refl _) r1 r2 hcp
            refine ⟨.slice (some ⟨b, 0, none⟩) hb.toNat cap, ?_, .ref (by omega) (by omega) hcm⟩
            simp only [Instr.slice, Sem.run_bind, run_underlying hu, Result.andThen_ok, this, sizeOf, typeInfo, program, Sem.run, hit, Sem.run_pure, hits]
            simp only [Int.toNat_zero, Nat.sub_zero, Nat.zero_mul]
            split
            · rfl
            · rfl
          · cases h
theorem bytes_ok : ∀ (xs : List (List AV)) (l : List Int), bytesOf xs = some l → l.length = xs.length ∧ ∀ (i : Nat) (n : Int), l[i]? = some n → xs[i]? = some [AV.int .u8 n]
  | [], l, h => by simp only [bytesOf, Option.some.injEq] at h; subst h; simp
  | x :: xs, l, h => by
    unfold bytesOf at h
    split at h
    · rename_i he; cases he
    · rename_i n rest he
      injection he with he1 he2
      subst he1; subst he2
      obtain ⟨l', hl', rfl⟩ := Option.map_eq_some_iff.1 h
      obtain ⟨h1, h2⟩ := bytes_ok xs l' hl'
      refine ⟨by simp [h1], fun i b hb => ?_⟩
      cases i with
      | zero => simp at hb; subst hb; rfl
      | succ i => simp at hb; simpa using h2 i b hb
    · cases h
theorem flatten_ones {α : Type} : ∀ (xs : List (List α)), (∀ x ∈ xs, x.length = 1) → ∀ (i : Nat) (c : α), xs[i]? = some [c] → xs.flatten[i]? = some c
  | xs, h, i, c, hi => by
    have := flatten_at xs i 0 h (by omega)
    rw [Nat.mul_one, Nat.add_zero] at this
    rw [this, hi]
    rfl
theorem conv_ok {s d : TypeId} {x : AV} {cx : Value} {v : AV} (hu : hasU P s = true) (hx : Rv σ w x cx) (h : aconv (ik P d) (isU8s P s) (isS P d) x = some v) :
    ∃ cv, (convert s d cx).run P w = .ok cv w ∧ Rv σ w v cv := by
  obtain ⟨ds, hds⟩ := Option.isSome_iff_exists.1 hu
  unfold aconv at h
  cases hk : ik P d with
  | some k =>
    have hd : P.underlying d = some (.int k) := by
      unfold ik at hk
      cases hdd : P.underlying d with
      | none => simp [hdd] at hk
      | some dd => cases dd <;> simp only [hdd] at hk <;> first | (cases hk; done) | (injection hk with hk; rw [hk])
    simp only [hk] at h
    cases hx <;> simp only at h <;> try (cases h; done)
    injection h with h
    subst h
    exact ⟨_, by simp [convert, run_underlying hds, run_underlying hd, Conv.intToInt], .int⟩
  | none =>
    simp only [hk] at h
    have key : ∀ {y : AV}, (if (isU8s P s && isS P d) = true then some y else none) = some v → P.underlying d = some .string ∧ ∃ e, P.underlying s = some (.slice e) ∧ P.underlying e = some (.int .u8) ∧ y = v := by
      intro y hy
      split at hy
      · rename_i hb
        rw [Bool.and_eq_true] at hb
        injection hy with hy
        refine ⟨isS_spec hb.2, ?_⟩
        have h1 := hb.1
        unfold isU8s at h1
        split at h1
        · rename_i e he
          split at h1
          · rename_i he2; exact ⟨e, he, he2, hy⟩
          · cases h1
        · cases h1
      · cases hy
    cases x <;> simp only at h <;> try (cases h; done)
    case nilsl =>
      obtain ⟨hd, e, hs, he, rfl⟩ := key h
      cases hx
      exact ⟨_, by simp only [convert, Sem.run_bind, run_underlying hs, run_underlying hd, Result.andThen_ok, run_underlying he, Conv.bytesToString, Sem.run_pure], .str (by decide)⟩
    case sl c xs =>
      cases hb : bytesOf xs with
      | none => simp [hb] at h
      | some l =>
        simp only [hb, Option.map_some] at h
        obtain ⟨hd, e, hs, he, rfl⟩ := key h
        obtain ⟨h1, h2⟩ := bytes_ok xs l hb
        have hone : ∀ x ∈ xs, x.length = 1 := by
          intro x hx'
          obtain ⟨i, hi⟩ := List.mem_iff_getElem?.1 hx'
          have hil : i < l.length := by rw [h1]; exact (List.getElem?_eq_some_iff.1 hi).1
          have hn := h2 i _ (List.getElem?_eq_getElem hil)
          rw [hn] at hi
          injection hi with hi
          subst hi
          rfl
        cases hx with
        | @slE _ A cap hc =>
          have hl : l = [] := by cases l with | nil => rfl | cons _ _ => simp at h1
          subst hl
          cases A with
          | none => exact ⟨_, run_convert_bytes_nil w s e hs he 0 cap d hd, .str (by decide)⟩
          | some a =>
            refine ⟨.string (strOfNums []), ?_, .str (by decide)⟩
            rw [run_convert_bytes_string w s d e _ 0 cap hs he hd, run_bytesToString w a 0 cap [] (by simp [loadCells, loadCellsFrom])]
            rfl
        | @slC _ _ b o n cap sz' f hne hn hle hcp hszx hc hdd hbl hcl hf hr =>
          subst hn
          refine ⟨_, run_convert_bytes_arg w s e hs he b o xs.length cap l h1 (fun i hi => ?_) d hd, .str (by rw [strOfNums_size, h1]; exact hle)⟩
          have hil : i < l.length := by omega
          have hm := h2 i _ (List.getElem?_eq_getElem hil)
          have hfl := flatten_ones xs hone i _ hm
          have hrv := hr i _ hfl
          rw [hf i _ hfl, List.getD_eq_getElem?_getD, List.getElem?_eq_getElem hil]
          generalize f i = u at hrv
          cases hrv
          rfl
theorem max_ok {x y : AV} {cx cy : Value} {v : AV} {tys : Array TypeId} {ty : TypeId} (hx : Rv σ w x cx) (hy : Rv σ w y cy) (h : amax x y = some v) : ∃ cv, (Builtin.max_ tys ty #[cx, cy]).run P w = .ok cv w ∧ Rv σ w v cv := by
  unfold amax at h
  cases hx <;> cases hy <;> simp only at h <;> try (cases h; done)
  rename_i k a k' b
  split at h
  · rename_i hk
    subst hk
    injection h with h
    subst h
    exact ⟨_, by simp [Builtin.max_, Builtin.max2], .int⟩
  · cases h
theorem nil_ok {x : AV} {cx : Value} {v : AV} (hx : Rv σ w x cx) (h : anil x = some v) : v = x ∧ ((∃ a, cx = .pointer (some a)) ∨ ∃ f vs, cx = .func (.func f) #[] vs) := by
  unfold anil at h
  cases hx <;> simp only at h <;> try (cases h; done)
  all_goals (injection h with h; refine ⟨h.symm, ?_⟩; first | exact .inl ⟨_, rfl⟩ | exact .inr ⟨_, _, rfl⟩)
/-- Each table that the program has lies as its text lays it, and is no live block. -/
def Tb (P : Program) (σ : Sto) (w : World) : Prop := ∀ x ∈ tabs, ∀ g, P.globalNamed x.1 = some g → σ.dead g ∧ w.var? P x.1 = some x.2.toArray
theorem Tb.lt {P : Program} {w : World} {n : String} {g : Nat} {cs : Array Value} (hg : P.globalNamed n = some g) (h : w.var? P n = some cs) : g < w.heap.size := by
  unfold World.var? at h
  rw [hg, Option.bind_some] at h
  cases hh : w.heap[g]? with
  | none => rw [hh] at h; cases h
  | some o => exact (Array.getElem?_eq_some_iff.1 hh).1
theorem Tb.step {P : Program} {σ σ' : Sto} {w w' : World} (hs : Step σ w σ' w') (h : Tb P σ w) : Tb P σ' w' := fun x hx g hg => by
  obtain ⟨h1, h2⟩ := h x hx g hg
  obtain ⟨h3, h4⟩ := hs.dead g (Tb.lt hg h2) h1
  refine ⟨h4, ?_⟩
  unfold World.var? at h2 ⊢
  rw [hg, Option.bind_some] at h2 ⊢
  rw [h3]; exact h2
/-- A program without tables. -/
theorem Tb.none {P : Program} {σ : Sto} {w : World} (h : (tabs.all fun x => (P.globalNamed x.1).isNone) = true) : Tb P σ w := fun x hx g hg => by
  have := List.all_eq_true.1 h x hx
  rw [hg] at this
  cases this
/-- Fewer live blocks. -/
theorem Tb.drop {P : Program} {σ σ' : Sto} {w : World} (hd : ∀ b, σ.dead b → σ'.dead b) (h : Tb P σ w) : Tb P σ' w := h.step (Step.drop hd)
theorem cellOf_rv {v : Value} {a : AV} (h : cellOf v = some a) : Rv σ w a v ∧ a.isCell = true := by
  unfold cellOf at h
  split at h
  · injection h with h; subst h; exact ⟨.int, rfl⟩
  · injection h with h; subst h; exact ⟨.bool, rfl⟩
  · split at h
    · rename_i hs; injection h with h; subst h; exact ⟨.str hs, rfl⟩
    · cases h
  · cases h
theorem mapM_at {α β : Type} {f : α → Option β} : ∀ {l : List α} {r : List β}, l.mapM f = some r → r.length = l.length ∧ ∀ (i : Nat) (b : β), r[i]? = some b → ∃ a, l[i]? = some a ∧ f a = some b
  | [], r, h => by
    rw [List.mapM_nil] at h; injection h with h; subst h
    exact ⟨rfl, fun i b hb => by simp at hb⟩
  | a :: l, r, h => by
    rw [List.mapM_cons] at h
    cases ha : f a with
    | none => rw [ha] at h; cases h
    | some y =>
      cases hl : l.mapM f with
      | none => rw [ha, hl] at h; cases h
      | some z =>
        rw [ha, hl] at h
        injection h with h; subst h
        obtain ⟨h1, h2⟩ := mapM_at hl
        refine ⟨by simp [h1], fun i b hb => ?_⟩
        cases i with
        | zero => simp only [List.getElem?_cons_zero, Option.some.injEq] at hb ⊢; subst hb; exact ⟨a, rfl, ha⟩
        | succ i => simp only [List.getElem?_cons_succ] at hb ⊢; exact h2 i b hb
theorem sliceAt_whole {t e : TypeId} {n g : Nat} {it : TypeInfo} (hu : P.underlying t = some (.array n e)) (hi : P.info? e = some it) :
    (Instr.sliceAt t (.pointer (some ⟨g, 0, none⟩)) none none none).run P w = .ok (.slice (some ⟨g, 0, none⟩) n n) w := by
  simp only [Instr.sliceAt, Sem.run_bind, run_underlying hu, Result.andThen_ok]
  simp [Instr.sliceBounds, Instr.sureAddr, asAddr, sizeOf, typeInfo, program, Sem.run, Sem.run_bind, Sem.run_pure, Result.andThen_ok, hi, Addr.add]
theorem table_rv {g n : Nat} {cs : List Value} {xs : List AV} (hd : σ.dead g) (hw : ∀ (i : Nat) (v : Value), cs[i]? = some v → w.cell? ⟨g, i, none⟩ = some v) (hb : g < w.heap.size) (hn : n = cs.length) (hne : 0 < n) (hle : n ≤ 4611686018427387904)
    (hm : cs.mapM cellOf = some xs) : Rv σ w (.sl true (xs.map fun a => [a])) (.slice (some ⟨g, 0, none⟩) n n) := by
  obtain ⟨hx, hc⟩ := mapM_at hm
  have hfl : (xs.map fun a => [a]).flatten = xs := by
    clear hc hx hm
    induction xs with
    | nil => rfl
    | cons a l ih => simp only [List.map_cons, List.flatten_cons, ih, List.cons_append, List.nil_append]
  have hne' : xs ≠ [] := fun h => by rw [h] at hx; simp at hx; omega
  refine .slC (sz := 1) (f := fun i => cs.getD i undef) (by simpa using hne') (by simp [hn, hx]) hle (Nat.le_refl _) (fun x h => ?_) (fun _ => rfl) hd hb (fun a ha => ?_) (fun i a hi => ?_) (fun i a hi => ?_)
  · obtain ⟨a, _, rfl⟩ := List.mem_map.1 h; rfl
  · rw [hfl] at ha
    obtain ⟨i, hi⟩ := List.getElem?_of_mem ha
    obtain ⟨v, _, h2⟩ := hc i a hi; exact (cellOf_rv (σ := σ) (w := w) h2).2
  · rw [hfl] at hi
    obtain ⟨v, h1, _⟩ := hc i a hi
    have hv : cs.getD i undef = v := by simp [List.getD_eq_getElem?_getD, h1]
    rw [Nat.zero_add, hv]; exact hw i v h1
  · rw [hfl] at hi
    obtain ⟨v, h1, h2⟩ := hc i a hi
    have hv : cs.getD i undef = v := by simp [List.getD_eq_getElem?_getD, h1]
    rw [hv]; exact (cellOf_rv h2).1
theorem tcut_ok {t : TypeId} {g : Nat} {v : AV} (hT : Tb P σ w) (h : tcut P t g = some v) : ∃ cv, (Instr.sliceAt t (.pointer (some ⟨g, 0, none⟩)) none none none).run P w = .ok cv w ∧ Rv σ w v cv := by
  unfold tcut at h
  split at h
  · rename_i n e x hu hf
    split at h
    · rename_i hc
      obtain ⟨h1, h2, h3, h4⟩ := hc
      obtain ⟨it, hi⟩ := Option.isSome_iff_exists.1 h1
      cases hm : x.2.mapM cellOf with
      | none => rw [hm] at h; cases h
      | some xs =>
        rw [hm] at h
        injection h with h; subst h
        have hg : P.globalNamed x.1 = some g := by
          have := List.find?_some hf
          simpa using this
        obtain ⟨hd, hv⟩ := hT x (List.mem_of_find?_eq_some hf) g hg
        refine ⟨_, sliceAt_whole hu hi, table_rv hd (fun i v hv' => ?_) (Tb.lt hg hv) h2 h3 h4 hm⟩
        have hc := World.var?_cell hg hv i
        rw [hc]
        simpa using hv'
    · cases h
  · cases h
theorem tcells_rv {g : Nat} {cs : List AV} (hT : Tb P σ w) (h : tcells P g = some cs) : Rv σ w (.ept cs) (.pointer (some ⟨g, 0, none⟩)) := by
  unfold tcells at h
  cases hf : tabs.find? (fun x => P.globalNamed x.1 == some g) with
  | none => rw [hf] at h; cases h
  | some x =>
    rw [hf, Option.bind_some] at h
    have hg : P.globalNamed x.1 = some g := by
      have := List.find?_some hf
      simpa using this
    obtain ⟨hd, hv⟩ := hT x (List.mem_of_find?_eq_some hf) g hg
    obtain ⟨hx, hc⟩ := mapM_at h
    refine .ept (f := fun i => x.2.getD i undef) hd (Tb.lt hg hv) (fun a ha => ?_) (fun i a hi => ?_) (fun i a hi => ?_)
    · obtain ⟨i, hi⟩ := List.getElem?_of_mem ha
      obtain ⟨v, _, h2⟩ := hc i a hi; exact (cellOf_rv (σ := σ) (w := w) h2).2
    · obtain ⟨v, h1, _⟩ := hc i a hi
      have hv' : x.2.getD i undef = v := by simp [List.getD_eq_getElem?_getD, h1]
      rw [Nat.zero_add, hv', World.var?_cell hg hv i]
      simpa using h1
    · obtain ⟨v, h1, h2⟩ := hc i a hi
      have hv' : x.2.getD i undef = v := by simp [List.getD_eq_getElem?_getD, h1]
      rw [hv']; exact (cellOf_rv h2).1
theorem tload_ok (hs : Sim σ w) (hT : Tb P σ w) {t : TypeId} {g : Nat} {v : AV} (h : tload P σ t g = some v) : ∃ cv, (Instr.loadAt t (.pointer (some ⟨g, 0, none⟩))).run P w = .ok cv w ∧ Rv σ w v cv := by
  unfold tload at h
  cases hc : tcells P g with
  | none => rw [hc] at h; cases h
  | some cs => rw [hc, Option.bind_some] at h; exact load_ok hs (tcells_rv hT hc) h
theorem vop_ok {o : Oper} {ρ : Operand → AV} {ρc : Operand → Value} {v : AV} (hs : Sim σ w) (hT : Tb P σ w) (hρ : ∀ x ∈ o.op.operands.toList, Rv σ w (ρ x) (ρc x)) (h : vop P σ ρ o.op = some v) :
    ∃ cv w', (execOp ρc o).run P w = .ok (.value cv) w' ∧ Below w.heap.size w w' ∧ Rv σ w' v cv := by
  have stay : ∀ {s : Sem Value} {cv : Value}, s.run P w = .ok cv w → Rv σ w v cv → ∃ cv w', (do pure (.value (← s)) : Sem Next).run P w = .ok (.value cv) w' ∧ Below w.heap.size w w' ∧ Rv σ w' v cv := by
    intro s cv hr hv
    exact ⟨cv, w, by rw [Sem.run_bind, hr]; rfl, Below.refl _ _, hv⟩
  obtain ⟨dst, op, ty, pos, af, g⟩ := o
  cases op <;> simp only [vop] at h <;> simp only [Op.operands] at hρ <;> try (cases h; done)
  case move x => injection h with h; subst h; exact ⟨_, w, rfl, Below.refl _ _, hρ x (by simp)⟩
  case assign x => injection h with h; subst h; exact ⟨_, w, rfl, Below.refl _ _, hρ x (by simp)⟩
  case pick c a b =>
    have hc := hρ c (by simp)
    cases hcc : ρ c <;> simp only [hcc] at h <;> try (cases h; done)
    rename_i t
    injection h with h
    rw [hcc] at hc
    have hcb : ρc c = .bool t := by generalize ρc c = u at hc; cases hc; rfl
    refine ⟨if t = true then ρc a else ρc b, w, by simp only [execOp, hcb, asBool, Sem.run_bind, Sem.run_pure, Result.andThen_ok], Below.refl _ _, ?_⟩
    subst h
    cases t
    · exact hρ b (by simp)
    · exact hρ a (by simp)
  case load t a => obtain ⟨cv, h1, h2⟩ := load_ok hs (hρ a (by simp)) h; exact stay h1 h2
  case fieldAddr t x f => obtain ⟨cv, h1, h2⟩ := field_ok (hρ x (by simp)) h; exact stay h1 h2
  case indexAddr t x i => obtain ⟨cv, h1, h2⟩ := idx_ok (hρ x (by simp)) (hρ i (by simp)) h; exact stay h1 h2
  case index t x i => obtain ⟨cv, h1, h2⟩ := indexV_ok (hρ x (by simp)) (hρ i (by simp)) h; exact stay h1 h2
  case binOp op t x y t2 => obtain ⟨cv, h1, h2⟩ := bin_ok (ox := x) (oy := y) (hρ x (by simp)) (hρ y (by simp)) h; exact stay h1 h2
  case unOp op t x => obtain ⟨cv, h1, h2⟩ := un_ok (hρ x (by simp)) h; exact stay h1 h2
  case extract x i => obtain ⟨cv, h1, h2⟩ := ext_ok (hρ x (by simp)) h; exact stay h1 h2
  case build t parts => obtain ⟨cv, h1, h2⟩ := build_ok (fun p hp => hρ p.2 (by simp; exact ⟨p.1, by simpa using hp⟩)) h; exact stay h1 h2
  case buildSlice t len parts =>
    obtain ⟨cv, w', h1, h2, h3⟩ := bslice_ok hs (fun p hp => hρ p.2 (by simp; exact ⟨p.1, by simpa using hp⟩)) h
    exact ⟨cv, w', by simp only [execOp]; rw [Sem.run_bind, h1]; rfl, h2, h3⟩
  case slice t x lo hi mx =>
    have hopt : ∀ z : Option Operand, (∀ y ∈ z.toArray.toList, Rv σ w (ρ y) (ρc y)) → RvO σ w (z.map ρ) (z.map ρc) := by
      intro z hz
      cases z with
      | none => trivial
      | some y => exact hz y (by simp)
    have hmem : ∀ y, y ∈ lo.toArray.toList ∨ y ∈ hi.toArray.toList ∨ y ∈ mx.toArray.toList → Rv σ w (ρ y) (ρc y) := by
      intro y hy
      refine hρ y ?_
      simp only [Array.toList_append, List.mem_append]
      rcases hy with hy | hy | hy
      · exact .inl (.inl (.inr hy))
      · exact .inl (.inr hy)
      · exact .inr hy
    have hxx : Rv σ w (ρ x) (ρc x) := hρ x (by simp)
    by_cases hp : ∃ g, ρ x = .ptr g 0
    · obtain ⟨g, hg⟩ := hp
      rw [hg] at h hxx
      simp only [aslT] at h
      split at h
      · rename_i hnn
        cases lo <;> simp at hnn
        cases hi <;> simp at hnn
        cases mx <;> simp at hnn
        obtain ⟨cv, h1, h2⟩ := tcut_ok hT h
        have hcx : ρc x = .pointer (some ⟨g, 0, none⟩) := by generalize ρc x = u at hxx; cases hxx; rfl
        refine stay (s := Instr.sliceAt t (ρc x) none none none) ?_ h2
        rw [hcx]; exact h1
      · cases h
    have h : aslice (isS P t) (se P t) (ρ x) (lo.map ρ) (hi.map ρ) (mx.map ρ) = some v := by
      unfold aslT at h
      split at h
      · rename_i g hg; exact absurd ⟨_, hg⟩ hp
      · cases h
      · exact h
    obtain ⟨cv, h1, h2⟩ := slice_ok hxx (hopt lo (fun y hy => hmem y (.inl hy))) (hopt hi (fun y hy => hmem y (.inr (.inl hy)))) (hopt mx (fun y hy => hmem y (.inr (.inr hy)))) h
    refine stay (s := Instr.sliceAt t (ρc x) (lo.map ρc) (hi.map ρc) (mx.map ρc)) ?_ h2
    rw [← h1]
    have hna : ∀ n e, P.underlying t ≠ some (.array n e) := by
      intro n e hu
      have hS : isS P t = false := by simp [isS, hu]
      have hE : se P t = none := by simp [se, hu]
      rw [hS, hE] at h
      unfold aslice at h
      cases hx' : ρ x <;> simp [hx'] at h
    simp only [Instr.sliceAt, Sem.run_bind]
    cases hu : P.underlying t with
    | none => simp [Instr.slice, underlying, program, Sem.run, hu]
    | some d =>
      rw [run_underlying hu, Result.andThen_ok]
      cases d <;> first | rfl | exact absurd hu (hna _ _)
  case convert s d x =>
    split at h
    · rename_i hu
      obtain ⟨cv, h1, h2⟩ := conv_ok hu (hρ x (by simp)) h
      exact stay h1 h2
    · cases h
  case nilCheck x =>
    obtain ⟨rfl, hc⟩ := nil_ok (hρ x (by simp)) h
    have hx := hρ x (by simp)
    refine ⟨ρc x, w, ?_, Below.refl _ _, hx⟩
    simp only [execOp]
    rcases hc with ⟨a, ha⟩ | ⟨f, vs, ha⟩ <;> rw [ha] <;> rfl
  case makeFunc fn first caps =>
    cases fn <;> simp only at h <;> try (cases h; done)
    rename_i f
    split at h
    · rename_i hf
      injection h with h
      subst h
      have hfe : first = #[] := Array.eq_empty_of_size_eq_zero hf
      subst hfe
      refine stay (s := Instr.makeFunc (.func f) ((#[] : Array Operand).map ρc) (caps.map ρc)) (cv := .func (.func f) #[] (caps.map ρc)) (by simp [Instr.makeFunc]) ?_
      refine .fn (by rw [List.length_map, Array.size_map, Array.length_toList]) (fun i c hc => ?_)
      rw [List.getElem?_map] at hc
      obtain ⟨y, hy, rfl⟩ := Option.map_eq_some_iff.1 hc
      have : (caps.map ρc).getD i undef = ρc y := by simp at hy; simp [hy]
      rw [this]
      exact hρ y (by simp; exact Array.mem_toList_iff.1 (List.mem_of_getElem? hy))
    · cases h
  case call c =>
    obtain ⟨callee, args, argTypes⟩ := c
    cases callee <;> try (cases h; done)
    rename_i b
    cases b <;> try (cases h; done)
    case len =>
      cases hargs : args.toList with
      | nil => simp [hargs] at h
      | cons x rest =>
        cases rest with
        | cons _ _ => simp [hargs] at h
        | nil =>
          cases htys : argTypes.toList with
          | nil => simp [hargs, htys] at h
          | cons t rest =>
            cases rest with
            | cons _ _ => simp [hargs, htys] at h
            | nil =>
              simp only [hargs, htys] at h
              split at h
              · rename_i ht
                have ha : args = #[x] := by rw [← Array.toArray_toList (xs := args), hargs]
                have hty : argTypes = #[t] := by rw [← Array.toArray_toList (xs := argTypes), htys]
                subst ha; subst hty
                rw [Bool.or_eq_true] at ht
                obtain ⟨cv, h1, h2⟩ := len_ok (ty := ty) ht (hρ x (by simp [Call.operands])) h
                refine ⟨cv, w, ?_, Below.refl _ _, h2⟩
                simp only [execOp, resolve, invoke, builtin, Sem.run_bind, Sem.run_pure, Result.andThen_ok, List.map_toArray, List.map_cons, List.map_nil, h1]
              · cases h
    case max =>
      cases hargs : args.toList with
      | nil => simp [hargs] at h
      | cons x rest =>
        cases rest with
        | nil => simp [hargs] at h
        | cons y rest =>
          cases rest with
          | cons _ _ => simp [hargs] at h
          | nil =>
            simp only [hargs] at h
            have ha : args = #[x, y] := by rw [← Array.toArray_toList (xs := args), hargs]
            subst ha
            obtain ⟨cv, h1, h2⟩ := max_ok (tys := argTypes) (ty := ty) (P := P) (hρ x (by simp [Call.operands])) (hρ y (by simp [Call.operands])) h
            refine ⟨cv, w, ?_, Below.refl _ _, h2⟩
            simp only [execOp, resolve, invoke, builtin, Sem.run_bind, Sem.run_pure, Result.andThen_ok, List.map_toArray, List.map_cons, List.map_nil, h1]
end
end Go.Proofs.Shadow

