/- IntroducedNames' walk: its result is a list of live trees. -/
import Derived.Test.YtjanllllgiehfaaLd
import Derived.Test.YtjanllllgiehfaaxiW0
import Derived.Test.YtjanllllgiehfaaWo
set_option maxRecDepth 100000
set_option maxHeartbeats 2000000
set_option linter.unusedSimpArgs false
set_option linter.unusedVariables false
open Go Go.Proofs Go.Proofs.Shadow
namespace Go.Proofs.SA
def CI38 (c0 : Stp) (a0 : Fm) (c1 r : List Fm) : Prop := ∀ (e0 e1 : Nat) (o : AV) (rows : List (List AV)) (L : List OwnR) (σ : Sto), LvL 3 29 c1 rows L → Pre σ [(e0, ⟨41, 13, [.int .i64 c0.id, .int .i64 c0.rule, .int .i64 c0.scope, .int .i64 c0.use.kind, .str c0.use.name, .int .i64 c0.use.num, .sl false (rws cI c0.use.sc), .sl false (rws Fm.cells c0.use.kids), .int .i64 c0.res.kind, .str c0.res.name, .int .i64 c0.res.num, .sl false (rws cI c0.res.sc), .sl false (rws Fm.cells c0.res.kids)]⟩), (e1, ⟨27, 1, [o]⟩)] (⟨o, 29, 5, rows⟩ :: L) → Ctr Try.prog 38 [.agg (Fm.cells a0), .ptr e0 0, .ptr e1 0] σ (fun r' σ' => ∃ (τ' : Sto) (u : AV) (rows' : List (List AV)) (L' : List OwnR), r' = .tup [] ∧ LvL 3 29 r rows' L' ∧ Tau (strip σ (⟨o, 29, 5, rows⟩ :: L)) [(e0, ⟨41, 13, [.int .i64 c0.id, .int .i64 c0.rule, .int .i64 c0.scope, .int .i64 c0.use.kind, .str c0.use.name, .int .i64 c0.use.num, .sl false (rws cI c0.use.sc), .sl false (rws Fm.cells c0.use.kids), .int .i64 c0.res.kind, .str c0.res.name, .int .i64 c0.res.num, .sl false (rws cI c0.res.sc), .sl false (rws Fm.cells c0.res.kids)]⟩), (e1, ⟨27, 1, [u]⟩)] τ' ∧ Fx τ' σ' [] (⟨u, 29, 5, rows'⟩ :: L'))
theorem impl_IntroducedNames_c1_live (c0 : Stp) : ∀ (a0 : Fm) (c1 : List Fm) r, impl_IntroducedNames_c1 a0 c0 c1 = some r → CI38 c0 a0 c1 r := by
  intro a0 c1 r H
  intro e0 e1 o rows L σ hL hP
  unfold impl_IntroducedNames_c1 at H
  refine hdg mixed Try.func38 (rs := []) fun q tT => ?_
  obtain ⟨hF, hX⟩ := hP.start
  generalize strip σ (⟨o, 29, 5, rows⟩ :: L) = τ0 at hF hX ⊢
  refine go ?_
  refine fx_alloc hF rfl fun b1 σ2 hF => ?_
  refine go ?_
  obtain ⟨x13, g3, H⟩ := bnd H
  refine aGd_cutN 5 8 13 (.bool x13) (gi q (fun q => ?_) (fun q => ?_)) (fun J => ?_)
  · rw [if_pos (dt q)] at g3
    refine go ?_
    obtain ⟨x12, hx12, g3⟩ := bnd g3
    refine cl (slices_Contains_int_int_ok a0.sc c0.scope _ hx12) ?_
    refine go ?_
    exact cutd 8 g3
  · rw [if_neg (df q)] at g3
    refine go ?_
    exact cutd 8 g3
  refine go ?_
  obtain ⟨x19, g5, H⟩ := bnd H
  refine aGd_cutN 4 15 19 (.bool x19) (gi q (fun q => ?_) (fun q => ?_)) (fun J => ?_)
  · rw [if_pos (dbt q)] at g5
    refine go ?_
    obtain ⟨x17, hx17, g5⟩ := bnd g5
    refine aCall_flat (impl_isIn_ok c1 a0 _ hx17) .bool (by (try simp only [Fm.cells_eq]); exact (.cons (hL.wk hF (List.mem_cons_self ..) (fun m hm => List.mem_cons_of_mem _ hm)) (fun _ => rfl) (.cons (Wk.agg (Sub.zero _) (.cons (Wk.sub (Sub.zero _) _) id (.cons (Wk.sub (Sub.zero _) _) id (.cons (Wk.sub (Sub.zero _) _) id (.cons (Wk.sub (Sub.zero _) _) id (.cons (Wk.sub (Sub.zero _) _) id .nil)))))) (fun h => by first | exact h | rfl) .nil))) ?_
    refine go ?_
    exact cutd 15 g5
  · rw [if_neg (dbf q)] at g5
    refine go ?_
    exact cutd 15 g5
  refine go ?_
  refine cdb H (fun h H => ?_) (fun h H => ?_)
  · refine go ?_
    obtain ⟨E, hEq⟩ : ∃ E, E = EE σ2 [e1] := ⟨_, rfl⟩
    have n7 : ¬ E b1 := by rw [hEq]; exact EE.not (hF.at 0 rfl) (by simp only [List.mem_cons, List.not_mem_nil, or_false, not_or]; exact neX hF 0 rfl hX 1 rfl)
    have n8 : ¬ E e0 := by rw [hEq]; exact EE.not (hF.xat hX 0 rfl) (by simp only [List.mem_cons, List.not_mem_nil, or_false, not_or]; exact neE hX 0 1 rfl rfl (by decide))
    refine draw_cc E [.v, .v] [1, 4] .x 0 .x 2 [.v] [3] [.x, .v] [5, 6] .x 7 .x 8 [] [] [] [] (by kernel_rfl) ?_
    have z := And.intro (hide_at (hF.at 0 rfl) n7) (hide_at (hF.xat hX 0 rfl) n8)
    try simp only [go_sem, ↓reduceIte, Nat.reduceEqDiff, Nat.reduceAdd, Nat.reduceMul, Nat.reduceLeDiff, Nat.reduceLT, Int.reduceEq, Int.toNat_natCast, q, tT, hF.f, hF.m, hF.x hX, z, aev_zF]
    refine ⟨?_, ?_⟩
    · have z := And.intro (hide_at (hF.at 0 rfl) n7) (hide_at (hF.xat hX 0 rfl) n8)
      try simp only [go_sem, ↓reduceIte, Nat.reduceEqDiff, Nat.reduceAdd, Nat.reduceMul, Nat.reduceLeDiff, Nat.reduceLT, Int.reduceEq, Int.toNat_natCast, q, tT, hF.f, hF.m, hF.x hX, z, aev_zF]
      obtain ⟨x22, hx22, H⟩ := bnd H
      refine cx (impl_copyForm_live a0 _ hx22 _ (pre 0 0 0 hF hX)) ?_
      rintro _ σ3 ⟨τ3, row, M, rfl, hM, hT, hG⟩
      refine kp_intro2 (Fx.kept hT hG (by intro p hp; cases hp)) fun _ => ?_
      obtain ⟨τ4, hX, hF⟩ := aft 0 0 0 hF hX hT hG
      have hF := hF.perm List.perm_append_comm
      have hF : Fx τ4 σ3 [(b1, ⟨29, 5, [.int .i64 a0.kind, .str a0.name, .int .i64 a0.num, .sl false (rws cI a0.sc), .sl false (rws Fm.cells a0.kids)]⟩)] (⟨o, 29, 5, rows⟩ :: (L ++ M)) := hF
      have hrl := hM.len
      have z := And.intro (hide_at (hF.at 0 rfl) n7) (hide_at (hF.xat hX 0 rfl) n8)
      try simp only [go_sem, ↓reduceIte, Nat.reduceEqDiff, Nat.reduceAdd, Nat.reduceMul, Nat.reduceLeDiff, Nat.reduceLT, Int.reduceEq, Int.toNat_natCast, q, tT, hF.f, hF.m, hF.x hX, z, aev_zF, hrl, Option.map_some]
      obtain ⟨x25, hx25, H⟩ := bnd H
      obtain ⟨rfl, hb⟩ := lcat_eq hx25
      have hlen := hL.len.1
      refine fx_appRK (sz := 5) (by_ := 80) hF 0 (ys := [zrow]) rfl (by decide) (by decide) (RdL.sl _ _ _ _ (fun r hr => by rw [List.mem_singleton.1 hr]; rfl)) (by simpa [hlen] using hb) fun v9 σ10 hF => ?_
      have hx0 : idx (rows ++ [zrow]) ((rows.length : Nat) : Int) = some zrow := by unfold idx; simp
      have hF : Fx τ4 σ10 [(b1, ⟨29, 5, [.int .i64 a0.kind, .str a0.name, .int .i64 a0.num, .sl false (rws cI a0.sc), .sl false (rws Fm.cells a0.kids)]⟩)] (⟨v9, 29, 5, rows ++ [zrow]⟩ :: (L ++ M)) := hF
      obtain ⟨b11, k12, hv⟩ := hF.ref (v := v9) (e := 29) (sz := 5) 0 (g := id) (l := rows ++ [zrow]) (by simp [rws]) hx0
      subst hv
      obtain ⟨x26, hx26, H⟩ := bnd H
      have hai := fun σ => aidx_own (σ := σ) (e := 29) (sz := 5) (by_ := 80) (b := b11) (c := k12) (k := .i64) (l := rows ++ [zrow]) (n := (rows ++ [zrow]).length) rfl hx0
      have hset : (rows ++ [zrow]).set rows.length row = rows ++ [row] := by simp
      have hres : (c1 ++ [Fm.mk 0 (ByteArray.mk #[]) 0 [] []]).set (c1.length : Int).toNat x22 = c1 ++ [x22] := by simp
      rw [hres] at H
      have e := pur H; subst e
      have z := And.intro (hide_at (hF.at 0 rfl) n7) (hide_at (hF.xat hX 0 rfl) n8)
      try simp only [go_sem, ↓reduceIte, Nat.reduceEqDiff, Nat.reduceAdd, Nat.reduceMul, Nat.reduceLeDiff, Nat.reduceLT, Int.reduceEq, Int.toNat_natCast, q, tT, hF.f, hF.m, hF.x hX, z, aev_zF, hai, hrl, Option.map_some]
      refine ⟨?_, ?_⟩
      · have z := And.intro (hide_at (hF.at 0 rfl) n7) (hide_at (hF.xat hX 0 rfl) n8)
        refine gh ?_
        refine fx_osetRK hF 0 rfl (by simp) rfl hM.len rfl fun σ11 hF => ?_
        have hF : Fx τ4 σ11 [(b1, ⟨29, 5, [.int .i64 a0.kind, .str a0.name, .int .i64 a0.num, .sl false (rws cI a0.sc), .sl false (rws Fm.cells a0.kids)]⟩)] (⟨.ref b11 (rows ++ [zrow]).length k12, 29, 5, rows ++ [row]⟩ :: (L ++ M)) := by rw [← hset]; exact hF
        have z := And.intro (hide_at (hF.at 0 rfl) n7) (hide_at (hF.xat hX 0 rfl) n8)
        refine gh ?_
        refine stTK hF hX 1 (by rw [hEq]; exact EE.of (by simp)) (hF.cells 0 rfl) fun τ15 σ14 hF hX => ?_
        have z := And.intro (hide_at (hF.at 0 rfl) n7) (hide_at (hF.xat hX 0 rfl) n8)
        refine gh ?_
        refine go ?_
        exact rg [] ⟨_, _, _, _, rfl, hL.snoc hM, hX, by simpa using hF.drop 1 0⟩
      · have z := And.intro (hide_at (hF.at 0 rfl) n7) (hide_at (hF.xat hX 0 rfl) n8)
        refine gh ?_
        refine stTK hF hX 1 (by rw [hEq]; exact EE.of (by simp)) (hF.cells 0 rfl) fun τ15 σ14 hF hX => ?_
        have z := And.intro (hide_at (hF.at 0 rfl) n7) (hide_at (hF.xat hX 0 rfl) n8)
        refine gh ?_
        refine fx_osetRK hF 0 rfl (by simp) rfl hM.len rfl fun σ11 hF => ?_
        have hF : Fx τ15 σ11 [(b1, ⟨29, 5, [.int .i64 a0.kind, .str a0.name, .int .i64 a0.num, .sl false (rws cI a0.sc), .sl false (rws Fm.cells a0.kids)]⟩)] (⟨.ref b11 (rows ++ [zrow]).length k12, 29, 5, rows ++ [row]⟩ :: (L ++ M)) := by rw [← hset]; exact hF
        have z := And.intro (hide_at (hF.at 0 rfl) n7) (hide_at (hF.xat hX 0 rfl) n8)
        refine gh ?_
        refine go ?_
        exact rg [] ⟨_, _, _, _, rfl, hL.snoc hM, hX, by simpa using hF.drop 1 0⟩
    · have z := And.intro (hide_at (hF.at 0 rfl) n7) (hide_at (hF.xat hX 0 rfl) n8)
      try simp only [go_sem, ↓reduceIte, Nat.reduceEqDiff, Nat.reduceAdd, Nat.reduceMul, Nat.reduceLeDiff, Nat.reduceLT, Int.reduceEq, Int.toNat_natCast, q, tT, hF.f, hF.m, hF.x hX, z, aev_zF]
      obtain ⟨x22, hx22, H⟩ := bnd H
      refine cx (impl_copyForm_live a0 _ hx22 _ (pre 0 0 0 hF hX)) ?_
      rintro _ σ3 ⟨τ3, row, M, rfl, hM, hT, hG⟩
      refine kp_intro2 (Fx.kept hT hG (by intro p hp; cases hp)) fun _ => ?_
      obtain ⟨τ4, hX, hF⟩ := aft 0 0 0 hF hX hT hG
      have hF := hF.perm List.perm_append_comm
      have hF : Fx τ4 σ3 [(b1, ⟨29, 5, [.int .i64 a0.kind, .str a0.name, .int .i64 a0.num, .sl false (rws cI a0.sc), .sl false (rws Fm.cells a0.kids)]⟩)] (⟨o, 29, 5, rows⟩ :: (L ++ M)) := hF
      have hrl := hM.len
      have z := And.intro (hide_at (hF.at 0 rfl) n7) (hide_at (hF.xat hX 0 rfl) n8)
      try simp only [go_sem, ↓reduceIte, Nat.reduceEqDiff, Nat.reduceAdd, Nat.reduceMul, Nat.reduceLeDiff, Nat.reduceLT, Int.reduceEq, Int.toNat_natCast, q, tT, hF.f, hF.m, hF.x hX, z, aev_zF, hrl, Option.map_some]
      obtain ⟨x25, hx25, H⟩ := bnd H
      obtain ⟨rfl, hb⟩ := lcat_eq hx25
      have hlen := hL.len.1
      refine fx_appRK (sz := 5) (by_ := 80) hF 0 (ys := [zrow]) rfl (by decide) (by decide) (RdL.sl _ _ _ _ (fun r hr => by rw [List.mem_singleton.1 hr]; rfl)) (by simpa [hlen] using hb) fun v9 σ10 hF => ?_
      have hx0 : idx (rows ++ [zrow]) ((rows.length : Nat) : Int) = some zrow := by unfold idx; simp
      have hF : Fx τ4 σ10 [(b1, ⟨29, 5, [.int .i64 a0.kind, .str a0.name, .int .i64 a0.num, .sl false (rws cI a0.sc), .sl false (rws Fm.cells a0.kids)]⟩)] (⟨v9, 29, 5, rows ++ [zrow]⟩ :: (L ++ M)) := hF
      obtain ⟨b11, k12, hv⟩ := hF.ref (v := v9) (e := 29) (sz := 5) 0 (g := id) (l := rows ++ [zrow]) (by simp [rws]) hx0
      subst hv
      obtain ⟨x26, hx26, H⟩ := bnd H
      have hai := fun σ => aidx_own (σ := σ) (e := 29) (sz := 5) (by_ := 80) (b := b11) (c := k12) (k := .i64) (l := rows ++ [zrow]) (n := (rows ++ [zrow]).length) rfl hx0
      have hset : (rows ++ [zrow]).set rows.length row = rows ++ [row] := by simp
      have hres : (c1 ++ [Fm.mk 0 (ByteArray.mk #[]) 0 [] []]).set (c1.length : Int).toNat x22 = c1 ++ [x22] := by simp
      rw [hres] at H
      have e := pur H; subst e
      have z := And.intro (hide_at (hF.at 0 rfl) n7) (hide_at (hF.xat hX 0 rfl) n8)
      try simp only [go_sem, ↓reduceIte, Nat.reduceEqDiff, Nat.reduceAdd, Nat.reduceMul, Nat.reduceLeDiff, Nat.reduceLT, Int.reduceEq, Int.toNat_natCast, q, tT, hF.f, hF.m, hF.x hX, z, aev_zF, hai, hrl, Option.map_some]
      refine ⟨?_, ?_⟩
      · have z := And.intro (hide_at (hF.at 0 rfl) n7) (hide_at (hF.xat hX 0 rfl) n8)
        refine gh ?_
        refine fx_osetRK hF 0 rfl (by simp) rfl hM.len rfl fun σ11 hF => ?_
        have hF : Fx τ4 σ11 [(b1, ⟨29, 5, [.int .i64 a0.kind, .str a0.name, .int .i64 a0.num, .sl false (rws cI a0.sc), .sl false (rws Fm.cells a0.kids)]⟩)] (⟨.ref b11 (rows ++ [zrow]).length k12, 29, 5, rows ++ [row]⟩ :: (L ++ M)) := by rw [← hset]; exact hF
        have z := And.intro (hide_at (hF.at 0 rfl) n7) (hide_at (hF.xat hX 0 rfl) n8)
        refine gh ?_
        refine stTK hF hX 1 (by rw [hEq]; exact EE.of (by simp)) (hF.cells 0 rfl) fun τ15 σ14 hF hX => ?_
        have z := And.intro (hide_at (hF.at 0 rfl) n7) (hide_at (hF.xat hX 0 rfl) n8)
        refine gh ?_
        refine go ?_
        exact rg [] ⟨_, _, _, _, rfl, hL.snoc hM, hX, by simpa using hF.drop 1 0⟩
      · have z := And.intro (hide_at (hF.at 0 rfl) n7) (hide_at (hF.xat hX 0 rfl) n8)
        refine gh ?_
        refine stTK hF hX 1 (by rw [hEq]; exact EE.of (by simp)) (hF.cells 0 rfl) fun τ15 σ14 hF hX => ?_
        have z := And.intro (hide_at (hF.at 0 rfl) n7) (hide_at (hF.xat hX 0 rfl) n8)
        refine gh ?_
        refine fx_osetRK hF 0 rfl (by simp) rfl hM.len rfl fun σ11 hF => ?_
        have hF : Fx τ15 σ11 [(b1, ⟨29, 5, [.int .i64 a0.kind, .str a0.name, .int .i64 a0.num, .sl false (rws cI a0.sc), .sl false (rws Fm.cells a0.kids)]⟩)] (⟨.ref b11 (rows ++ [zrow]).length k12, 29, 5, rows ++ [row]⟩ :: (L ++ M)) := by rw [← hset]; exact hF
        have z := And.intro (hide_at (hF.at 0 rfl) n7) (hide_at (hF.xat hX 0 rfl) n8)
        refine gh ?_
        refine go ?_
        exact rg [] ⟨_, _, _, _, rfl, hL.snoc hM, hX, by simpa using hF.drop 1 0⟩
  · refine go ?_
    have e := pur H; subst e
    exact rg [] ⟨_, _, _, _, rfl, hL, hX, by simpa using hF.drop 1 0⟩
def CI37 (c0 : Stp) (a0 : Fm) (c1 r : List Fm) : Prop := ∀ (e0 e1 : Nat) (o : AV) (rows : List (List AV)) (L : List OwnR) (σ : Sto), LvL 3 29 c1 rows L → Pre σ [(e0, ⟨41, 13, [.int .i64 c0.id, .int .i64 c0.rule, .int .i64 c0.scope, .int .i64 c0.use.kind, .str c0.use.name, .int .i64 c0.use.num, .sl false (rws cI c0.use.sc), .sl false (rws Fm.cells c0.use.kids), .int .i64 c0.res.kind, .str c0.res.name, .int .i64 c0.res.num, .sl false (rws cI c0.res.sc), .sl false (rws Fm.cells c0.res.kids)]⟩), (e1, ⟨27, 1, [o]⟩)] (⟨o, 29, 5, rows⟩ :: L) → Ctr Try.prog 37 [.agg (Fm.cells a0), .fn 38 [.ptr e0 0, .ptr e1 0]] σ (fun r' σ' => ∃ (τ' : Sto) (u : AV) (rows' : List (List AV)) (L' : List OwnR), r' = .tup [] ∧ LvL 3 29 r rows' L' ∧ Tau (strip σ (⟨o, 29, 5, rows⟩ :: L)) [(e0, ⟨41, 13, [.int .i64 c0.id, .int .i64 c0.rule, .int .i64 c0.scope, .int .i64 c0.use.kind, .str c0.use.name, .int .i64 c0.use.num, .sl false (rws cI c0.use.sc), .sl false (rws Fm.cells c0.use.kids), .int .i64 c0.res.kind, .str c0.res.name, .int .i64 c0.res.num, .sl false (rws cI c0.res.sc), .sl false (rws Fm.cells c0.res.kids)]⟩), (e1, ⟨27, 1, [u]⟩)] τ' ∧ Fx τ' σ' [] (⟨u, 29, 5, rows'⟩ :: L'))
def CIL37 (c0 : Stp) (a0 : Fm) (z : List Fm) (i : Int) (out : List Fm) : Prop := ∀ c, loopAt Try.f37 0 = some c → ∀ (Q : AX → AS → Prop) (τ0 : Sto) (e0 e1 b1 : Nat), (∀ (T : Nat → AV) (σ τ : Sto) (u : AV) (rows : List (List AV)) (L : List OwnR), LvL 3 29 out rows L → Tau τ0 [(e0, ⟨41, 13, [.int .i64 c0.id, .int .i64 c0.rule, .int .i64 c0.scope, .int .i64 c0.use.kind, .str c0.use.name, .int .i64 c0.use.num, .sl false (rws cI c0.use.sc), .sl false (rws Fm.cells c0.use.kids), .int .i64 c0.res.kind, .str c0.res.name, .int .i64 c0.res.num, .sl false (rws cI c0.res.sc), .sl false (rws Fm.cells c0.res.kids)]⟩), (e1, ⟨27, 1, [u]⟩)] τ → Fx τ σ [(b1, ⟨29, 5, [.int .i64 a0.kind, .str a0.name, .int .i64 a0.num, .sl false (rws cI a0.sc), .sl false (rws Fm.cells a0.kids)]⟩)] (⟨u, 29, 5, rows⟩ :: L) → Q (.ex 0) ⟨T, σ⟩) → ∀ (T : Nat → AV) (σ τ : Sto) (u : AV) (rows : List (List AV)) (L : List OwnR), T 1 = .fn 38 [.ptr e0 0, .ptr e1 0] ∧ T 10 = .sl false (rws Fm.cells a0.kids) ∧ T 11 = .int .i64 (a0.kids.length : Int) ∧ T 12 = .int .i64 i → LvL 3 29 z rows L → Tau τ0 [(e0, ⟨41, 13, [.int .i64 c0.id, .int .i64 c0.rule, .int .i64 c0.scope, .int .i64 c0.use.kind, .str c0.use.name, .int .i64 c0.use.num, .sl false (rws cI c0.use.sc), .sl false (rws Fm.cells c0.use.kids), .int .i64 c0.res.kind, .str c0.res.name, .int .i64 c0.res.num, .sl false (rws cI c0.res.sc), .sl false (rws Fm.cells c0.res.kids)]⟩), (e1, ⟨27, 1, [u]⟩)] τ → Fx τ σ [(b1, ⟨29, 5, [.int .i64 a0.kind, .str a0.name, .int .i64 a0.num, .sl false (rws cI a0.sc), .sl false (rws Fm.cells a0.kids)]⟩)] (⟨u, 29, 5, rows⟩ :: L) → aLp Try.prog c Q ⟨T, σ⟩
theorem impl_eachIntro_live (c0 : Stp) : ∀ (a0 : Fm) (c1 : List Fm) r, impl_eachForm__impl_IntroducedNames_c1 a0 c0 c1 = some r → CI37 c0 a0 c1 r := by
  refine impl_eachForm__impl_IntroducedNames_c1.partial_correctness c0 (motive_1 := CI37 c0) (motive_2 := CIL37 c0) ?_ ?_
  · intro impl_each_l0 L0 a0 c1 r H
    intro e0 e1 o rows L σ hL hP
    refine hdg mixed Try.func37 (rs := []) fun q tT => ?_
    obtain ⟨hF, hX⟩ := hP.start
    generalize strip σ (⟨o, 29, 5, rows⟩ :: L) = τ0 at hF hX ⊢
    refine go ?_
    refine fx_alloc hF rfl fun b1 σ2 hF => ?_
    refine go ?_
    obtain ⟨x8, hx8, H⟩ := bnd H
    refine cx (impl_IntroducedNames_c1_live c0 a0 c1 _ hx8 e0 e1 o rows L _ hL (preW hF hX)) ?_
    rintro _ σ4 ⟨τ5, u, rows2, L2, rfl, hL, hT, hG⟩
    obtain ⟨τ6, hX, hF⟩ := aftW hF hX hT hG
    simp only [List.nil_append] at hF
    refine go ?_
    obtain ⟨o14, ho14, H⟩ := bnd H
    refine L0 a0 x8 0 _ ho14 _ rfl _ τ0 e0 e1 b1 ?_ _ _ _ u _ _ S hL hX hF
    intro T16 σ17 τ18 u3 rows3 L3 hL hX hF
    have tT := dum
    refine go ?_
    have e := pur H; subst e
    exact rg [] ⟨_, _, _, _, rfl, hL, hX, hF.drop 1 0⟩
  · intro impl_each impl_each_l0 C0 L0 a0 z0o_0 z0t_12 out H c hc Q τ0 e0 e1 b1 hE T σ τ u rows L tT hL hX hF
    obtain rfl := Option.some.inj ((rfl : loopAt Try.f37 0 = some _).symm.trans hc)
    refine aLoop_round ?_
    have q := dum
    refine go ?_
    refine cdp H (fun h H => ?_) (fun h H => ?_)
    · obtain ⟨x14, f1, H⟩ := bil (g := Fm.cells) Fm.cells_len H
      refine go1 ?_
      refine fx_alloc hF rfl fun b7 σ8 hF => ?_
      refine go ?_
      refine st hF 0 rfl fun σ9 hF => ?_
      refine go ?_
      obtain ⟨x18, hx18, H⟩ := bnd H
      refine cx (C0 x14 z0o_0 _ hx18 e0 e1 u rows L _ hL (preW hF hX)) ?_
      rintro _ σ11 ⟨τ12, u2, rows2, L2, rfl, hL, hT, hG⟩
      obtain ⟨τ13, hX, hF⟩ := aftW hF hX hT hG
      simp only [List.nil_append] at hF
      refine go ?_
      exact L0 a0 x18 (IntKind.i64.wrap (z0t_12 + 1)) _ H _ rfl Q τ0 e0 e1 b1 hE _ _ _ u2 rows2 L2 S hL hX (hF.drop 1 0)
    · refine go ?_
      obtain rfl := pur H
      exact wq (hE _ _ _ u _ _ hL hX hF)
def LvS (r : List Fm) (σ : Sto) (r' : AV) (σ' : Sto) : Prop := ∃ (τ' : Sto) (u : AV) (rows : List (List AV)) (L : List OwnR), r' = u ∧ LvL 3 29 r rows L ∧ Tau (strip σ []) [] τ' ∧ Fx τ' σ' [] (⟨u, 29, 5, rows⟩ :: L)
theorem impl_IntroducedNames_live : ∀ (a0 : Stp) r, impl_IntroducedNames a0 = some r → ∀ (σ : Sto), Pre σ [] [] → Ctr Try.prog 15 [.agg (Stp.cells a0)] σ (LvS r σ) := by
  intro a0 r H
  intro σ hP
  unfold LvS
  unfold impl_IntroducedNames at H
  refine hdg mixed Try.func15 (rs := [.tmp 2]) fun q tT => ?_
  obtain ⟨hF, hX⟩ := hP.start
  generalize strip σ [] = τ0 at hF hX ⊢
  refine go ?_
  refine fx_alloc hF rfl fun b1 σ2 hF => ?_
  refine go ?_
  refine fx_alloc hF rfl fun b3 σ4 hF => ?_
  refine go ?_
  refine st hF 0 rfl fun σ5 hF => ?_
  refine go ?_
  obtain ⟨x7, hx7, H⟩ := bnd H
  refine cl (impl_FormValid_ok a0.res _ hx7) ?_
  refine go ?_
  obtain ⟨x14, g6, H⟩ := bnd H
  refine aGd_cutN 4 10 14 (.bool x14) (giN q (fun q => ?_) (fun q => ?_)) (fun J => ?_)
  · rw [if_neg (dbf q)] at g6
    refine go ?_
    obtain ⟨x12, hx12, g6⟩ := bnd g6
    refine cl (impl_within_ok a0.scope 1 99 _ hx12) ?_
    refine go ?_
    exact cutd 10 g6
  · rw [if_pos (dbt q)] at g6
    refine go ?_
    exact cutd 10 g6
  refine go ?_
  refine cdb H (fun h H => ?_) (fun h H => ?_)
  · have hF := hF.lit 29 5 [] rfl
    refine go ?_
    have e := pur H; subst e
    exact rg [.sl true []] ⟨_, _, _, _, rfl, .nil, hX, hF.drop 2 0⟩
  · have hF := hF.lit 29 5 [] rfl
    refine go ?_
    have hF := pck hF [1, 0] [0]
    obtain ⟨x19, hx19, H⟩ := bnd H
    refine cx (impl_eachIntro_live a0 a0.res [] _ hx19 b1 b3 (.sl true []) [] [] _ .nil (pre 2 0 1 hF hX)) ?_
    rintro _ σ9 ⟨τ10, u, rows, L, rfl, hL, hT, hG⟩
    have hF := aftP 2 1 hF hX hT hG
    refine go ?_
    have e := pur H; subst e
    exact rg [u] ⟨_, _, _, _, rfl, hL, hX, by simpa using hF.drop 2 0⟩
end Go.Proofs.SA

