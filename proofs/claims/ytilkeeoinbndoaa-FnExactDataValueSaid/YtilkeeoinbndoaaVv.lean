/- A text of mine. -/
import Derived.Test.YtilkeeoinbndoaaLg
import Derived.Test.YtilkeeoinbndoaaSaTy
import Derived.Test.YtilkeeoinbndoaaChecked
import Derived.Lib.Strings
import Derived.Lib.Slices
import Derived.Lib.Walk
import Derived.Lib.Bytealg
import Derived.Test.YtilkeeoinbndoaadvD
import Derived.Test.YtilkeeoinbndoaaVo
import Derived.Test.YtilkeeoinbndoaaMh
set_option maxRecDepth 100000
set_option maxHeartbeats 2000000
set_option linter.unusedSimpArgs false
set_option linter.unusedVariables false
namespace Go.Proofs.Shadow
open Go
theorem borrowH {P : Program} {f : FuncId} {args ags : List AV} {G : AV → List OwnR → Prop} {τ σ : Sto} {bs : List (Nat × Ent)} {ms : List OwnR} {T : Nat → AV} {dst : Option Tmp} {K : AS → Prop} (hR : ∀ r L, G r L → (∀ m ∈ L, Free m.v) → Free r ∧ ∀ m ∈ L, ∀ c ∈ m.rows.flatten, Free c) (hF : Fx τ σ bs ms)
    (hC : Ctr P f ags sto00 fun r' σ' => ∃ (τ' : Sto) (L : List OwnR), G r' L ∧ Tau (strip sto00 []) [] τ' ∧ Fx τ' σ' [] L) (hsz : ∀ r L, G r L → ∀ m ∈ L, m.sz ≠ 17 ∨ Free m.v) (hw : WkL σ sto00 args ags)
    (hK : ∀ r L σ', G r L → Fx τ σ' bs (L ++ ms) → K (AS.put ⟨T, σ'⟩ dst r)) : aCall P (.fn f []) args ⟨T, σ⟩ dst K := by
  show Ctr P f (args ++ []) σ _
  rw [List.append_nil]
  refine ⟨hC.1, fun w cargs hs htb hl hr => ?_⟩
  refine Calls.mono (hC.2 w cargs (sto00_sim w) (htb.drop fun _ _ => ⟨rfl, rfl⟩) (by rw [hl, hw.length]) (fun i b hb => ?_)) ?_
  · obtain ⟨a, ha, h1, _⟩ := hw.get i b hb
    exact (h1 w _ hs (hr i a ha)).2.1
  · rintro e w' ⟨v', r, σ1, rfl, hst, hsim, hrv, τ1, L, hLv, _, hG⟩
    have hfree := hR _ _ hLv fun m hm => (hsz _ _ hLv m hm).elim (Free.own hG hm) id
    have hsame : ∀ b, b < w.heap.size → w'.heap[b]? = w.heap[b]? ∧ σ1.own b = none := fun b hb => ⟨(hst.dead b hb ⟨rfl, rfl⟩).1, (hst.dead b hb ⟨rfl, rfl⟩).2.2⟩
    have hold : ∀ b e, σ.own b = some e → b < w.heap.size := fun b e he => (hs.own b e he).lt
    have hst2 : Step σ w (joinS σ σ1 L) w' := ⟨hst.os, hst.tape, hst.output, hst.size, fun b hb hd => ⟨(hsame b hb).1, hd.1, by
      simp only [joinS]
      rw [hd.2, (hsame b hb).2]
      split <;> rfl⟩⟩
    have hsub : Sub σ (joinS σ σ1 L) := ⟨fun b e h => h, fun b e h => by simp only [joinS]; rw [h]; rfl⟩
    have hnew : ∀ m ∈ L, ∀ b, m.v.blk = some b → σ.own b = none ∧ (joinS σ σ1 L).own b = σ1.own b := fun m hm b hb => by
      have hn : σ.own b = none := by
        cases he : σ.own b with
        | none => rfl
        | some e =>
          exfalso
          have h1 := (hsame b (hold b e he)).2
          rcases (hG.own m hm).1.2 with ⟨h2, _⟩ | h2 | ⟨b', cap, h2, h3⟩
          · rw [h2] at hb; cases hb
          · rw [h2] at hb; cases hb
          · rw [h2] at hb; injection hb with hb; subst hb; rw [h1] at h3; cases h3
      refine ⟨hn, ?_⟩
      simp only [joinS]
      rw [hn, if_pos ⟨m, hm, hb⟩]; rfl
    have hsim2 : Sim (joinS σ σ1 L) w' := by
      refine ⟨fun b e hb => ?_, fun b e hb => ?_⟩
      · obtain ⟨v1, v2, v3⟩ := hs.var b e hb
        refine ⟨v1.step hst2 (hsame b v1.lt).1, v2, ?_⟩
        simp only [joinS]
        rw [v3, (hsame b v1.lt).2]
        split <;> rfl
      · cases he : σ.own b with
        | some e2 =>
          have : (joinS σ σ1 L).own b = some e2 := hsub.own b e2 he
          rw [this] at hb
          injection hb with hb
          subst hb
          have := hs.own b e2 he
          exact this.step hst2 (hsame b this.lt).1
        | none =>
          simp only [joinS] at hb
          rw [he] at hb
          by_cases hm : ∃ m ∈ L, m.v.blk = some b
          · rw [if_pos hm] at hb
            have hb1 : σ1.own b = some e := hb
            obtain ⟨cs, h1, h2, h3, h4⟩ := hsim.own b e hb1
            obtain ⟨m, hml, hmb⟩ := hm
            refine ⟨cs, h1, h2, h3, fun i c hic => ⟨(h4 i c hic).1, ?_⟩⟩
            rcases (hG.own m hml).1.2 with ⟨q2, _⟩ | q2 | ⟨b', cap, q2, q3⟩
            · rw [q2] at hmb; cases hmb
            · rw [q2] at hmb; cases hmb
            · rw [q2] at hmb; injection hmb with hmb; subst hmb
              rw [hb1] at q3
              injection q3 with q3
              subst q3
              exact hfree.2 m hml c (List.mem_of_getElem? hic) _ _ _ _ _ (h4 i c hic).2
          · rw [if_neg hm] at hb; cases hb
    refine ⟨v', r, joinS σ σ1 L, rfl, hst2, hsim2, hfree.1 _ _ _ _ _ hrv, hK r L _ hLv ?_⟩
    refine ⟨hF.sub.trans hsub, fun p hp => hF.var p hp, hF.nd, fun m hm => ?_, ?_, fun m hm => ?_⟩
    · rcases List.mem_append.1 hm with hm | hm
      · obtain ⟨h1, h2⟩ := (hG.own m hm).1
        refine ⟨⟨h1, h2.imp id (Or.imp id fun ⟨b, cap, h3, h4⟩ => ⟨b, cap, h3, by rw [(hnew m hm b (by rw [h3]; rfl)).2]; exact h4⟩)⟩, fun b hb => ?_⟩
        cases ht : τ.own b with
        | none => rfl
        | some e => have := hF.sub.own b e ht; rw [(hnew m hm b hb).1] at this; cases this
      · exact (hF.own m hm).sub hsub
    · rw [List.pairwise_append]
      refine ⟨hG.sep, hF.sep, fun m hm n hn => ?_⟩
      cases hb : m.v.blk with
      | none => exact .inl hb
      | some b =>
        refine .inr (fun he => ?_)
        have h1 := (hnew m hm b hb).1
        rcases (hF.own n hn).1.2 with ⟨h2, _⟩ | h2 | ⟨b', cap, h2, h3⟩
        · rw [hb, h2] at he; cases he
        · rw [hb, h2] at he; cases he
        · rw [hb, h2] at he; injection he with he; subst he; rw [h1] at h3; cases h3
    · rcases List.mem_append.1 hm with hm | hm
      · exact hG.wr m hm
      · exact hF.wr m hm
end Go.Proofs.Shadow
open Go Go.Proofs Go.Proofs.Shadow
namespace Go.Proofs.SA
abbrev vTy : Tg → TypeId | .int => 3 | .form => 30 | .core => 33 | .val => 36 | .slot => 67 | _ => 0
def kF (c : AV) : Prop := Free c ∧ c.isCell = true
theorem kF.int (n : Int) : kF (.int .i64 n) := ⟨Free.int _ _, rfl⟩
theorem kF.str (s : ByteArray) : kF (.str s) := ⟨Free.str _, rfl⟩
def LvV (r : Val) (row : List AV) (L : List OwnR) : Prop := LvR vTy kF Tg.val.shp r.cells row L
/-- A live value without a program and without variables. -/
theorem valRow {k n ck ci cn dk dn : Int} {s cs ds : ByteArray} {its : List Val} {vi v8 v12 v13 v14 v15 : AV} {lr : List (List AV)} {Li : List OwnR} (hvi : Fr vi) (h8 : Fr v8) (h12 : Fr v12) (h13 : Fr v13) (h14 : Fr v14) (h15 : Fr v15) (hi : LvRs vTy kF .val (rws Val.cells its) lr Li) :
    LvV (.mk k n s its (.mk ck ci cs cn [] (.mk dk ds dn [] []) []) []) [.int .i64 k, .int .i64 n, .str s, vi, .int .i64 ck, .int .i64 ci, .str cs, .int .i64 cn, v8, .int .i64 dk, .str ds, .int .i64 dn, v12, v13, v14, v15] (⟨vi, 36, 16, lr⟩ :: (Li ++ [⟨v8, 3, 1, []⟩, ⟨v12, 3, 1, []⟩, ⟨v13, 30, 5, []⟩, ⟨v14, 33, 11, []⟩, ⟨v15, 67, 17, []⟩])) := by
  unfold LvV
  rw [Val.cells_eq]
  exact .flat (kF.int _) (.flat (kF.int _) (.flat (kF.str _) (.sl (t := .val) hvi hi (.flat (kF.int _) (.flat (kF.int _) (.flat (kF.str _) (.flat (kF.int _) (.sl (t := .int) (L0 := []) h8 .nil (.flat (kF.int _) (.flat (kF.str _) (.flat (kF.int _) (.sl (t := .int) (L0 := []) h12 .nil (.sl (t := .form) (L0 := []) h13 .nil (.sl (t := .core) (L0 := []) h14 .nil (.sl (t := .slot) (L0 := []) h15 .nil .nil)))))))))))))))
theorem valRow_inv {k n ck ci cn dk dn : Int} {s cs ds : ByteArray} {its : List Val} {l : List AV} {L : List OwnR} (h : LvV (.mk k n s its (.mk ck ci cs cn [] (.mk dk ds dn [] []) []) []) l L) :
    ∃ vi v8 v12 v13 v14 v15 lr Li, Fr vi ∧ Fr v8 ∧ Fr v12 ∧ Fr v13 ∧ Fr v14 ∧ Fr v15 ∧ LvRs vTy kF .val (rws Val.cells its) lr Li ∧ l = [.int .i64 k, .int .i64 n, .str s, vi, .int .i64 ck, .int .i64 ci, .str cs, .int .i64 cn, v8, .int .i64 dk, .str ds, .int .i64 dn, v12, v13, v14, v15] ∧ L = ⟨vi, 36, 16, lr⟩ :: (Li ++ [⟨v8, 3, 1, []⟩, ⟨v12, 3, 1, []⟩, ⟨v13, 30, 5, []⟩, ⟨v14, 33, 11, []⟩, ⟨v15, 67, 17, []⟩]) := by
  unfold LvV at h
  rw [Val.cells_eq] at h
  cases h with | flat _ h => cases h with | flat _ h => cases h with | flat _ h => cases h with | sl hvi hi h =>
  cases h with | flat _ h => cases h with | flat _ h => cases h with | flat _ h => cases h with | flat _ h => cases h with | sl h8 e8 h =>
  cases h with | flat _ h => cases h with | flat _ h => cases h with | flat _ h => cases h with | sl h12 e12 h => cases h with | sl h13 e13 h => cases h with | sl h14 e14 h => cases h with | sl h15 e15 h =>
  cases h
  cases e8
  cases e12
  cases e13
  cases e14
  cases e15
  exact ⟨_, _, _, _, _, _, _, _, hvi, h8, h12, h13, h14, h15, hi, rfl, rfl⟩
/-- A live value that a call of a contract gives. -/
def LvVR (r : Val) (σ : Sto) (r' : AV) (σ' : Sto) : Prop := ∃ (τ' : Sto) (row : List AV) (L : List OwnR), r' = .agg row ∧ LvV r row L ∧ Tau (strip σ []) [] τ' ∧ Fx τ' σ' [] L
/-- The nil slices of a value that is made. -/
theorem nils5 {τ σ : Sto} {bs : List (Nat × Ent)} {ms : List OwnR} (hF : Fx τ σ bs ms) : Fx τ σ bs (ms ++ [⟨.nilsl, 3, 1, []⟩, ⟨.nilsl, 3, 1, []⟩, ⟨.nilsl, 30, 5, []⟩, ⟨.nilsl, 33, 11, []⟩, ⟨.nilsl, 67, 17, []⟩]) :=
  (((((hF.nil 67 17).nil 33 11).nil 30 5).nil 3 1).nil 3 1).perm (List.perm_append_comm (l₁ := [_, _, _, _, _]))
def CDat (a0 : Fm) (r : Val) : Prop := ∀ (σ : Sto), Pre σ [] [] → Ctr Try.prog 20 [.agg (Fm.cells a0)] σ (LvVR r σ)
def CDatL (a0 : Fm) (z : List Val) (i : Int) (out : List Val) : Prop := ∀ c, loopAt Try.f20 0 = some c → ∀ (Q : AX → AS → Prop) (τ : Sto) (b1 b3 b7 : Nat), (∀ (T : Nat → AV) (σ : Sto) (v : AV) (rows : List (List AV)) (L : List OwnR), T 2 = .ptr b3 0 ∧ T 3 = .ptr b7 0 → Fr v → LvRs vTy kF .val (rws Val.cells out) rows L → Fx τ σ [(b7, ⟨36, 16, [.int .i64 3, .int .i64 0, .str (ByteArray.mk #[]), v, .int .i64 0, .int .i64 0, .str (ByteArray.mk #[]), .int .i64 0, .nilsl, .int .i64 0, .str (ByteArray.mk #[]), .int .i64 0, .nilsl, .nilsl, .nilsl, .nilsl]⟩), (b3, ⟨36, 16, [.int .i64 0, .int .i64 0, .str (ByteArray.mk #[]), .nilsl, .int .i64 0, .int .i64 0, .str (ByteArray.mk #[]), .int .i64 0, .nilsl, .int .i64 0, .str (ByteArray.mk #[]), .int .i64 0, .nilsl, .nilsl, .nilsl, .nilsl]⟩), (b1, ⟨30, 5, [.int .i64 a0.kind, .str a0.name, .int .i64 a0.num, .sl false (rws cI a0.sc), .sl false (rws Fm.cells a0.kids)]⟩)] (⟨v, 36, 16, rows⟩ :: L) → Q (.ex 1) ⟨T, σ⟩) → ∀ (T : Nat → AV) (σ : Sto) (v : AV) (rows : List (List AV)) (L : List OwnR), T 2 = .ptr b3 0 ∧ T 3 = .ptr b7 0 ∧ T 20 = .sl false (rws Fm.cells a0.kids) ∧ T 21 = .int .i64 (a0.kids.length : Int) ∧ T 22 = .int .i64 i → Fr v → LvRs vTy kF .val (rws Val.cells z) rows L → Fx τ σ [(b7, ⟨36, 16, [.int .i64 3, .int .i64 0, .str (ByteArray.mk #[]), v, .int .i64 0, .int .i64 0, .str (ByteArray.mk #[]), .int .i64 0, .nilsl, .int .i64 0, .str (ByteArray.mk #[]), .int .i64 0, .nilsl, .nilsl, .nilsl, .nilsl]⟩), (b3, ⟨36, 16, [.int .i64 0, .int .i64 0, .str (ByteArray.mk #[]), .nilsl, .int .i64 0, .int .i64 0, .str (ByteArray.mk #[]), .int .i64 0, .nilsl, .int .i64 0, .str (ByteArray.mk #[]), .int .i64 0, .nilsl, .nilsl, .nilsl, .nilsl]⟩), (b1, ⟨30, 5, [.int .i64 a0.kind, .str a0.name, .int .i64 a0.num, .sl false (rws cI a0.sc), .sl false (rws Fm.cells a0.kids)]⟩)] (⟨v, 36, 16, rows⟩ :: L) → aLp Try.prog c Q ⟨T, σ⟩
theorem impl_dataValue_live : ∀ (a0 : Fm) r, impl_dataValue a0 = some r → CDat a0 r := by
  refine impl_dataValue.partial_correctness (motive_1 := CDat) (motive_2 := CDatL) ?_ ?_
  · intro impl_dataValue_l0 L0 a0 r H
    intro σ hP
    refine hdg mixed Try.func20 (rs := [.cell 2 36]) fun q tT => ?_
    unfold LvVR
    obtain ⟨hF, hX⟩ := hP.start
    generalize strip σ [] = τ0 at hF hX ⊢
    refine go ?_
    refine fx_alloc hF rfl fun b1 σ2 hF => ?_
    refine go ?_
    refine fx_alloc hF rfl fun b3 σ4 hF => ?_
    refine go ?_
    refine cdp H (fun h H => ?_) (fun h H => ?_)
    · refine go ?_
      refine st hF 0 rfl fun σ5 hF => ?_
      refine go ?_
      have e := pur H; subst e
      exact rg [.agg [.int .i64 1, .int .i64 a0.num, .str (ByteArray.mk #[]), .nilsl, .int .i64 0, .int .i64 0, .str (ByteArray.mk #[]), .int .i64 0, .nilsl, .int .i64 0, .str (ByteArray.mk #[]), .int .i64 0, .nilsl, .nilsl, .nilsl, .nilsl]] ⟨_, _, _, rfl, valRow .nil .nil .nil .nil .nil .nil .nil, hX, (nils5 (hF.drop 2 0)).nil 36 16⟩
    · refine go ?_
      refine cdp H (fun h H => ?_) (fun h H => ?_)
      · refine go ?_
        refine st hF 0 rfl fun σ6 hF => ?_
        refine go ?_
        have e := pur H; subst e
        exact rg [.agg [.int .i64 2, .int .i64 0, .str a0.name, .nilsl, .int .i64 0, .int .i64 0, .str (ByteArray.mk #[]), .int .i64 0, .nilsl, .int .i64 0, .str (ByteArray.mk #[]), .int .i64 0, .nilsl, .nilsl, .nilsl, .nilsl]] ⟨_, _, _, rfl, valRow .nil .nil .nil .nil .nil .nil .nil, hX, (nils5 (hF.drop 2 0)).nil 36 16⟩
      · refine go ?_
        refine fx_alloc hF rfl fun b7 σ8 hF => ?_
        refine go ?_
        refine st hF 0 rfl fun σ9 hF => ?_
        have hF := hF.nil 36 16
        refine go ?_
        obtain ⟨o16, ho16, H⟩ := bnd H
        refine L0 a0 [] 0 _ ho16 _ rfl _ _ b1 b3 b7 ?_ _ _ .nilsl [] [] S .nil .nil hF
        intro T18 σ19 v rows L tT hv hL hF
        refine go ?_
        refine st hF 1 rfl fun σ21 hF => ?_
        refine go ?_
        have e := pur H; subst e
        exact rg [.agg [.int .i64 3, .int .i64 0, .str (ByteArray.mk #[]), v, .int .i64 0, .int .i64 0, .str (ByteArray.mk #[]), .int .i64 0, .nilsl, .int .i64 0, .str (ByteArray.mk #[]), .int .i64 0, .nilsl, .nilsl, .nilsl, .nilsl]] ⟨_, _, _, rfl, valRow hv .nil .nil .nil .nil .nil hL, hX, nils5 (hF.drop 3 0)⟩
  · intro impl_dataValue impl_dataValue_l0 C0 L0 a0 z0o_0 z0t_22 out H c hc Q τ b1 b3 b7 hE T σ v rows L tT hv hL hF
    obtain rfl := Option.some.inj ((rfl : loopAt Try.f20 0 = some _).symm.trans hc)
    refine aLoop_round ?_
    have q := dum
    have hX := Tau.none τ
    refine go ?_
    refine cdp H (fun h H => ?_) (fun h H => ?_)
    · obtain ⟨x24, f1, H⟩ := bil (g := Fm.cells) Fm.cells_len H
      refine go1 ?_
      refine fx_alloc hF rfl fun b10 σ11 hF => ?_
      refine go ?_
      refine st hF 0 rfl fun σ12 hF => ?_
      refine go ?_
      refine draw_text E0 [.v, .v, .v, .x, .v, .x, .v, .z] (by kernel_rfl) ?_
      refine go ?_
      obtain ⟨x29, hx29, H⟩ := bnd H
      refine cx (C0 x24 _ hx29 _ (pre 0 0 0 hF hX)) ?_
      rintro _ σ3 ⟨τ3, row, M, rfl, hM, hT, hG⟩
      refine kp_intro2 (Fx.kept hT hG (by intro p hp; cases hp)) fun _ => ?_
      have hF := aftP 0 0 hF hX hT hG
      have hF := hF.perm List.perm_append_comm
      have hrl : row.length = 16 := (LvR.len hM).2
      try simp only [go_sem, ↓reduceIte, Nat.reduceEqDiff, Nat.reduceAdd, Nat.reduceMul, Nat.reduceLeDiff, Nat.reduceLT, Int.reduceEq, Int.toNat_natCast, q, tT, hF.f, hF.m, hF.x hX, hrl, Option.map_some]
      obtain ⟨x31, hx31, H⟩ := bnd H
      obtain ⟨rfl, hb⟩ := lcat_eq hx31
      have hlen := hL.len.1
      rw [rws_len] at hlen
      refine fx_appRK (sz := 16) (by_ := 248) hF 0 (ys := [row]) rfl (by decide) (by decide) (RdL.sl _ _ _ _ (fun r hr => by rw [List.mem_singleton.1 hr]; exact hrl)) (by simpa [hlen] using hb) fun v17 σ18 hF => ?_
      have hfr : Fr v17 := Fr.of hF (List.mem_cons_self ..) (by show (16 : Nat) ≠ 17; decide)
      refine go ?_
      refine st hF 1 (hF.cells 0 rfl) fun σ19 hF => ?_
      refine go ?_
      have hL2 := hL.snoc hM
      exact L0 a0 (z0o_0 ++ [x29]) (IntKind.i64.wrap (z0t_22 + 1)) _ H _ rfl Q τ b1 b3 b7 hE _ _ v17 (rows ++ [row]) (L ++ M) S hfr (by rw [rws_app]; exact hL2) (hF.drop 1 0)
    · refine go ?_
      obtain rfl := pur H
      exact wq (hE _ _ v _ _ S hv hL hF)
/-- DataValue, its value being ours. -/
theorem impl_DataValue_live (a0 : Fm) (r : Val × Bool) (H : impl_DataValue a0 = some r) (ht : Thin r.1) : ∀ (σ : Sto), Pre σ [] [] → Ctr Try.prog 7 [.agg (Fm.cells a0)] σ (fun r' σ' => ∃ (τ' : Sto) (row : List AV) (L : List OwnR), r' = .tup [.agg row, .bool r.2] ∧ LvV r.1 row L ∧ Tau (strip σ []) [] τ' ∧ Fx τ' σ' [] L) := by
  intro σ hP
  unfold impl_DataValue at H
  refine hdg mixed Try.func7 (rs := [.cell 2 36, .tmp 3]) fun q tT => ?_
  obtain ⟨hF, hX⟩ := hP.start
  generalize strip σ [] = τ0 at hF hX ⊢
  refine go ?_
  refine fx_alloc hF rfl fun b1 σ2 hF => ?_
  refine go ?_
  refine fx_alloc hF rfl fun b3 σ4 hF => ?_
  refine go ?_
  obtain ⟨x5, hx5, H⟩ := bnd H
  refine cl (impl_FormValid_ok a0 _ hx5) ?_
  refine go ?_
  refine cdb H (fun h H => ?_) (fun h H => ?_)
  · refine go ?_
    refine st hF 0 rfl fun σ5 hF => ?_
    refine go ?_
    have e := pur H; subst e
    exact rg [.agg [.int .i64 0, .int .i64 0, .str (ByteArray.mk #[]), .nilsl, .int .i64 0, .int .i64 0, .str (ByteArray.mk #[]), .int .i64 0, .nilsl, .int .i64 0, .str (ByteArray.mk #[]), .int .i64 0, .nilsl, .nilsl, .nilsl, .nilsl], .bool false] ⟨_, _, _, rfl, valRow .nil .nil .nil .nil .nil .nil .nil, hX, (nils5 (hF.drop 2 0)).nil 36 16⟩
  · refine go ?_
    obtain ⟨x9, hx9, H⟩ := bnd H
    refine cx (impl_dataValue_live a0 _ hx9 _ (pre 0 0 0 hF hX)) ?_
    rintro _ σ5 ⟨τ5, row, L, rfl, hL, hT, hG⟩
    have hF := aftP 0 0 hF hX hT hG
    have e := pur H; subst e
    obtain @⟨k, n, s, its, ck, ci, cs, cn, dk, ds, dn, hth⟩ := ht
    obtain ⟨vi, v8, v12, v13, v14, v15, lr, Li, g1, g2, g3, g4, g5, g6, hi, rfl, rfl⟩ := valRow_inv hL
    refine go ?_
    refine st hF 0 (cs := [.int .i64 k, .int .i64 n, .str s, vi, .int .i64 ck, .int .i64 ci, .str cs, .int .i64 cn, v8, .int .i64 dk, .str ds, .int .i64 dn, v12, v13, v14, v15]) rfl fun σ6 hF => ?_
    refine go ?_
    exact rg [.agg [.int .i64 k, .int .i64 n, .str s, vi, .int .i64 ck, .int .i64 ci, .str cs, .int .i64 cn, v8, .int .i64 dk, .str ds, .int .i64 dn, v12, v13, v14, v15], .bool true] ⟨_, _, _, rfl, hL, hX, by simpa using hF.drop 2 0⟩
end Go.Proofs.SA

