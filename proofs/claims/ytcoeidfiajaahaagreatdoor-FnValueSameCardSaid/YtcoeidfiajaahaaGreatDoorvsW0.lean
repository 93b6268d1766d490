/- Printed by a program of mine: the plain functions that the code computes (D), and the walks that show it (W). -/
import Derived.Test.YtcoeidfiajaahaaGreatDoorGx
import Derived.Test.YtcoeidfiajaahaaGreatDoorSaTy
import Derived.Test.YtcoeidfiajaahaaGreatDoorGv
import Derived.Test.YtcoeidfiajaahaaGreatDoorSf
import Derived.Test.YtcoeidfiajaahaaGreatDoorvsD
set_option maxRecDepth 100000
set_option maxHeartbeats 2000000
set_option linter.unusedSimpArgs false
set_option linter.unusedVariables false
open Go Go.Proofs Go.Proofs.Shadow
open Go.IntKind (i64)
namespace Go.Proofs.SA
theorem Qjs : ∀ (a0 : List Int) r, Qhm a0 = some r -> ∀   (ss : Sto), Pre ss [] [] -> Ctr Tryz.prog 46 [sf cU a0] ss (fun r' ss' => ∃ (tt' : Sto) (n0 : Nat), r' = .ptr n0 0 /\ Tau (strip ss []) [] tt' /\ Fx tt' ss' [(n0, ⟨122, 2, [sf cU r.b, i6 r.p]⟩)] []) := by
 intro a0 r H
 intro   ss hP
 unfold Qhm at H
 refine Qau mixed Tryz.func46 rfl (by kernel_rfl) (rs := [.tmp 2]) rfl (by kernel_rfl) ?_
 obtain ⟨hF, hX⟩ := hP.start
 generalize strip ss [] = tt0 at hF hX ⊢
 have q := dum
 have tT := dum
 refine go ?_
 refine cdp H (fun h H => ?_) (fun h H => ?_)
 ·obtain ⟨x7, f1, H⟩ := bls (g := cU) (fun _ => rfl) (lo := none) (hi := some (i6 2000)) rfl rfl H
  refine go1 ?_
  refine go ?_
  refine Qag hF rfl fun b1 ss2 hF => ?_
  refine go ?_
  have e := pur H; subst e
  exact rg [.ptr b1 0] ⟨_, _, rfl, hX, hF.pick [0] [] (by decide) (by decide)⟩
 ·refine go ?_
  refine Qag hF rfl fun b3 ss4 hF => ?_
  refine go ?_
  have e := pur H; subst e
  exact rg [.ptr b3 0] ⟨_, _, rfl, hX, hF.pick [0] [] (by decide) (by decide)⟩
theorem Qan : ∀ (a1 : Int) (c0 : Rdr) r, Qal a1 c0 = some r -> ∀ (e0 : Nat)  (ss : Sto), Pre ss [(e0, ⟨122, 2, [sf cU c0.b, i6 c0.p]⟩)] [] -> Ctr Tryz.prog 47 [.ptr e0 0, i6 a1] ss (fun r' ss' => ∃ (tt' : Sto), r' = i6 r.1 /\ Tau (strip ss []) [(e0, ⟨122, 2, [sf cU r.2.b, i6 r.2.p]⟩)] tt' /\ Fx tt' ss' [] []) := by
 intro a1 c0 r H
 intro e0  ss hP
 unfold Qal at H
 refine Qau mixed Tryz.func47 rfl (by kernel_rfl) (rs := [.tmp 4]) rfl (by kernel_rfl) ?_
 obtain ⟨hF, hX⟩ := hP.start
 generalize strip ss [] = tt0 at hF hX ⊢
 have q := dum
 have tT := dum
 refine go ?_
 refine stT hF hX 0 rfl fun tt2 ss1 hF hX => ?_
 refine go ?_
 obtain ⟨x24, g3, H⟩ := bnd H
 refine Qai 6 18 24 (.bool x24) (giN q (fun q => ?_) (fun q => ?_)) (fun J => ?_)
 ·refine go ?_
  exact Qaw 18 g3
 ·refine go ?_
  exact Qaw 18 g3
 refine go ?_
 refine cdb H (fun h H => ?_) (fun h H => ?_)
 ·refine go ?_
  have e := pur H; subst e
  exact rg [i6 0] ⟨_, rfl, hX, Fx.self _⟩
 ·refine go ?_
  refine cdp H (fun h H => ?_) (fun h H => ?_)
  ·obtain ⟨x42, f1, H⟩ := bil (g := cU) (fun _ => rfl) H
   obtain ⟨x46, f2, H⟩ := brm H
   refine go2 ?_
   refine go ?_
   have e := pur H; subst e
   exact rg [i6 x46] ⟨_, rfl, hX, Fx.self _⟩
  ·refine go ?_
   refine Qaq E0 [.v, .v, .v, .v, .v, .v, .v, .v, .v, .v, .v, .v, .v, .v, .v, .v, .v, .v, .v, .v, .v, .v, .v, .v, .v, .v, .v, .v, .v, .v, .v, .v, .v, .v, .v, .v, .v, .v, .v, .v, .v, .v, .v, .v, .v, .v] (by kernel_rfl) ?_
   obtain ⟨x57, f1, H⟩ := brm H
   obtain ⟨x58, f2, H⟩ := bil (g := cU) (fun _ => rfl) H
   obtain ⟨x74, f3, H⟩ := brm H
   obtain ⟨x75, f4, H⟩ := bil (g := cU) (fun _ => rfl) H
   obtain ⟨x89, f5, H⟩ := bqu H
   refine go5 ?_
   obtain ⟨x98, f1, H⟩ := brm H
   refine go1 ?_
   refine go ?_
   have e := pur H; subst e
   exact rg [i6 x98] ⟨_, rfl, hX, Fx.self _⟩
theorem Qa6 : ∀ (a1 : List Int) (c0 : Rdr) r, Qat a1 c0 = some r -> ∀ (e0 : Nat)  (ss : Sto), Pre ss [(e0, ⟨122, 2, [sf cU c0.b, i6 c0.p]⟩)] [] -> Ctr Tryz.prog 69 [.ptr e0 0, sf cI a1] ss (fun r' ss' => ∃ (tt' : Sto), r' = i6 r.1 /\ Tau (strip ss []) [(e0, ⟨122, 2, [sf cU r.2.b, i6 r.2.p]⟩)] tt' /\ Fx tt' ss' [] []) := by
 intro a1 c0 r H
 intro e0  ss hP
 unfold Qat at H
 refine Qau mixed Tryz.func69 rfl (by kernel_rfl) (rs := [.tmp 4]) rfl (by kernel_rfl) ?_
 obtain ⟨hF, hX⟩ := hP.start
 generalize strip ss [] = tt0 at hF hX ⊢
 have q := dum
 have tT := dum
 refine go ?_
 obtain ⟨x9, hx9, H⟩ := bnd H
 refine cx (Qan (a1.length : Int) c0 _ hx9 e0  _ (pre 0 1 0 hF hX)) ?_
 rintro _ ss1 ⟨tt2, rfl, hT, hG⟩
 obtain ⟨tt3, hX, hF⟩ := aft 0 1 0 hF hX hT hG
 obtain ⟨x10, f1, H⟩ := bil (g := cI) (fun _ => rfl) H
 refine go1 ?_
 refine go ?_
 have e := pur H; subst e
 exact rg [i6 x10] ⟨_, rfl, hX, Fx.self _⟩
theorem Qc1 : ∀ (a1 : List ByteArray) (c0 : Rdr) r, Qbl a1 c0 = some r -> ∀ (e0 : Nat)  (ss : Sto), Pre ss [(e0, ⟨122, 2, [sf cU c0.b, i6 c0.p]⟩)] [] -> Ctr Tryz.prog 88 [.ptr e0 0, sf cS a1] ss (fun r' ss' => ∃ (tt' : Sto), r' = .str r.1 /\ Tau (strip ss []) [(e0, ⟨122, 2, [sf cU r.2.b, i6 r.2.p]⟩)] tt' /\ Fx tt' ss' [] []) := by
 intro a1 c0 r H
 intro e0  ss hP
 unfold Qbl at H
 refine Qau mixed Tryz.func88 rfl (by kernel_rfl) (rs := [.tmp 4]) rfl (by kernel_rfl) ?_
 obtain ⟨hF, hX⟩ := hP.start
 generalize strip ss [] = tt0 at hF hX ⊢
 have q := dum
 have tT := dum
 refine go ?_
 obtain ⟨x9, hx9, H⟩ := bnd H
 refine cx (Qan (a1.length : Int) c0 _ hx9 e0  _ (pre 0 1 0 hF hX)) ?_
 rintro _ ss1 ⟨tt2, rfl, hT, hG⟩
 obtain ⟨tt3, hX, hF⟩ := aft 0 1 0 hF hX hT hG
 obtain ⟨x10, f1, H⟩ := bil (g := cS) (fun _ => rfl) H
 refine go1 ?_
 refine go ?_
 have e := pur H; subst e
 exact rg [.str x10] ⟨_, rfl, hX, Fx.self _⟩
theorem Qcf : ∀ (a0 : ByteArray) r, Qb1 a0 = some r -> Qb0 Tryz.prog 87 [.str a0] (.agg (Fm.cells r)) := by
 intro a0 r H
 intro ss
 unfold Qb1 at H
 refine Qau mixed Tryz.func87 rfl (by kernel_rfl) (rs := [.cell 2 26]) rfl (by kernel_rfl) ?_
 have hF := Fx.refl ss
 have hX := Tau.none ss
 have q := dum
 have tT := dum
 refine go ?_
 refine Qag hF rfl fun b1 ss2 hF => ?_
 refine go ?_
 refine st hF 0 rfl fun ss3 hF => ?_
 refine go ?_
 have e := pur H; subst e
 exact rt [.agg [i6 1, .str a0, i6 0, .Qab, .Qab]]
theorem Qgx : ∀ (a1 : Int) (c0 : Rdr) r, Qbu a1 c0 = some r -> ∀ (e0 : Nat)  (ss : Sto), Pre ss [(e0, ⟨122, 2, [sf cU c0.b, i6 c0.p]⟩)] [] -> Ctr Tryz.prog 49 [.ptr e0 0, i6 a1] ss (fun r' ss' => ∃ (tt' : Sto), r' = .agg (Fm.cells r.1) /\ Tau (strip ss []) [(e0, ⟨122, 2, [sf cU r.2.b, i6 r.2.p]⟩)] tt' /\ Fx tt' ss' [] []) := by
 refine Qbu.partial_correctness  (motive_1 := fun a1 c0 r => ∀ (e0 : Nat)  (ss : Sto), Pre ss [(e0, ⟨122, 2, [sf cU c0.b, i6 c0.p]⟩)] [] -> Ctr Tryz.prog 49 [.ptr e0 0, i6 a1] ss (fun r' ss' => ∃ (tt' : Sto), r' = .agg (Fm.cells r.1) /\ Tau (strip ss []) [(e0, ⟨122, 2, [sf cU r.2.b, i6 r.2.p]⟩)] tt' /\ Fx tt' ss' [] [])) (motive_2 := fun a1 Qac Qa7 Qi1 Qi2 out => ∀ c, Qam Tryz.f49 0 = some c -> ∀ (Q : AX -> AS -> Prop) (tt0 : Sto) (e0 : Nat) (b1 : Nat) (b22 : Nat), (∀ (Qbn : List Fm) (Qvx : List Int) (Qvy : Int), out = (Qbn, Qvx, Qvy) -> ∀ (T : Nat -> AV) (ss : Sto) (tt : Sto) (e0v0 : AV), T 4 = .ptr b1 0 /\ T 5 = .ptr b22 0 -> Tau tt0 [(e0, ⟨122, 2, [sf cU Qvx, i6 Qvy]⟩)] tt -> Fx tt ss [(b22, ⟨26, 5, [i6 3, .str zB, i6 0, .Qab, e0v0]⟩), (b1, ⟨26, 5, [i6 0, .str zB, i6 0, .Qab, .Qab]⟩)] [⟨e0v0, 26, 5, rws Fm.cells Qbn⟩] -> Q (.ex 0) ⟨T, ss⟩) -> True -> ∀ (T : Nat -> AV) (ss : Sto) (tt : Sto) (z0v0 : AV), T 0 = .ptr e0 0 /\ T 1 = i6 a1 /\ T 4 = .ptr b1 0 /\ T 5 = .ptr b22 0 /\ T 6 = i6 Qa7 -> Tau tt0 [(e0, ⟨122, 2, [sf cU Qi1, i6 Qi2]⟩)] tt -> Fx tt ss [(b22, ⟨26, 5, [i6 3, .str zB, i6 0, .Qab, z0v0]⟩), (b1, ⟨26, 5, [i6 0, .str zB, i6 0, .Qab, .Qab]⟩)] [⟨z0v0, 26, 5, rws Fm.cells Qac⟩] -> Qbr (Qbc Tryz.prog c) Q ⟨T, ss⟩) ?_ ?_
 ·intro Qdi L0 a1 c0 r H
  intro e0  ss hP
  refine Qau mixed Tryz.func49 rfl (by kernel_rfl) (rs := [.cell 4 26]) rfl (by kernel_rfl) ?_
  obtain ⟨hF, hX⟩ := hP.start
  generalize strip ss [] = tt0 at hF hX ⊢
  have q := dum
  have tT := dum
  refine go ?_
  refine Qag hF rfl fun b1 ss2 hF => ?_
  refine go ?_
  refine giN q (fun q => ?_) (fun q => ?_)
  ·rw [if_neg (df q)] at H
   refine go ?_
   obtain ⟨Q8d, hx11_1, H⟩ := bnd H
   refine cx (Qan 3 c0 _ hx11_1 e0  _ (pre 0 1 0 hF hX)) ?_
   rintro _ s8 ⟨tt9, rfl, hT, hG⟩
   obtain ⟨t10, hX, hF⟩ := aft 0 1 0 hF hX hT hG
   refine go ?_
   refine cdp H (fun h H => ?_) (fun h H => ?_)
   ·refine go ?_
    obtain ⟨x15, hx15, H⟩ := bnd H
    refine cx (Qan 4 Q8d.2 _ hx15 e0  _ (pre 0 1 0 hF hX)) ?_
    rintro _ s11 ⟨t12, rfl, hT, hG⟩
    obtain ⟨t13, hX, hF⟩ := aft 0 1 0 hF hX hT hG
    refine go ?_
    refine cdp H (fun h H => ?_) (fun h H => ?_)
    ·refine go ?_
     obtain ⟨x19, hx19, H⟩ := bnd H
     refine cx (Qa6 [0, 1, 2, 7, 42, 999] x15.2 _ hx19 e0  _ (pre 0 1 0 hF hX)) ?_
     rintro _ s14 ⟨t15, rfl, hT, hG⟩
     obtain ⟨t16, hX, hF⟩ := aft 0 1 0 hF hX hT hG
     refine go ?_
     refine st hF 0 rfl fun s17 hF => ?_
     refine go ?_
     have e := pur H; subst e
     exact rg [.agg [i6 2, .str zB, i6 x19.1, .Qab, .Qab]] ⟨_, rfl, hX, Fx.self _⟩
    ·refine go ?_
     obtain ⟨x23, hx23, H⟩ := bnd H
     refine cx (Qc1 [(ByteArray.mk #[97]), (ByteArray.mk #[98]), (ByteArray.mk #[120]), (ByteArray.mk #[121]), (ByteArray.mk #[102]), (ByteArray.mk #[105, 102]), (ByteArray.mk #[108, 101, 116]), (ByteArray.mk #[43])] x15.2 _ hx23 e0  _ (pre 0 1 0 hF hX)) ?_
     rintro _ s18 ⟨t19, rfl, hT, hG⟩
     obtain ⟨tt20, hX, hF⟩ := aft 0 1 0 hF hX hT hG
     refine go ?_
     obtain ⟨x24, hx24, H⟩ := bnd H
     refine cl (Qcf x23.1 _ hx24) ?_
     refine go ?_
     refine st hF 0 rfl fun s21 hF => ?_
     refine go ?_
     have e := pur H; subst e
     exact rg [.agg [i6 x24.kind, .str x24.name, i6 x24.num, sf cI x24.sc, sf Fm.cells x24.kids]] ⟨_, rfl, hX, Fx.self _⟩
   ·refine go ?_
    refine Qag hF rfl fun b22 s23 hF => ?_
    refine go ?_
    refine st hF 0 rfl fun s24 hF => ?_
    refine go ?_
    obtain ⟨x27, hx27, H⟩ := bnd H
    refine cx (Qan 4 Q8d.2 _ hx27 e0  _ (pre 0 1 0 hF hX)) ?_
    rintro _ s25 ⟨t26, rfl, hT, hG⟩
    obtain ⟨t27, hX, hF⟩ := aft 0 1 0 hF hX hT hG
    have hF := hF.nil 26 5
    refine go ?_
    obtain ⟨o37, ho37, H⟩ := bnd H
    refine L0 a1 [] x27.1 x27.2.b x27.2.p _ ho37 _ rfl _ tt0 e0 b1 b22 ?_ ?_ _ _ _ .Qab S hX hF
    ·intro Qpg Q46 Q47 he T39 s40 t41 e38v0 tT hX hF
     have he := he.symm
     subst he
     dsimp only at H
     refine go ?_
     refine st hF 1 rfl fun s42 hF => ?_
     refine go ?_
     have e := pur H; subst e
     exact rg [.agg [i6 3, .str zB, i6 0, .Qab, e38v0]] ⟨_, rfl, hX, Fx.self _⟩
    ·trivial
  ·rw [if_pos (dt q)] at H
   refine go ?_
   obtain ⟨Qtl, hx15_1, H⟩ := bnd H
   refine cx (Qan 4 c0 _ hx15_1 e0  _ (pre 0 1 0 hF hX)) ?_
   rintro _ s43 ⟨t44, rfl, hT, hG⟩
   obtain ⟨t45, hX, hF⟩ := aft 0 1 0 hF hX hT hG
   refine go ?_
   refine cdp H (fun h H => ?_) (fun h H => ?_)
   ·refine go ?_
    obtain ⟨Ke3, hx19_1, H⟩ := bnd H
    refine cx (Qa6 [0, 1, 2, 7, 42, 999] Qtl.2 _ hx19_1 e0  _ (pre 0 1 0 hF hX)) ?_
    rintro _ s46 ⟨t47, rfl, hT, hG⟩
    obtain ⟨t48, hX, hF⟩ := aft 0 1 0 hF hX hT hG
    refine go ?_
    refine st hF 0 rfl fun s49 hF => ?_
    refine go ?_
    have e := pur H; subst e
    exact rg [.agg [i6 2, .str zB, i6 Ke3.1, .Qab, .Qab]] ⟨_, rfl, hX, Fx.self _⟩
   ·refine go ?_
    obtain ⟨Ke5, hx23_1, H⟩ := bnd H
    refine cx (Qc1 [(ByteArray.mk #[97]), (ByteArray.mk #[98]), (ByteArray.mk #[120]), (ByteArray.mk #[121]), (ByteArray.mk #[102]), (ByteArray.mk #[105, 102]), (ByteArray.mk #[108, 101, 116]), (ByteArray.mk #[43])] Qtl.2 _ hx23_1 e0  _ (pre 0 1 0 hF hX)) ?_
    rintro _ s50 ⟨tt51, rfl, hT, hG⟩
    obtain ⟨t52, hX, hF⟩ := aft 0 1 0 hF hX hT hG
    refine go ?_
    obtain ⟨Q4j, hx24_1, H⟩ := bnd H
    refine cl (Qcf Ke5.1 _ hx24_1) ?_
    refine go ?_
    refine st hF 0 rfl fun s53 hF => ?_
    refine go ?_
    have e := pur H; subst e
    exact rg [.agg [i6 Q4j.kind, .str Q4j.name, i6 Q4j.num, sf cI Q4j.sc, sf Fm.cells Q4j.kids]] ⟨_, rfl, hX, Fx.self _⟩
 ·intro Qbu Qdi C0 L0 a1 Qac Qa7 Qi1 Qi2 out H c hc Q tt0 e0 b1 b22 hE hR T ss tt z0v0 tT hX hF
  obtain rfl := lpe (rfl : Qam Tryz.f49 0 = some _) hc
  refine Qah ?_
  have q := dum
  refine go ?_
  refine cdp H (fun h H => ?_) (fun h H => ?_)
  ·refine go ?_
   obtain ⟨E, hEq⟩ : ∃ E, E = EE ss [e0] := ⟨_, rfl⟩
   have n28 : ¬ E b22 := by rw [hEq]; exact EE.not (hF.at 0 rfl) (by simp only [List.mem_cons, List.not_mem_nil, or_false, not_or]; exact neX hF 0 rfl hX 0 rfl)
   have n29 : ¬ E b1 := by rw [hEq]; exact EE.not (hF.at 1 rfl) (by simp only [List.mem_cons, List.not_mem_nil, or_false, not_or]; exact neX hF 1 rfl hX 0 rfl)
   refine Qaq E [.v, .v, .v, .v, .v, .x, .v, .x, .v, .z] (by kernel_rfl) ?_
   have z := And.intro (Qaf (hF.at 0 rfl) n28) (Qaf (hF.at 1 rfl) n29); refine gh ?_
   obtain ⟨x37, hx37, H⟩ := bnd H
   refine cx (C0 (i64.wrap (a1 - 1)) (Rdr.mk Qi1 Qi2) _ hx37 e0  _ (pre 0 1 0 hF hX)) ?_
   rintro _ s30 ⟨tt31, rfl, hT, hG⟩
   refine Qke (Fx.kept hT hG (by intro p hp; simp only [List.mem_cons, List.not_mem_nil, or_false] at hp <;> first | (rcases hp with rfl <;> (rw [hEq]; first | (refine EE.of ?_; simp; done) | exact EE.new rfl))| cases hp)) fun kp33 => ?_
   obtain ⟨t32, hX, hF⟩ := aft 0 1 0 hF hX hT hG
   have z := And.intro (Qaf (hF.at 0 rfl) n28) (Qaf (hF.at 1 rfl) n29); refine gh ?_
   refine Q0w (g := Fm.cells) hF 0 H (rdo (c := true) (g := Fm.cells) Fm.Qad) fun x39 H v34 s35 hF => ?_
   have z := And.intro (Qaf (hF.at 0 rfl) n28) (Qaf (hF.at 1 rfl) n29); refine gh ?_
   refine st hF 0 (hF.cells 0 rfl) fun s36 hF => ?_
   have z := And.intro (Qaf (hF.at 0 rfl) n28) (Qaf (hF.at 1 rfl) n29); refine gh ?_
   refine go ?_
   exact L0 a1 x39 (i64.wrap (Qa7 - 1)) x37.2.b x37.2.p _ H _ rfl Q tt0 e0 b1 b22 hE hR _ _ _ v34 S hX hF
  ·refine go ?_
   exact hE _ _ _ (pur H).symm _ _ _ z0v0 S hX hF
theorem Qs9 : ∀ (a2 : Int) (x62 : Int × Rdr) (Qac : List Int) (Qgu : List Int) (Qde : Int) (Qa1 : Int) (Qi1 : List Int) (Qi2 : Int) out, Qfl a2 x62 Qac Qgu Qde Qa1 Qi1 Qi2 = some out -> ∀ c, Qam Tryz.f180 0 = some c -> ∀ (Q : AX -> AS -> Prop) (tt0 : Sto) (e0 : Nat) (b1 : Nat) (b56 : Nat), (∀ (Qbn : List Int) (Qvv : List Int) (Qqo : Int) (Qvx : List Int) (Qvy : Int), out = (Qbn, Qvv, Qqo, Qvx, Qvy) -> ∀ (T : Nat -> AV) (ss : Sto) (tt : Sto) (e0v0 : AV), T 0 = .ptr e0 0 /\ T 1 = sf cI Qvv /\ T 2 = i6 a2 /\ T 3 = i6 Qqo /\ T 8 = .ptr b1 0 /\ T 10 = .ptr b56 0 /\ T 11 = i6 1 -> Tau tt0 [(e0, ⟨122, 2, [sf cU Qvx, i6 Qvy]⟩)] tt -> Fx tt ss [(b56, ⟨31, 11, [i6 x62.1, i6 0, .str zB, i6 0, e0v0, i6 0, .str zB, i6 0, .Qab, .Qab, .Qab]⟩), (b1, ⟨31, 11, [i6 0, i6 0, .str zB, i6 0, .Qab, i6 0, .str zB, i6 0, .Qab, .Qab, .Qab]⟩)] [⟨e0v0, 3, 1, rws cI Qbn⟩] -> Q (.ex 2) ⟨T, ss⟩) -> True -> ∀ (T : Nat -> AV) (ss : Sto) (tt : Sto) (z0v0 : AV), T 0 = .ptr e0 0 /\ T 1 = sf cI Qgu /\ T 2 = i6 a2 /\ T 3 = i6 Qa1 /\ T 8 = .ptr b1 0 /\ T 10 = .ptr b56 0 /\ T 11 = i6 1 /\ T 12 = i6 Qde -> Tau tt0 [(e0, ⟨122, 2, [sf cU Qi1, i6 Qi2]⟩)] tt -> Fx tt ss [(b56, ⟨31, 11, [i6 x62.1, i6 0, .str zB, i6 0, z0v0, i6 0, .str zB, i6 0, .Qab, .Qab, .Qab]⟩), (b1, ⟨31, 11, [i6 0, i6 0, .str zB, i6 0, .Qab, i6 0, .str zB, i6 0, .Qab, .Qab, .Qab]⟩)] [⟨z0v0, 3, 1, rws cI Qac⟩] -> Qbr (Qbc Tryz.prog c) Q ⟨T, ss⟩ := by
 intro a2 x62 Qac Qgu Qde Qa1 Qi1 Qi2
 revert Qac Qgu Qde Qa1 Qi1 Qi2
 refine Qfl.partial_correctness a2 x62 _ ?_
 intro Qfl IH Qac Qgu Qde Qa1 Qi1 Qi2 out H c hc Q tt0 e0 b1 b56 hE hR T ss tt z0v0 tT hX hF
 obtain rfl := lpe (rfl : Qam Tryz.f180 0 = some _) hc
 refine Qah ?_
 have q := dum
 refine go ?_
 refine cdp H (fun h H => ?_) (fun h H => ?_)
 ·refine go ?_
  obtain ⟨x78, hx78, H⟩ := bnd H
  refine cx (Qa6 [1, 2, 5] (Rdr.mk Qi1 Qi2) _ hx78 e0  _ (pre 0 1 0 hF hX)) ?_
  rintro _ s64 ⟨t65, rfl, hT, hG⟩
  obtain ⟨t66, hX, hF⟩ := aft 0 1 0 hF hX hT hG
  refine go ?_
  refine apd (g := cI) hF 0 H (rdo (c := true) (g := cI) (fun _ => rfl)) fun x84 H v67 s68 hF => ?_
  refine go ?_
  refine st hF 0 (hF.cells 0 rfl) fun s69 hF => ?_
  refine go ?_
  have hF := hF.lit 3 1 (rws cI []) rfl
  refine apd (g := cI) hF 0 H (rdo (c := false) (g := cI) (fun _ => rfl)) fun x88 H v70 s71 hF => ?_
  refine go ?_
  refine apf (g := cI) hF 0 H (rdo (c := true) (g := cI) (fun _ => rfl)) fun x91 H s73 hF => ?_
  refine go ?_
  exact IH  x84 x91 (i64.wrap (Qde - 1)) (i64.wrap (Qa1 + x78.1)) x78.2.b x78.2.p _ H _ rfl Q tt0 e0 b1 b56 hE hR _ _ _ v67 S hX hF
 ·refine go ?_
  exact hE _ _ _ _ _ (pur H).symm _ _ _ z0v0 S hX hF
theorem Qyk : ∀ (a1 : List Int) (a2 : Int) (a3 : Int) (c0 : Rdr) r, Qio a1 a2 a3 c0 = some r -> ∀ (e0 : Nat)  (ss : Sto), Pre ss [(e0, ⟨122, 2, [sf cU c0.b, i6 c0.p]⟩)] [] -> Ctr Tryz.prog 180 [.ptr e0 0, sf cI a1, i6 a2, i6 a3] ss (fun r' ss' => ∃ (tt' : Sto), r' = .tup [.agg (Cor.cells r.1), i6 r.2.1] /\ Tau (strip ss []) [(e0, ⟨122, 2, [sf cU r.2.2.b, i6 r.2.2.p]⟩)] tt' /\ Fx tt' ss' [] []) := by
 refine Qio.partial_correctness  (motive_1 := fun a1 a2 a3 c0 r => ∀ (e0 : Nat)  (ss : Sto), Pre ss [(e0, ⟨122, 2, [sf cU c0.b, i6 c0.p]⟩)] [] -> Ctr Tryz.prog 180 [.ptr e0 0, sf cI a1, i6 a2, i6 a3] ss (fun r' ss' => ∃ (tt' : Sto), r' = .tup [.agg (Cor.cells r.1), i6 r.2.1] /\ Tau (strip ss []) [(e0, ⟨122, 2, [sf cU r.2.2.b, i6 r.2.2.p]⟩)] tt' /\ Fx tt' ss' [] [])) (motive_2 := fun a2 x62 Qnq Qnr Qlo Qd6 Qfs Q8i Qtn Qto out => ∀ c, Qam Tryz.f180 1 = some c -> ∀ (Q : AX -> AS -> Prop) (tt0 : Sto) (e0 : Nat) (b1 : Nat) (b56 : Nat) (y59v0 : AV), (∀ (Qv0 : List Cor) (Kjy : Int) (Kar : List Int) (Kas : Int), out = (Qv0, Kjy, Kar, Kas) -> ∀ (T : Nat -> AV) (ss : Sto) (tt : Sto) (e1v1 : AV), T 3 = i6 Kjy /\ T 8 = .ptr b1 0 /\ T 10 = .ptr b56 0 -> Tau tt0 [(e0, ⟨122, 2, [sf cU Kar, i6 Kas]⟩)] tt -> Fx tt ss [(b56, ⟨31, 11, [i6 x62.1, i6 0, .str zB, i6 0, y59v0, i6 0, .str zB, i6 0, .Qab, .Qab, e1v1]⟩), (b1, ⟨31, 11, [i6 0, i6 0, .str zB, i6 0, .Qab, i6 0, .str zB, i6 0, .Qab, .Qab, .Qab]⟩)] [⟨e1v1, 31, 11, rws Cor.cells Qv0⟩, ⟨y59v0, 3, 1, rws cI Qnq⟩] -> Q (.ex 4) ⟨T, ss⟩) -> True -> ∀ (T : Nat -> AV) (ss : Sto) (tt : Sto) (z1v1 : AV), T 0 = .ptr e0 0 /\ T 1 = sf cI Qnr /\ T 2 = i6 a2 /\ T 3 = i6 Q8i /\ T 8 = .ptr b1 0 /\ T 10 = .ptr b56 0 /\ T 11 = i6 Qlo /\ T 13 = i6 Qfs -> Tau tt0 [(e0, ⟨122, 2, [sf cU Qtn, i6 Qto]⟩)] tt -> Fx tt ss [(b56, ⟨31, 11, [i6 x62.1, i6 0, .str zB, i6 0, y59v0, i6 0, .str zB, i6 0, .Qab, .Qab, z1v1]⟩), (b1, ⟨31, 11, [i6 0, i6 0, .str zB, i6 0, .Qab, i6 0, .str zB, i6 0, .Qab, .Qab, .Qab]⟩)] [⟨z1v1, 31, 11, rws Cor.cells Qd6⟩, ⟨y59v0, 3, 1, rws cI Qnq⟩] -> Qbr (Qbc Tryz.prog c) Q ⟨T, ss⟩) ?_ ?_
 ·intro Qgz L0 a1 a2 a3 c0 r H
  intro e0  ss hP
  refine Qau mixed Tryz.func180 rfl (by kernel_rfl) (rs := [.cell 8 31, .tmp 9]) rfl (by kernel_rfl) ?_
  obtain ⟨hF, hX⟩ := hP.start
  generalize strip ss [] = tt0 at hF hX ⊢
  have q := dum
  have tT := dum
  refine go ?_
  refine Qag hF rfl fun b1 ss2 hF => ?_
  refine go ?_
  refine giN q (fun q => ?_) (fun q => ?_)
  ·rw [if_neg (df q)] at H
   refine go ?_
   obtain ⟨Q2y, hx20_1, H⟩ := bnd H
   refine cx (Qan 4 c0 _ hx20_1 e0  _ (pre 0 1 0 hF hX)) ?_
   rintro _ s8 ⟨tt9, rfl, hT, hG⟩
   obtain ⟨t10, hX, hF⟩ := aft 0 1 0 hF hX hT hG
   refine go ?_
   refine cdp H (fun h H => ?_) (fun h H => ?_)
   ·refine go ?_
    refine gi q (fun q => ?_) (fun q => ?_)
    ·rw [if_pos (dt q)] at H
     refine go ?_
     obtain ⟨Qyx, hx28_1, H⟩ := bnd H
     refine cx (Qan 3 Q2y.2 _ hx28_1 e0  _ (pre 0 1 0 hF hX)) ?_
     rintro _ s16 ⟨t17, rfl, hT, hG⟩
     obtain ⟨t18, hX, hF⟩ := aft 0 1 0 hF hX hT hG
     refine go ?_
     refine cdp H (fun h H => ?_) (fun h H => ?_)
     ·refine go ?_
      obtain ⟨x35, hx35, H⟩ := bnd H
      refine cx (Qan (a1.length : Int) Qyx.2 _ hx35 e0  _ (pre 0 1 0 hF hX)) ?_
      rintro _ s19 ⟨tt20, rfl, hT, hG⟩
      obtain ⟨t21, hX, hF⟩ := aft 0 1 0 hF hX hT hG
      obtain ⟨x36, f1, H⟩ := bil (g := cI) (fun _ => rfl) H
      refine go1 ?_
      refine st hF 0 rfl fun s22 hF => ?_
      refine go ?_
      have e := pur H; subst e
      exact rg [.agg [i6 1, i6 x36, .str zB, i6 0, .Qab, i6 0, .str zB, i6 0, .Qab, .Qab, .Qab], i6 a3] ⟨_, rfl, hX, Fx.self _⟩
     ·refine go ?_
      obtain ⟨x41, hx41, H⟩ := bnd H
      refine cx (Qan 4 Qyx.2 _ hx41 e0  _ (pre 0 1 0 hF hX)) ?_
      rintro _ s23 ⟨t24, rfl, hT, hG⟩
      obtain ⟨t25, hX, hF⟩ := aft 0 1 0 hF hX hT hG
      refine go ?_
      refine cdp H (fun h H => ?_) (fun h H => ?_)
      ·refine go ?_
       obtain ⟨x45, hx45, H⟩ := bnd H
       refine cx (Qgx 1 x41.2 _ hx45 e0  _ (pre 0 1 0 hF hX)) ?_
       rintro _ s26 ⟨t27, rfl, hT, hG⟩
       obtain ⟨t28, hX, hF⟩ := aft 0 1 0 hF hX hT hG
       refine go ?_
       refine st hF 0 rfl fun s29 hF => ?_
       refine go ?_
       have e := pur H; subst e
       exact rg [.agg [i6 4, i6 0, .str zB, i6 0, .Qab, i6 x45.1.kind, .str x45.1.name, i6 x45.1.num, sf cI x45.1.sc, sf Fm.cells x45.1.kids, .Qab], i6 a3] ⟨_, rfl, hX, Fx.self _⟩
      ·refine go ?_
       refine cdp H (fun h H => ?_) (fun h H => ?_)
       ·refine go ?_
        obtain ⟨x52, hx52, H⟩ := bnd H
        refine cx (Qc1 [(ByteArray.mk #[102]), (ByteArray.mk #[43]), (ByteArray.mk #[108, 105, 115, 116])] x41.2 _ hx52 e0  _ (pre 0 1 0 hF hX)) ?_
        rintro _ s30 ⟨tt31, rfl, hT, hG⟩
        obtain ⟨t32, hX, hF⟩ := aft 0 1 0 hF hX hT hG
        refine go ?_
        refine st hF 0 rfl fun s33 hF => ?_
        refine go ?_
        have e := pur H; subst e
        exact rg [.agg [i6 2, i6 0, .str x52.1, i6 0, .Qab, i6 0, .str zB, i6 0, .Qab, .Qab, .Qab], i6 a3] ⟨_, rfl, hX, Fx.self _⟩
       ·refine go ?_
        obtain ⟨x57, hx57, H⟩ := bnd H
        refine cx (Qa6 [0, 1, 5, 42] x41.2 _ hx57 e0  _ (pre 0 1 0 hF hX)) ?_
        rintro _ s34 ⟨t35, rfl, hT, hG⟩
        obtain ⟨t36, hX, hF⟩ := aft 0 1 0 hF hX hT hG
        refine go ?_
        refine st hF 0 rfl fun s37 hF => ?_
        refine go ?_
        have e := pur H; subst e
        exact rg [.agg [i6 3, i6 0, .str zB, i6 x57.1, .Qab, i6 0, .str zB, i6 0, .Qab, .Qab, .Qab], i6 a3] ⟨_, rfl, hX, Fx.self _⟩
    ·rw [if_neg (df q)] at H
     refine go ?_
     obtain ⟨Qr0, hx41_1, H⟩ := bnd H
     refine cx (Qan 4 Q2y.2 _ hx41_1 e0  _ (pre 0 1 0 hF hX)) ?_
     rintro _ s38 ⟨t39, rfl, hT, hG⟩
     obtain ⟨t40, hX, hF⟩ := aft 0 1 0 hF hX hT hG
     refine go ?_
     refine cdp H (fun h H => ?_) (fun h H => ?_)
     ·refine go ?_
      obtain ⟨Qr1, hx45_1, H⟩ := bnd H
      refine cx (Qgx 1 Qr0.2 _ hx45_1 e0  _ (pre 0 1 0 hF hX)) ?_
      rintro _ s41 ⟨t42, rfl, hT, hG⟩
      obtain ⟨t43, hX, hF⟩ := aft 0 1 0 hF hX hT hG
      refine go ?_
      refine st hF 0 rfl fun s44 hF => ?_
      refine go ?_
      have e := pur H; subst e
      exact rg [.agg [i6 4, i6 0, .str zB, i6 0, .Qab, i6 Qr1.1.kind, .str Qr1.1.name, i6 Qr1.1.num, sf cI Qr1.1.sc, sf Fm.cells Qr1.1.kids, .Qab], i6 a3] ⟨_, rfl, hX, Fx.self _⟩
     ·refine go ?_
      refine cdp H (fun h H => ?_) (fun h H => ?_)
      ·refine go ?_
       obtain ⟨Ke7, hx52_1, H⟩ := bnd H
       refine cx (Qc1 [(ByteArray.mk #[102]), (ByteArray.mk #[43]), (ByteArray.mk #[108, 105, 115, 116])] Qr0.2 _ hx52_1 e0  _ (pre 0 1 0 hF hX)) ?_
       rintro _ s45 ⟨tt46, rfl, hT, hG⟩
       obtain ⟨t47, hX, hF⟩ := aft 0 1 0 hF hX hT hG
       refine go ?_
       refine st hF 0 rfl fun s48 hF => ?_
       refine go ?_
       have e := pur H; subst e
       exact rg [.agg [i6 2, i6 0, .str Ke7.1, i6 0, .Qab, i6 0, .str zB, i6 0, .Qab, .Qab, .Qab], i6 a3] ⟨_, rfl, hX, Fx.self _⟩
      ·refine go ?_
       obtain ⟨Q4l, hx57_1, H⟩ := bnd H
       refine cx (Qa6 [0, 1, 5, 42] Qr0.2 _ hx57_1 e0  _ (pre 0 1 0 hF hX)) ?_
       rintro _ s49 ⟨t50, rfl, hT, hG⟩
       obtain ⟨tt51, hX, hF⟩ := aft 0 1 0 hF hX hT hG
       refine go ?_
       refine st hF 0 rfl fun s52 hF => ?_
       refine go ?_
       have e := pur H; subst e
       exact rg [.agg [i6 3, i6 0, .str zB, i6 Q4l.1, .Qab, i6 0, .str zB, i6 0, .Qab, .Qab, .Qab], i6 a3] ⟨_, rfl, hX, Fx.self _⟩
   ·refine go ?_
    obtain ⟨x62, hx62, H⟩ := bnd H
    refine cx (Qa6 [6, 5, 7, 5] Q2y.2 _ hx62 e0  _ (pre 0 1 0 hF hX)) ?_
    rintro _ s53 ⟨t54, rfl, hT, hG⟩
    obtain ⟨t55, hX, hF⟩ := aft 0 1 0 hF hX hT hG
    refine go ?_
    refine Qag hF rfl fun b56 s57 hF => ?_
    refine go ?_
    refine st hF 0 rfl fun s58 hF => ?_
    have hF := hF.nil 3 1
    refine go ?_
    obtain ⟨⟨Qnq, Qnr, Qlo, Q6b, Qvm, Qvn⟩, j60, H⟩ := bnd H
    refine Qca (fun s' => ∃ (T : Nat -> AV) (ss1 : Sto) (tt1 : Sto) (y59v0 : AV), s' = ⟨T, ss1⟩ /\ (T 0 = .ptr e0 0 /\ T 1 = sf cI Qnr /\ T 2 = i6 a2 /\ T 3 = i6 Q6b /\ T 8 = .ptr b1 0 /\ T 10 = .ptr b56 0 /\ T 11 = i6 Qlo) /\ Tau tt0 [(e0, ⟨122, 2, [sf cU Qvm, i6 Qvn]⟩)] tt1 /\ Fx tt1 ss1 [(b56, ⟨31, 11, [i6 x62.1, i6 0, .str zB, i6 0, y59v0, i6 0, .str zB, i6 0, .Qab, .Qab, .Qab]⟩), (b1, ⟨31, 11, [i6 0, i6 0, .str zB, i6 0, .Qab, i6 0, .str zB, i6 0, .Qab, .Qab, .Qab]⟩)] [⟨y59v0, 3, 1, rws cI Qnq⟩]) (cdp j60 (fun h j60 => ?_) (fun h j60 => ?_)) ?_
    ·refine go ?_
     obtain ⟨x70, hx70, j60⟩ := bnd j60
     refine cx (Qa6 [1, 2, 0] x62.2 _ hx70 e0  _ (pre 0 1 0 hF hX)) ?_
     rintro _ s61 ⟨t62, rfl, hT, hG⟩
     obtain ⟨t63, hX, hF⟩ := aft 0 1 0 hF hX hT hG
     refine go ?_
     obtain ⟨o74, ho74, j60⟩ := bnd j60
     refine Qs9 a2 x62 [] a1 x70.1 a3 x70.2.b x70.2.p _ ho74 _ rfl _ tt0 e0 b1 b56 ?_ ?_ _ _ _ .Qab S hX hF
     ·intro Kfq Kfr Kfs Q49 Q5a he T76 s77 t78 e75v0 tT hX hF
      have he := he.symm
      subst he
      dsimp only at j60
      refine go ?_
      have e := pur j60
      injection e with e0 e
      injection e with e1 e
      injection e with e2 e
      injection e with e3 e
      injection e with e4 e
      subst e0
      subst e1
      subst e2
      subst e3
      subst e4
      subst e
      exact ⟨_, _, _, e75v0, rfl, S, hX, hF⟩
     ·trivial
    ·refine go ?_
     refine cdp j60 (fun h j60 => ?_) (fun h j60 => ?_)
     ·refine go ?_
      obtain ⟨x96, hx96, j60⟩ := bnd j60
      refine cx (Qa6 [2, 1, 3] x62.2 _ hx96 e0  _ (pre 0 1 0 hF hX)) ?_
      rintro _ s79 ⟨t80, rfl, hT, hG⟩
      obtain ⟨t81, hX, hF⟩ := aft 0 1 0 hF hX hT hG
      refine go ?_
      have e := pur j60
      injection e with e0 e
      injection e with e1 e
      injection e with e2 e
      injection e with e3 e
      injection e with e4 e
      subst e0
      subst e1
      subst e2
      subst e3
      subst e4
      subst e
      exact ⟨_, _, _, .Qab, rfl, S, hX, hF⟩
     ·refine go ?_
      have e := pur j60
      injection e with e0 e
      injection e with e1 e
      injection e with e2 e
      injection e with e3 e
      injection e with e4 e
      subst e0
      subst e1
      subst e2
      subst e3
      subst e4
      subst e
      exact ⟨_, _, _, .Qab, rfl, S, hX, hF⟩
    ·rintro s' ⟨T82, s83, t84, y59v0, rfl, tT, hX, hF⟩
     have hF := hF.nil 31 11
     refine go ?_
     obtain ⟨o94, ho94, H⟩ := bnd H
     refine L0 a2 x62 Qnq Qnr Qlo [] 0 Q6b Qvm Qvn _ ho94 _ rfl _ tt0 e0 b1 b56 y59v0 ?_ ?_ _ _ _ .Qab S hX hF
     ·intro Kft Kaw Q5b Q5c he T96 s97 t98 e95v1 tT hX hF
      have he := he.symm
      subst he
      dsimp only at H
      refine go ?_
      refine st hF 1 rfl fun s99 hF => ?_
      refine go ?_
      have e := pur H; subst e
      exact rg [.agg [i6 x62.1, i6 0, .str zB, i6 0, y59v0, i6 0, .str zB, i6 0, .Qab, .Qab, e95v1], i6 Kaw] ⟨_, rfl, hX, Fx.self _⟩
     ·trivial
  ·rw [if_pos (dt q)] at H
   refine go ?_
   refine gi q (fun q => ?_) (fun q => ?_)
   ·rw [if_pos (dt q)] at H
    refine go ?_
    obtain ⟨Qyy, hx28_3, H⟩ := bnd H
    refine cx (Qan 3 c0 _ hx28_3 e0  _ (pre 0 1 0 hF hX)) ?_
    rintro _ s105 ⟨t106, rfl, hT, hG⟩
    obtain ⟨t107, hX, hF⟩ := aft 0 1 0 hF hX hT hG
    refine go ?_
    refine cdp H (fun h H => ?_) (fun h H => ?_)
    ·refine go ?_
     obtain ⟨Q8g, hx35_1, H⟩ := bnd H
     refine cx (Qan (a1.length : Int) Qyy.2 _ hx35_1 e0  _ (pre 0 1 0 hF hX)) ?_
     rintro _ s108 ⟨t109, rfl, hT, hG⟩
     obtain ⟨t110, hX, hF⟩ := aft 0 1 0 hF hX hT hG
     obtain ⟨Qmz, f1, H⟩ := bil (g := cI) (fun _ => rfl) H
     refine go1 ?_
     refine st hF 0 rfl fun s111 hF => ?_
     refine go ?_
     have e := pur H; subst e
     exact rg [.agg [i6 1, i6 Qmz, .str zB, i6 0, .Qab, i6 0, .str zB, i6 0, .Qab, .Qab, .Qab], i6 a3] ⟨_, rfl, hX, Fx.self _⟩
    ·refine go ?_
     obtain ⟨Q0r, hx41_2, H⟩ := bnd H
     refine cx (Qan 4 Qyy.2 _ hx41_2 e0  _ (pre 0 1 0 hF hX)) ?_
     rintro _ s112 ⟨t113, rfl, hT, hG⟩
     obtain ⟨t114, hX, hF⟩ := aft 0 1 0 hF hX hT hG
     refine go ?_
     refine cdp H (fun h H => ?_) (fun h H => ?_)
     ·refine go ?_
      obtain ⟨Q2z, hx45_2, H⟩ := bnd H
      refine cx (Qgx 1 Q0r.2 _ hx45_2 e0  _ (pre 0 1 0 hF hX)) ?_
      rintro _ s115 ⟨t116, rfl, hT, hG⟩
      obtain ⟨t117, hX, hF⟩ := aft 0 1 0 hF hX hT hG
      refine go ?_
      refine st hF 0 rfl fun s118 hF => ?_
      refine go ?_
      have e := pur H; subst e
      exact rg [.agg [i6 4, i6 0, .str zB, i6 0, .Qab, i6 Q2z.1.kind, .str Q2z.1.name, i6 Q2z.1.num, sf cI Q2z.1.sc, sf Fm.cells Q2z.1.kids, .Qab], i6 a3] ⟨_, rfl, hX, Fx.self _⟩
     ·refine go ?_
      refine cdp H (fun h H => ?_) (fun h H => ?_)
      ·refine go ?_
       obtain ⟨Ke8, hx52_2, H⟩ := bnd H
       refine cx (Qc1 [(ByteArray.mk #[102]), (ByteArray.mk #[43]), (ByteArray.mk #[108, 105, 115, 116])] Q0r.2 _ hx52_2 e0  _ (pre 0 1 0 hF hX)) ?_
       rintro _ s119 ⟨t120, rfl, hT, hG⟩
       obtain ⟨t121, hX, hF⟩ := aft 0 1 0 hF hX hT hG
       refine go ?_
       refine st hF 0 rfl fun s122 hF => ?_
       refine go ?_
       have e := pur H; subst e
       exact rg [.agg [i6 2, i6 0, .str Ke8.1, i6 0, .Qab, i6 0, .str zB, i6 0, .Qab, .Qab, .Qab], i6 a3] ⟨_, rfl, hX, Fx.self _⟩
      ·refine go ?_
       obtain ⟨Kfa, hx57_2, H⟩ := bnd H
       refine cx (Qa6 [0, 1, 5, 42] Q0r.2 _ hx57_2 e0  _ (pre 0 1 0 hF hX)) ?_
       rintro _ s123 ⟨t124, rfl, hT, hG⟩
       obtain ⟨t125, hX, hF⟩ := aft 0 1 0 hF hX hT hG
       refine go ?_
       refine st hF 0 rfl fun s126 hF => ?_
       refine go ?_
       have e := pur H; subst e
       exact rg [.agg [i6 3, i6 0, .str zB, i6 Kfa.1, .Qab, i6 0, .str zB, i6 0, .Qab, .Qab, .Qab], i6 a3] ⟨_, rfl, hX, Fx.self _⟩
   ·rw [if_neg (df q)] at H
    refine go ?_
    obtain ⟨Q0s, hx41_3, H⟩ := bnd H
    refine cx (Qan 4 c0 _ hx41_3 e0  _ (pre 0 1 0 hF hX)) ?_
    rintro _ s127 ⟨t128, rfl, hT, hG⟩
    obtain ⟨t129, hX, hF⟩ := aft 0 1 0 hF hX hT hG
    refine go ?_
    refine cdp H (fun h H => ?_) (fun h H => ?_)
    ·refine go ?_
     obtain ⟨Q20, hx45_3, H⟩ := bnd H
     refine cx (Qgx 1 Q0s.2 _ hx45_3 e0  _ (pre 0 1 0 hF hX)) ?_
     rintro _ s130 ⟨t131, rfl, hT, hG⟩
     obtain ⟨t132, hX, hF⟩ := aft 0 1 0 hF hX hT hG
     refine go ?_
     refine st hF 0 rfl fun s133 hF => ?_
     refine go ?_
     have e := pur H; subst e
     exact rg [.agg [i6 4, i6 0, .str zB, i6 0, .Qab, i6 Q20.1.kind, .str Q20.1.name, i6 Q20.1.num, sf cI Q20.1.sc, sf Fm.cells Q20.1.kids, .Qab], i6 a3] ⟨_, rfl, hX, Fx.self _⟩
    ·refine go ?_
     refine cdp H (fun h H => ?_) (fun h H => ?_)
     ·refine go ?_
      obtain ⟨Ke9, hx52_3, H⟩ := bnd H
      refine cx (Qc1 [(ByteArray.mk #[102]), (ByteArray.mk #[43]), (ByteArray.mk #[108, 105, 115, 116])] Q0s.2 _ hx52_3 e0  _ (pre 0 1 0 hF hX)) ?_
      rintro _ s134 ⟨t135, rfl, hT, hG⟩
      obtain ⟨t136, hX, hF⟩ := aft 0 1 0 hF hX hT hG
      refine go ?_
      refine st hF 0 rfl fun s137 hF => ?_
      refine go ?_
      have e := pur H; subst e
      exact rg [.agg [i6 2, i6 0, .str Ke9.1, i6 0, .Qab, i6 0, .str zB, i6 0, .Qab, .Qab, .Qab], i6 a3] ⟨_, rfl, hX, Fx.self _⟩
     ·refine go ?_
      obtain ⟨Kfb, hx57_3, H⟩ := bnd H
      refine cx (Qa6 [0, 1, 5, 42] Q0s.2 _ hx57_3 e0  _ (pre 0 1 0 hF hX)) ?_
      rintro _ s138 ⟨t139, rfl, hT, hG⟩
      obtain ⟨t140, hX, hF⟩ := aft 0 1 0 hF hX hT hG
      refine go ?_
      refine st hF 0 rfl fun s141 hF => ?_
      refine go ?_
      have e := pur H; subst e
      exact rg [.agg [i6 3, i6 0, .str zB, i6 Kfb.1, .Qab, i6 0, .str zB, i6 0, .Qab, .Qab, .Qab], i6 a3] ⟨_, rfl, hX, Fx.self _⟩
 ·intro Qio Qgz C0 L0 a2 x62 Qnq Qnr Qlo Qd6 Qfs Q8i Qtn Qto out H c hc Q tt0 e0 b1 b56 y59v0 hE hR T ss tt z1v1 tT hX hF
  obtain rfl := lpe (rfl : Qam Tryz.f180 1 = some _) hc
  refine Qah ?_
  have q := dum
  refine go ?_
  refine cdp H (fun h H => ?_) (fun h H => ?_)
  ·refine go ?_
   obtain ⟨x108, hx108, H⟩ := bnd H
   refine cx (C0 Qnr (i64.wrap (a2 - 1)) Q8i (Rdr.mk Qtn Qto) _ hx108 e0  _ (pre 0 1 0 hF hX)) ?_
   rintro _ s85 ⟨t86, rfl, hT, hG⟩
   obtain ⟨t87, hX, hF⟩ := aft 0 1 0 hF hX hT hG
   refine go ?_
   refine Qag hF rfl fun b88 s89 hF => ?_
   refine go ?_
   refine st hF 0 rfl fun s90 hF => ?_
   refine go ?_
   refine apd (g := Cor.cells) hF 0 H (rdo (c := true) (g := Cor.cells) Cor.Qad) fun x116 H v91 s92 hF => ?_
   refine go ?_
   refine st hF 1 (hF.cells 0 rfl) fun s93 hF => ?_
   refine go ?_
   exact L0 a2 x62 Qnq Qnr Qlo x116 (i64.wrap (Qfs + 1)) x108.2.1 x108.2.2.b x108.2.2.p _ H _ rfl Q tt0 e0 b1 b56 y59v0 hE hR _ _ _ v91 S hX (hF.drop 1 0)
  ·refine go ?_
   exact hE _ _ _ _ (pur H).symm _ _ _ z1v1 S hX hF
theorem Qh8 : ∀ (a0 : Fm) r, Qd4 a0 = some r -> Qb0 Tryz.prog 121 [.agg (Fm.cells a0)] (.agg (Fm.cells r)) := by
 refine Qd4.partial_correctness  (motive_1 := fun a0 r => Qb0 Tryz.prog 121 [.agg (Fm.cells a0)] (.agg (Fm.cells r))) (motive_2 := fun a0 x14 Qac Qba out => ∀ c, Qam Tryz.f121 0 = some c -> ∀ (Q : AX -> AS -> Prop) (tt : Sto) (b1 : Nat) (b3 : Nat) (b5 : Nat), (∀ (Qbn : List Fm), out = Qbn -> ∀ (T : Nat -> AV) (ss : Sto) (e0v0 : AV), T 2 = .ptr b3 0 /\ T 3 = .ptr b5 0 -> Fx tt ss [(b5, ⟨26, 5, [i6 a0.kind, .str a0.name, i6 a0.num, sf cI x14, e0v0]⟩), (b3, ⟨26, 5, [i6 0, .str zB, i6 0, .Qab, .Qab]⟩), (b1, ⟨26, 5, [i6 a0.kind, .str a0.name, i6 a0.num, sf cI a0.sc, sf Fm.cells a0.kids]⟩)] [⟨e0v0, 26, 5, rws Fm.cells Qbn⟩] -> Q (.ex 0) ⟨T, ss⟩) -> True -> ∀ (T : Nat -> AV) (ss : Sto) (z0v0 : AV), T 1 = .ptr b1 0 /\ T 2 = .ptr b3 0 /\ T 3 = .ptr b5 0 /\ T 4 = i6 Qba -> Fx tt ss [(b5, ⟨26, 5, [i6 a0.kind, .str a0.name, i6 a0.num, sf cI x14, z0v0]⟩), (b3, ⟨26, 5, [i6 0, .str zB, i6 0, .Qab, .Qab]⟩), (b1, ⟨26, 5, [i6 a0.kind, .str a0.name, i6 a0.num, sf cI a0.sc, sf Fm.cells a0.kids]⟩)] [⟨z0v0, 26, 5, rws Fm.cells Qac⟩] -> Qbr (Qbc Tryz.prog c) Q ⟨T, ss⟩) ?_ ?_
 ·intro Qcu L0 a0 r H
  intro ss
  refine Qau mixed Tryz.func121 rfl (by kernel_rfl) (rs := [.cell 2 26]) rfl (by kernel_rfl) ?_
  have hF := Fx.refl ss
  have hX := Tau.none ss
  have q := dum
  have tT := dum
  refine go ?_
  refine Qag hF rfl fun b1 ss2 hF => ?_
  refine go ?_
  refine Qag hF rfl fun b3 ss4 hF => ?_
  refine go ?_
  refine Qaq E0 [.v, .v, .v, .v, .v, .v, .v, .v, .v, .v, .v, .x, .z] (by kernel_rfl) ?_
  refine go ?_
  obtain ⟨x14, hx14, H⟩ := bnd H
  refine Qzc (g := cI) (xs := []) (ys := a0.sc) (fun _ => rfl) (by decide) (by decide) (.inr (by first | rfl | simp only [Qb9, Qd3, cI, cU, cS, cL])) (.inr ⟨_, by first | rfl | simp only [Qb9, Qd3, cI, cU, cS, cL]⟩) hx14 ?_
  refine go ?_
  refine Qg4 hF rfl fun b5 ss6 hF => ?_
  refine go ?_
  refine st hF 0 rfl fun s7 hF => ?_
  have hF := hF.nil 26 5
  refine go ?_
  obtain ⟨o11, ho11, H⟩ := bnd H
  refine L0 a0 x14 [] 0 _ ho11 _ rfl _ _ b1 b3 b5 ?_ ?_ _ _ .Qab S hF
  ·intro Qga he T13 s14 e12v0 tT hF
   have he := he.symm
   subst he
   refine go ?_
   refine st hF 1 rfl fun s16 hF => ?_
   refine go ?_
   have e := pur H; subst e
   exact rt [.agg [i6 a0.kind, .str a0.name, i6 a0.num, sf cI x14, e12v0]]
  ·trivial
 ·intro Qd4 Qcu C0 L0 a0 x14 Qac Qba out H c hc Q tt b1 b3 b5 hE hR T ss z0v0 tT hF
  obtain rfl := lpe (rfl : Qam Tryz.f121 0 = some _) hc
  refine Qah ?_
  have q := dum
  have hX := Tau.none tt
  refine go ?_
  refine cdp H (fun h H => ?_) (fun h H => ?_)
  ·refine go ?_
   refine Qaq E0 [.v, .v, .v, .v, .v, .v, .v, .v, .v, .x, .v, .z] (by kernel_rfl) ?_
   obtain ⟨x28, f1, H⟩ := bil (g := Fm.cells) Fm.Qad H
   refine go1 ?_
   obtain ⟨x30, hx30, H⟩ := bnd H
   refine cv (C0 x28 _ hx30) ?_
   refine go ?_
   refine Q0w (g := Fm.cells) hF 0 H (rdo (c := true) (g := Fm.cells) Fm.Qad) fun x32 H v8 s9 hF => ?_
   refine go ?_
   refine st hF 0 (hF.cells 0 rfl) fun s10 hF => ?_
   refine go ?_
   exact L0 a0 x14 x32 (i64.wrap (Qba + 1)) _ H _ rfl Q tt b1 b3 b5 hE hR _ _ v8 S hF
  ·refine go ?_
   exact hE _ (pur H).symm _ _ z0v0 S hF
theorem Qmd : ∀ (a0 : Cor) r, Qf4 a0 = some r -> Qb0 Tryz.prog 86 [.agg (Cor.cells a0)] (.agg (Cor.cells r)) := by
 refine Qf4.partial_correctness  (motive_1 := fun a0 r => Qb0 Tryz.prog 86 [.agg (Cor.cells a0)] (.agg (Cor.cells r))) (motive_2 := fun a0 x16 x19 Qac Qba out => ∀ c, Qam Tryz.f86 0 = some c -> ∀ (Q : AX -> AS -> Prop) (tt : Sto) (b1 : Nat) (b3 : Nat) (b5 : Nat), (∀ (Qbn : List Cor), out = Qbn -> ∀ (T : Nat -> AV) (ss : Sto) (e0v0 : AV), T 2 = .ptr b3 0 /\ T 3 = .ptr b5 0 -> Fx tt ss [(b5, ⟨31, 11, [i6 a0.kind, i6 a0.id, .str a0.name, i6 a0.num, sf cI x16, i6 x19.kind, .str x19.name, i6 x19.num, sf cI x19.sc, sf Fm.cells x19.kids, e0v0]⟩), (b3, ⟨31, 11, [i6 0, i6 0, .str zB, i6 0, .Qab, i6 0, .str zB, i6 0, .Qab, .Qab, .Qab]⟩), (b1, ⟨31, 11, [i6 a0.kind, i6 a0.id, .str a0.name, i6 a0.num, sf cI a0.ids, i6 a0.data.kind, .str a0.data.name, i6 a0.data.num, sf cI a0.data.sc, sf Fm.cells a0.data.kids, sf Cor.cells a0.kids]⟩)] [⟨e0v0, 31, 11, rws Cor.cells Qbn⟩] -> Q (.ex 0) ⟨T, ss⟩) -> True -> ∀ (T : Nat -> AV) (ss : Sto) (z0v0 : AV), T 1 = .ptr b1 0 /\ T 2 = .ptr b3 0 /\ T 3 = .ptr b5 0 /\ T 4 = i6 Qba -> Fx tt ss [(b5, ⟨31, 11, [i6 a0.kind, i6 a0.id, .str a0.name, i6 a0.num, sf cI x16, i6 x19.kind, .str x19.name, i6 x19.num, sf cI x19.sc, sf Fm.cells x19.kids, z0v0]⟩), (b3, ⟨31, 11, [i6 0, i6 0, .str zB, i6 0, .Qab, i6 0, .str zB, i6 0, .Qab, .Qab, .Qab]⟩), (b1, ⟨31, 11, [i6 a0.kind, i6 a0.id, .str a0.name, i6 a0.num, sf cI a0.ids, i6 a0.data.kind, .str a0.data.name, i6 a0.data.num, sf cI a0.data.sc, sf Fm.cells a0.data.kids, sf Cor.cells a0.kids]⟩)] [⟨z0v0, 31, 11, rws Cor.cells Qac⟩] -> Qbr (Qbc Tryz.prog c) Q ⟨T, ss⟩) ?_ ?_
 ·intro Qfk L0 a0 r H
  intro ss
  refine Qau mixed Tryz.func86 rfl (by kernel_rfl) (rs := [.cell 2 31]) rfl (by kernel_rfl) ?_
  have hF := Fx.refl ss
  have hX := Tau.none ss
  have q := dum
  have tT := dum
  refine go ?_
  refine Qag hF rfl fun b1 ss2 hF => ?_
  refine go ?_
  refine Qag hF rfl fun b3 ss4 hF => ?_
  refine go ?_
  refine Qaq E0 [.v, .v, .v, .v, .v, .v, .v, .v, .v, .v, .v, .v, .v, .v, .v, .v, .x, .z] (by kernel_rfl) ?_
  refine go ?_
  obtain ⟨x16, hx16, H⟩ := bnd H
  refine Qzc (g := cI) (xs := []) (ys := a0.ids) (fun _ => rfl) (by decide) (by decide) (.inr (by first | rfl | simp only [Qb9, Qd3, cI, cU, cS, cL])) (.inr ⟨_, by first | rfl | simp only [Qb9, Qd3, cI, cU, cS, cL]⟩) hx16 ?_
  refine go ?_
  obtain ⟨x19, hx19, H⟩ := bnd H
  refine cv (Qh8 a0.data _ hx19) ?_
  refine go ?_
  refine Qg4 hF rfl fun b5 ss6 hF => ?_
  refine go ?_
  refine st hF 0 rfl fun s7 hF => ?_
  have hF := hF.nil 31 11
  refine go ?_
  obtain ⟨o11, ho11, H⟩ := bnd H
  refine L0 a0 x16 x19 [] 0 _ ho11 _ rfl _ _ b1 b3 b5 ?_ ?_ _ _ .Qab S hF
  ·intro Qga he T13 s14 e12v0 tT hF
   have he := he.symm
   subst he
   refine go ?_
   refine st hF 1 rfl fun s16 hF => ?_
   refine go ?_
   have e := pur H; subst e
   exact rt [.agg [i6 a0.kind, i6 a0.id, .str a0.name, i6 a0.num, sf cI x16, i6 x19.kind, .str x19.name, i6 x19.num, sf cI x19.sc, sf Fm.cells x19.kids, e12v0]]
  ·trivial
 ·intro Qf4 Qfk C0 L0 a0 x16 x19 Qac Qba out H c hc Q tt b1 b3 b5 hE hR T ss z0v0 tT hF
  obtain rfl := lpe (rfl : Qam Tryz.f86 0 = some _) hc
  refine Qah ?_
  have q := dum
  have hX := Tau.none tt
  refine go ?_
  refine cdp H (fun h H => ?_) (fun h H => ?_)
  ·refine go ?_
   refine Qaq E0 [.v, .v, .v, .v, .v, .v, .v, .v, .v, .x, .v, .z] (by kernel_rfl) ?_
   obtain ⟨x33, f1, H⟩ := bil (g := Cor.cells) Cor.Qad H
   refine go1 ?_
   obtain ⟨x35, hx35, H⟩ := bnd H
   refine cv (C0 x33 _ hx35) ?_
   refine go ?_
   refine Q0w (g := Cor.cells) hF 0 H (rdo (c := true) (g := Cor.cells) Cor.Qad) fun x37 H v8 s9 hF => ?_
   refine go ?_
   refine st hF 0 (hF.cells 0 rfl) fun s10 hF => ?_
   refine go ?_
   exact L0 a0 x16 x19 x37 (i64.wrap (Qba + 1)) _ H _ rfl Q tt b1 b3 b5 hE hR _ _ v8 S hF
  ·refine go ?_
   exact hE _ (pur H).symm _ _ z0v0 S hF
theorem Qlr : ∀ (a0 : Cor) (x16 : List Int) (x19 : Fm) (Qgh : List Cor) (Qba : Int) out, Qbm a0 x16 x19 Qgh Qba = some out -> ∀ c, Qam Tryz.f86 0 = some c -> ∀ (Q : AX -> AS -> Prop) (tt0 : Sto) (b1 : Nat) (b3 : Nat) (v5 : AV) (b7 : Nat), (∀ (Kal : List Cor), out = Kal -> ∀ (T : Nat -> AV) (ss : Sto) (tt : Sto) (e0v1 : AV), T 2 = .ptr b3 0 /\ T 3 = .ptr b7 0 -> Tau tt0 [] tt -> Fx tt ss [(b7, ⟨31, 11, [i6 a0.kind, i6 a0.id, .str a0.name, i6 a0.num, v5, i6 x19.kind, .str x19.name, i6 x19.num, sf cI x19.sc, sf Fm.cells x19.kids, e0v1]⟩), (b3, ⟨31, 11, [i6 0, i6 0, .str zB, i6 0, .Qab, i6 0, .str zB, i6 0, .Qab, .Qab, .Qab]⟩), (b1, ⟨31, 11, [i6 a0.kind, i6 a0.id, .str a0.name, i6 a0.num, sf cI a0.ids, i6 a0.data.kind, .str a0.data.name, i6 a0.data.num, sf cI a0.data.sc, sf Fm.cells a0.data.kids, sf Cor.cells a0.kids]⟩)] [⟨e0v1, 31, 11, rws Cor.cells Kal⟩, ⟨v5, 3, 1, rws cI x16⟩] -> Q (.ex 0) ⟨T, ss⟩) -> True -> ∀ (T : Nat -> AV) (ss : Sto) (tt : Sto) (z0v1 : AV), T 1 = .ptr b1 0 /\ T 2 = .ptr b3 0 /\ T 3 = .ptr b7 0 /\ T 4 = i6 Qba -> Tau tt0 [] tt -> Fx tt ss [(b7, ⟨31, 11, [i6 a0.kind, i6 a0.id, .str a0.name, i6 a0.num, v5, i6 x19.kind, .str x19.name, i6 x19.num, sf cI x19.sc, sf Fm.cells x19.kids, z0v1]⟩), (b3, ⟨31, 11, [i6 0, i6 0, .str zB, i6 0, .Qab, i6 0, .str zB, i6 0, .Qab, .Qab, .Qab]⟩), (b1, ⟨31, 11, [i6 a0.kind, i6 a0.id, .str a0.name, i6 a0.num, sf cI a0.ids, i6 a0.data.kind, .str a0.data.name, i6 a0.data.num, sf cI a0.data.sc, sf Fm.cells a0.data.kids, sf Cor.cells a0.kids]⟩)] [⟨z0v1, 31, 11, rws Cor.cells Qgh⟩, ⟨v5, 3, 1, rws cI x16⟩] -> Qbr (Qbc Tryz.prog c) Q ⟨T, ss⟩ := by
 intro a0 x16 x19 Qgh Qba
 revert Qgh Qba
 refine Qbm.partial_correctness a0 x16 x19 _ ?_
 intro Qbm IH Qgh Qba out H c hc Q tt0 b1 b3 v5 b7 hE hR T ss tt z0v1 tT hX hF
 obtain rfl := lpe (rfl : Qam Tryz.f86 0 = some _) hc
 refine Qah ?_
 have q := dum
 refine go ?_
 refine cdp H (fun h H => ?_) (fun h H => ?_)
 ·refine go ?_
  refine Qaq E0 [.v, .v, .v, .v, .v, .v, .v, .v, .v, .x, .v, .z] (by kernel_rfl) ?_
  obtain ⟨x33, f1, H⟩ := bil (g := Cor.cells) Cor.Qad H
  refine go1 ?_
  obtain ⟨x35, hx35, H⟩ := bnd H
  refine cv (Qmd x33 _ hx35) ?_
  refine go ?_
  refine Q0w (g := Cor.cells) hF 0 H (rdo (c := true) (g := Cor.cells) Cor.Qad) fun x37 H v10 s11 hF => ?_
  refine go ?_
  refine st hF 0 (hF.cells 0 rfl) fun s12 hF => ?_
  refine go ?_
  exact IH  x37 (i64.wrap (Qba + 1)) _ H _ rfl Q tt0 b1 b3 v5 b7 hE hR _ _ _ v10 S hX hF
 ·refine go ?_
  exact hE _ (pur H).symm _ _ _ z0v1 S hX hF
theorem Qng : ∀ (a0 : Cor) r, Qe2 a0 = some r -> ∀   (ss : Sto), Pre ss [] [] -> Ctr Tryz.prog 86 [.agg (Cor.cells a0)] ss (fun r' ss' => ∃ (tt' : Sto) (Knz : AV) (Kl1 : AV), r' = .agg [i6 r.kind, i6 r.id, .str r.name, i6 r.num, Knz, i6 r.data.kind, .str r.data.name, i6 r.data.num, sf cI r.data.sc, sf Fm.cells r.data.kids, Kl1] /\ Tau (strip ss []) [] tt' /\ Fx tt' ss' [] [⟨Knz, 3, 1, rws cI r.ids⟩, ⟨Kl1, 31, 11, rws Cor.cells r.kids⟩]) := by
 intro a0 r H
 intro   ss hP
 unfold Qe2 at H
 refine Qau mixed Tryz.func86 rfl (by kernel_rfl) (rs := [.cell 2 31]) rfl (by kernel_rfl) ?_
 obtain ⟨hF, hX⟩ := hP.start
 generalize strip ss [] = tt0 at hF hX ⊢
 have q := dum
 have tT := dum
 refine go ?_
 refine Qag hF rfl fun b1 ss2 hF => ?_
 refine go ?_
 refine Qag hF rfl fun b3 ss4 hF => ?_
 refine go ?_
 refine Qqn E0 [.v, .v, .v, .v, .v, .v, .v, .v, .v, .v, .v, .v, .v, .x, .v, .v, .x, .z] [0, 1, 2, 3, 4, 5, 6, 7, 8, 9, 10, 12, 13, 11, 14, 15, 16, 17] (by kernel_rfl) ?_
 refine go ?_
 have hF := hF.lit 3 1 (rws cI []) rfl
 refine Q0w (g := cI) hF 0 H (rdo (c := false) (g := cI) (fun _ => rfl)) fun x16 H v5 ss6 hF => ?_
 refine go ?_
 obtain ⟨x19, hx19, H⟩ := bnd H
 refine cv (Qh8 a0.data _ hx19) ?_
 refine go ?_
 refine Qg4 hF rfl fun b7 s8 hF => ?_
 refine go ?_
 refine st hF 0 rfl fun s9 hF => ?_
 have hF := hF.nil 31 11
 refine go ?_
 obtain ⟨o13, ho13, H⟩ := bnd H
 refine Qlr a0 x16 x19 [] 0 _ ho13 _ rfl _ tt0 b1 b3 v5 b7 ?_ ?_ _ _ _ .Qab S hX hF
 ·intro Kfj he T15 s16 t17 e14v1 tT hX hF
  have he := he.symm
  subst he
  refine go ?_
  refine st hF 1 rfl fun s18 hF => ?_
  refine go ?_
  have e := pur H; subst e
  exact rg [.agg [i6 a0.kind, i6 a0.id, .str a0.name, i6 a0.num, v5, i6 x19.kind, .str x19.name, i6 x19.num, sf cI x19.sc, sf Fm.cells x19.kids, e14v1]] ⟨_, _, _, rfl, hX, hF.pick [] [1, 0] (by decide) (by decide)⟩
 ·trivial
theorem Qnp : ∀ (a1 : Cor) (c0 : Rdr) r, Qgs a1 c0 = some r -> ∀ (e0 : Nat)  (ss : Sto), Pre ss [(e0, ⟨122, 2, [sf cU c0.b, i6 c0.p]⟩)] [] -> Ctr Tryz.prog 181 [.ptr e0 0, .agg (Cor.cells a1)] ss (fun r' ss' => ∃ (tt' : Sto), r' = .agg (Cor.cells r.1) /\ Tau (strip ss []) [(e0, ⟨122, 2, [sf cU r.2.b, i6 r.2.p]⟩)] tt' /\ Fx tt' ss' [] []) := by
 refine Qgs.partial_correctness  (motive := fun a1 c0 r => ∀ (e0 : Nat)  (ss : Sto), Pre ss [(e0, ⟨122, 2, [sf cU c0.b, i6 c0.p]⟩)] [] -> Ctr Tryz.prog 181 [.ptr e0 0, .agg (Cor.cells a1)] ss (fun r' ss' => ∃ (tt' : Sto), r' = .agg (Cor.cells r.1) /\ Tau (strip ss []) [(e0, ⟨122, 2, [sf cU r.2.b, i6 r.2.p]⟩)] tt' /\ Fx tt' ss' [] [])) ?_
 ·intro Qgs C0 a1 c0 r H
  intro e0  ss hP
  refine Qau mixed Tryz.func181 rfl (by kernel_rfl) (rs := [.cell 4 31]) rfl (by kernel_rfl) ?_
  obtain ⟨hF, hX⟩ := hP.start
  generalize strip ss [] = tt0 at hF hX ⊢
  have q := dum
  have tT := dum
  refine go ?_
  refine Qag hF rfl fun b1 ss2 hF => ?_
  refine go ?_
  refine Qag hF rfl fun b3 ss4 hF => ?_
  refine go ?_
  obtain ⟨x8, hx8, H⟩ := bnd H
  refine cx (Qng a1 _ hx8   _ (pre 0 0 0 hF hX)) ?_
  rintro _ s7 ⟨t8, v5, v6, rfl, hT, hG⟩
  obtain ⟨tt9, hX, hF⟩ := aft 0 0 0 hF hX hT hG
  refine go ?_
  refine Qag hF rfl fun b10 s11 hF => ?_
  refine go ?_
  refine st hF 0 rfl fun s12 hF => ?_
  refine go ?_
  refine gi q (fun q => ?_) (fun q => ?_)
  ·rw [if_pos (dt q)] at H
   refine go ?_
   obtain ⟨Qtl, hx15_1, H⟩ := bnd H
   refine cx (Qan 2 c0 _ hx15_1 e0  _ (pre 0 1 0 hF hX)) ?_
   rintro _ s18 ⟨t19, rfl, hT, hG⟩
   obtain ⟨tt20, hX, hF⟩ := aft 0 1 0 hF hX hT hG
   refine go ?_
   refine cdp H (fun h H => ?_) (fun h H => ?_)
   ·refine go ?_
    obtain ⟨x22, hx22, H⟩ := bnd H
    refine cx (Qan (x8.kids.length : Int) Qtl.2 _ hx22 e0  _ (pre 0 1 0 hF hX)) ?_
    rintro _ s21 ⟨t22, rfl, hT, hG⟩
    obtain ⟨t23, hX, hF⟩ := aft 0 1 0 hF hX hT hG
    refine go ?_
    obtain ⟨E, hEq⟩ : ∃ E, E = EE s21 [e0] := ⟨_, rfl⟩
    have n24 : ¬ E b10 := by rw [hEq]; exact EE.not (hF.at 0 rfl) (by simp only [List.mem_cons, List.not_mem_nil, or_false, not_or]; exact neX hF 0 rfl hX 0 rfl)
    have n25 : ¬ E b3 := by rw [hEq]; exact EE.not (hF.at 1 rfl) (by simp only [List.mem_cons, List.not_mem_nil, or_false, not_or]; exact neX hF 1 rfl hX 0 rfl)
    have n26 : ¬ E b1 := by rw [hEq]; exact EE.not (hF.at 2 rfl) (by simp only [List.mem_cons, List.not_mem_nil, or_false, not_or]; exact neX hF 2 rfl hX 0 rfl)
    refine Qaq E [.v, .v, .v, .v, .v, .v, .v, .v, .x, .x, .v, .z] (by kernel_rfl) ?_
    have z := And.intro (Qaf (hF.at 0 rfl) n24) (And.intro (Qaf (hF.at 1 rfl) n25) (Qaf (hF.at 2 rfl) n26)); refine gh ?_
    obtain ⟨x30, hx30, H⟩ := bnd H
    obtain ⟨b27, k28, hv⟩ := hF.ref 1 rfl hx30
    subst hv
    try simp only [go_sem, ↓reduceIte, Nat.reduceEqDiff, Nat.reduceAdd, Nat.reduceMul, Nat.reduceLeDiff, Nat.reduceLT, Int.reduceEq, Int.toNat_natCast, q, tT, hF.f, hF.m, hF.x hX, Qaf (hF.at 0 rfl) n24, Qaf (hF.at 1 rfl) n25, Qaf (hF.at 2 rfl) n26, Q4r (l := x8.kids) rfl hx30, Q9d hF 1 (p := x22.1.toNat * 11) (sz := 11) (ag := true) (k := 11) (o := 0) (g := Cor.cells) (x := x30) (i := x22.1) (v := (.agg [i6 x30.kind, i6 x30.id, .str x30.name, i6 x30.num, sf cI x30.ids, i6 x30.data.kind, .str x30.data.name, i6 x30.data.num, sf cI x30.data.sc, sf Fm.cells x30.data.kids, sf Cor.cells x30.kids])) (by first | rfl | simp) Cor.Qad rfl hx30 (by decide) (by first | rfl | (simp only [sf, i6, zB, cI, cU, cS, cL, cB, Cor.Qaa, Fm.Qaa]; rfl))]
    obtain ⟨x32, hx32, H⟩ := bnd H
    refine cx (C0 x30 x22.2 _ hx32 e0  _ (pre 0 1 0 hF hX)) ?_
    rintro _ s29 ⟨t30, rfl, hT, hG⟩
    refine Qke (Fx.kept hT hG (by intro p hp; simp only [List.mem_cons, List.not_mem_nil, or_false] at hp <;> first | (rcases hp with rfl <;> (rw [hEq]; first | (refine EE.of ?_; simp; done) | exact EE.new rfl))| cases hp)) fun kp32 => ?_
    obtain ⟨tt31, hX, hF⟩ := aft 0 1 0 hF hX hT hG
    obtain ⟨x33, hx33, H⟩ := bnd H
    try simp only [go_sem, ↓reduceIte, Nat.reduceEqDiff, Nat.reduceAdd, Nat.reduceMul, Nat.reduceLeDiff, Nat.reduceLT, Int.reduceEq, Int.toNat_natCast, q, tT, hF.f, hF.m, hF.x hX, Qaf (hF.at 0 rfl) n24, Qaf (hF.at 1 rfl) n25, Qaf (hF.at 2 rfl) n26, Q4r (l := x8.kids) ((Q5s hF 1 rfl).1.trans (Qgv _)) hx33]
    refine Kho hF 1 (o := 0) (sz := 11) (k := 11) (v := (.agg [i6 x32.1.kind, i6 x32.1.id, .str x32.1.name, i6 x32.1.num, sf cI x32.1.ids, i6 x32.1.data.kind, .str x32.1.data.name, i6 x32.1.data.num, sf cI x32.1.data.sc, sf Fm.cells x32.1.data.kids, sf Cor.cells x32.1.kids])) (cs := [i6 x32.1.kind, i6 x32.1.id, .str x32.1.name, i6 x32.1.num, sf cI x32.1.ids, i6 x32.1.data.kind, .str x32.1.data.name, i6 x32.1.data.num, sf cI x32.1.data.sc, sf Fm.cells x32.1.data.kids, sf Cor.cells x32.1.kids]) (g := Cor.cells) (i := x22.1) x32.1 Cor.Qad (by first | rfl | simp) rfl hx33 rfl rfl (by decide) (by first | rfl | simp [Qmy, cI, cU, cS, cL, cB, Cor.Qaa, Fm.Qaa]) fun s33 hF => ?_
    have hF : Fx tt31 s33 [(b10, ⟨31, 11, [i6 x8.kind, i6 x8.id, .str x8.name, i6 x8.num, v5, i6 x8.data.kind, .str x8.data.name, i6 x8.data.num, sf cI x8.data.sc, sf Fm.cells x8.data.kids, .ref b27 x8.kids.length k28]⟩), (b3, ⟨31, 11, [i6 0, i6 0, .str zB, i6 0, .Qab, i6 0, .str zB, i6 0, .Qab, .Qab, .Qab]⟩), (b1, ⟨31, 11, [i6 a1.kind, i6 a1.id, .str a1.name, i6 a1.num, sf cI a1.ids, i6 a1.data.kind, .str a1.data.name, i6 a1.data.num, sf cI a1.data.sc, sf Fm.cells a1.data.kids, sf Cor.cells a1.kids]⟩)] [⟨v5, 3, 1, rws cI x8.ids⟩, ⟨.ref b27 x8.kids.length k28, 31, 11, rws Cor.cells (x8.kids.set x22.1.toNat x32.1)⟩] := hF
    have z := And.intro (Qaf (hF.at 0 rfl) n24) (And.intro (Qaf (hF.at 1 rfl) n25) (Qaf (hF.at 2 rfl) n26)); refine gh ?_
    refine go ?_
    refine st hF 1 rfl fun s34 hF => ?_
    refine go ?_
    have e := pur H; subst e
    exact rg [.agg [i6 x8.kind, i6 x8.id, .str x8.name, i6 x8.num, v5, i6 x8.data.kind, .str x8.data.name, i6 x8.data.num, sf cI x8.data.sc, sf Fm.cells x8.data.kids, .ref b27 x8.kids.length k28]] ⟨_, rfl, hX, Fx.self _⟩
   ·refine go ?_
    obtain ⟨x36, hx36, H⟩ := bnd H
    refine cx (Qan 12 Qtl.2 _ hx36 e0  _ (pre 0 1 0 hF hX)) ?_
    rintro _ s35 ⟨t36, rfl, hT, hG⟩
    obtain ⟨tt37, hX, hF⟩ := aft 0 1 0 hF hX hT hG
    refine go ?_
    refine cdp H (fun h H => ?_) (fun h H => ?_)
    ·refine go ?_
     obtain ⟨x41, hx41, H⟩ := bnd H
     refine cx (Qa6 [0, 8, 3, 6] x36.2 _ hx41 e0  _ (pre 0 1 0 hF hX)) ?_
     rintro _ s38 ⟨t39, rfl, hT, hG⟩
     obtain ⟨t40, hX, hF⟩ := aft 0 1 0 hF hX hT hG
     refine go ?_
     refine st hF 0 rfl fun s41 hF => ?_
     refine go ?_
     refine st hF 1 rfl fun s42 hF => ?_
     refine go ?_
     have e := pur H; subst e
     exact rg [.agg [i6 x41.1, i6 x8.id, .str x8.name, i6 x8.num, v5, i6 x8.data.kind, .str x8.data.name, i6 x8.data.num, sf cI x8.data.sc, sf Fm.cells x8.data.kids, v6]] ⟨_, rfl, hX, Fx.self _⟩
    ·refine go ?_
     refine cdp H (fun h H => ?_) (fun h H => ?_)
     ·refine go ?_
      obtain ⟨x47, hx47, H⟩ := bnd H
      refine cx (Qa6 [0, 1, 1000, 2] x36.2 _ hx47 e0  _ (pre 0 1 0 hF hX)) ?_
      rintro _ s43 ⟨t44, rfl, hT, hG⟩
      obtain ⟨t45, hX, hF⟩ := aft 0 1 0 hF hX hT hG
      refine go ?_
      refine st hF 0 rfl fun s46 hF => ?_
      refine go ?_
      refine st hF 1 rfl fun s47 hF => ?_
      refine go ?_
      have e := pur H; subst e
      exact rg [.agg [i6 x8.kind, i6 x47.1, .str x8.name, i6 x8.num, v5, i6 x8.data.kind, .str x8.data.name, i6 x8.data.num, sf cI x8.data.sc, sf Fm.cells x8.data.kids, v6]] ⟨_, rfl, hX, Fx.self _⟩
     ·refine go ?_
      refine cdp H (fun h H => ?_) (fun h H => ?_)
      ·refine go ?_
       obtain ⟨E, hEq⟩ : ∃ E, E = EE s35 [e0] := ⟨_, rfl⟩
       have n48 : ¬ E b10 := by rw [hEq]; exact EE.not (hF.at 0 rfl) (by simp only [List.mem_cons, List.not_mem_nil, or_false, not_or]; exact neX hF 0 rfl hX 0 rfl)
       have n49 : ¬ E b3 := by rw [hEq]; exact EE.not (hF.at 1 rfl) (by simp only [List.mem_cons, List.not_mem_nil, or_false, not_or]; exact neX hF 1 rfl hX 0 rfl)
       have n50 : ¬ E b1 := by rw [hEq]; exact EE.not (hF.at 2 rfl) (by simp only [List.mem_cons, List.not_mem_nil, or_false, not_or]; exact neX hF 2 rfl hX 0 rfl)
       refine Qaq E [.v, .v, .v, .v, .x, .v, .x, .v, .z] (by kernel_rfl) ?_
       have z := And.intro (Qaf (hF.at 0 rfl) n48) (And.intro (Qaf (hF.at 1 rfl) n49) (Qaf (hF.at 2 rfl) n50)); refine gh ?_
       obtain ⟨x55, hx55, H⟩ := bnd H
       refine cx (Qa6 [1, 900, 0] x36.2 _ hx55 e0  _ (pre 0 1 0 hF hX)) ?_
       rintro _ s51 ⟨t52, rfl, hT, hG⟩
       refine Qke (Fx.kept hT hG (by intro p hp; simp only [List.mem_cons, List.not_mem_nil, or_false] at hp <;> first | (rcases hp with rfl <;> (rw [hEq]; first | (refine EE.of ?_; simp; done) | exact EE.new rfl))| cases hp)) fun kp54 => ?_
       obtain ⟨tt53, hX, hF⟩ := aft 0 1 0 hF hX hT hG
       have z := And.intro (Qaf (hF.at 0 rfl) n48) (And.intro (Qaf (hF.at 1 rfl) n49) (Qaf (hF.at 2 rfl) n50)); refine gh ?_
       refine Q0w (g := cI) hF 0 H (rdo (c := true) (g := cI) (fun _ => rfl)) fun x57 H v55 s56 hF => ?_
       have z := And.intro (Qaf (hF.at 0 rfl) n48) (And.intro (Qaf (hF.at 1 rfl) n49) (Qaf (hF.at 2 rfl) n50)); refine gh ?_
       refine st hF 0 (hF.cells 0 rfl) fun s57 hF => ?_
       have z := And.intro (Qaf (hF.at 0 rfl) n48) (And.intro (Qaf (hF.at 1 rfl) n49) (Qaf (hF.at 2 rfl) n50)); refine gh ?_
       refine go ?_
       refine st hF 1 rfl fun s58 hF => ?_
       refine go ?_
       have e := pur H; subst e
       exact rg [.agg [i6 x8.kind, i6 x8.id, .str x8.name, i6 x8.num, v55, i6 x8.data.kind, .str x8.data.name, i6 x8.data.num, sf cI x8.data.sc, sf Fm.cells x8.data.kids, v6]] ⟨_, rfl, hX, Fx.self _⟩
      ·refine go ?_
       refine cdp H (fun h H => ?_) (fun h H => ?_)
       ·refine go ?_
        obtain ⟨x63, hx63, H⟩ := bnd H
        refine cx (Qc1 [zB, (ByteArray.mk #[103]), (ByteArray.mk #[65])] x36.2 _ hx63 e0  _ (pre 0 1 0 hF hX)) ?_
        rintro _ s59 ⟨t60, rfl, hT, hG⟩
        obtain ⟨t61, hX, hF⟩ := aft 0 1 0 hF hX hT hG
        refine go ?_
        refine st hF 0 rfl fun s62 hF => ?_
        refine go ?_
        refine st hF 1 rfl fun s63 hF => ?_
        refine go ?_
        have e := pur H; subst e
        exact rg [.agg [i6 x8.kind, i6 x8.id, .str x63.1, i6 x8.num, v5, i6 x8.data.kind, .str x8.data.name, i6 x8.data.num, sf cI x8.data.sc, sf Fm.cells x8.data.kids, v6]] ⟨_, rfl, hX, Fx.self _⟩
       ·refine go ?_
        refine st hF 1 rfl fun s64 hF => ?_
        refine go ?_
        have e := pur H; subst e
        exact rg [.agg [i6 x8.kind, i6 x8.id, .str x8.name, i6 x8.num, v5, i6 x8.data.kind, .str x8.data.name, i6 x8.data.num, sf cI x8.data.sc, sf Fm.cells x8.data.kids, v6]] ⟨_, rfl, hX, Fx.self _⟩
  ·rw [if_neg (df q)] at H
   refine go ?_
   obtain ⟨Qmz, hx36_1, H⟩ := bnd H
   refine cx (Qan 12 c0 _ hx36_1 e0  _ (pre 0 1 0 hF hX)) ?_
   rintro _ s65 ⟨t66, rfl, hT, hG⟩
   obtain ⟨t67, hX, hF⟩ := aft 0 1 0 hF hX hT hG
   refine go ?_
   refine cdp H (fun h H => ?_) (fun h H => ?_)
   ·refine go ?_
    obtain ⟨Qr0, hx41_1, H⟩ := bnd H
    refine cx (Qa6 [0, 8, 3, 6] Qmz.2 _ hx41_1 e0  _ (pre 0 1 0 hF hX)) ?_
    rintro _ s68 ⟨t69, rfl, hT, hG⟩
    obtain ⟨tt70, hX, hF⟩ := aft 0 1 0 hF hX hT hG
    refine go ?_
    refine st hF 0 rfl fun s71 hF => ?_
    refine go ?_
    refine st hF 1 rfl fun s72 hF => ?_
    refine go ?_
    have e := pur H; subst e
    exact rg [.agg [i6 Qr0.1, i6 x8.id, .str x8.name, i6 x8.num, v5, i6 x8.data.kind, .str x8.data.name, i6 x8.data.num, sf cI x8.data.sc, sf Fm.cells x8.data.kids, v6]] ⟨_, rfl, hX, Fx.self _⟩
   ·refine go ?_
    refine cdp H (fun h H => ?_) (fun h H => ?_)
    ·refine go ?_
     obtain ⟨Ke6, hx47_1, H⟩ := bnd H
     refine cx (Qa6 [0, 1, 1000, 2] Qmz.2 _ hx47_1 e0  _ (pre 0 1 0 hF hX)) ?_
     rintro _ s73 ⟨t74, rfl, hT, hG⟩
     obtain ⟨tt75, hX, hF⟩ := aft 0 1 0 hF hX hT hG
     refine go ?_
     refine st hF 0 rfl fun s76 hF => ?_
     refine go ?_
     refine st hF 1 rfl fun s77 hF => ?_
     refine go ?_
     have e := pur H; subst e
     exact rg [.agg [i6 x8.kind, i6 Ke6.1, .str x8.name, i6 x8.num, v5, i6 x8.data.kind, .str x8.data.name, i6 x8.data.num, sf cI x8.data.sc, sf Fm.cells x8.data.kids, v6]] ⟨_, rfl, hX, Fx.self _⟩
    ·refine go ?_
     refine cdp H (fun h H => ?_) (fun h H => ?_)
     ·refine go ?_
      obtain ⟨E, hEq⟩ : ∃ E, E = EE s65 [e0] := ⟨_, rfl⟩
      have n78 : ¬ E b10 := by rw [hEq]; exact EE.not (hF.at 0 rfl) (by simp only [List.mem_cons, List.not_mem_nil, or_false, not_or]; exact neX hF 0 rfl hX 0 rfl)
      have n79 : ¬ E b3 := by rw [hEq]; exact EE.not (hF.at 1 rfl) (by simp only [List.mem_cons, List.not_mem_nil, or_false, not_or]; exact neX hF 1 rfl hX 0 rfl)
      have n80 : ¬ E b1 := by rw [hEq]; exact EE.not (hF.at 2 rfl) (by simp only [List.mem_cons, List.not_mem_nil, or_false, not_or]; exact neX hF 2 rfl hX 0 rfl)
      refine Qaq E [.v, .v, .v, .v, .x, .v, .x, .v, .z] (by kernel_rfl) ?_
      have z := And.intro (Qaf (hF.at 0 rfl) n78) (And.intro (Qaf (hF.at 1 rfl) n79) (Qaf (hF.at 2 rfl) n80)); refine gh ?_
      obtain ⟨Ki4, hx55_1, H⟩ := bnd H
      refine cx (Qa6 [1, 900, 0] Qmz.2 _ hx55_1 e0  _ (pre 0 1 0 hF hX)) ?_
      rintro _ s81 ⟨t82, rfl, hT, hG⟩
      refine Qke (Fx.kept hT hG (by intro p hp; simp only [List.mem_cons, List.not_mem_nil, or_false] at hp <;> first | (rcases hp with rfl <;> (rw [hEq]; first | (refine EE.of ?_; simp; done) | exact EE.new rfl))| cases hp)) fun kp84 => ?_
      obtain ⟨t83, hX, hF⟩ := aft 0 1 0 hF hX hT hG
      have z := And.intro (Qaf (hF.at 0 rfl) n78) (And.intro (Qaf (hF.at 1 rfl) n79) (Qaf (hF.at 2 rfl) n80)); refine gh ?_
      refine Q0w (g := cI) hF 0 H (rdo (c := true) (g := cI) (fun _ => rfl)) fun Q4l H v85 s86 hF => ?_
      have z := And.intro (Qaf (hF.at 0 rfl) n78) (And.intro (Qaf (hF.at 1 rfl) n79) (Qaf (hF.at 2 rfl) n80)); refine gh ?_
      refine st hF 0 (hF.cells 0 rfl) fun s87 hF => ?_
      have z := And.intro (Qaf (hF.at 0 rfl) n78) (And.intro (Qaf (hF.at 1 rfl) n79) (Qaf (hF.at 2 rfl) n80)); refine gh ?_
      refine go ?_
      refine st hF 1 rfl fun s88 hF => ?_
      refine go ?_
      have e := pur H; subst e
      exact rg [.agg [i6 x8.kind, i6 x8.id, .str x8.name, i6 x8.num, v85, i6 x8.data.kind, .str x8.data.name, i6 x8.data.num, sf cI x8.data.sc, sf Fm.cells x8.data.kids, v6]] ⟨_, rfl, hX, Fx.self _⟩
     ·refine go ?_
      refine cdp H (fun h H => ?_) (fun h H => ?_)
      ·refine go ?_
       obtain ⟨Kfc, hx63_1, H⟩ := bnd H
       refine cx (Qc1 [zB, (ByteArray.mk #[103]), (ByteArray.mk #[65])] Qmz.2 _ hx63_1 e0  _ (pre 0 1 0 hF hX)) ?_
       rintro _ s89 ⟨t90, rfl, hT, hG⟩
       obtain ⟨t91, hX, hF⟩ := aft 0 1 0 hF hX hT hG
       refine go ?_
       refine st hF 0 rfl fun s92 hF => ?_
       refine go ?_
       refine st hF 1 rfl fun s93 hF => ?_
       refine go ?_
       have e := pur H; subst e
       exact rg [.agg [i6 x8.kind, i6 x8.id, .str Kfc.1, i6 x8.num, v5, i6 x8.data.kind, .str x8.data.name, i6 x8.data.num, sf cI x8.data.sc, sf Fm.cells x8.data.kids, v6]] ⟨_, rfl, hX, Fx.self _⟩
      ·refine go ?_
       refine st hF 1 rfl fun s94 hF => ?_
       refine go ?_
       have e := pur H; subst e
       exact rg [.agg [i6 x8.kind, i6 x8.id, .str x8.name, i6 x8.num, v5, i6 x8.data.kind, .str x8.data.name, i6 x8.data.num, sf cI x8.data.sc, sf Fm.cells x8.data.kids, v6]] ⟨_, rfl, hX, Fx.self _⟩
theorem Qpm : ∀ (a0 : List Int) r, Qj5 a0 = some r -> Qb0 Tryz.prog 137 [sf cU a0] (.agg (Cor.cells r)) := by
 intro a0 r H
 intro ss
 unfold Qj5 at H
 refine Qau mixed Tryz.func137 rfl (by kernel_rfl) (rs := [.cell 2 31]) rfl (by kernel_rfl) ?_
 have hF := Fx.refl ss
 have hX := Tau.none ss
 have q := dum
 have tT := dum
 refine go ?_
 refine Qag hF rfl fun b1 ss2 hF => ?_
 refine go ?_
 obtain ⟨x7, hx7, H⟩ := bnd H
 refine cx (Qjs a0 _ hx7   _ (pre 0 0 0 hF hX)) ?_
 rintro _ ss4 ⟨tt5, b3, rfl, hT, hG⟩
 have nw7 : ss2.var b3 = none := (hT.off b3 (by simp)).symm.trans (hG.var _ (List.mem_cons_self ..)).2.1
 have hF := Qxq 0 0 hF hX hT hG
 refine go ?_
 obtain ⟨x13, hx13, H⟩ := bnd H
 refine cx (Qa6 [3, 4, 2] x7 _ hx13 b3  _ (pre 1 0 0 hF hX)) ?_
 rintro _ s8 ⟨tt9, rfl, hT, hG⟩
 have hF := Qxq 1 0 hF hX hT hG
 refine go ?_
 obtain ⟨x14, hx14, H⟩ := bnd H
 refine cx (Qyk [] x13.1 0 x13.2 _ hx14 b3  _ (pre 1 0 0 hF hX)) ?_
 rintro _ s11 ⟨t12, rfl, hT, hG⟩
 have hF := Qxq 1 0 hF hX hT hG
 refine go ?_
 refine Qag hF rfl fun b14 s15 hF => ?_
 refine go ?_
 refine st hF 0 rfl fun s16 hF => ?_
 refine go ?_
 have hF := pck hF [1, 0, 2] []
 obtain ⟨x18, hx18, H⟩ := bnd H
 refine cx (Qan 8 x14.2.2 _ hx18 b3  _ (pre 1 0 0 hF hX)) ?_
 rintro _ s17 ⟨t18, rfl, hT, hG⟩
 have hF := Qxq 1 0 hF hX hT hG
 refine go ?_
 refine cdp H (fun h H => ?_) (fun h H => ?_)
 ·refine go ?_
  obtain ⟨x23, hx23, H⟩ := bnd H
  refine cx (Qnp x14.1 x18.2 _ hx23 b3  _ (pre 1 0 0 hF hX)) ?_
  rintro _ s20 ⟨t21, rfl, hT, hG⟩
  have hF := Qxq 1 0 hF hX hT hG
  refine go ?_
  obtain ⟨x24, hx24, H⟩ := bnd H
  refine cx (Qnp x23.1 x23.2 _ hx24 b3  _ (pre 1 0 0 hF hX)) ?_
  rintro _ s23 ⟨t24, rfl, hT, hG⟩
  have hF := Qxq 1 0 hF hX hT hG
  refine go ?_
  refine st hF 2 rfl fun s26 hF => ?_
  refine go ?_
  have e := pur H; subst e
  exact rt [.agg [i6 x24.1.kind, i6 x24.1.id, .str x24.1.name, i6 x24.1.num, sf cI x24.1.ids, i6 x24.1.data.kind, .str x24.1.data.name, i6 x24.1.data.num, sf cI x24.1.data.sc, sf Fm.cells x24.1.data.kids, sf Cor.cells x24.1.kids]]
 ·refine go ?_
  refine st hF 2 rfl fun s27 hF => ?_
  refine go ?_
  have e := pur H; subst e
  exact rt [.agg [i6 x14.1.kind, i6 x14.1.id, .str x14.1.name, i6 x14.1.num, sf cI x14.1.ids, i6 x14.1.data.kind, .str x14.1.data.name, i6 x14.1.data.num, sf cI x14.1.data.sc, sf Fm.cells x14.1.data.kids, sf Cor.cells x14.1.kids]]
theorem Qw1 : ∀  r, Ql2  = some r -> Qb0 Tryz.prog 183 [] (sf cS r) := by
 intro  r H
 intro ss
 unfold Ql2 at H
 refine Qau mixed Tryz.func183 rfl (by kernel_rfl) (rs := [.tmp 0]) rfl (by kernel_rfl) ?_
 have hF := Fx.refl ss
 have hX := Tau.none ss
 have q := dum
 have tT := dum
 refine goL ?_
 have e := pur H; subst e
 exact rt [.sl true (rws cS [(ByteArray.mk #[40, 40, 108, 97, 109, 98, 100, 97, 32, 40, 120, 32, 121, 41, 32, 40, 108, 105, 115, 116, 32, 121, 32, 120, 41, 41, 32, 49, 32, 50, 41]), (ByteArray.mk #[40, 108, 101, 116, 32, 40, 40, 102, 32, 40, 108, 97, 109, 98, 100, 97, 32, 40, 120, 41, 32, 40, 43, 32, 120, 32, 49, 41, 41, 41, 41, 32, 40, 102, 32, 40, 102, 32, 53, 41, 41, 41]), (ByteArray.mk #[40, 105, 102, 32, 48, 32, 49, 32, 40, 113, 117, 111, 116, 101, 32, 40, 97, 32, 40, 98, 41, 32, 51, 41, 41, 41]), (ByteArray.mk #[40, 104, 101, 97, 100, 32, 40, 116, 97, 105, 108, 32, 40, 108, 105, 115, 116, 32, 49, 32, 50, 32, 51, 41, 41, 41]), (ByteArray.mk #[40, 108, 101, 116, 45, 115, 121, 110, 116, 97, 120, 32, 40, 40, 111, 114, 32, 40, 114, 117, 108, 101, 115, 32, 40, 41, 32, 40, 40, 95, 41, 32, 48, 41, 32, 40, 40, 95, 32, 97, 32, 98, 32, 46, 46, 46, 41, 32, 40, 108, 101, 116, 32, 40, 40, 116, 32, 97, 41, 41, 32, 40, 105, 102, 32, 116, 32, 116, 32, 40, 111, 114, 32, 98, 32, 46, 46, 46, 41, 41, 41, 41, 41, 41, 41, 32, 40, 108, 101, 116, 32, 40, 40, 116, 32, 53, 41, 41, 32, 40, 111, 114, 32, 48, 32, 116, 41, 41, 41]), (ByteArray.mk #[40, 40, 108, 97, 109, 98, 100, 97, 32, 40, 119, 41, 32, 40, 119, 32, 119, 41, 41, 32, 40, 108, 97, 109, 98, 100, 97, 32, 40, 119, 41, 32, 40, 119, 32, 119, 41, 41, 41]), (ByteArray.mk #[40, 49, 32, 50, 41]), (ByteArray.mk #[40, 40, 108, 97, 109, 98, 100, 97, 32, 40, 120, 41, 32, 120, 41, 41]), (ByteArray.mk #[40, 43, 32, 49, 32, 108, 105, 115, 116, 41]), (ByteArray.mk #[40, 108, 101, 116, 32, 40, 40, 103, 32, 40, 108, 97, 109, 98, 100, 97, 32, 40, 104, 41, 32, 40, 108, 97, 109, 98, 100, 97, 32, 40, 120, 41, 32, 40, 104, 32, 40, 104, 32, 120, 41, 41, 41, 41, 41, 41, 32, 40, 40, 103, 32, 40, 108, 97, 109, 98, 100, 97, 32, 40, 110, 41, 32, 40, 43, 32, 110, 32, 110, 41, 41, 41, 32, 51, 41, 41]), (ByteArray.mk #[117, 110, 107, 110, 111, 119, 110]), (ByteArray.mk #[40, 108, 105, 115, 116, 32, 40, 60, 32, 49, 32, 50, 41, 32, 40, 61, 32, 49, 32, 50, 41, 32, 40, 108, 97, 109, 98, 100, 97, 32, 40, 120, 41, 32, 120, 41, 32, 108, 105, 115, 116, 41])])]
theorem Qso : ∀ (a0 : ByteArray) (Qgu : Int) out, Qfe a0 Qgu = some out -> ∀ c, Qam Tryz.f191 0 = some c -> ∀ (Q : AX -> AS -> Prop) (tt : Sto), (∀ (Qvv : Int), out = Qvv -> ∀ (T : Nat -> AV) (ss : Sto), T 1 = i6 Qvv -> Fx tt ss [] [] -> Q (.ex 0) ⟨T, ss⟩) -> True -> ∀ (T : Nat -> AV) (ss : Sto), T 0 = .str a0 /\ T 1 = i6 Qgu -> Fx tt ss [] [] -> Qbr (Qbc Tryz.prog c) Q ⟨T, ss⟩ := by
 intro a0 Qgu
 revert Qgu
 refine Qfe.partial_correctness a0 _ ?_
 intro Qfe IH Qgu out H c hc Q tt  hE hR T ss tT hF
 obtain rfl := lpe (rfl : Qam Tryz.f191 0 = some _) hc
 refine Qah ?_
 have q := dum
 have hX := Tau.none tt
 refine go ?_
 obtain ⟨x14, g1, H⟩ := bnd H
 refine Qai 4 10 14 (.bool x14) (gi q (fun q => ?_) (fun q => ?_)) (fun J => ?_)
 ·rw [if_pos (dt q)] at g1
  obtain ⟨x12, f1, g1⟩ := bsx g1
  refine go1 ?_
  refine go ?_
  exact Qaw 10 g1
 ·rw [if_neg (df q)] at g1
  refine go ?_
  exact Qaw 10 g1
 refine go ?_
 refine cdb H (fun h H => ?_) (fun h H => ?_)
 ·refine go ?_
  exact IH  (i64.wrap (Qgu + 1)) _ H _ rfl Q tt  hE hR _ _  S hF
 ·refine go ?_
  exact hE _ (pur H).symm _ _  S hF
theorem Qka : ∀ (a0 : ByteArray) (a1 : Int) r, Qin a0 a1 = some r -> Qb0 Tryz.prog 191 [.str a0, i6 a1] (i6 r) := by
 intro a0 a1 r H
 intro ss
 unfold Qin at H
 refine Qau mixed Tryz.func191 rfl (by kernel_rfl) (rs := [.tmp 4]) rfl (by kernel_rfl) ?_
 have hF := Fx.refl ss
 have hX := Tau.none ss
 have q := dum
 have tT := dum
 refine go ?_
 obtain ⟨o3, ho3, H⟩ := bnd H
 refine Qso a0 a1 _ ho3 _ rfl _ _  ?_ ?_ _ _  S hF
 ·intro Kg1 he T5 ss6 tT hF
  have he := he.symm
  subst he
  refine go ?_
  have e := pur H; subst e
  exact rt [i6 Kg1]
 ·trivial
theorem Qsp : ∀ (a0 : ByteArray) (Qgu : Int) out, Qff a0 Qgu = some out -> ∀ c, Qam Tryz.f275 0 = some c -> ∀ (Q : AX -> AS -> Prop) (tt : Sto), (∀ (Qvv : Int), out = Qvv -> ∀ (T : Nat -> AV) (ss : Sto), T 1 = i6 Qvv -> Fx tt ss [] [] -> Q (.ex 0) ⟨T, ss⟩) -> True -> ∀ (T : Nat -> AV) (ss : Sto), T 0 = .str a0 /\ T 1 = i6 Qgu -> Fx tt ss [] [] -> Qbr (Qbc Tryz.prog c) Q ⟨T, ss⟩ := by
 intro a0 Qgu
 revert Qgu
 refine Qff.partial_correctness a0 _ ?_
 intro Qff IH Qgu out H c hc Q tt  hE hR T ss tT hF
 obtain rfl := lpe (rfl : Qam Tryz.f275 0 = some _) hc
 refine Qah ?_
 have q := dum
 have hX := Tau.none tt
 refine go ?_
 obtain ⟨x14, g1, H⟩ := bnd H
 refine Qai 4 10 14 (.bool x14) (gi q (fun q => ?_) (fun q => ?_)) (fun J => ?_)
 ·rw [if_pos (dt q)] at g1
  obtain ⟨x12, f1, g1⟩ := bsx g1
  refine go1 ?_
  refine go ?_
  exact Qaw 10 g1
 ·rw [if_neg (df q)] at g1
  refine go ?_
  exact Qaw 10 g1
 refine go ?_
 obtain ⟨x20, g3, H⟩ := bnd H
 refine Qai 4 16 20 (.bool x20) (gi q (fun q => ?_) (fun q => ?_)) (fun J => ?_)
 ·rw [if_pos (dbt q)] at g3
  obtain ⟨x18, f1, g3⟩ := bsx g3
  refine go1 ?_
  refine go ?_
  exact Qaw 16 g3
 ·rw [if_neg (dbf q)] at g3
  refine go ?_
  exact Qaw 16 g3
 refine go ?_
 obtain ⟨x26, g5, H⟩ := bnd H
 refine Qai 4 22 26 (.bool x26) (gi q (fun q => ?_) (fun q => ?_)) (fun J => ?_)
 ·rw [if_pos (dbt q)] at g5
  obtain ⟨x24, f1, g5⟩ := bsx g5
  refine go1 ?_
  refine go ?_
  exact Qaw 22 g5
 ·rw [if_neg (dbf q)] at g5
  refine go ?_
  exact Qaw 22 g5
 refine go ?_
 obtain ⟨x32, g7, H⟩ := bnd H
 refine Qai 4 28 32 (.bool x32) (gi q (fun q => ?_) (fun q => ?_)) (fun J => ?_)
 ·rw [if_pos (dbt q)] at g7
  obtain ⟨x30, f1, g7⟩ := bsx g7
  refine go1 ?_
  refine go ?_
  exact Qaw 28 g7
 ·rw [if_neg (dbf q)] at g7
  refine go ?_
  exact Qaw 28 g7
 refine go ?_
 refine cdb H (fun h H => ?_) (fun h H => ?_)
 ·refine go ?_
  exact IH  (i64.wrap (Qgu + 1)) _ H _ rfl Q tt  hE hR _ _  S hF
 ·refine go ?_
  exact hE _ (pur H).symm _ _  S hF
theorem Qx6 : ∀ (a0 : ByteArray) (a1 : Int) r, Qk9 a0 a1 = some r -> Qb0 Tryz.prog 275 [.str a0, i6 a1] (i6 r) := by
 intro a0 a1 r H
 intro ss
 unfold Qk9 at H
 refine Qau mixed Tryz.func275 rfl (by kernel_rfl) (rs := [.tmp 4]) rfl (by kernel_rfl) ?_
 have hF := Fx.refl ss
 have hX := Tau.none ss
 have q := dum
 have tT := dum
 refine go ?_
 obtain ⟨o9, ho9, H⟩ := bnd H
 refine Qsp a0 a1 _ ho9 _ rfl _ _  ?_ ?_ _ _  S hF
 ·intro Kan he T11 s12 tT hF
  have he := he.symm
  subst he
  refine go ?_
  have e := pur H; subst e
  exact rt [i6 Kan]
 ·trivial
theorem Qsk : ∀ (x14 : Bool) (Qnj : ByteArray) (Qaj : Int) (Qa7 : Int) out, Qfa x14 Qnj Qaj Qa7 = some out -> ∀ c, Qam Tryz.f276 0 = some c -> ∀ (Q : AX -> AS -> Prop) (tt : Sto), (∀ (Qvw : Int), out = Sum.inr Qvw -> ∀ (T : Nat -> AV) (ss : Sto), T 4 = .bool x14 /\ T 5 = i6 Qvw -> Fx tt ss [] [] -> Q (.ex 0) ⟨T, ss⟩) -> (∀ r, out = Sum.inl r -> ∀ s', Qkk Tryz.prog [.tmp 2, .tmp 3] (fun r' ss' => r' = .tup [i6 r.1, .bool r.2] /\ ss' = tt) s' -> Q .ret s') -> ∀ (T : Nat -> AV) (ss : Sto), T 0 = .str Qnj /\ T 4 = .bool x14 /\ T 5 = i6 Qaj /\ T 6 = i6 Qa7 -> Fx tt ss [] [] -> Qbr (Qbc Tryz.prog c) Q ⟨T, ss⟩ := by
 intro x14 Qnj Qaj Qa7
 revert Qaj Qa7
 refine Qfa.partial_correctness x14 Qnj _ ?_
 intro Qfa IH Qaj Qa7 out H c hc Q tt  hE hR T ss tT hF
 obtain rfl := lpe (rfl : Qam Tryz.f276 0 = some _) hc
 refine Qah ?_
 have q := dum
 have hX := Tau.none tt
 refine go ?_
 refine cdp H (fun h H => ?_) (fun h H => ?_)
 ·obtain ⟨x47, f1, H⟩ := bsx H
  refine go1 ?_
  obtain ⟨x54, g16, H⟩ := bnd H
  refine Qai 4 50 54 (.bool x54) (giN q (fun q => ?_) (fun q => ?_)) (fun J => ?_)
  ·rw [if_neg (df q)] at g16
   obtain ⟨x52, f1, g16⟩ := bsx g16
   refine go1 ?_
   refine go ?_
   exact Qaw 50 g16
  ·rw [if_pos (dt q)] at g16
   refine go ?_
   exact Qaw 50 g16
  refine go ?_
  refine cdb H (fun h H => ?_) (fun h H => ?_)
  ·refine go ?_
   exact hR _ (pur H).symm _ (rt [i6 0, .bool false])
  ·obtain ⟨x59, f1, H⟩ := bsx H
   refine go1 ?_
   refine go ?_
   exact IH  (i64.wrap ((i64.wrap (Qaj * 10)) + (i64.wrap (IntKind.u8.wrap (x59 - 48))))) (i64.wrap (Qa7 + 1)) _ H _ rfl Q tt  hE hR _ _  S hF
 ·refine go ?_
  exact hE _ (pur H).symm _ _  S hF
theorem Qpi : ∀ (a0 : ByteArray) r, Qj1 a0 = some r -> Qb0 Tryz.prog 276 [.str a0] (.tup [i6 r.1, .bool r.2]) := by
 intro a0 r H
 intro ss
 unfold Qj1 at H
 refine Qau mixed Tryz.func276 rfl (by kernel_rfl) (rs := [.tmp 2, .tmp 3]) rfl (by kernel_rfl) ?_
 have hF := Fx.refl ss
 have hX := Tau.none ss
 have q := dum
 have tT := dum
 refine go ?_
 obtain ⟨x14, g1, H⟩ := bnd H
 refine Qai 3 11 14 (.bool x14) (gi q (fun q => ?_) (fun q => ?_)) (fun J => ?_)
 ·rw [if_pos (dt q)] at g1
  obtain ⟨x12, f1, g1⟩ := bsx g1
  refine go1 ?_
  refine go ?_
  exact Qaw 11 g1
 ·rw [if_neg (df q)] at g1
  refine go ?_
  exact Qaw 11 g1
 refine go ?_
 obtain ⟨Qnj, j4, H⟩ := bnd H
 refine Qca (fun s' => ∃ (T : Nat -> AV) (ss1 : Sto), s' = ⟨T, ss1⟩ /\ (T 0 = .str Qnj /\ T 4 = .bool x14) /\ Fx ss ss1 [] []) (cdb j4 (fun h j4 => ?_) (fun h j4 => ?_)) ?_
 ·obtain ⟨x17, f1, j4⟩ := bss (lo := some (i6 1)) (hi := none) rfl rfl j4
  refine go1 ?_
  refine go ?_
  have e := pur j4
  subst e
  exact ⟨_, _, rfl, S, hF⟩
 ·refine go ?_
  have e := pur j4
  subst e
  exact ⟨_, _, rfl, S, hF⟩
 ·rintro s' ⟨T5, ss6, rfl, tT, hF⟩
  refine go ?_
  obtain ⟨x25, g8, H⟩ := bnd H
  refine Qai 3 22 25 (.bool x25) (giN q (fun q => ?_) (fun q => ?_)) (fun J => ?_)
  ·refine go ?_
   exact Qaw 22 g8
  ·refine go ?_
   exact Qaw 22 g8
  refine go ?_
  obtain ⟨x38, g10, H⟩ := bnd H
  refine Qai 11 27 38 (.bool x38) (giN q (fun q => ?_) (fun q => ?_)) (fun J => ?_)
  ·rw [if_neg (dbf q)] at g10
   obtain ⟨x28, f1, g10⟩ := bsx g10
   refine go1 ?_
   obtain ⟨x37, g12, g10⟩ := bnd g10
   refine Qai 6 31 37 (.bool x37) (gi q (fun q => ?_) (fun q => ?_)) (fun J => ?_)
   ·rw [if_pos (dt q)] at g12
    refine go ?_
    obtain ⟨x36, g14, g12⟩ := bnd g12
    refine Qai 1 35 36 (.bool x36) (giN q (fun q => ?_) (fun q => ?_)) (fun J => ?_)
    ·refine go ?_
     exact Qaw 35 g14
    ·refine go ?_
     exact Qaw 35 g14
    refine go ?_
    exact Qaw 31 g12
   ·rw [if_neg (df q)] at g12
    refine go ?_
    exact Qaw 31 g12
   refine go ?_
   exact Qaw 27 g10
  ·rw [if_pos (dbt q)] at g10
   refine go ?_
   exact Qaw 27 g10
  refine go ?_
  refine cdb H (fun h H => ?_) (fun h H => ?_)
  ·refine go ?_
   have e := pur H; subst e
   exact rt [i6 0, .bool false]
  ·refine go ?_
   obtain ⟨o18, ho18, H⟩ := bnd H
   refine Qsk x14 Qnj 0 0 _ ho18 _ rfl _ _  ?_ ?_ _ _  S hF
   ·intro Q1q he T20 s21 tT hF
    have he := he.symm
    subst he
    dsimp only at H
    refine go ?_
    refine cdb H (fun h H => ?_) (fun h H => ?_)
    ·refine go ?_
     have e := pur H; subst e
     exact rt [i6 (i64.wrap (0 - Q1q)), .bool true]
    ·refine go ?_
     have e := pur H; subst e
     exact rt [i6 Q1q, .bool true]
   ·intro r hr s' hs
    subst hr
    have e := pur H; subst e
    first | exact hs | (try simp only [sf, i6, zB, Fm.Qaa, Xpn.Qaa, Cor.Qaa, Bnd.Qaa, Hit.Qaa, Rul.Qaa, Mac.Qaa, Stp.Qaa, Val.Qaa] at hs ⊢; exact hs)
theorem Qsi : ∀ (a0 : ByteArray) (a1 : Int) (Qac : List ByteArray) (Qa7 : Int) (Qa2 : Int) out, Qea a0 a1 Qac Qa7 Qa2 = some out -> ∀ c, Qam Tryz.f300 0 = some c -> ∀ (Q : AX -> AS -> Prop) (tt : Sto), (∀ (Qbn : List ByteArray), out = Qbn -> ∀ (T : Nat -> AV) (ss : Sto) (e0v0 : AV), T 5 = e0v0 -> Fx tt ss [] [⟨e0v0, 9, 1, rws cS Qbn⟩] -> Q (.ex 0) ⟨T, ss⟩) -> True -> ∀ (T : Nat -> AV) (ss : Sto) (z0v0 : AV), T 0 = .str a0 /\ T 1 = .int .u8 a1 /\ T 5 = z0v0 /\ T 6 = i6 Qa7 /\ T 7 = i6 Qa2 -> Fx tt ss [] [⟨z0v0, 9, 1, rws cS Qac⟩] -> Qbr (Qbc Tryz.prog c) Q ⟨T, ss⟩ := by
 intro a0 a1 Qac Qa7 Qa2
 revert Qac Qa7 Qa2
 refine Qea.partial_correctness a0 a1 _ ?_
 intro Qea IH Qac Qa7 Qa2 out H c hc Q tt  hE hR T ss z0v0 tT hF
 obtain rfl := lpe (rfl : Qam Tryz.f300 0 = some _) hc
 refine Qah ?_
 have q := dum
 have hX := Tau.none tt
 refine go ?_
 refine cdp H (fun h H => ?_) (fun h H => ?_)
 ·refine go ?_
  obtain ⟨x25, g1, H⟩ := bnd H
  refine Qai 5 20 25 (.bool x25) (giN q (fun q => ?_) (fun q => ?_)) (fun J => ?_)
  ·rw [if_neg (df q)] at g1
   obtain ⟨x22, f1, g1⟩ := bsx g1
   refine go1 ?_
   refine go ?_
   exact Qaw 20 g1
  ·rw [if_pos (dt q)] at g1
   refine go ?_
   exact Qaw 20 g1
  refine go ?_
  refine cdb H (fun h H => ?_) (fun h H => ?_)
  ·obtain ⟨x30, f1, H⟩ := bss (lo := some (i6 Qa7)) (hi := some (i6 Qa2)) rfl rfl H
   refine go1 ?_
   refine apd (g := cS) hF 0 H (rdo (c := true) (g := cS) (fun _ => rfl)) fun x32 H v3 ss4 hF => ?_
   refine go ?_
   exact IH  x32 (i64.wrap (Qa2 + 1)) (i64.wrap (Qa2 + 1)) _ H _ rfl Q tt  hE hR _ _ v3 S hF
  ·refine go ?_
   exact IH  Qac Qa7 (i64.wrap (Qa2 + 1)) _ H _ rfl Q tt  hE hR _ _ z0v0 S hF
 ·refine go ?_
  exact hE _ (pur H).symm _ _ z0v0 S hF
theorem Qx1 : ∀ (a0 : ByteArray) (a1 : Int) r, Qk4 a0 a1 = some r -> Qb0 Tryz.prog 300 [.str a0, .int .u8 a1] (sf cS r) := by
 intro a0 a1 r H
 intro ss
 unfold Qk4 at H
 refine Qau mixed Tryz.func300 rfl (by kernel_rfl) (rs := [.tmp 4]) rfl (by kernel_rfl) ?_
 have hF := Fx.refl ss
 have hX := Tau.none ss
 have q := dum
 have tT := dum
 have hF := hF.lit 9 1 (rws cS []) rfl
 refine go ?_
 obtain ⟨o5, ho5, H⟩ := bnd H
 refine Qsi a0 a1 [] 0 0 _ ho5 _ rfl _ _  ?_ ?_ _ _ (.sl true (rws cS [])) S hF
 ·intro Kj4 he T7 s8 e6v0 tT hF
  have he := he.symm
  subst he
  refine go ?_
  have e := pur H; subst e
  exact rt [e6v0]
 ·trivial
theorem Qsm : ∀ (a0 : ByteArray) (a1 : Int) (Qa2 : Int) out, Qdh a0 a1 Qa2 = some out -> ∀ c, Qam Tryz.f277 0 = some c -> ∀ (Q : AX -> AS -> Prop) (tt : Sto), (∀ (Kam : Int), out = Kam -> ∀ (T : Nat -> AV) (ss : Sto), T 0 = .str a0 /\ T 1 = i6 a1 /\ T 6 = .sl true (rws cI []) /\ T 7 = i6 Kam -> Fx tt ss [] [] -> Q (.ex 0) ⟨T, ss⟩) -> True -> ∀ (T : Nat -> AV) (ss : Sto), T 0 = .str a0 /\ T 1 = i6 a1 /\ T 6 = .sl true (rws cI []) /\ T 7 = i6 Qa2 -> Fx tt ss [] [] -> Qbr (Qbc Tryz.prog c) Q ⟨T, ss⟩ := by
 intro a0 a1 Qa2
 revert Qa2
 refine Qdh.partial_correctness a0 a1 _ ?_
 intro Qdh IH Qa2 out H c hc Q tt  hE hR T ss tT hF
 obtain rfl := lpe (rfl : Qam Tryz.f277 0 = some _) hc
 refine Qah ?_
 have q := dum
 have hX := Tau.none tt
 refine go ?_
 obtain ⟨x35, g3, H⟩ := bnd H
 refine Qai 4 31 35 (.bool x35) (gi q (fun q => ?_) (fun q => ?_)) (fun J => ?_)
 ·rw [if_pos (dt q)] at g3
  obtain ⟨x33, f1, g3⟩ := bsx g3
  refine go1 ?_
  refine go ?_
  exact Qaw 31 g3
 ·rw [if_neg (df q)] at g3
  refine go ?_
  exact Qaw 31 g3
 refine go ?_
 refine cdb H (fun h H => ?_) (fun h H => ?_)
 ·refine go ?_
  exact IH  (i64.wrap (Qa2 + 1)) _ H _ rfl Q tt  hE hR _ _  S hF
 ·refine go ?_
  exact hE _ (pur H).symm _ _  S hF
theorem Qsn : ∀ (Qo5 : Int) (x48 : List ByteArray) (Qep : List Int) (Qif : Int) out, Qfd Qo5 x48 Qep Qif = some out -> ∀ c, Qam Tryz.f277 1 = some c -> ∀ (Q : AX -> AS -> Prop) (tt : Sto), (∀ (Q1r : List Int), out = Sum.inr Q1r -> ∀ (T : Nat -> AV) (ss : Sto) (e1v0 : AV), T 6 = e1v0 /\ T 7 = i6 Qo5 -> Fx tt ss [] [⟨e1v0, 3, 1, rws cI Q1r⟩] -> Q (.ex 2) ⟨T, ss⟩) -> (∀ r, out = Sum.inl r -> ∀ s', Qkk Tryz.prog [.tmp 4, .tmp 5] (fun r' ss' => r' = .tup [sf cI r.1, i6 r.2] /\ ss' = tt) s' -> Q .ret s') -> ∀ (T : Nat -> AV) (ss : Sto) (z1v0 : AV), T 6 = z1v0 /\ T 7 = i6 Qo5 /\ T 8 = sf cS x48 /\ T 9 = i6 Qif -> Fx tt ss [] [⟨z1v0, 3, 1, rws cI Qep⟩] -> Qbr (Qbc Tryz.prog c) Q ⟨T, ss⟩ := by
 intro Qo5 x48 Qep Qif
 revert Qep Qif
 refine Qfd.partial_correctness Qo5 x48 _ ?_
 intro Qfd IH Qep Qif out H c hc Q tt  hE hR T ss z1v0 tT hF
 obtain rfl := lpe (rfl : Qam Tryz.f277 1 = some _) hc
 refine Qah ?_
 have q := dum
 have hX := Tau.none tt
 refine go ?_
 obtain ⟨x56, g10, H⟩ := bnd H
 refine Qai 2 54 56 (.bool x56) (gi q (fun q => ?_) (fun q => ?_)) (fun J => ?_)
 ·refine go ?_
  exact Qaw 54 g10
 ·refine go ?_
  exact Qaw 54 g10
 refine go ?_
 refine cdb H (fun h H => ?_) (fun h H => ?_)
 ·obtain ⟨x62, f1, H⟩ := bil (g := cS) (fun _ => rfl) H
  refine go1 ?_
  obtain ⟨x64, hx64, H⟩ := bnd H
  refine cl (Qpi x62 _ hx64) ?_
  refine go ?_
  refine cdb H (fun h H => ?_) (fun h H => ?_)
  ·refine go ?_
   exact hR _ (pur H).symm _ (rt [z1v0, i6 (-1)])
  ·refine go ?_
   refine apd (g := cI) hF 0 H (rdo (c := true) (g := cI) (fun _ => rfl)) fun x73 H v12 s13 hF => ?_
   refine go ?_
   exact IH  x73 (i64.wrap (Qif + 1)) _ H _ rfl Q tt  hE hR _ _ v12 S hF
 ·refine go ?_
  exact hE _ (pur H).symm _ _ z1v0 S hF
theorem Qx5 : ∀ (a0 : ByteArray) (a1 : Int) r, Qk8 a0 a1 = some r -> Qb0 Tryz.prog 277 [.str a0, i6 a1] (.tup [sf cI r.1, i6 r.2]) := by
 intro a0 a1 r H
 intro ss
 unfold Qk8 at H
 refine Qau mixed Tryz.func277 rfl (by kernel_rfl) (rs := [.tmp 4, .tmp 5]) rfl (by kernel_rfl) ?_
 have hF := Fx.refl ss
 have hX := Tau.none ss
 have q := dum
 have tT := dum
 refine go ?_
 obtain ⟨x22, g1, H⟩ := bnd H
 refine Qai 4 18 22 (.bool x22) (giN q (fun q => ?_) (fun q => ?_)) (fun J => ?_)
 ·rw [if_neg (df q)] at g1
  obtain ⟨x20, f1, g1⟩ := bsx g1
  refine go1 ?_
  refine go ?_
  exact Qaw 18 g1
 ·rw [if_pos (dt q)] at g1
  refine go ?_
  exact Qaw 18 g1
 refine go ?_
 refine cdb H (fun h H => ?_) (fun h H => ?_)
 ·refine go ?_
  have e := pur H; subst e
  exact rt [.sl true (rws cI []), i6 a1]
 ·refine go ?_
  obtain ⟨o5, ho5, H⟩ := bnd H
  refine Qsm a0 a1 a1 _ ho5 _ rfl _ _  ?_ ?_ _ _  S hF
  ·intro Qo5 he T7 s8 tT hF
   have he := he.symm
   subst he
   refine go ?_
   refine cdp H (fun h H => ?_) (fun h H => ?_)
   ·refine go ?_
    have e := pur H; subst e
    exact rt [.sl true (rws cI []), i6 (-1)]
   ·obtain ⟨x47, f1, H⟩ := bss (lo := some (i6 (i64.wrap (a1 + 1)))) (hi := some (i6 Qo5)) rfl rfl H
    refine go1 ?_
    obtain ⟨x48, hx48, H⟩ := bnd H
    refine cl (Qx1 x47 44 _ hx48) ?_
    have hF := hF.lit 3 1 (rws cI []) rfl
    refine go ?_
    obtain ⟨o14, ho14, H⟩ := bnd H
    refine Qsn Qo5 x48 [] 0 _ ho14 _ rfl _ _  ?_ ?_ _ _ (.sl true (rws cI [])) S hF
    ·intro Qtt he T16 s17 e15v0 tT hF
     have he := he.symm
     subst he
     dsimp only at H
     refine go ?_
     have e := pur H; subst e
     exact rt [e15v0, i6 (i64.wrap (Qo5 + 1))]
    ·intro r hr s' hs
     subst hr
     have e := pur H; subst e
     first | exact hs | (try simp only [sf, i6, zB, Fm.Qaa, Xpn.Qaa, Cor.Qaa, Bnd.Qaa, Hit.Qaa, Rul.Qaa, Mac.Qaa, Stp.Qaa, Val.Qaa] at hs ⊢; exact hs)
  ·trivial
theorem Qx2 : ∀ (a0 : ByteArray) (a1 : Int) r, Qk5 a0 a1 = some r -> Qb0 Tryz.prog 230 [.str a0, i6 a1] (.tup [.agg (Fm.cells r.1), i6 r.2]) := by
 intro a0 a1 r H
 intro ss
 unfold Qk5 at H
 refine Qau mixed Tryz.func230 rfl (by kernel_rfl) (rs := [.cell 4 26, .tmp 5]) rfl (by kernel_rfl) ?_
 have hF := Fx.refl ss
 have hX := Tau.none ss
 have q := dum
 have tT := dum
 refine go ?_
 refine Qag hF rfl fun b1 ss2 hF => ?_
 refine go ?_
 obtain ⟨x14, hx14, H⟩ := bnd H
 refine cl (Qx6 a0 a1 _ hx14) ?_
 obtain ⟨x18, f1, H⟩ := bss (lo := some (i6 a1)) (hi := some (i6 x14)) rfl rfl H
 refine go1 ?_
 refine go ?_
 obtain ⟨x21, hx21, H⟩ := bnd H
 refine cl (Qpi x18 _ hx21) ?_
 refine go ?_
 refine cdb H (fun h H => ?_) (fun h H => ?_)
 ·refine go ?_
  refine st hF 0 rfl fun ss3 hF => ?_
  refine go ?_
  have e := pur H; subst e
  exact rt [.agg [i6 2, .str zB, i6 x21.1, .Qab, .Qab], i6 x14]
 ·refine go ?_
  refine cdp H (fun h H => ?_) (fun h H => ?_)
  ·refine go ?_
   refine st hF 0 rfl fun ss4 hF => ?_
   refine go ?_
   have e := pur H; subst e
   exact rt [.agg [i6 0, .str zB, i6 0, .Qab, .Qab], i6 (-1)]
  ·refine go ?_
   obtain ⟨x34, hx34, H⟩ := bnd H
   refine cl (Qx5 a0 x14 _ hx34) ?_
   refine go ?_
   refine st hF 0 rfl fun ss5 hF => ?_
   refine go ?_
   have e := pur H; subst e
   exact rt [.agg [i6 1, .str x18, i6 0, sf cI x34.1, .Qab], i6 x34.2]
theorem Qx4 : ∀ (a0 : ByteArray) (a1 : Int) (a2 : Int) r, Qim a0 a1 a2 = some r -> Qb0 Tryz.prog 190 [.str a0, i6 a1, i6 a2] (.tup [.agg (Fm.cells r.1), i6 r.2]) := by
 intro a0 a1 a2
 revert a1 a2
 refine Qim.partial_correctness a0 (motive_1 := fun a1 a2 r => Qb0 Tryz.prog 190 [.str a0, i6 a1, i6 a2] (.tup [.agg (Fm.cells r.1), i6 r.2])) (motive_2 := fun a2 Qac Qgu out => ∀ c, Qam Tryz.f190 0 = some c -> ∀ (Q : AX -> AS -> Prop) (tt : Sto) (b1 : Nat) (b7 : Nat), (∀ (Qbn : List Fm) (Qvv : Int), out = Sum.inr (Qbn, Qvv) -> ∀ (T : Nat -> AV) (ss : Sto) (e0v0 : AV), T 0 = .str a0 /\ T 1 = i6 Qvv /\ T 6 = .ptr b1 0 /\ T 8 = .ptr b7 0 -> Fx tt ss [(b7, ⟨26, 5, [i6 3, .str zB, i6 0, .Qab, e0v0]⟩), (b1, ⟨26, 5, [i6 0, .str zB, i6 0, .Qab, .Qab]⟩)] [⟨e0v0, 26, 5, rws Fm.cells Qbn⟩] -> Q (.ex 0) ⟨T, ss⟩) -> (∀ r, out = Sum.inl r -> ∀ s', Qkk Tryz.prog [.cell 6 26, .tmp 7] (fun r' ss' => r' = .tup [.agg (Fm.cells r.1), i6 r.2] /\ ss' = tt) s' -> Q .ret s') -> ∀ (T : Nat -> AV) (ss : Sto) (z0v0 : AV), T 0 = .str a0 /\ T 1 = i6 Qgu /\ T 2 = i6 a2 /\ T 6 = .ptr b1 0 /\ T 8 = .ptr b7 0 -> Fx tt ss [(b7, ⟨26, 5, [i6 3, .str zB, i6 0, .Qab, z0v0]⟩), (b1, ⟨26, 5, [i6 0, .str zB, i6 0, .Qab, .Qab]⟩)] [⟨z0v0, 26, 5, rws Fm.cells Qac⟩] -> Qbr (Qbc Tryz.prog c) Q ⟨T, ss⟩) ?_ ?_
 ·intro Qh9 L0 a1 a2 r H
  intro ss
  refine Qau mixed Tryz.func190 rfl (by kernel_rfl) (rs := [.cell 6 26, .tmp 7]) rfl (by kernel_rfl) ?_
  have hF := Fx.refl ss
  have hX := Tau.none ss
  have q := dum
  have tT := dum
  refine go ?_
  refine Qag hF rfl fun b1 ss2 hF => ?_
  refine go ?_
  obtain ⟨x13, hx13, H⟩ := bnd H
  refine cl (Qka a0 a1 _ hx13) ?_
  refine go ?_
  obtain ⟨x21, g3, H⟩ := bnd H
  refine Qai 2 19 21 (.bool x21) (giN q (fun q => ?_) (fun q => ?_)) (fun J => ?_)
  ·refine go ?_
   exact Qaw 19 g3
  ·refine go ?_
   exact Qaw 19 g3
  refine go ?_
  refine cdb H (fun h H => ?_) (fun h H => ?_)
  ·refine go ?_
   refine st hF 0 rfl fun ss5 hF => ?_
   refine go ?_
   have e := pur H; subst e
   exact rt [.agg [i6 0, .str zB, i6 0, .Qab, .Qab], i6 (-1)]
  ·obtain ⟨x25, f1, H⟩ := bsx H
   refine go1 ?_
   refine go ?_
   refine cdn H (fun h H => ?_) (fun h H => ?_)
   ·refine go ?_
    obtain ⟨x29, hx29, H⟩ := bnd H
    refine cl (Qx2 a0 x13 _ hx29) ?_
    refine go ?_
    refine st hF 0 rfl fun ss6 hF => ?_
    refine go ?_
    have e := pur H; subst e
    exact rt [.agg [i6 x29.1.kind, .str x29.1.name, i6 x29.1.num, sf cI x29.1.sc, sf Fm.cells x29.1.kids], i6 x29.2]
   ·refine go ?_
    refine Qag hF rfl fun b7 s8 hF => ?_
    refine go ?_
    refine st hF 0 rfl fun s9 hF => ?_
    refine go ?_
    obtain ⟨x36, hx36, H⟩ := bnd H
    refine cl (Qka a0 (i64.wrap (x13 + 1)) _ hx36) ?_
    have hF := hF.nil 26 5
    refine go ?_
    obtain ⟨o21, ho21, H⟩ := bnd H
    refine L0 a2 [] x36 _ ho21 _ rfl _ _ b1 b7 ?_ ?_ _ _ .Qab S hF
    ·intro Qnm Q1s he T23 s24 e22v0 tT hF
     have he := he.symm
     subst he
     dsimp only at H
     refine go ?_
     obtain ⟨x82, g26, H⟩ := bnd H
     refine Qai 4 78 82 (.bool x82) (giN q (fun q => ?_) (fun q => ?_)) (fun J => ?_)
     ·rw [if_neg (df q)] at g26
      obtain ⟨x80, f1, g26⟩ := bsx g26
      refine go1 ?_
      refine go ?_
      exact Qaw 78 g26
     ·rw [if_pos (dt q)] at g26
      refine go ?_
      exact Qaw 78 g26
     refine go ?_
     refine cdb H (fun h H => ?_) (fun h H => ?_)
     ·refine go ?_
      refine st hF 1 rfl fun s28 hF => ?_
      refine go ?_
      have e := pur H; subst e
      exact rt [.agg [i6 3, .str zB, i6 0, .Qab, e22v0], i6 (-1)]
     ·refine go ?_
      refine st hF 1 rfl fun s29 hF => ?_
      refine go ?_
      have e := pur H; subst e
      exact rt [.agg [i6 3, .str zB, i6 0, .Qab, e22v0], i6 (i64.wrap (Q1s + 1))]
    ·intro r hr s' hs
     subst hr
     have e := pur H; subst e
     first | exact hs | (try simp only [sf, i6, zB, Fm.Qaa, Xpn.Qaa, Cor.Qaa, Bnd.Qaa, Hit.Qaa, Rul.Qaa, Mac.Qaa, Stp.Qaa, Val.Qaa] at hs ⊢; exact hs)
 ·intro Qim Qh9 C0 L0 a2 Qac Qgu out H c hc Q tt b1 b7 hE hR T ss z0v0 tT hF
  obtain rfl := lpe (rfl : Qam Tryz.f190 0 = some _) hc
  refine Qah ?_
  have q := dum
  have hX := Tau.none tt
  refine go ?_
  obtain ⟨x46, g10, H⟩ := bnd H
  refine Qai 4 42 46 (.bool x46) (gi q (fun q => ?_) (fun q => ?_)) (fun J => ?_)
  ·rw [if_pos (dt q)] at g10
   obtain ⟨x44, f1, g10⟩ := bsx g10
   refine go1 ?_
   refine go ?_
   exact Qaw 42 g10
  ·rw [if_neg (df q)] at g10
   refine go ?_
   exact Qaw 42 g10
  refine go ?_
  obtain ⟨x52, g12, H⟩ := bnd H
  refine Qai 4 48 52 (.bool x52) (gi q (fun q => ?_) (fun q => ?_)) (fun J => ?_)
  ·refine go ?_
   exact Qaw 48 g12
  ·refine go ?_
   exact Qaw 48 g12
  refine go ?_
  refine cdb H (fun h H => ?_) (fun h H => ?_)
  ·refine go ?_
   obtain ⟨x58, hx58, H⟩ := bnd H
   refine cl (C0 Qgu (i64.wrap (a2 - 1)) _ hx58) ?_
   refine go ?_
   refine Qag hF rfl fun b14 s15 hF => ?_
   refine go ?_
   refine st hF 0 rfl fun s16 hF => ?_
   refine go ?_
   refine cdp H (fun h H => ?_) (fun h H => ?_)
   ·refine go ?_
    refine st hF 2 rfl fun s17 hF => ?_
    refine go ?_
    exact hR _ (pur H).symm _ (rt [.agg [i6 3, .str zB, i6 0, .Qab, z0v0], i6 (-1)])
   ·refine go ?_
    refine apd (g := Fm.cells) hF 0 H (rdo (c := true) (g := Fm.cells) Fm.Qad) fun x68 H v18 s19 hF => ?_
    refine go ?_
    refine st hF 1 (hF.cells 0 rfl) fun s20 hF => ?_
    refine go ?_
    obtain ⟨x72, hx72, H⟩ := bnd H
    refine cl (Qka a0 x58.2 _ hx72) ?_
    refine go ?_
    exact L0 a2 x68 x72 _ H _ rfl Q tt b1 b7 hE hR _ _ v18 S (hF.drop 1 0)
  ·refine go ?_
   exact hE _ _ (pur H).symm _ _ z0v0 S hF
theorem Qt5 : ∀ (a0 : Int) (a1 : Bool) r, Qht a0 a1 = some r -> Qb0 Tryz.prog 151 [.int .u8 a0, .bool a1] (.bool r) := by
 intro a0 a1 r H
 intro ss
 unfold Qht at H
 refine Qau mixed Tryz.func151 rfl (by kernel_rfl) (rs := [.tmp 4]) rfl (by kernel_rfl) ?_
 have hF := Fx.refl ss
 have hX := Tau.none ss
 have q := dum
 have tT := dum
 refine go ?_
 obtain ⟨x10, g1, H⟩ := bnd H
 refine Qai 2 8 10 (.bool x10) (gi q (fun q => ?_) (fun q => ?_)) (fun J => ?_)
 ·refine go ?_
  exact Qaw 8 g1
 ·refine go ?_
  exact Qaw 8 g1
 refine go ?_
 obtain ⟨x14, g3, H⟩ := bnd H
 refine Qai 2 12 14 (.bool x14) (giN q (fun q => ?_) (fun q => ?_)) (fun J => ?_)
 ·refine go ?_
  exact Qaw 12 g3
 ·refine go ?_
  exact Qaw 12 g3
 refine go ?_
 obtain ⟨x18, g5, H⟩ := bnd H
 refine Qai 2 16 18 (.bool x18) (giN q (fun q => ?_) (fun q => ?_)) (fun J => ?_)
 ·refine go ?_
  exact Qaw 16 g5
 ·refine go ?_
  exact Qaw 16 g5
 refine go ?_
 obtain ⟨x22, g7, H⟩ := bnd H
 refine Qai 2 20 22 (.bool x22) (giN q (fun q => ?_) (fun q => ?_)) (fun J => ?_)
 ·refine go ?_
  exact Qaw 20 g7
 ·refine go ?_
  exact Qaw 20 g7
 refine go ?_
 obtain ⟨x26, g9, H⟩ := bnd H
 refine Qai 2 24 26 (.bool x26) (giN q (fun q => ?_) (fun q => ?_)) (fun J => ?_)
 ·refine go ?_
  exact Qaw 24 g9
 ·refine go ?_
  exact Qaw 24 g9
 refine go ?_
 obtain ⟨x30, g11, H⟩ := bnd H
 refine Qai 2 28 30 (.bool x30) (giN q (fun q => ?_) (fun q => ?_)) (fun J => ?_)
 ·refine go ?_
  exact Qaw 28 g11
 ·refine go ?_
  exact Qaw 28 g11
 refine go ?_
 refine cdb H (fun h H => ?_) (fun h H => ?_)
 ·refine go ?_
  have e := pur H; subst e
  exact rt [.bool true]
 ·refine go ?_
  obtain ⟨x44, g13, H⟩ := bnd H
  refine Qai 10 34 44 (.bool x44) (gi q (fun q => ?_) (fun q => ?_)) (fun J => ?_)
  ·rw [if_pos (dbt q)] at g13
   refine go ?_
   obtain ⟨x39, g15, g13⟩ := bnd g13
   refine Qai 2 37 39 (.bool x39) (gi q (fun q => ?_) (fun q => ?_)) (fun J => ?_)
   ·refine go ?_
    exact Qaw 37 g15
   ·refine go ?_
    exact Qaw 37 g15
   refine go ?_
   obtain ⟨x43, g17, g13⟩ := bnd g13
   refine Qai 2 41 43 (.bool x43) (giN q (fun q => ?_) (fun q => ?_)) (fun J => ?_)
   ·refine go ?_
    exact Qaw 41 g17
   ·refine go ?_
    exact Qaw 41 g17
   refine go ?_
   exact Qaw 34 g13
  ·rw [if_neg (dbf q)] at g13
   refine go ?_
   exact Qaw 34 g13
  refine go ?_
  have e := pur H; subst e
  exact rt [.bool x44]
theorem Qo9 : ∀ (a0 : ByteArray) (Qa1 : Int) out, Qbz a0 Qa1 = some out -> ∀ c, Qam Tryz.f101 0 = some c -> ∀ (Q : AX -> AS -> Prop) (tt : Sto), (∀ (_u : Unit), out = Sum.inr () -> ∀ (T : Nat -> AV) (ss : Sto), T 0 = .str a0 -> Fx tt ss [] [] -> Q (.ex 0) ⟨T, ss⟩) -> (∀ r, out = Sum.inl r -> ∀ s', Qkk Tryz.prog [.tmp 2] (fun r' ss' => r' = .bool r /\ ss' = tt) s' -> Q .ret s') -> ∀ (T : Nat -> AV) (ss : Sto), T 0 = .str a0 /\ T 3 = i6 Qa1 -> Fx tt ss [] [] -> Qbr (Qbc Tryz.prog c) Q ⟨T, ss⟩ := by
 intro a0 Qa1
 revert Qa1
 refine Qbz.partial_correctness a0 _ ?_
 intro Qbz IH Qa1 out H c hc Q tt  hE hR T ss tT hF
 obtain rfl := lpe (rfl : Qam Tryz.f101 0 = some _) hc
 refine Qah ?_
 have q := dum
 have hX := Tau.none tt
 refine go ?_
 obtain ⟨x17, g3, H⟩ := bnd H
 refine Qai 2 15 17 (.bool x17) (gi q (fun q => ?_) (fun q => ?_)) (fun J => ?_)
 ·refine go ?_
  exact Qaw 15 g3
 ·refine go ?_
  exact Qaw 15 g3
 refine go ?_
 refine cdb H (fun h H => ?_) (fun h H => ?_)
 ·obtain ⟨x22, f1, H⟩ := bsx H
  refine go1 ?_
  obtain ⟨x25, hx25, H⟩ := bnd H
  refine cl (Qt5 x22 (decide (Qa1 = 0)) _ hx25) ?_
  refine go ?_
  refine cdb H (fun h H => ?_) (fun h H => ?_)
  ·refine go ?_
   exact hR _ (pur H).symm _ (rt [.bool false])
  ·refine go ?_
   exact IH  (i64.wrap (Qa1 + 1)) _ H _ rfl Q tt  hE hR _ _  S hF
 ·refine go ?_
  exact hE () (pur H).symm _ _  S hF
theorem Qj0 : ∀ (a0 : ByteArray) r, Qd9 a0 = some r -> Qb0 Tryz.prog 101 [.str a0] (.bool r) := by
 intro a0 r H
 intro ss
 unfold Qd9 at H
 refine Qau mixed Tryz.func101 rfl (by kernel_rfl) (rs := [.tmp 2]) rfl (by kernel_rfl) ?_
 have hF := Fx.refl ss
 have hX := Tau.none ss
 have q := dum
 have tT := dum
 refine go ?_
 obtain ⟨x9, g1, H⟩ := bnd H
 refine Qai 2 7 9 (.bool x9) (giN q (fun q => ?_) (fun q => ?_)) (fun J => ?_)
 ·refine go ?_
  exact Qaw 7 g1
 ·refine go ?_
  exact Qaw 7 g1
 refine go ?_
 refine cdb H (fun h H => ?_) (fun h H => ?_)
 ·refine go ?_
  have e := pur H; subst e
  exact rt [.bool true]
 ·refine go ?_
  obtain ⟨o5, ho5, H⟩ := bnd H
  refine Qo9 a0 0 _ ho5 _ rfl _ _  ?_ ?_ _ _  S hF
  ·intro _ he T7 s8 tT hF
   have he := he.symm
   subst he
   dsimp only at H
   refine go ?_
   obtain ⟨x34, g10, H⟩ := bnd H
   refine Qai 3 31 34 (.bool x34) (gi q (fun q => ?_) (fun q => ?_)) (fun J => ?_)
   ·refine go ?_
    exact Qaw 31 g10
   ·refine go ?_
    exact Qaw 31 g10
   refine go ?_
   have e := pur H; subst e
   exact rt [.bool x34]
  ·intro r hr s' hs
   subst hr
   have e := pur H; subst e
   first | exact hs | (try simp only [sf, i6, zB, Fm.Qaa, Xpn.Qaa, Cor.Qaa, Bnd.Qaa, Hit.Qaa, Rul.Qaa, Mac.Qaa, Stp.Qaa, Val.Qaa] at hs ⊢; exact hs)
theorem Qp5 : ∀ (a0 : List Int) (Qa1 : Int) out, Qb2 a0 Qa1 = some out -> ∀ c, Qam Tryz.f102 0 = some c -> ∀ (Q : AX -> AS -> Prop) (tt : Sto), (∀ (_u : Unit), out = Sum.inr () -> ∀ (T : Nat -> AV) (ss : Sto), T 0 = sf cI a0 -> Fx tt ss [] [] -> Q (.ex 0) ⟨T, ss⟩) -> (∀ r, out = Sum.inl r -> ∀ s', Qkk Tryz.prog [.tmp 2] (fun r' ss' => r' = .bool r /\ ss' = tt) s' -> Q .ret s') -> ∀ (T : Nat -> AV) (ss : Sto), T 0 = sf cI a0 /\ T 3 = i6 Qa1 -> Fx tt ss [] [] -> Qbr (Qbc Tryz.prog c) Q ⟨T, ss⟩ := by
 intro a0 Qa1
 revert Qa1
 refine Qb2.partial_correctness a0 _ ?_
 intro Qb2 IH Qa1 out H c hc Q tt  hE hR T ss tT hF
 obtain rfl := lpe (rfl : Qam Tryz.f102 0 = some _) hc
 refine Qah ?_
 have q := dum
 have hX := Tau.none tt
 refine go ?_
 obtain ⟨x11, g1, H⟩ := bnd H
 refine Qai 2 9 11 (.bool x11) (gi q (fun q => ?_) (fun q => ?_)) (fun J => ?_)
 ·refine go ?_
  exact Qaw 9 g1
 ·refine go ?_
  exact Qaw 9 g1
 refine go ?_
 refine cdb H (fun h H => ?_) (fun h H => ?_)
 ·refine go ?_
  refine Qaq E0 [.v, .v, .v, .v, .v, .v, .v, .v, .v, .v, .v, .v, .v, .v, .v, .v, .v, .v, .v, .v, .v, .v, .v, .v, .v, .v, .v, .v] (by kernel_rfl) ?_
  obtain ⟨x16, f1, H⟩ := bil (g := cI) (fun _ => rfl) H
  refine go1 ?_
  obtain ⟨x25, g3, H⟩ := bnd H
  refine Qb4 5 20 25 (.bool x25) (tiN q (fun q => ?_) (fun q => ?_)) (fun J => ?_)
  ·rw [if_neg (df q)] at g3
   obtain ⟨x22, f1, g3⟩ := bil (g := cI) (fun _ => rfl) g3
   refine go1 ?_
   refine go ?_
   exact Qaw 20 g3
  ·rw [if_pos (dt q)] at g3
   refine go ?_
   exact Qaw 20 g3
  refine go ?_
  obtain ⟨x41, g5, H⟩ := bnd H
  refine Qb4 14 27 41 (.bool x41) (tiN q (fun q => ?_) (fun q => ?_)) (fun J => ?_)
  ·rw [if_neg (dbf q)] at g5
   refine go ?_
   obtain ⟨x40, g7, g5⟩ := bnd g5
   refine Qb4 10 30 40 (.bool x40) (ti q (fun q => ?_) (fun q => ?_)) (fun J => ?_)
   ·rw [if_pos (dt q)] at g7
    obtain ⟨x32, f1, g7⟩ := bil (g := cI) (fun _ => rfl) g7
    obtain ⟨x37, f2, g7⟩ := bil (g := cI) (fun _ => rfl) g7
    refine go2 ?_
    refine go ?_
    exact Qaw 30 g7
   ·rw [if_neg (df q)] at g7
    refine go ?_
    exact Qaw 30 g7
   refine go ?_
   exact Qaw 27 g5
  ·rw [if_pos (dbt q)] at g5
   refine go ?_
   exact Qaw 27 g5
  refine go ?_
  refine cdb H (fun h H => ?_) (fun h H => ?_)
  ·refine go ?_
   exact hR _ (pur H).symm _ (rt [.bool false])
  ·refine go ?_
   exact IH  (i64.wrap (Qa1 + 1)) _ H _ rfl Q tt  hE hR _ _  S hF
 ·refine go ?_
  exact hE () (pur H).symm _ _  S hF
theorem Qnn : ∀ (a0 : List Int) r, Qgm a0 = some r -> Qb0 Tryz.prog 102 [sf cI a0] (.bool r) := by
 intro a0 r H
 intro ss
 unfold Qgm at H
 refine Qau mixed Tryz.func102 rfl (by kernel_rfl) (rs := [.tmp 2]) rfl (by kernel_rfl) ?_
 have hF := Fx.refl ss
 have hX := Tau.none ss
 have q := dum
 have tT := dum
 refine go ?_
 obtain ⟨o9, ho9, H⟩ := bnd H
 refine Qp5 a0 0 _ ho9 _ rfl _ _  ?_ ?_ _ _  S hF
 ·intro _ he T11 s12 tT hF
  have he := he.symm
  subst he
  dsimp only at H
  refine go ?_
  have e := pur H; subst e
  exact rt [.bool (decide ((a0.length : Int) <= 24))]
 ·intro r hr s' hs
  subst hr
  have e := pur H; subst e
  first | exact hs | (try simp only [sf, i6, zB, Fm.Qaa, Xpn.Qaa, Cor.Qaa, Bnd.Qaa, Hit.Qaa, Rul.Qaa, Mac.Qaa, Stp.Qaa, Val.Qaa] at hs ⊢; exact hs)
theorem Q2i : ∀ (a0 : Fm) (a1 : Int) r, Qh2 a0 a1 = some r -> Qb0 Tryz.prog 70 [.agg (Fm.cells a0), i6 a1] (.bool r) := by
 refine Qh2.partial_correctness  (motive_1 := fun a0 a1 r => Qb0 Tryz.prog 70 [.agg (Fm.cells a0), i6 a1] (.bool r)) (motive_2 := fun a0 a1 Qaj out => ∀ c, Qam Tryz.f70 0 = some c -> ∀ (Q : AX -> AS -> Prop) (tt : Sto) (b1 : Nat), (∀ (_u : Unit), out = Sum.inr () -> ∀ (T : Nat -> AV) (ss : Sto), 0 + 0 = 0 -> Fx tt ss [(b1, ⟨26, 5, [i6 a0.kind, .str a0.name, i6 a0.num, sf cI a0.sc, sf Fm.cells a0.kids]⟩)] [] -> Q (.ex 1) ⟨T, ss⟩) -> (∀ r, out = Sum.inl r -> ∀ s', Qkk Tryz.prog [.tmp 4] (fun r' ss' => r' = .bool r /\ ss' = tt) s' -> Q .ret s') -> ∀ (T : Nat -> AV) (ss : Sto), T 1 = i6 a1 /\ T 2 = .ptr b1 0 /\ T 5 = i6 Qaj -> Fx tt ss [(b1, ⟨26, 5, [i6 a0.kind, .str a0.name, i6 a0.num, sf cI a0.sc, sf Fm.cells a0.kids]⟩)] [] -> Qbr (Qbc Tryz.prog c) Q ⟨T, ss⟩) ?_ ?_
 ·intro Qfc L0 a0 a1 r H
  intro ss
  refine Qau mixed Tryz.func70 rfl (by kernel_rfl) (rs := [.tmp 4]) rfl (by kernel_rfl) ?_
  have hF := Fx.refl ss
  have hX := Tau.none ss
  have q := dum
  have tT := dum
  refine go ?_
  refine Qag hF rfl fun b1 ss2 hF => ?_
  refine go ?_
  refine cdp H (fun h H => ?_) (fun h H => ?_)
  ·refine go ?_
   have e := pur H; subst e
   exact rt [.bool false]
  ·refine go ?_
   refine cdp H (fun h H => ?_) (fun h H => ?_)
   ·refine go ?_
    obtain ⟨x14, hx14, H⟩ := bnd H
    refine cl (Qj0 a0.name _ hx14) ?_
    refine go ?_
    obtain ⟨x19, g3, H⟩ := bnd H
    refine Qai 3 16 19 (.bool x19) (gi q (fun q => ?_) (fun q => ?_)) (fun J => ?_)
    ·refine go ?_
     exact Qaw 16 g3
    ·refine go ?_
     exact Qaw 16 g3
    refine go ?_
    obtain ⟨x24, g5, H⟩ := bnd H
    refine Qai 3 21 24 (.bool x24) (gi q (fun q => ?_) (fun q => ?_)) (fun J => ?_)
    ·rw [if_pos (dbt q)] at g5
     refine go ?_
     obtain ⟨x23, hx23, g5⟩ := bnd g5
     refine cl (Qnn a0.sc _ hx23) ?_
     refine go ?_
     exact Qaw 21 g5
    ·rw [if_neg (dbf q)] at g5
     refine go ?_
     exact Qaw 21 g5
    refine go ?_
    obtain ⟨x30, g7, H⟩ := bnd H
    refine Qai 4 26 30 (.bool x30) (gi q (fun q => ?_) (fun q => ?_)) (fun J => ?_)
    ·refine go ?_
     exact Qaw 26 g7
    ·refine go ?_
     exact Qaw 26 g7
    refine go ?_
    have e := pur H; subst e
    exact rt [.bool x30]
   ·refine go ?_
    refine cdp H (fun h H => ?_) (fun h H => ?_)
    ·refine go ?_
     obtain ⟨x40, g9, H⟩ := bnd H
     refine Qai 3 37 40 (.bool x40) (gi q (fun q => ?_) (fun q => ?_)) (fun J => ?_)
     ·refine go ?_
      exact Qaw 37 g9
     ·refine go ?_
      exact Qaw 37 g9
     refine go ?_
     obtain ⟨x45, g11, H⟩ := bnd H
     refine Qai 3 42 45 (.bool x45) (gi q (fun q => ?_) (fun q => ?_)) (fun J => ?_)
     ·refine go ?_
      exact Qaw 42 g11
     ·refine go ?_
      exact Qaw 42 g11
     refine go ?_
     obtain ⟨x51, g13, H⟩ := bnd H
     refine Qai 4 47 51 (.bool x51) (gi q (fun q => ?_) (fun q => ?_)) (fun J => ?_)
     ·refine go ?_
      exact Qaw 47 g13
     ·refine go ?_
      exact Qaw 47 g13
     refine go ?_
     obtain ⟨x57, g15, H⟩ := bnd H
     refine Qai 4 53 57 (.bool x57) (gi q (fun q => ?_) (fun q => ?_)) (fun J => ?_)
     ·refine go ?_
      exact Qaw 53 g15
     ·refine go ?_
      exact Qaw 53 g15
     refine go ?_
     have e := pur H; subst e
     exact rt [.bool x57]
    ·refine go ?_
     obtain ⟨x65, g17, H⟩ := bnd H
     refine Qai 3 62 65 (.bool x65) (giN q (fun q => ?_) (fun q => ?_)) (fun J => ?_)
     ·refine go ?_
      exact Qaw 62 g17
     ·refine go ?_
      exact Qaw 62 g17
     refine go ?_
     obtain ⟨x70, g19, H⟩ := bnd H
     refine Qai 3 67 70 (.bool x70) (giN q (fun q => ?_) (fun q => ?_)) (fun J => ?_)
     ·refine go ?_
      exact Qaw 67 g19
     ·refine go ?_
      exact Qaw 67 g19
     refine go ?_
     obtain ⟨x76, g21, H⟩ := bnd H
     refine Qai 4 72 76 (.bool x76) (giN q (fun q => ?_) (fun q => ?_)) (fun J => ?_)
     ·refine go ?_
      exact Qaw 72 g21
     ·refine go ?_
      exact Qaw 72 g21
     refine go ?_
     refine cdb H (fun h H => ?_) (fun h H => ?_)
     ·refine go ?_
      have e := pur H; subst e
      exact rt [.bool false]
     ·refine go ?_
      obtain ⟨o23, ho23, H⟩ := bnd H
      refine L0 a0 a1 0 _ ho23 _ rfl _ _ b1 ?_ ?_ _ _  S hF
      ·intro _ he T25 s26 tT hF
       have he := he.symm
       subst he
       dsimp only at H
       refine go ?_
       have e := pur H; subst e
       exact rt [.bool true]
      ·intro r hr s' hs
       subst hr
       have e := pur H; subst e
       first | exact hs | (try simp only [sf, i6, zB, Fm.Qaa, Xpn.Qaa, Cor.Qaa, Bnd.Qaa, Hit.Qaa, Rul.Qaa, Mac.Qaa, Stp.Qaa, Val.Qaa] at hs ⊢; exact hs)
 ·intro Qh2 Qfc C0 L0 a0 a1 Qaj out H c hc Q tt b1 hE hR T ss tT hF
  obtain rfl := lpe (rfl : Qam Tryz.f70 0 = some _) hc
  refine Qah ?_
  have q := dum
  have hX := Tau.none tt
  refine go ?_
  refine cdp H (fun h H => ?_) (fun h H => ?_)
  ·obtain ⟨x87, f1, H⟩ := bil (g := Fm.cells) Fm.Qad H
   refine go1 ?_
   obtain ⟨x91, hx91, H⟩ := bnd H
   refine cl (C0 x87 (i64.wrap (a1 - 1)) _ hx91) ?_
   refine go ?_
   refine cdb H (fun h H => ?_) (fun h H => ?_)
   ·refine go ?_
    exact hR _ (pur H).symm _ (rt [.bool false])
   ·refine go ?_
    exact L0 a0 a1 (i64.wrap (Qaj + 1)) _ H _ rfl Q tt b1 hE hR _ _  S hF
  ·refine go ?_
   exact hE () (pur H).symm _ _  S hF
theorem Qoi : ∀ (a0 : Fm) r, Qfb a0 = some r -> Qb0 Tryz.prog 71 [.agg (Fm.cells a0)] (i6 r) := by
 refine Qfb.partial_correctness  (motive_1 := fun a0 r => Qb0 Tryz.prog 71 [.agg (Fm.cells a0)] (i6 r)) (motive_2 := fun a0 Qa1 Qba out => ∀ c, Qam Tryz.f71 0 = some c -> ∀ (Q : AX -> AS -> Prop) (tt : Sto) (b1 : Nat), (∀ (Qqo : Int), out = Qqo -> ∀ (T : Nat -> AV) (ss : Sto), T 3 = i6 Qqo -> Fx tt ss [(b1, ⟨26, 5, [i6 a0.kind, .str a0.name, i6 a0.num, sf cI a0.sc, sf Fm.cells a0.kids]⟩)] [] -> Q (.ex 0) ⟨T, ss⟩) -> True -> ∀ (T : Nat -> AV) (ss : Sto), T 1 = .ptr b1 0 /\ T 3 = i6 Qa1 /\ T 4 = i6 Qba -> Fx tt ss [(b1, ⟨26, 5, [i6 a0.kind, .str a0.name, i6 a0.num, sf cI a0.sc, sf Fm.cells a0.kids]⟩)] [] -> Qbr (Qbc Tryz.prog c) Q ⟨T, ss⟩) ?_ ?_
 ·intro Qcv L0 a0 r H
  intro ss
  refine Qau mixed Tryz.func71 rfl (by kernel_rfl) (rs := [.tmp 2]) rfl (by kernel_rfl) ?_
  have hF := Fx.refl ss
  have hX := Tau.none ss
  have q := dum
  have tT := dum
  refine go ?_
  refine Qag hF rfl fun b1 ss2 hF => ?_
  refine go ?_
  obtain ⟨o3, ho3, H⟩ := bnd H
  refine L0 a0 1 0 _ ho3 _ rfl _ _ b1 ?_ ?_ _ _  S hF
  ·intro Q3q he T5 ss6 tT hF
   have he := he.symm
   subst he
   refine go ?_
   have e := pur H; subst e
   exact rt [i6 Q3q]
  ·trivial
 ·intro Qfb Qcv C0 L0 a0 Qa1 Qba out H c hc Q tt b1 hE hR T ss tT hF
  obtain rfl := lpe (rfl : Qam Tryz.f71 0 = some _) hc
  refine Qah ?_
  have q := dum
  have hX := Tau.none tt
  refine go ?_
  refine cdp H (fun h H => ?_) (fun h H => ?_)
  ·obtain ⟨x16, f1, H⟩ := bil (g := Fm.cells) Fm.Qad H
   refine go1 ?_
   obtain ⟨x18, hx18, H⟩ := bnd H
   refine cl (C0 x16 _ hx18) ?_
   refine go ?_
   exact L0 a0 (i64.wrap (Qa1 + x18)) (i64.wrap (Qba + 1)) _ H _ rfl Q tt b1 hE hR _ _  S hF
  ·refine go ?_
   exact hE _ (pur H).symm _ _  S hF
theorem Qbe : ∀ (a0 : Fm) r, Qa9 a0 = some r -> Qb0 Tryz.prog 32 [.agg (Fm.cells a0)] (.bool r) := by
 intro a0 r H
 intro ss
 unfold Qa9 at H
 refine Qau mixed Tryz.func32 rfl (by kernel_rfl) (rs := [.tmp 2]) rfl (by kernel_rfl) ?_
 have hF := Fx.refl ss
 have hX := Tau.none ss
 have q := dum
 have tT := dum
 refine go ?_
 refine Qag hF rfl fun b1 ss2 hF => ?_
 refine go ?_
 obtain ⟨x4, hx4, H⟩ := bnd H
 refine cl (Q2i a0 40 _ hx4) ?_
 refine go ?_
 obtain ⟨x9, g3, H⟩ := bnd H
 refine Qai 3 6 9 (.bool x9) (gi q (fun q => ?_) (fun q => ?_)) (fun J => ?_)
 ·rw [if_pos (dbt q)] at g3
  refine go ?_
  obtain ⟨x7, hx7, g3⟩ := bnd g3
  refine cl (Qoi a0 _ hx7) ?_
  refine go ?_
  exact Qaw 6 g3
 ·rw [if_neg (dbf q)] at g3
  refine go ?_
  exact Qaw 6 g3
 refine go ?_
 have e := pur H; subst e
 exact rt [.bool x9]
theorem Qsg : ∀ (a0 : ByteArray) r, Qi5 a0 = some r -> Qb0 Tryz.prog 143 [.str a0] (.tup [.agg (Fm.cells r.1), .bool r.2]) := by
 intro a0 r H
 intro ss
 unfold Qi5 at H
 refine Qau mixed Tryz.func143 rfl (by kernel_rfl) (rs := [.cell 2 26, .tmp 3]) rfl (by kernel_rfl) ?_
 have hF := Fx.refl ss
 have hX := Tau.none ss
 have q := dum
 have tT := dum
 refine go ?_
 refine Qag hF rfl fun b1 ss2 hF => ?_
 refine go ?_
 obtain ⟨x8, hx8, H⟩ := bnd H
 refine cl (Qx4 a0 0 40 _ hx8) ?_
 refine go ?_
 refine Qag hF rfl fun b3 ss4 hF => ?_
 refine go ?_
 refine st hF 0 rfl fun ss5 hF => ?_
 refine go ?_
 obtain ⟨x20, g6, H⟩ := bnd H
 refine Qai 6 14 20 (.bool x20) (giN q (fun q => ?_) (fun q => ?_)) (fun J => ?_)
 ·rw [if_neg (df q)] at g6
  refine go ?_
  obtain ⟨x16, hx16, g6⟩ := bnd g6
  refine cl (Qka a0 x8.2 _ hx16) ?_
  refine go ?_
  exact Qaw 14 g6
 ·rw [if_pos (dt q)] at g6
  refine go ?_
  exact Qaw 14 g6
 refine go ?_
 obtain ⟨x25, g8, H⟩ := bnd H
 refine Qai 3 22 25 (.bool x25) (giN q (fun q => ?_) (fun q => ?_)) (fun J => ?_)
 ·rw [if_neg (dbf q)] at g8
  refine go ?_
  obtain ⟨x23, hx23, g8⟩ := bnd g8
  refine cl (Qbe x8.1 _ hx23) ?_
  refine go ?_
  exact Qaw 22 g8
 ·rw [if_pos (dbt q)] at g8
  refine go ?_
  exact Qaw 22 g8
 refine go ?_
 refine cdb H (fun h H => ?_) (fun h H => ?_)
 ·refine go ?_
  refine st hF 1 rfl fun s10 hF => ?_
  refine go ?_
  have e := pur H; subst e
  exact rt [.agg [i6 0, .str zB, i6 0, .Qab, .Qab], .bool false]
 ·refine go ?_
  refine st hF 1 rfl fun s11 hF => ?_
  refine go ?_
  have e := pur H; subst e
  exact rt [.agg [i6 x8.1.kind, .str x8.1.name, i6 x8.1.num, sf cI x8.1.sc, sf Fm.cells x8.1.kids], .bool true]
theorem Qk7 : ∀ (a0 : ByteArray) r, Qil a0 = some r -> Qb0 Tryz.prog 91 [.str a0] (.agg (Fm.cells r)) := by
 intro a0 r H
 intro ss
 unfold Qil at H
 refine Qau mixed Tryz.func91 rfl (by kernel_rfl) (rs := [.cell 2 26]) rfl (by kernel_rfl) ?_
 have hF := Fx.refl ss
 have hX := Tau.none ss
 have q := dum
 have tT := dum
 refine go ?_
 refine Qag hF rfl fun b1 ss2 hF => ?_
 refine go ?_
 obtain ⟨x7, hx7, H⟩ := bnd H
 refine cl (Qsg a0 _ hx7) ?_
 refine go ?_
 refine Qag hF rfl fun b3 ss4 hF => ?_
 refine go ?_
 refine st hF 0 rfl fun ss5 hF => ?_
 refine go ?_
 refine st hF 1 rfl fun ss6 hF => ?_
 refine go ?_
 have e := pur H; subst e
 exact rt [.agg [i6 x7.1.kind, .str x7.1.name, i6 x7.1.num, sf cI x7.1.sc, sf Fm.cells x7.1.kids]]
theorem Qwz : ∀  r, Ql1  = some r -> Qb0 Tryz.prog 217 [] (sf cS r) := by
 intro  r H
 intro ss
 unfold Ql1 at H
 refine Qau mixed Tryz.func217 rfl (by kernel_rfl) (rs := [.tmp 0]) rfl (by kernel_rfl) ?_
 have hF := Fx.refl ss
 have hX := Tau.none ss
 have q := dum
 have tT := dum
 refine goL ?_
 have e := pur H; subst e
 exact rt [.sl true (rws cS [(ByteArray.mk #[40, 108, 101, 116, 32, 40, 40, 120, 32, 49, 41, 32, 40, 121, 32, 50, 41, 41, 32, 40, 108, 101, 116, 45, 115, 121, 110, 116, 97, 120, 32, 40, 40, 115, 119, 97, 112, 32, 40, 114, 117, 108, 101, 115, 32, 40, 41, 32, 40, 40, 95, 32, 97, 32, 98, 41, 32, 40, 108, 101, 116, 32, 40, 40, 116, 109, 112, 32, 97, 41, 41, 32, 40, 108, 105, 115, 116, 32, 98, 32, 116, 109, 112, 41, 41, 41, 41, 41, 41, 32, 40, 115, 119, 97, 112, 32, 120, 32, 121, 41, 41, 41]), (ByteArray.mk #[40, 108, 101, 116, 32, 40, 40, 116, 109, 112, 32, 53, 41, 32, 40, 122, 32, 54, 41, 41, 32, 40, 108, 101, 116, 45, 115, 121, 110, 116, 97, 120, 32, 40, 40, 115, 119, 97, 112, 32, 40, 114, 117, 108, 101, 115, 32, 40, 41, 32, 40, 40, 95, 32, 97, 32, 98, 41, 32, 40, 108, 101, 116, 32, 40, 40, 116, 109, 112, 32, 97, 41, 41, 32, 40, 108, 105, 115, 116, 32, 98, 32, 116, 109, 112, 41, 41, 41, 41, 41, 41, 32, 40, 115, 119, 97, 112, 32, 116, 109, 112, 32, 122, 41, 41, 41]), (ByteArray.mk #[40, 108, 101, 116, 45, 115, 121, 110, 116, 97, 120, 32, 40, 40, 111, 114, 32, 40, 114, 117, 108, 101, 115, 32, 40, 41, 32, 40, 40, 95, 41, 32, 48, 41, 32, 40, 40, 95, 32, 97, 41, 32, 97, 41, 32, 40, 40, 95, 32, 97, 32, 98, 32, 46, 46, 46, 41, 32, 40, 108, 101, 116, 32, 40, 40, 116, 32, 97, 41, 41, 32, 40, 105, 102, 32, 116, 32, 116, 32, 40, 111, 114, 32, 98, 32, 46, 46, 46, 41, 41, 41, 41, 41, 41, 41, 32, 40, 108, 101, 116, 32, 40, 40, 116, 32, 53, 41, 41, 32, 40, 111, 114, 32, 48, 32, 116, 32, 55, 41, 41, 41]), (ByteArray.mk #[40, 108, 101, 116, 45, 115, 121, 110, 116, 97, 120, 32, 40, 40, 119, 105, 116, 104, 32, 40, 114, 117, 108, 101, 115, 32, 40, 41, 32, 40, 40, 95, 32, 40, 40, 120, 32, 118, 41, 32, 46, 46, 46, 41, 32, 98, 111, 100, 121, 41, 32, 40, 40, 108, 97, 109, 98, 100, 97, 32, 40, 120, 32, 46, 46, 46, 41, 32, 98, 111, 100, 121, 41, 32, 118, 32, 46, 46, 46, 41, 41, 41, 41, 41, 32, 40, 119, 105, 116, 104, 32, 40, 40, 112, 32, 49, 41, 32, 40, 113, 32, 50, 41, 41, 32, 40, 43, 32, 112, 32, 113, 41, 41, 41]), (ByteArray.mk #[40, 108, 101, 116, 32, 40, 40, 105, 102, 32, 108, 105, 115, 116, 41, 41, 32, 40, 108, 101, 116, 45, 115, 121, 110, 116, 97, 120, 32, 40, 40, 109, 32, 40, 114, 117, 108, 101, 115, 32, 40, 41, 32, 40, 40, 95, 32, 97, 41, 32, 40, 105, 102, 32, 97, 32, 49, 32, 50, 41, 41, 41, 41, 41, 32, 40, 109, 32, 53, 41, 41, 41]), (ByteArray.mk #[40, 108, 101, 116, 45, 115, 121, 110, 116, 97, 120, 32, 40, 40, 109, 32, 40, 114, 117, 108, 101, 115, 32, 40, 41, 32, 40, 40, 95, 32, 97, 41, 32, 40, 105, 102, 32, 97, 32, 49, 32, 50, 41, 41, 41, 41, 41, 32, 40, 108, 101, 116, 32, 40, 40, 105, 102, 32, 108, 105, 115, 116, 41, 41, 32, 40, 109, 32, 105, 102, 41, 41, 41]), (ByteArray.mk #[40, 108, 101, 116, 45, 115, 121, 110, 116, 97, 120, 32, 40, 40, 107, 32, 40, 114, 117, 108, 101, 115, 32, 40, 101, 108, 115, 101, 41, 32, 40, 40, 95, 32, 101, 108, 115, 101, 32, 97, 41, 32, 97, 41, 32, 40, 40, 95, 32, 98, 32, 97, 41, 32, 40, 108, 105, 115, 116, 32, 98, 32, 97, 41, 41, 41, 41, 41, 32, 40, 108, 101, 116, 32, 40, 40, 101, 108, 115, 101, 32, 51, 41, 41, 32, 40, 107, 32, 101, 108, 115, 101, 32, 52, 41, 41, 41]), (ByteArray.mk #[40, 108, 101, 116, 45, 115, 121, 110, 116, 97, 120, 32, 40, 40, 107, 32, 40, 114, 117, 108, 101, 115, 32, 40, 101, 108, 115, 101, 41, 32, 40, 40, 95, 32, 101, 108, 115, 101, 32, 97, 41, 32, 97, 41, 32, 40, 40, 95, 32, 98, 32, 97, 41, 32, 40, 108, 105, 115, 116, 32, 98, 32, 97, 41, 41, 41, 41, 41, 32, 40, 107, 32, 101, 108, 115, 101, 32, 52, 41, 41]), (ByteArray.mk #[40, 108, 101, 116, 45, 115, 121, 110, 116, 97, 120, 32, 40, 40, 108, 111, 111, 112, 32, 40, 114, 117, 108, 101, 115, 32, 40, 41, 32, 40, 40, 95, 41, 32, 40, 108, 111, 111, 112, 41, 41, 41, 41, 41, 32, 40, 108, 111, 111, 112, 41, 41]), (ByteArray.mk #[40, 108, 101, 116, 45, 115, 121, 110, 116, 97, 120, 32, 40, 40, 109, 32, 40, 114, 117, 108, 101, 115, 32, 40, 41, 32, 40, 40, 95, 32, 97, 41, 32, 49, 41, 41, 41, 41, 32, 40, 109, 41, 41]), (ByteArray.mk #[40, 108, 97, 109, 98, 100, 97, 32, 40, 120, 41, 32, 40, 108, 97, 109, 98, 100, 97, 32, 40, 120, 32, 121, 41, 32, 40, 120, 32, 121, 32, 40, 113, 117, 111, 116, 101, 32, 40, 120, 32, 49, 41, 41, 41, 41, 41]), (ByteArray.mk #[40, 108, 101, 116, 45, 115, 121, 110, 116, 97, 120, 32, 40, 40, 100, 101, 102, 32, 40, 114, 117, 108, 101, 115, 32, 40, 41, 32, 40, 40, 95, 32, 110, 32, 101, 32, 98, 41, 32, 40, 108, 101, 116, 32, 40, 40, 110, 32, 101, 41, 41, 32, 98, 41, 41, 41, 41, 41, 32, 40, 100, 101, 102, 32, 122, 32, 51, 32, 40, 43, 32, 122, 32, 122, 41, 41, 41]), (ByteArray.mk #[40, 108, 101, 116, 45, 115, 121, 110, 116, 97, 120, 32, 40, 40, 97, 32, 40, 114, 117, 108, 101, 115, 32, 40, 41, 32, 40, 40, 95, 32, 120, 41, 32, 40, 98, 32, 120, 41, 41, 41, 41, 32, 40, 98, 32, 40, 114, 117, 108, 101, 115, 32, 40, 41, 32, 40, 40, 95, 32, 121, 41, 32, 40, 108, 105, 115, 116, 32, 121, 32, 121, 41, 41, 41, 41, 41, 32, 40, 97, 32, 55, 41, 41]), (ByteArray.mk #[40, 108, 101, 116, 45, 115, 121, 110, 116, 97, 120, 32, 40, 40, 109, 121, 32, 40, 114, 117, 108, 101, 115, 32, 40, 41, 32, 40, 40, 95, 32, 102, 41, 32, 40, 108, 97, 109, 98, 100, 97, 32, 40, 120, 41, 32, 40, 102, 32, 120, 41, 41, 41, 41, 41, 41, 32, 40, 108, 101, 116, 32, 40, 40, 120, 32, 51, 41, 41, 32, 40, 40, 109, 121, 32, 40, 108, 97, 109, 98, 100, 97, 32, 40, 121, 41, 32, 40, 43, 32, 120, 32, 121, 41, 41, 41, 32, 52, 41, 41, 41]), (ByteArray.mk #[40, 108, 101, 116, 45, 115, 121, 110, 116, 97, 120, 32, 40, 40, 116, 119, 111, 32, 40, 114, 117, 108, 101, 115, 32, 40, 41, 32, 40, 40, 95, 32, 110, 41, 32, 40, 108, 97, 109, 98, 100, 97, 32, 40, 110, 32, 120, 41, 32, 40, 43, 32, 110, 32, 120, 41, 41, 41, 41, 41, 41, 32, 40, 116, 119, 111, 32, 120, 41, 41])])]
theorem Qcw : ∀ (a0 : List Fm) r, Qdq a0 = some r -> Qb0 Tryz.prog 219 [sf Fm.cells a0] (.agg (Fm.cells r)) := by
 intro a0 r H
 intro ss
 unfold Qdq at H
 refine Qau mixed Tryz.func219 rfl (by kernel_rfl) (rs := [.cell 2 26]) rfl (by kernel_rfl) ?_
 have hF := Fx.refl ss
 have hX := Tau.none ss
 have q := dum
 have tT := dum
 refine go ?_
 refine Qag hF rfl fun b1 ss2 hF => ?_
 refine go ?_
 refine st hF 0 rfl fun ss3 hF => ?_
 refine go ?_
 have e := pur H; subst e
 exact rt [.agg [i6 3, .str zB, i6 0, .Qab, sf Fm.cells a0]]
theorem Qyn : ∀ (a1 : List ByteArray) (a2 : Int) (c0 : Rdr) r, Qcd a1 a2 c0 = some r -> ∀ (e0 : Nat)  (ss : Sto), Pre ss [(e0, ⟨122, 2, [sf cU c0.b, i6 c0.p]⟩)] [] -> Ctr Tryz.prog 218 [.ptr e0 0, sf cS a1, i6 a2] ss (fun r' ss' => ∃ (tt' : Sto), r' = .agg (Fm.cells r.1) /\ Tau (strip ss []) [(e0, ⟨122, 2, [sf cU r.2.b, i6 r.2.p]⟩)] tt' /\ Fx tt' ss' [] []) := by
 refine Qcd.partial_correctness  (motive := fun a1 a2 c0 r => ∀ (e0 : Nat)  (ss : Sto), Pre ss [(e0, ⟨122, 2, [sf cU c0.b, i6 c0.p]⟩)] [] -> Ctr Tryz.prog 218 [.ptr e0 0, sf cS a1, i6 a2] ss (fun r' ss' => ∃ (tt' : Sto), r' = .agg (Fm.cells r.1) /\ Tau (strip ss []) [(e0, ⟨122, 2, [sf cU r.2.b, i6 r.2.p]⟩)] tt' /\ Fx tt' ss' [] [])) ?_
 ·intro Qcd C0 a1 a2 c0 r H
  intro e0  ss hP
  refine Qau mixed Tryz.func218 rfl (by kernel_rfl) (rs := [.cell 6 26]) rfl (by kernel_rfl) ?_
  obtain ⟨hF, hX⟩ := hP.start
  generalize strip ss [] = tt0 at hF hX ⊢
  have q := dum
  have tT := dum
  refine go ?_
  refine Qag hF rfl fun b1 ss2 hF => ?_
  refine go ?_
  refine giN q (fun q => ?_) (fun q => ?_)
  ·rw [if_neg (df q)] at H
   refine go ?_
   obtain ⟨Q8e, hx14_1, H⟩ := bnd H
   refine cx (Qan 5 c0 _ hx14_1 e0  _ (pre 0 1 0 hF hX)) ?_
   rintro _ s8 ⟨tt9, rfl, hT, hG⟩
   obtain ⟨t10, hX, hF⟩ := aft 0 1 0 hF hX hT hG
   refine go ?_
   refine cdp H (fun h H => ?_) (fun h H => ?_)
   ·refine go ?_
    obtain ⟨x18, hx18, H⟩ := bnd H
    refine cx (Qan 3 Q8e.2 _ hx18 e0  _ (pre 0 1 0 hF hX)) ?_
    rintro _ s11 ⟨t12, rfl, hT, hG⟩
    obtain ⟨t13, hX, hF⟩ := aft 0 1 0 hF hX hT hG
    refine go ?_
    refine cdp H (fun h H => ?_) (fun h H => ?_)
    ·refine go ?_
     obtain ⟨x22, hx22, H⟩ := bnd H
     refine cx (Qa6 [0, 1, 2, 7] x18.2 _ hx22 e0  _ (pre 0 1 0 hF hX)) ?_
     rintro _ s14 ⟨t15, rfl, hT, hG⟩
     obtain ⟨t16, hX, hF⟩ := aft 0 1 0 hF hX hT hG
     refine go ?_
     refine st hF 0 rfl fun s17 hF => ?_
     refine go ?_
     have e := pur H; subst e
     exact rg [.agg [i6 2, .str zB, i6 x22.1, .Qab, .Qab]] ⟨_, rfl, hX, Fx.self _⟩
    ·refine go ?_
     obtain ⟨x28, hx28, H⟩ := bnd H
     refine cx (Qan (a1.length : Int) x18.2 _ hx28 e0  _ (pre 0 1 0 hF hX)) ?_
     rintro _ s18 ⟨t19, rfl, hT, hG⟩
     obtain ⟨tt20, hX, hF⟩ := aft 0 1 0 hF hX hT hG
     obtain ⟨x29, f1, H⟩ := bil (g := cS) (fun _ => rfl) H
     refine go1 ?_
     obtain ⟨x31, hx31, H⟩ := bnd H
     refine cl (Qcf x29 _ hx31) ?_
     refine go ?_
     refine st hF 0 rfl fun s21 hF => ?_
     refine go ?_
     have e := pur H; subst e
     exact rg [.agg [i6 x31.kind, .str x31.name, i6 x31.num, sf cI x31.sc, sf Fm.cells x31.kids]] ⟨_, rfl, hX, Fx.self _⟩
   ·refine go ?_
    obtain ⟨x34, hx34, H⟩ := bnd H
    refine cx (Qc1 [(ByteArray.mk #[120]), (ByteArray.mk #[121]), (ByteArray.mk #[116])] Q8e.2 _ hx34 e0  _ (pre 0 1 0 hF hX)) ?_
    rintro _ s22 ⟨t23, rfl, hT, hG⟩
    obtain ⟨t24, hX, hF⟩ := aft 0 1 0 hF hX hT hG
    refine go ?_
    have hF := hF.lit 9 1 (rws cS []) rfl
    refine apd (g := cS) hF 0 H (rdo (c := false) (g := cS) (fun _ => rfl)) fun x37 H v25 s26 hF => ?_
    refine go ?_
    refine apf (g := cS) hF 0 H (rdo (c := true) (g := cS) (fun _ => rfl)) fun x40 H s28 hF => ?_
    refine go ?_
    obtain ⟨x42, hx42, H⟩ := bnd H
    refine cx (Qan 8 x34.2 _ hx42 e0  _ (pre 0 1 0 hF hX)) ?_
    rintro _ s29 ⟨t30, rfl, hT, hG⟩
    obtain ⟨tt31, hX, hF⟩ := aft 0 1 0 hF hX hT hG
    refine go ?_
    obtain ⟨Q4m, j33, H⟩ := bnd H
    refine Qca (fun s' => ∃ (T : Nat -> AV) (ss1 : Sto) (tt1 : Sto), s' = ⟨T, ss1⟩ /\ (T 0 = .ptr e0 0 /\ T 1 = sf cS a1 /\ T 2 = i6 a2 /\ T 6 = .ptr b1 0 /\ T 7 = .str x34.1 /\ T 8 = sf cS x40 /\ T 42 = i6 x42.1 /\ T 43 = .bool Q4m) /\ Tau tt0 [(e0, ⟨122, 2, [sf cU x42.2.b, i6 x42.2.p]⟩)] tt1 /\ Fx tt1 ss1 [(b1, ⟨26, 5, [i6 0, .str zB, i6 0, .Qab, .Qab]⟩)] []) (cdp j33 (fun h j33 => ?_) (fun h j33 => ?_)) ?_
    ·refine go ?_
     have e := pur j33
     subst e
     exact ⟨_, _, _, rfl, S, hX, hF⟩
    ·refine go ?_
     have e := pur j33
     subst e
     exact ⟨_, _, _, rfl, S, hX, hF⟩
    ·rintro s' ⟨T34, s35, t36, rfl, tT, hX, hF⟩
     refine go ?_
     refine cdb H (fun h H => ?_) (fun h H => ?_)
     ·refine go ?_
      obtain ⟨x46, hx46, H⟩ := bnd H
      refine cl (Qcf (ByteArray.mk #[108, 97, 109, 98, 100, 97]) _ hx46) ?_
      refine go ?_
      obtain ⟨x48, hx48, H⟩ := bnd H
      refine cl (Qcf x34.1 _ hx48) ?_
      refine go ?_
      obtain ⟨x50, hx50, H⟩ := bnd H
      refine cl (Qcw [x48] _ hx50) ?_
      refine go ?_
      obtain ⟨x55, hx55, H⟩ := bnd H
      refine cx (C0 x40 (i64.wrap (a2 - 1)) x42.2 _ hx55 e0  _ (pre 0 1 0 hF hX)) ?_
      rintro _ s37 ⟨t38, rfl, hT, hG⟩
      obtain ⟨t39, hX, hF⟩ := aft 0 1 0 hF hX hT hG
      refine go ?_
      obtain ⟨x57, hx57, H⟩ := bnd H
      refine cl (Qcw [x46, x50, x55.1] _ hx57) ?_
      refine go ?_
      refine st hF 0 rfl fun s40 hF => ?_
      refine go ?_
      have e := pur H; subst e
      exact rg [.agg [i6 x57.kind, .str x57.name, i6 x57.num, sf cI x57.sc, sf Fm.cells x57.kids]] ⟨_, rfl, hX, Fx.self _⟩
     ·refine go ?_
      obtain ⟨Q4n, j42, H⟩ := bnd H
      refine Qca (fun s' => ∃ (T : Nat -> AV) (ss1 : Sto) (tt1 : Sto), s' = ⟨T, ss1⟩ /\ (T 0 = .ptr e0 0 /\ T 1 = sf cS a1 /\ T 2 = i6 a2 /\ T 6 = .ptr b1 0 /\ T 7 = .str x34.1 /\ T 8 = sf cS x40 /\ T 42 = i6 x42.1 /\ T 58 = .bool Q4n) /\ Tau tt0 [(e0, ⟨122, 2, [sf cU x42.2.b, i6 x42.2.p]⟩)] tt1 /\ Fx tt1 ss1 [(b1, ⟨26, 5, [i6 0, .str zB, i6 0, .Qab, .Qab]⟩)] []) (cdp j42 (fun h j42 => ?_) (fun h j42 => ?_)) ?_
      ·refine go ?_
       have e := pur j42
       subst e
       exact ⟨_, _, _, rfl, S, hX, hF⟩
      ·refine go ?_
       have e := pur j42
       subst e
       exact ⟨_, _, _, rfl, S, hX, hF⟩
      ·rintro s' ⟨T43, s44, t45, rfl, tT, hX, hF⟩
       refine go ?_
       refine cdb H (fun h H => ?_) (fun h H => ?_)
       ·refine go ?_
        obtain ⟨x62, hx62, H⟩ := bnd H
        refine cl (Qcf x34.1 _ hx62) ?_
        refine go ?_
        obtain ⟨x67, hx67, H⟩ := bnd H
        refine cx (C0 a1 (i64.wrap (a2 - 1)) x42.2 _ hx67 e0  _ (pre 0 1 0 hF hX)) ?_
        rintro _ s46 ⟨t47, rfl, hT, hG⟩
        obtain ⟨t48, hX, hF⟩ := aft 0 1 0 hF hX hT hG
        refine go ?_
        obtain ⟨x69, hx69, H⟩ := bnd H
        refine cl (Qcw [x62, x67.1] _ hx69) ?_
        refine go ?_
        refine Qag hF rfl fun b49 s50 hF => ?_
        refine go ?_
        refine st hF 0 rfl fun s51 hF => ?_
        refine go ?_
        obtain ⟨E, hEq⟩ : ∃ E, E = EE s51 [e0] := ⟨_, rfl⟩
        have n52 : ¬ E b49 := by rw [hEq]; exact EE.not (hF.at 0 rfl) (by simp only [List.mem_cons, List.not_mem_nil, or_false, not_or]; exact neX hF 0 rfl hX 0 rfl)
        have n53 : ¬ E b1 := by rw [hEq]; exact EE.not (hF.at 1 rfl) (by simp only [List.mem_cons, List.not_mem_nil, or_false, not_or]; exact neX hF 1 rfl hX 0 rfl)
        refine Qaq E [.v, .v, .v, .v, .v, .v, .v, .v, .x, .v, .v, .z] (by kernel_rfl) ?_
        have z := And.intro (Qaf (hF.at 0 rfl) n52) (Qaf (hF.at 1 rfl) n53); refine gh ?_
        obtain ⟨x70, hx70, H⟩ := bnd H
        refine cv (Qcf (ByteArray.mk #[108, 101, 116]) _ hx70) ?_
        have z := And.intro (Qaf (hF.at 0 rfl) n52) (Qaf (hF.at 1 rfl) n53); refine gh ?_
        obtain ⟨x73, hx73, H⟩ := bnd H
        refine cv (Qcw [x69] _ hx73) ?_
        have z := And.intro (Qaf (hF.at 0 rfl) n52) (Qaf (hF.at 1 rfl) n53); refine gh ?_
        obtain ⟨x78, hx78, H⟩ := bnd H
        refine cx (C0 x40 (i64.wrap (a2 - 1)) x67.2 _ hx78 e0  _ (pre 0 1 0 hF hX)) ?_
        rintro _ s54 ⟨t55, rfl, hT, hG⟩
        refine Qke (Fx.kept hT hG (by intro p hp; simp only [List.mem_cons, List.not_mem_nil, or_false] at hp <;> first | (rcases hp with rfl <;> (rw [hEq]; first | (refine EE.of ?_; simp; done) | exact EE.new rfl))| cases hp)) fun kp57 => ?_
        obtain ⟨t56, hX, hF⟩ := aft 0 1 0 hF hX hT hG
        have z := And.intro (Qaf (hF.at 0 rfl) n52) (Qaf (hF.at 1 rfl) n53); refine gh ?_
        obtain ⟨x80, hx80, H⟩ := bnd H
        refine cv (Qcw [x70, x73, x78.1] _ hx80) ?_
        have z := And.intro (Qaf (hF.at 0 rfl) n52) (Qaf (hF.at 1 rfl) n53); refine gh ?_
        refine st hF 1 rfl fun s58 hF => ?_
        have z := And.intro (Qaf (hF.at 0 rfl) n52) (Qaf (hF.at 1 rfl) n53); refine gh ?_
        refine go ?_
        have e := pur H; subst e
        exact rg [.agg [i6 x80.kind, .str x80.name, i6 x80.num, sf cI x80.sc, sf Fm.cells x80.kids]] ⟨_, rfl, hX, Fx.self _⟩
       ·refine go ?_
        refine cdp H (fun h H => ?_) (fun h H => ?_)
        ·refine go ?_
         obtain ⟨x83, hx83, H⟩ := bnd H
         refine cl (Qcf (ByteArray.mk #[105, 102]) _ hx83) ?_
         refine go ?_
         obtain ⟨x88, hx88, H⟩ := bnd H
         refine cx (C0 a1 (i64.wrap (a2 - 1)) x42.2 _ hx88 e0  _ (pre 0 1 0 hF hX)) ?_
         rintro _ s59 ⟨t60, rfl, hT, hG⟩
         obtain ⟨t61, hX, hF⟩ := aft 0 1 0 hF hX hT hG
         refine go ?_
         obtain ⟨x93, hx93, H⟩ := bnd H
         refine cx (C0 a1 (i64.wrap (a2 - 1)) x88.2 _ hx93 e0  _ (pre 0 1 0 hF hX)) ?_
         rintro _ s62 ⟨t63, rfl, hT, hG⟩
         obtain ⟨t64, hX, hF⟩ := aft 0 1 0 hF hX hT hG
         refine go ?_
         obtain ⟨x96, hx96, H⟩ := bnd H
         refine cx (C0 a1 0 x93.2 _ hx96 e0  _ (pre 0 1 0 hF hX)) ?_
         rintro _ s65 ⟨t66, rfl, hT, hG⟩
         obtain ⟨t67, hX, hF⟩ := aft 0 1 0 hF hX hT hG
         refine go ?_
         obtain ⟨x98, hx98, H⟩ := bnd H
         refine cl (Qcw [x83, x88.1, x93.1, x96.1] _ hx98) ?_
         refine go ?_
         refine st hF 0 rfl fun s68 hF => ?_
         refine go ?_
         have e := pur H; subst e
         exact rg [.agg [i6 x98.kind, .str x98.name, i6 x98.num, sf cI x98.sc, sf Fm.cells x98.kids]] ⟨_, rfl, hX, Fx.self _⟩
        ·refine go ?_
         refine cdp H (fun h H => ?_) (fun h H => ?_)
         ·refine go ?_
          obtain ⟨x101, hx101, H⟩ := bnd H
          refine cl (Qcf (ByteArray.mk #[113, 117, 111, 116, 101]) _ hx101) ?_
          refine go ?_
          obtain ⟨x103, hx103, H⟩ := bnd H
          refine cx (Qgx 1 x42.2 _ hx103 e0  _ (pre 0 1 0 hF hX)) ?_
          rintro _ s69 ⟨tt70, rfl, hT, hG⟩
          obtain ⟨t71, hX, hF⟩ := aft 0 1 0 hF hX hT hG
          refine go ?_
          obtain ⟨x105, hx105, H⟩ := bnd H
          refine cl (Qcw [x101, x103.1] _ hx105) ?_
          refine go ?_
          refine st hF 0 rfl fun s72 hF => ?_
          refine go ?_
          have e := pur H; subst e
          exact rg [.agg [i6 x105.kind, .str x105.name, i6 x105.num, sf cI x105.sc, sf Fm.cells x105.kids]] ⟨_, rfl, hX, Fx.self _⟩
         ·refine go ?_
          obtain ⟨x110, hx110, H⟩ := bnd H
          refine cx (C0 a1 (i64.wrap (a2 - 1)) x42.2 _ hx110 e0  _ (pre 0 1 0 hF hX)) ?_
          rintro _ s73 ⟨t74, rfl, hT, hG⟩
          obtain ⟨tt75, hX, hF⟩ := aft 0 1 0 hF hX hT hG
          refine go ?_
          obtain ⟨x115, hx115, H⟩ := bnd H
          refine cx (C0 a1 (i64.wrap (a2 - 1)) x110.2 _ hx115 e0  _ (pre 0 1 0 hF hX)) ?_
          rintro _ s76 ⟨t77, rfl, hT, hG⟩
          obtain ⟨t78, hX, hF⟩ := aft 0 1 0 hF hX hT hG
          refine go ?_
          obtain ⟨x117, hx117, H⟩ := bnd H
          refine cl (Qcw [x110.1, x115.1] _ hx117) ?_
          refine go ?_
          refine st hF 0 rfl fun s79 hF => ?_
          refine go ?_
          have e := pur H; subst e
          exact rg [.agg [i6 x117.kind, .str x117.name, i6 x117.num, sf cI x117.sc, sf Fm.cells x117.kids]] ⟨_, rfl, hX, Fx.self _⟩
  ·rw [if_pos (dt q)] at H
   refine go ?_
   obtain ⟨Q8f, hx18_1, H⟩ := bnd H
   refine cx (Qan 3 c0 _ hx18_1 e0  _ (pre 0 1 0 hF hX)) ?_
   rintro _ s80 ⟨t81, rfl, hT, hG⟩
   obtain ⟨t82, hX, hF⟩ := aft 0 1 0 hF hX hT hG
   refine go ?_
   refine cdp H (fun h H => ?_) (fun h H => ?_)
   ·refine go ?_
    obtain ⟨Ke4, hx22_1, H⟩ := bnd H
    refine cx (Qa6 [0, 1, 2, 7] Q8f.2 _ hx22_1 e0  _ (pre 0 1 0 hF hX)) ?_
    rintro _ s83 ⟨t84, rfl, hT, hG⟩
    obtain ⟨t85, hX, hF⟩ := aft 0 1 0 hF hX hT hG
    refine go ?_
    refine st hF 0 rfl fun s86 hF => ?_
    refine go ?_
    have e := pur H; subst e
    exact rg [.agg [i6 2, .str zB, i6 Ke4.1, .Qab, .Qab]] ⟨_, rfl, hX, Fx.self _⟩
   ·refine go ?_
    obtain ⟨Qyx, hx28_1, H⟩ := bnd H
    refine cx (Qan (a1.length : Int) Q8f.2 _ hx28_1 e0  _ (pre 0 1 0 hF hX)) ?_
    rintro _ s87 ⟨t88, rfl, hT, hG⟩
    obtain ⟨t89, hX, hF⟩ := aft 0 1 0 hF hX hT hG
    obtain ⟨Ki3, f1, H⟩ := bil (g := cS) (fun _ => rfl) H
    refine go1 ?_
    obtain ⟨Q4k, hx31_1, H⟩ := bnd H
    refine cl (Qcf Ki3 _ hx31_1) ?_
    refine go ?_
    refine st hF 0 rfl fun s90 hF => ?_
    refine go ?_
    have e := pur H; subst e
    exact rg [.agg [i6 Q4k.kind, .str Q4k.name, i6 Q4k.num, sf cI Q4k.sc, sf Fm.cells Q4k.kids]] ⟨_, rfl, hX, Fx.self _⟩
theorem Qyl : ∀ (c0 : Rdr) r, Qlf c0 = some r -> ∀ (e0 : Nat)  (ss : Sto), Pre ss [(e0, ⟨122, 2, [sf cU c0.b, i6 c0.p]⟩)] [] -> Ctr Tryz.prog 177 [.ptr e0 0] ss (fun r' ss' => ∃ (tt' : Sto), r' = .agg (Fm.cells r.1) /\ Tau (strip ss []) [(e0, ⟨122, 2, [sf cU r.2.b, i6 r.2.p]⟩)] tt' /\ Fx tt' ss' [] []) := by
 intro c0 r H
 intro e0  ss hP
 unfold Qlf at H
 refine Qau mixed Tryz.func177 rfl (by kernel_rfl) (rs := [.cell 2 26]) rfl (by kernel_rfl) ?_
 obtain ⟨hF, hX⟩ := hP.start
 generalize strip ss [] = tt0 at hF hX ⊢
 have q := dum
 have tT := dum
 refine go ?_
 refine Qag hF rfl fun b1 ss2 hF => ?_
 refine go ?_
 obtain ⟨x6, hx6, H⟩ := bnd H
 refine cl (Qwz  _ hx6) ?_
 refine go ?_
 obtain ⟨x8, hx8, H⟩ := bnd H
 refine cx (Qan 3 c0 _ hx8 e0  _ (pre 0 1 0 hF hX)) ?_
 rintro _ ss3 ⟨tt4, rfl, hT, hG⟩
 obtain ⟨tt5, hX, hF⟩ := aft 0 1 0 hF hX hT hG
 refine goL ?_
 refine cdp H (fun h H => ?_) (fun h H => ?_)
 ·refine go ?_
  obtain ⟨x14, hx14, H⟩ := bnd H
  refine cx (Qan (x6.length : Int) x8.2 _ hx14 e0  _ (pre 0 1 0 hF hX)) ?_
  rintro _ ss6 ⟨t7, rfl, hT, hG⟩
  obtain ⟨t8, hX, hF⟩ := aft 0 1 0 hF hX hT hG
  obtain ⟨x15, f1, H⟩ := bil (g := cS) (fun _ => rfl) H
  refine go1 ?_
  obtain ⟨x17, hx17, H⟩ := bnd H
  refine cl (Qk7 x15 _ hx17) ?_
  refine go ?_
  refine st hF 0 rfl fun s9 hF => ?_
  refine go ?_
  have e := pur H; subst e
  exact rg [.agg [i6 x17.kind, .str x17.name, i6 x17.num, sf cI x17.sc, sf Fm.cells x17.kids]] ⟨_, rfl, hX, Fx.self _⟩
 ·refine go ?_
  obtain ⟨x22, hx22, H⟩ := bnd H
  refine cx (Qa6 [4, 3, 2] x8.2 _ hx22 e0  _ (pre 0 1 0 hF hX)) ?_
  rintro _ s10 ⟨t11, rfl, hT, hG⟩
  obtain ⟨t12, hX, hF⟩ := aft 0 1 0 hF hX hT hG
  refine go ?_
  obtain ⟨x23, hx23, H⟩ := bnd H
  refine cx (Qyn [(ByteArray.mk #[43]), (ByteArray.mk #[108, 105, 115, 116]), (ByteArray.mk #[103])] x22.1 x22.2 _ hx23 e0  _ (pre 0 1 0 hF hX)) ?_
  rintro _ s13 ⟨t14, rfl, hT, hG⟩
  obtain ⟨t15, hX, hF⟩ := aft 0 1 0 hF hX hT hG
  refine go ?_
  refine Qag hF rfl fun b16 s17 hF => ?_
  refine go ?_
  refine st hF 0 rfl fun s18 hF => ?_
  refine go ?_
  obtain ⟨x25, hx25, H⟩ := bnd H
  refine cx (Qan 2 x23.2 _ hx25 e0  _ (pre 0 1 0 hF hX)) ?_
  rintro _ s19 ⟨tt20, rfl, hT, hG⟩
  obtain ⟨t21, hX, hF⟩ := aft 0 1 0 hF hX hT hG
  refine goL ?_
  refine cdp H (fun h H => ?_) (fun h H => ?_)
  ·refine goL ?_
   obtain ⟨x27, hx27, H⟩ := bnd H
   refine cl (Qk7 (ByteArray.mk #[40, 114, 117, 108, 101, 115, 32, 40, 41, 32, 40, 40, 95, 32, 97, 32, 98, 41, 32, 40, 108, 101, 116, 32, 40, 40, 116, 32, 97, 41, 41, 32, 40, 108, 105, 115, 116, 32, 98, 32, 116, 41, 41, 41, 32, 40, 40, 95, 32, 97, 41, 32, 40, 108, 101, 116, 32, 40, 40, 120, 32, 97, 41, 41, 32, 40, 108, 105, 115, 116, 32, 120, 32, 97, 41, 41, 41, 41]) _ hx27) ?_
   refine goL ?_
   refine Qag hF rfl fun b22 s23 hF => ?_
   refine goL ?_
   refine st hF 0 rfl fun s24 hF => ?_
   refine goL ?_
   refine Qaq E0 [.v, .v, .v, .v, .v, .v, .v, .v, .v, .v, .z] (by kernel_rfl) ?_
   refine goL ?_
   obtain ⟨x28, hx28, H⟩ := bnd H
   refine cv (Qcf (ByteArray.mk #[108, 101, 116, 45, 115, 121, 110, 116, 97, 120]) _ hx28) ?_
   refine goL ?_
   obtain ⟨x29, hx29, H⟩ := bnd H
   refine cv (Qcf (ByteArray.mk #[103]) _ hx29) ?_
   refine goL ?_
   obtain ⟨x32, hx32, H⟩ := bnd H
   refine cv (Qcw [x29, x27] _ hx32) ?_
   refine goL ?_
   obtain ⟨x34, hx34, H⟩ := bnd H
   refine cv (Qcw [x32] _ hx34) ?_
   refine goL ?_
   obtain ⟨x37, hx37, H⟩ := bnd H
   refine cv (Qcw [x28, x34, x23.1] _ hx37) ?_
   refine goL ?_
   refine st hF 1 rfl fun s25 hF => ?_
   refine goL ?_
   refine st hF 2 rfl fun s26 hF => ?_
   refine goL ?_
   have e := pur H; subst e
   exact rg [.agg [i6 x37.kind, .str x37.name, i6 x37.num, sf cI x37.sc, sf Fm.cells x37.kids]] ⟨_, rfl, hX, Fx.self _⟩
  ·refine goL ?_
   refine st hF 1 rfl fun s27 hF => ?_
   refine goL ?_
   have e := pur H; subst e
   exact rg [.agg [i6 x23.1.kind, .str x23.1.name, i6 x23.1.num, sf cI x23.1.sc, sf Fm.cells x23.1.kids]] ⟨_, rfl, hX, Fx.self _⟩
theorem Qyp : ∀ (c0 : Rdr) r, Qlk c0 = some r -> ∀ (e0 : Nat)  (ss : Sto), Pre ss [(e0, ⟨122, 2, [sf cU c0.b, i6 c0.p]⟩)] [] -> Ctr Tryz.prog 139 [.ptr e0 0] ss (fun r' ss' => ∃ (tt' : Sto), r' = .agg (Fm.cells r.1) /\ Tau (strip ss []) [(e0, ⟨122, 2, [sf cU r.2.b, i6 r.2.p]⟩)] tt' /\ Fx tt' ss' [] []) := by
 intro c0 r H
 intro e0  ss hP
 unfold Qlk at H
 refine Qau mixed Tryz.func139 rfl (by kernel_rfl) (rs := [.cell 2 26]) rfl (by kernel_rfl) ?_
 obtain ⟨hF, hX⟩ := hP.start
 generalize strip ss [] = tt0 at hF hX ⊢
 have q := dum
 have tT := dum
 refine go ?_
 refine Qag hF rfl fun b1 ss2 hF => ?_
 refine go ?_
 obtain ⟨x4, hx4, H⟩ := bnd H
 refine cl (Qw1  _ hx4) ?_
 refine go ?_
 obtain ⟨x6, hx6, H⟩ := bnd H
 refine cx (Qan 3 c0 _ hx6 e0  _ (pre 0 1 0 hF hX)) ?_
 rintro _ ss3 ⟨tt4, rfl, hT, hG⟩
 obtain ⟨tt5, hX, hF⟩ := aft 0 1 0 hF hX hT hG
 refine go ?_
 refine cdp H (fun h H => ?_) (fun h H => ?_)
 ·refine go ?_
  obtain ⟨x12, hx12, H⟩ := bnd H
  refine cx (Qan (x4.length : Int) x6.2 _ hx12 e0  _ (pre 0 1 0 hF hX)) ?_
  rintro _ ss6 ⟨t7, rfl, hT, hG⟩
  obtain ⟨t8, hX, hF⟩ := aft 0 1 0 hF hX hT hG
  obtain ⟨x13, f1, H⟩ := bil (g := cS) (fun _ => rfl) H
  refine go1 ?_
  obtain ⟨x15, hx15, H⟩ := bnd H
  refine cl (Qk7 x13 _ hx15) ?_
  refine go ?_
  refine st hF 0 rfl fun s9 hF => ?_
  refine go ?_
  have e := pur H; subst e
  exact rg [.agg [i6 x15.kind, .str x15.name, i6 x15.num, sf cI x15.sc, sf Fm.cells x15.kids]] ⟨_, rfl, hX, Fx.self _⟩
 ·refine go ?_
  obtain ⟨x17, hx17, H⟩ := bnd H
  refine cx (Qyl x6.2 _ hx17 e0  _ (pre 0 1 0 hF hX)) ?_
  rintro _ s10 ⟨t11, rfl, hT, hG⟩
  obtain ⟨t12, hX, hF⟩ := aft 0 1 0 hF hX hT hG
  refine go ?_
  refine st hF 0 rfl fun s13 hF => ?_
  refine go ?_
  have e := pur H; subst e
  exact rg [.agg [i6 x17.1.kind, .str x17.1.name, i6 x17.1.num, sf cI x17.1.sc, sf Fm.cells x17.1.kids]] ⟨_, rfl, hX, Fx.self _⟩
theorem Qwx : ∀  r, Ql0  = some r -> Qb0 Tryz.prog 225 [] (sf cS r) := by
 intro  r H
 intro ss
 unfold Ql0 at H
 refine Qau mixed Tryz.func225 rfl (by kernel_rfl) (rs := [.tmp 0]) rfl (by kernel_rfl) ?_
 have hF := Fx.refl ss
 have hX := Tau.none ss
 have q := dum
 have tT := dum
 refine go ?_
 have e := pur H; subst e
 exact rt [.sl true (rws cS [zB, (ByteArray.mk #[108, 97, 109, 98, 100, 97]), (ByteArray.mk #[105, 102]), (ByteArray.mk #[113, 117, 111, 116, 101]), (ByteArray.mk #[108, 101, 116]), (ByteArray.mk #[108, 101, 116, 45, 115, 121, 110, 116, 97, 120])])]
theorem Ql8 : ∀ (x5 : List ByteArray) (Qac : List Bnd) (Qa1 : Int) out, Qbd x5 Qac Qa1 = some out -> ∀ c, Qam Tryz.f179 0 = some c -> ∀ (Q : AX -> AS -> Prop) (tt : Sto) (b1 : Nat) (b3 : Nat), (∀ (Qbn : List Bnd), out = Qbn -> ∀ (T : Nat -> AV) (ss : Sto) (e0v0 : AV), T 0 = .ptr b1 0 /\ T 1 = .ptr b3 0 -> Fx tt ss [(b3, ⟨203, 5, [e0v0, .Qab, i6 0, i6 10, i6 0]⟩), (b1, ⟨203, 5, [.Qab, .Qab, i6 0, i6 0, i6 0]⟩)] [⟨e0v0, 85, 3, rws Bnd.cells Qbn⟩] -> Q (.ex 0) ⟨T, ss⟩) -> True -> ∀ (T : Nat -> AV) (ss : Sto) (z0v0 : AV), T 0 = .ptr b1 0 /\ T 1 = .ptr b3 0 /\ T 2 = sf cS x5 /\ T 3 = i6 Qa1 -> Fx tt ss [(b3, ⟨203, 5, [z0v0, .Qab, i6 0, i6 10, i6 0]⟩), (b1, ⟨203, 5, [.Qab, .Qab, i6 0, i6 0, i6 0]⟩)] [⟨z0v0, 85, 3, rws Bnd.cells Qac⟩] -> Qbr (Qbc Tryz.prog c) Q ⟨T, ss⟩ := by
 intro x5 Qac Qa1
 revert Qac Qa1
 refine Qbd.partial_correctness x5 _ ?_
 intro Qbd IH Qac Qa1 out H c hc Q tt b1 b3 hE hR T ss z0v0 tT hF
 obtain rfl := lpe (rfl : Qam Tryz.f179 0 = some _) hc
 refine Qah ?_
 have q := dum
 have hX := Tau.none tt
 refine go ?_
 refine cdp H (fun h H => ?_) (fun h H => ?_)
 ·refine go ?_
  refine Qaq E0 [.v, .v, .v, .v, .v, .v, .v, .v, .v, .x, .v, .z] (by kernel_rfl) ?_
  obtain ⟨x16, f1, H⟩ := bil (g := cS) (fun _ => rfl) H
  refine go1 ?_
  refine Kn1 (g := Bnd.cells) (rows := [[.str x16, .Qab, i6 Qa1]]) hF 0 H Bnd.Qad true rfl (by simp only [sf, i6, zB, Qb9, Qd3, cI, cU, cS, cL, Bnd.Qaa, Fm.kind, Fm.name, Fm.num, Fm.sc, Fm.kids, Hit.name, Hit.depth, Hit.one, Hit.many, Cor.kind, Cor.id, Cor.name, Cor.num, Cor.ids, Cor.data, Cor.kids, Val.kind, Val.num, Val.name, Val.items, Val.fn, Val.env, Slt.id, Slt.val, List.flatten_cons, List.flatten_nil, List.append_nil, List.cons_append, List.nil_append]; exact (.cons (.refl _) id (.cons .Qab (fun _ => rfl) (.cons (.refl _) id .nil)))) fun x21 H v6 s7 hF => ?_
  refine go ?_
  refine st hF 0 (hF.cells 0 rfl) fun s8 hF => ?_
  refine go ?_
  exact IH  x21 (i64.wrap (Qa1 + 1)) _ H _ rfl Q tt b1 b3 hE hR _ _ v6 S hF
 ·refine go ?_
  exact hE _ (pur H).symm _ _ z0v0 S hF
theorem Qnw : ∀  r, Qc4  = some r -> Qb0 Tryz.prog 179 [] (.agg (Xpn.cells r)) := by
 intro  r H
 intro ss
 unfold Qc4 at H
 refine Qau mixed Tryz.func179 rfl (by kernel_rfl) (rs := [.cell 0 203]) rfl (by kernel_rfl) ?_
 have hF := Fx.refl ss
 have hX := Tau.none ss
 have q := dum
 have tT := dum
 refine go ?_
 refine Qag hF rfl fun b1 ss2 hF => ?_
 refine go ?_
 refine Qag hF rfl fun b3 ss4 hF => ?_
 refine go ?_
 refine st hF 0 rfl fun ss5 hF => ?_
 refine go ?_
 obtain ⟨x5, hx5, H⟩ := bnd H
 refine cl (Qwx  _ hx5) ?_
 have hF := hF.nil 85 3
 refine go ?_
 obtain ⟨o9, ho9, H⟩ := bnd H
 refine Ql8 x5 [] 1 _ ho9 _ rfl _ _ b1 b3 ?_ ?_ _ _ .Qab S hF
 ·intro Q1o he T11 s12 e10v0 tT hF
  have he := he.symm
  subst he
  refine go ?_
  refine st hF 1 rfl fun s14 hF => ?_
  refine go ?_
  have e := pur H; subst e
  exact rt [.agg [e10v0, .Qab, i6 0, i6 10, i6 0]]
 ·trivial
theorem Qt6 : ∀ (a0 : List Int) (a1 : Int) (Qaj : Int) out, Qe3 a0 a1 Qaj = some out -> ∀ c, Qam Tryz.f228 0 = some c -> ∀ (Q : AX -> AS -> Prop) (tt : Sto), (∀ (_u : Unit), out = Sum.inr () -> ∀ (T : Nat -> AV) (ss : Sto), 0 + 0 = 0 -> Fx tt ss [] [] -> Q (.ex 0) ⟨T, ss⟩) -> (∀ r, out = Sum.inl r -> ∀ s', Qkk Tryz.prog [.tmp 4] (fun r' ss' => r' = .bool r /\ ss' = tt) s' -> Q .ret s') -> ∀ (T : Nat -> AV) (ss : Sto), T 0 = sf cI a0 /\ T 1 = i6 a1 /\ T 5 = i6 Qaj -> Fx tt ss [] [] -> Qbr (Qbc Tryz.prog c) Q ⟨T, ss⟩ := by
 intro a0 a1 Qaj
 revert Qaj
 refine Qe3.partial_correctness a0 a1 _ ?_
 intro Qe3 IH Qaj out H c hc Q tt  hE hR T ss tT hF
 obtain rfl := lpe (rfl : Qam Tryz.f228 0 = some _) hc
 refine Qah ?_
 have q := dum
 have hX := Tau.none tt
 refine go ?_
 refine cdp H (fun h H => ?_) (fun h H => ?_)
 ·obtain ⟨x14, f1, H⟩ := bil (g := cI) (fun _ => rfl) H
  refine go1 ?_
  refine go ?_
  refine cdp H (fun h H => ?_) (fun h H => ?_)
  ·refine go ?_
   exact hR _ (pur H).symm _ (rt [.bool true])
  ·refine go ?_
   exact IH  (i64.wrap (Qaj + 1)) _ H _ rfl Q tt  hE hR _ _  S hF
 ·refine go ?_
  exact hE () (pur H).symm _ _  S hF
theorem Qjt : ∀ (a0 : List Int) (a1 : Int) r, Qfv a0 a1 = some r -> Qb0 Tryz.prog 228 [sf cI a0, i6 a1] (.bool r) := by
 intro a0 a1 r H
 intro ss
 unfold Qfv at H
 refine Qau mixed Tryz.func228 rfl (by kernel_rfl) (rs := [.tmp 4]) rfl (by kernel_rfl) ?_
 have hF := Fx.refl ss
 have hX := Tau.none ss
 have q := dum
 have tT := dum
 refine go ?_
 obtain ⟨o1, ho1, H⟩ := bnd H
 refine Qt6 a0 a1 0 _ ho1 _ rfl _ _  ?_ ?_ _ _  S hF
 ·intro _ he T3 ss4 tT hF
  have he := he.symm
  subst he
  dsimp only at H
  refine go ?_
  have e := pur H; subst e
  exact rt [.bool false]
 ·intro r hr s' hs
  subst hr
  have e := pur H; subst e
  first | exact hs | (try simp only [sf, i6, zB, Fm.Qaa, Xpn.Qaa, Cor.Qaa, Bnd.Qaa, Hit.Qaa, Rul.Qaa, Mac.Qaa, Stp.Qaa, Val.Qaa] at hs ⊢; exact hs)
theorem Qnd : ∀ (a0 : List Int) (a1 : List Int) (Qaj : Int) out, Qbx a0 a1 Qaj = some out -> ∀ c, Qam Tryz.f195 0 = some c -> ∀ (Q : AX -> AS -> Prop) (tt : Sto), (∀ (_u : Unit), out = Sum.inr () -> ∀ (T : Nat -> AV) (ss : Sto), 0 + 0 = 0 -> Fx tt ss [] [] -> Q (.ex 0) ⟨T, ss⟩) -> (∀ r, out = Sum.inl r -> ∀ s', Qkk Tryz.prog [.tmp 4] (fun r' ss' => r' = .bool r /\ ss' = tt) s' -> Q .ret s') -> ∀ (T : Nat -> AV) (ss : Sto), T 0 = sf cI a0 /\ T 1 = sf cI a1 /\ T 5 = i6 Qaj -> Fx tt ss [] [] -> Qbr (Qbc Tryz.prog c) Q ⟨T, ss⟩ := by
 intro a0 a1 Qaj
 revert Qaj
 refine Qbx.partial_correctness a0 a1 _ ?_
 intro Qbx IH Qaj out H c hc Q tt  hE hR T ss tT hF
 obtain rfl := lpe (rfl : Qam Tryz.f195 0 = some _) hc
 refine Qah ?_
 have q := dum
 have hX := Tau.none tt
 refine go ?_
 refine cdp H (fun h H => ?_) (fun h H => ?_)
 ·obtain ⟨x15, f1, H⟩ := bil (g := cI) (fun _ => rfl) H
  refine go1 ?_
  obtain ⟨x17, hx17, H⟩ := bnd H
  refine cl (Qjt a1 x15 _ hx17) ?_
  refine go ?_
  refine cdb H (fun h H => ?_) (fun h H => ?_)
  ·refine go ?_
   exact hR _ (pur H).symm _ (rt [.bool false])
  ·refine go ?_
   exact IH  (i64.wrap (Qaj + 1)) _ H _ rfl Q tt  hE hR _ _  S hF
 ·refine go ?_
  exact hE () (pur H).symm _ _  S hF
theorem Qko : ∀ (a0 : List Int) (a1 : List Int) r, Qc7 a0 a1 = some r -> Qb0 Tryz.prog 195 [sf cI a0, sf cI a1] (.bool r) := by
 intro a0 a1 r H
 intro ss
 unfold Qc7 at H
 refine Qau mixed Tryz.func195 rfl (by kernel_rfl) (rs := [.tmp 4]) rfl (by kernel_rfl) ?_
 have hF := Fx.refl ss
 have hX := Tau.none ss
 have q := dum
 have tT := dum
 refine go ?_
 obtain ⟨o1, ho1, H⟩ := bnd H
 refine Qnd a0 a1 0 _ ho1 _ rfl _ _  ?_ ?_ _ _  S hF
 ·intro _ he T3 ss4 tT hF
  have he := he.symm
  subst he
  dsimp only at H
  refine go ?_
  have e := pur H; subst e
  exact rt [.bool true]
 ·intro r hr s' hs
  subst hr
  have e := pur H; subst e
  first | exact hs | (try simp only [sf, i6, zB, Fm.Qaa, Xpn.Qaa, Cor.Qaa, Bnd.Qaa, Hit.Qaa, Rul.Qaa, Mac.Qaa, Stp.Qaa, Val.Qaa] at hs ⊢; exact hs)
theorem Qpc : ∀ (a0 : List Bnd) (a1 : Fm) (Qac : List Int) (Qa7 : Int) out, Qb5 a0 a1 Qac Qa7 = some out -> ∀ c, Qam Tryz.f194 0 = some c -> ∀ (Q : AX -> AS -> Prop) (tt : Sto) (b1 : Nat), (∀ (Qbn : List Int), out = Qbn -> ∀ (T : Nat -> AV) (ss : Sto) (e0v0 : AV), T 5 = e0v0 -> Fx tt ss [(b1, ⟨26, 5, [i6 a1.kind, .str a1.name, i6 a1.num, sf cI a1.sc, sf Fm.cells a1.kids]⟩)] [⟨e0v0, 3, 1, rws cI Qbn⟩] -> Q (.ex 0) ⟨T, ss⟩) -> True -> ∀ (T : Nat -> AV) (ss : Sto) (z0v0 : AV), T 0 = sf Bnd.cells a0 /\ T 3 = .ptr b1 0 /\ T 5 = z0v0 /\ T 6 = i6 Qa7 -> Fx tt ss [(b1, ⟨26, 5, [i6 a1.kind, .str a1.name, i6 a1.num, sf cI a1.sc, sf Fm.cells a1.kids]⟩)] [⟨z0v0, 3, 1, rws cI Qac⟩] -> Qbr (Qbc Tryz.prog c) Q ⟨T, ss⟩ := by
 intro a0 a1 Qac Qa7
 revert Qac Qa7
 refine Qb5.partial_correctness a0 a1 _ ?_
 intro Qb5 IH Qac Qa7 out H c hc Q tt b1 hE hR T ss z0v0 tT hF
 obtain rfl := lpe (rfl : Qam Tryz.f194 0 = some _) hc
 refine Qah ?_
 have q := dum
 have hX := Tau.none tt
 refine go ?_
 refine cdp H (fun h H => ?_) (fun h H => ?_)
 ·refine go ?_
  refine Qaq E0 [.v, .v, .v, .v, .v, .v, .v, .v, .v, .v, .v, .v, .v, .v, .v, .v, .v, .v] (by kernel_rfl) ?_
  obtain ⟨x16, f1, H⟩ := bil (g := Bnd.cells) Bnd.Qad H
  refine go1 ?_
  obtain ⟨x31, g3, H⟩ := bnd H
  refine Qb4 8 23 31 (.bool x31) (ti q (fun q => ?_) (fun q => ?_)) (fun J => ?_)
  ·rw [if_pos (dt q)] at g3
   obtain ⟨x25, f1, g3⟩ := bil (g := Bnd.cells) Bnd.Qad g3
   refine go1 ?_
   obtain ⟨x30, hx30, g3⟩ := bnd g3
   refine cv (Qko x25.sc a1.sc _ hx30) ?_
   refine go ?_
   exact Qaw 23 g3
  ·rw [if_neg (df q)] at g3
   refine go ?_
   exact Qaw 23 g3
  refine go ?_
  refine cdb H (fun h H => ?_) (fun h H => ?_)
  ·refine go ?_
   refine apd (g := cI) hF 0 H (rdo (c := true) (g := cI) (fun _ => rfl)) fun x35 H v5 ss6 hF => ?_
   refine go ?_
   exact IH  x35 (i64.wrap (Qa7 + 1)) _ H _ rfl Q tt b1 hE hR _ _ v5 S hF
  ·refine go ?_
   exact IH  Qac (i64.wrap (Qa7 + 1)) _ H _ rfl Q tt b1 hE hR _ _ z0v0 S hF
 ·refine go ?_
  exact hE _ (pur H).symm _ _ z0v0 S hF
theorem Qsw : ∀ (a0 : List Bnd) (a1 : Fm) r, Qi7 a0 a1 = some r -> Qb0 Tryz.prog 194 [sf Bnd.cells a0, .agg (Fm.cells a1)] (sf cI r) := by
 intro a0 a1 r H
 intro ss
 unfold Qi7 at H
 refine Qau mixed Tryz.func194 rfl (by kernel_rfl) (rs := [.tmp 4]) rfl (by kernel_rfl) ?_
 have hF := Fx.refl ss
 have hX := Tau.none ss
 have q := dum
 have tT := dum
 refine go ?_
 refine Qag hF rfl fun b1 ss2 hF => ?_
 have hF := hF.lit 3 1 (rws cI []) rfl
 refine go ?_
 obtain ⟨o7, ho7, H⟩ := bnd H
 refine Qpc a0 a1 [] 0 _ ho7 _ rfl _ _ b1 ?_ ?_ _ _ (.sl true (rws cI [])) S hF
 ·intro Kav he T9 s10 e8v0 tT hF
  have he := he.symm
  subst he
  refine go ?_
  have e := pur H; subst e
  exact rt [e8v0]
 ·trivial
theorem Qsv : ∀ (a0 : List Bnd) (a1 : Fm) (x12 : List Int) (Qa2 : Int) (Qdx : Bool) (Qif : Int) out, Qdk a0 a1 x12 Qa2 Qdx Qif = some out -> ∀ c, Qam Tryz.f155 1 = some c -> ∀ (Q : AX -> AS -> Prop) (tt : Sto) (b1 : Nat), (∀ (Kaq : Bool), out = Kaq -> ∀ (T : Nat -> AV) (ss : Sto), T 0 = sf Bnd.cells a0 /\ T 6 = sf cI x12 /\ T 7 = i6 Qa2 /\ T 8 = .bool Kaq -> Fx tt ss [(b1, ⟨26, 5, [i6 a1.kind, .str a1.name, i6 a1.num, sf cI a1.sc, sf Fm.cells a1.kids]⟩)] [] -> Q (.ex 2) ⟨T, ss⟩) -> True -> ∀ (T : Nat -> AV) (ss : Sto), T 0 = sf Bnd.cells a0 /\ T 6 = sf cI x12 /\ T 7 = i6 Qa2 /\ T 8 = .bool Qdx /\ T 9 = i6 Qif -> Fx tt ss [(b1, ⟨26, 5, [i6 a1.kind, .str a1.name, i6 a1.num, sf cI a1.sc, sf Fm.cells a1.kids]⟩)] [] -> Qbr (Qbc Tryz.prog c) Q ⟨T, ss⟩ := by
 intro a0 a1 x12 Qa2 Qdx Qif
 revert Qdx Qif
 refine Qdk.partial_correctness a0 a1 x12 Qa2 _ ?_
 intro Qdk IH Qdx Qif out H c hc Q tt b1 hE hR T ss tT hF
 obtain rfl := lpe (rfl : Qam Tryz.f155 1 = some _) hc
 refine Qah ?_
 have q := dum
 have hX := Tau.none tt
 refine go ?_
 refine cdp H (fun h H => ?_) (fun h H => ?_)
 ·refine go ?_
  refine Qaq E0 [.v, .v, .v, .v, .v, .v, .v, .v, .v, .v, .v, .v, .v, .v, .v, .v, .v, .v, .v, .v, .v] (by kernel_rfl) ?_
  refine go ?_
  obtain ⟨x44, g3, H⟩ := bnd H
  refine Qb4 17 27 44 (.bool x44) (ti q (fun q => ?_) (fun q => ?_)) (fun J => ?_)
  ·rw [if_pos (dbt q)] at g3
   obtain ⟨x30, f1, g3⟩ := bil (g := cI) (fun _ => rfl) g3
   obtain ⟨x32, f2, g3⟩ := bil (g := Bnd.cells) Bnd.Qad g3
   obtain ⟨x38, f3, g3⟩ := bil (g := cI) (fun _ => rfl) g3
   obtain ⟨x40, f4, g3⟩ := bil (g := Bnd.cells) Bnd.Qad g3
   refine go4 ?_
   obtain ⟨x43, hx43, g3⟩ := bnd g3
   refine cv (Qko x32.sc x40.sc _ hx43) ?_
   refine go ?_
   exact Qaw 27 g3
  ·rw [if_neg (dbf q)] at g3
   refine go ?_
   exact Qaw 27 g3
  refine go ?_
  exact IH  x44 (i64.wrap (Qif + 1)) _ H _ rfl Q tt b1 hE hR _ _  S hF
 ·refine go ?_
  exact hE _ (pur H).symm _ _  S hF
theorem Qsu : ∀ (a0 : List Bnd) (a1 : Fm) (x12 : List Int) (Qa2 : Int) out, Qec a0 a1 x12 Qa2 = some out -> ∀ c, Qam Tryz.f155 0 = some c -> ∀ (Q : AX -> AS -> Prop) (tt : Sto) (b1 : Nat), (∀ (_u : Unit), out = Sum.inr () -> ∀ (T : Nat -> AV) (ss : Sto), T 6 = sf cI x12 -> Fx tt ss [(b1, ⟨26, 5, [i6 a1.kind, .str a1.name, i6 a1.num, sf cI a1.sc, sf Fm.cells a1.kids]⟩)] [] -> Q (.ex 0) ⟨T, ss⟩) -> (∀ r, out = Sum.inl r -> ∀ s', Qkk Tryz.prog [.tmp 4, .tmp 5] (fun r' ss' => r' = .tup [i6 r.1, i6 r.2] /\ ss' = tt) s' -> Q .ret s') -> ∀ (T : Nat -> AV) (ss : Sto), T 0 = sf Bnd.cells a0 /\ T 6 = sf cI x12 /\ T 7 = i6 Qa2 -> Fx tt ss [(b1, ⟨26, 5, [i6 a1.kind, .str a1.name, i6 a1.num, sf cI a1.sc, sf Fm.cells a1.kids]⟩)] [] -> Qbr (Qbc Tryz.prog c) Q ⟨T, ss⟩ := by
 intro a0 a1 x12 Qa2
 revert Qa2
 refine Qec.partial_correctness a0 a1 x12 _ ?_
 intro Qec IH Qa2 out H c hc Q tt b1 hE hR T ss tT hF
 obtain rfl := lpe (rfl : Qam Tryz.f155 0 = some _) hc
 refine Qah ?_
 have q := dum
 have hX := Tau.none tt
 refine go ?_
 refine cdp H (fun h H => ?_) (fun h H => ?_)
 ·refine go ?_
  obtain ⟨o5, ho5, H⟩ := bnd H
  refine Qsv a0 a1 x12 Qa2 true 0 _ ho5 _ rfl _ _ b1 ?_ ?_ _ _  S hF
  ·intro Kdc he T7 s8 tT hF
   have he := he.symm
   subst he
   refine go ?_
   refine cdb H (fun h H => ?_) (fun h H => ?_)
   ·obtain ⟨x48, f1, H⟩ := bil (g := cI) (fun _ => rfl) H
    refine go1 ?_
    refine go ?_
    exact hR _ (pur H).symm _ (rt [i6 x48, i6 1])
   ·refine go ?_
    exact IH  (i64.wrap (Qa2 + 1)) _ H _ rfl Q tt b1 hE hR _ _  S hF
  ·trivial
 ·refine go ?_
  exact hE () (pur H).symm _ _  S hF
theorem Qma : ∀ (a0 : List Bnd) (a1 : Fm) r, Qjc a0 a1 = some r -> Qb0 Tryz.prog 155 [sf Bnd.cells a0, .agg (Fm.cells a1)] (.tup [i6 r.1, i6 r.2]) := by
 intro a0 a1 r H
 intro ss
 unfold Qjc at H
 refine Qau mixed Tryz.func155 rfl (by kernel_rfl) (rs := [.tmp 4, .tmp 5]) rfl (by kernel_rfl) ?_
 have hF := Fx.refl ss
 have hX := Tau.none ss
 have q := dum
 have tT := dum
 refine go ?_
 refine Qag hF rfl fun b1 ss2 hF => ?_
 refine go ?_
 obtain ⟨x12, hx12, H⟩ := bnd H
 refine cl (Qsw a0 a1 _ hx12) ?_
 refine go ?_
 obtain ⟨o10, ho10, H⟩ := bnd H
 refine Qsu a0 a1 x12 0 _ ho10 _ rfl _ _ b1 ?_ ?_ _ _  S hF
 ·intro _ he T12 s13 tT hF
  have he := he.symm
  subst he
  dsimp only at H
  refine go ?_
  refine cdp H (fun h H => ?_) (fun h H => ?_)
  ·refine go ?_
   have e := pur H; subst e
   exact rt [i6 0, i6 2]
  ·refine go ?_
   have e := pur H; subst e
   exact rt [i6 0, i6 0]
 ·intro r hr s' hs
  subst hr
  have e := pur H; subst e
  first | exact hs | (try simp only [sf, i6, zB, Fm.Qaa, Xpn.Qaa, Cor.Qaa, Bnd.Qaa, Hit.Qaa, Rul.Qaa, Mac.Qaa, Stp.Qaa, Val.Qaa] at hs ⊢; exact hs)
theorem Qro : ∀ (a0 : Xpn) (a1 : Int) (Qaj : Int) out, Qdu a0 a1 Qaj = some out -> ∀ c, Qam Tryz.f266 0 = some c -> ∀ (Q : AX -> AS -> Prop) (tt : Sto) (b1 : Nat), (∀ (_u : Unit), out = Sum.inr () -> ∀ (T : Nat -> AV) (ss : Sto), 0 + 0 = 0 -> Fx tt ss [(b1, ⟨203, 5, [sf Bnd.cells a0.binds, sf Mac.cells a0.macs, i6 a0.scope, i6 a0.id, i6 a0.steps]⟩)] [] -> Q (.ex 0) ⟨T, ss⟩) -> (∀ r, out = Sum.inl r -> ∀ s', Qkk Tryz.prog [.tmp 4] (fun r' ss' => r' = i6 r /\ ss' = tt) s' -> Q .ret s') -> ∀ (T : Nat -> AV) (ss : Sto), T 1 = i6 a1 /\ T 2 = .ptr b1 0 /\ T 5 = i6 Qaj -> Fx tt ss [(b1, ⟨203, 5, [sf Bnd.cells a0.binds, sf Mac.cells a0.macs, i6 a0.scope, i6 a0.id, i6 a0.steps]⟩)] [] -> Qbr (Qbc Tryz.prog c) Q ⟨T, ss⟩ := by
 intro a0 a1 Qaj
 revert Qaj
 refine Qdu.partial_correctness a0 a1 _ ?_
 intro Qdu IH Qaj out H c hc Q tt b1 hE hR T ss tT hF
 obtain rfl := lpe (rfl : Qam Tryz.f266 0 = some _) hc
 refine Qah ?_
 have q := dum
 have hX := Tau.none tt
 refine go ?_
 refine cdp H (fun h H => ?_) (fun h H => ?_)
 ·obtain ⟨x16, f1, H⟩ := bil (g := Mac.cells) Mac.Qad H
  refine go1 ?_
  refine go ?_
  refine cdp H (fun h H => ?_) (fun h H => ?_)
  ·refine go ?_
   exact hR _ (pur H).symm _ (rt [i6 Qaj])
  ·refine go ?_
   exact IH  (i64.wrap (Qaj + 1)) _ H _ rfl Q tt b1 hE hR _ _  S hF
 ·refine go ?_
  exact hE () (pur H).symm _ _  S hF
theorem Qos : ∀ (a0 : Xpn) (a1 : Int) r, Qjl a0 a1 = some r -> Qb0 Tryz.prog 266 [.agg (Xpn.cells a0), i6 a1] (i6 r) := by
 intro a0 a1 r H
 intro ss
 unfold Qjl at H
 refine Qau mixed Tryz.func266 rfl (by kernel_rfl) (rs := [.tmp 4]) rfl (by kernel_rfl) ?_
 have hF := Fx.refl ss
 have hX := Tau.none ss
 have q := dum
 have tT := dum
 refine go ?_
 refine Qag hF rfl fun b1 ss2 hF => ?_
 refine go ?_
 obtain ⟨o3, ho3, H⟩ := bnd H
 refine Qro a0 a1 0 _ ho3 _ rfl _ _ b1 ?_ ?_ _ _  S hF
 ·intro _ he T5 ss6 tT hF
  have he := he.symm
  subst he
  dsimp only at H
  refine go ?_
  have e := pur H; subst e
  exact rt [i6 (-1)]
 ·intro r hr s' hs
  subst hr
  have e := pur H; subst e
  first | exact hs | (try simp only [sf, i6, zB, Fm.Qaa, Xpn.Qaa, Cor.Qaa, Bnd.Qaa, Hit.Qaa, Rul.Qaa, Mac.Qaa, Stp.Qaa, Val.Qaa] at hs ⊢; exact hs)
theorem Qmv : ∀ (a0 : Xpn) (a1 : Fm) r, Qid a0 a1 = some r -> Qb0 Tryz.prog 221 [.agg (Xpn.cells a0), .agg (Fm.cells a1)] (.tup [i6 r.1, i6 r.2]) := by
 intro a0 a1 r H
 intro ss
 unfold Qid at H
 refine Qau mixed Tryz.func221 rfl (by kernel_rfl) (rs := [.tmp 4, .tmp 5]) rfl (by kernel_rfl) ?_
 have hF := Fx.refl ss
 have hX := Tau.none ss
 have q := dum
 have tT := dum
 refine go ?_
 refine Qag hF rfl fun b1 ss2 hF => ?_
 refine go ?_
 refine Qag hF rfl fun b3 ss4 hF => ?_
 refine go ?_
 obtain ⟨x13, hx13, H⟩ := bnd H
 refine cl (Qma a0.binds a1 _ hx13) ?_
 refine go ?_
 refine cdp H (fun h H => ?_) (fun h H => ?_)
 ·refine go ?_
  have e := pur H; subst e
  exact rt [i6 0, i6 0]
 ·refine go ?_
  refine cdp H (fun h H => ?_) (fun h H => ?_)
  ·refine go ?_
   have e := pur H; subst e
   exact rt [i6 4, i6 0]
  ·obtain ⟨x24, f1, H⟩ := bil (g := Bnd.cells) Bnd.Qad H
   refine go1 ?_
   refine go ?_
   refine cdp H (fun h H => ?_) (fun h H => ?_)
   ·refine go ?_
    have e := pur H; subst e
    exact rt [i6 1, i6 x24.id]
   ·refine go ?_
    obtain ⟨x34, hx34, H⟩ := bnd H
    refine cl (Qos a0 x24.id _ hx34) ?_
    refine go ?_
    refine cdp H (fun h H => ?_) (fun h H => ?_)
    ·refine go ?_
     have e := pur H; subst e
     exact rt [i6 2, i6 x24.id]
    ·refine go ?_
     have e := pur H; subst e
     exact rt [i6 3, i6 x24.id]
theorem Qym : ∀ (a0 : Xpn) (a1 : Fm) r, Qlh a0 a1 = some r -> Qb0 Tryz.prog 262 [.agg (Xpn.cells a0), .agg (Fm.cells a1)] (.tup [.agg (Xpn.cells r.1), .agg (Cor.cells r.2.1), i6 r.2.2]) := by
 intro a0 a1 r H
 intro ss
 unfold Qlh at H
 refine Qau mixed Tryz.func262 rfl (by kernel_rfl) (rs := [.cell 4 203, .cell 5 31, .tmp 6]) rfl (by kernel_rfl) ?_
 have hF := Fx.refl ss
 have hX := Tau.none ss
 have q := dum
 have tT := dum
 refine go ?_
 refine Qag hF rfl fun b1 ss2 hF => ?_
 refine go ?_
 refine Qag hF rfl fun b3 ss4 hF => ?_
 refine go ?_
 refine Qag hF rfl fun b5 ss6 hF => ?_
 refine go ?_
 refine Qag hF rfl fun b7 s8 hF => ?_
 refine go ?_
 obtain ⟨x12, hx12, H⟩ := bnd H
 refine cl (Qmv a0 a1 _ hx12) ?_
 refine go ?_
 refine cdp H (fun h H => ?_) (fun h H => ?_)
 ·refine go ?_
  obtain ⟨E, hEq⟩ : ∃ E, E = EE s8 [b5, b7] := ⟨_, rfl⟩
  have n9 : ¬ E b3 := by rw [hEq]; exact EE.not (hF.at 2 rfl) (by simp only [List.mem_cons, List.not_mem_nil, or_false, not_or]; exact ⟨neL hF 2 1 rfl rfl (by decide), neL hF 2 0 rfl rfl (by decide)⟩)
  have n10 : ¬ E b1 := by rw [hEq]; exact EE.not (hF.at 3 rfl) (by simp only [List.mem_cons, List.not_mem_nil, or_false, not_or]; exact ⟨neL hF 3 1 rfl rfl (by decide), neL hF 3 0 rfl rfl (by decide)⟩)
  refine Qaq E [.v, .v, .v, .v, .x, .x, .v] (by kernel_rfl) ?_
  have z := And.intro (Qaf (hF.at 2 rfl) n9) (Qaf (hF.at 3 rfl) n10); refine gh ?_
  refine stK hF 1 (by rw [hEq]; exact EE.of (by simp)) rfl fun s11 hF => ?_
  have z := And.intro (Qaf (hF.at 2 rfl) n9) (Qaf (hF.at 3 rfl) n10); refine gh ?_
  refine stK hF 0 (by rw [hEq]; exact EE.of (by simp)) rfl fun s12 hF => ?_
  have z := And.intro (Qaf (hF.at 2 rfl) n9) (Qaf (hF.at 3 rfl) n10); refine gh ?_
  refine go ?_
  have e := pur H; subst e
  exact rt [.agg [sf Bnd.cells a0.binds, sf Mac.cells a0.macs, i6 a0.scope, i6 a0.id, i6 a0.steps], .agg [i6 2, i6 0, .str a1.name, i6 0, .Qab, i6 0, .str zB, i6 0, .Qab, .Qab, .Qab], i6 0]
 ·refine go ?_
  refine cdp H (fun h H => ?_) (fun h H => ?_)
  ·refine go ?_
   refine st hF 1 rfl fun s13 hF => ?_
   refine go ?_
   refine st hF 0 rfl fun s14 hF => ?_
   refine go ?_
   have e := pur H; subst e
   exact rt [.agg [sf Bnd.cells a0.binds, sf Mac.cells a0.macs, i6 a0.scope, i6 a0.id, i6 a0.steps], .agg [i6 1, i6 x12.2, .str zB, i6 0, .Qab, i6 0, .str zB, i6 0, .Qab, .Qab, .Qab], i6 0]
  ·refine go ?_
   refine cdp H (fun h H => ?_) (fun h H => ?_)
   ·refine go ?_
    refine st hF 1 rfl fun s15 hF => ?_
    refine go ?_
    refine st hF 0 rfl fun s16 hF => ?_
    refine go ?_
    have e := pur H; subst e
    exact rt [.agg [sf Bnd.cells a0.binds, sf Mac.cells a0.macs, i6 a0.scope, i6 a0.id, i6 a0.steps], .agg [i6 0, i6 0, .str zB, i6 0, .Qab, i6 0, .str zB, i6 0, .Qab, .Qab, .Qab], i6 2]
   ·refine go ?_
    refine st hF 1 rfl fun s17 hF => ?_
    refine go ?_
    refine st hF 0 rfl fun s18 hF => ?_
    refine go ?_
    have e := pur H; subst e
    exact rt [.agg [sf Bnd.cells a0.binds, sf Mac.cells a0.macs, i6 a0.scope, i6 a0.id, i6 a0.steps], .agg [i6 0, i6 0, .str zB, i6 0, .Qab, i6 0, .str zB, i6 0, .Qab, .Qab, .Qab], i6 5]
theorem Qmr : ∀ (a0 : Fm) r, Qdg a0 = some r -> Qb0 Tryz.prog 44 [.agg (Fm.cells a0)] (.agg (Fm.cells r)) := by
 refine Qdg.partial_correctness  (motive_1 := fun a0 r => Qb0 Tryz.prog 44 [.agg (Fm.cells a0)] (.agg (Fm.cells r))) (motive_2 := fun a0 Qac Qba out => ∀ c, Qam Tryz.f44 0 = some c -> ∀ (Q : AX -> AS -> Prop) (tt : Sto) (b1 : Nat) (b3 : Nat) (b5 : Nat), (∀ (Qbn : List Fm), out = Qbn -> ∀ (T : Nat -> AV) (ss : Sto) (e0v0 : AV), T 2 = .ptr b3 0 /\ T 3 = .ptr b5 0 -> Fx tt ss [(b5, ⟨26, 5, [i6 a0.kind, .str a0.name, i6 a0.num, .Qab, e0v0]⟩), (b3, ⟨26, 5, [i6 0, .str zB, i6 0, .Qab, .Qab]⟩), (b1, ⟨26, 5, [i6 a0.kind, .str a0.name, i6 a0.num, sf cI a0.sc, sf Fm.cells a0.kids]⟩)] [⟨e0v0, 26, 5, rws Fm.cells Qbn⟩] -> Q (.ex 0) ⟨T, ss⟩) -> True -> ∀ (T : Nat -> AV) (ss : Sto) (z0v0 : AV), T 1 = .ptr b1 0 /\ T 2 = .ptr b3 0 /\ T 3 = .ptr b5 0 /\ T 4 = i6 Qba -> Fx tt ss [(b5, ⟨26, 5, [i6 a0.kind, .str a0.name, i6 a0.num, .Qab, z0v0]⟩), (b3, ⟨26, 5, [i6 0, .str zB, i6 0, .Qab, .Qab]⟩), (b1, ⟨26, 5, [i6 a0.kind, .str a0.name, i6 a0.num, sf cI a0.sc, sf Fm.cells a0.kids]⟩)] [⟨z0v0, 26, 5, rws Fm.cells Qac⟩] -> Qbr (Qbc Tryz.prog c) Q ⟨T, ss⟩) ?_ ?_
 ·intro Qc9 L0 a0 r H
  intro ss
  refine Qau mixed Tryz.func44 rfl (by kernel_rfl) (rs := [.cell 2 26]) rfl (by kernel_rfl) ?_
  have hF := Fx.refl ss
  have hX := Tau.none ss
  have q := dum
  have tT := dum
  refine go ?_
  refine Qag hF rfl fun b1 ss2 hF => ?_
  refine go ?_
  refine Qag hF rfl fun b3 ss4 hF => ?_
  refine go ?_
  refine Qag hF rfl fun b5 ss6 hF => ?_
  refine go ?_
  refine st hF 0 rfl fun s7 hF => ?_
  have hF := hF.nil 26 5
  refine go ?_
  obtain ⟨o11, ho11, H⟩ := bnd H
  refine L0 a0 [] 0 _ ho11 _ rfl _ _ b1 b3 b5 ?_ ?_ _ _ .Qab S hF
  ·intro Qga he T13 s14 e12v0 tT hF
   have he := he.symm
   subst he
   refine go ?_
   refine st hF 1 rfl fun s16 hF => ?_
   refine go ?_
   have e := pur H; subst e
   exact rt [.agg [i6 a0.kind, .str a0.name, i6 a0.num, .Qab, e12v0]]
  ·trivial
 ·intro Qdg Qc9 C0 L0 a0 Qac Qba out H c hc Q tt b1 b3 b5 hE hR T ss z0v0 tT hF
  obtain rfl := lpe (rfl : Qam Tryz.f44 0 = some _) hc
  refine Qah ?_
  have q := dum
  have hX := Tau.none tt
  refine go ?_
  refine cdp H (fun h H => ?_) (fun h H => ?_)
  ·refine go ?_
   refine Qaq E0 [.v, .v, .v, .v, .v, .v, .v, .v, .v, .x, .v, .z] (by kernel_rfl) ?_
   obtain ⟨x24, f1, H⟩ := bil (g := Fm.cells) Fm.Qad H
   refine go1 ?_
   obtain ⟨x26, hx26, H⟩ := bnd H
   refine cv (C0 x24 _ hx26) ?_
   refine go ?_
   refine Q0w (g := Fm.cells) hF 0 H (rdo (c := true) (g := Fm.cells) Fm.Qad) fun x28 H v8 s9 hF => ?_
   refine go ?_
   refine st hF 0 (hF.cells 0 rfl) fun s10 hF => ?_
   refine go ?_
   exact L0 a0 x28 (i64.wrap (Qba + 1)) _ H _ rfl Q tt b1 b3 b5 hE hR _ _ v8 S hF
  ·refine go ?_
   exact hE _ (pur H).symm _ _ z0v0 S hF
theorem Qli : ∀ (a0 : Xpn) r, Qiq a0 = some r -> Qb0 Tryz.prog 293 [.agg (Xpn.cells a0)] (.tup [.agg (Xpn.cells r.1), .bool r.2]) := by
 intro a0 r H
 intro ss
 unfold Qiq at H
 refine Qau mixed Tryz.func293 rfl (by kernel_rfl) (rs := [.cell 2 203, .tmp 3]) rfl (by kernel_rfl) ?_
 have hF := Fx.refl ss
 have hX := Tau.none ss
 have q := dum
 have tT := dum
 refine go ?_
 refine Qag hF rfl fun b1 ss2 hF => ?_
 refine go ?_
 refine Qag hF rfl fun b3 ss4 hF => ?_
 refine go ?_
 refine st hF 1 rfl fun ss5 hF => ?_
 refine go ?_
 obtain ⟨E, hEq⟩ : ∃ E, E = EE ss5 [b3] := ⟨_, rfl⟩
 have n6 : ¬ E b1 := by rw [hEq]; exact EE.not (hF.at 1 rfl) (by simp only [List.mem_cons, List.not_mem_nil, or_false, not_or]; exact neL hF 1 0 rfl rfl (by decide))
 refine Qaq E [.v, .v, .v, .v, .x, .v] (by kernel_rfl) ?_
 have z := Qaf (hF.at 1 rfl) n6; refine gh ?_
 refine stK hF 0 (by rw [hEq]; exact EE.of (by simp)) rfl fun s7 hF => ?_
 have z := Qaf (hF.at 1 rfl) n6; refine gh ?_
 refine go ?_
 have e := pur H; subst e
 exact rt [.agg [sf Bnd.cells a0.binds, sf Mac.cells a0.macs, i6 (i64.wrap (a0.scope + 1)), i6 a0.id, i6 a0.steps], .bool (decide ((i64.wrap (a0.scope + 1)) <= 99))]
theorem Qss : ∀ (a0 : List Int) (a1 : Int) (Qac : List Int) (Qa7 : Int) out, Qdj a0 a1 Qac Qa7 = some out -> ∀ c, Qam Tryz.f296 0 = some c -> ∀ (Q : AX -> AS -> Prop) (tt : Sto), (∀ (Qbn : List Int), out = Qbn -> ∀ (T : Nat -> AV) (ss : Sto) (e0v0 : AV), T 5 = e0v0 -> Fx tt ss [] [⟨e0v0, 3, 1, rws cI Qbn⟩] -> Q (.ex 0) ⟨T, ss⟩) -> True -> ∀ (T : Nat -> AV) (ss : Sto) (z0v0 : AV), T 0 = sf cI a0 /\ T 1 = i6 a1 /\ T 5 = z0v0 /\ T 6 = i6 Qa7 -> Fx tt ss [] [⟨z0v0, 3, 1, rws cI Qac⟩] -> Qbr (Qbc Tryz.prog c) Q ⟨T, ss⟩ := by
 intro a0 a1 Qac Qa7
 revert Qac Qa7
 refine Qdj.partial_correctness a0 a1 _ ?_
 intro Qdj IH Qac Qa7 out H c hc Q tt  hE hR T ss z0v0 tT hF
 obtain rfl := lpe (rfl : Qam Tryz.f296 0 = some _) hc
 refine Qah ?_
 have q := dum
 have hX := Tau.none tt
 refine go ?_
 refine cdp H (fun h H => ?_) (fun h H => ?_)
 ·obtain ⟨x16, f1, H⟩ := bil (g := cI) (fun _ => rfl) H
  refine go1 ?_
  refine go ?_
  refine cdn H (fun h H => ?_) (fun h H => ?_)
  ·obtain ⟨x23, f1, H⟩ := bil (g := cI) (fun _ => rfl) H
   refine go1 ?_
   refine apd (g := cI) hF 0 H (rdo (c := true) (g := cI) (fun _ => rfl)) fun x26 H v1 ss2 hF => ?_
   refine go ?_
   exact IH  x26 (i64.wrap (Qa7 + 1)) _ H _ rfl Q tt  hE hR _ _ v1 S hF
  ·refine go ?_
   exact IH  Qac (i64.wrap (Qa7 + 1)) _ H _ rfl Q tt  hE hR _ _ z0v0 S hF
 ·refine go ?_
  exact hE _ (pur H).symm _ _ z0v0 S hF
theorem Qx7 : ∀ (a0 : List Int) (a1 : Int) r, Qj3 a0 a1 = some r -> Qb0 Tryz.prog 296 [sf cI a0, i6 a1] (sf cI r) := by
 intro a0 a1 r H
 intro ss
 unfold Qj3 at H
 refine Qau mixed Tryz.func296 rfl (by kernel_rfl) (rs := [.tmp 4]) rfl (by kernel_rfl) ?_
 have hF := Fx.refl ss
 have hX := Tau.none ss
 have q := dum
 have tT := dum
 have hF := hF.lit 3 1 (rws cI []) rfl
 refine go ?_
 obtain ⟨o3, ho3, H⟩ := bnd H
 refine Qss a0 a1 [] 0 _ ho3 _ rfl _ _  ?_ ?_ _ _ (.sl true (rws cI [])) S hF
 ·intro Kj3 he T5 ss6 e4v0 tT hF
  have he := he.symm
  subst he
  refine go ?_
  have e := pur H; subst e
  exact rt [e4v0]
 ·trivial
theorem Qt7 : ∀ (a0 : List Int) (a1 : Int) (Qac : List Int) (Qa7 : Bool) (Qa2 : Int) out, Qe4 a0 a1 Qac Qa7 Qa2 = some out -> ∀ c, Qam Tryz.f297 0 = some c -> ∀ (Q : AX -> AS -> Prop) (tt : Sto), (∀ (Qbn : List Int) (Kjx : Bool), out = (Qbn, Kjx) -> ∀ (T : Nat -> AV) (ss : Sto) (e0v0 : AV), T 1 = i6 a1 /\ T 5 = e0v0 /\ T 6 = .bool Kjx -> Fx tt ss [] [⟨e0v0, 3, 1, rws cI Qbn⟩] -> Q (.ex 0) ⟨T, ss⟩) -> True -> ∀ (T : Nat -> AV) (ss : Sto) (z0v0 : AV), T 0 = sf cI a0 /\ T 1 = i6 a1 /\ T 5 = z0v0 /\ T 6 = .bool Qa7 /\ T 7 = i6 Qa2 -> Fx tt ss [] [⟨z0v0, 3, 1, rws cI Qac⟩] -> Qbr (Qbc Tryz.prog c) Q ⟨T, ss⟩ := by
 intro a0 a1 Qac Qa7 Qa2
 revert Qac Qa7 Qa2
 refine Qe4.partial_correctness a0 a1 _ ?_
 intro Qe4 IH Qac Qa7 Qa2 out H c hc Q tt  hE hR T ss z0v0 tT hF
 obtain rfl := lpe (rfl : Qam Tryz.f297 0 = some _) hc
 refine Qah ?_
 have q := dum
 have hX := Tau.none tt
 refine go ?_
 refine cdp H (fun h H => ?_) (fun h H => ?_)
 ·refine go ?_
  obtain ⟨x27, g1, H⟩ := bnd H
  refine Qai 6 21 27 (.bool x27) (gi q (fun q => ?_) (fun q => ?_)) (fun J => ?_)
  ·rw [if_pos (dbt q)] at g1
   obtain ⟨x23, f1, g1⟩ := bil (g := cI) (fun _ => rfl) g1
   refine go1 ?_
   refine go ?_
   exact Qaw 21 g1
  ·rw [if_neg (dbf q)] at g1
   refine go ?_
   exact Qaw 21 g1
  refine go ?_
  obtain ⟨⟨Qkn, Q8h⟩, j4, H⟩ := bnd H
  refine Qca (fun s' => ∃ (T : Nat -> AV) (ss1 : Sto) (y3v0 : AV), s' = ⟨T, ss1⟩ /\ (T 0 = sf cI a0 /\ T 1 = i6 a1 /\ T 5 = y3v0 /\ T 6 = .bool Q8h /\ T 7 = i6 Qa2) /\ Fx tt ss1 [] [⟨y3v0, 3, 1, rws cI Qkn⟩]) (cdb j4 (fun h j4 => ?_) (fun h j4 => ?_)) ?_
  ·refine go ?_
   refine apd (g := cI) hF 0 j4 (rdo (c := true) (g := cI) (fun _ => rfl)) fun x31 j4 v5 ss6 hF => ?_
   refine go ?_
   have e := pur j4
   injection e with e0 e
   subst e0
   subst e
   exact ⟨_, _, v5, rfl, S, hF⟩
  ·refine go ?_
   have e := pur j4
   injection e with e0 e
   subst e0
   subst e
   exact ⟨_, _, z0v0, rfl, S, hF⟩
  ·rintro s' ⟨T7, s8, y3v0, rfl, tT, hF⟩
   obtain ⟨x35, f1, H⟩ := bil (g := cI) (fun _ => rfl) H
   refine go1 ?_
   refine apd (g := cI) hF 0 H (rdo (c := true) (g := cI) (fun _ => rfl)) fun x38 H v10 s11 hF => ?_
   refine go ?_
   exact IH  x38 Q8h (i64.wrap (Qa2 + 1)) _ H _ rfl Q tt  hE hR _ _ v10 S hF
 ·refine go ?_
  exact hE _ _ (pur H).symm _ _ z0v0 S hF
theorem Q0i : ∀ (a0 : List Int) (a1 : Int) r, Qkw a0 a1 = some r -> Qb0 Tryz.prog 297 [sf cI a0, i6 a1] (sf cI r) := by
 intro a0 a1 r H
 intro ss
 unfold Qkw at H
 refine Qau mixed Tryz.func297 rfl (by kernel_rfl) (rs := [.tmp 4]) rfl (by kernel_rfl) ?_
 have hF := Fx.refl ss
 have hX := Tau.none ss
 have q := dum
 have tT := dum
 refine go ?_
 obtain ⟨x11, hx11, H⟩ := bnd H
 refine cl (Qjt a0 a1 _ hx11) ?_
 have hF := hF.lit 3 1 (rws cI []) rfl
 refine go ?_
 obtain ⟨o12, ho12, H⟩ := bnd H
 refine Qt7 a0 a1 [] x11 0 _ ho12 _ rfl _ _  ?_ ?_ _ _ (.sl true (rws cI [])) S hF
 ·intro Qy2 Kfi he T14 s15 e13v0 tT hF
  have he := he.symm
  subst he
  dsimp only at H
  refine go ?_
  refine cdb H (fun h H => ?_) (fun h H => ?_)
  ·refine go ?_
   refine apd (g := cI) hF 0 H (rdo (c := true) (g := cI) (fun _ => rfl)) fun x44 H v17 s18 hF => ?_
   refine go ?_
   have e := pur H; subst e
   exact rt [v17]
  ·refine go ?_
   have e := pur H; subst e
   exact rt [e13v0]
 ·trivial
theorem Qev : ∀ (a0 : Fm) (a1 : Int) (a2 : Int) r, Qbt a0 a1 a2 = some r -> Qb0 Tryz.prog 270 [.agg (Fm.cells a0), i6 a1, i6 a2] (.agg (Fm.cells r)) := by
 intro a0 a1 a2
 revert a0
 refine Qbt.partial_correctness a1 a2 (motive_1 := fun a0 r => Qb0 Tryz.prog 270 [.agg (Fm.cells a0), i6 a1, i6 a2] (.agg (Fm.cells r))) (motive_2 := fun a0 Qf7 Qac Qby out => ∀ c, Qam Tryz.f270 0 = some c -> ∀ (Q : AX -> AS -> Prop) (tt : Sto) (b1 : Nat) (b3 : Nat) (b5 : Nat), (∀ (Qbn : List Fm), out = Qbn -> ∀ (T : Nat -> AV) (ss : Sto) (e0v0 : AV), T 6 = .ptr b3 0 /\ T 7 = .ptr b5 0 -> Fx tt ss [(b5, ⟨26, 5, [i6 a0.kind, .str a0.name, i6 a0.num, sf cI Qf7, e0v0]⟩), (b3, ⟨26, 5, [i6 0, .str zB, i6 0, .Qab, .Qab]⟩), (b1, ⟨26, 5, [i6 a0.kind, .str a0.name, i6 a0.num, sf cI a0.sc, sf Fm.cells a0.kids]⟩)] [⟨e0v0, 26, 5, rws Fm.cells Qbn⟩] -> Q (.ex 0) ⟨T, ss⟩) -> True -> ∀ (T : Nat -> AV) (ss : Sto) (z0v0 : AV), T 1 = i6 a1 /\ T 2 = i6 a2 /\ T 3 = .ptr b1 0 /\ T 6 = .ptr b3 0 /\ T 7 = .ptr b5 0 /\ T 8 = i6 Qby -> Fx tt ss [(b5, ⟨26, 5, [i6 a0.kind, .str a0.name, i6 a0.num, sf cI Qf7, z0v0]⟩), (b3, ⟨26, 5, [i6 0, .str zB, i6 0, .Qab, .Qab]⟩), (b1, ⟨26, 5, [i6 a0.kind, .str a0.name, i6 a0.num, sf cI a0.sc, sf Fm.cells a0.kids]⟩)] [⟨z0v0, 26, 5, rws Fm.cells Qac⟩] -> Qbr (Qbc Tryz.prog c) Q ⟨T, ss⟩) ?_ ?_
 ·intro Qdz L0 a0 r H
  intro ss
  refine Qau mixed Tryz.func270 rfl (by kernel_rfl) (rs := [.cell 6 26]) rfl (by kernel_rfl) ?_
  have hF := Fx.refl ss
  have hX := Tau.none ss
  have q := dum
  have tT := dum
  refine go ?_
  refine Qag hF rfl fun b1 ss2 hF => ?_
  refine go ?_
  refine Qag hF rfl fun b3 ss4 hF => ?_
  refine go ?_
  refine Qaq E0 [.v, .v, .v, .v, .v, .v, .v, .v, .v, .v, .v, .x, .z] (by kernel_rfl) ?_
  refine go ?_
  obtain ⟨x18, hx18, H⟩ := bnd H
  refine Qzc (g := cI) (xs := []) (ys := a0.sc) (fun _ => rfl) (by decide) (by decide) (.inr (by first | rfl | simp only [Qb9, Qd3, cI, cU, cS, cL])) (.inr ⟨_, by first | rfl | simp only [Qb9, Qd3, cI, cU, cS, cL]⟩) hx18 ?_
  refine go ?_
  refine Qg4 hF rfl fun b5 ss6 hF => ?_
  refine go ?_
  refine st hF 0 rfl fun s7 hF => ?_
  refine go ?_
  obtain ⟨Qf7, j9, H⟩ := bnd H
  refine Qca (fun s' => ∃ (T : Nat -> AV) (ss1 : Sto), s' = ⟨T, ss1⟩ /\ (T 1 = i6 a1 /\ T 2 = i6 a2 /\ T 3 = .ptr b1 0 /\ T 6 = .ptr b3 0 /\ T 7 = .ptr b5 0) /\ Fx ss ss1 [(b5, ⟨26, 5, [i6 a0.kind, .str a0.name, i6 a0.num, sf cI Qf7, .Qab]⟩), (b3, ⟨26, 5, [i6 0, .str zB, i6 0, .Qab, .Qab]⟩), (b1, ⟨26, 5, [i6 a0.kind, .str a0.name, i6 a0.num, sf cI a0.sc, sf Fm.cells a0.kids]⟩)] []) (cdp j9 (fun h j9 => ?_) (fun h j9 => ?_)) ?_
  ·refine go ?_
   obtain ⟨x34, g10, j9⟩ := bnd j9
   refine Qai 8 26 34 (.bool x34) (giN q (fun q => ?_) (fun q => ?_)) (fun J => ?_)
   ·rw [if_neg (df q)] at g10
    refine go ?_
    obtain ⟨x33, g12, g10⟩ := bnd g10
    refine Qai 4 29 33 (.bool x33) (gi q (fun q => ?_) (fun q => ?_)) (fun J => ?_)
    ·rw [if_pos (dt q)] at g12
     refine go ?_
     obtain ⟨x32, hx32, g12⟩ := bnd g12
     refine cl (Qjt a0.sc a1 _ hx32) ?_
     refine go ?_
     exact Qaw 29 g12
    ·rw [if_neg (df q)] at g12
     refine go ?_
     exact Qaw 29 g12
    refine go ?_
    exact Qaw 26 g10
   ·rw [if_pos (dt q)] at g10
    refine go ?_
    exact Qaw 26 g10
   refine go ?_
   refine cdb j9 (fun h j9 => ?_) (fun h j9 => ?_)
   ·refine go ?_
    obtain ⟨x38, hx38, j9⟩ := bnd j9
    refine cl (Qx7 a0.sc a1 _ hx38) ?_
    refine go ?_
    refine st hF 0 rfl fun s14 hF => ?_
    refine go ?_
    have e := pur j9
    subst e
    exact ⟨_, _, rfl, S, hF⟩
   ·refine go ?_
    obtain ⟨x43, hx43, j9⟩ := bnd j9
    refine cl (Q0i a0.sc a1 _ hx43) ?_
    refine go ?_
    refine st hF 0 rfl fun s15 hF => ?_
    refine go ?_
    have e := pur j9
    subst e
    exact ⟨_, _, rfl, S, hF⟩
  ·refine go ?_
   have e := pur j9
   subst e
   exact ⟨_, _, rfl, S, hF⟩
  ·rintro s' ⟨T16, s17, rfl, tT, hF⟩
   have hF := hF.nil 26 5
   refine go ?_
   obtain ⟨o22, ho22, H⟩ := bnd H
   refine L0 a0 Qf7 [] 0 _ ho22 _ rfl _ _ b1 b3 b5 ?_ ?_ _ _ .Qab S hF
   ·intro Q1t he T24 s25 e23v0 tT hF
    have he := he.symm
    subst he
    refine go ?_
    refine st hF 1 rfl fun s27 hF => ?_
    refine go ?_
    have e := pur H; subst e
    exact rt [.agg [i6 a0.kind, .str a0.name, i6 a0.num, sf cI Qf7, e23v0]]
   ·trivial
 ·intro Qbt Qdz C0 L0 a0 Qf7 Qac Qby out H c hc Q tt b1 b3 b5 hE hR T ss z0v0 tT hF
  obtain rfl := lpe (rfl : Qam Tryz.f270 0 = some _) hc
  refine Qah ?_
  have q := dum
  have hX := Tau.none tt
  refine go ?_
  refine cdp H (fun h H => ?_) (fun h H => ?_)
  ·refine go ?_
   refine Qaq E0 [.v, .v, .v, .v, .v, .v, .v, .v, .v, .v, .v, .x, .v, .z] (by kernel_rfl) ?_
   obtain ⟨x57, f1, H⟩ := bil (g := Fm.cells) Fm.Qad H
   refine go1 ?_
   obtain ⟨x61, hx61, H⟩ := bnd H
   refine cv (C0 x57 _ hx61) ?_
   refine go ?_
   refine Q0w (g := Fm.cells) hF 0 H (rdo (c := true) (g := Fm.cells) Fm.Qad) fun x63 H v19 s20 hF => ?_
   refine go ?_
   refine st hF 0 (hF.cells 0 rfl) fun s21 hF => ?_
   refine go ?_
   exact L0 a0 Qf7 x63 (i64.wrap (Qby + 1)) _ H _ rfl Q tt b1 b3 b5 hE hR _ _ v19 S hF
  ·refine go ?_
   exact hE _ (pur H).symm _ _ z0v0 S hF
theorem Qsl : ∀ (a0 : List Int) (a1 : List Int) (Qaj : Int) out, Qeb a0 a1 Qaj = some out -> ∀ c, Qam Tryz.f103 0 = some c -> ∀ (Q : AX -> AS -> Prop) (tt : Sto), (∀ (_u : Unit), out = Sum.inr () -> ∀ (T : Nat -> AV) (ss : Sto), 0 + 0 = 0 -> Fx tt ss [] [] -> Q (.ex 0) ⟨T, ss⟩) -> (∀ r, out = Sum.inl r -> ∀ s', Qkk Tryz.prog [.tmp 4] (fun r' ss' => r' = .bool r /\ ss' = tt) s' -> Q .ret s') -> ∀ (T : Nat -> AV) (ss : Sto), T 0 = sf cI a0 /\ T 1 = sf cI a1 /\ T 5 = i6 Qaj -> Fx tt ss [] [] -> Qbr (Qbc Tryz.prog c) Q ⟨T, ss⟩ := by
 intro a0 a1 Qaj
 revert Qaj
 refine Qeb.partial_correctness a0 a1 _ ?_
 intro Qeb IH Qaj out H c hc Q tt  hE hR T ss tT hF
 obtain rfl := lpe (rfl : Qam Tryz.f103 0 = some _) hc
 refine Qah ?_
 have q := dum
 have hX := Tau.none tt
 refine go ?_
 refine cdp H (fun h H => ?_) (fun h H => ?_)
 ·refine go ?_
  refine Qaq E0 [.v, .v, .v, .v, .v, .v, .v, .v, .v] (by kernel_rfl) ?_
  obtain ⟨x19, f1, H⟩ := bil (g := cI) (fun _ => rfl) H
  obtain ⟨x23, f2, H⟩ := bil (g := cI) (fun _ => rfl) H
  refine go2 ?_
  refine go ?_
  refine cdn H (fun h H => ?_) (fun h H => ?_)
  ·refine go ?_
   exact hR _ (pur H).symm _ (rt [.bool false])
  ·refine go ?_
   exact IH  (i64.wrap (Qaj + 1)) _ H _ rfl Q tt  hE hR _ _  S hF
 ·refine go ?_
  exact hE () (pur H).symm _ _  S hF
theorem Qpj : ∀ (a0 : List Int) (a1 : List Int) r, Qj2 a0 a1 = some r -> Qb0 Tryz.prog 103 [sf cI a0, sf cI a1] (.bool r) := by
 intro a0 a1 r H
 intro ss
 unfold Qj2 at H
 refine Qau mixed Tryz.func103 rfl (by kernel_rfl) (rs := [.tmp 4]) rfl (by kernel_rfl) ?_
 have hF := Fx.refl ss
 have hX := Tau.none ss
 have q := dum
 have tT := dum
 refine go ?_
 refine cdn H (fun h H => ?_) (fun h H => ?_)
 ·refine go ?_
  have e := pur H; subst e
  exact rt [.bool false]
 ·refine go ?_
  obtain ⟨o1, ho1, H⟩ := bnd H
  refine Qsl a0 a1 0 _ ho1 _ rfl _ _  ?_ ?_ _ _  S hF
  ·intro _ he T3 ss4 tT hF
   have he := he.symm
   subst he
   dsimp only at H
   refine go ?_
   have e := pur H; subst e
   exact rt [.bool true]
  ·intro r hr s' hs
   subst hr
   have e := pur H; subst e
   first | exact hs | (try simp only [sf, i6, zB, Fm.Qaa, Xpn.Qaa, Cor.Qaa, Bnd.Qaa, Hit.Qaa, Rul.Qaa, Mac.Qaa, Stp.Qaa, Val.Qaa] at hs ⊢; exact hs)
theorem Qob : ∀ (a0 : List Bnd) (Qa1 : Int) (Qxn : Int) out, Qcm a0 Qa1 Qxn = some out -> ∀ c, Qam Tryz.f54 1 = some c -> ∀ (Q : AX -> AS -> Prop) (tt : Sto), (∀ (_u : Unit), out = Sum.inr () -> ∀ (T : Nat -> AV) (ss : Sto), T 0 = sf Bnd.cells a0 /\ T 3 = i6 Qa1 -> Fx tt ss [] [] -> Q (.ex 2) ⟨T, ss⟩) -> (∀ r, out = Sum.inl r -> ∀ s', Qkk Tryz.prog [.tmp 2] (fun r' ss' => r' = .bool r /\ ss' = tt) s' -> Q .ret s') -> ∀ (T : Nat -> AV) (ss : Sto), T 0 = sf Bnd.cells a0 /\ T 3 = i6 Qa1 /\ T 4 = i6 Qxn -> Fx tt ss [] [] -> Qbr (Qbc Tryz.prog c) Q ⟨T, ss⟩ := by
 intro a0 Qa1 Qxn
 revert Qxn
 refine Qcm.partial_correctness a0 Qa1 _ ?_
 intro Qcm IH Qxn out H c hc Q tt  hE hR T ss tT hF
 obtain rfl := lpe (rfl : Qam Tryz.f54 1 = some _) hc
 refine Qah ?_
 have q := dum
 have hX := Tau.none tt
 refine go ?_
 refine cdp H (fun h H => ?_) (fun h H => ?_)
 ·refine go ?_
  refine Qaq E0 [.v, .v, .v, .v, .v, .v, .v, .v, .v, .v, .v, .v, .v, .v, .v, .v, .v, .v, .v, .v, .v, .v, .v, .v] (by kernel_rfl) ?_
  obtain ⟨x54, f1, H⟩ := bil (g := Bnd.cells) Bnd.Qad H
  obtain ⟨x59, f2, H⟩ := bil (g := Bnd.cells) Bnd.Qad H
  refine go2 ?_
  obtain ⟨x75, g9, H⟩ := bnd H
  refine Qb4 11 64 75 (.bool x75) (ti q (fun q => ?_) (fun q => ?_)) (fun J => ?_)
  ·rw [if_pos (dt q)] at g9
   obtain ⟨x66, f1, g9⟩ := bil (g := Bnd.cells) Bnd.Qad g9
   obtain ⟨x71, f2, g9⟩ := bil (g := Bnd.cells) Bnd.Qad g9
   refine go2 ?_
   obtain ⟨x74, hx74, g9⟩ := bnd g9
   refine cv (Qpj x66.sc x71.sc _ hx74) ?_
   refine go ?_
   exact Qaw 64 g9
  ·rw [if_neg (df q)] at g9
   refine go ?_
   exact Qaw 64 g9
  refine go ?_
  refine cdb H (fun h H => ?_) (fun h H => ?_)
  ·refine go ?_
   exact hR _ (pur H).symm _ (rt [.bool false])
  ·refine go ?_
   exact IH  (i64.wrap (Qxn + 1)) _ H _ rfl Q tt  hE hR _ _  S hF
 ·refine go ?_
  exact hE () (pur H).symm _ _  S hF
theorem Qoa : ∀ (a0 : List Bnd) (Qa1 : Int) out, Qcl a0 Qa1 = some out -> ∀ c, Qam Tryz.f54 0 = some c -> ∀ (Q : AX -> AS -> Prop) (tt : Sto), (∀ (_u : Unit), out = Sum.inr () -> ∀ (T : Nat -> AV) (ss : Sto), T 0 = sf Bnd.cells a0 -> Fx tt ss [] [] -> Q (.ex 0) ⟨T, ss⟩) -> (∀ r, out = Sum.inl r -> ∀ s', Qkk Tryz.prog [.tmp 2] (fun r' ss' => r' = .bool r /\ ss' = tt) s' -> Q .ret s') -> ∀ (T : Nat -> AV) (ss : Sto), T 0 = sf Bnd.cells a0 /\ T 3 = i6 Qa1 -> Fx tt ss [] [] -> Qbr (Qbc Tryz.prog c) Q ⟨T, ss⟩ := by
 intro a0 Qa1
 revert Qa1
 refine Qcl.partial_correctness a0 _ ?_
 intro Qcl IH Qa1 out H c hc Q tt  hE hR T ss tT hF
 obtain rfl := lpe (rfl : Qam Tryz.f54 0 = some _) hc
 refine Qah ?_
 have q := dum
 have hX := Tau.none tt
 refine go ?_
 obtain ⟨x12, g1, H⟩ := bnd H
 refine Qai 2 10 12 (.bool x12) (gi q (fun q => ?_) (fun q => ?_)) (fun J => ?_)
 ·refine go ?_
  exact Qaw 10 g1
 ·refine go ?_
  exact Qaw 10 g1
 refine go ?_
 refine cdb H (fun h H => ?_) (fun h H => ?_)
 ·obtain ⟨x17, f1, H⟩ := bil (g := Bnd.cells) Bnd.Qad H
  refine go1 ?_
  obtain ⟨x20, hx20, H⟩ := bnd H
  refine cl (Qj0 x17.name _ hx20) ?_
  refine go ?_
  obtain ⟨x30, g3, H⟩ := bnd H
  refine Qai 7 23 30 (.bool x30) (giN q (fun q => ?_) (fun q => ?_)) (fun J => ?_)
  ·rw [if_neg (dbf q)] at g3
   obtain ⟨x25, f1, g3⟩ := bil (g := Bnd.cells) Bnd.Qad g3
   refine go1 ?_
   obtain ⟨x28, hx28, g3⟩ := bnd g3
   refine cl (Qnn x25.sc _ hx28) ?_
   refine go ?_
   exact Qaw 23 g3
  ·rw [if_pos (dbt q)] at g3
   refine go ?_
   exact Qaw 23 g3
  refine go ?_
  obtain ⟨x38, g5, H⟩ := bnd H
  refine Qai 6 32 38 (.bool x38) (giN q (fun q => ?_) (fun q => ?_)) (fun J => ?_)
  ·rw [if_neg (dbf q)] at g5
   obtain ⟨x34, f1, g5⟩ := bil (g := Bnd.cells) Bnd.Qad g5
   refine go1 ?_
   refine go ?_
   exact Qaw 32 g5
  ·rw [if_pos (dbt q)] at g5
   refine go ?_
   exact Qaw 32 g5
  refine go ?_
  obtain ⟨x46, g7, H⟩ := bnd H
  refine Qai 6 40 46 (.bool x46) (giN q (fun q => ?_) (fun q => ?_)) (fun J => ?_)
  ·rw [if_neg (dbf q)] at g7
   obtain ⟨x42, f1, g7⟩ := bil (g := Bnd.cells) Bnd.Qad g7
   refine go1 ?_
   refine go ?_
   exact Qaw 40 g7
  ·rw [if_pos (dbt q)] at g7
   refine go ?_
   exact Qaw 40 g7
  refine go ?_
  refine cdb H (fun h H => ?_) (fun h H => ?_)
  ·refine go ?_
   exact hR _ (pur H).symm _ (rt [.bool false])
  ·refine go ?_
   obtain ⟨o11, ho11, H⟩ := bnd H
   refine Qob a0 Qa1 0 _ ho11 _ rfl _ _  ?_ ?_ _ _  S hF
   ·intro _ he T13 s14 tT hF
    have he := he.symm
    subst he
    dsimp only at H
    refine go ?_
    exact IH  (i64.wrap (Qa1 + 1)) _ H _ rfl Q tt  hE hR _ _  S hF
   ·intro r hr s' hs
    subst hr
    exact hR _ (pur H).symm _ hs
 ·refine go ?_
  exact hE () (pur H).symm _ _  S hF
theorem Qjq : ∀ (a0 : List Bnd) r, Qfy a0 = some r -> Qb0 Tryz.prog 54 [sf Bnd.cells a0] (.bool r) := by
 intro a0 r H
 intro ss
 unfold Qfy at H
 refine Qau mixed Tryz.func54 rfl (by kernel_rfl) (rs := [.tmp 2]) rfl (by kernel_rfl) ?_
 have hF := Fx.refl ss
 have hX := Tau.none ss
 have q := dum
 have tT := dum
 refine go ?_
 obtain ⟨o16, ho16, H⟩ := bnd H
 refine Qoa a0 0 _ ho16 _ rfl _ _  ?_ ?_ _ _  S hF
 ·intro _ he T18 s19 tT hF
  have he := he.symm
  subst he
  dsimp only at H
  refine go ?_
  have e := pur H; subst e
  exact rt [.bool (decide ((a0.length : Int) <= 60))]
 ·intro r hr s' hs
  subst hr
  have e := pur H; subst e
  first | exact hs | (try simp only [sf, i6, zB, Fm.Qaa, Xpn.Qaa, Cor.Qaa, Bnd.Qaa, Hit.Qaa, Rul.Qaa, Mac.Qaa, Stp.Qaa, Val.Qaa] at hs ⊢; exact hs)
theorem Qtw : ∀ (a0 : Fm) r, Qmu a0 = some r -> Qb0 Tryz.prog 152 [.agg (Fm.cells a0)] (.bool r) := by
 intro a0 r H
 intro ss
 unfold Qmu at H
 refine Qau mixed Tryz.func152 rfl (by kernel_rfl) (rs := [.tmp 2]) rfl (by kernel_rfl) ?_
 have hF := Fx.refl ss
 have hX := Tau.none ss
 have q := dum
 have tT := dum
 refine go ?_
 refine Qag hF rfl fun b1 ss2 hF => ?_
 refine go ?_
 obtain ⟨x9, g3, H⟩ := bnd H
 refine Qai 2 7 9 (.bool x9) (gi q (fun q => ?_) (fun q => ?_)) (fun J => ?_)
 ·rw [if_pos (dt q)] at g3
  refine go ?_
  obtain ⟨x8, hx8, g3⟩ := bnd g3
  refine cl (Qbe a0 _ hx8) ?_
  refine go ?_
  exact Qaw 7 g3
 ·rw [if_neg (df q)] at g3
  refine go ?_
  exact Qaw 7 g3
 refine go ?_
 have e := pur H; subst e
 exact rt [.bool x9]
theorem Qpb : ∀ (a0 : List Bnd) (Qac : List Bnd) (Qba : Int) out, Qck a0 Qac Qba = some out -> ∀ c, Qam Tryz.f308 0 = some c -> ∀ (Q : AX -> AS -> Prop) (tt0 : Sto), (∀ (Qbn : List Bnd), out = Qbn -> ∀ (T : Nat -> AV) (ss : Sto) (tt : Sto) (e0v0 : AV), T 3 = e0v0 -> Tau tt0 [] tt -> Fx tt ss [] [⟨e0v0, 85, 3, rws Bnd.cells Qbn⟩] -> Q (.ex 0) ⟨T, ss⟩) -> True -> ∀ (T : Nat -> AV) (ss : Sto) (tt : Sto) (z0v0 : AV), T 0 = sf Bnd.cells a0 /\ T 3 = z0v0 /\ T 4 = i6 Qba -> Tau tt0 [] tt -> Fx tt ss [] [⟨z0v0, 85, 3, rws Bnd.cells Qac⟩] -> Qbr (Qbc Tryz.prog c) Q ⟨T, ss⟩ := by
 intro a0 Qac Qba
 revert Qac Qba
 refine Qck.partial_correctness a0 _ ?_
 intro Qck IH Qac Qba out H c hc Q tt0  hE hR T ss tt z0v0 tT hX hF
 obtain rfl := lpe (rfl : Qam Tryz.f308 0 = some _) hc
 refine Qah ?_
 have q := dum
 refine go ?_
 refine cdp H (fun h H => ?_) (fun h H => ?_)
 ·obtain ⟨x15, f1, H⟩ := bil (g := Bnd.cells) Bnd.Qad H
  refine go1 ?_
  refine Qag hF rfl fun b1 ss2 hF => ?_
  refine go ?_
  refine st hF 0 rfl fun ss3 hF => ?_
  refine go ?_
  refine apv (g := cI) H (fun _ => rfl) (rdo (c := false) (g := cI) (fun _ => rfl)) fun x20 H => ?_
  refine go ?_
  refine st hF 0 rfl fun ss4 hF => ?_
  refine go ?_
  refine apd (g := Bnd.cells) hF 0 H (rdo (c := true) (g := Bnd.cells) Bnd.Qad) fun x25 H v5 ss6 hF => ?_
  refine go ?_
  exact IH  x25 (i64.wrap (Qba + 1)) _ H _ rfl Q tt0  hE hR _ _ _ v5 S hX (hF.drop 1 0)
 ·refine go ?_
  exact hE _ (pur H).symm _ _ _ z0v0 S hX hF
theorem Qst : ∀ (a0 : List Bnd) r, Qi6 a0 = some r -> ∀   (ss : Sto), Pre ss [] [] -> Ctr Tryz.prog 308 [sf Bnd.cells a0] ss (fun r' ss' => ∃ (tt' : Sto) (w0 : AV), r' = w0 /\ Tau (strip ss []) [] tt' /\ Fx tt' ss' [] [⟨w0, 85, 3, rws Bnd.cells r⟩]) := by
 intro a0 r H
 intro   ss hP
 unfold Qi6 at H
 refine Qau mixed Tryz.func308 rfl (by kernel_rfl) (rs := [.tmp 2]) rfl (by kernel_rfl) ?_
 obtain ⟨hF, hX⟩ := hP.start
 generalize strip ss [] = tt0 at hF hX ⊢
 have q := dum
 have tT := dum
 have hF := hF.lit 85 3 (rws Bnd.cells []) rfl
 refine go ?_
 obtain ⟨o7, ho7, H⟩ := bnd H
 refine Qpb a0 [] 0 _ ho7 _ rfl _ tt0  ?_ ?_ _ _ _ (.sl true (rws Bnd.cells [])) S hX hF
 ·intro Kav he T9 s10 t11 e8v0 tT hX hF
  have he := he.symm
  subst he
  refine go ?_
  have e := pur H; subst e
  exact rg [e8v0] ⟨_, _, rfl, hX, hF.pick [] [0] (by decide) (by decide)⟩
 ·trivial
theorem Qwg : ∀ (a0 : List Bnd) (a1 : Fm) (a2 : Int) r, Qkg a0 a1 a2 = some r -> Qb0 Tryz.prog 304 [sf Bnd.cells a0, .agg (Fm.cells a1), i6 a2] (.tup [sf Bnd.cells r.1, .bool r.2]) := by
 intro a0 a1 a2 r H
 intro ss
 unfold Qkg at H
 refine Qau mixed Tryz.func304 rfl (by kernel_rfl) (rs := [.tmp 6, .tmp 7]) rfl (by kernel_rfl) ?_
 have hF := Fx.refl ss
 have hX := Tau.none ss
 have q := dum
 have tT := dum
 refine go ?_
 refine Qag hF rfl fun b1 ss2 hF => ?_
 refine go ?_
 obtain ⟨x10, hx10, H⟩ := bnd H
 refine cl (Qjq a0 _ hx10) ?_
 refine go ?_
 obtain ⟨x16, g3, H⟩ := bnd H
 refine Qai 3 13 16 (.bool x16) (giN q (fun q => ?_) (fun q => ?_)) (fun J => ?_)
 ·rw [if_neg (dbf q)] at g3
  refine go ?_
  obtain ⟨x14, hx14, g3⟩ := bnd g3
  refine cl (Qtw a1 _ hx14) ?_
  refine go ?_
  exact Qaw 13 g3
 ·rw [if_pos (dbt q)] at g3
  refine go ?_
  exact Qaw 13 g3
 refine go ?_
 refine cdb H (fun h H => ?_) (fun h H => ?_)
 ·refine go ?_
  have e := pur H; subst e
  exact rt [.sl true (rws Bnd.cells []), .bool false]
 ·refine go ?_
  obtain ⟨E, hEq⟩ : ∃ E, E = EE ss2 [] := ⟨_, rfl⟩
  have n5 : ¬ E b1 := by rw [hEq]; exact EE.not (hF.at 0 rfl) (by simp)
  refine Qqn E [.v, .v, .v, .v, .v, .v, .v, .x, .v, .v, .v, .x, .v] [0, 2, 3, 4, 5, 6, 8, 1, 7, 9, 10, 11, 12] (by kernel_rfl) ?_
  have z := Qaf (hF.at 0 rfl) n5; refine gh ?_
  obtain ⟨x19, hx19, H⟩ := bnd H
  refine cx (Qst a0 _ hx19   _ (pre 0 0 0 hF hX)) ?_
  rintro v6 s7 ⟨t8, _, rfl, hT, hG⟩
  refine Qke (Fx.kept hT hG (by intro p hp; simp only [List.mem_cons, List.not_mem_nil, or_false] at hp <;> first | (rcases hp with rfl <;> (rw [hEq]; first | (refine EE.of ?_; simp; done) | exact EE.new rfl))| cases hp)) fun kp10 => ?_
  have hF := Qxq 0 0 hF hX hT hG
  have z := Qaf (hF.at 0 rfl) n5; refine gh ?_
  obtain ⟨x25, hx25, H⟩ := bnd H
  refine Qzc (g := cI) (xs := []) (ys := a1.sc) (fun _ => rfl) (by decide) (by decide) (.inr (by first | rfl | simp only [Qb9, Qd3, cI, cU, cS, cL])) (.inr ⟨_, by first | rfl | simp only [Qb9, Qd3, cI, cU, cS, cL]⟩) hx25 ?_
  have z := Qaf (hF.at 0 rfl) n5; refine gh ?_
  refine Q0w (g := Bnd.cells) hF 0 H (rdo (c := true) (g := Bnd.cells) Bnd.Qad) fun x29 H v11 s12 hF => ?_
  have z := Qaf (hF.at 0 rfl) n5; refine gh ?_
  refine go ?_
  obtain ⟨x31, hx31, H⟩ := bnd H
  refine Qr8 (Qjq x29 _ hx31) .bool (.cons ((hF.wk 0 rfl).trans (Wk.sub (Sub.zero _) _)) (fun _ => rfl) .nil) ?_
  refine go ?_
  refine cdb H (fun h H => ?_) (fun h H => ?_)
  ·refine go ?_
   have e := pur H; subst e
   exact rt [.sl true (rws Bnd.cells []), .bool false]
  ·refine go ?_
   have e := pur H; subst e
   exact rt [v11, .bool true]
theorem Qpn : ∀ (a0 : Xpn) (a1 : Fm) r, Qip a0 a1 = some r -> Qb0 Tryz.prog 295 [.agg (Xpn.cells a0), .agg (Fm.cells a1)] (.tup [.agg (Xpn.cells r.1), i6 r.2]) := by
 intro a0 a1 r H
 intro ss
 unfold Qip at H
 refine Qau mixed Tryz.func295 rfl (by kernel_rfl) (rs := [.cell 4 203, .tmp 5]) rfl (by kernel_rfl) ?_
 have hF := Fx.refl ss
 have hX := Tau.none ss
 have q := dum
 have tT := dum
 refine go ?_
 refine Qag hF rfl fun b1 ss2 hF => ?_
 refine go ?_
 refine Qag hF rfl fun b3 ss4 hF => ?_
 refine go ?_
 refine Qag hF rfl fun b5 ss6 hF => ?_
 refine go ?_
 refine cdp H (fun h H => ?_) (fun h H => ?_)
 ·refine go ?_
  refine st hF 0 rfl fun s7 hF => ?_
  refine go ?_
  have e := pur H; subst e
  exact rt [.agg [sf Bnd.cells a0.binds, sf Mac.cells a0.macs, i6 a0.scope, i6 a0.id, i6 a0.steps], i6 4]
 ·refine go ?_
  obtain ⟨x20, hx20, H⟩ := bnd H
  refine cl (Qwg a0.binds a1 (i64.wrap (a0.id + 1)) _ hx20) ?_
  refine go ?_
  refine cdb H (fun h H => ?_) (fun h H => ?_)
  ·refine go ?_
   refine st hF 0 rfl fun s8 hF => ?_
   refine go ?_
   have e := pur H; subst e
   exact rt [.agg [sf Bnd.cells a0.binds, sf Mac.cells a0.macs, i6 a0.scope, i6 a0.id, i6 a0.steps], i6 1]
  ·refine go ?_
   refine st hF 2 rfl fun s9 hF => ?_
   refine go ?_
   refine st hF 2 rfl fun s10 hF => ?_
   refine go ?_
   refine st hF 0 rfl fun s11 hF => ?_
   refine go ?_
   have e := pur H; subst e
   exact rt [.agg [sf Bnd.cells x20.1, sf Mac.cells a0.macs, i6 a0.scope, i6 (i64.wrap (a0.id + 1)), i6 a0.steps], i6 0]
theorem Qrq : ∀ (a0 : Fm) (Qac : List Fm) (Qgh : List Fm) (Qa2 : Int) out, Qdv a0 Qac Qgh Qa2 = some out -> ∀ c, Qam Tryz.f268 0 = some c -> ∀ (Q : AX -> AS -> Prop) (tt : Sto) (b1 : Nat), (∀ (Qbn : List Fm) (Kal : List Fm), out = Sum.inr (Qbn, Kal) -> ∀ (T : Nat -> AV) (ss : Sto) (e0v0 : AV) (e0v1 : AV), T 1 = .ptr b1 0 /\ T 5 = e0v0 /\ T 6 = e0v1 -> Fx tt ss [(b1, ⟨26, 5, [i6 a0.kind, .str a0.name, i6 a0.num, sf cI a0.sc, sf Fm.cells a0.kids]⟩)] [⟨e0v1, 26, 5, rws Fm.cells Kal⟩, ⟨e0v0, 26, 5, rws Fm.cells Qbn⟩] -> Q (.ex 0) ⟨T, ss⟩) -> (∀ r, out = Sum.inl r -> ∀ s', Qkk Tryz.prog [.tmp 2, .tmp 3, .tmp 4] (fun r' ss' => r' = .tup [sf Fm.cells r.1, sf Fm.cells r.2.1, .bool r.2.2] /\ ss' = tt) s' -> Q .ret s') -> ∀ (T : Nat -> AV) (ss : Sto) (z0v0 : AV) (z0v1 : AV), T 1 = .ptr b1 0 /\ T 5 = z0v0 /\ T 6 = z0v1 /\ T 7 = i6 Qa2 -> Fx tt ss [(b1, ⟨26, 5, [i6 a0.kind, .str a0.name, i6 a0.num, sf cI a0.sc, sf Fm.cells a0.kids]⟩)] [⟨z0v1, 26, 5, rws Fm.cells Qgh⟩, ⟨z0v0, 26, 5, rws Fm.cells Qac⟩] -> Qbr (Qbc Tryz.prog c) Q ⟨T, ss⟩ := by
 intro a0 Qac Qgh Qa2
 revert Qac Qgh Qa2
 refine Qdv.partial_correctness a0 _ ?_
 intro Qdv IH Qac Qgh Qa2 out H c hc Q tt b1 hE hR T ss z0v0 z0v1 tT hF
 obtain rfl := lpe (rfl : Qam Tryz.f268 0 = some _) hc
 refine Qah ?_
 have q := dum
 have hX := Tau.none tt
 refine go ?_
 refine cdp H (fun h H => ?_) (fun h H => ?_)
 ·obtain ⟨x20, f1, H⟩ := bil (g := Fm.cells) Fm.Qad H
  refine go1 ?_
  obtain ⟨x33, g3, H⟩ := bnd H
  refine Qai 8 25 33 (.bool x33) (giN q (fun q => ?_) (fun q => ?_)) (fun J => ?_)
  ·rw [if_pos (dnf q)] at g3
   obtain ⟨x28, f1, g3⟩ := bil (g := Fm.cells) Fm.Qad g3
   refine go1 ?_
   refine go ?_
   exact Qaw 25 g3
  ·rw [if_neg (dnt q)] at g3
   refine go ?_
   exact Qaw 25 g3
  refine go ?_
  refine cdb H (fun h H => ?_) (fun h H => ?_)
  ·refine go ?_
   exact hR _ (pur H).symm _ (rt [z0v0, z0v1, .bool false])
  ·obtain ⟨x40, f1, H⟩ := bil (g := Fm.cells) Fm.Qad H
   obtain ⟨x43, f2, H⟩ := bil (g := Fm.cells) Fm.Qad H
   refine go2 ?_
   refine apd (g := Fm.cells) hF 1 H (rdo (c := true) (g := Fm.cells) Fm.Qad) fun x46 H v5 ss6 hF => ?_
   obtain ⟨x51, f1, H⟩ := bil (g := Fm.cells) Fm.Qad H
   obtain ⟨x54, f2, H⟩ := bil (g := Fm.cells) Fm.Qad H
   refine go2 ?_
   refine apd (g := Fm.cells) hF 0 H (rdo (c := true) (g := Fm.cells) Fm.Qad) fun x57 H v7 s8 hF => ?_
   refine go ?_
   exact IH  x46 x57 (i64.wrap (Qa2 + 1)) _ H _ rfl Q tt b1 hE hR _ _ v5 v7 S hF
 ·refine go ?_
  exact hE _ _ (pur H).symm _ _ z0v0 z0v1 S hF
theorem Qwy : ∀ (a0 : Fm) r, Qkj a0 = some r -> Qb0 Tryz.prog 268 [.agg (Fm.cells a0)] (.tup [sf Fm.cells r.1, sf Fm.cells r.2.1, .bool r.2.2]) := by
 intro a0 r H
 intro ss
 unfold Qkj at H
 refine Qau mixed Tryz.func268 rfl (by kernel_rfl) (rs := [.tmp 2, .tmp 3, .tmp 4]) rfl (by kernel_rfl) ?_
 have hF := Fx.refl ss
 have hX := Tau.none ss
 have q := dum
 have tT := dum
 refine go ?_
 refine Qag hF rfl fun b1 ss2 hF => ?_
 have hF := hF.lit 26 5 (rws Fm.cells []) rfl
 have hF := hF.lit 26 5 (rws Fm.cells []) rfl
 refine go ?_
 obtain ⟨o9, ho9, H⟩ := bnd H
 refine Qrq a0 [] [] 0 _ ho9 _ rfl _ _ b1 ?_ ?_ _ _ (.sl true (rws Fm.cells [])) (.sl true (rws Fm.cells [])) S hF
 ·intro Q1o Kfh he T11 s12 e10v0 e10v1 tT hF
  have he := he.symm
  subst he
  dsimp only at H
  refine go ?_
  refine Qaq E0 [.v, .v, .v, .v, .v, .v, .v, .v] (by kernel_rfl) ?_
  refine go ?_
  have e := pur H; subst e
  exact rt [e10v0, e10v1, .bool (decide (a0.kind = 3))]
 ·intro r hr s' hs
  subst hr
  have e := pur H; subst e
  first | exact hs | (try simp only [sf, i6, zB, Fm.Qaa, Xpn.Qaa, Cor.Qaa, Bnd.Qaa, Hit.Qaa, Rul.Qaa, Mac.Qaa, Stp.Qaa, Val.Qaa] at hs ⊢; exact hs)
theorem Qgi : ∀ (a0 : Fm) (a1 : Fm) r, Qbs a0 a1 = some r -> Qb0 Tryz.prog 110 [.agg (Fm.cells a0), .agg (Fm.cells a1)] (.bool r) := by
 refine Qbs.partial_correctness  (motive_1 := fun a0 a1 r => Qb0 Tryz.prog 110 [.agg (Fm.cells a0), .agg (Fm.cells a1)] (.bool r)) (motive_2 := fun a0 a1 Qaj out => ∀ c, Qam Tryz.f110 0 = some c -> ∀ (Q : AX -> AS -> Prop) (tt : Sto) (b1 : Nat) (b3 : Nat), (∀ (_u : Unit), out = Sum.inr () -> ∀ (T : Nat -> AV) (ss : Sto), 0 + 0 = 0 -> Fx tt ss [(b3, ⟨26, 5, [i6 a1.kind, .str a1.name, i6 a1.num, sf cI a1.sc, sf Fm.cells a1.kids]⟩), (b1, ⟨26, 5, [i6 a0.kind, .str a0.name, i6 a0.num, sf cI a0.sc, sf Fm.cells a0.kids]⟩)] [] -> Q (.ex 0) ⟨T, ss⟩) -> (∀ r, out = Sum.inl r -> ∀ s', Qkk Tryz.prog [.tmp 4] (fun r' ss' => r' = .bool r /\ ss' = tt) s' -> Q .ret s') -> ∀ (T : Nat -> AV) (ss : Sto), T 2 = .ptr b1 0 /\ T 3 = .ptr b3 0 /\ T 5 = i6 Qaj -> Fx tt ss [(b3, ⟨26, 5, [i6 a1.kind, .str a1.name, i6 a1.num, sf cI a1.sc, sf Fm.cells a1.kids]⟩), (b1, ⟨26, 5, [i6 a0.kind, .str a0.name, i6 a0.num, sf cI a0.sc, sf Fm.cells a0.kids]⟩)] [] -> Qbr (Qbc Tryz.prog c) Q ⟨T, ss⟩) ?_ ?_
 ·intro Qdy L0 a0 a1 r H
  intro ss
  refine Qau mixed Tryz.func110 rfl (by kernel_rfl) (rs := [.tmp 4]) rfl (by kernel_rfl) ?_
  have hF := Fx.refl ss
  have hX := Tau.none ss
  have q := dum
  have tT := dum
  refine go ?_
  refine Qag hF rfl fun b1 ss2 hF => ?_
  refine go ?_
  refine Qag hF rfl fun b3 ss4 hF => ?_
  refine go ?_
  obtain ⟨x17, g5, H⟩ := bnd H
  refine Qai 5 12 17 (.bool x17) (giN q (fun q => ?_) (fun q => ?_)) (fun J => ?_)
  ·refine go ?_
   exact Qaw 12 g5
  ·refine go ?_
   exact Qaw 12 g5
  refine go ?_
  obtain ⟨x24, g7, H⟩ := bnd H
  refine Qai 5 19 24 (.bool x24) (giN q (fun q => ?_) (fun q => ?_)) (fun J => ?_)
  ·refine go ?_
   exact Qaw 19 g7
  ·refine go ?_
   exact Qaw 19 g7
  refine go ?_
  obtain ⟨x32, g9, H⟩ := bnd H
  refine Qai 6 26 32 (.bool x32) (giN q (fun q => ?_) (fun q => ?_)) (fun J => ?_)
  ·rw [if_neg (dbf q)] at g9
   refine go ?_
   obtain ⟨x30, hx30, g9⟩ := bnd g9
   refine cl (Qpj a0.sc a1.sc _ hx30) ?_
   refine go ?_
   exact Qaw 26 g9
  ·rw [if_pos (dbt q)] at g9
   refine go ?_
   exact Qaw 26 g9
  refine go ?_
  obtain ⟨x41, g11, H⟩ := bnd H
  refine Qai 7 34 41 (.bool x41) (giN q (fun q => ?_) (fun q => ?_)) (fun J => ?_)
  ·refine go ?_
   exact Qaw 34 g11
  ·refine go ?_
   exact Qaw 34 g11
  refine go ?_
  refine cdb H (fun h H => ?_) (fun h H => ?_)
  ·refine go ?_
   have e := pur H; subst e
   exact rt [.bool false]
  ·refine go ?_
   obtain ⟨o13, ho13, H⟩ := bnd H
   refine L0 a0 a1 0 _ ho13 _ rfl _ _ b1 b3 ?_ ?_ _ _  S hF
   ·intro _ he T15 s16 tT hF
    have he := he.symm
    subst he
    dsimp only at H
    refine go ?_
    have e := pur H; subst e
    exact rt [.bool true]
   ·intro r hr s' hs
    subst hr
    have e := pur H; subst e
    first | exact hs | (try simp only [sf, i6, zB, Fm.Qaa, Xpn.Qaa, Cor.Qaa, Bnd.Qaa, Hit.Qaa, Rul.Qaa, Mac.Qaa, Stp.Qaa, Val.Qaa] at hs ⊢; exact hs)
 ·intro Qbs Qdy C0 L0 a0 a1 Qaj out H c hc Q tt b1 b3 hE hR T ss tT hF
  obtain rfl := lpe (rfl : Qam Tryz.f110 0 = some _) hc
  refine Qah ?_
  have q := dum
  have hX := Tau.none tt
  refine go ?_
  refine cdp H (fun h H => ?_) (fun h H => ?_)
  ·refine go ?_
   refine Qaq E0 [.v, .v, .v, .v, .v, .v, .v, .v, .v, .v, .v, .v] (by kernel_rfl) ?_
   obtain ⟨x52, f1, H⟩ := bil (g := Fm.cells) Fm.Qad H
   obtain ⟨x57, f2, H⟩ := bil (g := Fm.cells) Fm.Qad H
   refine go2 ?_
   obtain ⟨x59, hx59, H⟩ := bnd H
   refine cv (C0 x52 x57 _ hx59) ?_
   refine go ?_
   refine cdb H (fun h H => ?_) (fun h H => ?_)
   ·refine go ?_
    exact hR _ (pur H).symm _ (rt [.bool false])
   ·refine go ?_
    exact L0 a0 a1 (i64.wrap (Qaj + 1)) _ H _ rfl Q tt b1 b3 hE hR _ _  S hF
  ·refine go ?_
   exact hE () (pur H).symm _ _  S hF
theorem Qwk : ∀ (a0 : List Fm) (a1 : Fm) (Qaj : Int) out, Qgn a0 a1 Qaj = some out -> ∀ c, Qam Tryz.f107 0 = some c -> ∀ (Q : AX -> AS -> Prop) (tt : Sto) (b1 : Nat), (∀ (_u : Unit), out = Sum.inr () -> ∀ (T : Nat -> AV) (ss : Sto), 0 + 0 = 0 -> Fx tt ss [(b1, ⟨26, 5, [i6 a1.kind, .str a1.name, i6 a1.num, sf cI a1.sc, sf Fm.cells a1.kids]⟩)] [] -> Q (.ex 0) ⟨T, ss⟩) -> (∀ r, out = Sum.inl r -> ∀ s', Qkk Tryz.prog [.tmp 4] (fun r' ss' => r' = .bool r /\ ss' = tt) s' -> Q .ret s') -> ∀ (T : Nat -> AV) (ss : Sto), T 0 = sf Fm.cells a0 /\ T 3 = .ptr b1 0 /\ T 5 = i6 Qaj -> Fx tt ss [(b1, ⟨26, 5, [i6 a1.kind, .str a1.name, i6 a1.num, sf cI a1.sc, sf Fm.cells a1.kids]⟩)] [] -> Qbr (Qbc Tryz.prog c) Q ⟨T, ss⟩ := by
 intro a0 a1 Qaj
 revert Qaj
 refine Qgn.partial_correctness a0 a1 _ ?_
 intro Qgn IH Qaj out H c hc Q tt b1 hE hR T ss tT hF
 obtain rfl := lpe (rfl : Qam Tryz.f107 0 = some _) hc
 refine Qah ?_
 have q := dum
 have hX := Tau.none tt
 refine go ?_
 refine cdp H (fun h H => ?_) (fun h H => ?_)
 ·refine go ?_
  refine Qaq E0 [.v, .v, .v, .v, .v, .v] (by kernel_rfl) ?_
  obtain ⟨x14, f1, H⟩ := bil (g := Fm.cells) Fm.Qad H
  refine go1 ?_
  obtain ⟨x17, hx17, H⟩ := bnd H
  refine cv (Qgi x14 a1 _ hx17) ?_
  refine go ?_
  refine cdb H (fun h H => ?_) (fun h H => ?_)
  ·refine go ?_
   exact hR _ (pur H).symm _ (rt [.bool true])
  ·refine go ?_
   exact IH  (i64.wrap (Qaj + 1)) _ H _ rfl Q tt b1 hE hR _ _  S hF
 ·refine go ?_
  exact hE () (pur H).symm _ _  S hF
theorem Qlx : ∀ (a0 : List Fm) (a1 : Fm) r, Qju a0 a1 = some r -> Qb0 Tryz.prog 107 [sf Fm.cells a0, .agg (Fm.cells a1)] (.bool r) := by
 intro a0 a1 r H
 intro ss
 unfold Qju at H
 refine Qau mixed Tryz.func107 rfl (by kernel_rfl) (rs := [.tmp 4]) rfl (by kernel_rfl) ?_
 have hF := Fx.refl ss
 have hX := Tau.none ss
 have q := dum
 have tT := dum
 refine go ?_
 refine Qag hF rfl fun b1 ss2 hF => ?_
 refine go ?_
 obtain ⟨o3, ho3, H⟩ := bnd H
 refine Qwk a0 a1 0 _ ho3 _ rfl _ _ b1 ?_ ?_ _ _  S hF
 ·intro _ he T5 ss6 tT hF
  have he := he.symm
  subst he
  dsimp only at H
  refine go ?_
  have e := pur H; subst e
  exact rt [.bool false]
 ·intro r hr s' hs
  subst hr
  have e := pur H; subst e
  first | exact hs | (try simp only [sf, i6, zB, Fm.Qaa, Xpn.Qaa, Cor.Qaa, Bnd.Qaa, Hit.Qaa, Rul.Qaa, Mac.Qaa, Stp.Qaa, Val.Qaa] at hs ⊢; exact hs)
theorem Qon : ∀ (a0 : List Fm) (Qa1 : Int) out, Qcr a0 Qa1 = some out -> ∀ c, Qam Tryz.f104 0 = some c -> ∀ (Q : AX -> AS -> Prop) (tt : Sto), (∀ (_u : Unit), out = Sum.inr () -> ∀ (T : Nat -> AV) (ss : Sto), T 0 = sf Fm.cells a0 -> Fx tt ss [] [] -> Q (.ex 0) ⟨T, ss⟩) -> (∀ r, out = Sum.inl r -> ∀ s', Qkk Tryz.prog [.tmp 2] (fun r' ss' => r' = .bool r /\ ss' = tt) s' -> Q .ret s') -> ∀ (T : Nat -> AV) (ss : Sto), T 0 = sf Fm.cells a0 /\ T 3 = i6 Qa1 -> Fx tt ss [] [] -> Qbr (Qbc Tryz.prog c) Q ⟨T, ss⟩ := by
 intro a0 Qa1
 revert Qa1
 refine Qcr.partial_correctness a0 _ ?_
 intro Qcr IH Qa1 out H c hc Q tt  hE hR T ss tT hF
 obtain rfl := lpe (rfl : Qam Tryz.f104 0 = some _) hc
 refine Qah ?_
 have q := dum
 have hX := Tau.none tt
 refine go ?_
 obtain ⟨x11, g1, H⟩ := bnd H
 refine Qai 2 9 11 (.bool x11) (gi q (fun q => ?_) (fun q => ?_)) (fun J => ?_)
 ·refine go ?_
  exact Qaw 9 g1
 ·refine go ?_
  exact Qaw 9 g1
 refine go ?_
 refine cdb H (fun h H => ?_) (fun h H => ?_)
 ·refine go ?_
  refine Qaq E0 [.v, .v, .v, .v, .v, .v, .v, .v, .v, .v, .v, .v, .v, .v, .v, .v, .v, .v, .v, .v, .v, .v, .v, .v, .v, .v, .v, .v, .v, .v, .v, .v] (by kernel_rfl) ?_
  obtain ⟨x16, f1, H⟩ := bil (g := Fm.cells) Fm.Qad H
  refine go1 ?_
  obtain ⟨x18, hx18, H⟩ := bnd H
  refine cv (Qtw x16 _ hx18) ?_
  refine go ?_
  obtain ⟨x27, g3, H⟩ := bnd H
  refine Qb4 6 21 27 (.bool x27) (tiN q (fun q => ?_) (fun q => ?_)) (fun J => ?_)
  ·rw [if_neg (dbf q)] at g3
   obtain ⟨x23, f1, g3⟩ := bil (g := Fm.cells) Fm.Qad g3
   refine go1 ?_
   refine go ?_
   exact Qaw 21 g3
  ·rw [if_pos (dbt q)] at g3
   refine go ?_
   exact Qaw 21 g3
  refine go ?_
  obtain ⟨x35, g5, H⟩ := bnd H
  refine Qb4 6 29 35 (.bool x35) (tiN q (fun q => ?_) (fun q => ?_)) (fun J => ?_)
  ·rw [if_neg (dbf q)] at g5
   obtain ⟨x31, f1, g5⟩ := bil (g := Fm.cells) Fm.Qad g5
   refine go1 ?_
   refine go ?_
   exact Qaw 29 g5
  ·rw [if_pos (dbt q)] at g5
   refine go ?_
   exact Qaw 29 g5
  refine go ?_
  obtain ⟨x45, g7, H⟩ := bnd H
  refine Qb4 8 37 45 (.bool x45) (tiN q (fun q => ?_) (fun q => ?_)) (fun J => ?_)
  ·rw [if_neg (dbf q)] at g7
   obtain ⟨x39, f1, g7⟩ := bls (g := Fm.cells) Fm.Qad (lo := none) (hi := some (i6 Qa1)) rfl rfl g7
   obtain ⟨x42, f2, g7⟩ := bil (g := Fm.cells) Fm.Qad g7
   refine go2 ?_
   obtain ⟨x44, hx44, g7⟩ := bnd g7
   refine cv (Qlx x39 x42 _ hx44) ?_
   refine go ?_
   exact Qaw 37 g7
  ·rw [if_pos (dbt q)] at g7
   refine go ?_
   exact Qaw 37 g7
  refine go ?_
  refine cdb H (fun h H => ?_) (fun h H => ?_)
  ·refine go ?_
   exact hR _ (pur H).symm _ (rt [.bool false])
  ·refine go ?_
   exact IH  (i64.wrap (Qa1 + 1)) _ H _ rfl Q tt  hE hR _ _  S hF
 ·refine go ?_
  exact hE () (pur H).symm _ _  S hF
theorem Qly : ∀ (a0 : List Fm) r, Qhb a0 = some r -> Qb0 Tryz.prog 104 [sf Fm.cells a0] (.bool r) := by
 intro a0 r H
 intro ss
 unfold Qhb at H
 refine Qau mixed Tryz.func104 rfl (by kernel_rfl) (rs := [.tmp 2]) rfl (by kernel_rfl) ?_
 have hF := Fx.refl ss
 have hX := Tau.none ss
 have q := dum
 have tT := dum
 refine go ?_
 obtain ⟨o9, ho9, H⟩ := bnd H
 refine Qon a0 0 _ ho9 _ rfl _ _  ?_ ?_ _ _  S hF
 ·intro _ he T11 s12 tT hF
  have he := he.symm
  subst he
  dsimp only at H
  refine go ?_
  have e := pur H; subst e
  exact rt [.bool (decide ((a0.length : Int) < 10))]
 ·intro r hr s' hs
  subst hr
  have e := pur H; subst e
  first | exact hs | (try simp only [sf, i6, zB, Fm.Qaa, Xpn.Qaa, Cor.Qaa, Bnd.Qaa, Hit.Qaa, Rul.Qaa, Mac.Qaa, Stp.Qaa, Val.Qaa] at hs ⊢; exact hs)
theorem Qb6 : ∀ (a0 : Fm) r, Qbf a0 = some r -> Qb0 Tryz.prog 153 [.agg (Fm.cells a0)] (.bool r) := by
 intro a0 r H
 intro ss
 unfold Qbf at H
 refine Qau mixed Tryz.func153 rfl (by kernel_rfl) (rs := [.tmp 2]) rfl (by kernel_rfl) ?_
 have hF := Fx.refl ss
 have hX := Tau.none ss
 have q := dum
 have tT := dum
 refine go ?_
 refine Qag hF rfl fun b1 ss2 hF => ?_
 refine go ?_
 obtain ⟨x10, g3, H⟩ := bnd H
 refine Qai 3 7 10 (.bool x10) (gi q (fun q => ?_) (fun q => ?_)) (fun J => ?_)
 ·refine go ?_
  exact Qaw 7 g3
 ·refine go ?_
  exact Qaw 7 g3
 refine go ?_
 have e := pur H; subst e
 exact rt [.bool x10]
theorem Qwp : ∀ (a0 : Fm) r, Qhn a0 = some r -> Qb0 Tryz.prog 105 [.agg (Fm.cells a0)] (.bool r) := by
 refine Qhn.partial_correctness  (motive_1 := fun a0 r => Qb0 Tryz.prog 105 [.agg (Fm.cells a0)] (.bool r)) (motive_2 := fun a0 Qa1 Qba out => ∀ c, Qam Tryz.f105 0 = some c -> ∀ (Q : AX -> AS -> Prop) (tt : Sto) (b1 : Nat), (∀ (Qqo : Int), out = Sum.inr Qqo -> ∀ (T : Nat -> AV) (ss : Sto), T 3 = i6 Qqo -> Fx tt ss [(b1, ⟨26, 5, [i6 a0.kind, .str a0.name, i6 a0.num, sf cI a0.sc, sf Fm.cells a0.kids]⟩)] [] -> Q (.ex 0) ⟨T, ss⟩) -> (∀ r, out = Sum.inl r -> ∀ s', Qkk Tryz.prog [.tmp 2] (fun r' ss' => r' = .bool r /\ ss' = tt) s' -> Q .ret s') -> ∀ (T : Nat -> AV) (ss : Sto), T 1 = .ptr b1 0 /\ T 3 = i6 Qa1 /\ T 4 = i6 Qba -> Fx tt ss [(b1, ⟨26, 5, [i6 a0.kind, .str a0.name, i6 a0.num, sf cI a0.sc, sf Fm.cells a0.kids]⟩)] [] -> Qbr (Qbc Tryz.prog c) Q ⟨T, ss⟩) ?_ ?_
 ·intro Qds L0 a0 r H
  intro ss
  refine Qau mixed Tryz.func105 rfl (by kernel_rfl) (rs := [.tmp 2]) rfl (by kernel_rfl) ?_
  have hF := Fx.refl ss
  have hX := Tau.none ss
  have q := dum
  have tT := dum
  refine go ?_
  refine Qag hF rfl fun b1 ss2 hF => ?_
  refine go ?_
  obtain ⟨x6, hx6, H⟩ := bnd H
  refine cl (Qb6 a0 _ hx6) ?_
  refine go ?_
  refine cdb H (fun h H => ?_) (fun h H => ?_)
  ·refine go ?_
   have e := pur H; subst e
   exact rt [.bool false]
  ·refine go ?_
   obtain ⟨o5, ho5, H⟩ := bnd H
   refine L0 a0 0 0 _ ho5 _ rfl _ _ b1 ?_ ?_ _ _  S hF
   ·intro Kg2 he T7 s8 tT hF
    have he := he.symm
    subst he
    dsimp only at H
    refine go ?_
    have e := pur H; subst e
    exact rt [.bool (decide (Kg2 <= 1))]
   ·intro r hr s' hs
    subst hr
    have e := pur H; subst e
    first | exact hs | (try simp only [sf, i6, zB, Fm.Qaa, Xpn.Qaa, Cor.Qaa, Bnd.Qaa, Hit.Qaa, Rul.Qaa, Mac.Qaa, Stp.Qaa, Val.Qaa] at hs ⊢; exact hs)
 ·intro Qhn Qds C0 L0 a0 Qa1 Qba out H c hc Q tt b1 hE hR T ss tT hF
  obtain rfl := lpe (rfl : Qam Tryz.f105 0 = some _) hc
  refine Qah ?_
  have q := dum
  have hX := Tau.none tt
  refine go ?_
  refine cdp H (fun h H => ?_) (fun h H => ?_)
  ·obtain ⟨x17, f1, H⟩ := bil (g := Fm.cells) Fm.Qad H
   refine go1 ?_
   obtain ⟨x19, hx19, H⟩ := bnd H
   refine cl (Qb6 x17 _ hx19) ?_
   refine go ?_
   refine cdb H (fun h H => ?_) (fun h H => ?_)
   ·refine go ?_
    obtain ⟨x32, g3, H⟩ := bnd H
    refine Qai 7 25 32 (.bool x32) (giN q (fun q => ?_) (fun q => ?_)) (fun J => ?_)
    ·rw [if_neg (df q)] at g3
     obtain ⟨x29, f1, g3⟩ := bil (g := Fm.cells) Fm.Qad g3
     refine go1 ?_
     obtain ⟨x31, hx31, g3⟩ := bnd g3
     refine cl (Qb6 x29 _ hx31) ?_
     refine go ?_
     exact Qaw 25 g3
    ·rw [if_pos (dt q)] at g3
     refine go ?_
     exact Qaw 25 g3
    refine go ?_
    refine cdb H (fun h H => ?_) (fun h H => ?_)
    ·refine go ?_
     exact hR _ (pur H).symm _ (rt [.bool false])
    ·refine go ?_
     exact L0 a0 (i64.wrap (Qa1 + 1)) (i64.wrap (Qba + 1)) _ H _ rfl Q tt b1 hE hR _ _  S hF
   ·obtain ⟨x36, f1, H⟩ := bil (g := Fm.cells) Fm.Qad H
    refine go1 ?_
    obtain ⟨x38, hx38, H⟩ := bnd H
    refine cl (C0 x36 _ hx38) ?_
    refine go ?_
    refine cdb H (fun h H => ?_) (fun h H => ?_)
    ·refine go ?_
     exact hR _ (pur H).symm _ (rt [.bool false])
    ·refine go ?_
     exact L0 a0 Qa1 (i64.wrap (Qba + 1)) _ H _ rfl Q tt b1 hE hR _ _  S hF
  ·refine go ?_
   exact hE _ (pur H).symm _ _  S hF
theorem Qks : ∀ (a0 : Fm) (a1 : List Fm) r, Qjh a0 a1 = some r -> Qb0 Tryz.prog 154 [.agg (Fm.cells a0), sf Fm.cells a1] (.bool r) := by
 intro a0 a1 r H
 intro ss
 unfold Qjh at H
 refine Qau mixed Tryz.func154 rfl (by kernel_rfl) (rs := [.tmp 4]) rfl (by kernel_rfl) ?_
 have hF := Fx.refl ss
 have hX := Tau.none ss
 have q := dum
 have tT := dum
 refine go ?_
 refine Qag hF rfl fun b1 ss2 hF => ?_
 refine go ?_
 obtain ⟨x12, g3, H⟩ := bnd H
 refine Qai 3 9 12 (.bool x12) (gi q (fun q => ?_) (fun q => ?_)) (fun J => ?_)
 ·refine go ?_
  exact Qaw 9 g3
 ·refine go ?_
  exact Qaw 9 g3
 refine go ?_
 obtain ⟨x17, g5, H⟩ := bnd H
 refine Qai 3 14 17 (.bool x17) (gi q (fun q => ?_) (fun q => ?_)) (fun J => ?_)
 ·refine go ?_
  exact Qaw 14 g5
 ·refine go ?_
  exact Qaw 14 g5
 refine go ?_
 obtain ⟨x23, g7, H⟩ := bnd H
 refine Qai 4 19 23 (.bool x23) (gi q (fun q => ?_) (fun q => ?_)) (fun J => ?_)
 ·rw [if_pos (dbt q)] at g7
  refine go ?_
  obtain ⟨x21, hx21, g7⟩ := bnd g7
  refine cl (Qlx a1 a0 _ hx21) ?_
  refine go ?_
  exact Qaw 19 g7
 ·rw [if_neg (dbf q)] at g7
  refine go ?_
  exact Qaw 19 g7
 refine go ?_
 have e := pur H; subst e
 exact rt [.bool x23]
theorem Qs3 : ∀ (a0 : List Fm) (a1 : Fm) (a2 : List Fm) r, Qeh a0 a1 a2 = some r -> ∀  (p0 : AV) (ss : Sto), Pre ss [] [⟨p0, 26, 5, rws Fm.cells a0⟩] -> Ctr Tryz.prog 106 [p0, .agg (Fm.cells a1), sf Fm.cells a2] ss (fun r' ss' => ∃ (tt' : Sto) (w0 : AV), r' = w0 /\ Tau (strip ss [⟨p0, 26, 5, rws Fm.cells a0⟩]) [] tt' /\ Fx tt' ss' [] [⟨w0, 26, 5, rws Fm.cells r⟩]) := by
 intro a0 a1 a2
 revert a0 a1
 refine Qeh.partial_correctness a2 (motive_1 := fun a0 a1 r => ∀  (p0 : AV) (ss : Sto), Pre ss [] [⟨p0, 26, 5, rws Fm.cells a0⟩] -> Ctr Tryz.prog 106 [p0, .agg (Fm.cells a1), sf Fm.cells a2] ss (fun r' ss' => ∃ (tt' : Sto) (w0 : AV), r' = w0 /\ Tau (strip ss [⟨p0, 26, 5, rws Fm.cells a0⟩]) [] tt' /\ Fx tt' ss' [] [⟨w0, 26, 5, rws Fm.cells r⟩])) (motive_2 := fun a1 Qac Qa2 out => ∀ c, Qam Tryz.f106 0 = some c -> ∀ (Q : AX -> AS -> Prop) (tt0 : Sto) (b1 : Nat), (∀ (Qbn : List Fm), out = Qbn -> ∀ (T : Nat -> AV) (ss : Sto) (tt : Sto) (e0v0 : AV), T 0 = e0v0 -> Tau tt0 [] tt -> Fx tt ss [(b1, ⟨26, 5, [i6 a1.kind, .str a1.name, i6 a1.num, sf cI a1.sc, sf Fm.cells a1.kids]⟩)] [⟨e0v0, 26, 5, rws Fm.cells Qbn⟩] -> Q (.ex 0) ⟨T, ss⟩) -> True -> ∀ (T : Nat -> AV) (ss : Sto) (tt : Sto) (z0v0 : AV), T 0 = z0v0 /\ T 2 = sf Fm.cells a2 /\ T 4 = .ptr b1 0 /\ T 7 = i6 Qa2 -> Tau tt0 [] tt -> Fx tt ss [(b1, ⟨26, 5, [i6 a1.kind, .str a1.name, i6 a1.num, sf cI a1.sc, sf Fm.cells a1.kids]⟩)] [⟨z0v0, 26, 5, rws Fm.cells Qac⟩] -> Qbr (Qbc Tryz.prog c) Q ⟨T, ss⟩) ?_ ?_
 ·intro Qdd L0 a0 a1 r H
  intro  p0 ss hP
  refine Qau mixed Tryz.func106 rfl (by kernel_rfl) (rs := [.tmp 6]) rfl (by kernel_rfl) ?_
  obtain ⟨hF, hX⟩ := hP.start
  generalize strip ss [⟨p0, 26, 5, rws Fm.cells a0⟩] = tt0 at hF hX ⊢
  have q := dum
  have tT := dum
  refine go ?_
  refine Qag hF rfl fun b1 ss2 hF => ?_
  refine go ?_
  obtain ⟨x10, hx10, H⟩ := bnd H
  refine cl (Qks a1 a2 _ hx10) ?_
  refine go ?_
  obtain ⟨Qkn, j4, H⟩ := bnd H
  refine Qca (fun s' => ∃ (T : Nat -> AV) (ss1 : Sto) (tt1 : Sto) (y3v0 : AV), s' = ⟨T, ss1⟩ /\ (T 0 = y3v0 /\ T 2 = sf Fm.cells a2 /\ T 4 = .ptr b1 0) /\ Tau tt0 [] tt1 /\ Fx tt1 ss1 [(b1, ⟨26, 5, [i6 a1.kind, .str a1.name, i6 a1.num, sf cI a1.sc, sf Fm.cells a1.kids]⟩)] [⟨y3v0, 26, 5, rws Fm.cells Qkn⟩]) (cdb j4 (fun h j4 => ?_) (fun h j4 => ?_)) ?_
  ·refine go ?_
   refine apd (g := Fm.cells) hF 0 j4 (rdo (c := true) (g := Fm.cells) Fm.Qad) fun x14 j4 v5 ss6 hF => ?_
   refine go ?_
   have e := pur j4
   subst e
   exact ⟨_, _, _, v5, rfl, S, hX, hF⟩
  ·refine go ?_
   have e := pur j4
   subst e
   exact ⟨_, _, _, p0, rfl, S, hX, hF⟩
  ·rintro s' ⟨T7, s8, tt9, y3v0, rfl, tT, hX, hF⟩
   refine go ?_
   obtain ⟨o14, ho14, H⟩ := bnd H
   refine L0 a1 Qkn 0 _ ho14 _ rfl _ tt0 b1 ?_ ?_ _ _ _ y3v0 S hX hF
   ·intro Qtt he T16 s17 t18 e15v0 tT hX hF
    have he := he.symm
    subst he
    refine go ?_
    have e := pur H; subst e
    exact rg [e15v0] ⟨_, _, rfl, hX, hF.pick [] [0] (by decide) (by decide)⟩
   ·trivial
 ·intro Qeh Qdd C0 L0 a1 Qac Qa2 out H c hc Q tt0 b1 hE hR T ss tt z0v0 tT hX hF
  obtain rfl := lpe (rfl : Qam Tryz.f106 0 = some _) hc
  refine Qah ?_
  have q := dum
  refine go ?_
  refine cdp H (fun h H => ?_) (fun h H => ?_)
  ·obtain ⟨x26, f1, H⟩ := bil (g := Fm.cells) Fm.Qad H
   refine go1 ?_
   obtain ⟨x29, hx29, H⟩ := bnd H
   refine cx (C0 Qac x26 _ hx29  z0v0 _ (pre 0 0 1 hF hX)) ?_
   rintro v10 s11 ⟨t12, _, rfl, hT, hG⟩
   obtain ⟨t13, hX, hF⟩ := aft 0 0 1 hF hX hT hG
   refine go ?_
   exact L0 a1 x29 (i64.wrap (Qa2 + 1)) _ H _ rfl Q tt0 b1 hE hR _ _ _ v10 S hX hF
  ·refine go ?_
   exact hE _ (pur H).symm _ _ _ z0v0 S hX hF
theorem Qs2 : ∀ (a1 : Fm) (a2 : List Fm) (Qac : List Fm) (Qa2 : Int) out, Qeg a1 a2 Qac Qa2 = some out -> ∀ c, Qam Tryz.f106 0 = some c -> ∀ (Q : AX -> AS -> Prop) (tt0 : Sto) (b1 : Nat), (∀ (Qbn : List Fm), out = Qbn -> ∀ (T : Nat -> AV) (ss : Sto) (tt : Sto) (e0v0 : AV), T 0 = e0v0 -> Tau tt0 [] tt -> Fx tt ss [(b1, ⟨26, 5, [i6 a1.kind, .str a1.name, i6 a1.num, sf cI a1.sc, sf Fm.cells a1.kids]⟩)] [⟨e0v0, 26, 5, rws Fm.cells Qbn⟩] -> Q (.ex 0) ⟨T, ss⟩) -> True -> ∀ (T : Nat -> AV) (ss : Sto) (tt : Sto) (z0v0 : AV), T 0 = z0v0 /\ T 2 = sf Fm.cells a2 /\ T 4 = .ptr b1 0 /\ T 7 = i6 Qa2 -> Tau tt0 [] tt -> Fx tt ss [(b1, ⟨26, 5, [i6 a1.kind, .str a1.name, i6 a1.num, sf cI a1.sc, sf Fm.cells a1.kids]⟩)] [⟨z0v0, 26, 5, rws Fm.cells Qac⟩] -> Qbr (Qbc Tryz.prog c) Q ⟨T, ss⟩ := by
 intro a1 a2 Qac Qa2
 revert Qac Qa2
 refine Qeg.partial_correctness a1 a2 _ ?_
 intro Qeg IH Qac Qa2 out H c hc Q tt0 b1 hE hR T ss tt z0v0 tT hX hF
 obtain rfl := lpe (rfl : Qam Tryz.f106 0 = some _) hc
 refine Qah ?_
 have q := dum
 refine go ?_
 refine cdp H (fun h H => ?_) (fun h H => ?_)
 ·obtain ⟨x26, f1, H⟩ := bil (g := Fm.cells) Fm.Qad H
  refine go1 ?_
  obtain ⟨x29, hx29, H⟩ := bnd H
  refine cx (Qs3 Qac x26 a2 _ hx29  z0v0 _ (pre 0 0 1 hF hX)) ?_
  rintro v10 s11 ⟨t12, _, rfl, hT, hG⟩
  obtain ⟨t13, hX, hF⟩ := aft 0 0 1 hF hX hT hG
  refine go ?_
  exact IH  x29 (i64.wrap (Qa2 + 1)) _ H _ rfl Q tt0 b1 hE hR _ _ _ v10 S hX hF
 ·refine go ?_
  exact hE _ (pur H).symm _ _ _ z0v0 S hX hF
theorem Qmb : ∀ (a0 : List Fm) (a1 : Fm) (a2 : List Fm) r, Qje a0 a1 a2 = some r -> ∀  (p0 : AV) (ss : Sto), Pre ss [] [⟨p0, 26, 5, rws Fm.cells a0⟩] -> Ctr Tryz.prog 106 [p0, .agg (Fm.cells a1), sf Fm.cells a2] ss (fun r' ss' => ∃ (tt' : Sto), r' = sf Fm.cells r /\ Tau (strip ss [⟨p0, 26, 5, rws Fm.cells a0⟩]) [] tt' /\ Fx tt' ss' [] []) := by
 intro a0 a1 a2 r H
 intro  p0 ss hP
 unfold Qje at H
 refine Qau mixed Tryz.func106 rfl (by kernel_rfl) (rs := [.tmp 6]) rfl (by kernel_rfl) ?_
 obtain ⟨hF, hX⟩ := hP.start
 generalize strip ss [⟨p0, 26, 5, rws Fm.cells a0⟩] = tt0 at hF hX ⊢
 have q := dum
 have tT := dum
 refine go ?_
 refine Qag hF rfl fun b1 ss2 hF => ?_
 refine go ?_
 obtain ⟨x10, hx10, H⟩ := bnd H
 refine cl (Qks a1 a2 _ hx10) ?_
 refine go ?_
 obtain ⟨Qkn, j4, H⟩ := bnd H
 refine Qca (fun s' => ∃ (T : Nat -> AV) (ss1 : Sto) (tt1 : Sto) (y3v0 : AV), s' = ⟨T, ss1⟩ /\ (T 0 = y3v0 /\ T 2 = sf Fm.cells a2 /\ T 4 = .ptr b1 0) /\ Tau tt0 [] tt1 /\ Fx tt1 ss1 [(b1, ⟨26, 5, [i6 a1.kind, .str a1.name, i6 a1.num, sf cI a1.sc, sf Fm.cells a1.kids]⟩)] [⟨y3v0, 26, 5, rws Fm.cells Qkn⟩]) (cdb j4 (fun h j4 => ?_) (fun h j4 => ?_)) ?_
 ·refine go ?_
  refine apd (g := Fm.cells) hF 0 j4 (rdo (c := true) (g := Fm.cells) Fm.Qad) fun x14 j4 v5 ss6 hF => ?_
  refine go ?_
  have e := pur j4
  subst e
  exact ⟨_, _, _, v5, rfl, S, hX, hF⟩
 ·refine go ?_
  have e := pur j4
  subst e
  exact ⟨_, _, _, p0, rfl, S, hX, hF⟩
 ·rintro s' ⟨T7, s8, tt9, y3v0, rfl, tT, hX, hF⟩
  refine go ?_
  obtain ⟨o14, ho14, H⟩ := bnd H
  refine Qs2 a1 a2 Qkn 0 _ ho14 _ rfl _ tt0 b1 ?_ ?_ _ _ _ y3v0 S hX hF
  ·intro Qtt he T16 s17 t18 e15v0 tT hX hF
   have he := he.symm
   subst he
   refine go ?_
   have e := pur H; subst e
   exact rg [e15v0] ⟨_, rfl, hX, Fx.self _⟩
  ·trivial
theorem Qp9 : ∀ (a0 : List Int) (a1 : Fm) (a2 : List Fm) (a3 : Int) r, Qb3 a0 a1 a2 a3 = some r -> ∀  (p0 : AV) (ss : Sto), Pre ss [] [⟨p0, 3, 1, rws cI a0⟩] -> Ctr Tryz.prog 108 [p0, .agg (Fm.cells a1), sf Fm.cells a2, i6 a3] ss (fun r' ss' => ∃ (tt' : Sto) (w0 : AV), r' = w0 /\ Tau (strip ss [⟨p0, 3, 1, rws cI a0⟩]) [] tt' /\ Fx tt' ss' [] [⟨w0, 3, 1, rws cI r⟩]) := by
 intro a0 a1 a2 a3
 revert a0 a1 a3
 refine Qb3.partial_correctness a2 (motive_1 := fun a0 a1 a3 r => ∀  (p0 : AV) (ss : Sto), Pre ss [] [⟨p0, 3, 1, rws cI a0⟩] -> Ctr Tryz.prog 108 [p0, .agg (Fm.cells a1), sf Fm.cells a2, i6 a3] ss (fun r' ss' => ∃ (tt' : Sto) (w0 : AV), r' = w0 /\ Tau (strip ss [⟨p0, 3, 1, rws cI a0⟩]) [] tt' /\ Fx tt' ss' [] [⟨w0, 3, 1, rws cI r⟩])) (motive_2 := fun a1 a3 Qac Qbq out => ∀ c, Qam Tryz.f108 0 = some c -> ∀ (Q : AX -> AS -> Prop) (tt0 : Sto) (b1 : Nat), (∀ (Qbn : List Int), out = Qbn -> ∀ (T : Nat -> AV) (ss : Sto) (tt : Sto) (e0v0 : AV), T 0 = e0v0 -> Tau tt0 [] tt -> Fx tt ss [(b1, ⟨26, 5, [i6 a1.kind, .str a1.name, i6 a1.num, sf cI a1.sc, sf Fm.cells a1.kids]⟩)] [⟨e0v0, 3, 1, rws cI Qbn⟩] -> Q (.ex 0) ⟨T, ss⟩) -> True -> ∀ (T : Nat -> AV) (ss : Sto) (tt : Sto) (z0v0 : AV), T 0 = z0v0 /\ T 2 = sf Fm.cells a2 /\ T 3 = i6 a3 /\ T 5 = .ptr b1 0 /\ T 9 = i6 Qbq -> Tau tt0 [] tt -> Fx tt ss [(b1, ⟨26, 5, [i6 a1.kind, .str a1.name, i6 a1.num, sf cI a1.sc, sf Fm.cells a1.kids]⟩)] [⟨z0v0, 3, 1, rws cI Qac⟩] -> Qbr (Qbc Tryz.prog c) Q ⟨T, ss⟩) ?_ ?_
 ·intro Qcc L0 a0 a1 a3 r H
  intro  p0 ss hP
  refine Qau mixed Tryz.func108 rfl (by kernel_rfl) (rs := [.tmp 8]) rfl (by kernel_rfl) ?_
  obtain ⟨hF, hX⟩ := hP.start
  generalize strip ss [⟨p0, 3, 1, rws cI a0⟩] = tt0 at hF hX ⊢
  have q := dum
  have tT := dum
  refine go ?_
  refine Qag hF rfl fun b1 ss2 hF => ?_
  refine go ?_
  obtain ⟨x13, hx13, H⟩ := bnd H
  refine cl (Qks a1 a2 _ hx13) ?_
  refine go ?_
  obtain ⟨Qkn, j4, H⟩ := bnd H
  refine Qca (fun s' => ∃ (T : Nat -> AV) (ss1 : Sto) (tt1 : Sto) (y3v0 : AV), s' = ⟨T, ss1⟩ /\ (T 0 = y3v0 /\ T 2 = sf Fm.cells a2 /\ T 3 = i6 a3 /\ T 5 = .ptr b1 0) /\ Tau tt0 [] tt1 /\ Fx tt1 ss1 [(b1, ⟨26, 5, [i6 a1.kind, .str a1.name, i6 a1.num, sf cI a1.sc, sf Fm.cells a1.kids]⟩)] [⟨y3v0, 3, 1, rws cI Qkn⟩]) (cdb j4 (fun h j4 => ?_) (fun h j4 => ?_)) ?_
  ·refine go ?_
   refine apd (g := cI) hF 0 j4 (rdo (c := true) (g := cI) (fun _ => rfl)) fun x17 j4 v5 ss6 hF => ?_
   refine go ?_
   have e := pur j4
   subst e
   exact ⟨_, _, _, v5, rfl, S, hX, hF⟩
  ·refine go ?_
   have e := pur j4
   subst e
   exact ⟨_, _, _, p0, rfl, S, hX, hF⟩
  ·rintro s' ⟨T7, s8, tt9, y3v0, rfl, tT, hX, hF⟩
   refine go ?_
   obtain ⟨o21, ho21, H⟩ := bnd H
   refine L0 a1 a3 Qkn 0 _ ho21 _ rfl _ tt0 b1 ?_ ?_ _ _ _ y3v0 S hX hF
   ·intro Qnm he T23 s24 t25 e22v0 tT hX hF
    have he := he.symm
    subst he
    refine go ?_
    have e := pur H; subst e
    exact rg [e22v0] ⟨_, _, rfl, hX, hF.pick [] [0] (by decide) (by decide)⟩
   ·trivial
 ·intro Qb3 Qcc C0 L0 a1 a3 Qac Qbq out H c hc Q tt0 b1 hE hR T ss tt z0v0 tT hX hF
  obtain rfl := lpe (rfl : Qam Tryz.f108 0 = some _) hc
  refine Qah ?_
  have q := dum
  refine go ?_
  refine cdp H (fun h H => ?_) (fun h H => ?_)
  ·refine go ?_
   obtain ⟨x40, g10, H⟩ := bnd H
   refine Qai 7 33 40 (.bool x40) (gi q (fun q => ?_) (fun q => ?_)) (fun J => ?_)
   ·rw [if_pos (dt q)] at g10
    obtain ⟨x37, f1, g10⟩ := bil (g := Fm.cells) Fm.Qad g10
    refine go1 ?_
    obtain ⟨x39, hx39, g10⟩ := bnd g10
    refine cl (Qb6 x37 _ hx39) ?_
    refine go ?_
    exact Qaw 33 g10
   ·rw [if_neg (df q)] at g10
    refine go ?_
    exact Qaw 33 g10
   refine go ?_
   obtain ⟨Qj8, j13, H⟩ := bnd H
   refine Qca (fun s' => ∃ (T : Nat -> AV) (ss1 : Sto) (tt1 : Sto), s' = ⟨T, ss1⟩ /\ (T 0 = z0v0 /\ T 2 = sf Fm.cells a2 /\ T 3 = i6 a3 /\ T 5 = .ptr b1 0 /\ T 9 = i6 Qbq /\ T 10 = i6 Qj8) /\ Tau tt0 [] tt1 /\ Fx tt1 ss1 [(b1, ⟨26, 5, [i6 a1.kind, .str a1.name, i6 a1.num, sf cI a1.sc, sf Fm.cells a1.kids]⟩)] [⟨z0v0, 3, 1, rws cI Qac⟩]) (cdb j13 (fun h j13 => ?_) (fun h j13 => ?_)) ?_
   ·refine go ?_
    have e := pur j13
    subst e
    exact ⟨_, _, _, rfl, S, hX, hF⟩
   ·refine go ?_
    have e := pur j13
    subst e
    exact ⟨_, _, _, rfl, S, hX, hF⟩
   ·rintro s' ⟨T14, s15, t16, rfl, tT, hX, hF⟩
    obtain ⟨x47, f1, H⟩ := bil (g := Fm.cells) Fm.Qad H
    refine go1 ?_
    obtain ⟨x51, hx51, H⟩ := bnd H
    refine cx (C0 Qac x47 Qj8 _ hx51  z0v0 _ (pre 0 0 1 hF hX)) ?_
    rintro v17 s18 ⟨t19, _, rfl, hT, hG⟩
    obtain ⟨tt20, hX, hF⟩ := aft 0 0 1 hF hX hT hG
    refine go ?_
    exact L0 a1 a3 x51 (i64.wrap (Qbq + 1)) _ H _ rfl Q tt0 b1 hE hR _ _ _ v17 S hX hF
  ·refine go ?_
   exact hE _ (pur H).symm _ _ _ z0v0 S hX hF
theorem Qp8 : ∀ (a1 : Fm) (a2 : List Fm) (a3 : Int) (Qac : List Int) (Qbq : Int) out, Qc2 a1 a2 a3 Qac Qbq = some out -> ∀ c, Qam Tryz.f108 0 = some c -> ∀ (Q : AX -> AS -> Prop) (tt0 : Sto) (b1 : Nat), (∀ (Qbn : List Int), out = Qbn -> ∀ (T : Nat -> AV) (ss : Sto) (tt : Sto) (e0v0 : AV), T 0 = e0v0 -> Tau tt0 [] tt -> Fx tt ss [(b1, ⟨26, 5, [i6 a1.kind, .str a1.name, i6 a1.num, sf cI a1.sc, sf Fm.cells a1.kids]⟩)] [⟨e0v0, 3, 1, rws cI Qbn⟩] -> Q (.ex 0) ⟨T, ss⟩) -> True -> ∀ (T : Nat -> AV) (ss : Sto) (tt : Sto) (z0v0 : AV), T 0 = z0v0 /\ T 2 = sf Fm.cells a2 /\ T 3 = i6 a3 /\ T 5 = .ptr b1 0 /\ T 9 = i6 Qbq -> Tau tt0 [] tt -> Fx tt ss [(b1, ⟨26, 5, [i6 a1.kind, .str a1.name, i6 a1.num, sf cI a1.sc, sf Fm.cells a1.kids]⟩)] [⟨z0v0, 3, 1, rws cI Qac⟩] -> Qbr (Qbc Tryz.prog c) Q ⟨T, ss⟩ := by
 intro a1 a2 a3 Qac Qbq
 revert Qac Qbq
 refine Qc2.partial_correctness a1 a2 a3 _ ?_
 intro Qc2 IH Qac Qbq out H c hc Q tt0 b1 hE hR T ss tt z0v0 tT hX hF
 obtain rfl := lpe (rfl : Qam Tryz.f108 0 = some _) hc
 refine Qah ?_
 have q := dum
 refine go ?_
 refine cdp H (fun h H => ?_) (fun h H => ?_)
 ·refine go ?_
  obtain ⟨x40, g10, H⟩ := bnd H
  refine Qai 7 33 40 (.bool x40) (gi q (fun q => ?_) (fun q => ?_)) (fun J => ?_)
  ·rw [if_pos (dt q)] at g10
   obtain ⟨x37, f1, g10⟩ := bil (g := Fm.cells) Fm.Qad g10
   refine go1 ?_
   obtain ⟨x39, hx39, g10⟩ := bnd g10
   refine cl (Qb6 x37 _ hx39) ?_
   refine go ?_
   exact Qaw 33 g10
  ·rw [if_neg (df q)] at g10
   refine go ?_
   exact Qaw 33 g10
  refine go ?_
  obtain ⟨Qj8, j13, H⟩ := bnd H
  refine Qca (fun s' => ∃ (T : Nat -> AV) (ss1 : Sto) (tt1 : Sto), s' = ⟨T, ss1⟩ /\ (T 0 = z0v0 /\ T 2 = sf Fm.cells a2 /\ T 3 = i6 a3 /\ T 5 = .ptr b1 0 /\ T 9 = i6 Qbq /\ T 10 = i6 Qj8) /\ Tau tt0 [] tt1 /\ Fx tt1 ss1 [(b1, ⟨26, 5, [i6 a1.kind, .str a1.name, i6 a1.num, sf cI a1.sc, sf Fm.cells a1.kids]⟩)] [⟨z0v0, 3, 1, rws cI Qac⟩]) (cdb j13 (fun h j13 => ?_) (fun h j13 => ?_)) ?_
  ·refine go ?_
   have e := pur j13
   subst e
   exact ⟨_, _, _, rfl, S, hX, hF⟩
  ·refine go ?_
   have e := pur j13
   subst e
   exact ⟨_, _, _, rfl, S, hX, hF⟩
  ·rintro s' ⟨T14, s15, t16, rfl, tT, hX, hF⟩
   obtain ⟨x47, f1, H⟩ := bil (g := Fm.cells) Fm.Qad H
   refine go1 ?_
   obtain ⟨x51, hx51, H⟩ := bnd H
   refine cx (Qp9 Qac x47 a2 Qj8 _ hx51  z0v0 _ (pre 0 0 1 hF hX)) ?_
   rintro v17 s18 ⟨t19, _, rfl, hT, hG⟩
   obtain ⟨tt20, hX, hF⟩ := aft 0 0 1 hF hX hT hG
   refine go ?_
   exact IH  x51 (i64.wrap (Qbq + 1)) _ H _ rfl Q tt0 b1 hE hR _ _ _ v17 S hX hF
 ·refine go ?_
  exact hE _ (pur H).symm _ _ _ z0v0 S hX hF
theorem Qkm : ∀ (a0 : List Int) (a1 : Fm) (a2 : List Fm) (a3 : Int) r, Qhu a0 a1 a2 a3 = some r -> ∀  (p0 : AV) (ss : Sto), Pre ss [] [⟨p0, 3, 1, rws cI a0⟩] -> Ctr Tryz.prog 108 [p0, .agg (Fm.cells a1), sf Fm.cells a2, i6 a3] ss (fun r' ss' => ∃ (tt' : Sto), r' = sf cI r /\ Tau (strip ss [⟨p0, 3, 1, rws cI a0⟩]) [] tt' /\ Fx tt' ss' [] []) := by
 intro a0 a1 a2 a3 r H
 intro  p0 ss hP
 unfold Qhu at H
 refine Qau mixed Tryz.func108 rfl (by kernel_rfl) (rs := [.tmp 8]) rfl (by kernel_rfl) ?_
 obtain ⟨hF, hX⟩ := hP.start
 generalize strip ss [⟨p0, 3, 1, rws cI a0⟩] = tt0 at hF hX ⊢
 have q := dum
 have tT := dum
 refine go ?_
 refine Qag hF rfl fun b1 ss2 hF => ?_
 refine go ?_
 obtain ⟨x13, hx13, H⟩ := bnd H
 refine cl (Qks a1 a2 _ hx13) ?_
 refine go ?_
 obtain ⟨Qkn, j4, H⟩ := bnd H
 refine Qca (fun s' => ∃ (T : Nat -> AV) (ss1 : Sto) (tt1 : Sto) (y3v0 : AV), s' = ⟨T, ss1⟩ /\ (T 0 = y3v0 /\ T 2 = sf Fm.cells a2 /\ T 3 = i6 a3 /\ T 5 = .ptr b1 0) /\ Tau tt0 [] tt1 /\ Fx tt1 ss1 [(b1, ⟨26, 5, [i6 a1.kind, .str a1.name, i6 a1.num, sf cI a1.sc, sf Fm.cells a1.kids]⟩)] [⟨y3v0, 3, 1, rws cI Qkn⟩]) (cdb j4 (fun h j4 => ?_) (fun h j4 => ?_)) ?_
 ·refine go ?_
  refine apd (g := cI) hF 0 j4 (rdo (c := true) (g := cI) (fun _ => rfl)) fun x17 j4 v5 ss6 hF => ?_
  refine go ?_
  have e := pur j4
  subst e
  exact ⟨_, _, _, v5, rfl, S, hX, hF⟩
 ·refine go ?_
  have e := pur j4
  subst e
  exact ⟨_, _, _, p0, rfl, S, hX, hF⟩
 ·rintro s' ⟨T7, s8, tt9, y3v0, rfl, tT, hX, hF⟩
  refine go ?_
  obtain ⟨o21, ho21, H⟩ := bnd H
  refine Qp8 a1 a2 a3 Qkn 0 _ ho21 _ rfl _ tt0 b1 ?_ ?_ _ _ _ y3v0 S hX hF
  ·intro Qnm he T23 s24 t25 e22v0 tT hX hF
   have he := he.symm
   subst he
   refine go ?_
   have e := pur H; subst e
   exact rg [e22v0] ⟨_, rfl, hX, Fx.self _⟩
  ·trivial
theorem Qwl : ∀ (a0 : Fm) (a1 : List Fm) (x25 : List Fm) (Qa7 : Int) out, Qgo a0 a1 x25 Qa7 = some out -> ∀ c, Qam Tryz.f55 0 = some c -> ∀ (Q : AX -> AS -> Prop) (tt : Sto) (b1 : Nat), (∀ (_u : Unit), out = Sum.inr () -> ∀ (T : Nat -> AV) (ss : Sto), T 1 = sf Fm.cells a1 /\ T 2 = .ptr b1 0 /\ T 5 = sf Fm.cells x25 -> Fx tt ss [(b1, ⟨26, 5, [i6 a0.kind, .str a0.name, i6 a0.num, sf cI a0.sc, sf Fm.cells a0.kids]⟩)] [] -> Q (.ex 0) ⟨T, ss⟩) -> (∀ r, out = Sum.inl r -> ∀ s', Qkk Tryz.prog [.tmp 4] (fun r' ss' => r' = .bool r /\ ss' = tt) s' -> Q .ret s') -> ∀ (T : Nat -> AV) (ss : Sto), T 1 = sf Fm.cells a1 /\ T 2 = .ptr b1 0 /\ T 5 = sf Fm.cells x25 /\ T 6 = i6 Qa7 -> Fx tt ss [(b1, ⟨26, 5, [i6 a0.kind, .str a0.name, i6 a0.num, sf cI a0.sc, sf Fm.cells a0.kids]⟩)] [] -> Qbr (Qbc Tryz.prog c) Q ⟨T, ss⟩ := by
 intro a0 a1 x25 Qa7
 revert Qa7
 refine Qgo.partial_correctness a0 a1 x25 _ ?_
 intro Qgo IH Qa7 out H c hc Q tt b1 hE hR T ss tT hF
 obtain rfl := lpe (rfl : Qam Tryz.f55 0 = some _) hc
 refine Qah ?_
 have q := dum
 have hX := Tau.none tt
 refine go ?_
 refine cdp H (fun h H => ?_) (fun h H => ?_)
 ·refine go ?_
  refine Qaq E0 [.v, .v, .v, .v, .v, .v, .v, .v] (by kernel_rfl) ?_
  obtain ⟨x34, f1, H⟩ := bls (g := Fm.cells) Fm.Qad (lo := none) (hi := some (i6 Qa7)) rfl rfl H
  obtain ⟨x37, f2, H⟩ := bil (g := Fm.cells) Fm.Qad H
  refine go2 ?_
  obtain ⟨x39, hx39, H⟩ := bnd H
  refine cv (Qlx x34 x37 _ hx39) ?_
  refine go ?_
  refine cdb H (fun h H => ?_) (fun h H => ?_)
  ·refine go ?_
   exact hR _ (pur H).symm _ (rt [.bool false])
  ·refine go ?_
   exact IH  (i64.wrap (Qa7 + 1)) _ H _ rfl Q tt b1 hE hR _ _  S hF
 ·refine go ?_
  exact hE () (pur H).symm _ _  S hF
theorem Qwm : ∀ (a0 : Fm) (x25 : List Fm) (x43 : List Int) (Qdx : Int) out, Qgp a0 x25 x43 Qdx = some out -> ∀ c, Qam Tryz.f55 1 = some c -> ∀ (Q : AX -> AS -> Prop) (tt : Sto) (b1 : Nat), (∀ (_u : Unit), out = Sum.inr () -> ∀ (T : Nat -> AV) (ss : Sto), T 5 = sf Fm.cells x25 -> Fx tt ss [(b1, ⟨26, 5, [i6 a0.kind, .str a0.name, i6 a0.num, sf cI a0.sc, sf Fm.cells a0.kids]⟩)] [] -> Q (.ex 2) ⟨T, ss⟩) -> (∀ r, out = Sum.inl r -> ∀ s', Qkk Tryz.prog [.tmp 4] (fun r' ss' => r' = .bool r /\ ss' = tt) s' -> Q .ret s') -> ∀ (T : Nat -> AV) (ss : Sto), T 5 = sf Fm.cells x25 /\ T 7 = sf cI x43 /\ T 8 = i6 Qdx -> Fx tt ss [(b1, ⟨26, 5, [i6 a0.kind, .str a0.name, i6 a0.num, sf cI a0.sc, sf Fm.cells a0.kids]⟩)] [] -> Qbr (Qbc Tryz.prog c) Q ⟨T, ss⟩ := by
 intro a0 x25 x43 Qdx
 revert Qdx
 refine Qgp.partial_correctness a0 x25 x43 _ ?_
 intro Qgp IH Qdx out H c hc Q tt b1 hE hR T ss tT hF
 obtain rfl := lpe (rfl : Qam Tryz.f55 1 = some _) hc
 refine Qah ?_
 have q := dum
 have hX := Tau.none tt
 refine go ?_
 refine cdp H (fun h H => ?_) (fun h H => ?_)
 ·obtain ⟨x52, f1, H⟩ := bil (g := cI) (fun _ => rfl) H
  refine go1 ?_
  refine go ?_
  refine cdp H (fun h H => ?_) (fun h H => ?_)
  ·refine go ?_
   exact hR _ (pur H).symm _ (rt [.bool false])
  ·refine go ?_
   exact IH  (i64.wrap (Qdx + 1)) _ H _ rfl Q tt b1 hE hR _ _  S hF
 ·refine go ?_
  exact hE () (pur H).symm _ _  S hF
theorem Q2j : ∀ (a0 : Fm) (a1 : List Fm) r, Qom a0 a1 = some r -> Qb0 Tryz.prog 55 [.agg (Fm.cells a0), sf Fm.cells a1] (.bool r) := by
 intro a0 a1 r H
 intro ss
 unfold Qom at H
 refine Qau mixed Tryz.func55 rfl (by kernel_rfl) (rs := [.tmp 4]) rfl (by kernel_rfl) ?_
 have hF := Fx.refl ss
 have hX := Tau.none ss
 have q := dum
 have tT := dum
 refine go ?_
 refine Qag hF rfl fun b1 ss2 hF => ?_
 refine go ?_
 obtain ⟨x10, hx10, H⟩ := bnd H
 refine cl (Qbe a0 _ hx10) ?_
 refine go ?_
 obtain ⟨x16, g3, H⟩ := bnd H
 refine Qai 3 13 16 (.bool x16) (giN q (fun q => ?_) (fun q => ?_)) (fun J => ?_)
 ·rw [if_neg (dbf q)] at g3
  refine go ?_
  obtain ⟨x14, hx14, g3⟩ := bnd g3
  refine cl (Qly a1 _ hx14) ?_
  refine go ?_
  exact Qaw 13 g3
 ·rw [if_pos (dbt q)] at g3
  refine go ?_
  exact Qaw 13 g3
 refine go ?_
 obtain ⟨x21, g5, H⟩ := bnd H
 refine Qai 3 18 21 (.bool x21) (giN q (fun q => ?_) (fun q => ?_)) (fun J => ?_)
 ·rw [if_neg (dbf q)] at g5
  refine go ?_
  obtain ⟨x19, hx19, g5⟩ := bnd g5
  refine cl (Qwp a0 _ hx19) ?_
  refine go ?_
  exact Qaw 18 g5
 ·rw [if_pos (dbt q)] at g5
  refine go ?_
  exact Qaw 18 g5
 refine go ?_
 refine cdb H (fun h H => ?_) (fun h H => ?_)
 ·refine go ?_
  have e := pur H; subst e
  exact rt [.bool false]
 ·have hF := hF.lit 26 5 (rws Fm.cells []) rfl
  refine go ?_
  obtain ⟨x25, hx25, H⟩ := bnd H
  refine cx (Qmb [] a0 a1 _ hx25  (.sl true (rws Fm.cells [])) _ (pre 0 0 1 hF hX)) ?_
  rintro _ s7 ⟨t8, rfl, hT, hG⟩
  have hF := Qxq 0 1 hF hX hT hG
  refine go ?_
  obtain ⟨o10, ho10, H⟩ := bnd H
  refine Qwl a0 a1 x25 0 _ ho10 _ rfl _ _ b1 ?_ ?_ _ _  S hF
  ·intro _ he T12 s13 tT hF
   have he := he.symm
   subst he
   dsimp only at H
   have hF := hF.lit 3 1 (rws cI []) rfl
   refine go ?_
   obtain ⟨x43, hx43, H⟩ := bnd H
   refine cx (Qkm [] a0 a1 0 _ hx43  (.sl true (rws cI [])) _ (pre 0 0 1 hF hX)) ?_
   rintro _ s15 ⟨t16, rfl, hT, hG⟩
   have hF := Qxq 0 1 hF hX hT hG
   refine go ?_
   obtain ⟨o18, ho18, H⟩ := bnd H
   refine Qwm a0 x25 x43 0 _ ho18 _ rfl _ _ b1 ?_ ?_ _ _  S hF
   ·intro _ he T20 s21 tT hF
    have he := he.symm
    subst he
    dsimp only at H
    refine go ?_
    have e := pur H; subst e
    exact rt [.bool (decide ((x25.length : Int) <= 20))]
   ·intro r hr s' hs
    subst hr
    have e := pur H; subst e
    first | exact hs | (try simp only [sf, i6, zB, Fm.Qaa, Xpn.Qaa, Cor.Qaa, Bnd.Qaa, Hit.Qaa, Rul.Qaa, Mac.Qaa, Stp.Qaa, Val.Qaa] at hs ⊢; exact hs)
  ·intro r hr s' hs
   subst hr
   have e := pur H; subst e
   first | exact hs | (try simp only [sf, i6, zB, Fm.Qaa, Xpn.Qaa, Cor.Qaa, Bnd.Qaa, Hit.Qaa, Rul.Qaa, Mac.Qaa, Stp.Qaa, Val.Qaa] at hs ⊢; exact hs)
theorem Qrl : ∀ (a0 : Fm) (x14 : List Fm) (x18 : List Int) (Qac : List Hit) (Qby : Int) out, Qcz a0 x14 x18 Qac Qby = some out -> ∀ c, Qam Tryz.f314 0 = some c -> ∀ (Q : AX -> AS -> Prop) (tt : Sto) (b1 : Nat), (∀ (Qbn : List Hit), out = Qbn -> ∀ (T : Nat -> AV) (ss : Sto) (e0v0 : AV), T 5 = e0v0 -> Fx tt ss [(b1, ⟨26, 5, [i6 a0.kind, .str a0.name, i6 a0.num, sf cI a0.sc, sf Fm.cells a0.kids]⟩)] [⟨e0v0, 62, 12, rws Hit.cells Qbn⟩] -> Q (.ex 0) ⟨T, ss⟩) -> True -> ∀ (T : Nat -> AV) (ss : Sto) (z0v0 : AV), T 5 = z0v0 /\ T 6 = sf Fm.cells x14 /\ T 7 = sf cI x18 /\ T 8 = i6 Qby -> Fx tt ss [(b1, ⟨26, 5, [i6 a0.kind, .str a0.name, i6 a0.num, sf cI a0.sc, sf Fm.cells a0.kids]⟩)] [⟨z0v0, 62, 12, rws Hit.cells Qac⟩] -> Qbr (Qbc Tryz.prog c) Q ⟨T, ss⟩ := by
 intro a0 x14 x18 Qac Qby
 revert Qac Qby
 refine Qcz.partial_correctness a0 x14 x18 _ ?_
 intro Qcz IH Qac Qby out H c hc Q tt b1 hE hR T ss z0v0 tT hF
 obtain rfl := lpe (rfl : Qam Tryz.f314 0 = some _) hc
 refine Qah ?_
 have q := dum
 have hX := Tau.none tt
 refine go ?_
 refine cdp H (fun h H => ?_) (fun h H => ?_)
 ·refine go ?_
  refine Qaq E0 [.v, .v, .v, .v, .v, .v, .v, .v, .v, .x, .z] (by kernel_rfl) ?_
  obtain ⟨x27, f1, H⟩ := bil (g := Fm.cells) Fm.Qad H
  obtain ⟨x31, f2, H⟩ := bil (g := cI) (fun _ => rfl) H
  refine go2 ?_
  refine Qg4 hF rfl fun b9 s10 hF => ?_
  refine go ?_
  refine st hF 0 rfl fun s11 hF => ?_
  refine go ?_
  refine cdp H (fun h H => ?_) (fun h H => ?_)
  ·obtain ⟨x39, f1, H⟩ := bil (g := Fm.cells) Fm.Qad H
   refine go1 ?_
   refine st hF 0 rfl fun s12 hF => ?_
   refine go ?_
   refine apw (g := Hit.cells) (rows := [[i6 x27.kind, .str x27.name, i6 x27.num, sf cI x27.sc, sf Fm.cells x27.kids, i6 x31, i6 x39.kind, .str x39.name, i6 x39.num, sf cI x39.sc, sf Fm.cells x39.kids, .Qab]]) hF 0 H Hit.Qad true rfl (by simp only [sf, i6, zB, Qb9, Qd3, cI, cU, cS, cL, Hit.Qaa, Fm.Qaa, Fm.kind, Fm.name, Fm.num, Fm.sc, Fm.kids, Hit.name, Hit.depth, Hit.one, Hit.many, Cor.kind, Cor.id, Cor.name, Cor.num, Cor.ids, Cor.data, Cor.kids, Val.kind, Val.num, Val.name, Val.items, Val.fn, Val.env, Slt.id, Slt.val, List.flatten_cons, List.flatten_nil, List.append_nil, List.cons_append, List.nil_append]; exact (.cons (.refl _) id (.cons (.refl _) id (.cons (.refl _) id (.cons (.refl _) id (.cons (.refl _) id (.cons (.refl _) id (.cons (.refl _) id (.cons (.refl _) id (.cons (.refl _) id (.cons (.refl _) id (.cons (.refl _) id (.cons .Qab (fun _ => rfl) .nil))))))))))))) fun x45 H v13 s14 hF => ?_
   refine go ?_
   exact IH  x45 (i64.wrap (Qby + 1)) _ H _ rfl Q tt b1 hE hR _ _ v13 S (hF.drop 1 0)
  ·refine go ?_
   refine apw (g := Hit.cells) (rows := [[i6 x27.kind, .str x27.name, i6 x27.num, sf cI x27.sc, sf Fm.cells x27.kids, i6 x31, i6 0, .str zB, i6 0, .Qab, .Qab, .Qab]]) hF 0 H Hit.Qad true rfl (by simp only [sf, i6, zB, Qb9, Qd3, cI, cU, cS, cL, Hit.Qaa, Fm.Qaa, Fm.kind, Fm.name, Fm.num, Fm.sc, Fm.kids, Hit.name, Hit.depth, Hit.one, Hit.many, Cor.kind, Cor.id, Cor.name, Cor.num, Cor.ids, Cor.data, Cor.kids, Val.kind, Val.num, Val.name, Val.items, Val.fn, Val.env, Slt.id, Slt.val, List.flatten_cons, List.flatten_nil, List.append_nil, List.cons_append, List.nil_append]; exact (.cons (.refl _) id (.cons (.refl _) id (.cons (.refl _) id (.cons (.refl _) id (.cons (.refl _) id (.cons (.refl _) id (.cons (.refl _) id (.cons (.refl _) id (.cons (.refl _) id (.cons .Qab (fun _ => rfl) (.cons .Qab (fun _ => rfl) (.cons .Qab (fun _ => rfl) .nil))))))))))))) fun Qr1 H v15 s16 hF => ?_
   refine go ?_
   exact IH  Qr1 (i64.wrap (Qby + 1)) _ H _ rfl Q tt b1 hE hR _ _ v15 S (hF.drop 1 0)
 ·refine go ?_
  exact hE _ (pur H).symm _ _ z0v0 S hF
theorem Qws : ∀ (a0 : Fm) (a1 : List Fm) r, Qki a0 a1 = some r -> Qb0 Tryz.prog 314 [.agg (Fm.cells a0), sf Fm.cells a1] (sf Hit.cells r) := by
 intro a0 a1 r H
 intro ss
 unfold Qki at H
 refine Qau mixed Tryz.func314 rfl (by kernel_rfl) (rs := [.tmp 4]) rfl (by kernel_rfl) ?_
 have hF := Fx.refl ss
 have hX := Tau.none ss
 have q := dum
 have tT := dum
 refine go ?_
 refine Qag hF rfl fun b1 ss2 hF => ?_
 have hF := hF.lit 26 5 (rws Fm.cells []) rfl
 refine go ?_
 obtain ⟨x14, hx14, H⟩ := bnd H
 refine cx (Qmb [] a0 a1 _ hx14  (.sl true (rws Fm.cells [])) _ (pre 0 0 1 hF hX)) ?_
 rintro _ ss3 ⟨tt4, rfl, hT, hG⟩
 have hF := Qxq 0 1 hF hX hT hG
 have hF := hF.lit 3 1 (rws cI []) rfl
 refine go ?_
 obtain ⟨x18, hx18, H⟩ := bnd H
 refine cx (Qkm [] a0 a1 0 _ hx18  (.sl true (rws cI [])) _ (pre 0 0 1 hF hX)) ?_
 rintro _ ss6 ⟨t7, rfl, hT, hG⟩
 have hF := Qxq 0 1 hF hX hT hG
 have hF := hF.lit 62 12 (rws Hit.cells []) rfl
 refine go ?_
 obtain ⟨o17, ho17, H⟩ := bnd H
 refine Qrl a0 x14 x18 [] 0 _ ho17 _ rfl _ _ b1 ?_ ?_ _ _ (.sl true (rws Hit.cells [])) S hF
 ·intro Kfm he T19 s20 e18v0 tT hF
  have he := he.symm
  subst he
  refine go ?_
  have e := pur H; subst e
  exact rt [e18v0]
 ·trivial
theorem Qsx : ∀ (a0 : List Hit) (a1 : Fm) (Qaj : Int) out, Qed a0 a1 Qaj = some out -> ∀ c, Qam Tryz.f310 0 = some c -> ∀ (Q : AX -> AS -> Prop) (tt : Sto) (b1 : Nat), (∀ (_u : Unit), out = Sum.inr () -> ∀ (T : Nat -> AV) (ss : Sto), 0 + 0 = 0 -> Fx tt ss [(b1, ⟨26, 5, [i6 a1.kind, .str a1.name, i6 a1.num, sf cI a1.sc, sf Fm.cells a1.kids]⟩)] [] -> Q (.ex 0) ⟨T, ss⟩) -> (∀ r, out = Sum.inl r -> ∀ s', Qkk Tryz.prog [.tmp 4] (fun r' ss' => r' = i6 r /\ ss' = tt) s' -> Q .ret s') -> ∀ (T : Nat -> AV) (ss : Sto), T 0 = sf Hit.cells a0 /\ T 3 = .ptr b1 0 /\ T 5 = i6 Qaj -> Fx tt ss [(b1, ⟨26, 5, [i6 a1.kind, .str a1.name, i6 a1.num, sf cI a1.sc, sf Fm.cells a1.kids]⟩)] [] -> Qbr (Qbc Tryz.prog c) Q ⟨T, ss⟩ := by
 intro a0 a1 Qaj
 revert Qaj
 refine Qed.partial_correctness a0 a1 _ ?_
 intro Qed IH Qaj out H c hc Q tt b1 hE hR T ss tT hF
 obtain rfl := lpe (rfl : Qam Tryz.f310 0 = some _) hc
 refine Qah ?_
 have q := dum
 have hX := Tau.none tt
 refine go ?_
 refine cdp H (fun h H => ?_) (fun h H => ?_)
 ·refine go ?_
  refine Qaq E0 [.v, .v, .v, .v, .v, .v, .v] (by kernel_rfl) ?_
  obtain ⟨x14, f1, H⟩ := bil (g := Hit.cells) Hit.Qad H
  refine go1 ?_
  obtain ⟨x18, hx18, H⟩ := bnd H
  refine cv (Qgi x14.name a1 _ hx18) ?_
  refine go ?_
  refine cdb H (fun h H => ?_) (fun h H => ?_)
  ·refine go ?_
   exact hR _ (pur H).symm _ (rt [i6 Qaj])
  ·refine go ?_
   exact IH  (i64.wrap (Qaj + 1)) _ H _ rfl Q tt b1 hE hR _ _  S hF
 ·refine go ?_
  exact hE () (pur H).symm _ _  S hF
theorem Qpk : ∀ (a0 : List Hit) (a1 : Fm) r, Qjd a0 a1 = some r -> Qb0 Tryz.prog 310 [sf Hit.cells a0, .agg (Fm.cells a1)] (i6 r) := by
 intro a0 a1 r H
 intro ss
 unfold Qjd at H
 refine Qau mixed Tryz.func310 rfl (by kernel_rfl) (rs := [.tmp 4]) rfl (by kernel_rfl) ?_
 have hF := Fx.refl ss
 have hX := Tau.none ss
 have q := dum
 have tT := dum
 refine go ?_
 refine Qag hF rfl fun b1 ss2 hF => ?_
 refine go ?_
 obtain ⟨o3, ho3, H⟩ := bnd H
 refine Qsx a0 a1 0 _ ho3 _ rfl _ _ b1 ?_ ?_ _ _  S hF
 ·intro _ he T5 ss6 tT hF
  have he := he.symm
  subst he
  dsimp only at H
  refine go ?_
  have e := pur H; subst e
  exact rt [i6 (-1)]
 ·intro r hr s' hs
  subst hr
  have e := pur H; subst e
  first | exact hs | (try simp only [sf, i6, zB, Fm.Qaa, Xpn.Qaa, Cor.Qaa, Bnd.Qaa, Hit.Qaa, Rul.Qaa, Mac.Qaa, Stp.Qaa, Val.Qaa] at hs ⊢; exact hs)
theorem Qoq : ∀ (a0 : List Hit) (a1 : Fm) r, Qjj a0 a1 = some r -> Qb0 Tryz.prog 317 [sf Hit.cells a0, .agg (Fm.cells a1)] (i6 r) := by
 intro a0 a1 r H
 intro ss
 unfold Qjj at H
 refine Qau mixed Tryz.func317 rfl (by kernel_rfl) (rs := [.tmp 4]) rfl (by kernel_rfl) ?_
 have hF := Fx.refl ss
 have hX := Tau.none ss
 have q := dum
 have tT := dum
 refine go ?_
 refine Qag hF rfl fun b1 ss2 hF => ?_
 refine go ?_
 refine cdn H (fun h H => ?_) (fun h H => ?_)
 ·refine go ?_
  have e := pur H; subst e
  exact rt [i6 (-1)]
 ·refine go ?_
  obtain ⟨x11, hx11, H⟩ := bnd H
  refine cl (Qpk a0 a1 _ hx11) ?_
  refine go ?_
  refine cdp H (fun h H => ?_) (fun h H => ?_)
  ·refine go ?_
   have e := pur H; subst e
   exact rt [i6 (-1)]
  ·obtain ⟨x16, f1, H⟩ := bil (g := Hit.cells) Hit.Qad H
   refine go1 ?_
   refine go ?_
   have e := pur H; subst e
   exact rt [i6 x16.depth]
theorem Qyf : ∀ (a0 : List Hit) (a1 : Fm) r, Qhv a0 a1 = some r -> Qb0 Tryz.prog 318 [sf Hit.cells a0, .agg (Fm.cells a1)] (.bool r) := by
 intro a0 a1
 revert a1
 refine Qhv.partial_correctness a0 (motive_1 := fun a1 r => Qb0 Tryz.prog 318 [sf Hit.cells a0, .agg (Fm.cells a1)] (.bool r)) (motive_2 := fun a1 Qaj out => ∀ c, Qam Tryz.f318 0 = some c -> ∀ (Q : AX -> AS -> Prop) (tt : Sto) (b1 : Nat), (∀ (_u : Unit), out = Sum.inr () -> ∀ (T : Nat -> AV) (ss : Sto), 0 + 0 = 0 -> Fx tt ss [(b1, ⟨26, 5, [i6 a1.kind, .str a1.name, i6 a1.num, sf cI a1.sc, sf Fm.cells a1.kids]⟩)] [] -> Q (.ex 0) ⟨T, ss⟩) -> (∀ r, out = Sum.inl r -> ∀ s', Qkk Tryz.prog [.tmp 4] (fun r' ss' => r' = .bool r /\ ss' = tt) s' -> Q .ret s') -> ∀ (T : Nat -> AV) (ss : Sto), T 0 = sf Hit.cells a0 /\ T 3 = .ptr b1 0 /\ T 5 = i6 Qaj -> Fx tt ss [(b1, ⟨26, 5, [i6 a1.kind, .str a1.name, i6 a1.num, sf cI a1.sc, sf Fm.cells a1.kids]⟩)] [] -> Qbr (Qbc Tryz.prog c) Q ⟨T, ss⟩) ?_ ?_
 ·intro Qfj L0 a1 r H
  intro ss
  refine Qau mixed Tryz.func318 rfl (by kernel_rfl) (rs := [.tmp 4]) rfl (by kernel_rfl) ?_
  have hF := Fx.refl ss
  have hX := Tau.none ss
  have q := dum
  have tT := dum
  refine go ?_
  refine Qag hF rfl fun b1 ss2 hF => ?_
  refine go ?_
  obtain ⟨x8, hx8, H⟩ := bnd H
  refine cl (Qoq a0 a1 _ hx8) ?_
  refine go ?_
  refine cdp H (fun h H => ?_) (fun h H => ?_)
  ·refine go ?_
   have e := pur H; subst e
   exact rt [.bool true]
  ·refine go ?_
   obtain ⟨o3, ho3, H⟩ := bnd H
   refine L0 a1 0 _ ho3 _ rfl _ _ b1 ?_ ?_ _ _  S hF
   ·intro _ he T5 ss6 tT hF
    have he := he.symm
    subst he
    dsimp only at H
    refine go ?_
    have e := pur H; subst e
    exact rt [.bool false]
   ·intro r hr s' hs
    subst hr
    have e := pur H; subst e
    first | exact hs | (try simp only [sf, i6, zB, Fm.Qaa, Xpn.Qaa, Cor.Qaa, Bnd.Qaa, Hit.Qaa, Rul.Qaa, Mac.Qaa, Stp.Qaa, Val.Qaa] at hs ⊢; exact hs)
 ·intro Qhv Qfj C0 L0 a1 Qaj out H c hc Q tt b1 hE hR T ss tT hF
  obtain rfl := lpe (rfl : Qam Tryz.f318 0 = some _) hc
  refine Qah ?_
  have q := dum
  have hX := Tau.none tt
  refine go ?_
  refine cdp H (fun h H => ?_) (fun h H => ?_)
  ·obtain ⟨x21, f1, H⟩ := bil (g := Fm.cells) Fm.Qad H
   refine go1 ?_
   obtain ⟨x23, hx23, H⟩ := bnd H
   refine cl (C0 x21 _ hx23) ?_
   refine go ?_
   refine cdb H (fun h H => ?_) (fun h H => ?_)
   ·refine go ?_
    exact hR _ (pur H).symm _ (rt [.bool true])
   ·refine go ?_
    exact L0 a1 (i64.wrap (Qaj + 1)) _ H _ rfl Q tt b1 hE hR _ _  S hF
  ·refine go ?_
   exact hE () (pur H).symm _ _  S hF
end Go.Proofs.SA
