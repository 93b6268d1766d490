/- Printed by a program of mine: the plain functions that the code computes (D), and the walks that show it (W). -/
import Derived.Test.YthdghhllcllneaaGreatDoorGx
import Derived.Test.YthdghhllcllneaaGreatDoorSaTy
import Derived.Test.YthdghhllcllneaaGreatDoorChecked
import Derived.Lib.Strings
import Derived.Lib.Slices
import Derived.Lib.Walk
import Derived.Lib.Bytealg
import Derived.Test.YthdghhllcllneaaGreatDoorGv
import Derived.Test.YthdghhllcllneaaGreatDoorSf
import Derived.Test.YthdghhllcllneaaGreatDooreqD
set_option maxRecDepth 100000
set_option maxHeartbeats 2000000
set_option linter.unusedSimpArgs false
set_option linter.unusedVariables false
open Go Go.Proofs Go.Proofs.Shadow
namespace Go.Proofs.SA
theorem Qte : Q3z Tryz.prog 81 0 = some (.sl true [[.str (ByteArray.mk #[108, 105, 115, 116])], [.str (ByteArray.mk #[43])], [.str (ByteArray.mk #[60])], [.str (ByteArray.mk #[61])], [.str (ByteArray.mk #[104, 101, 97, 100])], [.str (ByteArray.mk #[116, 97, 105, 108])]]) := by kernel_rfl
theorem Qm8 : ∀ (a0 : List Int) r, Qgv a0 = some r -> ∀   (ss : Sto), Pre ss [] [] -> Ctr Tryz.prog 34 [sf cU a0] ss (fun r' ss' => ∃ (tt' : Sto) (n0 : Nat), r' = .ptr n0 0 /\ Tau (strip ss []) [] tt' /\ Fx tt' ss' [(n0, ⟨88, 2, [sf cU r.b, i6 r.p]⟩)] []) := by
 intro a0 r H
 intro   ss hP
 unfold Qgv at H
 refine Qaz mixed Tryz.func34 rfl (by kernel_rfl) (rs := [.tmp 2]) rfl (by kernel_rfl) ?_
 obtain ⟨hF, hX⟩ := hP.start
 generalize strip ss [] = tt0 at hF hX ⊢
 have q := dum
 have tT := dum
 refine go ?_
 refine cdp H (fun h H => ?_) (fun h H => ?_)
 ·obtain ⟨x7, f1, H⟩ := bls (g := cU) (fun _ => rfl) (lo := none) (hi := some (i6 2000)) rfl rfl H
  refine go1 ?_
  refine go ?_
  refine Qad hF rfl fun b1 ss2 hF => ?_
  refine go ?_
  have e := pur H; subst e
  exact rg [.ptr b1 0] ⟨_, _, rfl, hX, hF.pick [0] [] (by decide) (by decide)⟩
 ·refine go ?_
  refine Qad hF rfl fun b3 s4 hF => ?_
  refine go ?_
  have e := pur H; subst e
  exact rg [.ptr b3 0] ⟨_, _, rfl, hX, hF.pick [0] [] (by decide) (by decide)⟩
theorem Qa9 : ∀ (a1 : Int) (c0 : Rdr) r, Qa3 a1 c0 = some r -> ∀ (e0 : Nat)  (ss : Sto), Pre ss [(e0, ⟨88, 2, [sf cU c0.b, i6 c0.p]⟩)] [] -> Ctr Tryz.prog 35 [.ptr e0 0, i6 a1] ss (fun r' ss' => ∃ (tt' : Sto), r' = i6 r.1 /\ Tau (strip ss []) [(e0, ⟨88, 2, [sf cU r.2.b, i6 r.2.p]⟩)] tt' /\ Fx tt' ss' [] []) := by
 intro a1 c0 r H
 intro e0  ss hP
 unfold Qa3 at H
 refine Qaz mixed Tryz.func35 rfl (by kernel_rfl) (rs := [.tmp 4]) rfl (by kernel_rfl) ?_
 obtain ⟨hF, hX⟩ := hP.start
 generalize strip ss [] = tt0 at hF hX ⊢
 have q := dum
 have tT := dum
 refine go ?_
 refine stT hF hX 0 rfl fun tt2 ss1 hF hX => ?_
 refine go ?_
 obtain ⟨x24, g3, H⟩ := bnd H
 refine Qaj 6 18 24 (.bool x24) (giN q (fun q => ?_) (fun q => ?_)) (fun J => ?_)
 ·refine go ?_
  exact Qa8 18 g3
 ·refine go ?_
  exact Qa8 18 g3
 refine go ?_
 refine cdb H (fun h H => ?_) (fun h H => ?_)
 ·refine go ?_
  have e := pur H; subst e
  exact rg [i6 0] ⟨_, rfl, hX, Fx.self _⟩
 ·refine go ?_
  refine cdp H (fun h H => ?_) (fun h H => ?_)
  ·obtain ⟨x42, f1, H⟩ := bil (g := cU) (fun _ => rfl) H
   obtain ⟨x46, f2, H⟩ := brm H
   refine go2 ?_
   refine go ?_
   have e := pur H; subst e
   exact rg [i6 x46] ⟨_, rfl, hX, Fx.self _⟩
  ·refine go ?_
   refine Qa0 E0 [.v, .v, .v, .v, .v, .v, .v, .v, .v, .v, .v, .v, .v, .v, .v, .v, .v, .v, .v, .v, .v, .v, .v, .v, .v, .v, .v, .v, .v, .v, .v, .v, .v, .v, .v, .v, .v, .v, .v, .v, .v, .v, .v, .v, .v, .v] (by kernel_rfl) ?_
   obtain ⟨x57, f1, H⟩ := brm H
   obtain ⟨x58, f2, H⟩ := bil (g := cU) (fun _ => rfl) H
   obtain ⟨x74, f3, H⟩ := brm H
   obtain ⟨x75, f4, H⟩ := bil (g := cU) (fun _ => rfl) H
   obtain ⟨x89, f5, H⟩ := bqu H
   refine go5 ?_
   obtain ⟨x98, f1, H⟩ := brm H
   refine go1 ?_
   refine go ?_
   have e := pur H; subst e
   exact rg [i6 x98] ⟨_, rfl, hX, Fx.self _⟩
theorem Qbq : ∀ (a1 : List Int) (c0 : Rdr) r, Qa7 a1 c0 = some r -> ∀ (e0 : Nat)  (ss : Sto), Pre ss [(e0, ⟨88, 2, [sf cU c0.b, i6 c0.p]⟩)] [] -> Ctr Tryz.prog 39 [.ptr e0 0, sf cI a1] ss (fun r' ss' => ∃ (tt' : Sto), r' = i6 r.1 /\ Tau (strip ss []) [(e0, ⟨88, 2, [sf cU r.2.b, i6 r.2.p]⟩)] tt' /\ Fx tt' ss' [] []) := by
 intro a1 c0 r H
 intro e0  ss hP
 unfold Qa7 at H
 refine Qaz mixed Tryz.func39 rfl (by kernel_rfl) (rs := [.tmp 4]) rfl (by kernel_rfl) ?_
 obtain ⟨hF, hX⟩ := hP.start
 generalize strip ss [] = tt0 at hF hX ⊢
 have q := dum
 have tT := dum
 refine go ?_
 obtain ⟨x9, hx9, H⟩ := bnd H
 refine cx (Qa9 (a1.length : Int) c0 _ hx9 e0  _ (pre 0 1 0 hF hX)) ?_
 rintro _ ss1 ⟨tt2, rfl, hT, hG⟩
 obtain ⟨tt3, hX, hF⟩ := aft 0 1 0 hF hX hT hG
 obtain ⟨x10, f1, H⟩ := bil (g := cI) (fun _ => rfl) H
 refine go1 ?_
 refine go ?_
 have e := pur H; subst e
 exact rg [i6 x10] ⟨_, rfl, hX, Fx.self _⟩
theorem Qfy : ∀ (a1 : List ByteArray) (c0 : Rdr) r, Qcz a1 c0 = some r -> ∀ (e0 : Nat)  (ss : Sto), Pre ss [(e0, ⟨88, 2, [sf cU c0.b, i6 c0.p]⟩)] [] -> Ctr Tryz.prog 81 [.ptr e0 0, sf cS a1] ss (fun r' ss' => ∃ (tt' : Sto), r' = .str r.1 /\ Tau (strip ss []) [(e0, ⟨88, 2, [sf cU r.2.b, i6 r.2.p]⟩)] tt' /\ Fx tt' ss' [] []) := by
 intro a1 c0 r H
 intro e0  ss hP
 unfold Qcz at H
 refine Qaz mixed Tryz.func81 rfl (by kernel_rfl) (rs := [.tmp 4]) rfl (by kernel_rfl) ?_
 obtain ⟨hF, hX⟩ := hP.start
 generalize strip ss [] = tt0 at hF hX ⊢
 have q := dum
 have tT := dum
 refine go ?_
 obtain ⟨x9, hx9, H⟩ := bnd H
 refine cx (Qa9 (a1.length : Int) c0 _ hx9 e0  _ (pre 0 1 0 hF hX)) ?_
 rintro _ ss1 ⟨tt2, rfl, hT, hG⟩
 obtain ⟨tt3, hX, hF⟩ := aft 0 1 0 hF hX hT hG
 obtain ⟨x10, f1, H⟩ := bil (g := cS) (fun _ => rfl) H
 refine go1 ?_
 refine go ?_
 have e := pur H; subst e
 exact rg [.str x10] ⟨_, rfl, hX, Fx.self _⟩
theorem Qjn : ∀ (a0 : ByteArray) r, Qgp a0 = some r -> Qdz Tryz.prog 82 [.str a0] (.agg (Fm.cells r)) := by
 intro a0 r H
 intro ss
 unfold Qgp at H
 refine Qaz mixed Tryz.func82 rfl (by kernel_rfl) (rs := [.cell 2 26]) rfl (by kernel_rfl) ?_
 have hF := Fx.refl ss
 have hX := Tau.none ss
 have q := dum
 have tT := dum
 refine go ?_
 refine Qad hF rfl fun b1 ss2 hF => ?_
 refine go ?_
 refine st hF 0 rfl fun ss3 hF => ?_
 refine go ?_
 have e := pur H; subst e
 exact rt [.agg [i6 1, .str a0, i6 0, .Qab, .Qab]]
theorem Qnu : ∀ (a1 : Int) (c0 : Rdr) r, Qe7 a1 c0 = some r -> ∀ (e0 : Nat)  (ss : Sto), Pre ss [(e0, ⟨88, 2, [sf cU c0.b, i6 c0.p]⟩)] [] -> Ctr Tryz.prog 48 [.ptr e0 0, i6 a1] ss (fun r' ss' => ∃ (tt' : Sto), r' = .agg (Fm.cells r.1) /\ Tau (strip ss []) [(e0, ⟨88, 2, [sf cU r.2.b, i6 r.2.p]⟩)] tt' /\ Fx tt' ss' [] []) := by
 refine Qe7.partial_correctness  (motive_1 := fun a1 c0 r => ∀ (e0 : Nat)  (ss : Sto), Pre ss [(e0, ⟨88, 2, [sf cU c0.b, i6 c0.p]⟩)] [] -> Ctr Tryz.prog 48 [.ptr e0 0, i6 a1] ss (fun r' ss' => ∃ (tt' : Sto), r' = .agg (Fm.cells r.1) /\ Tau (strip ss []) [(e0, ⟨88, 2, [sf cU r.2.b, i6 r.2.p]⟩)] tt' /\ Fx tt' ss' [] [])) (motive_2 := fun a1 Qag Qgk Qbd Qgq out => ∀ c, Qaq Tryz.f48 0 = some c -> ∀ (Q : AX -> AS -> Prop) (tt0 : Sto) (e0 : Nat) (b1 : Nat) (b22 : Nat), (∀ (Qeh : List Fm) (Qhf : List Int) (Qmy : Int), out = (Qeh, Qhf, Qmy) -> ∀ (T : Nat -> AV) (ss : Sto) (tt : Sto) (e0v0 : AV), T 4 = .ptr b1 0 /\ T 5 = .ptr b22 0 -> Tau tt0 [(e0, ⟨88, 2, [sf cU Qhf, i6 Qmy]⟩)] tt -> Fx tt ss [(b22, ⟨26, 5, [i6 3, .str zB, i6 0, .Qab, e0v0]⟩), (b1, ⟨26, 5, [i6 0, .str zB, i6 0, .Qab, .Qab]⟩)] [⟨e0v0, 26, 5, rws Fm.cells Qeh⟩] -> Q (.ex 0) ⟨T, ss⟩) -> True -> ∀ (T : Nat -> AV) (ss : Sto) (tt : Sto) (z0v0 : AV), T 0 = .ptr e0 0 /\ T 1 = i6 a1 /\ T 4 = .ptr b1 0 /\ T 5 = .ptr b22 0 /\ T 6 = i6 Qgk -> Tau tt0 [(e0, ⟨88, 2, [sf cU Qbd, i6 Qgq]⟩)] tt -> Fx tt ss [(b22, ⟨26, 5, [i6 3, .str zB, i6 0, .Qab, z0v0]⟩), (b1, ⟨26, 5, [i6 0, .str zB, i6 0, .Qab, .Qab]⟩)] [⟨z0v0, 26, 5, rws Fm.cells Qag⟩] -> aLp Tryz.prog c Q ⟨T, ss⟩) ?_ ?_
 ·intro Qee L0 a1 c0 r H
  intro e0  ss hP
  refine Qaz mixed Tryz.func48 rfl (by kernel_rfl) (rs := [.cell 4 26]) rfl (by kernel_rfl) ?_
  obtain ⟨hF, hX⟩ := hP.start
  generalize strip ss [] = tt0 at hF hX ⊢
  have q := dum
  have tT := dum
  refine go ?_
  refine Qad hF rfl fun b1 ss2 hF => ?_
  refine go ?_
  refine giN q (fun q => ?_) (fun q => ?_)
  ·rw [if_neg (df q)] at H
   refine go ?_
   obtain ⟨Qtn, hx11_1, H⟩ := bnd H
   refine cx (Qa9 3 c0 _ hx11_1 e0  _ (pre 0 1 0 hF hX)) ?_
   rintro _ s8 ⟨tt9, rfl, hT, hG⟩
   obtain ⟨t10, hX, hF⟩ := aft 0 1 0 hF hX hT hG
   refine go ?_
   refine cdp H (fun h H => ?_) (fun h H => ?_)
   ·refine go ?_
    obtain ⟨x15, hx15, H⟩ := bnd H
    refine cx (Qa9 4 Qtn.2 _ hx15 e0  _ (pre 0 1 0 hF hX)) ?_
    rintro _ s11 ⟨t12, rfl, hT, hG⟩
    obtain ⟨t13, hX, hF⟩ := aft 0 1 0 hF hX hT hG
    refine go ?_
    refine cdp H (fun h H => ?_) (fun h H => ?_)
    ·refine go ?_
     obtain ⟨x19, hx19, H⟩ := bnd H
     refine cx (Qbq [0, 1, 2, 7, 42, 999] x15.2 _ hx19 e0  _ (pre 0 1 0 hF hX)) ?_
     rintro _ s14 ⟨t15, rfl, hT, hG⟩
     obtain ⟨t16, hX, hF⟩ := aft 0 1 0 hF hX hT hG
     refine go ?_
     refine st hF 0 rfl fun s17 hF => ?_
     refine go ?_
     have e := pur H; subst e
     exact rg [.agg [i6 2, .str zB, i6 x19.1, .Qab, .Qab]] ⟨_, rfl, hX, Fx.self _⟩
    ·refine go ?_
     obtain ⟨x23, hx23, H⟩ := bnd H
     refine cx (Qfy [(ByteArray.mk #[97]), (ByteArray.mk #[98]), (ByteArray.mk #[120]), (ByteArray.mk #[121]), (ByteArray.mk #[102]), (ByteArray.mk #[105, 102]), (ByteArray.mk #[108, 101, 116]), (ByteArray.mk #[43])] x15.2 _ hx23 e0  _ (pre 0 1 0 hF hX)) ?_
     rintro _ s18 ⟨t19, rfl, hT, hG⟩
     obtain ⟨tt20, hX, hF⟩ := aft 0 1 0 hF hX hT hG
     refine go ?_
     obtain ⟨x24, hx24, H⟩ := bnd H
     refine cl (Qjn x23.1 _ hx24) ?_
     refine go ?_
     refine st hF 0 rfl fun s21 hF => ?_
     refine go ?_
     have e := pur H; subst e
     exact rg [.agg [i6 x24.kind, .str x24.name, i6 x24.num, sf cI x24.sc, sf Fm.cells x24.kids]] ⟨_, rfl, hX, Fx.self _⟩
   ·refine go ?_
    refine Qad hF rfl fun b22 s23 hF => ?_
    refine go ?_
    refine st hF 0 rfl fun s24 hF => ?_
    refine go ?_
    obtain ⟨x27, hx27, H⟩ := bnd H
    refine cx (Qa9 4 Qtn.2 _ hx27 e0  _ (pre 0 1 0 hF hX)) ?_
    rintro _ s25 ⟨t26, rfl, hT, hG⟩
    obtain ⟨t27, hX, hF⟩ := aft 0 1 0 hF hX hT hG
    have hF := hF.nil 26 5
    refine go ?_
    obtain ⟨o37, ho37, H⟩ := bnd H
    refine L0 a1 [] x27.1 x27.2.b x27.2.p _ ho37 _ rfl _ tt0 e0 b1 b22 ?_ ?_ _ _ _ .Qab S hX hF
    ·intro Qy2 Qrm Qrn he T39 s40 t41 e38v0 tT hX hF
     have he := he.symm
     subst he
     try dsimp only at H
     refine go ?_
     refine st hF 1 rfl fun s42 hF => ?_
     refine go ?_
     have e := pur H; subst e
     exact rg [.agg [i6 3, .str zB, i6 0, .Qab, e38v0]] ⟨_, rfl, hX, Fx.self _⟩
    ·trivial
  ·rw [if_pos (dt q)] at H
   refine go ?_
   obtain ⟨Qlv, hx15_1, H⟩ := bnd H
   refine cx (Qa9 4 c0 _ hx15_1 e0  _ (pre 0 1 0 hF hX)) ?_
   rintro _ s43 ⟨t44, rfl, hT, hG⟩
   obtain ⟨t45, hX, hF⟩ := aft 0 1 0 hF hX hT hG
   refine go ?_
   refine cdp H (fun h H => ?_) (fun h H => ?_)
   ·refine go ?_
    obtain ⟨Qys, hx19_1, H⟩ := bnd H
    refine cx (Qbq [0, 1, 2, 7, 42, 999] Qlv.2 _ hx19_1 e0  _ (pre 0 1 0 hF hX)) ?_
    rintro _ s46 ⟨t47, rfl, hT, hG⟩
    obtain ⟨t48, hX, hF⟩ := aft 0 1 0 hF hX hT hG
    refine go ?_
    refine st hF 0 rfl fun s49 hF => ?_
    refine go ?_
    have e := pur H; subst e
    exact rg [.agg [i6 2, .str zB, i6 Qys.1, .Qab, .Qab]] ⟨_, rfl, hX, Fx.self _⟩
   ·refine go ?_
    obtain ⟨Qyt, hx23_1, H⟩ := bnd H
    refine cx (Qfy [(ByteArray.mk #[97]), (ByteArray.mk #[98]), (ByteArray.mk #[120]), (ByteArray.mk #[121]), (ByteArray.mk #[102]), (ByteArray.mk #[105, 102]), (ByteArray.mk #[108, 101, 116]), (ByteArray.mk #[43])] Qlv.2 _ hx23_1 e0  _ (pre 0 1 0 hF hX)) ?_
    rintro _ s50 ⟨tt51, rfl, hT, hG⟩
    obtain ⟨t52, hX, hF⟩ := aft 0 1 0 hF hX hT hG
    refine go ?_
    obtain ⟨Qq2, hx24_1, H⟩ := bnd H
    refine cl (Qjn Qyt.1 _ hx24_1) ?_
    refine go ?_
    refine st hF 0 rfl fun s53 hF => ?_
    refine go ?_
    have e := pur H; subst e
    exact rg [.agg [i6 Qq2.kind, .str Qq2.name, i6 Qq2.num, sf cI Qq2.sc, sf Fm.cells Qq2.kids]] ⟨_, rfl, hX, Fx.self _⟩
 ·intro Qe7 Qee C0 L0 a1 Qag Qgk Qbd Qgq out H c hc Q tt0 e0 b1 b22 hE hR T ss tt z0v0 tT hX hF
  obtain rfl := lpe (rfl : Qaq Tryz.f48 0 = some _) hc
  refine Qak ?_
  have q := dum
  refine go ?_
  refine cdp H (fun h H => ?_) (fun h H => ?_)
  ·refine go ?_
   obtain ⟨E, hEq⟩ : ∃ E, E = EE ss [e0] := ⟨_, rfl⟩
   have n28 : ¬ E b22 := by rw [hEq]; exact EE.not (hF.at 0 rfl) (by simp only [List.mem_cons, List.not_mem_nil, or_false, not_or]; exact neX hF 0 rfl hX 0 rfl)
   have n29 : ¬ E b1 := by rw [hEq]; exact EE.not (hF.at 1 rfl) (by simp only [List.mem_cons, List.not_mem_nil, or_false, not_or]; exact neX hF 1 rfl hX 0 rfl)
   refine Qa0 E [.v, .v, .v, .v, .v, .x, .v, .x, .v, .z] (by kernel_rfl) ?_
   have z := And.intro (Qam (hF.at 0 rfl) n28) (Qam (hF.at 1 rfl) n29); refine gh ?_
   obtain ⟨x37, hx37, H⟩ := bnd H
   refine cx (C0 (IntKind.i64.wrap (a1 - 1)) (Rdr.mk Qbd Qgq) _ hx37 e0  _ (pre 0 1 0 hF hX)) ?_
   rintro _ s30 ⟨tt31, rfl, hT, hG⟩
   refine Qhi (Fx.kept hT hG (by intro p hp; simp only [List.mem_cons, List.not_mem_nil, or_false] at hp <;> first | (rcases hp with rfl <;> (rw [hEq]; first | (refine EE.of ?_; simp; done) | exact EE.new rfl))| cases hp)) fun kp33 => ?_
   obtain ⟨t32, hX, hF⟩ := aft 0 1 0 hF hX hT hG
   have z := And.intro (Qam (hF.at 0 rfl) n28) (Qam (hF.at 1 rfl) n29); refine gh ?_
   refine Qq9 (g := Fm.cells) hF 0 H (rdo (c := true) (g := Fm.cells) Fm.Qac) fun x39 H v34 s35 hF => ?_
   have z := And.intro (Qam (hF.at 0 rfl) n28) (Qam (hF.at 1 rfl) n29); refine gh ?_
   refine st hF 0 (hF.cells 0 rfl) fun s36 hF => ?_
   have z := And.intro (Qam (hF.at 0 rfl) n28) (Qam (hF.at 1 rfl) n29); refine gh ?_
   refine go ?_
   exact L0 a1 x39 (IntKind.i64.wrap (Qgk - 1)) x37.2.b x37.2.p _ H _ rfl Q tt0 e0 b1 b22 hE hR _ _ _ v34 S hX hF
  ·refine go ?_
   exact wq (hE _ _ _ (pur H).symm _ _ _ z0v0 S hX hF)
theorem Qjm : ∀ (a0 : Fm) r, Qed a0 = some r -> Qdz Tryz.prog 80 [.agg (Fm.cells a0)] (.agg (Fm.cells r)) := by
 refine Qed.partial_correctness  (motive_1 := fun a0 r => Qdz Tryz.prog 80 [.agg (Fm.cells a0)] (.agg (Fm.cells r))) (motive_2 := fun a0 x14 Qag Qc0 out => ∀ c, Qaq Tryz.f80 0 = some c -> ∀ (Q : AX -> AS -> Prop) (tt : Sto) (b1 : Nat) (b3 : Nat) (b5 : Nat), (∀ (Qeh : List Fm), out = Qeh -> ∀ (T : Nat -> AV) (ss : Sto) (e0v0 : AV), T 2 = .ptr b3 0 /\ T 3 = .ptr b5 0 -> Fx tt ss [(b5, ⟨26, 5, [i6 a0.kind, .str a0.name, i6 a0.num, sf cI x14, e0v0]⟩), (b3, ⟨26, 5, [i6 0, .str zB, i6 0, .Qab, .Qab]⟩), (b1, ⟨26, 5, [i6 a0.kind, .str a0.name, i6 a0.num, sf cI a0.sc, sf Fm.cells a0.kids]⟩)] [⟨e0v0, 26, 5, rws Fm.cells Qeh⟩] -> Q (.ex 0) ⟨T, ss⟩) -> True -> ∀ (T : Nat -> AV) (ss : Sto) (z0v0 : AV), T 1 = .ptr b1 0 /\ T 2 = .ptr b3 0 /\ T 3 = .ptr b5 0 /\ T 4 = i6 Qc0 -> Fx tt ss [(b5, ⟨26, 5, [i6 a0.kind, .str a0.name, i6 a0.num, sf cI x14, z0v0]⟩), (b3, ⟨26, 5, [i6 0, .str zB, i6 0, .Qab, .Qab]⟩), (b1, ⟨26, 5, [i6 a0.kind, .str a0.name, i6 a0.num, sf cI a0.sc, sf Fm.cells a0.kids]⟩)] [⟨z0v0, 26, 5, rws Fm.cells Qag⟩] -> aLp Tryz.prog c Q ⟨T, ss⟩) ?_ ?_
 ·intro Qbx L0 a0 r H
  intro ss
  refine Qaz mixed Tryz.func80 rfl (by kernel_rfl) (rs := [.cell 2 26]) rfl (by kernel_rfl) ?_
  have hF := Fx.refl ss
  have hX := Tau.none ss
  have q := dum
  have tT := dum
  refine go ?_
  refine Qad hF rfl fun b1 ss2 hF => ?_
  refine go ?_
  refine Qad hF rfl fun b3 s4 hF => ?_
  refine go ?_
  refine Qa0 E0 [.v, .v, .v, .v, .v, .v, .v, .v, .v, .v, .v, .x, .z] (by kernel_rfl) ?_
  refine go ?_
  obtain ⟨x14, hx14, H⟩ := bnd H
  refine Qzc (g := cI) (xs := []) (ys := a0.sc) (fun _ => rfl) (by decide) (by decide) (.inr (by first | rfl | simp only [Qd5, Qfj, cI, cU, cS, cL])) (.inr ⟨_, by first | rfl | simp only [Qd5, Qfj, cI, cU, cS, cL]⟩) hx14 ?_
  refine go ?_
  refine Qh8 hF rfl fun b5 s6 hF => ?_
  refine go ?_
  refine st hF 0 rfl fun s7 hF => ?_
  have hF := hF.nil 26 5
  refine go ?_
  obtain ⟨o11, ho11, H⟩ := bnd H
  refine L0 a0 x14 [] 0 _ ho11 _ rfl _ _ b1 b3 b5 ?_ ?_ _ _ .Qab S hF
  ·intro Qpg he T13 s14 e12v0 tT hF
   have he := he.symm
   subst he
   refine go ?_
   refine st hF 1 rfl fun s16 hF => ?_
   refine go ?_
   have e := pur H; subst e
   exact rt [.agg [i6 a0.kind, .str a0.name, i6 a0.num, sf cI x14, e12v0]]
  ·trivial
 ·intro Qed Qbx C0 L0 a0 x14 Qag Qc0 out H c hc Q tt b1 b3 b5 hE hR T ss z0v0 tT hF
  obtain rfl := lpe (rfl : Qaq Tryz.f80 0 = some _) hc
  refine Qak ?_
  have q := dum
  have hX := Tau.none tt
  refine go ?_
  refine cdp H (fun h H => ?_) (fun h H => ?_)
  ·refine go ?_
   refine Qa0 E0 [.v, .v, .v, .v, .v, .v, .v, .v, .v, .x, .v, .z] (by kernel_rfl) ?_
   obtain ⟨x28, f1, H⟩ := bil (g := Fm.cells) Fm.Qac H
   refine go1 ?_
   obtain ⟨x30, hx30, H⟩ := bnd H
   refine cv (C0 x28 _ hx30) ?_
   refine go ?_
   refine Qq9 (g := Fm.cells) hF 0 H (rdo (c := true) (g := Fm.cells) Fm.Qac) fun x32 H v8 s9 hF => ?_
   refine go ?_
   refine st hF 0 (hF.cells 0 rfl) fun s10 hF => ?_
   refine go ?_
   exact L0 a0 x14 x32 (IntKind.i64.wrap (Qc0 + 1)) _ H _ rfl Q tt b1 b3 b5 hE hR _ _ v8 S hF
  ·refine go ?_
   exact wq (hE _ (pur H).symm _ _ z0v0 S hF)
theorem Qis : ∀ (a0 : Fm) (x14 : List Int) (Qag : List Fm) (Qc0 : Int) out, Qbf a0 x14 Qag Qc0 = some out -> ∀ c, Qaq Tryz.f80 0 = some c -> ∀ (Q : AX -> AS -> Prop) (tt0 : Sto) (b1 : Nat) (b3 : Nat) (b5 : Nat), (∀ (Qeh : List Fm), out = Qeh -> ∀ (T : Nat -> AV) (ss : Sto) (tt : Sto) (e0v0 : AV), T 2 = .ptr b3 0 /\ T 3 = .ptr b5 0 -> Tau tt0 [] tt -> Fx tt ss [(b5, ⟨26, 5, [i6 a0.kind, .str a0.name, i6 a0.num, sf cI x14, e0v0]⟩), (b3, ⟨26, 5, [i6 0, .str zB, i6 0, .Qab, .Qab]⟩), (b1, ⟨26, 5, [i6 a0.kind, .str a0.name, i6 a0.num, sf cI a0.sc, sf Fm.cells a0.kids]⟩)] [⟨e0v0, 26, 5, rws Fm.cells Qeh⟩] -> Q (.ex 0) ⟨T, ss⟩) -> True -> ∀ (T : Nat -> AV) (ss : Sto) (tt : Sto) (z0v0 : AV), T 1 = .ptr b1 0 /\ T 2 = .ptr b3 0 /\ T 3 = .ptr b5 0 /\ T 4 = i6 Qc0 -> Tau tt0 [] tt -> Fx tt ss [(b5, ⟨26, 5, [i6 a0.kind, .str a0.name, i6 a0.num, sf cI x14, z0v0]⟩), (b3, ⟨26, 5, [i6 0, .str zB, i6 0, .Qab, .Qab]⟩), (b1, ⟨26, 5, [i6 a0.kind, .str a0.name, i6 a0.num, sf cI a0.sc, sf Fm.cells a0.kids]⟩)] [⟨z0v0, 26, 5, rws Fm.cells Qag⟩] -> aLp Tryz.prog c Q ⟨T, ss⟩ := by
 intro a0 x14 Qag Qc0
 revert Qag Qc0
 refine Qbf.partial_correctness a0 x14 _ ?_
 intro Qbf IH Qag Qc0 out H c hc Q tt0 b1 b3 b5 hE hR T ss tt z0v0 tT hX hF
 obtain rfl := lpe (rfl : Qaq Tryz.f80 0 = some _) hc
 refine Qak ?_
 have q := dum
 refine go ?_
 refine cdp H (fun h H => ?_) (fun h H => ?_)
 ·refine go ?_
  refine Qa0 E0 [.v, .v, .v, .v, .v, .v, .v, .v, .v, .x, .v, .z] (by kernel_rfl) ?_
  obtain ⟨x28, f1, H⟩ := bil (g := Fm.cells) Fm.Qac H
  refine go1 ?_
  obtain ⟨x30, hx30, H⟩ := bnd H
  refine cv (Qjm x28 _ hx30) ?_
  refine go ?_
  refine Qq9 (g := Fm.cells) hF 0 H (rdo (c := true) (g := Fm.cells) Fm.Qac) fun x32 H v8 s9 hF => ?_
  refine go ?_
  refine st hF 0 (hF.cells 0 rfl) fun s10 hF => ?_
  refine go ?_
  exact IH  x32 (IntKind.i64.wrap (Qc0 + 1)) _ H _ rfl Q tt0 b1 b3 b5 hE hR _ _ _ v8 S hX hF
 ·refine go ?_
  exact wq (hE _ (pur H).symm _ _ _ z0v0 S hX hF)
theorem Qkh : ∀ (a0 : Fm) r, Qes a0 = some r -> ∀   (ss : Sto), Pre ss [] [] -> Ctr Tryz.prog 80 [.agg (Fm.cells a0)] ss (fun r' ss' => ∃ (tt' : Sto) (Q34 : AV), r' = .agg [i6 r.kind, .str r.name, i6 r.num, sf cI r.sc, Q34] /\ Tau (strip ss []) [] tt' /\ Fx tt' ss' [] [⟨Q34, 26, 5, rws Fm.cells r.kids⟩]) := by
 intro a0 r H
 intro   ss hP
 unfold Qes at H
 refine Qaz mixed Tryz.func80 rfl (by kernel_rfl) (rs := [.cell 2 26]) rfl (by kernel_rfl) ?_
 obtain ⟨hF, hX⟩ := hP.start
 generalize strip ss [] = tt0 at hF hX ⊢
 have q := dum
 have tT := dum
 refine go ?_
 refine Qad hF rfl fun b1 ss2 hF => ?_
 refine go ?_
 refine Qad hF rfl fun b3 s4 hF => ?_
 refine go ?_
 refine Qa0 E0 [.v, .v, .v, .v, .v, .v, .v, .v, .v, .v, .v, .x, .z] (by kernel_rfl) ?_
 refine go ?_
 obtain ⟨x14, hx14, H⟩ := bnd H
 refine Qzc (g := cI) (xs := []) (ys := a0.sc) (fun _ => rfl) (by decide) (by decide) (.inr (by first | rfl | simp only [Qd5, Qfj, cI, cU, cS, cL])) (.inr ⟨_, by first | rfl | simp only [Qd5, Qfj, cI, cU, cS, cL]⟩) hx14 ?_
 refine go ?_
 refine Qh8 hF rfl fun b5 s6 hF => ?_
 refine go ?_
 refine st hF 0 rfl fun s7 hF => ?_
 have hF := hF.nil 26 5
 refine go ?_
 obtain ⟨o11, ho11, H⟩ := bnd H
 refine Qis a0 x14 [] 0 _ ho11 _ rfl _ tt0 b1 b3 b5 ?_ ?_ _ _ _ .Qab S hX hF
 ·intro Qpg he T13 s14 t15 e12v0 tT hX hF
  have he := he.symm
  subst he
  refine go ?_
  refine st hF 1 rfl fun s16 hF => ?_
  refine go ?_
  have e := pur H; subst e
  exact rg [.agg [i6 a0.kind, .str a0.name, i6 a0.num, sf cI x14, e12v0]] ⟨_, _, rfl, hX, hF.pick [] [0] (by decide) (by decide)⟩
 ·trivial
theorem Qna : ∀ (a1 : Fm) (c0 : Rdr) r, Qe5 a1 c0 = some r -> ∀ (e0 : Nat)  (ss : Sto), Pre ss [(e0, ⟨88, 2, [sf cU c0.b, i6 c0.p]⟩)] [] -> Ctr Tryz.prog 47 [.ptr e0 0, .agg (Fm.cells a1)] ss (fun r' ss' => ∃ (tt' : Sto), r' = .agg (Fm.cells r.1) /\ Tau (strip ss []) [(e0, ⟨88, 2, [sf cU r.2.b, i6 r.2.p]⟩)] tt' /\ Fx tt' ss' [] []) := by
 refine Qe5.partial_correctness  (motive_1 := fun a1 c0 r => ∀ (e0 : Nat)  (ss : Sto), Pre ss [(e0, ⟨88, 2, [sf cU c0.b, i6 c0.p]⟩)] [] -> Ctr Tryz.prog 47 [.ptr e0 0, .agg (Fm.cells a1)] ss (fun r' ss' => ∃ (tt' : Sto), r' = .agg (Fm.cells r.1) /\ Tau (strip ss []) [(e0, ⟨88, 2, [sf cU r.2.b, i6 r.2.p]⟩)] tt' /\ Fx tt' ss' [] [])) (motive_2 := fun a1 x9 Qez Qag Qd8 Qbd Qgq out => ∀ c, Qaq Tryz.f47 0 = some c -> ∀ (Q : AX -> AS -> Prop) (tt0 : Sto) (e0 : Nat) (b1 : Nat) (b3 : Nat) (b9 : Nat), (∀ (Qeh : List Fm) (Qhf : List Int) (Qmy : Int), out = (Qeh, Qhf, Qmy) -> ∀ (T : Nat -> AV) (ss : Sto) (tt : Sto) (e0v0 : AV), T 4 = .ptr b3 0 /\ T 5 = .ptr b9 0 -> Tau tt0 [(e0, ⟨88, 2, [sf cU Qhf, i6 Qmy]⟩)] tt -> Fx tt ss [(b9, ⟨26, 5, [i6 x9.kind, .str x9.name, i6 x9.num, sf cI Qez, e0v0]⟩), (b3, ⟨26, 5, [i6 0, .str zB, i6 0, .Qab, .Qab]⟩), (b1, ⟨26, 5, [i6 a1.kind, .str a1.name, i6 a1.num, sf cI a1.sc, sf Fm.cells a1.kids]⟩)] [⟨e0v0, 26, 5, rws Fm.cells Qeh⟩] -> Q (.ex 0) ⟨T, ss⟩) -> True -> ∀ (T : Nat -> AV) (ss : Sto) (tt : Sto) (z0v0 : AV), T 0 = .ptr e0 0 /\ T 4 = .ptr b3 0 /\ T 5 = .ptr b9 0 /\ T 7 = i6 Qd8 -> Tau tt0 [(e0, ⟨88, 2, [sf cU Qbd, i6 Qgq]⟩)] tt -> Fx tt ss [(b9, ⟨26, 5, [i6 x9.kind, .str x9.name, i6 x9.num, sf cI Qez, z0v0]⟩), (b3, ⟨26, 5, [i6 0, .str zB, i6 0, .Qab, .Qab]⟩), (b1, ⟨26, 5, [i6 a1.kind, .str a1.name, i6 a1.num, sf cI a1.sc, sf Fm.cells a1.kids]⟩)] [⟨z0v0, 26, 5, rws Fm.cells Qag⟩] -> aLp Tryz.prog c Q ⟨T, ss⟩) ?_ ?_
 ·intro Qc3 L0 a1 c0 r H
  intro e0  ss hP
  refine Qaz mixed Tryz.func47 rfl (by kernel_rfl) (rs := [.cell 4 26]) rfl (by kernel_rfl) ?_
  obtain ⟨hF, hX⟩ := hP.start
  generalize strip ss [] = tt0 at hF hX ⊢
  have q := dum
  have tT := dum
  refine go ?_
  refine Qad hF rfl fun b1 ss2 hF => ?_
  refine go ?_
  refine Qad hF rfl fun b3 s4 hF => ?_
  refine go ?_
  obtain ⟨x9, hx9, H⟩ := bnd H
  refine cx (Qkh a1 _ hx9   _ (pre 0 0 0 hF hX)) ?_
  rintro _ s6 ⟨t7, v5, rfl, hT, hG⟩
  obtain ⟨t8, hX, hF⟩ := aft 0 0 0 hF hX hT hG
  refine go ?_
  refine Qad hF rfl fun b9 s10 hF => ?_
  refine go ?_
  refine st hF 0 rfl fun s11 hF => ?_
  refine go ?_
  obtain ⟨⟨Qez, Qmq, Qmr⟩, j13, H⟩ := bnd H
  refine Qou (fun s' => ∃ (T : Nat -> AV) (ss1 : Sto) (tt1 : Sto), s' = ⟨T, ss1⟩ /\ (T 0 = .ptr e0 0 /\ T 4 = .ptr b3 0 /\ T 5 = .ptr b9 0) /\ Tau tt0 [(e0, ⟨88, 2, [sf cU Qmq, i6 Qmr]⟩)] tt1 /\ Fx tt1 ss1 [(b9, ⟨26, 5, [i6 x9.kind, .str x9.name, i6 x9.num, sf cI Qez, v5]⟩), (b3, ⟨26, 5, [i6 0, .str zB, i6 0, .Qab, .Qab]⟩), (b1, ⟨26, 5, [i6 a1.kind, .str a1.name, i6 a1.num, sf cI a1.sc, sf Fm.cells a1.kids]⟩)] [⟨v5, 26, 5, rws Fm.cells x9.kids⟩]) (cdp j13 (fun h j13 => ?_) (fun h j13 => ?_)) ?_
  ·refine go ?_
   obtain ⟨x26, hx26, j13⟩ := bnd j13
   refine cx (Qa9 7 c0 _ hx26 e0  _ (pre 0 1 0 hF hX)) ?_
   rintro _ s14 ⟨t15, rfl, hT, hG⟩
   obtain ⟨t16, hX, hF⟩ := aft 0 1 0 hF hX hT hG
   obtain ⟨x27, f1, j13⟩ := bll (g := cI) [[.sl true []], [.sl true [[i6 1]]], [.sl true [[i6 2]]], [.sl true [[i6 1], [i6 2]]], [.sl true [[i6 1], [i6 3]]], [.sl true [[i6 1], [i6 2], [i6 3]]], [.sl true [[i6 99]]]] rfl j13
   refine go1 ?_
   refine apv (g := cI) j13 (fun _ => rfl) (rdo (c := true) (g := cI) (fun _ => rfl)) fun x29 j13 => ?_
   refine go ?_
   refine st hF 0 rfl fun s17 hF => ?_
   refine go ?_
   have e := pur j13
   injection e with e0 e
   injection e with e1 e
   subst e0
   subst e1
   subst e
   exact ⟨_, _, _, rfl, S, hX, hF⟩
  ·refine go ?_
   have e := pur j13
   injection e with e0 e
   injection e with e1 e
   subst e0
   subst e1
   subst e
   exact ⟨_, _, _, rfl, S, hX, hF⟩
  ·rintro s' ⟨T18, s19, tt20, rfl, tT, hX, hF⟩
   refine go ?_
   obtain ⟨o31, ho31, H⟩ := bnd H
   refine L0 a1 x9 Qez x9.kids 0 Qmq Qmr _ ho31 _ rfl _ tt0 e0 b1 b3 b9 ?_ ?_ _ _ _ v5 S hX hF
   ·intro Qy1 Qrj Qrk he T33 s34 t35 e32v0 tT hX hF
    have he := he.symm
    subst he
    try dsimp only at H
    refine go ?_
    refine st hF 1 rfl fun s36 hF => ?_
    refine go ?_
    have e := pur H; subst e
    exact rg [.agg [i6 x9.kind, .str x9.name, i6 x9.num, sf cI Qez, e32v0]] ⟨_, rfl, hX, Fx.self _⟩
   ·trivial
 ·intro Qe5 Qc3 C0 L0 a1 x9 Qez Qag Qd8 Qbd Qgq out H c hc Q tt0 e0 b1 b3 b9 hE hR T ss tt z0v0 tT hX hF
  obtain rfl := lpe (rfl : Qaq Tryz.f47 0 = some _) hc
  refine Qak ?_
  have q := dum
  refine go ?_
  refine cdp H (fun h H => ?_) (fun h H => ?_)
  ·refine go ?_
   obtain ⟨E, hEq⟩ : ∃ E, E = EE ss [e0] := ⟨_, rfl⟩
   have n21 : ¬ E b9 := by rw [hEq]; exact EE.not (hF.at 0 rfl) (by simp only [List.mem_cons, List.not_mem_nil, or_false, not_or]; exact neX hF 0 rfl hX 0 rfl)
   have n22 : ¬ E b3 := by rw [hEq]; exact EE.not (hF.at 1 rfl) (by simp only [List.mem_cons, List.not_mem_nil, or_false, not_or]; exact neX hF 1 rfl hX 0 rfl)
   have n23 : ¬ E b1 := by rw [hEq]; exact EE.not (hF.at 2 rfl) (by simp only [List.mem_cons, List.not_mem_nil, or_false, not_or]; exact neX hF 2 rfl hX 0 rfl)
   refine Qa0 E [.v, .v, .v, .v, .v, .v, .v, .v, .x, .x, .v, .z] (by kernel_rfl) ?_
   have z := And.intro (Qam (hF.at 0 rfl) n21) (And.intro (Qam (hF.at 1 rfl) n22) (Qam (hF.at 2 rfl) n23)); refine gh ?_
   obtain ⟨x45, hx45, H⟩ := bnd H
   obtain ⟨b24, k25, hv⟩ := hF.ref 0 rfl hx45
   subst hv
   try simp only [go_sem, ↓reduceIte, Nat.reduceEqDiff, Nat.reduceAdd, Nat.reduceMul, Nat.reduceLeDiff, Nat.reduceLT, Int.reduceEq, Int.toNat_natCast, q, tT, hF.f, hF.m, hF.x hX, Qam (hF.at 0 rfl) n21, Qam (hF.at 1 rfl) n22, Qam (hF.at 2 rfl) n23, Qmi (l := Qag) rfl hx45, Qo1 hF 0 (p := Qd8.toNat * 5) (sz := 5) (ag := true) (k := 5) (o := 0) (g := Fm.cells) (x := x45) (i := Qd8) (v := (.agg [i6 x45.kind, .str x45.name, i6 x45.num, sf cI x45.sc, sf Fm.cells x45.kids])) (by first | rfl | simp) Fm.Qac rfl hx45 (by decide) (by first | rfl | (simp only [sf, i6, zB, cI, cU, cS, cL, cB, Fm.Qaa]; rfl))]
   obtain ⟨x47, hx47, H⟩ := bnd H
   refine cx (C0 x45 (Rdr.mk Qbd Qgq) _ hx47 e0  _ (pre 0 1 0 hF hX)) ?_
   rintro _ s26 ⟨t27, rfl, hT, hG⟩
   refine Qhi (Fx.kept hT hG (by intro p hp; simp only [List.mem_cons, List.not_mem_nil, or_false] at hp <;> first | (rcases hp with rfl <;> (rw [hEq]; first | (refine EE.of ?_; simp; done) | exact EE.new rfl))| cases hp)) fun kp29 => ?_
   obtain ⟨t28, hX, hF⟩ := aft 0 1 0 hF hX hT hG
   obtain ⟨x48, hx48, H⟩ := bnd H
   try simp only [go_sem, ↓reduceIte, Nat.reduceEqDiff, Nat.reduceAdd, Nat.reduceMul, Nat.reduceLeDiff, Nat.reduceLT, Int.reduceEq, Int.toNat_natCast, q, tT, hF.f, hF.m, hF.x hX, Qam (hF.at 0 rfl) n21, Qam (hF.at 1 rfl) n22, Qam (hF.at 2 rfl) n23, Qmi (l := Qag) ((Qpp hF 0 rfl).1.trans (Qfi _)) hx48]
   refine Qvh hF 0 (o := 0) (sz := 5) (k := 5) (v := (.agg [i6 x47.1.kind, .str x47.1.name, i6 x47.1.num, sf cI x47.1.sc, sf Fm.cells x47.1.kids])) (cs := [i6 x47.1.kind, .str x47.1.name, i6 x47.1.num, sf cI x47.1.sc, sf Fm.cells x47.1.kids]) (g := Fm.cells) (i := Qd8) x47.1 Fm.Qac (by first | rfl | simp) rfl hx48 rfl rfl (by decide) (by first | rfl | simp [Qhm, cI, cU, cS, cL, cB, Fm.Qaa]) fun s30 hF => ?_
   have hF : Fx t28 s30 [(b9, ⟨26, 5, [i6 x9.kind, .str x9.name, i6 x9.num, sf cI Qez, .ref b24 Qag.length k25]⟩), (b3, ⟨26, 5, [i6 0, .str zB, i6 0, .Qab, .Qab]⟩), (b1, ⟨26, 5, [i6 a1.kind, .str a1.name, i6 a1.num, sf cI a1.sc, sf Fm.cells a1.kids]⟩)] [⟨.ref b24 Qag.length k25, 26, 5, rws Fm.cells (Qag.set Qd8.toNat x47.1)⟩] := hF
   have z := And.intro (Qam (hF.at 0 rfl) n21) (And.intro (Qam (hF.at 1 rfl) n22) (Qam (hF.at 2 rfl) n23)); refine gh ?_
   refine go ?_
   exact L0 a1 x9 Qez (Qag.set Qd8.toNat x47.1) (IntKind.i64.wrap (Qd8 + 1)) x47.2.b x47.2.p _ H _ rfl Q tt0 e0 b1 b3 b9 hE hR _ _ _ (.ref b24 Qag.length k25) S hX hF
  ·refine go ?_
   exact wq (hE _ _ _ (pur H).symm _ _ _ z0v0 S hX hF)
theorem Qh4 : ∀ (a0 : Fm) (x14 : List Int) (Qp5 : List Fm) (Qc0 : Int) out, Qbb a0 x14 Qp5 Qc0 = some out -> ∀ c, Qaq Tryz.f80 0 = some c -> ∀ (Q : AX -> AS -> Prop) (tt0 : Sto) (b1 : Nat) (b3 : Nat) (v5 : AV) (b7 : Nat), (∀ (Q2g : List Fm), out = Q2g -> ∀ (T : Nat -> AV) (ss : Sto) (tt : Sto) (e0v1 : AV), T 2 = .ptr b3 0 /\ T 3 = .ptr b7 0 -> Tau tt0 [] tt -> Fx tt ss [(b7, ⟨26, 5, [i6 a0.kind, .str a0.name, i6 a0.num, v5, e0v1]⟩), (b3, ⟨26, 5, [i6 0, .str zB, i6 0, .Qab, .Qab]⟩), (b1, ⟨26, 5, [i6 a0.kind, .str a0.name, i6 a0.num, sf cI a0.sc, sf Fm.cells a0.kids]⟩)] [⟨e0v1, 26, 5, rws Fm.cells Q2g⟩, ⟨v5, 3, 1, rws cI x14⟩] -> Q (.ex 0) ⟨T, ss⟩) -> True -> ∀ (T : Nat -> AV) (ss : Sto) (tt : Sto) (z0v1 : AV), T 1 = .ptr b1 0 /\ T 2 = .ptr b3 0 /\ T 3 = .ptr b7 0 /\ T 4 = i6 Qc0 -> Tau tt0 [] tt -> Fx tt ss [(b7, ⟨26, 5, [i6 a0.kind, .str a0.name, i6 a0.num, v5, z0v1]⟩), (b3, ⟨26, 5, [i6 0, .str zB, i6 0, .Qab, .Qab]⟩), (b1, ⟨26, 5, [i6 a0.kind, .str a0.name, i6 a0.num, sf cI a0.sc, sf Fm.cells a0.kids]⟩)] [⟨z0v1, 26, 5, rws Fm.cells Qp5⟩, ⟨v5, 3, 1, rws cI x14⟩] -> aLp Tryz.prog c Q ⟨T, ss⟩ := by
 intro a0 x14 Qp5 Qc0
 revert Qp5 Qc0
 refine Qbb.partial_correctness a0 x14 _ ?_
 intro Qbb IH Qp5 Qc0 out H c hc Q tt0 b1 b3 v5 b7 hE hR T ss tt z0v1 tT hX hF
 obtain rfl := lpe (rfl : Qaq Tryz.f80 0 = some _) hc
 refine Qak ?_
 have q := dum
 refine go ?_
 refine cdp H (fun h H => ?_) (fun h H => ?_)
 ·refine go ?_
  refine Qa0 E0 [.v, .v, .v, .v, .v, .v, .v, .v, .v, .x, .v, .z] (by kernel_rfl) ?_
  obtain ⟨x28, f1, H⟩ := bil (g := Fm.cells) Fm.Qac H
  refine go1 ?_
  obtain ⟨x30, hx30, H⟩ := bnd H
  refine cv (Qjm x28 _ hx30) ?_
  refine go ?_
  refine Qq9 (g := Fm.cells) hF 0 H (rdo (c := true) (g := Fm.cells) Fm.Qac) fun x32 H v10 s11 hF => ?_
  refine go ?_
  refine st hF 0 (hF.cells 0 rfl) fun s12 hF => ?_
  refine go ?_
  exact IH  x32 (IntKind.i64.wrap (Qc0 + 1)) _ H _ rfl Q tt0 b1 b3 v5 b7 hE hR _ _ _ v10 S hX hF
 ·refine go ?_
  exact wq (hE _ (pur H).symm _ _ _ z0v1 S hX hF)
theorem Qir : ∀ (a0 : Fm) r, Qdw a0 = some r -> ∀   (ss : Sto), Pre ss [] [] -> Ctr Tryz.prog 80 [.agg (Fm.cells a0)] ss (fun r' ss' => ∃ (tt' : Sto) (Q5l : AV) (Q34 : AV), r' = .agg [i6 r.kind, .str r.name, i6 r.num, Q5l, Q34] /\ Tau (strip ss []) [] tt' /\ Fx tt' ss' [] [⟨Q5l, 3, 1, rws cI r.sc⟩, ⟨Q34, 26, 5, rws Fm.cells r.kids⟩]) := by
 intro a0 r H
 intro   ss hP
 unfold Qdw at H
 refine Qaz mixed Tryz.func80 rfl (by kernel_rfl) (rs := [.cell 2 26]) rfl (by kernel_rfl) ?_
 obtain ⟨hF, hX⟩ := hP.start
 generalize strip ss [] = tt0 at hF hX ⊢
 have q := dum
 have tT := dum
 refine go ?_
 refine Qad hF rfl fun b1 ss2 hF => ?_
 refine go ?_
 refine Qad hF rfl fun b3 s4 hF => ?_
 refine go ?_
 refine Qa0 E0 [.v, .v, .v, .v, .v, .v, .v, .v, .v, .x, .v, .x, .z] (by kernel_rfl) ?_
 refine go ?_
 have hF := hF.lit 3 1 (rws cI []) rfl
 refine Qq9 (g := cI) hF 0 H (rdo (c := false) (g := cI) (fun _ => rfl)) fun x14 H v5 s6 hF => ?_
 refine go ?_
 refine Qh8 hF rfl fun b7 s8 hF => ?_
 refine go ?_
 refine st hF 0 rfl fun s9 hF => ?_
 have hF := hF.nil 26 5
 refine go ?_
 obtain ⟨o13, ho13, H⟩ := bnd H
 refine Qh4 a0 x14 [] 0 _ ho13 _ rfl _ tt0 b1 b3 v5 b7 ?_ ?_ _ _ _ .Qab S hX hF
 ·intro Qyy he T15 s16 t17 e14v1 tT hX hF
  have he := he.symm
  subst he
  refine go ?_
  refine st hF 1 rfl fun s18 hF => ?_
  refine go ?_
  have e := pur H; subst e
  exact rg [.agg [i6 a0.kind, .str a0.name, i6 a0.num, v5, e14v1]] ⟨_, _, _, rfl, hX, hF.pick [] [1, 0] (by decide) (by decide)⟩
 ·trivial
theorem Qio : ∀ (a1 : Fm) (c0 : Rdr) r, Qd7 a1 c0 = some r -> ∀ (e0 : Nat)  (ss : Sto), Pre ss [(e0, ⟨88, 2, [sf cU c0.b, i6 c0.p]⟩)] [] -> Ctr Tryz.prog 46 [.ptr e0 0, .agg (Fm.cells a1)] ss (fun r' ss' => ∃ (tt' : Sto), r' = .agg (Fm.cells r.1) /\ Tau (strip ss []) [(e0, ⟨88, 2, [sf cU r.2.b, i6 r.2.p]⟩)] tt' /\ Fx tt' ss' [] []) := by
 refine Qd7.partial_correctness  (motive := fun a1 c0 r => ∀ (e0 : Nat)  (ss : Sto), Pre ss [(e0, ⟨88, 2, [sf cU c0.b, i6 c0.p]⟩)] [] -> Ctr Tryz.prog 46 [.ptr e0 0, .agg (Fm.cells a1)] ss (fun r' ss' => ∃ (tt' : Sto), r' = .agg (Fm.cells r.1) /\ Tau (strip ss []) [(e0, ⟨88, 2, [sf cU r.2.b, i6 r.2.p]⟩)] tt' /\ Fx tt' ss' [] [])) ?_
 ·intro Qd7 C0 a1 c0 r H
  intro e0  ss hP
  refine Qaz mixed Tryz.func46 rfl (by kernel_rfl) (rs := [.cell 4 26]) rfl (by kernel_rfl) ?_
  obtain ⟨hF, hX⟩ := hP.start
  generalize strip ss [] = tt0 at hF hX ⊢
  have q := dum
  have tT := dum
  refine go ?_
  refine Qad hF rfl fun b1 ss2 hF => ?_
  refine go ?_
  refine Qad hF rfl fun b3 s4 hF => ?_
  refine go ?_
  obtain ⟨x8, hx8, H⟩ := bnd H
  refine cx (Qir a1 _ hx8   _ (pre 0 0 0 hF hX)) ?_
  rintro _ s7 ⟨t8, v5, v6, rfl, hT, hG⟩
  obtain ⟨tt9, hX, hF⟩ := aft 0 0 0 hF hX hT hG
  refine go ?_
  refine Qad hF rfl fun b10 s11 hF => ?_
  refine go ?_
  refine st hF 0 rfl fun s12 hF => ?_
  refine go ?_
  refine gi q (fun q => ?_) (fun q => ?_)
  ·rw [if_pos (dt q)] at H
   refine go ?_
   obtain ⟨Qlv, hx15_1, H⟩ := bnd H
   refine cx (Qa9 2 c0 _ hx15_1 e0  _ (pre 0 1 0 hF hX)) ?_
   rintro _ s18 ⟨t19, rfl, hT, hG⟩
   obtain ⟨tt20, hX, hF⟩ := aft 0 1 0 hF hX hT hG
   refine go ?_
   refine cdp H (fun h H => ?_) (fun h H => ?_)
   ·refine go ?_
    obtain ⟨x22, hx22, H⟩ := bnd H
    refine cx (Qa9 (x8.kids.length : Int) Qlv.2 _ hx22 e0  _ (pre 0 1 0 hF hX)) ?_
    rintro _ s21 ⟨t22, rfl, hT, hG⟩
    obtain ⟨t23, hX, hF⟩ := aft 0 1 0 hF hX hT hG
    refine go ?_
    obtain ⟨E, hEq⟩ : ∃ E, E = EE s21 [e0] := ⟨_, rfl⟩
    have n24 : ¬ E b10 := by rw [hEq]; exact EE.not (hF.at 0 rfl) (by simp only [List.mem_cons, List.not_mem_nil, or_false, not_or]; exact neX hF 0 rfl hX 0 rfl)
    have n25 : ¬ E b3 := by rw [hEq]; exact EE.not (hF.at 1 rfl) (by simp only [List.mem_cons, List.not_mem_nil, or_false, not_or]; exact neX hF 1 rfl hX 0 rfl)
    have n26 : ¬ E b1 := by rw [hEq]; exact EE.not (hF.at 2 rfl) (by simp only [List.mem_cons, List.not_mem_nil, or_false, not_or]; exact neX hF 2 rfl hX 0 rfl)
    refine Qa0 E [.v, .v, .v, .v, .v, .v, .v, .v, .x, .x, .v, .z] (by kernel_rfl) ?_
    have z := And.intro (Qam (hF.at 0 rfl) n24) (And.intro (Qam (hF.at 1 rfl) n25) (Qam (hF.at 2 rfl) n26)); refine gh ?_
    obtain ⟨x30, hx30, H⟩ := bnd H
    obtain ⟨b27, k28, hv⟩ := hF.ref 1 rfl hx30
    subst hv
    try simp only [go_sem, ↓reduceIte, Nat.reduceEqDiff, Nat.reduceAdd, Nat.reduceMul, Nat.reduceLeDiff, Nat.reduceLT, Int.reduceEq, Int.toNat_natCast, q, tT, hF.f, hF.m, hF.x hX, Qam (hF.at 0 rfl) n24, Qam (hF.at 1 rfl) n25, Qam (hF.at 2 rfl) n26, Qmi (l := x8.kids) rfl hx30, Qo1 hF 1 (p := x22.1.toNat * 5) (sz := 5) (ag := true) (k := 5) (o := 0) (g := Fm.cells) (x := x30) (i := x22.1) (v := (.agg [i6 x30.kind, .str x30.name, i6 x30.num, sf cI x30.sc, sf Fm.cells x30.kids])) (by first | rfl | simp) Fm.Qac rfl hx30 (by decide) (by first | rfl | (simp only [sf, i6, zB, cI, cU, cS, cL, cB, Fm.Qaa]; rfl))]
    obtain ⟨x32, hx32, H⟩ := bnd H
    refine cx (C0 x30 x22.2 _ hx32 e0  _ (pre 0 1 0 hF hX)) ?_
    rintro _ s29 ⟨t30, rfl, hT, hG⟩
    refine Qhi (Fx.kept hT hG (by intro p hp; simp only [List.mem_cons, List.not_mem_nil, or_false] at hp <;> first | (rcases hp with rfl <;> (rw [hEq]; first | (refine EE.of ?_; simp; done) | exact EE.new rfl))| cases hp)) fun kp32 => ?_
    obtain ⟨tt31, hX, hF⟩ := aft 0 1 0 hF hX hT hG
    obtain ⟨x33, hx33, H⟩ := bnd H
    try simp only [go_sem, ↓reduceIte, Nat.reduceEqDiff, Nat.reduceAdd, Nat.reduceMul, Nat.reduceLeDiff, Nat.reduceLT, Int.reduceEq, Int.toNat_natCast, q, tT, hF.f, hF.m, hF.x hX, Qam (hF.at 0 rfl) n24, Qam (hF.at 1 rfl) n25, Qam (hF.at 2 rfl) n26, Qmi (l := x8.kids) ((Qpp hF 1 rfl).1.trans (Qfi _)) hx33]
    refine Qvh hF 1 (o := 0) (sz := 5) (k := 5) (v := (.agg [i6 x32.1.kind, .str x32.1.name, i6 x32.1.num, sf cI x32.1.sc, sf Fm.cells x32.1.kids])) (cs := [i6 x32.1.kind, .str x32.1.name, i6 x32.1.num, sf cI x32.1.sc, sf Fm.cells x32.1.kids]) (g := Fm.cells) (i := x22.1) x32.1 Fm.Qac (by first | rfl | simp) rfl hx33 rfl rfl (by decide) (by first | rfl | simp [Qhm, cI, cU, cS, cL, cB, Fm.Qaa]) fun s33 hF => ?_
    have hF : Fx tt31 s33 [(b10, ⟨26, 5, [i6 x8.kind, .str x8.name, i6 x8.num, v5, .ref b27 x8.kids.length k28]⟩), (b3, ⟨26, 5, [i6 0, .str zB, i6 0, .Qab, .Qab]⟩), (b1, ⟨26, 5, [i6 a1.kind, .str a1.name, i6 a1.num, sf cI a1.sc, sf Fm.cells a1.kids]⟩)] [⟨v5, 3, 1, rws cI x8.sc⟩, ⟨.ref b27 x8.kids.length k28, 26, 5, rws Fm.cells (x8.kids.set x22.1.toNat x32.1)⟩] := hF
    have z := And.intro (Qam (hF.at 0 rfl) n24) (And.intro (Qam (hF.at 1 rfl) n25) (Qam (hF.at 2 rfl) n26)); refine gh ?_
    refine go ?_
    refine st hF 1 rfl fun s34 hF => ?_
    refine go ?_
    have e := pur H; subst e
    exact rg [.agg [i6 x8.kind, .str x8.name, i6 x8.num, v5, .ref b27 x8.kids.length k28]] ⟨_, rfl, hX, Fx.self _⟩
   ·refine go ?_
    obtain ⟨x36, hx36, H⟩ := bnd H
    refine cx (Qa9 14 Qlv.2 _ hx36 e0  _ (pre 0 1 0 hF hX)) ?_
    rintro _ s35 ⟨t36, rfl, hT, hG⟩
    obtain ⟨tt37, hX, hF⟩ := aft 0 1 0 hF hX hT hG
    refine go ?_
    refine cdp H (fun h H => ?_) (fun h H => ?_)
    ·refine go ?_
     obtain ⟨x41, hx41, H⟩ := bnd H
     refine cx (Qbq [0, 4, 1, 3] x36.2 _ hx41 e0  _ (pre 0 1 0 hF hX)) ?_
     rintro _ s38 ⟨t39, rfl, hT, hG⟩
     obtain ⟨t40, hX, hF⟩ := aft 0 1 0 hF hX hT hG
     refine go ?_
     refine st hF 0 rfl fun s41 hF => ?_
     refine go ?_
     refine st hF 1 rfl fun s42 hF => ?_
     refine go ?_
     have e := pur H; subst e
     exact rg [.agg [i6 x41.1, .str x8.name, i6 x8.num, v5, v6]] ⟨_, rfl, hX, Fx.self _⟩
    ·refine go ?_
     refine cdp H (fun h H => ?_) (fun h H => ?_)
     ·refine go ?_
      obtain ⟨x47, hx47, H⟩ := bnd H
      refine cx (Qfy [zB, (ByteArray.mk #[65]), (ByteArray.mk #[116, 111, 111, 108, 111, 110, 103, 97, 110, 97, 109, 101, 49]), (ByteArray.mk #[122]), (ByteArray.mk #[120, 32, 121])] x36.2 _ hx47 e0  _ (pre 0 1 0 hF hX)) ?_
      rintro _ s43 ⟨t44, rfl, hT, hG⟩
      obtain ⟨t45, hX, hF⟩ := aft 0 1 0 hF hX hT hG
      refine go ?_
      refine st hF 0 rfl fun s46 hF => ?_
      refine go ?_
      refine st hF 1 rfl fun s47 hF => ?_
      refine go ?_
      have e := pur H; subst e
      exact rg [.agg [i6 x8.kind, .str x47.1, i6 x8.num, v5, v6]] ⟨_, rfl, hX, Fx.self _⟩
     ·refine go ?_
      refine cdp H (fun h H => ?_) (fun h H => ?_)
      ·refine go ?_
       obtain ⟨x53, hx53, H⟩ := bnd H
       refine cx (Qbq [1000, -1, 5] x36.2 _ hx53 e0  _ (pre 0 1 0 hF hX)) ?_
       rintro _ s48 ⟨t49, rfl, hT, hG⟩
       obtain ⟨t50, hX, hF⟩ := aft 0 1 0 hF hX hT hG
       refine go ?_
       refine st hF 0 rfl fun s51 hF => ?_
       refine go ?_
       refine st hF 1 rfl fun s52 hF => ?_
       refine go ?_
       have e := pur H; subst e
       exact rg [.agg [i6 x8.kind, .str x8.name, i6 x53.1, v5, v6]] ⟨_, rfl, hX, Fx.self _⟩
      ·refine go ?_
       refine cdp H (fun h H => ?_) (fun h H => ?_)
       ·refine go ?_
        obtain ⟨E, hEq⟩ : ∃ E, E = EE s35 [e0] := ⟨_, rfl⟩
        have n53 : ¬ E b10 := by rw [hEq]; exact EE.not (hF.at 0 rfl) (by simp only [List.mem_cons, List.not_mem_nil, or_false, not_or]; exact neX hF 0 rfl hX 0 rfl)
        have n54 : ¬ E b3 := by rw [hEq]; exact EE.not (hF.at 1 rfl) (by simp only [List.mem_cons, List.not_mem_nil, or_false, not_or]; exact neX hF 1 rfl hX 0 rfl)
        have n55 : ¬ E b1 := by rw [hEq]; exact EE.not (hF.at 2 rfl) (by simp only [List.mem_cons, List.not_mem_nil, or_false, not_or]; exact neX hF 2 rfl hX 0 rfl)
        refine Qa0 E [.v, .v, .v, .v, .x, .v, .x, .v, .z] (by kernel_rfl) ?_
        have z := And.intro (Qam (hF.at 0 rfl) n53) (And.intro (Qam (hF.at 1 rfl) n54) (Qam (hF.at 2 rfl) n55)); refine gh ?_
        obtain ⟨x61, hx61, H⟩ := bnd H
        refine cx (Qbq [0, 100, 1, 50] x36.2 _ hx61 e0  _ (pre 0 1 0 hF hX)) ?_
        rintro _ s56 ⟨t57, rfl, hT, hG⟩
        refine Qhi (Fx.kept hT hG (by intro p hp; simp only [List.mem_cons, List.not_mem_nil, or_false] at hp <;> first | (rcases hp with rfl <;> (rw [hEq]; first | (refine EE.of ?_; simp; done) | exact EE.new rfl))| cases hp)) fun kp59 => ?_
        obtain ⟨t58, hX, hF⟩ := aft 0 1 0 hF hX hT hG
        have z := And.intro (Qam (hF.at 0 rfl) n53) (And.intro (Qam (hF.at 1 rfl) n54) (Qam (hF.at 2 rfl) n55)); refine gh ?_
        refine Qq9 (g := cI) hF 0 H (rdo (c := true) (g := cI) (fun _ => rfl)) fun x63 H v60 s61 hF => ?_
        have z := And.intro (Qam (hF.at 0 rfl) n53) (And.intro (Qam (hF.at 1 rfl) n54) (Qam (hF.at 2 rfl) n55)); refine gh ?_
        refine st hF 0 (hF.cells 0 rfl) fun s62 hF => ?_
        have z := And.intro (Qam (hF.at 0 rfl) n53) (And.intro (Qam (hF.at 1 rfl) n54) (Qam (hF.at 2 rfl) n55)); refine gh ?_
        refine go ?_
        refine st hF 1 rfl fun s63 hF => ?_
        refine go ?_
        have e := pur H; subst e
        exact rg [.agg [i6 x8.kind, .str x8.name, i6 x8.num, v60, v6]] ⟨_, rfl, hX, Fx.self _⟩
       ·refine go ?_
        refine st hF 1 rfl fun s64 hF => ?_
        refine go ?_
        have e := pur H; subst e
        exact rg [.agg [i6 x8.kind, .str x8.name, i6 x8.num, v5, v6]] ⟨_, rfl, hX, Fx.self _⟩
  ·rw [if_neg (df q)] at H
   refine go ?_
   obtain ⟨Qk8, hx36_1, H⟩ := bnd H
   refine cx (Qa9 14 c0 _ hx36_1 e0  _ (pre 0 1 0 hF hX)) ?_
   rintro _ s65 ⟨t66, rfl, hT, hG⟩
   obtain ⟨t67, hX, hF⟩ := aft 0 1 0 hF hX hT hG
   refine go ?_
   refine cdp H (fun h H => ?_) (fun h H => ?_)
   ·refine go ?_
    obtain ⟨Qyu, hx41_1, H⟩ := bnd H
    refine cx (Qbq [0, 4, 1, 3] Qk8.2 _ hx41_1 e0  _ (pre 0 1 0 hF hX)) ?_
    rintro _ s68 ⟨t69, rfl, hT, hG⟩
    obtain ⟨tt70, hX, hF⟩ := aft 0 1 0 hF hX hT hG
    refine go ?_
    refine st hF 0 rfl fun s71 hF => ?_
    refine go ?_
    refine st hF 1 rfl fun s72 hF => ?_
    refine go ?_
    have e := pur H; subst e
    exact rg [.agg [i6 Qyu.1, .str x8.name, i6 x8.num, v5, v6]] ⟨_, rfl, hX, Fx.self _⟩
   ·refine go ?_
    refine cdp H (fun h H => ?_) (fun h H => ?_)
    ·refine go ?_
     obtain ⟨Qyv, hx47_1, H⟩ := bnd H
     refine cx (Qfy [zB, (ByteArray.mk #[65]), (ByteArray.mk #[116, 111, 111, 108, 111, 110, 103, 97, 110, 97, 109, 101, 49]), (ByteArray.mk #[122]), (ByteArray.mk #[120, 32, 121])] Qk8.2 _ hx47_1 e0  _ (pre 0 1 0 hF hX)) ?_
     rintro _ s73 ⟨t74, rfl, hT, hG⟩
     obtain ⟨tt75, hX, hF⟩ := aft 0 1 0 hF hX hT hG
     refine go ?_
     refine st hF 0 rfl fun s76 hF => ?_
     refine go ?_
     refine st hF 1 rfl fun s77 hF => ?_
     refine go ?_
     have e := pur H; subst e
     exact rg [.agg [i6 x8.kind, .str Qyv.1, i6 x8.num, v5, v6]] ⟨_, rfl, hX, Fx.self _⟩
    ·refine go ?_
     refine cdp H (fun h H => ?_) (fun h H => ?_)
     ·refine go ?_
      obtain ⟨Qyw, hx53_1, H⟩ := bnd H
      refine cx (Qbq [1000, -1, 5] Qk8.2 _ hx53_1 e0  _ (pre 0 1 0 hF hX)) ?_
      rintro _ s78 ⟨t79, rfl, hT, hG⟩
      obtain ⟨t80, hX, hF⟩ := aft 0 1 0 hF hX hT hG
      refine go ?_
      refine st hF 0 rfl fun s81 hF => ?_
      refine go ?_
      refine st hF 1 rfl fun s82 hF => ?_
      refine go ?_
      have e := pur H; subst e
      exact rg [.agg [i6 x8.kind, .str x8.name, i6 Qyw.1, v5, v6]] ⟨_, rfl, hX, Fx.self _⟩
     ·refine go ?_
      refine cdp H (fun h H => ?_) (fun h H => ?_)
      ·refine go ?_
       obtain ⟨E, hEq⟩ : ∃ E, E = EE s65 [e0] := ⟨_, rfl⟩
       have n83 : ¬ E b10 := by rw [hEq]; exact EE.not (hF.at 0 rfl) (by simp only [List.mem_cons, List.not_mem_nil, or_false, not_or]; exact neX hF 0 rfl hX 0 rfl)
       have n84 : ¬ E b3 := by rw [hEq]; exact EE.not (hF.at 1 rfl) (by simp only [List.mem_cons, List.not_mem_nil, or_false, not_or]; exact neX hF 1 rfl hX 0 rfl)
       have n85 : ¬ E b1 := by rw [hEq]; exact EE.not (hF.at 2 rfl) (by simp only [List.mem_cons, List.not_mem_nil, or_false, not_or]; exact neX hF 2 rfl hX 0 rfl)
       refine Qa0 E [.v, .v, .v, .v, .x, .v, .x, .v, .z] (by kernel_rfl) ?_
       have z := And.intro (Qam (hF.at 0 rfl) n83) (And.intro (Qam (hF.at 1 rfl) n84) (Qam (hF.at 2 rfl) n85)); refine gh ?_
       obtain ⟨Q1t, hx61_1, H⟩ := bnd H
       refine cx (Qbq [0, 100, 1, 50] Qk8.2 _ hx61_1 e0  _ (pre 0 1 0 hF hX)) ?_
       rintro _ s86 ⟨t87, rfl, hT, hG⟩
       refine Qhi (Fx.kept hT hG (by intro p hp; simp only [List.mem_cons, List.not_mem_nil, or_false] at hp <;> first | (rcases hp with rfl <;> (rw [hEq]; first | (refine EE.of ?_; simp; done) | exact EE.new rfl))| cases hp)) fun kp89 => ?_
       obtain ⟨t88, hX, hF⟩ := aft 0 1 0 hF hX hT hG
       have z := And.intro (Qam (hF.at 0 rfl) n83) (And.intro (Qam (hF.at 1 rfl) n84) (Qam (hF.at 2 rfl) n85)); refine gh ?_
       refine Qq9 (g := cI) hF 0 H (rdo (c := true) (g := cI) (fun _ => rfl)) fun Q36 H v90 s91 hF => ?_
       have z := And.intro (Qam (hF.at 0 rfl) n83) (And.intro (Qam (hF.at 1 rfl) n84) (Qam (hF.at 2 rfl) n85)); refine gh ?_
       refine st hF 0 (hF.cells 0 rfl) fun s92 hF => ?_
       have z := And.intro (Qam (hF.at 0 rfl) n83) (And.intro (Qam (hF.at 1 rfl) n84) (Qam (hF.at 2 rfl) n85)); refine gh ?_
       refine go ?_
       refine st hF 1 rfl fun s93 hF => ?_
       refine go ?_
       have e := pur H; subst e
       exact rg [.agg [i6 x8.kind, .str x8.name, i6 x8.num, v90, v6]] ⟨_, rfl, hX, Fx.self _⟩
      ·refine go ?_
       refine st hF 1 rfl fun s94 hF => ?_
       refine go ?_
       have e := pur H; subst e
       exact rg [.agg [i6 x8.kind, .str x8.name, i6 x8.num, v5, v6]] ⟨_, rfl, hX, Fx.self _⟩
theorem Qi4 : ∀ (a0 : List Int) r, Qd6 a0 = some r -> Qdz Tryz.prog 22 [sf cU a0] (.agg (Fm.cells r)) := by
 intro a0 r H
 intro ss
 unfold Qd6 at H
 refine Qaz mixed Tryz.func22 rfl (by kernel_rfl) (rs := [.cell 2 26]) rfl (by kernel_rfl) ?_
 have hF := Fx.refl ss
 have hX := Tau.none ss
 have q := dum
 have tT := dum
 refine go ?_
 refine Qad hF rfl fun b1 ss2 hF => ?_
 refine go ?_
 obtain ⟨x5, hx5, H⟩ := bnd H
 refine cx (Qm8 a0 _ hx5   _ (pre 0 0 0 hF hX)) ?_
 rintro _ s4 ⟨tt5, b3, rfl, hT, hG⟩
 have nw7 : ss2.var b3 = none := (hT.off b3 (by simp)).symm.trans (hG.var _ (List.mem_cons_self ..)).2.1
 have hF := Quc 0 0 hF hX hT hG
 refine go ?_
 obtain ⟨x12, hx12, H⟩ := bnd H
 refine cx (Qbq [3, 2, 4] x5 _ hx12 b3  _ (pre 1 0 0 hF hX)) ?_
 rintro _ s8 ⟨tt9, rfl, hT, hG⟩
 have hF := Quc 1 0 hF hX hT hG
 refine go ?_
 obtain ⟨x13, hx13, H⟩ := bnd H
 refine cx (Qnu x12.1 x12.2 _ hx13 b3  _ (pre 1 0 0 hF hX)) ?_
 rintro _ s11 ⟨t12, rfl, hT, hG⟩
 have hF := Quc 1 0 hF hX hT hG
 refine go ?_
 obtain ⟨x14, hx14, H⟩ := bnd H
 refine cx (Qna x13.1 x13.2 _ hx14 b3  _ (pre 1 0 0 hF hX)) ?_
 rintro _ s14 ⟨t15, rfl, hT, hG⟩
 have hF := Quc 1 0 hF hX hT hG
 refine go ?_
 obtain ⟨x15, hx15, H⟩ := bnd H
 refine cx (Qio x14.1 x14.2 _ hx15 b3  _ (pre 1 0 0 hF hX)) ?_
 rintro _ s17 ⟨t18, rfl, hT, hG⟩
 have hF := Quc 1 0 hF hX hT hG
 refine go ?_
 obtain ⟨x16, hx16, H⟩ := bnd H
 refine cx (Qio x15.1 x15.2 _ hx16 b3  _ (pre 1 0 0 hF hX)) ?_
 rintro _ s20 ⟨t21, rfl, hT, hG⟩
 have hF := Quc 1 0 hF hX hT hG
 refine go ?_
 refine st hF 1 rfl fun s23 hF => ?_
 refine go ?_
 have e := pur H; subst e
 exact rt [.agg [i6 x16.1.kind, .str x16.1.name, i6 x16.1.num, sf cI x16.1.sc, sf Fm.cells x16.1.kids]]
theorem Qi3 : ∀ (a0 : List Int) r, Qey a0 = some r -> Qdz Tryz.prog 9 [sf cU a0] (.agg (Fm.cells r)) := by
 intro a0 r H
 intro ss
 unfold Qey at H
 refine Qaz mixed Tryz.func9 rfl (by kernel_rfl) (rs := [.cell 2 26]) rfl (by kernel_rfl) ?_
 have hF := Fx.refl ss
 have hX := Tau.none ss
 have q := dum
 have tT := dum
 refine go ?_
 refine Qad hF rfl fun b1 ss2 hF => ?_
 refine go ?_
 obtain ⟨x4, hx4, H⟩ := bnd H
 refine cl (Qi4 a0 _ hx4) ?_
 refine go ?_
 refine st hF 0 rfl fun ss3 hF => ?_
 refine go ?_
 have e := pur H; subst e
 exact rt [.agg [i6 x4.kind, .str x4.name, i6 x4.num, sf cI x4.sc, sf Fm.cells x4.kids]]
set_option maxHeartbeats 1000000 in
set_option maxRecDepth 100000 in
theorem Q0k (s : ByteArray) (c : Int) (w : World) :
  Calls Tryz.prog 129 #[.string s, .int .u8 c] w fun e w' => e = .returned (Value.int .i64 (Lib.indexByte s.data.toList c.toNat.toUInt8)) /\ w' = w := by
 go_enter Tryz.func129, Tryz.ntmps129
 go_wp2
 rw [run_callFunc_extern Tryz.func146 (by kernel_rfl) (by kernel_rfl) (by kernel_rfl) (e := Extern.BytealgIndexByte.indexByte) (by kernel_rfl), Lib.run_indexByteString]
 simp only [Result.andThen]
 rw [Oper.upon_value]
 go_wp2
 go_ret
 exact ⟨rfl, rfl⟩
set_option maxHeartbeats 1000000 in
theorem Q3c (s : ByteArray) (c : Int) (w : World) :
  Calls Tryz.prog 107 #[.string s, .int .u8 c] w fun e w' => e = .returned (Value.int .i64 (Lib.indexByte s.data.toList c.toNat.toUInt8)) /\ w' = w := by
 go_enter Tryz.func107, Tryz.ntmps107
 go_wp2_with (go_at_call 129; refine (Q0k _ _ _).mono ?_; rintro e w' ⟨rfl, rfl⟩)
 go_ret
 exact ⟨rfl, rfl⟩
theorem Q3a {P : Program} {f : FuncId} {fn : Func} (hf : P.funcs[f]? = some fn) (hb : fn.body.isNone = false) (hn : (fn.name == "runtime.NumGoroutine") = false) {s : ByteArray} {c r : Int}
  (h : ∀ w, Calls P f #[.string s, .int .u8 c] w fun e w' => e = .returned (Value.int .i64 r) /\ w' = w) : Qdz P f [.str s, .int .u8 c] (i6 r) := by
 intro ss
 refine ⟨⟨fn, hf, hb, hn⟩, fun w cargs hsim htb hl hr => ?_⟩
 have h0 := hr 0 _ rfl
 have h1 := hr 1 _ rfl
 match cargs, hl with
 | [x, y], _ =>
  simp only [List.getD_cons_zero, List.getD_cons_succ] at h0 h1
  cases h0
  cases h1
  refine (h w).mono ?_
  rintro e w' ⟨rfl, rfl⟩
  exact ⟨_, _, ss, rfl, Step.refl _ _, hsim, .int, rfl, rfl⟩
theorem Qjl : ∀ (a0 : ByteArray) (a1 : Int) r, Qfe a0 a1 = some r -> Qdz Tryz.prog 107 [.str a0, .int .u8 a1] (i6 r) := by
 intro a0 a1 r H
 injection H with H
 subst H
 exact Q3a Tryz.func107 (by kernel_rfl) (by kernel_rfl) (Q3c a0 a1)
theorem Qec : ∀ (a0 : Int) (a1 : Int) (a2 : Int) r, Qcb a0 a1 a2 = some r -> Qdz Tryz.prog 28 [i6 a0, i6 a1, i6 a2] (.bool r) := by
 intro a0 a1 a2 r H
 intro ss
 unfold Qcb at H
 refine Qaz mixed Tryz.func28 rfl (by kernel_rfl) (rs := [.tmp 6]) rfl (by kernel_rfl) ?_
 have hF := Fx.refl ss
 have hX := Tau.none ss
 have q := dum
 have tT := dum
 refine go ?_
 obtain ⟨x14, g1, H⟩ := bnd H
 refine Qaj 3 11 14 (.bool x14) (gi q (fun q => ?_) (fun q => ?_)) (fun J => ?_)
 ·refine go ?_
  exact Qa8 11 g1
 ·refine go ?_
  exact Qa8 11 g1
 refine go ?_
 have e := pur H; subst e
 exact rt [.bool x14]
theorem Qjf : ∀ (a0 : ByteArray) (Qbr : Int) out, Qbj a0 Qbr = some out -> ∀ c, Qaq Tryz.f74 0 = some c -> ∀ (Q : AX -> AS -> Prop) (tt : Sto), (∀ (_u : Unit), out = Sum.inr () -> ∀ (T : Nat -> AV) (ss : Sto), T 0 = .str a0 -> Fx tt ss [] [] -> Q (.ex 0) ⟨T, ss⟩) -> (∀ r, out = Sum.inl r -> ∀ s', Qi9 Tryz.prog [.tmp 2] (fun r' ss' => r' = .bool r /\ ss' = tt) s' -> Q .ret s') -> ∀ (T : Nat -> AV) (ss : Sto), T 0 = .str a0 /\ T 3 = i6 Qbr -> Fx tt ss [] [] -> aLp Tryz.prog c Q ⟨T, ss⟩ := by
 intro a0 Qbr
 revert Qbr
 refine Qbj.partial_correctness a0 _ ?_
 intro Qbj IH Qbr out H c hc Q tt  hE hR T ss tT hF
 obtain rfl := lpe (rfl : Qaq Tryz.f74 0 = some _) hc
 refine Qak ?_
 have q := dum
 have hX := Tau.none tt
 refine go ?_
 refine cdp H (fun h H => ?_) (fun h H => ?_)
 ·obtain ⟨x19, f1, H⟩ := bsx H
  refine go1 ?_
  refine go ?_
  obtain ⟨x26, g3, H⟩ := bnd H
  refine Qaj 2 24 26 (.bool x26) (gi q (fun q => ?_) (fun q => ?_)) (fun J => ?_)
  ·refine go ?_
   exact Qa8 24 g3
  ·refine go ?_
   exact Qa8 24 g3
  refine go ?_
  obtain ⟨x31, g5, H⟩ := bnd H
  refine Qaj 3 28 31 (.bool x31) (giN q (fun q => ?_) (fun q => ?_)) (fun J => ?_)
  ·rw [if_neg (dbf q)] at g5
   refine go ?_
   obtain ⟨x29, hx29, g5⟩ := bnd g5
   refine cl (Qjl (ByteArray.mk #[42, 63, 61, 43, 60]) x19 _ hx29) ?_
   refine go ?_
   exact Qa8 28 g5
  ·rw [if_pos (dbt q)] at g5
   refine go ?_
   exact Qa8 28 g5
  refine go ?_
  refine cdb H (fun h H => ?_) (fun h H => ?_)
  ·refine go ?_
   exact IH  (IntKind.i64.wrap (Qbr + 1)) _ H _ rfl Q tt  hE hR _ _  S hF
  ·refine go ?_
   obtain ⟨x46, g7, H⟩ := bnd H
   refine Qaj 10 36 46 (.bool x46) (gi q (fun q => ?_) (fun q => ?_)) (fun J => ?_)
   ·rw [if_pos (dt q)] at g7
    refine go ?_
    obtain ⟨x41, g9, g7⟩ := bnd g7
    refine Qaj 2 39 41 (.bool x41) (gi q (fun q => ?_) (fun q => ?_)) (fun J => ?_)
    ·refine go ?_
     exact Qa8 39 g9
    ·refine go ?_
     exact Qa8 39 g9
    refine go ?_
    obtain ⟨x45, g11, g7⟩ := bnd g7
    refine Qaj 2 43 45 (.bool x45) (giN q (fun q => ?_) (fun q => ?_)) (fun J => ?_)
    ·refine go ?_
     exact Qa8 43 g11
    ·refine go ?_
     exact Qa8 43 g11
    refine go ?_
    exact Qa8 36 g7
   ·rw [if_neg (df q)] at g7
    refine go ?_
    exact Qa8 36 g7
   refine go ?_
   refine cdb H (fun h H => ?_) (fun h H => ?_)
   ·refine go ?_
    exact IH  (IntKind.i64.wrap (Qbr + 1)) _ H _ rfl Q tt  hE hR _ _  S hF
   ·refine go ?_
    exact wq (hR _ (pur H).symm _ (rt [.bool false]))
 ·refine go ?_
  exact wq (hE () (pur H).symm _ _  S hF)
theorem Qh9 : ∀ (a0 : ByteArray) r, Qev a0 = some r -> Qdz Tryz.prog 74 [.str a0] (.bool r) := by
 intro a0 r H
 intro ss
 unfold Qev at H
 refine Qaz mixed Tryz.func74 rfl (by kernel_rfl) (rs := [.tmp 2]) rfl (by kernel_rfl) ?_
 have hF := Fx.refl ss
 have hX := Tau.none ss
 have q := dum
 have tT := dum
 refine go ?_
 obtain ⟨x10, g1, H⟩ := bnd H
 refine Qaj 2 8 10 (.bool x10) (giN q (fun q => ?_) (fun q => ?_)) (fun J => ?_)
 ·refine go ?_
  exact Qa8 8 g1
 ·refine go ?_
  exact Qa8 8 g1
 refine go ?_
 refine cdb H (fun h H => ?_) (fun h H => ?_)
 ·refine go ?_
  have e := pur H; subst e
  exact rt [.bool true]
 ·refine go ?_
  obtain ⟨o13, ho13, H⟩ := bnd H
  refine Qjf a0 0 _ ho13 _ rfl _ _  ?_ ?_ _ _  S hF
  ·intro _ he T15 s16 tT hF
   have he := he.symm
   subst he
   try dsimp only at H
   refine go ?_
   obtain ⟨x49, hx49, H⟩ := bnd H
   refine cl (Qec (a0.size : Int) 1 12 _ hx49) ?_
   refine go ?_
   have e := pur H; subst e
   exact rt [.bool x49]
  ·intro r hr s' hs
   subst hr
   have e := pur H; subst e
   first | exact hs | (try simp only [sf, i6, zB, Fm.Qaa, Xpn.Qaa, Cor.Qaa, Bnd.Qaa, Hit.Qaa, Rul.Qaa, Mac.Qaa, Stp.Qaa, Val.Qaa] at hs ⊢; exact hs)
theorem Qkb : ∀ (a0 : List Int) (Qd8 : Int) out, Qbh a0 Qd8 = some out -> ∀ c, Qaq Tryz.f83 0 = some c -> ∀ (Q : AX -> AS -> Prop) (tt : Sto), (∀ (_u : Unit), out = Sum.inr () -> ∀ (T : Nat -> AV) (ss : Sto), T 0 = sf cI a0 -> Fx tt ss [] [] -> Q (.ex 0) ⟨T, ss⟩) -> (∀ r, out = Sum.inl r -> ∀ s', Qi9 Tryz.prog [.tmp 2] (fun r' ss' => r' = .bool r /\ ss' = tt) s' -> Q .ret s') -> ∀ (T : Nat -> AV) (ss : Sto), T 0 = sf cI a0 /\ T 5 = sf cI a0 /\ T 6 = i6 (a0.length : Int) /\ T 7 = i6 Qd8 -> Fx tt ss [] [] -> aLp Tryz.prog c Q ⟨T, ss⟩ := by
 intro a0 Qd8
 revert Qd8
 refine Qbh.partial_correctness a0 _ ?_
 intro Qbh IH Qd8 out H c hc Q tt  hE hR T ss tT hF
 obtain rfl := lpe (rfl : Qaq Tryz.f83 0 = some _) hc
 refine Qak ?_
 have q := dum
 have hX := Tau.none tt
 refine go ?_
 refine cdp H (fun h H => ?_) (fun h H => ?_)
 ·obtain ⟨x10, f1, H⟩ := bil (g := cI) (fun _ => rfl) H
  refine go1 ?_
  refine go ?_
  obtain ⟨x13, hx13, H⟩ := bnd H
  refine cl (Qec x10 1 99 _ hx13) ?_
  refine go ?_
  obtain ⟨x27, g1, H⟩ := bnd H
  refine Qaj 11 16 27 (.bool x27) (giN q (fun q => ?_) (fun q => ?_)) (fun J => ?_)
  ·rw [if_neg (dbf q)] at g1
   refine go ?_
   obtain ⟨x26, g3, g1⟩ := bnd g1
   refine Qaj 7 19 26 (.bool x26) (gi q (fun q => ?_) (fun q => ?_)) (fun J => ?_)
   ·rw [if_pos (dt q)] at g3
    obtain ⟨x22, f1, g3⟩ := bil (g := cI) (fun _ => rfl) g3
    refine go1 ?_
    refine go ?_
    exact Qa8 19 g3
   ·rw [if_neg (df q)] at g3
    refine go ?_
    exact Qa8 19 g3
   refine go ?_
   exact Qa8 16 g1
  ·rw [if_pos (dbt q)] at g1
   refine go ?_
   exact Qa8 16 g1
  refine go ?_
  refine cdb H (fun h H => ?_) (fun h H => ?_)
  ·refine go ?_
   exact wq (hR _ (pur H).symm _ (rt [.bool false]))
  ·refine go ?_
   exact IH  (IntKind.i64.wrap (Qd8 + 1)) _ H _ rfl Q tt  hE hR _ _  S hF
 ·refine go ?_
  exact wq (hE () (pur H).symm _ _  S hF)
theorem Qmb : ∀ (a0 : List Int) r, Qf8 a0 = some r -> Qdz Tryz.prog 83 [sf cI a0] (.bool r) := by
 intro a0 r H
 intro ss
 unfold Qf8 at H
 refine Qaz mixed Tryz.func83 rfl (by kernel_rfl) (rs := [.tmp 2]) rfl (by kernel_rfl) ?_
 have hF := Fx.refl ss
 have hX := Tau.none ss
 have q := dum
 have tT := dum
 refine go ?_
 obtain ⟨o5, ho5, H⟩ := bnd H
 refine Qkb a0 0 _ ho5 _ rfl _ _  ?_ ?_ _ _  S hF
 ·intro _ he T7 s8 tT hF
  have he := he.symm
  subst he
  try dsimp only at H
  refine go ?_
  have e := pur H; subst e
  exact rt [.bool (decide ((a0.length : Int) <= 24))]
 ·intro r hr s' hs
  subst hr
  have e := pur H; subst e
  first | exact hs | (try simp only [sf, i6, zB, Fm.Qaa, Xpn.Qaa, Cor.Qaa, Bnd.Qaa, Hit.Qaa, Rul.Qaa, Mac.Qaa, Stp.Qaa, Val.Qaa] at hs ⊢; exact hs)
theorem Qnr : ∀ (a0 : Fm) (a1 : Int) (c0 : Int) r, Qf1 a0 a1 c0 = some r -> ∀ (e0 : Nat)  (ss : Sto), Pre ss [(e0, ⟨3, 1, [i6 c0]⟩)] [] -> Ctr Tryz.prog 49 [.agg (Fm.cells a0), i6 a1, .ptr e0 0] ss (fun r' ss' => ∃ (tt' : Sto), r' = .bool r.1 /\ Tau (strip ss []) [(e0, ⟨3, 1, [i6 r.2]⟩)] tt' /\ Fx tt' ss' [] []) := by
 refine Qf1.partial_correctness  (motive_1 := fun a0 a1 c0 r => ∀ (e0 : Nat)  (ss : Sto), Pre ss [(e0, ⟨3, 1, [i6 c0]⟩)] [] -> Ctr Tryz.prog 49 [.agg (Fm.cells a0), i6 a1, .ptr e0 0] ss (fun r' ss' => ∃ (tt' : Sto), r' = .bool r.1 /\ Tau (strip ss []) [(e0, ⟨3, 1, [i6 r.2]⟩)] tt' /\ Fx tt' ss' [] [])) (motive_2 := fun a0 a1 Qnf Qbd out => ∀ c, Qaq Tryz.f49 0 = some c -> ∀ (Q : AX -> AS -> Prop) (tt0 : Sto) (e0 : Nat) (b1 : Nat), (∀ (Qhf : Int), out = Sum.inr Qhf -> ∀ (T : Nat -> AV) (ss : Sto) (tt : Sto), 0 + 0 = 0 -> Tau tt0 [(e0, ⟨3, 1, [i6 Qhf]⟩)] tt -> Fx tt ss [(b1, ⟨26, 5, [i6 a0.kind, .str a0.name, i6 a0.num, sf cI a0.sc, sf Fm.cells a0.kids]⟩)] [] -> Q (.ex 1) ⟨T, ss⟩) -> (∀ r, out = Sum.inl r -> ∀ s', Qi9 Tryz.prog [.tmp 6] (fun r' ss' => ∃ (tt' : Sto), r' = .bool r.1 /\ Tau tt0 [(e0, ⟨3, 1, [i6 r.2]⟩)] tt' /\ Fx tt' ss' [] []) s' -> Q .ret s') -> ∀ (T : Nat -> AV) (ss : Sto) (tt : Sto), T 1 = i6 a1 /\ T 2 = .ptr e0 0 /\ T 84 = sf Fm.cells a0.kids /\ T 85 = i6 (a0.kids.length : Int) /\ T 86 = i6 Qnf -> Tau tt0 [(e0, ⟨3, 1, [i6 Qbd]⟩)] tt -> Fx tt ss [(b1, ⟨26, 5, [i6 a0.kind, .str a0.name, i6 a0.num, sf cI a0.sc, sf Fm.cells a0.kids]⟩)] [] -> aLp Tryz.prog c Q ⟨T, ss⟩) ?_ ?_
 ·intro Qea L0 a0 a1 c0 r H
  intro e0  ss hP
  refine Qaz mixed Tryz.func49 rfl (by kernel_rfl) (rs := [.tmp 6]) rfl (by kernel_rfl) ?_
  obtain ⟨hF, hX⟩ := hP.start
  generalize strip ss [] = tt0 at hF hX ⊢
  have q := dum
  have tT := dum
  refine go ?_
  refine Qad hF rfl fun b1 ss2 hF => ?_
  refine go ?_
  refine stT hF hX 0 rfl fun tt4 ss3 hF hX => ?_
  refine go ?_
  obtain ⟨x21, g5, H⟩ := bnd H
  refine Qaj 2 19 21 (.bool x21) (giN q (fun q => ?_) (fun q => ?_)) (fun J => ?_)
  ·refine go ?_
   exact Qa8 19 g5
  ·refine go ?_
   exact Qa8 19 g5
  refine go ?_
  refine cdb H (fun h H => ?_) (fun h H => ?_)
  ·refine go ?_
   have e := pur H; subst e
   exact rg [.bool false] ⟨_, rfl, hX, Fx.self _⟩
  ·refine go ?_
   refine cdp H (fun h H => ?_) (fun h H => ?_)
   ·refine go ?_
    obtain ⟨x28, hx28, H⟩ := bnd H
    refine cl (Qh9 a0.name _ hx28) ?_
    refine go ?_
    obtain ⟨x33, g7, H⟩ := bnd H
    refine Qaj 3 30 33 (.bool x33) (gi q (fun q => ?_) (fun q => ?_)) (fun J => ?_)
    ·refine go ?_
     exact Qa8 30 g7
    ·refine go ?_
     exact Qa8 30 g7
    refine go ?_
    obtain ⟨x38, g9, H⟩ := bnd H
    refine Qaj 3 35 38 (.bool x38) (gi q (fun q => ?_) (fun q => ?_)) (fun J => ?_)
    ·rw [if_pos (dbt q)] at g9
     refine go ?_
     obtain ⟨x37, hx37, g9⟩ := bnd g9
     refine cl (Qmb a0.sc _ hx37) ?_
     refine go ?_
     exact Qa8 35 g9
    ·rw [if_neg (dbf q)] at g9
     refine go ?_
     exact Qa8 35 g9
    refine go ?_
    obtain ⟨x44, g11, H⟩ := bnd H
    refine Qaj 4 40 44 (.bool x44) (gi q (fun q => ?_) (fun q => ?_)) (fun J => ?_)
    ·refine go ?_
     exact Qa8 40 g11
    ·refine go ?_
     exact Qa8 40 g11
    refine go ?_
    have e := pur H; subst e
    exact rg [.bool x44] ⟨_, rfl, hX, Fx.self _⟩
   ·refine go ?_
    refine cdp H (fun h H => ?_) (fun h H => ?_)
    ·refine go ?_
     obtain ⟨x54, g13, H⟩ := bnd H
     refine Qaj 3 51 54 (.bool x54) (gi q (fun q => ?_) (fun q => ?_)) (fun J => ?_)
     ·rw [if_pos (dt q)] at g13
      refine go ?_
      obtain ⟨x53, hx53, g13⟩ := bnd g13
      refine cl (Qec a0.num 0 999 _ hx53) ?_
      refine go ?_
      exact Qa8 51 g13
     ·rw [if_neg (df q)] at g13
      refine go ?_
      exact Qa8 51 g13
     refine go ?_
     obtain ⟨x60, g15, H⟩ := bnd H
     refine Qaj 4 56 60 (.bool x60) (gi q (fun q => ?_) (fun q => ?_)) (fun J => ?_)
     ·refine go ?_
      exact Qa8 56 g15
     ·refine go ?_
      exact Qa8 56 g15
     refine go ?_
     obtain ⟨x66, g17, H⟩ := bnd H
     refine Qaj 4 62 66 (.bool x66) (gi q (fun q => ?_) (fun q => ?_)) (fun J => ?_)
     ·refine go ?_
      exact Qa8 62 g17
     ·refine go ?_
      exact Qa8 62 g17
     refine go ?_
     have e := pur H; subst e
     exact rg [.bool x66] ⟨_, rfl, hX, Fx.self _⟩
    ·refine go ?_
     refine cdp H (fun h H => ?_) (fun h H => ?_)
     ·refine go ?_
      obtain ⟨x76, g19, H⟩ := bnd H
      refine Qaj 3 73 76 (.bool x76) (giN q (fun q => ?_) (fun q => ?_)) (fun J => ?_)
      ·refine go ?_
       exact Qa8 73 g19
      ·refine go ?_
       exact Qa8 73 g19
      refine go ?_
      obtain ⟨x82, g21, H⟩ := bnd H
      refine Qaj 4 78 82 (.bool x82) (giN q (fun q => ?_) (fun q => ?_)) (fun J => ?_)
      ·refine go ?_
       exact Qa8 78 g21
      ·refine go ?_
       exact Qa8 78 g21
      refine go ?_
      refine cdb H (fun h H => ?_) (fun h H => ?_)
      ·refine go ?_
       have e := pur H; subst e
       exact rg [.bool false] ⟨_, rfl, hX, Fx.self _⟩
      ·refine go ?_
       obtain ⟨o29, ho29, H⟩ := bnd H
       refine L0 a0 a1 0 (IntKind.i64.wrap (c0 - 1)) _ ho29 _ rfl _ tt0 e0 b1 ?_ ?_ _ _ _  S hX hF
       ·intro Qri he T31 s32 t33 tT hX hF
        have he := he.symm
        subst he
        try dsimp only at H
        refine go ?_
        have e := pur H; subst e
        exact rg [.bool true] ⟨_, rfl, hX, Fx.self _⟩
       ·intro r hr s' hs
        subst hr
        have e := pur H; subst e
        first | exact hs | (try simp only [sf, i6, zB, Fm.Qaa, Xpn.Qaa, Cor.Qaa, Bnd.Qaa, Hit.Qaa, Rul.Qaa, Mac.Qaa, Stp.Qaa, Val.Qaa] at hs ⊢; exact hs)
     ·refine go ?_
      have e := pur H; subst e
      exact rg [.bool false] ⟨_, rfl, hX, Fx.self _⟩
 ·intro Qf1 Qea C0 L0 a0 a1 Qnf Qbd out H c hc Q tt0 e0 b1 hE hR T ss tt tT hX hF
  obtain rfl := lpe (rfl : Qaq Tryz.f49 0 = some _) hc
  refine Qak ?_
  have q := dum
  refine go ?_
  refine cdp H (fun h H => ?_) (fun h H => ?_)
  ·obtain ⟨x88, f1, H⟩ := bil (g := Fm.cells) Fm.Qac H
   refine go1 ?_
   refine Qad hF rfl fun b23 s24 hF => ?_
   refine go ?_
   refine st hF 0 rfl fun s25 hF => ?_
   refine go ?_
   obtain ⟨x94, hx94, H⟩ := bnd H
   refine cx (C0 x88 (IntKind.i64.wrap (a1 + 1)) Qbd _ hx94 e0  _ (pre 0 1 0 hF hX)) ?_
   rintro _ s26 ⟨t27, rfl, hT, hG⟩
   obtain ⟨t28, hX, hF⟩ := aft 0 1 0 hF hX hT hG
   refine go ?_
   refine cdb H (fun h H => ?_) (fun h H => ?_)
   ·refine go ?_
    exact wq (hR _ (pur H).symm _ (rg [.bool false] ⟨_, rfl, hX, Fx.self _⟩))
   ·refine go ?_
    exact L0 a0 a1 (IntKind.i64.wrap (Qnf + 1)) x94.2 _ H _ rfl Q tt0 e0 b1 hE hR _ _ _  S hX (hF.drop 1 0)
  ·refine go ?_
   exact wq (hE _ (pur H).symm _ _ _  S hX hF)
theorem Qfa : ∀ (a0 : Fm) r, Qcs a0 = some r -> Qdz Tryz.prog 23 [.agg (Fm.cells a0)] (.bool r) := by
 intro a0 r H
 intro ss
 unfold Qcs at H
 refine Qaz mixed Tryz.func23 rfl (by kernel_rfl) (rs := [.tmp 2]) rfl (by kernel_rfl) ?_
 have hF := Fx.refl ss
 have hX := Tau.none ss
 have q := dum
 have tT := dum
 refine go ?_
 refine Qad hF rfl fun b1 ss2 hF => ?_
 refine go ?_
 refine Qad hF rfl fun b3 s4 hF => ?_
 refine go ?_
 refine st hF 0 rfl fun s5 hF => ?_
 refine go ?_
 obtain ⟨x5, hx5, H⟩ := bnd H
 refine cx (Qnr a0 1 400 _ hx5 b3  _ (pre 1 0 0 hF hX)) ?_
 rintro _ s6 ⟨t7, rfl, hT, hG⟩
 have hF := Quc 1 0 hF hX hT hG
 refine go ?_
 have e := pur H; subst e
 exact rt [.bool x5.1]
theorem Qib : ∀ (a0 : Fm) r, Qcu a0 = some r -> Qdz Tryz.prog 24 [.agg (Fm.cells a0)] (.agg (Val.cells r)) := by
 refine Qcu.partial_correctness  (motive_1 := fun a0 r => Qdz Tryz.prog 24 [.agg (Fm.cells a0)] (.agg (Val.cells r))) (motive_2 := fun a0 Qag Qjs out => ∀ c, Qaq Tryz.f24 0 = some c -> ∀ (Q : AX -> AS -> Prop) (tt : Sto) (b1 : Nat) (b3 : Nat) (b7 : Nat), (∀ (Qeh : List Val), out = Qeh -> ∀ (T : Nat -> AV) (ss : Sto) (e0v0 : AV), T 2 = .ptr b3 0 /\ T 3 = .ptr b7 0 -> Fx tt ss [(b7, ⟨34, 16, [i6 3, i6 0, .str zB, e0v0, i6 0, i6 0, .str zB, i6 0, .Qab, i6 0, .str zB, i6 0, .Qab, .Qab, .Qab, .Qab]⟩), (b3, ⟨34, 16, [i6 0, i6 0, .str zB, .Qab, i6 0, i6 0, .str zB, i6 0, .Qab, i6 0, .str zB, i6 0, .Qab, .Qab, .Qab, .Qab]⟩), (b1, ⟨26, 5, [i6 a0.kind, .str a0.name, i6 a0.num, sf cI a0.sc, sf Fm.cells a0.kids]⟩)] [⟨e0v0, 34, 16, rws Val.cells Qeh⟩] -> Q (.ex 1) ⟨T, ss⟩) -> True -> ∀ (T : Nat -> AV) (ss : Sto) (z0v0 : AV), T 2 = .ptr b3 0 /\ T 3 = .ptr b7 0 /\ T 20 = sf Fm.cells a0.kids /\ T 21 = i6 (a0.kids.length : Int) /\ T 22 = i6 Qjs -> Fx tt ss [(b7, ⟨34, 16, [i6 3, i6 0, .str zB, z0v0, i6 0, i6 0, .str zB, i6 0, .Qab, i6 0, .str zB, i6 0, .Qab, .Qab, .Qab, .Qab]⟩), (b3, ⟨34, 16, [i6 0, i6 0, .str zB, .Qab, i6 0, i6 0, .str zB, i6 0, .Qab, i6 0, .str zB, i6 0, .Qab, .Qab, .Qab, .Qab]⟩), (b1, ⟨26, 5, [i6 a0.kind, .str a0.name, i6 a0.num, sf cI a0.sc, sf Fm.cells a0.kids]⟩)] [⟨z0v0, 34, 16, rws Val.cells Qag⟩] -> aLp Tryz.prog c Q ⟨T, ss⟩) ?_ ?_
 ·intro Qb2 L0 a0 r H
  intro ss
  refine Qaz mixed Tryz.func24 rfl (by kernel_rfl) (rs := [.cell 2 34]) rfl (by kernel_rfl) ?_
  have hF := Fx.refl ss
  have hX := Tau.none ss
  have q := dum
  have tT := dum
  refine go ?_
  refine Qad hF rfl fun b1 ss2 hF => ?_
  refine go ?_
  refine Qad hF rfl fun b3 s4 hF => ?_
  refine go ?_
  refine cdp H (fun h H => ?_) (fun h H => ?_)
  ·refine go ?_
   refine st hF 0 rfl fun s5 hF => ?_
   refine go ?_
   have e := pur H; subst e
   exact rt [.agg [i6 1, i6 a0.num, .str zB, .Qab, i6 0, i6 0, .str zB, i6 0, .Qab, i6 0, .str zB, i6 0, .Qab, .Qab, .Qab, .Qab]]
  ·refine go ?_
   refine cdp H (fun h H => ?_) (fun h H => ?_)
   ·refine go ?_
    refine st hF 0 rfl fun s6 hF => ?_
    refine go ?_
    have e := pur H; subst e
    exact rt [.agg [i6 2, i6 0, .str a0.name, .Qab, i6 0, i6 0, .str zB, i6 0, .Qab, i6 0, .str zB, i6 0, .Qab, .Qab, .Qab, .Qab]]
   ·refine go ?_
    refine Qad hF rfl fun b7 s8 hF => ?_
    refine go ?_
    refine st hF 0 rfl fun s9 hF => ?_
    have hF := hF.nil 34 16
    refine go ?_
    obtain ⟨o16, ho16, H⟩ := bnd H
    refine L0 a0 [] 0 _ ho16 _ rfl _ _ b1 b3 b7 ?_ ?_ _ _ .Qab S hF
    ·intro Qyz he T18 s19 e17v0 tT hF
     have he := he.symm
     subst he
     refine go ?_
     refine st hF 1 rfl fun s21 hF => ?_
     refine go ?_
     have e := pur H; subst e
     exact rt [.agg [i6 3, i6 0, .str zB, e17v0, i6 0, i6 0, .str zB, i6 0, .Qab, i6 0, .str zB, i6 0, .Qab, .Qab, .Qab, .Qab]]
    ·trivial
 ·intro Qcu Qb2 C0 L0 a0 Qag Qjs out H c hc Q tt b1 b3 b7 hE hR T ss z0v0 tT hF
  obtain rfl := lpe (rfl : Qaq Tryz.f24 0 = some _) hc
  refine Qak ?_
  have q := dum
  have hX := Tau.none tt
  refine go ?_
  refine cdp H (fun h H => ?_) (fun h H => ?_)
  ·obtain ⟨x24, f1, H⟩ := bil (g := Fm.cells) Fm.Qac H
   refine go1 ?_
   refine Qad hF rfl fun b10 s11 hF => ?_
   refine go ?_
   refine st hF 0 rfl fun s12 hF => ?_
   refine go ?_
   refine Qa0 E0 [.v, .v, .v, .v, .v, .x, .v, .z] (by kernel_rfl) ?_
   refine go ?_
   obtain ⟨x29, hx29, H⟩ := bnd H
   refine cv (C0 x24 _ hx29) ?_
   refine go ?_
   refine Qq9 (g := Val.cells) hF 0 H (rdo (c := true) (g := Val.cells) Val.Qac) fun x31 H v13 s14 hF => ?_
   refine go ?_
   refine st hF 1 (hF.cells 0 rfl) fun s15 hF => ?_
   refine go ?_
   exact L0 a0 x31 (IntKind.i64.wrap (Qjs + 1)) _ H _ rfl Q tt b1 b3 b7 hE hR _ _ v13 S (hF.drop 1 0)
  ·refine go ?_
   exact wq (hE _ (pur H).symm _ _ z0v0 S hF)
theorem Qli : ∀ (a0 : Fm) r, Qgr a0 = some r -> Qdz Tryz.prog 10 [.agg (Fm.cells a0)] (.tup [.agg (Val.cells r.1), .bool r.2]) := by
 intro a0 r H
 intro ss
 unfold Qgr at H
 refine Qaz mixed Tryz.func10 rfl (by kernel_rfl) (rs := [.cell 2 34, .tmp 3]) rfl (by kernel_rfl) ?_
 have hF := Fx.refl ss
 have hX := Tau.none ss
 have q := dum
 have tT := dum
 refine go ?_
 refine Qad hF rfl fun b1 ss2 hF => ?_
 refine go ?_
 refine Qad hF rfl fun b3 s4 hF => ?_
 refine go ?_
 obtain ⟨x5, hx5, H⟩ := bnd H
 refine cl (Qfa a0 _ hx5) ?_
 refine go ?_
 refine cdb H (fun h H => ?_) (fun h H => ?_)
 ·refine go ?_
  refine st hF 0 rfl fun s5 hF => ?_
  refine go ?_
  have e := pur H; subst e
  exact rt [.agg [i6 0, i6 0, .str zB, .Qab, i6 0, i6 0, .str zB, i6 0, .Qab, i6 0, .str zB, i6 0, .Qab, .Qab, .Qab, .Qab], .bool false]
 ·refine go ?_
  obtain ⟨x9, hx9, H⟩ := bnd H
  refine cl (Qib a0 _ hx9) ?_
  refine go ?_
  refine st hF 0 rfl fun s6 hF => ?_
  refine go ?_
  have e := pur H; subst e
  exact rt [.agg [i6 x9.kind, i6 x9.num, .str x9.name, sf Val.cells x9.items, i6 x9.fn.kind, i6 x9.fn.id, .str x9.fn.name, i6 x9.fn.num, sf cI x9.fn.ids, i6 x9.fn.data.kind, .str x9.fn.data.name, i6 x9.fn.data.num, sf cI x9.fn.data.sc, sf Fm.cells x9.fn.data.kids, sf Cor.cells x9.fn.kids, sf Slt.cells x9.env], .bool true]
theorem Qmf : ∀ (a0 : Int) (a1 : Bool) r, Qgd a0 a1 = some r -> Qdz Tryz.prog 113 [.int .u8 a0, .bool a1] (.bool r) := by
 intro a0 a1 r H
 intro ss
 unfold Qgd at H
 refine Qaz mixed Tryz.func113 rfl (by kernel_rfl) (rs := [.tmp 4]) rfl (by kernel_rfl) ?_
 have hF := Fx.refl ss
 have hX := Tau.none ss
 have q := dum
 have tT := dum
 refine go ?_
 obtain ⟨x10, g1, H⟩ := bnd H
 refine Qaj 2 8 10 (.bool x10) (gi q (fun q => ?_) (fun q => ?_)) (fun J => ?_)
 ·refine go ?_
  exact Qa8 8 g1
 ·refine go ?_
  exact Qa8 8 g1
 refine go ?_
 obtain ⟨x14, g3, H⟩ := bnd H
 refine Qaj 2 12 14 (.bool x14) (giN q (fun q => ?_) (fun q => ?_)) (fun J => ?_)
 ·refine go ?_
  exact Qa8 12 g3
 ·refine go ?_
  exact Qa8 12 g3
 refine go ?_
 obtain ⟨x18, g5, H⟩ := bnd H
 refine Qaj 2 16 18 (.bool x18) (giN q (fun q => ?_) (fun q => ?_)) (fun J => ?_)
 ·refine go ?_
  exact Qa8 16 g5
 ·refine go ?_
  exact Qa8 16 g5
 refine go ?_
 obtain ⟨x22, g7, H⟩ := bnd H
 refine Qaj 2 20 22 (.bool x22) (giN q (fun q => ?_) (fun q => ?_)) (fun J => ?_)
 ·refine go ?_
  exact Qa8 20 g7
 ·refine go ?_
  exact Qa8 20 g7
 refine go ?_
 obtain ⟨x26, g9, H⟩ := bnd H
 refine Qaj 2 24 26 (.bool x26) (giN q (fun q => ?_) (fun q => ?_)) (fun J => ?_)
 ·refine go ?_
  exact Qa8 24 g9
 ·refine go ?_
  exact Qa8 24 g9
 refine go ?_
 obtain ⟨x30, g11, H⟩ := bnd H
 refine Qaj 2 28 30 (.bool x30) (giN q (fun q => ?_) (fun q => ?_)) (fun J => ?_)
 ·refine go ?_
  exact Qa8 28 g11
 ·refine go ?_
  exact Qa8 28 g11
 refine go ?_
 refine cdb H (fun h H => ?_) (fun h H => ?_)
 ·refine go ?_
  have e := pur H; subst e
  exact rt [.bool true]
 ·refine go ?_
  obtain ⟨x44, g13, H⟩ := bnd H
  refine Qaj 10 34 44 (.bool x44) (gi q (fun q => ?_) (fun q => ?_)) (fun J => ?_)
  ·rw [if_pos (dbt q)] at g13
   refine go ?_
   obtain ⟨x39, g15, g13⟩ := bnd g13
   refine Qaj 2 37 39 (.bool x39) (gi q (fun q => ?_) (fun q => ?_)) (fun J => ?_)
   ·refine go ?_
    exact Qa8 37 g15
   ·refine go ?_
    exact Qa8 37 g15
   refine go ?_
   obtain ⟨x43, g17, g13⟩ := bnd g13
   refine Qaj 2 41 43 (.bool x43) (giN q (fun q => ?_) (fun q => ?_)) (fun J => ?_)
   ·refine go ?_
    exact Qa8 41 g17
   ·refine go ?_
    exact Qa8 41 g17
   refine go ?_
   exact Qa8 34 g13
  ·rw [if_neg (dbf q)] at g13
   refine go ?_
   exact Qa8 34 g13
  refine go ?_
  have e := pur H; subst e
  exact rt [.bool x44]
theorem Qjk : ∀ (a0 : ByteArray) (Qbr : Int) out, Qb4 a0 Qbr = some out -> ∀ c, Qaq Tryz.f84 0 = some c -> ∀ (Q : AX -> AS -> Prop) (tt : Sto), (∀ (_u : Unit), out = Sum.inr () -> ∀ (T : Nat -> AV) (ss : Sto), T 0 = .str a0 -> Fx tt ss [] [] -> Q (.ex 0) ⟨T, ss⟩) -> (∀ r, out = Sum.inl r -> ∀ s', Qi9 Tryz.prog [.tmp 2] (fun r' ss' => r' = .bool r /\ ss' = tt) s' -> Q .ret s') -> ∀ (T : Nat -> AV) (ss : Sto), T 0 = .str a0 /\ T 3 = i6 Qbr -> Fx tt ss [] [] -> aLp Tryz.prog c Q ⟨T, ss⟩ := by
 intro a0 Qbr
 revert Qbr
 refine Qb4.partial_correctness a0 _ ?_
 intro Qb4 IH Qbr out H c hc Q tt  hE hR T ss tT hF
 obtain rfl := lpe (rfl : Qaq Tryz.f84 0 = some _) hc
 refine Qak ?_
 have q := dum
 have hX := Tau.none tt
 refine go ?_
 obtain ⟨x17, g3, H⟩ := bnd H
 refine Qaj 2 15 17 (.bool x17) (gi q (fun q => ?_) (fun q => ?_)) (fun J => ?_)
 ·refine go ?_
  exact Qa8 15 g3
 ·refine go ?_
  exact Qa8 15 g3
 refine go ?_
 refine cdb H (fun h H => ?_) (fun h H => ?_)
 ·obtain ⟨x22, f1, H⟩ := bsx H
  refine go1 ?_
  obtain ⟨x25, hx25, H⟩ := bnd H
  refine cl (Qmf x22 (decide (Qbr = 0)) _ hx25) ?_
  refine go ?_
  refine cdb H (fun h H => ?_) (fun h H => ?_)
  ·refine go ?_
   exact wq (hR _ (pur H).symm _ (rt [.bool false]))
  ·refine go ?_
   exact IH  (IntKind.i64.wrap (Qbr + 1)) _ H _ rfl Q tt  hE hR _ _  S hF
 ·refine go ?_
  exact wq (hE () (pur H).symm _ _  S hF)
theorem Qlr : ∀ (a0 : ByteArray) r, Qfr a0 = some r -> Qdz Tryz.prog 84 [.str a0] (.bool r) := by
 intro a0 r H
 intro ss
 unfold Qfr at H
 refine Qaz mixed Tryz.func84 rfl (by kernel_rfl) (rs := [.tmp 2]) rfl (by kernel_rfl) ?_
 have hF := Fx.refl ss
 have hX := Tau.none ss
 have q := dum
 have tT := dum
 refine go ?_
 obtain ⟨x9, g1, H⟩ := bnd H
 refine Qaj 2 7 9 (.bool x9) (giN q (fun q => ?_) (fun q => ?_)) (fun J => ?_)
 ·refine go ?_
  exact Qa8 7 g1
 ·refine go ?_
  exact Qa8 7 g1
 refine go ?_
 refine cdb H (fun h H => ?_) (fun h H => ?_)
 ·refine go ?_
  have e := pur H; subst e
  exact rt [.bool true]
 ·refine go ?_
  obtain ⟨o5, ho5, H⟩ := bnd H
  refine Qjk a0 0 _ ho5 _ rfl _ _  ?_ ?_ _ _  S hF
  ·intro _ he T7 s8 tT hF
   have he := he.symm
   subst he
   try dsimp only at H
   refine go ?_
   obtain ⟨x34, g10, H⟩ := bnd H
   refine Qaj 3 31 34 (.bool x34) (gi q (fun q => ?_) (fun q => ?_)) (fun J => ?_)
   ·refine go ?_
    exact Qa8 31 g10
   ·refine go ?_
    exact Qa8 31 g10
   refine go ?_
   have e := pur H; subst e
   exact rt [.bool x34]
  ·intro r hr s' hs
   subst hr
   have e := pur H; subst e
   first | exact hs | (try simp only [sf, i6, zB, Fm.Qaa, Xpn.Qaa, Cor.Qaa, Bnd.Qaa, Hit.Qaa, Rul.Qaa, Mac.Qaa, Stp.Qaa, Val.Qaa] at hs ⊢; exact hs)
theorem Qki : ∀ (a0 : List Int) (Qbr : Int) out, Qck a0 Qbr = some out -> ∀ c, Qaq Tryz.f85 0 = some c -> ∀ (Q : AX -> AS -> Prop) (tt : Sto), (∀ (_u : Unit), out = Sum.inr () -> ∀ (T : Nat -> AV) (ss : Sto), T 0 = sf cI a0 -> Fx tt ss [] [] -> Q (.ex 0) ⟨T, ss⟩) -> (∀ r, out = Sum.inl r -> ∀ s', Qi9 Tryz.prog [.tmp 2] (fun r' ss' => r' = .bool r /\ ss' = tt) s' -> Q .ret s') -> ∀ (T : Nat -> AV) (ss : Sto), T 0 = sf cI a0 /\ T 3 = i6 Qbr -> Fx tt ss [] [] -> aLp Tryz.prog c Q ⟨T, ss⟩ := by
 intro a0 Qbr
 revert Qbr
 refine Qck.partial_correctness a0 _ ?_
 intro Qck IH Qbr out H c hc Q tt  hE hR T ss tT hF
 obtain rfl := lpe (rfl : Qaq Tryz.f85 0 = some _) hc
 refine Qak ?_
 have q := dum
 have hX := Tau.none tt
 refine go ?_
 obtain ⟨x11, g1, H⟩ := bnd H
 refine Qaj 2 9 11 (.bool x11) (gi q (fun q => ?_) (fun q => ?_)) (fun J => ?_)
 ·refine go ?_
  exact Qa8 9 g1
 ·refine go ?_
  exact Qa8 9 g1
 refine go ?_
 refine cdb H (fun h H => ?_) (fun h H => ?_)
 ·refine go ?_
  refine Qa0 E0 [.v, .v, .v, .v, .v, .v, .v, .v, .v, .v, .v, .v, .v, .v, .v, .v, .v, .v, .v, .v, .v, .v, .v, .v, .v, .v, .v, .v] (by kernel_rfl) ?_
  obtain ⟨x16, f1, H⟩ := bil (g := cI) (fun _ => rfl) H
  refine go1 ?_
  obtain ⟨x25, g3, H⟩ := bnd H
  refine Qgh 5 20 25 (.bool x25) (tiN q (fun q => ?_) (fun q => ?_)) (fun J => ?_)
  ·rw [if_neg (df q)] at g3
   obtain ⟨x22, f1, g3⟩ := bil (g := cI) (fun _ => rfl) g3
   refine go1 ?_
   refine go ?_
   exact Qa8 20 g3
  ·rw [if_pos (dt q)] at g3
   refine go ?_
   exact Qa8 20 g3
  refine go ?_
  obtain ⟨x41, g5, H⟩ := bnd H
  refine Qgh 14 27 41 (.bool x41) (tiN q (fun q => ?_) (fun q => ?_)) (fun J => ?_)
  ·rw [if_neg (dbf q)] at g5
   refine go ?_
   obtain ⟨x40, g7, g5⟩ := bnd g5
   refine Qgh 10 30 40 (.bool x40) (ti q (fun q => ?_) (fun q => ?_)) (fun J => ?_)
   ·rw [if_pos (dt q)] at g7
    obtain ⟨x32, f1, g7⟩ := bil (g := cI) (fun _ => rfl) g7
    obtain ⟨x37, f2, g7⟩ := bil (g := cI) (fun _ => rfl) g7
    refine go2 ?_
    refine go ?_
    exact Qa8 30 g7
   ·rw [if_neg (df q)] at g7
    refine go ?_
    exact Qa8 30 g7
   refine go ?_
   exact Qa8 27 g5
  ·rw [if_pos (dbt q)] at g5
   refine go ?_
   exact Qa8 27 g5
  refine go ?_
  refine cdb H (fun h H => ?_) (fun h H => ?_)
  ·refine go ?_
   exact wq (hR _ (pur H).symm _ (rt [.bool false]))
  ·refine go ?_
   exact IH  (IntKind.i64.wrap (Qbr + 1)) _ H _ rfl Q tt  hE hR _ _  S hF
 ·refine go ?_
  exact wq (hE () (pur H).symm _ _  S hF)
theorem Qmg : ∀ (a0 : List Int) r, Qge a0 = some r -> Qdz Tryz.prog 85 [sf cI a0] (.bool r) := by
 intro a0 r H
 intro ss
 unfold Qge at H
 refine Qaz mixed Tryz.func85 rfl (by kernel_rfl) (rs := [.tmp 2]) rfl (by kernel_rfl) ?_
 have hF := Fx.refl ss
 have hX := Tau.none ss
 have q := dum
 have tT := dum
 refine go ?_
 obtain ⟨o9, ho9, H⟩ := bnd H
 refine Qki a0 0 _ ho9 _ rfl _ _  ?_ ?_ _ _  S hF
 ·intro _ he T11 s12 tT hF
  have he := he.symm
  subst he
  try dsimp only at H
  refine go ?_
  have e := pur H; subst e
  exact rt [.bool (decide ((a0.length : Int) <= 24))]
 ·intro r hr s' hs
  subst hr
  have e := pur H; subst e
  first | exact hs | (try simp only [sf, i6, zB, Fm.Qaa, Xpn.Qaa, Cor.Qaa, Bnd.Qaa, Hit.Qaa, Rul.Qaa, Mac.Qaa, Stp.Qaa, Val.Qaa] at hs ⊢; exact hs)
theorem Qpu : ∀ (a0 : Fm) (a1 : Int) r, Qgw a0 a1 = some r -> Qdz Tryz.prog 50 [.agg (Fm.cells a0), i6 a1] (.bool r) := by
 refine Qgw.partial_correctness  (motive_1 := fun a0 a1 r => Qdz Tryz.prog 50 [.agg (Fm.cells a0), i6 a1] (.bool r)) (motive_2 := fun a0 a1 Qq3 out => ∀ c, Qaq Tryz.f50 0 = some c -> ∀ (Q : AX -> AS -> Prop) (tt : Sto) (b1 : Nat), (∀ (_u : Unit), out = Sum.inr () -> ∀ (T : Nat -> AV) (ss : Sto), 0 + 0 = 0 -> Fx tt ss [(b1, ⟨26, 5, [i6 a0.kind, .str a0.name, i6 a0.num, sf cI a0.sc, sf Fm.cells a0.kids]⟩)] [] -> Q (.ex 1) ⟨T, ss⟩) -> (∀ r, out = Sum.inl r -> ∀ s', Qi9 Tryz.prog [.tmp 4] (fun r' ss' => r' = .bool r /\ ss' = tt) s' -> Q .ret s') -> ∀ (T : Nat -> AV) (ss : Sto), T 1 = i6 a1 /\ T 2 = .ptr b1 0 /\ T 5 = i6 Qq3 -> Fx tt ss [(b1, ⟨26, 5, [i6 a0.kind, .str a0.name, i6 a0.num, sf cI a0.sc, sf Fm.cells a0.kids]⟩)] [] -> aLp Tryz.prog c Q ⟨T, ss⟩) ?_ ?_
 ·intro Qe6 L0 a0 a1 r H
  intro ss
  refine Qaz mixed Tryz.func50 rfl (by kernel_rfl) (rs := [.tmp 4]) rfl (by kernel_rfl) ?_
  have hF := Fx.refl ss
  have hX := Tau.none ss
  have q := dum
  have tT := dum
  refine go ?_
  refine Qad hF rfl fun b1 ss2 hF => ?_
  refine go ?_
  refine cdp H (fun h H => ?_) (fun h H => ?_)
  ·refine go ?_
   have e := pur H; subst e
   exact rt [.bool false]
  ·refine go ?_
   refine cdp H (fun h H => ?_) (fun h H => ?_)
   ·refine go ?_
    obtain ⟨x14, hx14, H⟩ := bnd H
    refine cl (Qlr a0.name _ hx14) ?_
    refine go ?_
    obtain ⟨x19, g3, H⟩ := bnd H
    refine Qaj 3 16 19 (.bool x19) (gi q (fun q => ?_) (fun q => ?_)) (fun J => ?_)
    ·refine go ?_
     exact Qa8 16 g3
    ·refine go ?_
     exact Qa8 16 g3
    refine go ?_
    obtain ⟨x24, g5, H⟩ := bnd H
    refine Qaj 3 21 24 (.bool x24) (gi q (fun q => ?_) (fun q => ?_)) (fun J => ?_)
    ·rw [if_pos (dbt q)] at g5
     refine go ?_
     obtain ⟨x23, hx23, g5⟩ := bnd g5
     refine cl (Qmg a0.sc _ hx23) ?_
     refine go ?_
     exact Qa8 21 g5
    ·rw [if_neg (dbf q)] at g5
     refine go ?_
     exact Qa8 21 g5
    refine go ?_
    obtain ⟨x30, g7, H⟩ := bnd H
    refine Qaj 4 26 30 (.bool x30) (gi q (fun q => ?_) (fun q => ?_)) (fun J => ?_)
    ·refine go ?_
     exact Qa8 26 g7
    ·refine go ?_
     exact Qa8 26 g7
    refine go ?_
    have e := pur H; subst e
    exact rt [.bool x30]
   ·refine go ?_
    refine cdp H (fun h H => ?_) (fun h H => ?_)
    ·refine go ?_
     obtain ⟨x40, g9, H⟩ := bnd H
     refine Qaj 3 37 40 (.bool x40) (gi q (fun q => ?_) (fun q => ?_)) (fun J => ?_)
     ·refine go ?_
      exact Qa8 37 g9
     ·refine go ?_
      exact Qa8 37 g9
     refine go ?_
     obtain ⟨x45, g11, H⟩ := bnd H
     refine Qaj 3 42 45 (.bool x45) (gi q (fun q => ?_) (fun q => ?_)) (fun J => ?_)
     ·refine go ?_
      exact Qa8 42 g11
     ·refine go ?_
      exact Qa8 42 g11
     refine go ?_
     obtain ⟨x51, g13, H⟩ := bnd H
     refine Qaj 4 47 51 (.bool x51) (gi q (fun q => ?_) (fun q => ?_)) (fun J => ?_)
     ·refine go ?_
      exact Qa8 47 g13
     ·refine go ?_
      exact Qa8 47 g13
     refine go ?_
     obtain ⟨x57, g15, H⟩ := bnd H
     refine Qaj 4 53 57 (.bool x57) (gi q (fun q => ?_) (fun q => ?_)) (fun J => ?_)
     ·refine go ?_
      exact Qa8 53 g15
     ·refine go ?_
      exact Qa8 53 g15
     refine go ?_
     have e := pur H; subst e
     exact rt [.bool x57]
    ·refine go ?_
     obtain ⟨x65, g17, H⟩ := bnd H
     refine Qaj 3 62 65 (.bool x65) (giN q (fun q => ?_) (fun q => ?_)) (fun J => ?_)
     ·refine go ?_
      exact Qa8 62 g17
     ·refine go ?_
      exact Qa8 62 g17
     refine go ?_
     obtain ⟨x70, g19, H⟩ := bnd H
     refine Qaj 3 67 70 (.bool x70) (giN q (fun q => ?_) (fun q => ?_)) (fun J => ?_)
     ·refine go ?_
      exact Qa8 67 g19
     ·refine go ?_
      exact Qa8 67 g19
     refine go ?_
     obtain ⟨x76, g21, H⟩ := bnd H
     refine Qaj 4 72 76 (.bool x76) (giN q (fun q => ?_) (fun q => ?_)) (fun J => ?_)
     ·refine go ?_
      exact Qa8 72 g21
     ·refine go ?_
      exact Qa8 72 g21
     refine go ?_
     refine cdb H (fun h H => ?_) (fun h H => ?_)
     ·refine go ?_
      have e := pur H; subst e
      exact rt [.bool false]
     ·refine go ?_
      obtain ⟨o23, ho23, H⟩ := bnd H
      refine L0 a0 a1 0 _ ho23 _ rfl _ _ b1 ?_ ?_ _ _  S hF
      ·intro _ he T25 s26 tT hF
       have he := he.symm
       subst he
       try dsimp only at H
       refine go ?_
       have e := pur H; subst e
       exact rt [.bool true]
      ·intro r hr s' hs
       subst hr
       have e := pur H; subst e
       first | exact hs | (try simp only [sf, i6, zB, Fm.Qaa, Xpn.Qaa, Cor.Qaa, Bnd.Qaa, Hit.Qaa, Rul.Qaa, Mac.Qaa, Stp.Qaa, Val.Qaa] at hs ⊢; exact hs)
 ·intro Qgw Qe6 C0 L0 a0 a1 Qq3 out H c hc Q tt b1 hE hR T ss tT hF
  obtain rfl := lpe (rfl : Qaq Tryz.f50 0 = some _) hc
  refine Qak ?_
  have q := dum
  have hX := Tau.none tt
  refine go ?_
  refine cdp H (fun h H => ?_) (fun h H => ?_)
  ·obtain ⟨x87, f1, H⟩ := bil (g := Fm.cells) Fm.Qac H
   refine go1 ?_
   obtain ⟨x91, hx91, H⟩ := bnd H
   refine cl (C0 x87 (IntKind.i64.wrap (a1 - 1)) _ hx91) ?_
   refine go ?_
   refine cdb H (fun h H => ?_) (fun h H => ?_)
   ·refine go ?_
    exact wq (hR _ (pur H).symm _ (rt [.bool false]))
   ·refine go ?_
    exact L0 a0 a1 (IntKind.i64.wrap (Qq3 + 1)) _ H _ rfl Q tt b1 hE hR _ _  S hF
  ·refine go ?_
   exact wq (hE () (pur H).symm _ _  S hF)
theorem Qm9 : ∀ (a0 : Fm) r, Qe4 a0 = some r -> Qdz Tryz.prog 51 [.agg (Fm.cells a0)] (i6 r) := by
 refine Qe4.partial_correctness  (motive_1 := fun a0 r => Qdz Tryz.prog 51 [.agg (Fm.cells a0)] (i6 r)) (motive_2 := fun a0 Qbr Qc0 out => ∀ c, Qaq Tryz.f51 0 = some c -> ∀ (Q : AX -> AS -> Prop) (tt : Sto) (b1 : Nat), (∀ (Qu7 : Int), out = Qu7 -> ∀ (T : Nat -> AV) (ss : Sto), T 3 = i6 Qu7 -> Fx tt ss [(b1, ⟨26, 5, [i6 a0.kind, .str a0.name, i6 a0.num, sf cI a0.sc, sf Fm.cells a0.kids]⟩)] [] -> Q (.ex 0) ⟨T, ss⟩) -> True -> ∀ (T : Nat -> AV) (ss : Sto), T 1 = .ptr b1 0 /\ T 3 = i6 Qbr /\ T 4 = i6 Qc0 -> Fx tt ss [(b1, ⟨26, 5, [i6 a0.kind, .str a0.name, i6 a0.num, sf cI a0.sc, sf Fm.cells a0.kids]⟩)] [] -> aLp Tryz.prog c Q ⟨T, ss⟩) ?_ ?_
 ·intro Qdx L0 a0 r H
  intro ss
  refine Qaz mixed Tryz.func51 rfl (by kernel_rfl) (rs := [.tmp 2]) rfl (by kernel_rfl) ?_
  have hF := Fx.refl ss
  have hX := Tau.none ss
  have q := dum
  have tT := dum
  refine go ?_
  refine Qad hF rfl fun b1 ss2 hF => ?_
  refine go ?_
  obtain ⟨o3, ho3, H⟩ := bnd H
  refine L0 a0 1 0 _ ho3 _ rfl _ _ b1 ?_ ?_ _ _  S hF
  ·intro Q0b he T5 s6 tT hF
   have he := he.symm
   subst he
   refine go ?_
   have e := pur H; subst e
   exact rt [i6 Q0b]
  ·trivial
 ·intro Qe4 Qdx C0 L0 a0 Qbr Qc0 out H c hc Q tt b1 hE hR T ss tT hF
  obtain rfl := lpe (rfl : Qaq Tryz.f51 0 = some _) hc
  refine Qak ?_
  have q := dum
  have hX := Tau.none tt
  refine go ?_
  refine cdp H (fun h H => ?_) (fun h H => ?_)
  ·obtain ⟨x16, f1, H⟩ := bil (g := Fm.cells) Fm.Qac H
   refine go1 ?_
   obtain ⟨x18, hx18, H⟩ := bnd H
   refine cl (C0 x16 _ hx18) ?_
   refine go ?_
   exact L0 a0 (IntKind.i64.wrap (Qbr + x18)) (IntKind.i64.wrap (Qc0 + 1)) _ H _ rfl Q tt b1 hE hR _ _  S hF
  ·refine go ?_
   exact wq (hE _ (pur H).symm _ _  S hF)
theorem Qlq : ∀ (a0 : Fm) r, Qfq a0 = some r -> Qdz Tryz.prog 25 [.agg (Fm.cells a0)] (.bool r) := by
 intro a0 r H
 intro ss
 unfold Qfq at H
 refine Qaz mixed Tryz.func25 rfl (by kernel_rfl) (rs := [.tmp 2]) rfl (by kernel_rfl) ?_
 have hF := Fx.refl ss
 have hX := Tau.none ss
 have q := dum
 have tT := dum
 refine go ?_
 refine Qad hF rfl fun b1 ss2 hF => ?_
 refine go ?_
 obtain ⟨x4, hx4, H⟩ := bnd H
 refine cl (Qpu a0 40 _ hx4) ?_
 refine go ?_
 obtain ⟨x9, g3, H⟩ := bnd H
 refine Qaj 3 6 9 (.bool x9) (gi q (fun q => ?_) (fun q => ?_)) (fun J => ?_)
 ·rw [if_pos (dbt q)] at g3
  refine go ?_
  obtain ⟨x7, hx7, g3⟩ := bnd g3
  refine cl (Qm9 a0 _ hx7) ?_
  refine go ?_
  exact Qa8 6 g3
 ·rw [if_neg (dbf q)] at g3
  refine go ?_
  exact Qa8 6 g3
 refine go ?_
 have e := pur H; subst e
 exact rt [.bool x9]
theorem Qnv : ∀ (a0 : Fm) r, Qe8 a0 = some r -> Qdz Tryz.prog 26 [.agg (Fm.cells a0)] (.agg (Val.cells r)) := by
 refine Qe8.partial_correctness  (motive_1 := fun a0 r => Qdz Tryz.prog 26 [.agg (Fm.cells a0)] (.agg (Val.cells r))) (motive_2 := fun a0 Qag Qc0 out => ∀ c, Qaq Tryz.f26 0 = some c -> ∀ (Q : AX -> AS -> Prop) (tt : Sto) (b1 : Nat) (b3 : Nat) (b7 : Nat), (∀ (Qeh : List Val), out = Qeh -> ∀ (T : Nat -> AV) (ss : Sto) (e0v0 : AV), T 2 = .ptr b3 0 /\ T 3 = .ptr b7 0 -> Fx tt ss [(b7, ⟨34, 16, [i6 3, i6 0, .str zB, e0v0, i6 0, i6 0, .str zB, i6 0, .Qab, i6 0, .str zB, i6 0, .Qab, .Qab, .Qab, .Qab]⟩), (b3, ⟨34, 16, [i6 0, i6 0, .str zB, .Qab, i6 0, i6 0, .str zB, i6 0, .Qab, i6 0, .str zB, i6 0, .Qab, .Qab, .Qab, .Qab]⟩), (b1, ⟨26, 5, [i6 a0.kind, .str a0.name, i6 a0.num, sf cI a0.sc, sf Fm.cells a0.kids]⟩)] [⟨e0v0, 34, 16, rws Val.cells Qeh⟩] -> Q (.ex 1) ⟨T, ss⟩) -> True -> ∀ (T : Nat -> AV) (ss : Sto) (z0v0 : AV), T 1 = .ptr b1 0 /\ T 2 = .ptr b3 0 /\ T 3 = .ptr b7 0 /\ T 4 = i6 Qc0 -> Fx tt ss [(b7, ⟨34, 16, [i6 3, i6 0, .str zB, z0v0, i6 0, i6 0, .str zB, i6 0, .Qab, i6 0, .str zB, i6 0, .Qab, .Qab, .Qab, .Qab]⟩), (b3, ⟨34, 16, [i6 0, i6 0, .str zB, .Qab, i6 0, i6 0, .str zB, i6 0, .Qab, i6 0, .str zB, i6 0, .Qab, .Qab, .Qab, .Qab]⟩), (b1, ⟨26, 5, [i6 a0.kind, .str a0.name, i6 a0.num, sf cI a0.sc, sf Fm.cells a0.kids]⟩)] [⟨z0v0, 34, 16, rws Val.cells Qag⟩] -> aLp Tryz.prog c Q ⟨T, ss⟩) ?_ ?_
 ·intro Qdp L0 a0 r H
  intro ss
  refine Qaz mixed Tryz.func26 rfl (by kernel_rfl) (rs := [.cell 2 34]) rfl (by kernel_rfl) ?_
  have hF := Fx.refl ss
  have hX := Tau.none ss
  have q := dum
  have tT := dum
  refine go ?_
  refine Qad hF rfl fun b1 ss2 hF => ?_
  refine go ?_
  refine Qad hF rfl fun b3 s4 hF => ?_
  refine go ?_
  refine cdp H (fun h H => ?_) (fun h H => ?_)
  ·refine go ?_
   refine st hF 0 rfl fun s5 hF => ?_
   refine go ?_
   have e := pur H; subst e
   exact rt [.agg [i6 1, i6 a0.num, .str zB, .Qab, i6 0, i6 0, .str zB, i6 0, .Qab, i6 0, .str zB, i6 0, .Qab, .Qab, .Qab, .Qab]]
  ·refine go ?_
   refine cdp H (fun h H => ?_) (fun h H => ?_)
   ·refine go ?_
    refine st hF 0 rfl fun s6 hF => ?_
    refine go ?_
    have e := pur H; subst e
    exact rt [.agg [i6 2, i6 0, .str a0.name, .Qab, i6 0, i6 0, .str zB, i6 0, .Qab, i6 0, .str zB, i6 0, .Qab, .Qab, .Qab, .Qab]]
   ·refine go ?_
    refine Qad hF rfl fun b7 s8 hF => ?_
    refine go ?_
    refine st hF 0 rfl fun s9 hF => ?_
    have hF := hF.nil 34 16
    refine go ?_
    obtain ⟨o13, ho13, H⟩ := bnd H
    refine L0 a0 [] 0 _ ho13 _ rfl _ _ b1 b3 b7 ?_ ?_ _ _ .Qab S hF
    ·intro Qnz he T15 s16 e14v0 tT hF
     have he := he.symm
     subst he
     refine go ?_
     refine st hF 1 rfl fun s18 hF => ?_
     refine go ?_
     have e := pur H; subst e
     exact rt [.agg [i6 3, i6 0, .str zB, e14v0, i6 0, i6 0, .str zB, i6 0, .Qab, i6 0, .str zB, i6 0, .Qab, .Qab, .Qab, .Qab]]
    ·trivial
 ·intro Qe8 Qdp C0 L0 a0 Qag Qc0 out H c hc Q tt b1 b3 b7 hE hR T ss z0v0 tT hF
  obtain rfl := lpe (rfl : Qaq Tryz.f26 0 = some _) hc
  refine Qak ?_
  have q := dum
  have hX := Tau.none tt
  refine go ?_
  refine cdp H (fun h H => ?_) (fun h H => ?_)
  ·refine go ?_
   refine Qa0 E0 [.v, .v, .v, .v, .v, .v, .v, .v, .v, .x, .v, .z] (by kernel_rfl) ?_
   obtain ⟨x30, f1, H⟩ := bil (g := Fm.cells) Fm.Qac H
   refine go1 ?_
   obtain ⟨x32, hx32, H⟩ := bnd H
   refine cv (C0 x30 _ hx32) ?_
   refine go ?_
   refine Qq9 (g := Val.cells) hF 0 H (rdo (c := true) (g := Val.cells) Val.Qac) fun x34 H v10 s11 hF => ?_
   refine go ?_
   refine st hF 0 (hF.cells 0 rfl) fun s12 hF => ?_
   refine go ?_
   exact L0 a0 x34 (IntKind.i64.wrap (Qc0 + 1)) _ H _ rfl Q tt b1 b3 b7 hE hR _ _ v10 S hF
  ·refine go ?_
   exact wq (hE _ (pur H).symm _ _ z0v0 S hF)
theorem Qlp : ∀ (a0 : Fm) r, Qgs a0 = some r -> Qdz Tryz.prog 11 [.agg (Fm.cells a0)] (.tup [.agg (Val.cells r.1), .bool r.2]) := by
 intro a0 r H
 intro ss
 unfold Qgs at H
 refine Qaz mixed Tryz.func11 rfl (by kernel_rfl) (rs := [.cell 2 34, .tmp 3]) rfl (by kernel_rfl) ?_
 have hF := Fx.refl ss
 have hX := Tau.none ss
 have q := dum
 have tT := dum
 refine go ?_
 refine Qad hF rfl fun b1 ss2 hF => ?_
 refine go ?_
 refine Qad hF rfl fun b3 s4 hF => ?_
 refine go ?_
 obtain ⟨x5, hx5, H⟩ := bnd H
 refine cl (Qlq a0 _ hx5) ?_
 refine go ?_
 refine cdb H (fun h H => ?_) (fun h H => ?_)
 ·refine go ?_
  refine st hF 0 rfl fun s5 hF => ?_
  refine go ?_
  have e := pur H; subst e
  exact rt [.agg [i6 0, i6 0, .str zB, .Qab, i6 0, i6 0, .str zB, i6 0, .Qab, i6 0, .str zB, i6 0, .Qab, .Qab, .Qab, .Qab], .bool false]
 ·refine go ?_
  obtain ⟨x9, hx9, H⟩ := bnd H
  refine cl (Qnv a0 _ hx9) ?_
  refine go ?_
  refine st hF 0 rfl fun s6 hF => ?_
  refine go ?_
  have e := pur H; subst e
  exact rt [.agg [i6 x9.kind, i6 x9.num, .str x9.name, sf Val.cells x9.items, i6 x9.fn.kind, i6 x9.fn.id, .str x9.fn.name, i6 x9.fn.num, sf cI x9.fn.ids, i6 x9.fn.data.kind, .str x9.fn.data.name, i6 x9.fn.data.num, sf cI x9.fn.data.sc, sf Fm.cells x9.fn.data.kids, sf Cor.cells x9.fn.kids, sf Slt.cells x9.env], .bool true]
theorem Qgg : ∀ (a0 : Int) r, Qc1 a0 = some r -> Qdz Tryz.prog 58 [i6 a0] (.str r) := fun a0 r H =>
 Qvp Tryz.func58 (by kernel_rfl) (by kernel_rfl) (by kernel_rfl) (fun n h0 h1 w ht => Tryz.strconv_Itoa n h0 h1 w ht) H
theorem Qhn : ∀ (a0 : List ByteArray) (a1 : ByteArray) r, Qd1 a0 a1 = some r -> Qdz Tryz.prog 59 [sf cS a0, .str a1] (.str r) := fun a0 a1 r H =>
 Qvr Tryz.func59 (by kernel_rfl) (by kernel_rfl) (fun a c sep w => Tryz.strings_Join_none a c sep w) (fun bk o c xs sep w h1 h2 h3 h4 h5 => Tryz.strings_Join bk o c xs sep w h1 h2 h3 h4 h5) H
theorem Qln : ∀ (a0 : Val) (a1 : Int) r, Qcv a0 a1 = some r -> Qdz Tryz.prog 32 [.agg (Val.cells a0), i6 a1] (.str r) := by
 refine Qcv.partial_correctness  (motive_1 := fun a0 a1 r => Qdz Tryz.prog 32 [.agg (Val.cells a0), i6 a1] (.str r)) (motive_2 := fun a0 a1 Qag Qjv out => ∀ c, Qaq Tryz.f32 0 = some c -> ∀ (Q : AX -> AS -> Prop) (tt : Sto) (b1 : Nat), (∀ (Qeh : List ByteArray), out = Qeh -> ∀ (T : Nat -> AV) (ss : Sto) (e0v0 : AV), T 5 = e0v0 -> Fx tt ss [(b1, ⟨34, 16, [i6 a0.kind, i6 a0.num, .str a0.name, sf Val.cells a0.items, i6 a0.fn.kind, i6 a0.fn.id, .str a0.fn.name, i6 a0.fn.num, sf cI a0.fn.ids, i6 a0.fn.data.kind, .str a0.fn.data.name, i6 a0.fn.data.num, sf cI a0.fn.data.sc, sf Fm.cells a0.fn.data.kids, sf Cor.cells a0.fn.kids, sf Slt.cells a0.env]⟩)] [⟨e0v0, 9, 1, rws cS Qeh⟩] -> Q (.ex 1) ⟨T, ss⟩) -> True -> ∀ (T : Nat -> AV) (ss : Sto) (z0v0 : AV), T 1 = i6 a1 /\ T 5 = z0v0 /\ T 34 = sf Val.cells a0.items /\ T 35 = i6 (a0.items.length : Int) /\ T 36 = i6 Qjv -> Fx tt ss [(b1, ⟨34, 16, [i6 a0.kind, i6 a0.num, .str a0.name, sf Val.cells a0.items, i6 a0.fn.kind, i6 a0.fn.id, .str a0.fn.name, i6 a0.fn.num, sf cI a0.fn.ids, i6 a0.fn.data.kind, .str a0.fn.data.name, i6 a0.fn.data.num, sf cI a0.fn.data.sc, sf Fm.cells a0.fn.data.kids, sf Cor.cells a0.fn.kids, sf Slt.cells a0.env]⟩)] [⟨z0v0, 9, 1, rws cS Qag⟩] -> aLp Tryz.prog c Q ⟨T, ss⟩) ?_ ?_
 ·intro Qb3 L0 a0 a1 r H
  intro ss
  refine Qaz mixed Tryz.func32 rfl (by kernel_rfl) (rs := [.tmp 4]) rfl (by kernel_rfl) ?_
  have hF := Fx.refl ss
  have hX := Tau.none ss
  have q := dum
  have tT := dum
  refine go ?_
  refine Qad hF rfl fun b1 ss2 hF => ?_
  refine go ?_
  refine cdp H (fun h H => ?_) (fun h H => ?_)
  ·refine go ?_
   have e := pur H; subst e
   exact rt [.str (ByteArray.mk #[46, 46])]
  ·refine go ?_
   refine cdp H (fun h H => ?_) (fun h H => ?_)
   ·refine go ?_
    obtain ⟨x16, hx16, H⟩ := bnd H
    refine cl (Qgg a0.num _ hx16) ?_
    refine go ?_
    have e := pur H; subst e
    exact rt [.str x16]
   ·refine go ?_
    obtain ⟨Qwg, j4, H⟩ := bnd H
    refine Qou (fun s' => ∃ (T : Nat -> AV) (ss1 : Sto), s' = ⟨T, ss1⟩ /\ (T 1 = i6 a1 /\ T 2 = .ptr b1 0 /\ T 11 = i6 a0.kind /\ T 17 = .bool Qwg) /\ Fx ss ss1 [(b1, ⟨34, 16, [i6 a0.kind, i6 a0.num, .str a0.name, sf Val.cells a0.items, i6 a0.fn.kind, i6 a0.fn.id, .str a0.fn.name, i6 a0.fn.num, sf cI a0.fn.ids, i6 a0.fn.data.kind, .str a0.fn.data.name, i6 a0.fn.data.num, sf cI a0.fn.data.sc, sf Fm.cells a0.fn.data.kids, sf Cor.cells a0.fn.kids, sf Slt.cells a0.env]⟩)] []) (cdp j4 (fun h j4 => ?_) (fun h j4 => ?_)) ?_
    ·refine go ?_
     have e := pur j4
     subst e
     exact ⟨_, _, rfl, S, hF⟩
    ·refine go ?_
     have e := pur j4
     subst e
     exact ⟨_, _, rfl, S, hF⟩
    ·rintro s' ⟨T5, s6, rfl, tT, hF⟩
     refine go ?_
     refine cdb H (fun h H => ?_) (fun h H => ?_)
     ·refine go ?_
      have e := pur H; subst e
      exact rt [.str a0.name]
     ·refine go ?_
      refine cdp H (fun h H => ?_) (fun h H => ?_)
      ·refine go ?_
       obtain ⟨x28, hx28, H⟩ := bnd H
       refine cl (Qgg (a0.fn.ids.length : Int) _ hx28) ?_
       obtain ⟨x29, f1, H⟩ := bsc H
       refine go1 ?_
       refine go ?_
       have e := pur H; subst e
       exact rt [.str x29]
      ·refine go ?_
       refine cdp H (fun h H => ?_) (fun h H => ?_)
       ·have hF := hF.lit 9 1 (rws cS []) rfl
        refine go ?_
        obtain ⟨o13, ho13, H⟩ := bnd H
        refine L0 a0 a1 [] 0 _ ho13 _ rfl _ _ b1 ?_ ?_ _ _ (.sl true (rws cS [])) S hF
        ·intro Qnz he T15 s16 e14v0 tT hF
         have he := he.symm
         subst he
         refine go ?_
         obtain ⟨x49, hx49, H⟩ := bnd H
         refine Qh6 (Qhn Qnz (ByteArray.mk #[32]) _ hx49) .str (.cons ((hF.wk 0 rfl).trans (Wk.sub (Sub.zero _) _)) (fun _ => rfl) (.cons (Wk.sub (Sub.zero _) _) id .nil)) ?_
         obtain ⟨x50, f1, H⟩ := bsc H
         obtain ⟨x51, f2, H⟩ := bsc H
         refine go2 ?_
         refine go ?_
         have e := pur H; subst e
         exact rt [.str x51]
        ·trivial
       ·refine go ?_
        have e := pur H; subst e
        exact rt [.str (ByteArray.mk #[63])]
 ·intro Qcv Qb3 C0 L0 a0 a1 Qag Qjv out H c hc Q tt b1 hE hR T ss z0v0 tT hF
  obtain rfl := lpe (rfl : Qaq Tryz.f32 0 = some _) hc
  refine Qak ?_
  have q := dum
  have hX := Tau.none tt
  refine go ?_
  refine cdp H (fun h H => ?_) (fun h H => ?_)
  ·obtain ⟨x38, f1, H⟩ := bil (g := Val.cells) Val.Qac H
   refine go1 ?_
   refine Qad hF rfl fun b8 s9 hF => ?_
   refine go ?_
   refine st hF 0 rfl fun s10 hF => ?_
   refine go ?_
   obtain ⟨x44, hx44, H⟩ := bnd H
   refine cl (C0 x38 (IntKind.i64.wrap (a1 + 1)) _ hx44) ?_
   refine go ?_
   refine apd (g := cS) hF 0 H (rdo (c := true) (g := cS) (fun _ => rfl)) fun x46 H v11 s12 hF => ?_
   refine go ?_
   exact L0 a0 a1 x46 (IntKind.i64.wrap (Qjv + 1)) _ H _ rfl Q tt b1 hE hR _ _ v11 S (hF.drop 1 0)
  ·refine go ?_
   exact wq (hE _ (pur H).symm _ _ z0v0 S hF)
theorem Qf0 : ∀ (a0 : Val) r, Qdd a0 = some r -> Qdz Tryz.prog 15 [.agg (Val.cells a0)] (.str r) := by
 intro a0 r H
 intro ss
 unfold Qdd at H
 refine Qaz mixed Tryz.func15 rfl (by kernel_rfl) (rs := [.tmp 2]) rfl (by kernel_rfl) ?_
 have hF := Fx.refl ss
 have hX := Tau.none ss
 have q := dum
 have tT := dum
 refine go ?_
 refine Qad hF rfl fun b1 ss2 hF => ?_
 refine go ?_
 obtain ⟨x4, hx4, H⟩ := bnd H
 refine cl (Qln a0 0 _ hx4) ?_
 refine go ?_
 have e := pur H; subst e
 exact rt [.str x4]
theorem Qkq : (∀ (a0 : Val) (a1 : Val) r, Qbo a0 a1 = some r -> Qdz Tryz.prog 12 [.agg (Val.cells a0), .agg (Val.cells a1)] (.bool r)) /\ (∀ (a0 : List Val) (a1 : List Val) r, Qav a0 a1 = some r -> Qdz Tryz.prog 27 [sf Val.cells a0, sf Val.cells a1, .fn 12 []] (.bool r)) := by
 have h := Qbo.mutual_partial_correctness  (motive_1 := fun a0 a1 r => Qdz Tryz.prog 12 [.agg (Val.cells a0), .agg (Val.cells a1)] (.bool r)) (motive_2 := fun a0 a1 r => Qdz Tryz.prog 27 [sf Val.cells a0, sf Val.cells a1, .fn 12 []] (.bool r)) (motive_3 := fun a0 a1 Qdc out => ∀ c, Qaq Tryz.f27 0 = some c -> ∀ (Q : AX -> AS -> Prop) (tt : Sto), (∀ (_u : Unit), out = Sum.inr () -> ∀ (T : Nat -> AV) (ss : Sto), 0 + 0 = 0 -> Fx tt ss [] [] -> Q (.ex 0) ⟨T, ss⟩) -> (∀ r, out = Sum.inl r -> ∀ s', Qi9 Tryz.prog [.tmp 6] (fun r' ss' => r' = .bool r /\ ss' = tt) s' -> Q .ret s') -> ∀ (T : Nat -> AV) (ss : Sto), T 1 = sf Val.cells a1 /\ T 2 = .fn 12 [] /\ T 15 = sf Val.cells a0 /\ T 16 = i6 (a0.length : Int) /\ T 17 = i6 Qdc -> Fx tt ss [] [] -> aLp Tryz.prog c Q ⟨T, ss⟩) ?s0 ?s1 ?s2
 ·exact ⟨h.1, h.2.1⟩
 ·intro Qav C1 a0 a1 r H
  intro ss
  refine Qaz mixed Tryz.func12 rfl (by kernel_rfl) (rs := [.tmp 4]) rfl (by kernel_rfl) ?_
  have hF := Fx.refl ss
  have hX := Tau.none ss
  have q := dum
  have tT := dum
  refine go ?_
  refine Qad hF rfl fun b1 ss2 hF => ?_
  refine go ?_
  refine Qad hF rfl fun b3 s4 hF => ?_
  refine go ?_
  refine Qa0 E0 [.v, .v, .v, .v, .v, .v, .v, .v, .v, .v, .v, .v, .v, .v, .v, .v, .v, .v, .v, .v, .v, .v, .v, .v, .v, .v, .v, .v, .v, .v, .v, .v, .v, .v] (by kernel_rfl) ?_
  refine go ?_
  obtain ⟨x16, g5, H⟩ := bnd H
  refine Qgh 5 11 16 (.bool x16) (ti q (fun q => ?_) (fun q => ?_)) (fun J => ?_)
  ·refine go ?_
   exact Qa8 11 g5
  ·refine go ?_
   exact Qa8 11 g5
  refine go ?_
  obtain ⟨x23, g7, H⟩ := bnd H
  refine Qgh 5 18 23 (.bool x23) (ti q (fun q => ?_) (fun q => ?_)) (fun J => ?_)
  ·refine go ?_
   exact Qa8 18 g7
  ·refine go ?_
   exact Qa8 18 g7
  refine go ?_
  obtain ⟨x30, g9, H⟩ := bnd H
  refine Qgh 5 25 30 (.bool x30) (ti q (fun q => ?_) (fun q => ?_)) (fun J => ?_)
  ·rw [if_pos (dbt q)] at g9
   refine go ?_
   obtain ⟨x29, hx29, g9⟩ := bnd g9
   refine cv (C1 a0.items a1.items _ hx29) ?_
   refine go ?_
   exact Qa8 25 g9
  ·rw [if_neg (dbf q)] at g9
   refine go ?_
   exact Qa8 25 g9
  refine go ?_
  obtain ⟨x37, g11, H⟩ := bnd H
  refine Qgh 5 32 37 (.bool x37) (ti q (fun q => ?_) (fun q => ?_)) (fun J => ?_)
  ·rw [if_pos (dbt q)] at g11
   refine go ?_
   obtain ⟨x33, hx33, g11⟩ := bnd g11
   refine cv (Qf0 a0 _ hx33) ?_
   refine go ?_
   obtain ⟨x35, hx35, g11⟩ := bnd g11
   refine cv (Qf0 a1 _ hx35) ?_
   refine go ?_
   exact Qa8 32 g11
  ·rw [if_neg (dbf q)] at g11
   refine go ?_
   exact Qa8 32 g11
  refine go ?_
  have e := pur H; subst e
  exact rt [.bool x37]
 ·intro Qaf L0 a0 a1 r H
  intro ss
  refine Qaz mixed Tryz.func27 rfl (by kernel_rfl) (rs := [.tmp 6]) rfl (by kernel_rfl) ?_
  have hF := Fx.refl ss
  have hX := Tau.none ss
  have q := dum
  have tT := dum
  refine go ?_
  refine cdn H (fun h H => ?_) (fun h H => ?_)
  ·refine go ?_
   have e := pur H; subst e
   exact rt [.bool false]
  ·refine go ?_
   obtain ⟨o7, ho7, H⟩ := bnd H
   refine L0 a0 a1 0 _ ho7 _ rfl _ _  ?_ ?_ _ _  S hF
   ·intro _ he T9 s10 tT hF
    have he := he.symm
    subst he
    try dsimp only at H
    refine go ?_
    have e := pur H; subst e
    exact rt [.bool true]
   ·intro r hr s' hs
    subst hr
    have e := pur H; subst e
    first | exact hs | (try simp only [sf, i6, zB, Fm.Qaa, Xpn.Qaa, Cor.Qaa, Bnd.Qaa, Hit.Qaa, Rul.Qaa, Mac.Qaa, Stp.Qaa, Val.Qaa] at hs ⊢; exact hs)
 ·intro Qbo Qaf C0 L0 a0 a1 Qdc out H c hc Q tt  hE hR T ss tT hF
  obtain rfl := lpe (rfl : Qaq Tryz.f27 0 = some _) hc
  refine Qak ?_
  have q := dum
  have hX := Tau.none tt
  refine go ?_
  refine cdp H (fun h H => ?_) (fun h H => ?_)
  ·obtain ⟨x20, f1, H⟩ := bil (g := Val.cells) Val.Qac H
   refine go1 ?_
   refine Qad hF rfl fun b1 ss2 hF => ?_
   refine go ?_
   refine st hF 0 rfl fun ss3 hF => ?_
   obtain ⟨x24, f1, H⟩ := bil (g := Val.cells) Val.Qac H
   refine go1 ?_
   refine Qad hF rfl fun b4 s5 hF => ?_
   refine go ?_
   refine st hF 0 rfl fun s6 hF => ?_
   refine go ?_
   obtain ⟨x29, hx29, H⟩ := bnd H
   refine cl (C0 x20 x24 _ hx29) ?_
   refine go ?_
   refine cdb H (fun h H => ?_) (fun h H => ?_)
   ·refine go ?_
    exact wq (hR _ (pur H).symm _ (rt [.bool false]))
   ·refine go ?_
    exact L0 a0 a1 (IntKind.i64.wrap (Qdc + 1)) _ H _ rfl Q tt  hE hR _ _  S (hF.drop 2 0)
  ·refine go ?_
   exact wq (hE () (pur H).symm _ _  S hF)
theorem Qgm : ∀ (a0 : Val) (a1 : Val) r, Qbo a0 a1 = some r -> Qdz Tryz.prog 12 [.agg (Val.cells a0), .agg (Val.cells a1)] (.bool r) := Qkq.1
theorem Qia : ∀ (a0 : Fm) r, Qct a0 = some r -> Qdz Tryz.prog 13 [.agg (Fm.cells a0)] (.agg (Fm.cells r)) := by
 refine Qct.partial_correctness  (motive_1 := fun a0 r => Qdz Tryz.prog 13 [.agg (Fm.cells a0)] (.agg (Fm.cells r))) (motive_2 := fun a0 Qag Qjq out => ∀ c, Qaq Tryz.f13 0 = some c -> ∀ (Q : AX -> AS -> Prop) (tt : Sto) (b1 : Nat) (b3 : Nat) (b5 : Nat), (∀ (Qeh : List Fm), out = Qeh -> ∀ (T : Nat -> AV) (ss : Sto) (e0v0 : AV), T 2 = .ptr b3 0 /\ T 3 = .ptr b5 0 -> Fx tt ss [(b5, ⟨26, 5, [i6 a0.kind, .str a0.name, i6 a0.num, .Qab, e0v0]⟩), (b3, ⟨26, 5, [i6 0, .str zB, i6 0, .Qab, .Qab]⟩), (b1, ⟨26, 5, [i6 a0.kind, .str a0.name, i6 a0.num, sf cI a0.sc, sf Fm.cells a0.kids]⟩)] [⟨e0v0, 26, 5, rws Fm.cells Qeh⟩] -> Q (.ex 0) ⟨T, ss⟩) -> True -> ∀ (T : Nat -> AV) (ss : Sto) (z0v0 : AV), T 2 = .ptr b3 0 /\ T 3 = .ptr b5 0 /\ T 14 = sf Fm.cells a0.kids /\ T 15 = i6 (a0.kids.length : Int) /\ T 16 = i6 Qjq -> Fx tt ss [(b5, ⟨26, 5, [i6 a0.kind, .str a0.name, i6 a0.num, .Qab, z0v0]⟩), (b3, ⟨26, 5, [i6 0, .str zB, i6 0, .Qab, .Qab]⟩), (b1, ⟨26, 5, [i6 a0.kind, .str a0.name, i6 a0.num, sf cI a0.sc, sf Fm.cells a0.kids]⟩)] [⟨z0v0, 26, 5, rws Fm.cells Qag⟩] -> aLp Tryz.prog c Q ⟨T, ss⟩) ?_ ?_
 ·intro Qbz L0 a0 r H
  intro ss
  refine Qaz mixed Tryz.func13 rfl (by kernel_rfl) (rs := [.cell 2 26]) rfl (by kernel_rfl) ?_
  have hF := Fx.refl ss
  have hX := Tau.none ss
  have q := dum
  have tT := dum
  refine go ?_
  refine Qad hF rfl fun b1 ss2 hF => ?_
  refine go ?_
  refine Qad hF rfl fun b3 s4 hF => ?_
  refine go ?_
  refine Qad hF rfl fun b5 s6 hF => ?_
  refine go ?_
  refine st hF 0 rfl fun s7 hF => ?_
  have hF := hF.nil 26 5
  refine go ?_
  obtain ⟨o14, ho14, H⟩ := bnd H
  refine L0 a0 [] 0 _ ho14 _ rfl _ _ b1 b3 b5 ?_ ?_ _ _ .Qab S hF
  ·intro Qdh he T16 s17 e15v0 tT hF
   have he := he.symm
   subst he
   refine go ?_
   refine st hF 1 rfl fun s19 hF => ?_
   refine go ?_
   have e := pur H; subst e
   exact rt [.agg [i6 a0.kind, .str a0.name, i6 a0.num, .Qab, e15v0]]
  ·trivial
 ·intro Qct Qbz C0 L0 a0 Qag Qjq out H c hc Q tt b1 b3 b5 hE hR T ss z0v0 tT hF
  obtain rfl := lpe (rfl : Qaq Tryz.f13 0 = some _) hc
  refine Qak ?_
  have q := dum
  have hX := Tau.none tt
  refine go ?_
  refine cdp H (fun h H => ?_) (fun h H => ?_)
  ·obtain ⟨x18, f1, H⟩ := bil (g := Fm.cells) Fm.Qac H
   refine go1 ?_
   refine Qad hF rfl fun b8 s9 hF => ?_
   refine go ?_
   refine st hF 0 rfl fun s10 hF => ?_
   refine go ?_
   refine Qa0 E0 [.v, .v, .v, .v, .v, .x, .v, .z] (by kernel_rfl) ?_
   refine go ?_
   obtain ⟨x23, hx23, H⟩ := bnd H
   refine cv (C0 x18 _ hx23) ?_
   refine go ?_
   refine Qq9 (g := Fm.cells) hF 0 H (rdo (c := true) (g := Fm.cells) Fm.Qac) fun x25 H v11 s12 hF => ?_
   refine go ?_
   refine st hF 1 (hF.cells 0 rfl) fun s13 hF => ?_
   refine go ?_
   exact L0 a0 x25 (IntKind.i64.wrap (Qjq + 1)) _ H _ rfl Q tt b1 b3 b5 hE hR _ _ v11 S (hF.drop 1 0)
  ·refine go ?_
   exact wq (hE _ (pur H).symm _ _ z0v0 S hF)
theorem Qhu : ∀ (a0 : List Int) (a1 : Int) (Qeu : Int) out, Qcd a0 a1 Qeu = some out -> ∀ c, Qaq Tryz.f106 0 = some c -> ∀ (Q : AX -> AS -> Prop) (tt : Sto), (∀ (_u : Unit), out = Sum.inr () -> ∀ (T : Nat -> AV) (ss : Sto), 0 + 0 = 0 -> Fx tt ss [] [] -> Q (.ex 0) ⟨T, ss⟩) -> (∀ r, out = Sum.inl r -> ∀ s', Qi9 Tryz.prog [.tmp 4] (fun r' ss' => r' = i6 r /\ ss' = tt) s' -> Q .ret s') -> ∀ (T : Nat -> AV) (ss : Sto), T 0 = sf cI a0 /\ T 1 = i6 a1 /\ T 7 = i6 (a0.length : Int) /\ T 8 = i6 Qeu -> Fx tt ss [] [] -> aLp Tryz.prog c Q ⟨T, ss⟩ := by
 intro a0 a1 Qeu
 revert Qeu
 refine Qcd.partial_correctness a0 a1 _ ?_
 intro Qcd IH Qeu out H c hc Q tt  hE hR T ss tT hF
 obtain rfl := lpe (rfl : Qaq Tryz.f106 0 = some _) hc
 refine Qak ?_
 have q := dum
 have hX := Tau.none tt
 refine go ?_
 refine cdp H (fun h H => ?_) (fun h H => ?_)
 ·obtain ⟨x14, f1, H⟩ := bil (g := cI) (fun _ => rfl) H
  refine go1 ?_
  refine go ?_
  refine cdp H (fun h H => ?_) (fun h H => ?_)
  ·refine go ?_
   exact wq (hR _ (pur H).symm _ (rt [i6 Qeu]))
  ·refine go ?_
   exact IH  (IntKind.i64.wrap (Qeu + 1)) _ H _ rfl Q tt  hE hR _ _  S hF
 ·refine go ?_
  exact wq (hE () (pur H).symm _ _  S hF)
theorem Qik : ∀ (a0 : List Int) (a1 : Int) r, Qfk a0 a1 = some r -> Qdz Tryz.prog 106 [sf cI a0, i6 a1] (i6 r) := by
 intro a0 a1 r H
 intro ss
 unfold Qfk at H
 refine Qaz mixed Tryz.func106 rfl (by kernel_rfl) (rs := [.tmp 4]) rfl (by kernel_rfl) ?_
 have hF := Fx.refl ss
 have hX := Tau.none ss
 have q := dum
 have tT := dum
 refine go ?_
 obtain ⟨o1, ho1, H⟩ := bnd H
 refine Qhu a0 a1 0 _ ho1 _ rfl _ _  ?_ ?_ _ _  S hF
 ·intro _ he T3 s4 tT hF
  have he := he.symm
  subst he
  try dsimp only at H
  refine go ?_
  have e := pur H; subst e
  exact rt [i6 (-1)]
 ·intro r hr s' hs
  subst hr
  have e := pur H; subst e
  first | exact hs | (try simp only [sf, i6, zB, Fm.Qaa, Xpn.Qaa, Cor.Qaa, Bnd.Qaa, Hit.Qaa, Rul.Qaa, Mac.Qaa, Stp.Qaa, Val.Qaa] at hs ⊢; exact hs)
theorem Qfg : ∀ (a0 : List Int) (a1 : Int) r, Qdm a0 a1 = some r -> Qdz Tryz.prog 73 [sf cI a0, i6 a1] (.bool r) := by
 intro a0 a1 r H
 intro ss
 unfold Qdm at H
 refine Qaz mixed Tryz.func73 rfl (by kernel_rfl) (rs := [.tmp 4]) rfl (by kernel_rfl) ?_
 have hF := Fx.refl ss
 have hX := Tau.none ss
 have q := dum
 have tT := dum
 refine go ?_
 obtain ⟨x7, hx7, H⟩ := bnd H
 refine cl (Qik a0 a1 _ hx7) ?_
 refine go ?_
 have e := pur H; subst e
 exact rt [.bool (decide (x7 ≥ 0))]
theorem Qht : ∀ (a0 : List Int) (a1 : List Int) (Qhp : Int) out, Qa5 a0 a1 Qhp = some out -> ∀ c, Qaq Tryz.f77 0 = some c -> ∀ (Q : AX -> AS -> Prop) (tt : Sto), (∀ (_u : Unit), out = Sum.inr () -> ∀ (T : Nat -> AV) (ss : Sto), 0 + 0 = 0 -> Fx tt ss [] [] -> Q (.ex 0) ⟨T, ss⟩) -> (∀ r, out = Sum.inl r -> ∀ s', Qi9 Tryz.prog [.tmp 4] (fun r' ss' => r' = .bool r /\ ss' = tt) s' -> Q .ret s') -> ∀ (T : Nat -> AV) (ss : Sto), T 0 = sf cI a0 /\ T 1 = sf cI a1 /\ T 12 = i6 (a0.length : Int) /\ T 13 = i6 Qhp -> Fx tt ss [] [] -> aLp Tryz.prog c Q ⟨T, ss⟩ := by
 intro a0 a1 Qhp
 revert Qhp
 refine Qa5.partial_correctness a0 a1 _ ?_
 intro Qa5 IH Qhp out H c hc Q tt  hE hR T ss tT hF
 obtain rfl := lpe (rfl : Qaq Tryz.f77 0 = some _) hc
 refine Qak ?_
 have q := dum
 have hX := Tau.none tt
 refine go ?_
 refine cdp H (fun h H => ?_) (fun h H => ?_)
 ·refine go ?_
  refine Qa0 E0 [.v, .v, .v, .v, .v, .v, .v, .v, .v] (by kernel_rfl) ?_
  obtain ⟨x18, f1, H⟩ := bil (g := cI) (fun _ => rfl) H
  obtain ⟨x22, f2, H⟩ := bil (g := cI) (fun _ => rfl) H
  refine go2 ?_
  refine go ?_
  refine cdn H (fun h H => ?_) (fun h H => ?_)
  ·refine go ?_
   exact wq (hR _ (pur H).symm _ (rt [.bool false]))
  ·refine go ?_
   exact IH  (IntKind.i64.wrap (Qhp + 1)) _ H _ rfl Q tt  hE hR _ _  S hF
 ·refine go ?_
  exact wq (hE () (pur H).symm _ _  S hF)
theorem Qgc : ∀ (a0 : List Int) (a1 : List Int) r, Qbs a0 a1 = some r -> Qdz Tryz.prog 77 [sf cI a0, sf cI a1] (.bool r) := by
 intro a0 a1 r H
 intro ss
 unfold Qbs at H
 refine Qaz mixed Tryz.func77 rfl (by kernel_rfl) (rs := [.tmp 4]) rfl (by kernel_rfl) ?_
 have hF := Fx.refl ss
 have hX := Tau.none ss
 have q := dum
 have tT := dum
 refine go ?_
 refine cdn H (fun h H => ?_) (fun h H => ?_)
 ·refine go ?_
  have e := pur H; subst e
  exact rt [.bool false]
 ·refine go ?_
  obtain ⟨o1, ho1, H⟩ := bnd H
  refine Qht a0 a1 0 _ ho1 _ rfl _ _  ?_ ?_ _ _  S hF
  ·intro _ he T3 s4 tT hF
   have he := he.symm
   subst he
   try dsimp only at H
   refine go ?_
   have e := pur H; subst e
   exact rt [.bool true]
  ·intro r hr s' hs
   subst hr
   have e := pur H; subst e
   first | exact hs | (try simp only [sf, i6, zB, Fm.Qaa, Xpn.Qaa, Cor.Qaa, Bnd.Qaa, Hit.Qaa, Rul.Qaa, Mac.Qaa, Stp.Qaa, Val.Qaa] at hs ⊢; exact hs)
theorem Qlj : (∀ (a0 : Fm) (a1 : Fm) r, Qdl a0 a1 = some r -> Qdz Tryz.prog 78 [.agg (Fm.cells a0), .agg (Fm.cells a1)] (.bool r)) /\ (∀ (a0 : List Fm) (a1 : List Fm) r, Qas a0 a1 = some r -> Qdz Tryz.prog 112 [sf Fm.cells a0, sf Fm.cells a1, .fn 78 []] (.bool r)) := by
 have h := Qdl.mutual_partial_correctness  (motive_1 := fun a0 a1 r => Qdz Tryz.prog 78 [.agg (Fm.cells a0), .agg (Fm.cells a1)] (.bool r)) (motive_2 := fun a0 a1 r => Qdz Tryz.prog 112 [sf Fm.cells a0, sf Fm.cells a1, .fn 78 []] (.bool r)) (motive_3 := fun a0 a1 Qdc out => ∀ c, Qaq Tryz.f112 0 = some c -> ∀ (Q : AX -> AS -> Prop) (tt : Sto), (∀ (_u : Unit), out = Sum.inr () -> ∀ (T : Nat -> AV) (ss : Sto), 0 + 0 = 0 -> Fx tt ss [] [] -> Q (.ex 0) ⟨T, ss⟩) -> (∀ r, out = Sum.inl r -> ∀ s', Qi9 Tryz.prog [.tmp 6] (fun r' ss' => r' = .bool r /\ ss' = tt) s' -> Q .ret s') -> ∀ (T : Nat -> AV) (ss : Sto), T 1 = sf Fm.cells a1 /\ T 2 = .fn 78 [] /\ T 15 = sf Fm.cells a0 /\ T 16 = i6 (a0.length : Int) /\ T 17 = i6 Qdc -> Fx tt ss [] [] -> aLp Tryz.prog c Q ⟨T, ss⟩) ?s0 ?s1 ?s2
 ·exact ⟨h.1, h.2.1⟩
 ·intro Qas C1 a0 a1 r H
  intro ss
  refine Qaz mixed Tryz.func78 rfl (by kernel_rfl) (rs := [.tmp 4]) rfl (by kernel_rfl) ?_
  have hF := Fx.refl ss
  have hX := Tau.none ss
  have q := dum
  have tT := dum
  refine go ?_
  refine Qad hF rfl fun b1 ss2 hF => ?_
  refine go ?_
  refine Qad hF rfl fun b3 s4 hF => ?_
  refine go ?_
  obtain ⟨x16, g5, H⟩ := bnd H
  refine Qaj 5 11 16 (.bool x16) (gi q (fun q => ?_) (fun q => ?_)) (fun J => ?_)
  ·refine go ?_
   exact Qa8 11 g5
  ·refine go ?_
   exact Qa8 11 g5
  refine go ?_
  obtain ⟨x23, g7, H⟩ := bnd H
  refine Qaj 5 18 23 (.bool x23) (gi q (fun q => ?_) (fun q => ?_)) (fun J => ?_)
  ·refine go ?_
   exact Qa8 18 g7
  ·refine go ?_
   exact Qa8 18 g7
  refine go ?_
  obtain ⟨x30, g9, H⟩ := bnd H
  refine Qaj 5 25 30 (.bool x30) (gi q (fun q => ?_) (fun q => ?_)) (fun J => ?_)
  ·rw [if_pos (dbt q)] at g9
   refine go ?_
   obtain ⟨x29, hx29, g9⟩ := bnd g9
   refine cl (Qgc a0.sc a1.sc _ hx29) ?_
   refine go ?_
   exact Qa8 25 g9
  ·rw [if_neg (dbf q)] at g9
   refine go ?_
   exact Qa8 25 g9
  refine go ?_
  obtain ⟨x37, g11, H⟩ := bnd H
  refine Qaj 5 32 37 (.bool x37) (gi q (fun q => ?_) (fun q => ?_)) (fun J => ?_)
  ·rw [if_pos (dbt q)] at g11
   refine go ?_
   obtain ⟨x36, hx36, g11⟩ := bnd g11
   refine cl (C1 a0.kids a1.kids _ hx36) ?_
   refine go ?_
   exact Qa8 32 g11
  ·rw [if_neg (dbf q)] at g11
   refine go ?_
   exact Qa8 32 g11
  refine go ?_
  have e := pur H; subst e
  exact rt [.bool x37]
 ·intro Qah L0 a0 a1 r H
  intro ss
  refine Qaz mixed Tryz.func112 rfl (by kernel_rfl) (rs := [.tmp 6]) rfl (by kernel_rfl) ?_
  have hF := Fx.refl ss
  have hX := Tau.none ss
  have q := dum
  have tT := dum
  refine go ?_
  refine cdn H (fun h H => ?_) (fun h H => ?_)
  ·refine go ?_
   have e := pur H; subst e
   exact rt [.bool false]
  ·refine go ?_
   obtain ⟨o7, ho7, H⟩ := bnd H
   refine L0 a0 a1 0 _ ho7 _ rfl _ _  ?_ ?_ _ _  S hF
   ·intro _ he T9 s10 tT hF
    have he := he.symm
    subst he
    try dsimp only at H
    refine go ?_
    have e := pur H; subst e
    exact rt [.bool true]
   ·intro r hr s' hs
    subst hr
    have e := pur H; subst e
    first | exact hs | (try simp only [sf, i6, zB, Fm.Qaa, Xpn.Qaa, Cor.Qaa, Bnd.Qaa, Hit.Qaa, Rul.Qaa, Mac.Qaa, Stp.Qaa, Val.Qaa] at hs ⊢; exact hs)
 ·intro Qdl Qah C0 L0 a0 a1 Qdc out H c hc Q tt  hE hR T ss tT hF
  obtain rfl := lpe (rfl : Qaq Tryz.f112 0 = some _) hc
  refine Qak ?_
  have q := dum
  have hX := Tau.none tt
  refine go ?_
  refine cdp H (fun h H => ?_) (fun h H => ?_)
  ·obtain ⟨x20, f1, H⟩ := bil (g := Fm.cells) Fm.Qac H
   refine go1 ?_
   refine Qad hF rfl fun b1 ss2 hF => ?_
   refine go ?_
   refine st hF 0 rfl fun ss3 hF => ?_
   obtain ⟨x24, f1, H⟩ := bil (g := Fm.cells) Fm.Qac H
   refine go1 ?_
   refine Qad hF rfl fun b4 s5 hF => ?_
   refine go ?_
   refine st hF 0 rfl fun s6 hF => ?_
   refine go ?_
   obtain ⟨x29, hx29, H⟩ := bnd H
   refine cl (C0 x20 x24 _ hx29) ?_
   refine go ?_
   refine cdb H (fun h H => ?_) (fun h H => ?_)
   ·refine go ?_
    exact wq (hR _ (pur H).symm _ (rt [.bool false]))
   ·refine go ?_
    exact L0 a0 a1 (IntKind.i64.wrap (Qdc + 1)) _ H _ rfl Q tt  hE hR _ _  S (hF.drop 2 0)
  ·refine go ?_
   exact wq (hE () (pur H).symm _ _  S hF)
theorem Ql5 : ∀ (a0 : Fm) (a1 : Fm) r, Qdl a0 a1 = some r -> Qdz Tryz.prog 78 [.agg (Fm.cells a0), .agg (Fm.cells a1)] (.bool r) := Qlj.1
theorem Qlm : (∀ (a0 : Cor) (a1 : Cor) r, Qbk a0 a1 = some r -> Qdz Tryz.prog 45 [.agg (Cor.cells a0), .agg (Cor.cells a1)] (.bool r)) /\ (∀ (a0 : List Cor) (a1 : List Cor) r, Qar a0 a1 = some r -> Qdz Tryz.prog 79 [sf Cor.cells a0, sf Cor.cells a1, .fn 45 []] (.bool r)) := by
 have h := Qbk.mutual_partial_correctness  (motive_1 := fun a0 a1 r => Qdz Tryz.prog 45 [.agg (Cor.cells a0), .agg (Cor.cells a1)] (.bool r)) (motive_2 := fun a0 a1 r => Qdz Tryz.prog 79 [sf Cor.cells a0, sf Cor.cells a1, .fn 45 []] (.bool r)) (motive_3 := fun a0 a1 Qdc out => ∀ c, Qaq Tryz.f79 0 = some c -> ∀ (Q : AX -> AS -> Prop) (tt : Sto), (∀ (_u : Unit), out = Sum.inr () -> ∀ (T : Nat -> AV) (ss : Sto), 0 + 0 = 0 -> Fx tt ss [] [] -> Q (.ex 0) ⟨T, ss⟩) -> (∀ r, out = Sum.inl r -> ∀ s', Qi9 Tryz.prog [.tmp 6] (fun r' ss' => r' = .bool r /\ ss' = tt) s' -> Q .ret s') -> ∀ (T : Nat -> AV) (ss : Sto), T 1 = sf Cor.cells a1 /\ T 2 = .fn 45 [] /\ T 15 = sf Cor.cells a0 /\ T 16 = i6 (a0.length : Int) /\ T 17 = i6 Qdc -> Fx tt ss [] [] -> aLp Tryz.prog c Q ⟨T, ss⟩) ?s0 ?s1 ?s2
 ·exact ⟨h.1, h.2.1⟩
 ·intro Qar C1 a0 a1 r H
  intro ss
  refine Qaz mixed Tryz.func45 rfl (by kernel_rfl) (rs := [.tmp 4]) rfl (by kernel_rfl) ?_
  have hF := Fx.refl ss
  have hX := Tau.none ss
  have q := dum
  have tT := dum
  refine go ?_
  refine Qad hF rfl fun b1 ss2 hF => ?_
  refine go ?_
  refine Qad hF rfl fun b3 s4 hF => ?_
  refine go ?_
  obtain ⟨x16, g5, H⟩ := bnd H
  refine Qaj 5 11 16 (.bool x16) (gi q (fun q => ?_) (fun q => ?_)) (fun J => ?_)
  ·refine go ?_
   exact Qa8 11 g5
  ·refine go ?_
   exact Qa8 11 g5
  refine go ?_
  obtain ⟨x23, g7, H⟩ := bnd H
  refine Qaj 5 18 23 (.bool x23) (gi q (fun q => ?_) (fun q => ?_)) (fun J => ?_)
  ·refine go ?_
   exact Qa8 18 g7
  ·refine go ?_
   exact Qa8 18 g7
  refine go ?_
  obtain ⟨x30, g9, H⟩ := bnd H
  refine Qaj 5 25 30 (.bool x30) (gi q (fun q => ?_) (fun q => ?_)) (fun J => ?_)
  ·refine go ?_
   exact Qa8 25 g9
  ·refine go ?_
   exact Qa8 25 g9
  refine go ?_
  obtain ⟨x37, g11, H⟩ := bnd H
  refine Qaj 5 32 37 (.bool x37) (gi q (fun q => ?_) (fun q => ?_)) (fun J => ?_)
  ·rw [if_pos (dbt q)] at g11
   refine go ?_
   obtain ⟨x36, hx36, g11⟩ := bnd g11
   refine cl (Qgc a0.ids a1.ids _ hx36) ?_
   refine go ?_
   exact Qa8 32 g11
  ·rw [if_neg (dbf q)] at g11
   refine go ?_
   exact Qa8 32 g11
  refine go ?_
  obtain ⟨x44, g13, H⟩ := bnd H
  refine Qaj 5 39 44 (.bool x44) (gi q (fun q => ?_) (fun q => ?_)) (fun J => ?_)
  ·rw [if_pos (dbt q)] at g13
   refine go ?_
   obtain ⟨x43, hx43, g13⟩ := bnd g13
   refine cl (Ql5 a0.data a1.data _ hx43) ?_
   refine go ?_
   exact Qa8 39 g13
  ·rw [if_neg (dbf q)] at g13
   refine go ?_
   exact Qa8 39 g13
  refine go ?_
  obtain ⟨x51, g15, H⟩ := bnd H
  refine Qaj 5 46 51 (.bool x51) (gi q (fun q => ?_) (fun q => ?_)) (fun J => ?_)
  ·rw [if_pos (dbt q)] at g15
   refine go ?_
   obtain ⟨x50, hx50, g15⟩ := bnd g15
   refine cl (C1 a0.kids a1.kids _ hx50) ?_
   refine go ?_
   exact Qa8 46 g15
  ·rw [if_neg (dbf q)] at g15
   refine go ?_
   exact Qa8 46 g15
  refine go ?_
  have e := pur H; subst e
  exact rt [.bool x51]
 ·intro Qap L0 a0 a1 r H
  intro ss
  refine Qaz mixed Tryz.func79 rfl (by kernel_rfl) (rs := [.tmp 6]) rfl (by kernel_rfl) ?_
  have hF := Fx.refl ss
  have hX := Tau.none ss
  have q := dum
  have tT := dum
  refine go ?_
  refine cdn H (fun h H => ?_) (fun h H => ?_)
  ·refine go ?_
   have e := pur H; subst e
   exact rt [.bool false]
  ·refine go ?_
   obtain ⟨o7, ho7, H⟩ := bnd H
   refine L0 a0 a1 0 _ ho7 _ rfl _ _  ?_ ?_ _ _  S hF
   ·intro _ he T9 s10 tT hF
    have he := he.symm
    subst he
    try dsimp only at H
    refine go ?_
    have e := pur H; subst e
    exact rt [.bool true]
   ·intro r hr s' hs
    subst hr
    have e := pur H; subst e
    first | exact hs | (try simp only [sf, i6, zB, Fm.Qaa, Xpn.Qaa, Cor.Qaa, Bnd.Qaa, Hit.Qaa, Rul.Qaa, Mac.Qaa, Stp.Qaa, Val.Qaa] at hs ⊢; exact hs)
 ·intro Qbk Qap C0 L0 a0 a1 Qdc out H c hc Q tt  hE hR T ss tT hF
  obtain rfl := lpe (rfl : Qaq Tryz.f79 0 = some _) hc
  refine Qak ?_
  have q := dum
  have hX := Tau.none tt
  refine go ?_
  refine cdp H (fun h H => ?_) (fun h H => ?_)
  ·obtain ⟨x20, f1, H⟩ := bil (g := Cor.cells) Cor.Qac H
   refine go1 ?_
   refine Qad hF rfl fun b1 ss2 hF => ?_
   refine go ?_
   refine st hF 0 rfl fun ss3 hF => ?_
   obtain ⟨x24, f1, H⟩ := bil (g := Cor.cells) Cor.Qac H
   refine go1 ?_
   refine Qad hF rfl fun b4 s5 hF => ?_
   refine go ?_
   refine st hF 0 rfl fun s6 hF => ?_
   refine go ?_
   obtain ⟨x29, hx29, H⟩ := bnd H
   refine cl (C0 x20 x24 _ hx29) ?_
   refine go ?_
   refine cdb H (fun h H => ?_) (fun h H => ?_)
   ·refine go ?_
    exact wq (hR _ (pur H).symm _ (rt [.bool false]))
   ·refine go ?_
    exact L0 a0 a1 (IntKind.i64.wrap (Qdc + 1)) _ H _ rfl Q tt  hE hR _ _  S (hF.drop 2 0)
  ·refine go ?_
   exact wq (hE () (pur H).symm _ _  S hF)
theorem Qde : ∀ (a0 : Cor) (a1 : Cor) r, Qbk a0 a1 = some r -> Qdz Tryz.prog 45 [.agg (Cor.cells a0), .agg (Cor.cells a1)] (.bool r) := Qlm.1
theorem Qj5 : ∀ (a0 : Fm) (c0 : List Int) r, Qfu a0 c0 = some r -> ∀ (e0 : Nat) (Qp8 : AV) (ss : Sto), Pre ss [(e0, ⟨23, 1, [Qp8]⟩)] [⟨Qp8, 3, 1, rws cI c0⟩] -> Ctr Tryz.prog 109 [.agg (Fm.cells a0), .ptr e0 0] ss (fun r' ss' => ∃ (tt' : Sto) (Qzb : AV), r' = .tup [] /\ Tau (strip ss [⟨Qp8, 3, 1, rws cI c0⟩]) [(e0, ⟨23, 1, [Qzb]⟩)] tt' /\ Fx tt' ss' [] [⟨Qzb, 3, 1, rws cI r⟩]) := by
 intro a0 c0 r H
 intro e0 Qp8 ss hP
 unfold Qfu at H
 refine Qaz mixed Tryz.func109 rfl (by kernel_rfl) (rs := []) rfl (by kernel_rfl) ?_
 obtain ⟨hF, hX⟩ := hP.start
 generalize strip ss [⟨Qp8, 3, 1, rws cI c0⟩] = tt0 at hF hX ⊢
 have q := dum
 have tT := dum
 refine go ?_
 refine Qad hF rfl fun b1 ss2 hF => ?_
 refine go ?_
 refine apd (g := cI) hF 0 H (rdo (c := false) (g := cI) (fun _ => rfl)) fun x6 H v3 s4 hF => ?_
 refine go ?_
 refine stT hF hX 0 (hF.cells 0 rfl) fun t6 s5 hF hX => ?_
 refine go ?_
 have e := pur H; subst e
 exact rg [] ⟨_, _, rfl, hX, hF.pick [] [0] (by decide) (by decide)⟩
theorem Qf2 : ∀ (a0 : Fm) (c0 : List Int) r, Qax a0 c0 = some r -> ∀ (e0 : Nat) (Qp8 : AV) (ss : Sto), Pre ss [(e0, ⟨23, 1, [Qp8]⟩)] [⟨Qp8, 3, 1, rws cI c0⟩] -> Ctr Tryz.prog 108 [.agg (Fm.cells a0), .fn 109 [.ptr e0 0]] ss (fun r' ss' => ∃ (tt' : Sto) (Qzb : AV), r' = .tup [] /\ Tau (strip ss [⟨Qp8, 3, 1, rws cI c0⟩]) [(e0, ⟨23, 1, [Qzb]⟩)] tt' /\ Fx tt' ss' [] [⟨Qzb, 3, 1, rws cI r⟩]) := by
 refine Qax.partial_correctness  (motive_1 := fun a0 c0 r => ∀ (e0 : Nat) (Qp8 : AV) (ss : Sto), Pre ss [(e0, ⟨23, 1, [Qp8]⟩)] [⟨Qp8, 3, 1, rws cI c0⟩] -> Ctr Tryz.prog 108 [.agg (Fm.cells a0), .fn 109 [.ptr e0 0]] ss (fun r' ss' => ∃ (tt' : Sto) (Qzb : AV), r' = .tup [] /\ Tau (strip ss [⟨Qp8, 3, 1, rws cI c0⟩]) [(e0, ⟨23, 1, [Qzb]⟩)] tt' /\ Fx tt' ss' [] [⟨Qzb, 3, 1, rws cI r⟩])) (motive_2 := fun a0 Qag Qjp out => ∀ c, Qaq Tryz.f108 0 = some c -> ∀ (Q : AX -> AS -> Prop) (tt0 : Sto) (e0 : Nat) (b1 : Nat), (∀ (Qeh : List Int), out = Qeh -> ∀ (T : Nat -> AV) (ss : Sto) (tt : Sto) (e0v0 : AV), 0 + 0 = 0 -> Tau tt0 [(e0, ⟨23, 1, [e0v0]⟩)] tt -> Fx tt ss [(b1, ⟨26, 5, [i6 a0.kind, .str a0.name, i6 a0.num, sf cI a0.sc, sf Fm.cells a0.kids]⟩)] [⟨e0v0, 3, 1, rws cI Qeh⟩] -> Q (.ex 0) ⟨T, ss⟩) -> True -> ∀ (T : Nat -> AV) (ss : Sto) (tt : Sto) (z0v0 : AV), T 1 = .fn 109 [.ptr e0 0] /\ T 10 = sf Fm.cells a0.kids /\ T 11 = i6 (a0.kids.length : Int) /\ T 12 = i6 Qjp -> Tau tt0 [(e0, ⟨23, 1, [z0v0]⟩)] tt -> Fx tt ss [(b1, ⟨26, 5, [i6 a0.kind, .str a0.name, i6 a0.num, sf cI a0.sc, sf Fm.cells a0.kids]⟩)] [⟨z0v0, 3, 1, rws cI Qag⟩] -> aLp Tryz.prog c Q ⟨T, ss⟩) ?_ ?_
 ·intro Qat L0 a0 c0 r H
  intro e0 Qp8 ss hP
  refine Qaz mixed Tryz.func108 rfl (by kernel_rfl) (rs := []) rfl (by kernel_rfl) ?_
  obtain ⟨hF, hX⟩ := hP.start
  generalize strip ss [⟨Qp8, 3, 1, rws cI c0⟩] = tt0 at hF hX ⊢
  have q := dum
  have tT := dum
  refine go ?_
  refine Qad hF rfl fun b1 ss2 hF => ?_
  refine go ?_
  obtain ⟨x8, hx8, H⟩ := bnd H
  refine cx (Qj5 a0 c0 _ hx8 e0 Qp8 _ (pre 0 1 1 hF hX)) ?_
  rintro _ s4 ⟨tt5, v3, rfl, hT, hG⟩
  obtain ⟨t6, hX, hF⟩ := aft 0 1 1 hF hX hT hG
  refine go ?_
  obtain ⟨o14, ho14, H⟩ := bnd H
  refine L0 a0 x8 0 _ ho14 _ rfl _ tt0 e0 b1 ?_ ?_ _ _ _ v3 S hX hF
  ·intro Qdh he T16 s17 t18 e15v0 tT hX hF
   have he := he.symm
   subst he
   refine go ?_
   have e := pur H; subst e
   exact rg [] ⟨_, _, rfl, hX, hF.pick [] [0] (by decide) (by decide)⟩
  ·trivial
 ·intro Qax Qat C0 L0 a0 Qag Qjp out H c hc Q tt0 e0 b1 hE hR T ss tt z0v0 tT hX hF
  obtain rfl := lpe (rfl : Qaq Tryz.f108 0 = some _) hc
  refine Qak ?_
  have q := dum
  refine go ?_
  refine cdp H (fun h H => ?_) (fun h H => ?_)
  ·obtain ⟨x14, f1, H⟩ := bil (g := Fm.cells) Fm.Qac H
   refine go1 ?_
   refine Qad hF rfl fun b7 s8 hF => ?_
   refine go ?_
   refine st hF 0 rfl fun s9 hF => ?_
   refine go ?_
   obtain ⟨x18, hx18, H⟩ := bnd H
   refine cx (C0 x14 Qag _ hx18 e0 z0v0 _ (pre 0 1 1 hF hX)) ?_
   rintro _ s11 ⟨t12, v10, rfl, hT, hG⟩
   obtain ⟨t13, hX, hF⟩ := aft 0 1 1 hF hX hT hG
   refine go ?_
   exact L0 a0 x18 (IntKind.i64.wrap (Qjp + 1)) _ H _ rfl Q tt0 e0 b1 hE hR _ _ _ v10 S hX (hF.drop 1 0)
  ·refine go ?_
   exact wq (hE _ (pur H).symm _ _ _ z0v0 S hX hF)
theorem Qkz : ∀ (a0 : Int) r, Qf9 a0 = some r -> Qdz Tryz.prog 157 [.int .u64 a0] (i6 r) := by
 intro a0 r H
 intro ss
 unfold Qf9 at H
 split at H
 rotate_left
 ·cases H
 rename_i h0
 subst h0
 refine Qaz mixed Tryz.func157 rfl (by kernel_rfl) (rs := [.tmp 2]) rfl (by kernel_rfl) ?_
 have hF := Fx.refl ss
 have hX := Tau.none ss
 have q := dum
 have tT := dum
 refine goL ?_
 refine Qlc (fun h => absurd h (by decide)) (fun _ => ?_)
 refine goL ?_
 refine Qlc (fun h => absurd h (by decide)) (fun _ => ?_)
 refine goL ?_
 refine Qlc (fun h => absurd h (by decide)) (fun _ => ?_)
 refine goL ?_
 refine Qzr (v := .int .u8 0) (by kernel_rfl) ?_
 refine goL ?_
 have e := pur H; subst e
 exact rt [i6 (IntKind.i64.wrap (0 + (IntKind.i64.wrap 0)))]
theorem Qme : ∀ (a0 : Int) r, Qg4 a0 = some r -> Qdz Tryz.prog 131 [.int .u64 a0] (i6 r) := by
 intro a0 r H
 intro ss
 unfold Qg4 at H
 refine Qaz mixed Tryz.func131 rfl (by kernel_rfl) (rs := [.tmp 2]) rfl (by kernel_rfl) ?_
 have hF := Fx.refl ss
 have hX := Tau.none ss
 have q := dum
 have tT := dum
 refine go ?_
 obtain ⟨x7, hx7, H⟩ := bnd H
 refine cl (Qkz a0 _ hx7) ?_
 refine go ?_
 have e := pur H; subst e
 exact rt [i6 x7]
theorem Qin : ∀ (a0 : Int) r, Qg1 a0 = some r -> Qdz Tryz.prog 178 [i6 a0] (.bool r) := by
 intro a0 r H
 intro ss
 unfold Qg1 at H
 refine Qaz mixed Tryz.func178 rfl (by kernel_rfl) (rs := [.tmp 2]) rfl (by kernel_rfl) ?_
 have hF := Fx.refl ss
 have hX := Tau.none ss
 have q := dum
 have tT := dum
 refine go ?_
 have e := pur H; subst e
 exact rt [.bool (!decide (a0 = a0))]
theorem Qmw : ∀ (a0 : Int) (a1 : Int) r, Qiv a0 a1 = some r -> Qdz Tryz.prog 153 [i6 a0, i6 a1] (.bool r) := by
 intro a0 a1 r H
 intro ss
 unfold Qiv at H
 refine Qaz mixed Tryz.func153 rfl (by kernel_rfl) (rs := [.tmp 4]) rfl (by kernel_rfl) ?_
 have hF := Fx.refl ss
 have hX := Tau.none ss
 have q := dum
 have tT := dum
 refine go ?_
 obtain ⟨x6, hx6, H⟩ := bnd H
 refine cl (Qin a0 _ hx6) ?_
 refine go ?_
 obtain ⟨x11, g1, H⟩ := bnd H
 refine Qaj 3 8 11 (.bool x11) (gi q (fun q => ?_) (fun q => ?_)) (fun J => ?_)
 ·rw [if_pos (dbt q)] at g1
  refine go ?_
  obtain ⟨x9, hx9, g1⟩ := bnd g1
  refine cl (Qin a1 _ hx9) ?_
  refine go ?_
  exact Qa8 8 g1
 ·rw [if_neg (dbf q)] at g1
  refine go ?_
  exact Qa8 8 g1
 refine go ?_
 obtain ⟨x16, g3, H⟩ := bnd H
 refine Qaj 3 13 16 (.bool x16) (giN q (fun q => ?_) (fun q => ?_)) (fun J => ?_)
 ·refine go ?_
  exact Qa8 13 g3
 ·refine go ?_
  exact Qa8 13 g3
 refine go ?_
 have e := pur H; subst e
 exact rt [.bool x16]
theorem Qfm : ∀ (a0 : List Int) (a1 : Int) (a2 : Int) (Qgk : Int) out, Qb7 a0 a1 a2 Qgk = some out -> ∀ c, Qaq Tryz.f147 1 = some c -> ∀ (Q : AX -> AS -> Prop) (tt : Sto), (∀ (_u : Unit), out = () -> ∀ (T : Nat -> AV) (ss : Sto), T 0 = sf cI a0 /\ T 1 = i6 a1 /\ T 2 = i6 a2 /\ T 6 = i6 Qgk -> Fx tt ss [] [] -> Q (.ex 2) ⟨T, ss⟩) -> True -> ∀ (T : Nat -> AV) (ss : Sto), T 0 = sf cI a0 /\ T 1 = i6 a1 /\ T 2 = i6 a2 /\ T 6 = i6 Qgk /\ T 7 = i6 Qgk -> Fx tt ss [] [] -> aLp Tryz.prog c Q ⟨T, ss⟩ := by
 intro a0 a1 a2 Qgk out H c hc Q tt  hE hR T ss tT hF
 unfold Qb7 at H
 obtain rfl := lpe (rfl : Qaq Tryz.f147 1 = some _) hc
 refine Qak ?_
 have q := dum
 have hX := Tau.none tt
 refine go ?_
 refine Qa0 E0 [.v, .v, .v, .v, .v, .v, .v, .v, .v, .v, .v, .v, .v, .v, .v] (by kernel_rfl) ?_
 refine go ?_
 obtain ⟨x30, g1, H⟩ := bnd H
 refine Qgh 10 20 30 (.bool x30) (ti q (fun q => ?_) (fun q => ?_)) (fun J => ?_)
 ·rw [if_pos (dt q)] at g1
  obtain ⟨x22, f1, g1⟩ := bil (g := cI) (fun _ => rfl) g1
  obtain ⟨x27, f2, g1⟩ := bil (g := cI) (fun _ => rfl) g1
  refine go2 ?_
  obtain ⟨x29, hx29, g1⟩ := bnd g1
  refine cv (Qmw x22 x27 _ hx29) ?_
  refine go ?_
  exact Qa8 20 g1
 ·rw [if_neg (df q)] at g1
  refine go ?_
  exact Qa8 20 g1
 refine go ?_
 refine cdb H (fun h H => ?_) (fun h H => ?_)
 ·cases H
 ·refine go ?_
  exact wq (hE () (pur H).symm _ _  S hF)
theorem Qfl : ∀ (a0 : List Int) (a1 : Int) (a2 : Int) (Qgk : Int) out, Qa2 a0 a1 a2 Qgk = some out -> ∀ c, Qaq Tryz.f147 0 = some c -> ∀ (Q : AX -> AS -> Prop) (tt : Sto), (∀ (_u : Unit), out = () -> ∀ (T : Nat -> AV) (ss : Sto), 0 + 0 = 0 -> Fx tt ss [] [] -> Q (.ex 0) ⟨T, ss⟩) -> True -> ∀ (T : Nat -> AV) (ss : Sto), T 0 = sf cI a0 /\ T 1 = i6 a1 /\ T 2 = i6 a2 /\ T 6 = i6 Qgk -> Fx tt ss [] [] -> aLp Tryz.prog c Q ⟨T, ss⟩ := by
 intro a0 a1 a2 Qgk
 revert Qgk
 refine Qa2.partial_correctness a0 a1 a2 _ ?_
 intro Qa2 IH Qgk out H c hc Q tt  hE hR T ss tT hF
 obtain rfl := lpe (rfl : Qaq Tryz.f147 0 = some _) hc
 refine Qak ?_
 have q := dum
 have hX := Tau.none tt
 refine go ?_
 refine cdp H (fun h H => ?_) (fun h H => ?_)
 ·refine go ?_
  obtain ⟨o4, ho4, H⟩ := bnd H
  refine Qfm a0 a1 a2 Qgk  _ ho4 _ rfl _ _  ?_ ?_ _ _  S hF
  ·intro _ he T6 s7 tT hF
   have he := he.symm
   subst he
   try dsimp only at H
   refine go ?_
   exact IH  (IntKind.i64.wrap (Qgk + 1)) _ H _ rfl Q tt  hE hR _ _  S hF
  ·trivial
 ·refine go ?_
  exact wq (hE () (pur H).symm _ _  S hF)
theorem Qf3 : ∀ (a0 : List Int) (a1 : Int) (a2 : Int) r, Qbp a0 a1 a2 = some r -> Qdz Tryz.prog 147 [sf cI a0, i6 a1, i6 a2] (.tup []) := by
 intro a0 a1 a2 r H
 intro ss
 unfold Qbp at H
 refine Qaz mixed Tryz.func147 rfl (by kernel_rfl) (rs := []) rfl (by kernel_rfl) ?_
 have hF := Fx.refl ss
 have hX := Tau.none ss
 have q := dum
 have tT := dum
 refine go ?_
 obtain ⟨o9, ho9, H⟩ := bnd H
 refine Qfl a0 a1 a2 (IntKind.i64.wrap (a1 + 1)) _ ho9 _ rfl _ _  ?_ ?_ _ _  S hF
 ·intro _ he T11 s12 tT hF
  have he := he.symm
  subst he
  try dsimp only at H
  refine go ?_
  have e := pur H; subst e
  exact rt []
 ·trivial
theorem Qgo : ∀ (a0 : List Int) (a1 : Int) (a2 : Int) (a3 : Int) out, Qb5 a0 a1 a2 a3 = some out -> ∀ c, Qaq Tryz.f130 0 = some c -> ∀ (Q : AX -> AS -> Prop) (tt : Sto), True -> (∀ r, out = r -> ∀ s', Qi9 Tryz.prog [] (fun r' ss' => r' = .tup [] /\ ss' = tt) s' -> Q .ret s') -> ∀ (T : Nat -> AV) (ss : Sto), T 0 = sf cI a0 /\ T 1 = i6 a1 /\ T 2 = i6 a2 /\ T 3 = i6 a3 /\ T 8 = .bool true /\ T 9 = .bool true -> Fx tt ss [] [] -> aLp Tryz.prog c Q ⟨T, ss⟩ := by
 intro a0 a1 a2 a3 out H c hc Q tt  hE hR T ss tT hF
 unfold Qb5 at H
 obtain rfl := lpe (rfl : Qaq Tryz.f130 0 = some _) hc
 refine Qak ?_
 have q := dum
 have hX := Tau.none tt
 refine go ?_
 refine cdp H (fun h H => ?_) (fun h H => ?_)
 ·refine go ?_
  obtain ⟨x27, hx27, H⟩ := bnd H
  refine cl (Qf3 a0 a1 a2 _ hx27) ?_
  refine go ?_
  exact wq (hR _ (pur H).symm _ (rt []))
 ·refine go ?_
  refine cdp H (fun h H => ?_) (fun h H => ?_)
  ·cases H
  ·cases H
theorem Qg7 : ∀ (a0 : List Int) (a1 : Int) (a2 : Int) (a3 : Int) r, Qcy a0 a1 a2 a3 = some r -> Qdz Tryz.prog 130 [sf cI a0, i6 a1, i6 a2, i6 a3] (.tup []) := by
 intro a0 a1 a2 a3 r H
 intro ss
 unfold Qcy at H
 refine Qaz mixed Tryz.func130 rfl (by kernel_rfl) (rs := []) rfl (by kernel_rfl) ?_
 have hF := Fx.refl ss
 have hX := Tau.none ss
 have q := dum
 have tT := dum
 refine go ?_
 obtain ⟨o1, ho1, H⟩ := bnd H
 refine Qgo a0 a1 a2 a3  _ ho1 _ rfl _ _  ?_ ?_ _ _  S hF
 ·trivial
 ·intro r hr s' hs
  subst hr
  have e := pur H; subst e
  first | exact hs | (try simp only [sf, i6, zB, Fm.Qaa, Xpn.Qaa, Cor.Qaa, Bnd.Qaa, Hit.Qaa, Rul.Qaa, Mac.Qaa, Stp.Qaa, Val.Qaa] at hs ⊢; exact hs)
theorem Qiq : ∀ (a0 : List Int) r, Qdv a0 = some r -> Qdz Tryz.prog 110 [sf cI a0] (.tup []) := by
 intro a0 r H
 intro ss
 unfold Qdv at H
 refine Qaz mixed Tryz.func110 rfl (by kernel_rfl) (rs := []) rfl (by kernel_rfl) ?_
 have hF := Fx.refl ss
 have hX := Tau.none ss
 have q := dum
 have tT := dum
 refine go ?_
 obtain ⟨x9, hx9, H⟩ := bnd H
 refine cl (Qme (IntKind.u64.wrap (a0.length : Int)) _ hx9) ?_
 refine go ?_
 obtain ⟨x10, hx10, H⟩ := bnd H
 refine cl (Qg7 a0 0 (a0.length : Int) x9 _ hx10) ?_
 refine go ?_
 have e := pur H; subst e
 exact rt []
theorem Qg6 : ∀ (a0 : List Int) (Qbr : Int) out, Qbw a0 Qbr = some out -> ∀ c, Qaq Tryz.f111 0 = some c -> ∀ (Q : AX -> AS -> Prop) (tt : Sto), (∀ (_u : Unit), out = () -> ∀ (T : Nat -> AV) (ss : Sto), T 0 = sf cI a0 -> Fx tt ss [] [] -> Q (.ex 0) ⟨T, ss⟩) -> True -> ∀ (T : Nat -> AV) (ss : Sto), T 0 = sf cI a0 /\ T 3 = i6 Qbr -> Fx tt ss [] [] -> aLp Tryz.prog c Q ⟨T, ss⟩ := by
 intro a0 Qbr
 revert Qbr
 refine Qbw.partial_correctness a0 _ ?_
 intro Qbw IH Qbr out H c hc Q tt  hE hR T ss tT hF
 obtain rfl := lpe (rfl : Qaq Tryz.f111 0 = some _) hc
 refine Qak ?_
 have q := dum
 have hX := Tau.none tt
 refine go ?_
 refine cdp H (fun h H => ?_) (fun h H => ?_)
 ·refine go ?_
  refine Qa0 E0 [.v, .v, .v, .v, .v, .v, .v, .v, .v, .v] (by kernel_rfl) ?_
  obtain ⟨x18, f1, H⟩ := bil (g := cI) (fun _ => rfl) H
  obtain ⟨x23, f2, H⟩ := bil (g := cI) (fun _ => rfl) H
  refine go2 ?_
  refine go ?_
  refine cdp H (fun h H => ?_) (fun h H => ?_)
  ·cases H
  ·refine go ?_
   exact IH  (IntKind.i64.wrap (Qbr + 1)) _ H _ rfl Q tt  hE hR _ _  S hF
 ·refine go ?_
  exact wq (hE () (pur H).symm _ _  S hF)
theorem Qh2 : ∀ (a0 : List Int) r, Qdy a0 = some r -> Qdz Tryz.prog 111 [sf cI a0] (sf cI r) := by
 intro a0 r H
 intro ss
 unfold Qdy at H
 refine Qaz mixed Tryz.func111 rfl (by kernel_rfl) (rs := [.tmp 2]) rfl (by kernel_rfl) ?_
 have hF := Fx.refl ss
 have hX := Tau.none ss
 have q := dum
 have tT := dum
 refine go ?_
 refine cdp H (fun h H => ?_) (fun h H => ?_)
 ·refine go ?_
  have e := pur H; subst e
  exact rt [sf cI a0]
 ·refine go ?_
  obtain ⟨o7, ho7, H⟩ := bnd H
  refine Qg6 a0 1 _ ho7 _ rfl _ _  ?_ ?_ _ _  S hF
  ·intro _ he T9 s10 tT hF
   have he := he.symm
   subst he
   try dsimp only at H
   refine go ?_
   have e := pur H; subst e
   exact rt [sf cI a0]
  ·trivial
theorem Ql7 : ∀ (a0 : Fm) r, Qfb a0 = some r -> Qdz Tryz.prog 75 [.agg (Fm.cells a0)] (sf cI r) := by
 intro a0 r H
 intro ss
 unfold Qfb at H
 refine Qaz mixed Tryz.func75 rfl (by kernel_rfl) (rs := [.tmp 2]) rfl (by kernel_rfl) ?_
 have hF := Fx.refl ss
 have hX := Tau.none ss
 have q := dum
 have tT := dum
 refine go ?_
 refine Qad hF rfl fun b1 ss2 hF => ?_
 refine go ?_
 refine Qad hF rfl fun b3 s4 hF => ?_
 refine go ?_
 refine st hF 0 rfl fun s5 hF => ?_
 refine go ?_
 obtain ⟨x6, hx6, H⟩ := bnd H
 refine cl (Qfa a0 _ hx6) ?_
 refine go ?_
 refine cdb H (fun h H => ?_) (fun h H => ?_)
 ·refine go ?_
  have e := pur H; subst e
  exact rt [.sl true (rws cI [])]
 ·have hF := hF.lit 3 1 (rws cI []) rfl
  refine go ?_
  obtain ⟨x11, hx11, H⟩ := bnd H
  refine cx (Qf2 a0 [] _ hx11 b3 (.sl true (rws cI [])) _ (pre 1 0 1 hF hX)) ?_
  rintro _ s7 ⟨t8, v6, rfl, hT, hG⟩
  have hF := Quc 1 1 hF hX hT hG
  refine go ?_
  obtain ⟨x13, hx13, H⟩ := bnd H
  refine Qh6 (Qiq x11 _ hx13) .unit (.cons ((hF.wk 0 rfl).trans (Wk.sub (Sub.zero _) _)) (fun _ => rfl) .nil) ?_
  refine go ?_
  obtain ⟨x15, hx15, H⟩ := bnd H
  obtain ⟨s10, hF, hw11, hb12, hz13⟩ := frz hF 0
  refine Qn5 (Qh2 x11 _ hx15 _) (.cons hw11 (fun _ => rfl) .nil) hb12 ?_
  rintro _ _ ⟨rfl, rfl⟩
  refine go ?_
  have e := pur H; subst e
  exact rt [sf cI x15]
theorem Qhs : ∀ (a0 : List Int) r, Qeo a0 = some r -> ∀ (ss : Sto), Pre ss [] [] -> Ctr Tryz.prog 76 [.sl (false) (rws cI a0)] ss (fun r' ss' => ∃ (tt' : Sto) (w0 : AV), r' = w0 /\ Tau (strip ss []) [] tt' /\ Fx tt' ss' [] [⟨w0, 3, 1, rws cI r⟩]) := by
 intro a0 r H ss hP
 unfold Qeo at H
 refine Qaz mixed Tryz.func76 rfl (by kernel_rfl) (rs := [.tmp 2]) rfl (by kernel_rfl) ?_
 obtain ⟨hF, hX⟩ := hP.start
 generalize strip ss [] = tt0 at hF hX ⊢
 have q := dum
 have tT := dum
 have hF := hF.lit 3 1 (rws cI []) rfl
 cases a0 with
 | nil =>
  obtain ⟨rfl, _⟩ := Qlo H
  refine go ?_
  refine Qty ?_ ?_
  ·have hF := hF.nil 3 1
   refine go ?_
   exact rg [.Qab] ⟨_, _, rfl, hX, hF.pick [] [0] (by decide) (by decide)⟩
  ·refine go ?_
   refine Qpi hF 0 (g := cI) (xs := []) (ys := []) rfl (by decide) (by decide) (RdL.of (c := false) (fun _ => rfl) (by first | rfl | simp only [Qd5, Qfj, cI, cU, cS, cL])) H fun v1 ss1 hF => ?_
   refine go ?_
   exact rg [v1] ⟨_, _, rfl, hX, hF.pick [] [0] (by decide) (by decide)⟩
 | cons x xs =>
  refine go ?_
  refine Qpi hF 0 (g := cI) (xs := []) (ys := x :: xs) rfl (by decide) (by decide) (RdL.of (c := false) (fun _ => rfl) (by first | rfl | simp only [Qd5, Qfj, cI, cU, cS, cL])) H fun v1 ss1 hF => ?_
  refine go ?_
  exact rg [v1] ⟨_, _, rfl, hX, hF.pick [] [0] (by decide) (by decide)⟩
theorem Qll : ∀ (a0 : Cor) (a2 : Int) (c0 : Int) (Qag : List Int) (Qjx : Int) out, Qfo a0 a2 c0 Qag Qjx = some out -> ∀ c, Qaq Tryz.f44 0 = some c -> ∀ (Q : AX -> AS -> Prop) (tt0 : Sto) (e0 : Nat) (b1 : Nat) (b7 : Nat), (∀ (Qeh : List Int), out = Sum.inr Qeh -> ∀ (T : Nat -> AV) (ss : Sto) (tt : Sto), T 2 = i6 a2 /\ T 3 = .ptr e0 0 /\ T 4 = .ptr b1 0 /\ T 9 = .ptr b7 0 /\ T 10 = i6 1 /\ T 11 = sf cI Qeh -> Tau tt0 [(e0, ⟨3, 1, [i6 (IntKind.i64.wrap (c0 - 1))]⟩)] tt -> Fx tt ss [(b7, ⟨31, 11, [i6 a0.kind, i6 0, .str zB, i6 0, sf cI a0.ids, i6 0, .str zB, i6 0, .Qab, .Qab, sf Cor.cells a0.kids]⟩), (b1, ⟨31, 11, [i6 a0.kind, i6 a0.id, .str a0.name, i6 a0.num, sf cI a0.ids, i6 a0.data.kind, .str a0.data.name, i6 a0.data.num, sf cI a0.data.sc, sf Fm.cells a0.data.kids, sf Cor.cells a0.kids]⟩)] [] -> Q (.ex 1) ⟨T, ss⟩) -> (∀ r, out = Sum.inl r -> ∀ s', Qi9 Tryz.prog [.tmp 8] (fun r' ss' => ∃ (tt' : Sto), r' = .bool r.1 /\ Tau tt0 [(e0, ⟨3, 1, [i6 r.2]⟩)] tt' /\ Fx tt' ss' [] []) s' -> Q .ret s') -> ∀ (T : Nat -> AV) (ss : Sto) (tt : Sto) (z0v0 : AV), T 2 = i6 a2 /\ T 3 = .ptr e0 0 /\ T 4 = .ptr b1 0 /\ T 9 = .ptr b7 0 /\ T 10 = i6 1 /\ T 11 = z0v0 /\ T 95 = sf cI a0.ids /\ T 96 = i6 (a0.ids.length : Int) /\ T 97 = i6 Qjx -> Tau tt0 [(e0, ⟨3, 1, [i6 (IntKind.i64.wrap (c0 - 1))]⟩)] tt -> Fx tt ss [(b7, ⟨31, 11, [i6 a0.kind, i6 0, .str zB, i6 0, sf cI a0.ids, i6 0, .str zB, i6 0, .Qab, .Qab, sf Cor.cells a0.kids]⟩), (b1, ⟨31, 11, [i6 a0.kind, i6 a0.id, .str a0.name, i6 a0.num, sf cI a0.ids, i6 a0.data.kind, .str a0.data.name, i6 a0.data.num, sf cI a0.data.sc, sf Fm.cells a0.data.kids, sf Cor.cells a0.kids]⟩)] [⟨z0v0, 3, 1, rws cI Qag⟩] -> aLp Tryz.prog c Q ⟨T, ss⟩ := by
 intro a0 a2 c0 Qag Qjx
 revert Qag Qjx
 refine Qfo.partial_correctness a0 a2 c0 _ ?_
 intro Qfo IH Qag Qjx out H c hc Q tt0 e0 b1 b7 hE hR T ss tt z0v0 tT hX hF
 obtain rfl := lpe (rfl : Qaq Tryz.f44 0 = some _) hc
 refine Qak ?_
 have q := dum
 refine go ?_
 refine cdp H (fun h H => ?_) (fun h H => ?_)
 ·obtain ⟨x99, f1, H⟩ := bil (g := cI) (fun _ => rfl) H
  refine go1 ?_
  refine go ?_
  obtain ⟨x102, hx102, H⟩ := bnd H
  refine cl (Qec x99 1 999 _ hx102) ?_
  refine go ?_
  obtain ⟨x108, g75, H⟩ := bnd H
  refine Qaj 3 105 108 (.bool x108) (giN q (fun q => ?_) (fun q => ?_)) (fun J => ?_)
  ·rw [if_neg (dbf q)] at g75
   refine go ?_
   obtain ⟨x107, hx107, g75⟩ := bnd g75
   refine Qh6 (Qfg Qag x99 _ hx107) .bool (.cons ((hF.wk 0 rfl).trans (Wk.sub (Sub.zero _) _)) (fun _ => rfl) (.cons (Wk.sub (Sub.zero _) _) id .nil)) ?_
   refine go ?_
   exact Qa8 105 g75
  ·rw [if_pos (dbt q)] at g75
   refine go ?_
   exact Qa8 105 g75
  refine go ?_
  refine cdb H (fun h H => ?_) (fun h H => ?_)
  ·refine go ?_
   exact wq (hR _ (pur H).symm _ (rg [.bool false] ⟨_, rfl, hX, Fx.self _⟩))
  ·refine go ?_
   refine apd (g := cI) hF 0 H (rdo (c := true) (g := cI) (fun _ => rfl)) fun x112 H v77 s78 hF => ?_
   refine go ?_
   exact IH  x112 (IntKind.i64.wrap (Qjx + 1)) _ H _ rfl Q tt0 e0 b1 b7 hE hR _ _ _ v77 S hX hF
 ·refine go ?_
  obtain ⟨s79, hF, hw80, hb81, hz82⟩ := frz hF 0
  exact Q35 11 S hw80 hb81 (hE _ (pur H).symm _ _ _  S hX hF)
theorem Qnq : ∀ (a0 : Cor) (a1 : List Int) (a2 : Int) (c0 : Int) r, Qbe a0 a1 a2 c0 = some r -> ∀ (e0 : Nat)  (ss : Sto), Pre ss [(e0, ⟨3, 1, [i6 c0]⟩)] [] -> Ctr Tryz.prog 44 [.agg (Cor.cells a0), sf cI a1, i6 a2, .ptr e0 0] ss (fun r' ss' => ∃ (tt' : Sto), r' = .bool r.1 /\ Tau (strip ss []) [(e0, ⟨3, 1, [i6 r.2]⟩)] tt' /\ Fx tt' ss' [] []) := by
 refine Qbe.partial_correctness  (motive_1 := fun a0 a1 a2 c0 r => ∀ (e0 : Nat)  (ss : Sto), Pre ss [(e0, ⟨3, 1, [i6 c0]⟩)] [] -> Ctr Tryz.prog 44 [.agg (Cor.cells a0), sf cI a1, i6 a2, .ptr e0 0] ss (fun r' ss' => ∃ (tt' : Sto), r' = .bool r.1 /\ Tau (strip ss []) [(e0, ⟨3, 1, [i6 r.2]⟩)] tt' /\ Fx tt' ss' [] [])) (motive_2 := fun a0 a1 a2 Qay Qal out => ∀ c, Qaq Tryz.f44 1 = some c -> ∀ (Q : AX -> AS -> Prop) (tt0 : Sto) (e0 : Nat) (b1 : Nat) (b7 : Nat), (∀ (Qc2 : Int), out = Sum.inr Qc2 -> ∀ (T : Nat -> AV) (ss : Sto) (tt : Sto), 0 + 0 = 0 -> Tau tt0 [(e0, ⟨3, 1, [i6 Qc2]⟩)] tt -> Fx tt ss [(b7, ⟨31, 11, [i6 a0.kind, i6 0, .str zB, i6 0, .Qab, i6 0, .str zB, i6 0, .Qab, .Qab, sf Cor.cells a0.kids]⟩), (b1, ⟨31, 11, [i6 a0.kind, i6 a0.id, .str a0.name, i6 a0.num, sf cI a0.ids, i6 a0.data.kind, .str a0.data.name, i6 a0.data.num, sf cI a0.data.sc, sf Fm.cells a0.data.kids, sf Cor.cells a0.kids]⟩)] [] -> Q (.ex 3) ⟨T, ss⟩) -> (∀ r, out = Sum.inl r -> ∀ s', Qi9 Tryz.prog [.tmp 8] (fun r' ss' => ∃ (tt' : Sto), r' = .bool r.1 /\ Tau tt0 [(e0, ⟨3, 1, [i6 r.2]⟩)] tt' /\ Fx tt' ss' [] []) s' -> Q .ret s') -> ∀ (T : Nat -> AV) (ss : Sto) (tt : Sto), T 2 = i6 a2 /\ T 3 = .ptr e0 0 /\ T 11 = sf cI a1 /\ T 134 = sf Cor.cells a0.kids /\ T 135 = i6 (a0.kids.length : Int) /\ T 136 = i6 Qay -> Tau tt0 [(e0, ⟨3, 1, [i6 Qal]⟩)] tt -> Fx tt ss [(b7, ⟨31, 11, [i6 a0.kind, i6 0, .str zB, i6 0, .Qab, i6 0, .str zB, i6 0, .Qab, .Qab, sf Cor.cells a0.kids]⟩), (b1, ⟨31, 11, [i6 a0.kind, i6 a0.id, .str a0.name, i6 a0.num, sf cI a0.ids, i6 a0.data.kind, .str a0.data.name, i6 a0.data.num, sf cI a0.data.sc, sf Fm.cells a0.data.kids, sf Cor.cells a0.kids]⟩)] [] -> aLp Tryz.prog c Q ⟨T, ss⟩) (motive_3 := fun a0 a1 a2 Qay Qal out => ∀ c, Qaq Tryz.f44 1 = some c -> ∀ (Q : AX -> AS -> Prop) (tt0 : Sto) (e0 : Nat) (b1 : Nat) (b7 : Nat), (∀ (Qc2 : Int), out = Sum.inr Qc2 -> ∀ (T : Nat -> AV) (ss : Sto) (tt : Sto), 0 + 0 = 0 -> Tau tt0 [(e0, ⟨3, 1, [i6 Qc2]⟩)] tt -> Fx tt ss [(b7, ⟨31, 11, [i6 a0.kind, i6 0, .str zB, i6 0, .Qab, i6 0, .str zB, i6 0, .Qab, .Qab, sf Cor.cells a0.kids]⟩), (b1, ⟨31, 11, [i6 a0.kind, i6 a0.id, .str a0.name, i6 a0.num, sf cI a0.ids, i6 a0.data.kind, .str a0.data.name, i6 a0.data.num, sf cI a0.data.sc, sf Fm.cells a0.data.kids, sf Cor.cells a0.kids]⟩)] [] -> Q (.ex 3) ⟨T, ss⟩) -> (∀ r, out = Sum.inl r -> ∀ s', Qi9 Tryz.prog [.tmp 8] (fun r' ss' => ∃ (tt' : Sto), r' = .bool r.1 /\ Tau tt0 [(e0, ⟨3, 1, [i6 r.2]⟩)] tt' /\ Fx tt' ss' [] []) s' -> Q .ret s') -> ∀ (T : Nat -> AV) (ss : Sto) (tt : Sto), T 2 = i6 a2 /\ T 3 = .ptr e0 0 /\ T 11 = sf cI a1 /\ T 134 = sf Cor.cells a0.kids /\ T 135 = i6 (a0.kids.length : Int) /\ T 136 = i6 Qay -> Tau tt0 [(e0, ⟨3, 1, [i6 Qal]⟩)] tt -> Fx tt ss [(b7, ⟨31, 11, [i6 a0.kind, i6 0, .str zB, i6 0, .Qab, i6 0, .str zB, i6 0, .Qab, .Qab, sf Cor.cells a0.kids]⟩), (b1, ⟨31, 11, [i6 a0.kind, i6 a0.id, .str a0.name, i6 a0.num, sf cI a0.ids, i6 a0.data.kind, .str a0.data.name, i6 a0.data.num, sf cI a0.data.sc, sf Fm.cells a0.data.kids, sf Cor.cells a0.kids]⟩)] [] -> aLp Tryz.prog c Q ⟨T, ss⟩) (motive_4 := fun a0 a2 Qhg Qay Qal out => ∀ c, Qaq Tryz.f44 1 = some c -> ∀ (Q : AX -> AS -> Prop) (tt0 : Sto) (e0 : Nat) (b1 : Nat) (b7 : Nat), (∀ (Qc2 : Int), out = Sum.inr Qc2 -> ∀ (T : Nat -> AV) (ss : Sto) (tt : Sto), 0 + 0 = 0 -> Tau tt0 [(e0, ⟨3, 1, [i6 Qc2]⟩)] tt -> Fx tt ss [(b7, ⟨31, 11, [i6 a0.kind, i6 0, .str zB, i6 0, sf cI a0.ids, i6 0, .str zB, i6 0, .Qab, .Qab, sf Cor.cells a0.kids]⟩), (b1, ⟨31, 11, [i6 a0.kind, i6 a0.id, .str a0.name, i6 a0.num, sf cI a0.ids, i6 a0.data.kind, .str a0.data.name, i6 a0.data.num, sf cI a0.data.sc, sf Fm.cells a0.data.kids, sf Cor.cells a0.kids]⟩)] [] -> Q (.ex 3) ⟨T, ss⟩) -> (∀ r, out = Sum.inl r -> ∀ s', Qi9 Tryz.prog [.tmp 8] (fun r' ss' => ∃ (tt' : Sto), r' = .bool r.1 /\ Tau tt0 [(e0, ⟨3, 1, [i6 r.2]⟩)] tt' /\ Fx tt' ss' [] []) s' -> Q .ret s') -> ∀ (T : Nat -> AV) (ss : Sto) (tt : Sto), T 2 = i6 a2 /\ T 3 = .ptr e0 0 /\ T 11 = sf cI Qhg /\ T 134 = sf Cor.cells a0.kids /\ T 135 = i6 (a0.kids.length : Int) /\ T 136 = i6 Qay -> Tau tt0 [(e0, ⟨3, 1, [i6 Qal]⟩)] tt -> Fx tt ss [(b7, ⟨31, 11, [i6 a0.kind, i6 0, .str zB, i6 0, sf cI a0.ids, i6 0, .str zB, i6 0, .Qab, .Qab, sf Cor.cells a0.kids]⟩), (b1, ⟨31, 11, [i6 a0.kind, i6 a0.id, .str a0.name, i6 a0.num, sf cI a0.ids, i6 a0.data.kind, .str a0.data.name, i6 a0.data.num, sf cI a0.data.sc, sf Fm.cells a0.data.kids, sf Cor.cells a0.kids]⟩)] [] -> aLp Tryz.prog c Q ⟨T, ss⟩) (motive_5 := fun a0 a1 a2 Qay Qal out => ∀ c, Qaq Tryz.f44 1 = some c -> ∀ (Q : AX -> AS -> Prop) (tt0 : Sto) (e0 : Nat) (b1 : Nat) (b7 : Nat), (∀ (Qc2 : Int), out = Sum.inr Qc2 -> ∀ (T : Nat -> AV) (ss : Sto) (tt : Sto), 0 + 0 = 0 -> Tau tt0 [(e0, ⟨3, 1, [i6 Qc2]⟩)] tt -> Fx tt ss [(b7, ⟨31, 11, [i6 a0.kind, i6 0, .str zB, i6 0, .Qab, i6 a0.data.kind, .str a0.data.name, i6 a0.data.num, sf cI a0.data.sc, sf Fm.cells a0.data.kids, sf Cor.cells a0.kids]⟩), (b1, ⟨31, 11, [i6 a0.kind, i6 a0.id, .str a0.name, i6 a0.num, sf cI a0.ids, i6 a0.data.kind, .str a0.data.name, i6 a0.data.num, sf cI a0.data.sc, sf Fm.cells a0.data.kids, sf Cor.cells a0.kids]⟩)] [] -> Q (.ex 3) ⟨T, ss⟩) -> (∀ r, out = Sum.inl r -> ∀ s', Qi9 Tryz.prog [.tmp 8] (fun r' ss' => ∃ (tt' : Sto), r' = .bool r.1 /\ Tau tt0 [(e0, ⟨3, 1, [i6 r.2]⟩)] tt' /\ Fx tt' ss' [] []) s' -> Q .ret s') -> ∀ (T : Nat -> AV) (ss : Sto) (tt : Sto), T 2 = i6 a2 /\ T 3 = .ptr e0 0 /\ T 11 = sf cI a1 /\ T 134 = sf Cor.cells a0.kids /\ T 135 = i6 (a0.kids.length : Int) /\ T 136 = i6 Qay -> Tau tt0 [(e0, ⟨3, 1, [i6 Qal]⟩)] tt -> Fx tt ss [(b7, ⟨31, 11, [i6 a0.kind, i6 0, .str zB, i6 0, .Qab, i6 a0.data.kind, .str a0.data.name, i6 a0.data.num, sf cI a0.data.sc, sf Fm.cells a0.data.kids, sf Cor.cells a0.kids]⟩), (b1, ⟨31, 11, [i6 a0.kind, i6 a0.id, .str a0.name, i6 a0.num, sf cI a0.ids, i6 a0.data.kind, .str a0.data.name, i6 a0.data.num, sf cI a0.data.sc, sf Fm.cells a0.data.kids, sf Cor.cells a0.kids]⟩)] [] -> aLp Tryz.prog c Q ⟨T, ss⟩) (motive_6 := fun a0 a1 a2 Qay Qal out => ∀ c, Qaq Tryz.f44 1 = some c -> ∀ (Q : AX -> AS -> Prop) (tt0 : Sto) (e0 : Nat) (b1 : Nat) (b7 : Nat), (∀ (Qc2 : Int), out = Sum.inr Qc2 -> ∀ (T : Nat -> AV) (ss : Sto) (tt : Sto), 0 + 0 = 0 -> Tau tt0 [(e0, ⟨3, 1, [i6 Qc2]⟩)] tt -> Fx tt ss [(b7, ⟨31, 11, [i6 a0.kind, i6 0, .str zB, i6 a0.num, .Qab, i6 0, .str zB, i6 0, .Qab, .Qab, sf Cor.cells a0.kids]⟩), (b1, ⟨31, 11, [i6 a0.kind, i6 a0.id, .str a0.name, i6 a0.num, sf cI a0.ids, i6 a0.data.kind, .str a0.data.name, i6 a0.data.num, sf cI a0.data.sc, sf Fm.cells a0.data.kids, sf Cor.cells a0.kids]⟩)] [] -> Q (.ex 3) ⟨T, ss⟩) -> (∀ r, out = Sum.inl r -> ∀ s', Qi9 Tryz.prog [.tmp 8] (fun r' ss' => ∃ (tt' : Sto), r' = .bool r.1 /\ Tau tt0 [(e0, ⟨3, 1, [i6 r.2]⟩)] tt' /\ Fx tt' ss' [] []) s' -> Q .ret s') -> ∀ (T : Nat -> AV) (ss : Sto) (tt : Sto), T 2 = i6 a2 /\ T 3 = .ptr e0 0 /\ T 11 = sf cI a1 /\ T 134 = sf Cor.cells a0.kids /\ T 135 = i6 (a0.kids.length : Int) /\ T 136 = i6 Qay -> Tau tt0 [(e0, ⟨3, 1, [i6 Qal]⟩)] tt -> Fx tt ss [(b7, ⟨31, 11, [i6 a0.kind, i6 0, .str zB, i6 a0.num, .Qab, i6 0, .str zB, i6 0, .Qab, .Qab, sf Cor.cells a0.kids]⟩), (b1, ⟨31, 11, [i6 a0.kind, i6 a0.id, .str a0.name, i6 a0.num, sf cI a0.ids, i6 a0.data.kind, .str a0.data.name, i6 a0.data.num, sf cI a0.data.sc, sf Fm.cells a0.data.kids, sf Cor.cells a0.kids]⟩)] [] -> aLp Tryz.prog c Q ⟨T, ss⟩) (motive_7 := fun a0 a1 a2 Qay Qal out => ∀ c, Qaq Tryz.f44 1 = some c -> ∀ (Q : AX -> AS -> Prop) (tt0 : Sto) (e0 : Nat) (b1 : Nat) (b7 : Nat), (∀ (Qc2 : Int), out = Sum.inr Qc2 -> ∀ (T : Nat -> AV) (ss : Sto) (tt : Sto), 0 + 0 = 0 -> Tau tt0 [(e0, ⟨3, 1, [i6 Qc2]⟩)] tt -> Fx tt ss [(b7, ⟨31, 11, [i6 a0.kind, i6 0, .str a0.name, i6 0, .Qab, i6 0, .str zB, i6 0, .Qab, .Qab, sf Cor.cells a0.kids]⟩), (b1, ⟨31, 11, [i6 a0.kind, i6 a0.id, .str a0.name, i6 a0.num, sf cI a0.ids, i6 a0.data.kind, .str a0.data.name, i6 a0.data.num, sf cI a0.data.sc, sf Fm.cells a0.data.kids, sf Cor.cells a0.kids]⟩)] [] -> Q (.ex 3) ⟨T, ss⟩) -> (∀ r, out = Sum.inl r -> ∀ s', Qi9 Tryz.prog [.tmp 8] (fun r' ss' => ∃ (tt' : Sto), r' = .bool r.1 /\ Tau tt0 [(e0, ⟨3, 1, [i6 r.2]⟩)] tt' /\ Fx tt' ss' [] []) s' -> Q .ret s') -> ∀ (T : Nat -> AV) (ss : Sto) (tt : Sto), T 2 = i6 a2 /\ T 3 = .ptr e0 0 /\ T 11 = sf cI a1 /\ T 134 = sf Cor.cells a0.kids /\ T 135 = i6 (a0.kids.length : Int) /\ T 136 = i6 Qay -> Tau tt0 [(e0, ⟨3, 1, [i6 Qal]⟩)] tt -> Fx tt ss [(b7, ⟨31, 11, [i6 a0.kind, i6 0, .str a0.name, i6 0, .Qab, i6 0, .str zB, i6 0, .Qab, .Qab, sf Cor.cells a0.kids]⟩), (b1, ⟨31, 11, [i6 a0.kind, i6 a0.id, .str a0.name, i6 a0.num, sf cI a0.ids, i6 a0.data.kind, .str a0.data.name, i6 a0.data.num, sf cI a0.data.sc, sf Fm.cells a0.data.kids, sf Cor.cells a0.kids]⟩)] [] -> aLp Tryz.prog c Q ⟨T, ss⟩) (motive_8 := fun a0 a1 a2 Qay Qal out => ∀ c, Qaq Tryz.f44 1 = some c -> ∀ (Q : AX -> AS -> Prop) (tt0 : Sto) (e0 : Nat) (b1 : Nat) (b7 : Nat), (∀ (Qc2 : Int), out = Sum.inr Qc2 -> ∀ (T : Nat -> AV) (ss : Sto) (tt : Sto), 0 + 0 = 0 -> Tau tt0 [(e0, ⟨3, 1, [i6 Qc2]⟩)] tt -> Fx tt ss [(b7, ⟨31, 11, [i6 a0.kind, i6 a0.id, .str zB, i6 0, .Qab, i6 0, .str zB, i6 0, .Qab, .Qab, sf Cor.cells a0.kids]⟩), (b1, ⟨31, 11, [i6 a0.kind, i6 a0.id, .str a0.name, i6 a0.num, sf cI a0.ids, i6 a0.data.kind, .str a0.data.name, i6 a0.data.num, sf cI a0.data.sc, sf Fm.cells a0.data.kids, sf Cor.cells a0.kids]⟩)] [] -> Q (.ex 3) ⟨T, ss⟩) -> (∀ r, out = Sum.inl r -> ∀ s', Qi9 Tryz.prog [.tmp 8] (fun r' ss' => ∃ (tt' : Sto), r' = .bool r.1 /\ Tau tt0 [(e0, ⟨3, 1, [i6 r.2]⟩)] tt' /\ Fx tt' ss' [] []) s' -> Q .ret s') -> ∀ (T : Nat -> AV) (ss : Sto) (tt : Sto), T 2 = i6 a2 /\ T 3 = .ptr e0 0 /\ T 11 = sf cI a1 /\ T 134 = sf Cor.cells a0.kids /\ T 135 = i6 (a0.kids.length : Int) /\ T 136 = i6 Qay -> Tau tt0 [(e0, ⟨3, 1, [i6 Qal]⟩)] tt -> Fx tt ss [(b7, ⟨31, 11, [i6 a0.kind, i6 a0.id, .str zB, i6 0, .Qab, i6 0, .str zB, i6 0, .Qab, .Qab, sf Cor.cells a0.kids]⟩), (b1, ⟨31, 11, [i6 a0.kind, i6 a0.id, .str a0.name, i6 a0.num, sf cI a0.ids, i6 a0.data.kind, .str a0.data.name, i6 a0.data.num, sf cI a0.data.sc, sf Fm.cells a0.data.kids, sf Cor.cells a0.kids]⟩)] [] -> aLp Tryz.prog c Q ⟨T, ss⟩) ?_ ?_ ?_ ?_ ?_ ?_ ?_ ?_
 ·intro Qef Qel Qex Qei Qfv Qf7 Qd9 L6 L5 L4 L3 L2 L1 L0 a0 a1 a2 c0 r H
  intro e0  ss hP
  refine Qaz mixed Tryz.func44 rfl (by kernel_rfl) (rs := [.tmp 8]) rfl (by kernel_rfl) ?_
  obtain ⟨hF, hX⟩ := hP.start
  generalize strip ss [] = tt0 at hF hX ⊢
  have q := dum
  have tT := dum
  refine go ?_
  refine Qad hF rfl fun b1 ss2 hF => ?_
  refine go ?_
  refine stT hF hX 0 rfl fun tt4 ss3 hF hX => ?_
  refine go ?_
  obtain ⟨x28, g5, H⟩ := bnd H
  refine Qaj 2 26 28 (.bool x28) (giN q (fun q => ?_) (fun q => ?_)) (fun J => ?_)
  ·refine go ?_
   exact Qa8 26 g5
  ·refine go ?_
   exact Qa8 26 g5
  refine go ?_
  refine cdb H (fun h H => ?_) (fun h H => ?_)
  ·refine go ?_
   have e := pur H; subst e
   exact rg [.bool false] ⟨_, rfl, hX, Fx.self _⟩
  ·refine go ?_
   refine Qad hF rfl fun b7 s8 hF => ?_
   refine go ?_
   refine st hF 0 rfl fun s9 hF => ?_
   refine go ?_
   refine cdp H (fun h H => ?_) (fun h H => ?_)
   ·refine go ?_
    refine st hF 0 rfl fun s10 hF => ?_
    refine go ?_
    obtain ⟨x44, hx44, H⟩ := bnd H
    refine cl (Qec a0.id 1 999 _ hx44) ?_
    refine go ?_
    obtain ⟨x52, g11, H⟩ := bnd H
    refine Qaj 5 47 52 (.bool x52) (giN q (fun q => ?_) (fun q => ?_)) (fun J => ?_)
    ·rw [if_neg (dbf q)] at g11
     refine go ?_
     obtain ⟨x50, hx50, g11⟩ := bnd g11
     refine cl (Qfg a1 a0.id _ hx50) ?_
     refine go ?_
     exact Qa8 47 g11
    ·rw [if_pos (dbt q)] at g11
     refine go ?_
     exact Qa8 47 g11
    refine go ?_
    refine cdb H (fun h H => ?_) (fun h H => ?_)
    ·refine go ?_
     have e := pur H; subst e
     exact rg [.bool false] ⟨_, rfl, hX, Fx.self _⟩
    ·refine go ?_
     obtain ⟨x132, g13, H⟩ := bnd H
     refine Qaj 4 128 132 (.bool x132) (giN q (fun q => ?_) (fun q => ?_)) (fun J => ?_)
     ·rw [if_pos (dnf q)] at g13
      refine go ?_
      obtain ⟨x130, hx130, g13⟩ := bnd g13
      refine cl (Qde a0 (Cor.mk a0.kind a0.id zB 0 [] (Fm.mk 0 zB 0 [] []) a0.kids) _ hx130) ?_
      refine go ?_
      exact Qa8 128 g13
     ·rw [if_neg (dnt q)] at g13
      refine go ?_
      exact Qa8 128 g13
     refine go ?_
     refine cdb H (fun h H => ?_) (fun h H => ?_)
     ·refine go ?_
      have e := pur H; subst e
      exact rg [.bool false] ⟨_, rfl, hX, Fx.self _⟩
     ·refine go ?_
      obtain ⟨o21, ho21, H⟩ := bnd H
      refine L0 a0 a1 a2 0 (IntKind.i64.wrap (c0 - 1)) _ ho21 _ rfl _ tt0 e0 b1 b7 ?_ ?_ _ _ _  S hX hF
      ·intro Qrg he T23 s24 t25 tT hX hF
       have he := he.symm
       subst he
       try dsimp only at H
       refine go ?_
       have e := pur H; subst e
       exact rg [.bool true] ⟨_, rfl, hX, Fx.self _⟩
      ·intro r hr s' hs
       subst hr
       have e := pur H; subst e
       first | exact hs | (try simp only [sf, i6, zB, Fm.Qaa, Xpn.Qaa, Cor.Qaa, Bnd.Qaa, Hit.Qaa, Rul.Qaa, Mac.Qaa, Stp.Qaa, Val.Qaa] at hs ⊢; exact hs)
   ·refine go ?_
    refine cdp H (fun h H => ?_) (fun h H => ?_)
    ·refine go ?_
     refine st hF 0 rfl fun s26 hF => ?_
     refine go ?_
     obtain ⟨x60, hx60, H⟩ := bnd H
     refine cl (Qh9 a0.name _ hx60) ?_
     refine go ?_
     refine cdb H (fun h H => ?_) (fun h H => ?_)
     ·refine go ?_
      have e := pur H; subst e
      exact rg [.bool false] ⟨_, rfl, hX, Fx.self _⟩
     ·refine go ?_
      obtain ⟨Qwa, g27, H⟩ := bnd H
      refine Qaj 4 128 132 (.bool Qwa) (giN q (fun q => ?_) (fun q => ?_)) (fun J => ?_)
      ·rw [if_pos (dnf q)] at g27
       refine go ?_
       obtain ⟨Qze, hx130_1, g27⟩ := bnd g27
       refine cl (Qde a0 (Cor.mk a0.kind 0 a0.name 0 [] (Fm.mk 0 zB 0 [] []) a0.kids) _ hx130_1) ?_
       refine go ?_
       exact Qa8 128 g27
      ·rw [if_neg (dnt q)] at g27
       refine go ?_
       exact Qa8 128 g27
      refine go ?_
      refine cdb H (fun h H => ?_) (fun h H => ?_)
      ·refine go ?_
       have e := pur H; subst e
       exact rg [.bool false] ⟨_, rfl, hX, Fx.self _⟩
      ·refine go ?_
       obtain ⟨o35, ho35, H⟩ := bnd H
       refine L1 a0 a1 a2 0 (IntKind.i64.wrap (c0 - 1)) _ ho35 _ rfl _ tt0 e0 b1 b7 ?_ ?_ _ _ _  S hX hF
       ·intro Qrl he T37 s38 t39 tT hX hF
        have he := he.symm
        subst he
        try dsimp only at H
        refine go ?_
        have e := pur H; subst e
        exact rg [.bool true] ⟨_, rfl, hX, Fx.self _⟩
       ·intro r hr s' hs
        subst hr
        have e := pur H; subst e
        first | exact hs | (try simp only [sf, i6, zB, Fm.Qaa, Xpn.Qaa, Cor.Qaa, Bnd.Qaa, Hit.Qaa, Rul.Qaa, Mac.Qaa, Stp.Qaa, Val.Qaa] at hs ⊢; exact hs)
    ·refine go ?_
     refine cdp H (fun h H => ?_) (fun h H => ?_)
     ·refine go ?_
      refine st hF 0 rfl fun s40 hF => ?_
      refine go ?_
      obtain ⟨x69, hx69, H⟩ := bnd H
      refine cl (Qec a0.num 0 999 _ hx69) ?_
      refine go ?_
      refine cdb H (fun h H => ?_) (fun h H => ?_)
      ·refine go ?_
       have e := pur H; subst e
       exact rg [.bool false] ⟨_, rfl, hX, Fx.self _⟩
      ·refine go ?_
       obtain ⟨Qwb, g41, H⟩ := bnd H
       refine Qaj 4 128 132 (.bool Qwb) (giN q (fun q => ?_) (fun q => ?_)) (fun J => ?_)
       ·rw [if_pos (dnf q)] at g41
        refine go ?_
        obtain ⟨Qzf, hx130_2, g41⟩ := bnd g41
        refine cl (Qde a0 (Cor.mk a0.kind 0 zB a0.num [] (Fm.mk 0 zB 0 [] []) a0.kids) _ hx130_2) ?_
        refine go ?_
        exact Qa8 128 g41
       ·rw [if_neg (dnt q)] at g41
        refine go ?_
        exact Qa8 128 g41
       refine go ?_
       refine cdb H (fun h H => ?_) (fun h H => ?_)
       ·refine go ?_
        have e := pur H; subst e
        exact rg [.bool false] ⟨_, rfl, hX, Fx.self _⟩
       ·refine go ?_
        obtain ⟨o49, ho49, H⟩ := bnd H
        refine L2 a0 a1 a2 0 (IntKind.i64.wrap (c0 - 1)) _ ho49 _ rfl _ tt0 e0 b1 b7 ?_ ?_ _ _ _  S hX hF
        ·intro Qro he T51 s52 tt53 tT hX hF
         have he := he.symm
         subst he
         try dsimp only at H
         refine go ?_
         have e := pur H; subst e
         exact rg [.bool true] ⟨_, rfl, hX, Fx.self _⟩
        ·intro r hr s' hs
         subst hr
         have e := pur H; subst e
         first | exact hs | (try simp only [sf, i6, zB, Fm.Qaa, Xpn.Qaa, Cor.Qaa, Bnd.Qaa, Hit.Qaa, Rul.Qaa, Mac.Qaa, Stp.Qaa, Val.Qaa] at hs ⊢; exact hs)
     ·refine go ?_
      refine cdp H (fun h H => ?_) (fun h H => ?_)
      ·refine go ?_
       refine st hF 0 rfl fun s54 hF => ?_
       refine go ?_
       obtain ⟨x78, hx78, H⟩ := bnd H
       refine cl (Qfa a0.data _ hx78) ?_
       refine go ?_
       obtain ⟨x86, g55, H⟩ := bnd H
       refine Qaj 5 81 86 (.bool x86) (giN q (fun q => ?_) (fun q => ?_)) (fun J => ?_)
       ·rw [if_neg (dbf q)] at g55
        refine go ?_
        obtain ⟨x83, hx83, g55⟩ := bnd g55
        refine cl (Ql7 a0.data _ hx83) ?_
        refine go ?_
        exact Qa8 81 g55
       ·rw [if_pos (dbt q)] at g55
        refine go ?_
        exact Qa8 81 g55
       refine go ?_
       refine cdb H (fun h H => ?_) (fun h H => ?_)
       ·refine go ?_
        have e := pur H; subst e
        exact rg [.bool false] ⟨_, rfl, hX, Fx.self _⟩
       ·refine go ?_
        obtain ⟨Qwc, g57, H⟩ := bnd H
        refine Qaj 4 128 132 (.bool Qwc) (giN q (fun q => ?_) (fun q => ?_)) (fun J => ?_)
        ·rw [if_pos (dnf q)] at g57
         refine go ?_
         obtain ⟨Qzg, hx130_3, g57⟩ := bnd g57
         refine cl (Qde a0 (Cor.mk a0.kind 0 zB 0 [] a0.data a0.kids) _ hx130_3) ?_
         refine go ?_
         exact Qa8 128 g57
        ·rw [if_neg (dnt q)] at g57
         refine go ?_
         exact Qa8 128 g57
        refine go ?_
        refine cdb H (fun h H => ?_) (fun h H => ?_)
        ·refine go ?_
         have e := pur H; subst e
         exact rg [.bool false] ⟨_, rfl, hX, Fx.self _⟩
        ·refine go ?_
         obtain ⟨o65, ho65, H⟩ := bnd H
         refine L3 a0 a1 a2 0 (IntKind.i64.wrap (c0 - 1)) _ ho65 _ rfl _ tt0 e0 b1 b7 ?_ ?_ _ _ _  S hX hF
         ·intro Qrq he T67 s68 t69 tT hX hF
          have he := he.symm
          subst he
          try dsimp only at H
          refine go ?_
          have e := pur H; subst e
          exact rg [.bool true] ⟨_, rfl, hX, Fx.self _⟩
         ·intro r hr s' hs
          subst hr
          have e := pur H; subst e
          first | exact hs | (try simp only [sf, i6, zB, Fm.Qaa, Xpn.Qaa, Cor.Qaa, Bnd.Qaa, Hit.Qaa, Rul.Qaa, Mac.Qaa, Stp.Qaa, Val.Qaa] at hs ⊢; exact hs)
      ·refine go ?_
       refine cdp H (fun h H => ?_) (fun h H => ?_)
       ·refine go ?_
        refine st hF 0 rfl fun s70 hF => ?_
        refine go ?_
        obtain ⟨x93, hx93, H⟩ := bnd H
        refine cx (Qhs a1 _ hx93   _ (pre 0 0 0 hF hX)) ?_
        rintro v71 s72 ⟨t73, _, rfl, hT, hG⟩
        obtain ⟨t74, hX, hF⟩ := aft 0 0 0 hF hX hT hG
        refine go ?_
        obtain ⟨o83, ho83, H⟩ := bnd H
        refine Qll a0 a2 c0 x93 0 _ ho83 _ rfl _ tt0 e0 b1 b7 ?_ ?_ _ _ _ v71 S hX hF
        ·intro Qhg he T85 s86 t87 tT hX hF
         have he := he.symm
         subst he
         try dsimp only at H
         refine go ?_
         obtain ⟨Qwd, g88, H⟩ := bnd H
         refine Qaj 4 128 132 (.bool Qwd) (giN q (fun q => ?_) (fun q => ?_)) (fun J => ?_)
         ·rw [if_pos (dnf q)] at g88
          refine go ?_
          obtain ⟨Qzh, hx130_4, g88⟩ := bnd g88
          refine cl (Qde a0 (Cor.mk a0.kind 0 zB 0 a0.ids (Fm.mk 0 zB 0 [] []) a0.kids) _ hx130_4) ?_
          refine go ?_
          exact Qa8 128 g88
         ·rw [if_neg (dnt q)] at g88
          refine go ?_
          exact Qa8 128 g88
         refine go ?_
         refine cdb H (fun h H => ?_) (fun h H => ?_)
         ·refine go ?_
          have e := pur H; subst e
          exact rg [.bool false] ⟨_, rfl, hX, Fx.self _⟩
         ·refine go ?_
          obtain ⟨o96, ho96, H⟩ := bnd H
          refine L4 a0 a2 Qhg 0 (IntKind.i64.wrap (c0 - 1)) _ ho96 _ rfl _ tt0 e0 b1 b7 ?_ ?_ _ _ _  S hX hF
          ·intro Qrr he T98 s99 t100 tT hX hF
           have he := he.symm
           subst he
           try dsimp only at H
           refine go ?_
           have e := pur H; subst e
           exact rg [.bool true] ⟨_, rfl, hX, Fx.self _⟩
          ·intro r hr s' hs
           subst hr
           have e := pur H; subst e
           first | exact hs | (try simp only [sf, i6, zB, Fm.Qaa, Xpn.Qaa, Cor.Qaa, Bnd.Qaa, Hit.Qaa, Rul.Qaa, Mac.Qaa, Stp.Qaa, Val.Qaa] at hs ⊢; exact hs)
        ·intro r hr s' hs
         subst hr
         have e := pur H; subst e
         first | exact hs | (try simp only [sf, i6, zB, Fm.Qaa, Xpn.Qaa, Cor.Qaa, Bnd.Qaa, Hit.Qaa, Rul.Qaa, Mac.Qaa, Stp.Qaa, Val.Qaa] at hs ⊢; exact hs)
       ·refine go ?_
        refine cdp H (fun h H => ?_) (fun h H => ?_)
        ·refine go ?_
         obtain ⟨Qwe, g101, H⟩ := bnd H
         refine Qaj 4 128 132 (.bool Qwe) (giN q (fun q => ?_) (fun q => ?_)) (fun J => ?_)
         ·rw [if_pos (dnf q)] at g101
          refine go ?_
          obtain ⟨Qzi, hx130_5, g101⟩ := bnd g101
          refine cl (Qde a0 (Cor.mk a0.kind 0 zB 0 [] (Fm.mk 0 zB 0 [] []) a0.kids) _ hx130_5) ?_
          refine go ?_
          exact Qa8 128 g101
         ·rw [if_neg (dnt q)] at g101
          refine go ?_
          exact Qa8 128 g101
         refine go ?_
         refine cdb H (fun h H => ?_) (fun h H => ?_)
         ·refine go ?_
          have e := pur H; subst e
          exact rg [.bool false] ⟨_, rfl, hX, Fx.self _⟩
         ·refine go ?_
          obtain ⟨o109, ho109, H⟩ := bnd H
          refine L5 a0 a1 a2 0 (IntKind.i64.wrap (c0 - 1)) _ ho109 _ rfl _ tt0 e0 b1 b7 ?_ ?_ _ _ _  S hX hF
          ·intro Qpe he T111 s112 t113 tT hX hF
           have he := he.symm
           subst he
           try dsimp only at H
           refine go ?_
           have e := pur H; subst e
           exact rg [.bool true] ⟨_, rfl, hX, Fx.self _⟩
          ·intro r hr s' hs
           subst hr
           have e := pur H; subst e
           first | exact hs | (try simp only [sf, i6, zB, Fm.Qaa, Xpn.Qaa, Cor.Qaa, Bnd.Qaa, Hit.Qaa, Rul.Qaa, Mac.Qaa, Stp.Qaa, Val.Qaa] at hs ⊢; exact hs)
        ·refine go ?_
         refine cdp H (fun h H => ?_) (fun h H => ?_)
         ·refine go ?_
          obtain ⟨Qwf, g114, H⟩ := bnd H
          refine Qaj 4 128 132 (.bool Qwf) (giN q (fun q => ?_) (fun q => ?_)) (fun J => ?_)
          ·rw [if_pos (dnf q)] at g114
           refine go ?_
           obtain ⟨Qzj, hx130_6, g114⟩ := bnd g114
           refine cl (Qde a0 (Cor.mk a0.kind 0 zB 0 [] (Fm.mk 0 zB 0 [] []) a0.kids) _ hx130_6) ?_
           refine go ?_
           exact Qa8 128 g114
          ·rw [if_neg (dnt q)] at g114
           refine go ?_
           exact Qa8 128 g114
          refine go ?_
          refine cdb H (fun h H => ?_) (fun h H => ?_)
          ·refine go ?_
           have e := pur H; subst e
           exact rg [.bool false] ⟨_, rfl, hX, Fx.self _⟩
          ·refine go ?_
           obtain ⟨o122, ho122, H⟩ := bnd H
           refine L6 a0 a1 a2 0 (IntKind.i64.wrap (c0 - 1)) _ ho122 _ rfl _ tt0 e0 b1 b7 ?_ ?_ _ _ _  S hX hF
           ·intro Qpf he T124 s125 t126 tT hX hF
            have he := he.symm
            subst he
            try dsimp only at H
            refine go ?_
            have e := pur H; subst e
            exact rg [.bool true] ⟨_, rfl, hX, Fx.self _⟩
           ·intro r hr s' hs
            subst hr
            have e := pur H; subst e
            first | exact hs | (try simp only [sf, i6, zB, Fm.Qaa, Xpn.Qaa, Cor.Qaa, Bnd.Qaa, Hit.Qaa, Rul.Qaa, Mac.Qaa, Stp.Qaa, Val.Qaa] at hs ⊢; exact hs)
         ·refine go ?_
          have e := pur H; subst e
          exact rg [.bool false] ⟨_, rfl, hX, Fx.self _⟩
 ·intro Qbe Qef C0 L6 a0 a1 a2 Qay Qal out H c hc Q tt0 e0 b1 b7 hE hR T ss tt tT hX hF
  obtain rfl := lpe (rfl : Qaq Tryz.f44 1 = some _) hc
  refine Qak ?_
  have q := dum
  refine go ?_
  refine cdp H (fun h H => ?_) (fun h H => ?_)
  ·obtain ⟨x138, f1, H⟩ := bil (g := Cor.cells) Cor.Qac H
   refine go1 ?_
   refine Qad hF rfl fun b116 s117 hF => ?_
   refine go ?_
   refine st hF 0 rfl fun s118 hF => ?_
   refine go ?_
   obtain ⟨x145, hx145, H⟩ := bnd H
   refine cx (C0 x138 a1 (IntKind.i64.wrap (a2 + 1)) Qal _ hx145 e0  _ (pre 0 1 0 hF hX)) ?_
   rintro _ s119 ⟨t120, rfl, hT, hG⟩
   obtain ⟨t121, hX, hF⟩ := aft 0 1 0 hF hX hT hG
   refine go ?_
   refine cdb H (fun h H => ?_) (fun h H => ?_)
   ·refine go ?_
    exact wq (hR _ (pur H).symm _ (rg [.bool false] ⟨_, rfl, hX, Fx.self _⟩))
   ·refine go ?_
    exact L6 a0 a1 a2 (IntKind.i64.wrap (Qay + 1)) x145.2 _ H _ rfl Q tt0 e0 b1 b7 hE hR _ _ _  S hX (hF.drop 1 0)
  ·refine go ?_
   exact wq (hE _ (pur H).symm _ _ _  S hX hF)
 ·intro Qbe Qel C0 L5 a0 a1 a2 Qay Qal out H c hc Q tt0 e0 b1 b7 hE hR T ss tt tT hX hF
  obtain rfl := lpe (rfl : Qaq Tryz.f44 1 = some _) hc
  refine Qak ?_
  have q := dum
  refine go ?_
  refine cdp H (fun h H => ?_) (fun h H => ?_)
  ·obtain ⟨x138, f1, H⟩ := bil (g := Cor.cells) Cor.Qac H
   refine go1 ?_
   refine Qad hF rfl fun b103 s104 hF => ?_
   refine go ?_
   refine st hF 0 rfl fun s105 hF => ?_
   refine go ?_
   obtain ⟨x145, hx145, H⟩ := bnd H
   refine cx (C0 x138 a1 (IntKind.i64.wrap (a2 + 1)) Qal _ hx145 e0  _ (pre 0 1 0 hF hX)) ?_
   rintro _ s106 ⟨t107, rfl, hT, hG⟩
   obtain ⟨t108, hX, hF⟩ := aft 0 1 0 hF hX hT hG
   refine go ?_
   refine cdb H (fun h H => ?_) (fun h H => ?_)
   ·refine go ?_
    exact wq (hR _ (pur H).symm _ (rg [.bool false] ⟨_, rfl, hX, Fx.self _⟩))
   ·refine go ?_
    exact L5 a0 a1 a2 (IntKind.i64.wrap (Qay + 1)) x145.2 _ H _ rfl Q tt0 e0 b1 b7 hE hR _ _ _  S hX (hF.drop 1 0)
  ·refine go ?_
   exact wq (hE _ (pur H).symm _ _ _  S hX hF)
 ·intro Qbe Qex C0 L4 a0 a2 Qhg Qay Qal out H c hc Q tt0 e0 b1 b7 hE hR T ss tt tT hX hF
  obtain rfl := lpe (rfl : Qaq Tryz.f44 1 = some _) hc
  refine Qak ?_
  have q := dum
  refine go ?_
  refine cdp H (fun h H => ?_) (fun h H => ?_)
  ·obtain ⟨x138, f1, H⟩ := bil (g := Cor.cells) Cor.Qac H
   refine go1 ?_
   refine Qad hF rfl fun b90 s91 hF => ?_
   refine go ?_
   refine st hF 0 rfl fun s92 hF => ?_
   refine go ?_
   obtain ⟨x145, hx145, H⟩ := bnd H
   refine cx (C0 x138 Qhg (IntKind.i64.wrap (a2 + 1)) Qal _ hx145 e0  _ (pre 0 1 0 hF hX)) ?_
   rintro _ s93 ⟨t94, rfl, hT, hG⟩
   obtain ⟨t95, hX, hF⟩ := aft 0 1 0 hF hX hT hG
   refine go ?_
   refine cdb H (fun h H => ?_) (fun h H => ?_)
   ·refine go ?_
    exact wq (hR _ (pur H).symm _ (rg [.bool false] ⟨_, rfl, hX, Fx.self _⟩))
   ·refine go ?_
    exact L4 a0 a2 Qhg (IntKind.i64.wrap (Qay + 1)) x145.2 _ H _ rfl Q tt0 e0 b1 b7 hE hR _ _ _  S hX (hF.drop 1 0)
  ·refine go ?_
   exact wq (hE _ (pur H).symm _ _ _  S hX hF)
 ·intro Qbe Qei C0 L3 a0 a1 a2 Qay Qal out H c hc Q tt0 e0 b1 b7 hE hR T ss tt tT hX hF
  obtain rfl := lpe (rfl : Qaq Tryz.f44 1 = some _) hc
  refine Qak ?_
  have q := dum
  refine go ?_
  refine cdp H (fun h H => ?_) (fun h H => ?_)
  ·obtain ⟨x138, f1, H⟩ := bil (g := Cor.cells) Cor.Qac H
   refine go1 ?_
   refine Qad hF rfl fun b59 s60 hF => ?_
   refine go ?_
   refine st hF 0 rfl fun s61 hF => ?_
   refine go ?_
   obtain ⟨x145, hx145, H⟩ := bnd H
   refine cx (C0 x138 a1 (IntKind.i64.wrap (a2 + 1)) Qal _ hx145 e0  _ (pre 0 1 0 hF hX)) ?_
   rintro _ s62 ⟨t63, rfl, hT, hG⟩
   obtain ⟨t64, hX, hF⟩ := aft 0 1 0 hF hX hT hG
   refine go ?_
   refine cdb H (fun h H => ?_) (fun h H => ?_)
   ·refine go ?_
    exact wq (hR _ (pur H).symm _ (rg [.bool false] ⟨_, rfl, hX, Fx.self _⟩))
   ·refine go ?_
    exact L3 a0 a1 a2 (IntKind.i64.wrap (Qay + 1)) x145.2 _ H _ rfl Q tt0 e0 b1 b7 hE hR _ _ _  S hX (hF.drop 1 0)
  ·refine go ?_
   exact wq (hE _ (pur H).symm _ _ _  S hX hF)
 ·intro Qbe Qfv C0 L2 a0 a1 a2 Qay Qal out H c hc Q tt0 e0 b1 b7 hE hR T ss tt tT hX hF
  obtain rfl := lpe (rfl : Qaq Tryz.f44 1 = some _) hc
  refine Qak ?_
  have q := dum
  refine go ?_
  refine cdp H (fun h H => ?_) (fun h H => ?_)
  ·obtain ⟨x138, f1, H⟩ := bil (g := Cor.cells) Cor.Qac H
   refine go1 ?_
   refine Qad hF rfl fun b43 s44 hF => ?_
   refine go ?_
   refine st hF 0 rfl fun s45 hF => ?_
   refine go ?_
   obtain ⟨x145, hx145, H⟩ := bnd H
   refine cx (C0 x138 a1 (IntKind.i64.wrap (a2 + 1)) Qal _ hx145 e0  _ (pre 0 1 0 hF hX)) ?_
   rintro _ s46 ⟨t47, rfl, hT, hG⟩
   obtain ⟨t48, hX, hF⟩ := aft 0 1 0 hF hX hT hG
   refine go ?_
   refine cdb H (fun h H => ?_) (fun h H => ?_)
   ·refine go ?_
    exact wq (hR _ (pur H).symm _ (rg [.bool false] ⟨_, rfl, hX, Fx.self _⟩))
   ·refine go ?_
    exact L2 a0 a1 a2 (IntKind.i64.wrap (Qay + 1)) x145.2 _ H _ rfl Q tt0 e0 b1 b7 hE hR _ _ _  S hX (hF.drop 1 0)
  ·refine go ?_
   exact wq (hE _ (pur H).symm _ _ _  S hX hF)
 ·intro Qbe Qf7 C0 L1 a0 a1 a2 Qay Qal out H c hc Q tt0 e0 b1 b7 hE hR T ss tt tT hX hF
  obtain rfl := lpe (rfl : Qaq Tryz.f44 1 = some _) hc
  refine Qak ?_
  have q := dum
  refine go ?_
  refine cdp H (fun h H => ?_) (fun h H => ?_)
  ·obtain ⟨x138, f1, H⟩ := bil (g := Cor.cells) Cor.Qac H
   refine go1 ?_
   refine Qad hF rfl fun b29 s30 hF => ?_
   refine go ?_
   refine st hF 0 rfl fun s31 hF => ?_
   refine go ?_
   obtain ⟨x145, hx145, H⟩ := bnd H
   refine cx (C0 x138 a1 (IntKind.i64.wrap (a2 + 1)) Qal _ hx145 e0  _ (pre 0 1 0 hF hX)) ?_
   rintro _ s32 ⟨t33, rfl, hT, hG⟩
   obtain ⟨t34, hX, hF⟩ := aft 0 1 0 hF hX hT hG
   refine go ?_
   refine cdb H (fun h H => ?_) (fun h H => ?_)
   ·refine go ?_
    exact wq (hR _ (pur H).symm _ (rg [.bool false] ⟨_, rfl, hX, Fx.self _⟩))
   ·refine go ?_
    exact L1 a0 a1 a2 (IntKind.i64.wrap (Qay + 1)) x145.2 _ H _ rfl Q tt0 e0 b1 b7 hE hR _ _ _  S hX (hF.drop 1 0)
  ·refine go ?_
   exact wq (hE _ (pur H).symm _ _ _  S hX hF)
 ·intro Qbe Qd9 C0 L0 a0 a1 a2 Qay Qal out H c hc Q tt0 e0 b1 b7 hE hR T ss tt tT hX hF
  obtain rfl := lpe (rfl : Qaq Tryz.f44 1 = some _) hc
  refine Qak ?_
  have q := dum
  refine go ?_
  refine cdp H (fun h H => ?_) (fun h H => ?_)
  ·obtain ⟨x138, f1, H⟩ := bil (g := Cor.cells) Cor.Qac H
   refine go1 ?_
   refine Qad hF rfl fun b15 s16 hF => ?_
   refine go ?_
   refine st hF 0 rfl fun s17 hF => ?_
   refine go ?_
   obtain ⟨x145, hx145, H⟩ := bnd H
   refine cx (C0 x138 a1 (IntKind.i64.wrap (a2 + 1)) Qal _ hx145 e0  _ (pre 0 1 0 hF hX)) ?_
   rintro _ s18 ⟨t19, rfl, hT, hG⟩
   obtain ⟨tt20, hX, hF⟩ := aft 0 1 0 hF hX hT hG
   refine go ?_
   refine cdb H (fun h H => ?_) (fun h H => ?_)
   ·refine go ?_
    exact wq (hR _ (pur H).symm _ (rg [.bool false] ⟨_, rfl, hX, Fx.self _⟩))
   ·refine go ?_
    exact L0 a0 a1 a2 (IntKind.i64.wrap (Qay + 1)) x145.2 _ H _ rfl Q tt0 e0 b1 b7 hE hR _ _ _  S hX (hF.drop 1 0)
  ·refine go ?_
   exact wq (hE _ (pur H).symm _ _ _  S hX hF)
theorem Qlh : ∀ (a0 : Cor) r, Qfn a0 = some r -> Qdz Tryz.prog 20 [.agg (Cor.cells a0)] (.bool r) := by
 intro a0 r H
 intro ss
 unfold Qfn at H
 refine Qaz mixed Tryz.func20 rfl (by kernel_rfl) (rs := [.tmp 2]) rfl (by kernel_rfl) ?_
 have hF := Fx.refl ss
 have hX := Tau.none ss
 have q := dum
 have tT := dum
 refine go ?_
 refine Qad hF rfl fun b1 ss2 hF => ?_
 refine go ?_
 refine Qad hF rfl fun b3 s4 hF => ?_
 refine go ?_
 refine st hF 0 rfl fun s5 hF => ?_
 refine go ?_
 obtain ⟨x5, hx5, H⟩ := bnd H
 refine cx (Qnq a0 [] 1 600 _ hx5 b3  _ (pre 1 0 0 hF hX)) ?_
 rintro _ s6 ⟨t7, rfl, hT, hG⟩
 have hF := Quc 1 0 hF hX hT hG
 refine go ?_
 have e := pur H; subst e
 exact rt [.bool x5.1]
theorem Qdk : ∀ (a1 : Int) (c0 : Mch) r, Qcq a1 c0 = some r -> ∀ (e0 : Nat)  (ss : Sto), Pre ss [(e0, ⟨55, 2, [i6 c0.fuel, i6 c0.code]⟩)] [] -> Ctr Tryz.prog 52 [.ptr e0 0, i6 a1] ss (fun r' ss' => ∃ (tt' : Sto), r' = .agg (Val.cells r.1) /\ Tau (strip ss []) [(e0, ⟨55, 2, [i6 r.2.fuel, i6 r.2.code]⟩)] tt' /\ Fx tt' ss' [] []) := by
 intro a1 c0 r H
 intro e0  ss hP
 unfold Qcq at H
 refine Qaz mixed Tryz.func52 rfl (by kernel_rfl) (rs := [.cell 4 34]) rfl (by kernel_rfl) ?_
 obtain ⟨hF, hX⟩ := hP.start
 generalize strip ss [] = tt0 at hF hX ⊢
 have q := dum
 have tT := dum
 refine go ?_
 refine Qad hF rfl fun b1 ss2 hF => ?_
 refine go ?_
 refine cdp H (fun h H => ?_) (fun h H => ?_)
 ·refine go ?_
  refine stT hF hX 0 rfl fun tt4 ss3 hF hX => ?_
  refine go ?_
  refine st hF 0 rfl fun s5 hF => ?_
  refine go ?_
  have e := pur H; subst e
  exact rg [.agg [i6 0, i6 0, .str zB, .Qab, i6 0, i6 0, .str zB, i6 0, .Qab, i6 0, .str zB, i6 0, .Qab, .Qab, .Qab, .Qab]] ⟨_, rfl, hX, Fx.self _⟩
 ·refine go ?_
  refine st hF 0 rfl fun s6 hF => ?_
  refine go ?_
  have e := pur H; subst e
  exact rg [.agg [i6 0, i6 0, .str zB, .Qab, i6 0, i6 0, .str zB, i6 0, .Qab, i6 0, .str zB, i6 0, .Qab, .Qab, .Qab, .Qab]] ⟨_, rfl, hX, Fx.self _⟩
theorem Qfw : ∀ (a0 : Int) r, Qfd a0 = some r -> Qdz Tryz.prog 53 [i6 a0] (.agg (Val.cells r)) := by
 intro a0 r H
 intro ss
 unfold Qfd at H
 refine Qaz mixed Tryz.func53 rfl (by kernel_rfl) (rs := [.cell 2 34]) rfl (by kernel_rfl) ?_
 have hF := Fx.refl ss
 have hX := Tau.none ss
 have q := dum
 have tT := dum
 refine go ?_
 refine Qad hF rfl fun b1 ss2 hF => ?_
 refine go ?_
 refine st hF 0 rfl fun ss3 hF => ?_
 refine go ?_
 have e := pur H; subst e
 exact rt [.agg [i6 1, i6 a0, .str zB, .Qab, i6 0, i6 0, .str zB, i6 0, .Qab, i6 0, .str zB, i6 0, .Qab, .Qab, .Qab, .Qab]]
theorem Qgj : ∀ (a0 : List ByteArray) (a1 : ByteArray) (Qeu : Int) out, Qbi a0 a1 Qeu = some out -> ∀ c, Qaq Tryz.f86 0 = some c -> ∀ (Q : AX -> AS -> Prop) (tt : Sto), (∀ (_u : Unit), out = Sum.inr () -> ∀ (T : Nat -> AV) (ss : Sto), 0 + 0 = 0 -> Fx tt ss [] [] -> Q (.ex 0) ⟨T, ss⟩) -> (∀ r, out = Sum.inl r -> ∀ s', Qi9 Tryz.prog [.tmp 4] (fun r' ss' => r' = i6 r /\ ss' = tt) s' -> Q .ret s') -> ∀ (T : Nat -> AV) (ss : Sto), T 0 = sf cS a0 /\ T 1 = .str a1 /\ T 7 = i6 (a0.length : Int) /\ T 8 = i6 Qeu -> Fx tt ss [] [] -> aLp Tryz.prog c Q ⟨T, ss⟩ := by
 intro a0 a1 Qeu
 revert Qeu
 refine Qbi.partial_correctness a0 a1 _ ?_
 intro Qbi IH Qeu out H c hc Q tt  hE hR T ss tT hF
 obtain rfl := lpe (rfl : Qaq Tryz.f86 0 = some _) hc
 refine Qak ?_
 have q := dum
 have hX := Tau.none tt
 refine go ?_
 refine cdp H (fun h H => ?_) (fun h H => ?_)
 ·obtain ⟨x14, f1, H⟩ := bil (g := cS) (fun _ => rfl) H
  refine go1 ?_
  refine go ?_
  refine cdp H (fun h H => ?_) (fun h H => ?_)
  ·refine go ?_
   exact wq (hR _ (pur H).symm _ (rt [i6 Qeu]))
  ·refine go ?_
   exact IH  (IntKind.i64.wrap (Qeu + 1)) _ H _ rfl Q tt  hE hR _ _  S hF
 ·refine go ?_
  exact wq (hE () (pur H).symm _ _  S hF)
theorem Qgy : ∀ (a0 : List ByteArray) (a1 : ByteArray) r, Qd0 a0 a1 = some r -> Qdz Tryz.prog 86 [sf cS a0, .str a1] (i6 r) := by
 intro a0 a1 r H
 intro ss
 unfold Qd0 at H
 refine Qaz mixed Tryz.func86 rfl (by kernel_rfl) (rs := [.tmp 4]) rfl (by kernel_rfl) ?_
 have hF := Fx.refl ss
 have hX := Tau.none ss
 have q := dum
 have tT := dum
 refine go ?_
 obtain ⟨o1, ho1, H⟩ := bnd H
 refine Qgj a0 a1 0 _ ho1 _ rfl _ _  ?_ ?_ _ _  S hF
 ·intro _ he T3 s4 tT hF
  have he := he.symm
  subst he
  try dsimp only at H
  refine go ?_
  have e := pur H; subst e
  exact rt [i6 (-1)]
 ·intro r hr s' hs
  subst hr
  have e := pur H; subst e
  first | exact hs | (try simp only [sf, i6, zB, Fm.Qaa, Xpn.Qaa, Cor.Qaa, Bnd.Qaa, Hit.Qaa, Rul.Qaa, Mac.Qaa, Stp.Qaa, Val.Qaa] at hs ⊢; exact hs)
theorem Qgi : ∀ (a0 : List ByteArray) (a1 : ByteArray) r, Qdg a0 a1 = some r -> Qdz Tryz.prog 54 [sf cS a0, .str a1] (.bool r) := by
 intro a0 a1 r H
 intro ss
 unfold Qdg at H
 refine Qaz mixed Tryz.func54 rfl (by kernel_rfl) (rs := [.tmp 4]) rfl (by kernel_rfl) ?_
 have hF := Fx.refl ss
 have hX := Tau.none ss
 have q := dum
 have tT := dum
 refine go ?_
 obtain ⟨x7, hx7, H⟩ := bnd H
 refine cl (Qgy a0 a1 _ hx7) ?_
 refine go ?_
 have e := pur H; subst e
 exact rt [.bool (decide (x7 ≥ 0))]
theorem Qg2 : ∀ (a0 : Val) r, Qeb a0 = some r -> Qdz Tryz.prog 88 [.agg (Val.cells a0)] (.bool r) := by
 intro a0 r H
 intro ss
 unfold Qeb at H
 refine Qaz mixed Tryz.func88 rfl (by kernel_rfl) (rs := [.tmp 2]) rfl (by kernel_rfl) ?_
 have hF := Fx.refl ss
 have hX := Tau.none ss
 have q := dum
 have tT := dum
 refine go ?_
 refine Qad hF rfl fun b1 ss2 hF => ?_
 refine go ?_
 have e := pur H; subst e
 exact rt [.bool (!decide (a0.kind = 1))]
theorem Qco : ∀ (a0 : List Val) (Qeu : Int) out, Qan a0 Qeu = some out -> ∀ c, Qaq Tryz.f114 0 = some c -> ∀ (Q : AX -> AS -> Prop) (tt : Sto), (∀ (_u : Unit), out = Sum.inr () -> ∀ (T : Nat -> AV) (ss : Sto), 0 + 0 = 0 -> Fx tt ss [] [] -> Q (.ex 0) ⟨T, ss⟩) -> (∀ r, out = Sum.inl r -> ∀ s', Qi9 Tryz.prog [.tmp 4] (fun r' ss' => r' = i6 r /\ ss' = tt) s' -> Q .ret s') -> ∀ (T : Nat -> AV) (ss : Sto), T 0 = sf Val.cells a0 /\ T 1 = .fn 88 [] /\ T 7 = i6 (a0.length : Int) /\ T 8 = i6 Qeu -> Fx tt ss [] [] -> aLp Tryz.prog c Q ⟨T, ss⟩ := by
 intro a0 Qeu
 revert Qeu
 refine Qan.partial_correctness a0 _ ?_
 intro Qan IH Qeu out H c hc Q tt  hE hR T ss tT hF
 obtain rfl := lpe (rfl : Qaq Tryz.f114 0 = some _) hc
 refine Qak ?_
 have q := dum
 have hX := Tau.none tt
 refine go ?_
 refine cdp H (fun h H => ?_) (fun h H => ?_)
 ·obtain ⟨x14, f1, H⟩ := bil (g := Val.cells) Val.Qac H
  refine go1 ?_
  obtain ⟨x16, hx16, H⟩ := bnd H
  refine cl (Qg2 x14 _ hx16) ?_
  refine go ?_
  refine cdb H (fun h H => ?_) (fun h H => ?_)
  ·refine go ?_
   exact wq (hR _ (pur H).symm _ (rt [i6 Qeu]))
  ·refine go ?_
   exact IH  (IntKind.i64.wrap (Qeu + 1)) _ H _ rfl Q tt  hE hR _ _  S hF
 ·refine go ?_
  exact wq (hE () (pur H).symm _ _  S hF)
theorem Qcx : ∀ (a0 : List Val) r, Qa4 a0 = some r -> Qdz Tryz.prog 114 [sf Val.cells a0, .fn 88 []] (i6 r) := by
 intro a0 r H
 intro ss
 unfold Qa4 at H
 refine Qaz mixed Tryz.func114 rfl (by kernel_rfl) (rs := [.tmp 4]) rfl (by kernel_rfl) ?_
 have hF := Fx.refl ss
 have hX := Tau.none ss
 have q := dum
 have tT := dum
 refine go ?_
 obtain ⟨o1, ho1, H⟩ := bnd H
 refine Qco a0 0 _ ho1 _ rfl _ _  ?_ ?_ _ _  S hF
 ·intro _ he T3 s4 tT hF
  have he := he.symm
  subst he
  try dsimp only at H
  refine go ?_
  have e := pur H; subst e
  exact rt [i6 (-1)]
 ·intro r hr s' hs
  subst hr
  have e := pur H; subst e
  first | exact hs | (try simp only [sf, i6, zB, Fm.Qaa, Xpn.Qaa, Cor.Qaa, Bnd.Qaa, Hit.Qaa, Rul.Qaa, Mac.Qaa, Stp.Qaa, Val.Qaa] at hs ⊢; exact hs)
theorem Qcm : ∀ (a0 : List Val) r, Qa1 a0 = some r -> Qdz Tryz.prog 87 [sf Val.cells a0, .fn 88 []] (.bool r) := by
 intro a0 r H
 intro ss
 unfold Qa1 at H
 refine Qaz mixed Tryz.func87 rfl (by kernel_rfl) (rs := [.tmp 4]) rfl (by kernel_rfl) ?_
 have hF := Fx.refl ss
 have hX := Tau.none ss
 have q := dum
 have tT := dum
 refine go ?_
 obtain ⟨x7, hx7, H⟩ := bnd H
 refine cl (Qcx a0 _ hx7) ?_
 refine go ?_
 have e := pur H; subst e
 exact rt [.bool (decide (x7 ≥ 0))]
theorem Qkw : ∀ (a0 : Bool) r, Qjd a0 = some r -> Qdz Tryz.prog 89 [.bool a0] (.agg (Val.cells r)) := by
 intro a0 r H
 intro ss
 unfold Qjd at H
 refine Qaz mixed Tryz.func89 rfl (by kernel_rfl) (rs := [.cell 2 34]) rfl (by kernel_rfl) ?_
 have hF := Fx.refl ss
 have hX := Tau.none ss
 have q := dum
 have tT := dum
 refine go ?_
 refine Qad hF rfl fun b1 ss2 hF => ?_
 refine go ?_
 refine cdb H (fun h H => ?_) (fun h H => ?_)
 ·refine go ?_
  obtain ⟨x4, hx4, H⟩ := bnd H
  refine cl (Qfw 1 _ hx4) ?_
  refine go ?_
  refine st hF 0 rfl fun ss3 hF => ?_
  refine go ?_
  have e := pur H; subst e
  exact rt [.agg [i6 x4.kind, i6 x4.num, .str x4.name, sf Val.cells x4.items, i6 x4.fn.kind, i6 x4.fn.id, .str x4.fn.name, i6 x4.fn.num, sf cI x4.fn.ids, i6 x4.fn.data.kind, .str x4.fn.data.name, i6 x4.fn.data.num, sf cI x4.fn.data.sc, sf Fm.cells x4.fn.data.kids, sf Cor.cells x4.fn.kids, sf Slt.cells x4.env]]
 ·refine go ?_
  obtain ⟨x5, hx5, H⟩ := bnd H
  refine cl (Qfw 0 _ hx5) ?_
  refine go ?_
  refine st hF 0 rfl fun s4 hF => ?_
  refine go ?_
  have e := pur H; subst e
  exact rt [.agg [i6 x5.kind, i6 x5.num, .str x5.name, sf Val.cells x5.items, i6 x5.fn.kind, i6 x5.fn.id, .str x5.fn.name, i6 x5.fn.num, sf cI x5.fn.ids, i6 x5.fn.data.kind, .str x5.fn.data.name, i6 x5.fn.data.num, sf cI x5.fn.data.sc, sf Fm.cells x5.fn.data.kids, sf Cor.cells x5.fn.kids, sf Slt.cells x5.env]]
theorem Qhr : ∀ (a0 : List Val) r, Qen a0 = some r -> Qdz Tryz.prog 90 [sf Val.cells a0] (sf Val.cells r) := by
 intro a0 r H
 intro ss
 unfold Qen at H
 refine Qaz mixed Tryz.func90 rfl (by kernel_rfl) (rs := [.tmp 2]) rfl (by kernel_rfl) ?_
 have hF := Fx.refl ss
 have hX := Tau.none ss
 have q := dum
 have tT := dum
 obtain ⟨x8, f1, H⟩ := Q5k (g := Val.cells) Val.Qac (lo := none) rfl rfl rfl H
 refine go1 ?_
 refine go ?_
 have e := pur H; subst e
 exact rt [.sl true (rws Val.cells x8)]
theorem Qg3 : ∀ (a2 : List Val) (c0 : Mch) (Qjw : Int) (Qi8 : Int) out, Qbu a2 c0 Qjw Qi8 = some out -> ∀ c, Qaq Tryz.f55 0 = some c -> ∀ (Q : AX -> AS -> Prop) (tt0 : Sto) (e0 : Nat) (b1 : Nat), (∀ (Q2h : Int), out = Q2h -> ∀ (T : Nat -> AV) (ss : Sto) (tt : Sto), T 6 = .ptr b1 0 /\ T 9 = i6 Q2h -> Tau tt0 [(e0, ⟨55, 2, [i6 c0.fuel, i6 c0.code]⟩)] tt -> Fx tt ss [(b1, ⟨34, 16, [i6 0, i6 0, .str zB, .Qab, i6 0, i6 0, .str zB, i6 0, .Qab, i6 0, .str zB, i6 0, .Qab, .Qab, .Qab, .Qab]⟩)] [] -> Q (.ex 1) ⟨T, ss⟩) -> True -> ∀ (T : Nat -> AV) (ss : Sto) (tt : Sto), T 6 = .ptr b1 0 /\ T 9 = i6 Qi8 /\ T 44 = sf Val.cells a2 /\ T 45 = i6 (a2.length : Int) /\ T 46 = i6 Qjw -> Tau tt0 [(e0, ⟨55, 2, [i6 c0.fuel, i6 c0.code]⟩)] tt -> Fx tt ss [(b1, ⟨34, 16, [i6 0, i6 0, .str zB, .Qab, i6 0, i6 0, .str zB, i6 0, .Qab, i6 0, .str zB, i6 0, .Qab, .Qab, .Qab, .Qab]⟩)] [] -> aLp Tryz.prog c Q ⟨T, ss⟩ := by
 intro a2 c0 Qjw Qi8
 revert Qjw Qi8
 refine Qbu.partial_correctness a2 c0 _ ?_
 intro Qbu IH Qjw Qi8 out H c hc Q tt0 e0 b1 hE hR T ss tt tT hX hF
 obtain rfl := lpe (rfl : Qaq Tryz.f55 0 = some _) hc
 refine Qak ?_
 have q := dum
 refine go ?_
 refine cdp H (fun h H => ?_) (fun h H => ?_)
 ·obtain ⟨x48, f1, H⟩ := bil (g := Val.cells) Val.Qac H
  refine go1 ?_
  refine Qad hF rfl fun b10 s11 hF => ?_
  refine go ?_
  refine st hF 0 rfl fun s12 hF => ?_
  refine go ?_
  exact IH  (IntKind.i64.wrap (Qjw + 1)) ((IntKind.i64.wrap (Qi8 + x48.num)).tmod 1000) _ H _ rfl Q tt0 e0 b1 hE hR _ _ _  S hX (hF.drop 1 0)
 ·refine go ?_
  exact wq (hE _ (pur H).symm _ _ _  S hX hF)
theorem Qh0 : ∀ (a1 : ByteArray) (a2 : List Val) (c0 : Mch) r, Qew a1 a2 c0 = some r -> ∀ (e0 : Nat)  (ss : Sto), Pre ss [(e0, ⟨55, 2, [i6 c0.fuel, i6 c0.code]⟩)] [] -> Ctr Tryz.prog 55 [.ptr e0 0, .str a1, sf Val.cells a2] ss (fun r' ss' => ∃ (tt' : Sto), r' = .agg (Val.cells r.1) /\ Tau (strip ss []) [(e0, ⟨55, 2, [i6 r.2.fuel, i6 r.2.code]⟩)] tt' /\ Fx tt' ss' [] []) := by
 intro a1 a2 c0 r H
 intro e0  ss hP
 unfold Qew at H
 refine Qaz mixed Tryz.func55 rfl (by kernel_rfl) (rs := [.cell 6 34]) rfl (by kernel_rfl) ?_
 obtain ⟨hF, hX⟩ := hP.start
 generalize strip ss [] = tt0 at hF hX ⊢
 have q := dum
 have tT := dum
 refine go ?_
 refine Qad hF rfl fun b1 ss2 hF => ?_
 refine go ?_
 obtain ⟨x13, hx13, H⟩ := bnd H
 refine cl (Qcm a2 _ hx13) ?_
 refine go ?_
 obtain ⟨x24, g3, H⟩ := bnd H
 refine Qaj 5 19 24 (.bool x24) (gi q (fun q => ?_) (fun q => ?_)) (fun J => ?_)
 ·rw [if_pos (dt q)] at g3
  obtain ⟨x20, f1, g3⟩ := bil (g := Val.cells) Val.Qac g3
  refine go1 ?_
  refine go ?_
  exact Qa8 19 g3
 ·rw [if_neg (df q)] at g3
  refine go ?_
  exact Qa8 19 g3
 refine go ?_
 obtain ⟨x32, g5, H⟩ := bnd H
 refine Qaj 6 26 32 (.bool x32) (gi q (fun q => ?_) (fun q => ?_)) (fun J => ?_)
 ·rw [if_pos (dbt q)] at g5
  obtain ⟨x27, f1, g5⟩ := bil (g := Val.cells) Val.Qac g5
  refine go1 ?_
  refine go ?_
  exact Qa8 26 g5
 ·rw [if_neg (dbf q)] at g5
  refine go ?_
  exact Qa8 26 g5
 refine go ?_
 refine cdp H (fun h H => ?_) (fun h H => ?_)
 ·refine go ?_
  refine st hF 0 rfl fun s7 hF => ?_
  refine go ?_
  have e := pur H; subst e
  exact rg [.agg [i6 3, i6 0, .str zB, sf Val.cells a2, i6 0, i6 0, .str zB, i6 0, .Qab, i6 0, .str zB, i6 0, .Qab, .Qab, .Qab, .Qab]] ⟨_, rfl, hX, Fx.self _⟩
 ·refine go ?_
  obtain ⟨x43, g8, H⟩ := bnd H
  refine Qaj 1 42 43 (.bool x43) (gi q (fun q => ?_) (fun q => ?_)) (fun J => ?_)
  ·refine go ?_
   exact Qa8 42 g8
  ·refine go ?_
   exact Qa8 42 g8
  refine go ?_
  refine cdb H (fun h H => ?_) (fun h H => ?_)
  ·refine go ?_
   obtain ⟨o13, ho13, H⟩ := bnd H
   refine Qg3 a2 c0 0 0 _ ho13 _ rfl _ tt0 e0 b1 ?_ ?_ _ _ _  S hX hF
   ·intro Qu8 he T15 s16 t17 tT hX hF
    have he := he.symm
    subst he
    refine go ?_
    obtain ⟨x57, hx57, H⟩ := bnd H
    refine cl (Qfw Qu8 _ hx57) ?_
    refine go ?_
    refine st hF 0 rfl fun s18 hF => ?_
    refine go ?_
    have e := pur H; subst e
    exact rg [.agg [i6 x57.kind, i6 x57.num, .str x57.name, sf Val.cells x57.items, i6 x57.fn.kind, i6 x57.fn.id, .str x57.fn.name, i6 x57.fn.num, sf cI x57.fn.ids, i6 x57.fn.data.kind, .str x57.fn.data.name, i6 x57.fn.data.num, sf cI x57.fn.data.sc, sf Fm.cells x57.fn.data.kids, sf Cor.cells x57.fn.kids, sf Slt.cells x57.env]] ⟨_, rfl, hX, Fx.self _⟩
   ·trivial
  ·refine go ?_
   obtain ⟨x63, g19, H⟩ := bnd H
   refine Qaj 1 62 63 (.bool x63) (gi q (fun q => ?_) (fun q => ?_)) (fun J => ?_)
   ·refine go ?_
    exact Qa8 62 g19
   ·refine go ?_
    exact Qa8 62 g19
   refine go ?_
   obtain ⟨x68, g21, H⟩ := bnd H
   refine Qaj 3 65 68 (.bool x68) (gi q (fun q => ?_) (fun q => ?_)) (fun J => ?_)
   ·refine go ?_
    exact Qa8 65 g21
   ·refine go ?_
    exact Qa8 65 g21
   refine go ?_
   refine cdb H (fun h H => ?_) (fun h H => ?_)
   ·refine go ?_
    refine Qa0 E0 [.v, .v, .v, .v, .v, .v, .v, .v, .v, .v, .z] (by kernel_rfl) ?_
    obtain ⟨x70, f1, H⟩ := bil (g := Val.cells) Val.Qac H
    obtain ⟨x74, f2, H⟩ := bil (g := Val.cells) Val.Qac H
    refine go2 ?_
    obtain ⟨x78, hx78, H⟩ := bnd H
    refine cv (Qkw (decide (x70.num < x74.num)) _ hx78) ?_
    refine go ?_
    refine st hF 0 rfl fun s23 hF => ?_
    refine go ?_
    have e := pur H; subst e
    exact rg [.agg [i6 x78.kind, i6 x78.num, .str x78.name, sf Val.cells x78.items, i6 x78.fn.kind, i6 x78.fn.id, .str x78.fn.name, i6 x78.fn.num, sf cI x78.fn.ids, i6 x78.fn.data.kind, .str x78.fn.data.name, i6 x78.fn.data.num, sf cI x78.fn.data.sc, sf Fm.cells x78.fn.data.kids, sf Cor.cells x78.fn.kids, sf Slt.cells x78.env]] ⟨_, rfl, hX, Fx.self _⟩
   ·refine go ?_
    obtain ⟨x84, g24, H⟩ := bnd H
    refine Qaj 1 83 84 (.bool x84) (gi q (fun q => ?_) (fun q => ?_)) (fun J => ?_)
    ·refine go ?_
     exact Qa8 83 g24
    ·refine go ?_
     exact Qa8 83 g24
    refine go ?_
    obtain ⟨x89, g26, H⟩ := bnd H
    refine Qaj 3 86 89 (.bool x89) (gi q (fun q => ?_) (fun q => ?_)) (fun J => ?_)
    ·refine go ?_
     exact Qa8 86 g26
    ·refine go ?_
     exact Qa8 86 g26
    refine go ?_
    refine cdb H (fun h H => ?_) (fun h H => ?_)
    ·refine go ?_
     refine Qa0 E0 [.v, .v, .v, .v, .v, .v, .v, .v, .v, .v, .z] (by kernel_rfl) ?_
     obtain ⟨x91, f1, H⟩ := bil (g := Val.cells) Val.Qac H
     obtain ⟨x95, f2, H⟩ := bil (g := Val.cells) Val.Qac H
     refine go2 ?_
     obtain ⟨x99, hx99, H⟩ := bnd H
     refine cv (Qkw (decide (x91.num = x95.num)) _ hx99) ?_
     refine go ?_
     refine st hF 0 rfl fun s28 hF => ?_
     refine go ?_
     have e := pur H; subst e
     exact rg [.agg [i6 x99.kind, i6 x99.num, .str x99.name, sf Val.cells x99.items, i6 x99.fn.kind, i6 x99.fn.id, .str x99.fn.name, i6 x99.fn.num, sf cI x99.fn.ids, i6 x99.fn.data.kind, .str x99.fn.data.name, i6 x99.fn.data.num, sf cI x99.fn.data.sc, sf Fm.cells x99.fn.data.kids, sf Cor.cells x99.fn.kids, sf Slt.cells x99.env]] ⟨_, rfl, hX, Fx.self _⟩
    ·refine go ?_
     obtain ⟨x105, g29, H⟩ := bnd H
     refine Qaj 1 104 105 (.bool x105) (gi q (fun q => ?_) (fun q => ?_)) (fun J => ?_)
     ·refine go ?_
      exact Qa8 104 g29
     ·refine go ?_
      exact Qa8 104 g29
     refine go ?_
     refine cdb H (fun h H => ?_) (fun h H => ?_)
     ·obtain ⟨x107, f1, H⟩ := bil (g := Val.cells) Val.Qac H
      obtain ⟨x110, f2, H⟩ := bil (g := Val.cells) Val.Qac H
      refine go2 ?_
      refine st hF 0 rfl fun s31 hF => ?_
      refine go ?_
      have e := pur H; subst e
      exact rg [.agg [i6 x110.kind, i6 x110.num, .str x110.name, sf Val.cells x110.items, i6 x110.fn.kind, i6 x110.fn.id, .str x110.fn.name, i6 x110.fn.num, sf cI x110.fn.ids, i6 x110.fn.data.kind, .str x110.fn.data.name, i6 x110.fn.data.num, sf cI x110.fn.data.sc, sf Fm.cells x110.fn.data.kids, sf Cor.cells x110.fn.kids, sf Slt.cells x110.env]] ⟨_, rfl, hX, Fx.self _⟩
     ·refine go ?_
      obtain ⟨x117, g32, H⟩ := bnd H
      refine Qaj 1 116 117 (.bool x117) (gi q (fun q => ?_) (fun q => ?_)) (fun J => ?_)
      ·refine go ?_
       exact Qa8 116 g32
      ·refine go ?_
       exact Qa8 116 g32
      refine go ?_
      refine cdb H (fun h H => ?_) (fun h H => ?_)
      ·obtain ⟨x119, f1, H⟩ := bil (g := Val.cells) Val.Qac H
       obtain ⟨x122, f2, H⟩ := bls (g := Val.cells) Val.Qac (lo := some (i6 1)) (hi := none) rfl rfl H
       refine go2 ?_
       obtain ⟨x123, hx123, H⟩ := bnd H
       refine cl (Qhr x122 _ hx123) ?_
       refine go ?_
       refine st hF 0 rfl fun s34 hF => ?_
       refine go ?_
       have e := pur H; subst e
       exact rg [.agg [i6 3, i6 0, .str zB, sf Val.cells x123, i6 0, i6 0, .str zB, i6 0, .Qab, i6 0, .str zB, i6 0, .Qab, .Qab, .Qab, .Qab]] ⟨_, rfl, hX, Fx.self _⟩
      ·refine go ?_
       obtain ⟨x126, hx126, H⟩ := bnd H
       refine cx (Qdk 3 c0 _ hx126 e0  _ (pre 0 1 0 hF hX)) ?_
       rintro _ s35 ⟨t36, rfl, hT, hG⟩
       obtain ⟨tt37, hX, hF⟩ := aft 0 1 0 hF hX hT hG
       refine go ?_
       refine st hF 0 rfl fun s38 hF => ?_
       refine go ?_
       have e := pur H; subst e
       exact rg [.agg [i6 x126.1.kind, i6 x126.1.num, .str x126.1.name, sf Val.cells x126.1.items, i6 x126.1.fn.kind, i6 x126.1.fn.id, .str x126.1.fn.name, i6 x126.1.fn.num, sf cI x126.1.fn.ids, i6 x126.1.fn.data.kind, .str x126.1.fn.data.name, i6 x126.1.fn.data.num, sf cI x126.1.fn.data.sc, sf Fm.cells x126.1.fn.data.kids, sf Cor.cells x126.1.fn.kids, sf Slt.cells x126.1.env]] ⟨_, rfl, hX, Fx.self _⟩
theorem Qe3 : ∀ (a0 : List Slt) r, Qdb a0 = some r -> ∀   (ss : Sto), Pre ss [] [] -> Ctr Tryz.prog 56 [sf Slt.cells a0] ss (fun r' ss' => ∃ (tt' : Sto) (w0 : AV), r' = w0 /\ Tau (strip ss []) [] tt' /\ Fx tt' ss' [] [⟨w0, 78, 17, rws Slt.cells r⟩]) := by
 intro a0 r H
 intro   ss hP
 unfold Qdb at H
 refine Qaz mixed Tryz.func56 rfl (by kernel_rfl) (rs := [.tmp 2]) rfl (by kernel_rfl) ?_
 obtain ⟨hF, hX⟩ := hP.start
 generalize strip ss [] = tt0 at hF hX ⊢
 have q := dum
 have tT := dum
 obtain ⟨x8, f1, H⟩ := Q5k (g := Slt.cells) Slt.Qac (lo := none) rfl rfl rfl H
 refine go1 ?_
 have hF := hF.Q6j 78 (rws Slt.cells x8) (Qi2 Slt.Qac _)
 refine go ?_
 have e := pur H; subst e
 exact rg [.sl true (rws Slt.cells x8)] ⟨_, _, rfl, hX, hF.pick [] [0] (by decide) (by decide)⟩
theorem Qif : ∀ (a1 : Cor) (a2 : List Slt) (c0 : Mch) (Qd8 : Int) out, Qdi a1 a2 c0 Qd8 = some out -> ∀ c, Qaq Tryz.f29 0 = some c -> ∀ (Q : AX -> AS -> Prop) (tt0 : Sto) (e0 : Nat) (b1 : Nat) (b3 : Nat), (∀ (_u : Unit), out = Sum.inr () -> ∀ (T : Nat -> AV) (ss : Sto) (tt : Sto), T 6 = .ptr b3 0 -> Tau tt0 [(e0, ⟨55, 2, [i6 (IntKind.i64.wrap (c0.fuel - 1)), i6 c0.code]⟩)] tt -> Fx tt ss [(b3, ⟨34, 16, [i6 0, i6 0, .str zB, .Qab, i6 0, i6 0, .str zB, i6 0, .Qab, i6 0, .str zB, i6 0, .Qab, .Qab, .Qab, .Qab]⟩), (b1, ⟨31, 11, [i6 a1.kind, i6 a1.id, .str a1.name, i6 a1.num, sf cI a1.ids, i6 a1.data.kind, .str a1.data.name, i6 a1.data.num, sf cI a1.data.sc, sf Fm.cells a1.data.kids, sf Cor.cells a1.kids]⟩)] [] -> Q (.ex 1) ⟨T, ss⟩) -> (∀ r, out = Sum.inl r -> ∀ s', Qi9 Tryz.prog [.cell 6 34] (fun r' ss' => ∃ (tt' : Sto), r' = .agg (Val.cells r.1) /\ Tau tt0 [(e0, ⟨55, 2, [i6 r.2.fuel, i6 r.2.code]⟩)] tt' /\ Fx tt' ss' [] []) s' -> Q .ret s') -> ∀ (T : Nat -> AV) (ss : Sto) (tt : Sto), T 2 = sf Slt.cells a2 /\ T 4 = .ptr b1 0 /\ T 6 = .ptr b3 0 /\ T 7 = i6 Qd8 -> Tau tt0 [(e0, ⟨55, 2, [i6 (IntKind.i64.wrap (c0.fuel - 1)), i6 c0.code]⟩)] tt -> Fx tt ss [(b3, ⟨34, 16, [i6 0, i6 0, .str zB, .Qab, i6 0, i6 0, .str zB, i6 0, .Qab, i6 0, .str zB, i6 0, .Qab, .Qab, .Qab, .Qab]⟩), (b1, ⟨31, 11, [i6 a1.kind, i6 a1.id, .str a1.name, i6 a1.num, sf cI a1.ids, i6 a1.data.kind, .str a1.data.name, i6 a1.data.num, sf cI a1.data.sc, sf Fm.cells a1.data.kids, sf Cor.cells a1.kids]⟩)] [] -> aLp Tryz.prog c Q ⟨T, ss⟩ := by
 intro a1 a2 c0 Qd8
 revert Qd8
 refine Qdi.partial_correctness a1 a2 c0 _ ?_
 intro Qdi IH Qd8 out H c hc Q tt0 e0 b1 b3 hE hR T ss tt tT hX hF
 obtain rfl := lpe (rfl : Qaq Tryz.f29 0 = some _) hc
 refine Qak ?_
 have q := dum
 refine go ?_
 refine cdp H (fun h H => ?_) (fun h H => ?_)
 ·refine go ?_
  refine Qa0 E0 [.v, .v, .v, .v, .v, .v, .v, .v] (by kernel_rfl) ?_
  obtain ⟨x50, f1, H⟩ := bil (g := Slt.cells) Slt.Qac H
  refine go1 ?_
  refine go ?_
  refine cdp H (fun h H => ?_) (fun h H => ?_)
  ·obtain ⟨x58, f1, H⟩ := bil (g := Slt.cells) Slt.Qac H
   refine go1 ?_
   refine st hF 0 rfl fun s12 hF => ?_
   refine go ?_
   exact wq (hR _ (pur H).symm _ (rg [.agg [i6 x58.val.kind, i6 x58.val.num, .str x58.val.name, sf Val.cells x58.val.items, i6 x58.val.fn.kind, i6 x58.val.fn.id, .str x58.val.fn.name, i6 x58.val.fn.num, sf cI x58.val.fn.ids, i6 x58.val.fn.data.kind, .str x58.val.fn.data.name, i6 x58.val.fn.data.num, sf cI x58.val.fn.data.sc, sf Fm.cells x58.val.fn.data.kids, sf Cor.cells x58.val.fn.kids, sf Slt.cells x58.val.env]] ⟨_, rfl, hX, Fx.self _⟩))
  ·refine go ?_
   exact IH  (IntKind.i64.wrap (Qd8 - 1)) _ H _ rfl Q tt0 e0 b1 b3 hE hR _ _ _  S hX hF
 ·refine go ?_
  exact wq (hE () (pur H).symm _ _ _  S hX hF)
theorem Qig : ∀ (a1 : Cor) (Qc5 : Int) (Qcr : Int) (x142 : Val) (x145 : List Val) (Qp6 : List Slt) (Qhq : Int) out, Qdj a1 Qc5 Qcr x142 x145 Qp6 Qhq = some out -> ∀ c, Qaq Tryz.f29 2 = some c -> ∀ (Q : AX -> AS -> Prop) (tt0 : Sto) (e0 : Nat) (b1 : Nat) (b3 : Nat) (b64 : Nat), (∀ (Q2j : List Slt), out = Q2j -> ∀ (T : Nat -> AV) (ss : Sto) (tt : Sto) (e2v0 : AV), T 0 = .ptr e0 0 /\ T 6 = .ptr b3 0 /\ T 12 = .ptr b64 0 /\ T 14 = e2v0 -> Tau tt0 [(e0, ⟨55, 2, [i6 Qc5, i6 Qcr]⟩)] tt -> Fx tt ss [(b64, ⟨34, 16, [i6 x142.kind, i6 x142.num, .str x142.name, sf Val.cells x142.items, i6 x142.fn.kind, i6 x142.fn.id, .str x142.fn.name, i6 x142.fn.num, sf cI x142.fn.ids, i6 x142.fn.data.kind, .str x142.fn.data.name, i6 x142.fn.data.num, sf cI x142.fn.data.sc, sf Fm.cells x142.fn.data.kids, sf Cor.cells x142.fn.kids, sf Slt.cells x142.env]⟩), (b3, ⟨34, 16, [i6 0, i6 0, .str zB, .Qab, i6 0, i6 0, .str zB, i6 0, .Qab, i6 0, .str zB, i6 0, .Qab, .Qab, .Qab, .Qab]⟩), (b1, ⟨31, 11, [i6 a1.kind, i6 a1.id, .str a1.name, i6 a1.num, sf cI a1.ids, i6 a1.data.kind, .str a1.data.name, i6 a1.data.num, sf cI a1.data.sc, sf Fm.cells a1.data.kids, sf Cor.cells a1.kids]⟩)] [⟨e2v0, 78, 17, rws Slt.cells Q2j⟩] -> Q (.ex 6) ⟨T, ss⟩) -> True -> ∀ (T : Nat -> AV) (ss : Sto) (tt : Sto) (z2v0 : AV), T 0 = .ptr e0 0 /\ T 6 = .ptr b3 0 /\ T 12 = .ptr b64 0 /\ T 13 = sf Val.cells x145 /\ T 14 = z2v0 /\ T 171 = sf cI x142.fn.ids /\ T 172 = i6 (x142.fn.ids.length : Int) /\ T 173 = i6 Qhq -> Tau tt0 [(e0, ⟨55, 2, [i6 Qc5, i6 Qcr]⟩)] tt -> Fx tt ss [(b64, ⟨34, 16, [i6 x142.kind, i6 x142.num, .str x142.name, sf Val.cells x142.items, i6 x142.fn.kind, i6 x142.fn.id, .str x142.fn.name, i6 x142.fn.num, sf cI x142.fn.ids, i6 x142.fn.data.kind, .str x142.fn.data.name, i6 x142.fn.data.num, sf cI x142.fn.data.sc, sf Fm.cells x142.fn.data.kids, sf Cor.cells x142.fn.kids, sf Slt.cells x142.env]⟩), (b3, ⟨34, 16, [i6 0, i6 0, .str zB, .Qab, i6 0, i6 0, .str zB, i6 0, .Qab, i6 0, .str zB, i6 0, .Qab, .Qab, .Qab, .Qab]⟩), (b1, ⟨31, 11, [i6 a1.kind, i6 a1.id, .str a1.name, i6 a1.num, sf cI a1.ids, i6 a1.data.kind, .str a1.data.name, i6 a1.data.num, sf cI a1.data.sc, sf Fm.cells a1.data.kids, sf Cor.cells a1.kids]⟩)] [⟨z2v0, 78, 17, rws Slt.cells Qp6⟩] -> aLp Tryz.prog c Q ⟨T, ss⟩ := by
 intro a1 Qc5 Qcr x142 x145 Qp6 Qhq
 revert Qp6 Qhq
 refine Qdj.partial_correctness a1 Qc5 Qcr x142 x145 _ ?_
 intro Qdj IH Qp6 Qhq out H c hc Q tt0 e0 b1 b3 b64 hE hR T ss tt z2v0 tT hX hF
 obtain rfl := lpe (rfl : Qaq Tryz.f29 2 = some _) hc
 refine Qak ?_
 have q := dum
 refine go ?_
 refine cdp H (fun h H => ?_) (fun h H => ?_)
 ·obtain ⟨x176, f1, H⟩ := bil (g := cI) (fun _ => rfl) H
  refine go1 ?_
  obtain ⟨x182, f1, H⟩ := bil (g := Val.cells) Val.Qac H
  refine go1 ?_
  refine apd (g := Slt.cells) hF 0 H (rdo (c := true) (g := Slt.cells) Slt.Qac) fun x186 H v81 s82 hF => ?_
  refine go ?_
  exact IH  x186 (IntKind.i64.wrap (Qhq + 1)) _ H _ rfl Q tt0 e0 b1 b3 b64 hE hR _ _ _ v81 S hX hF
 ·refine go ?_
  exact wq (hE _ (pur H).symm _ _ _ z2v0 S hX hF)
theorem Qjj : ∀ (a1 : Cor) (a2 : List Slt) (c0 : Mch) r, Qbc a1 a2 c0 = some r -> ∀ (e0 : Nat)  (ss : Sto), Pre ss [(e0, ⟨55, 2, [i6 c0.fuel, i6 c0.code]⟩)] [] -> Ctr Tryz.prog 29 [.ptr e0 0, .agg (Cor.cells a1), sf Slt.cells a2] ss (fun r' ss' => ∃ (tt' : Sto), r' = .agg (Val.cells r.1) /\ Tau (strip ss []) [(e0, ⟨55, 2, [i6 r.2.fuel, i6 r.2.code]⟩)] tt' /\ Fx tt' ss' [] []) := by
 refine Qbc.partial_correctness  (motive_1 := fun a1 a2 c0 r => ∀ (e0 : Nat)  (ss : Sto), Pre ss [(e0, ⟨55, 2, [i6 c0.fuel, i6 c0.code]⟩)] [] -> Ctr Tryz.prog 29 [.ptr e0 0, .agg (Cor.cells a1), sf Slt.cells a2] ss (fun r' ss' => ∃ (tt' : Sto), r' = .agg (Val.cells r.1) /\ Tau (strip ss []) [(e0, ⟨55, 2, [i6 r.2.fuel, i6 r.2.code]⟩)] tt' /\ Fx tt' ss' [] [])) (motive_2 := fun a1 a2 Qha Qkj Qal Qlw out => ∀ c, Qaq Tryz.f29 1 = some c -> ∀ (Q : AX -> AS -> Prop) (tt0 : Sto) (e0 : Nat) (b1 : Nat) (b3 : Nat), (∀ (Qva : List Val) (Qc2 : Int) (Qvb : Int), out = (Qva, Qc2, Qvb) -> ∀ (T : Nat -> AV) (ss : Sto) (tt : Sto) (e1v0 : AV), T 0 = .ptr e0 0 /\ T 6 = .ptr b3 0 /\ T 9 = e1v0 -> Tau tt0 [(e0, ⟨55, 2, [i6 Qc2, i6 Qvb]⟩)] tt -> Fx tt ss [(b3, ⟨34, 16, [i6 0, i6 0, .str zB, .Qab, i6 0, i6 0, .str zB, i6 0, .Qab, i6 0, .str zB, i6 0, .Qab, .Qab, .Qab, .Qab]⟩), (b1, ⟨31, 11, [i6 a1.kind, i6 a1.id, .str a1.name, i6 a1.num, sf cI a1.ids, i6 a1.data.kind, .str a1.data.name, i6 a1.data.num, sf cI a1.data.sc, sf Fm.cells a1.data.kids, sf Cor.cells a1.kids]⟩)] [⟨e1v0, 34, 16, rws Val.cells Qva⟩] -> Q (.ex 3) ⟨T, ss⟩) -> True -> ∀ (T : Nat -> AV) (ss : Sto) (tt : Sto) (z1v0 : AV), T 0 = .ptr e0 0 /\ T 2 = sf Slt.cells a2 /\ T 6 = .ptr b3 0 /\ T 9 = z1v0 /\ T 121 = sf Cor.cells a1.kids /\ T 122 = i6 (a1.kids.length : Int) /\ T 123 = i6 Qkj -> Tau tt0 [(e0, ⟨55, 2, [i6 Qal, i6 Qlw]⟩)] tt -> Fx tt ss [(b3, ⟨34, 16, [i6 0, i6 0, .str zB, .Qab, i6 0, i6 0, .str zB, i6 0, .Qab, i6 0, .str zB, i6 0, .Qab, .Qab, .Qab, .Qab]⟩), (b1, ⟨31, 11, [i6 a1.kind, i6 a1.id, .str a1.name, i6 a1.num, sf cI a1.ids, i6 a1.data.kind, .str a1.data.name, i6 a1.data.num, sf cI a1.data.sc, sf Fm.cells a1.data.kids, sf Cor.cells a1.kids]⟩)] [⟨z1v0, 34, 16, rws Val.cells Qha⟩] -> aLp Tryz.prog c Q ⟨T, ss⟩) ?_ ?_
 ·intro Qbc Qeg C0 L0 a1 a2 c0 r H
  intro e0  ss hP
  refine Qaz mixed Tryz.func29 rfl (by kernel_rfl) (rs := [.cell 6 34]) rfl (by kernel_rfl) ?_
  obtain ⟨hF, hX⟩ := hP.start
  generalize strip ss [] = tt0 at hF hX ⊢
  have q := dum
  have tT := dum
  refine go ?_
  refine Qad hF rfl fun b1 ss2 hF => ?_
  refine go ?_
  refine Qad hF rfl fun b3 s4 hF => ?_
  refine go ?_
  refine cdn H (fun h H => ?_) (fun h H => ?_)
  ·refine go ?_
   refine st hF 0 rfl fun s5 hF => ?_
   refine go ?_
   have e := pur H; subst e
   exact rg [.agg [i6 0, i6 0, .str zB, .Qab, i6 0, i6 0, .str zB, i6 0, .Qab, i6 0, .str zB, i6 0, .Qab, .Qab, .Qab, .Qab]] ⟨_, rfl, hX, Fx.self _⟩
  ·refine go ?_
   refine cdp H (fun h H => ?_) (fun h H => ?_)
   ·refine go ?_
    obtain ⟨x29, hx29, H⟩ := bnd H
    refine cx (Qdk 4 c0 _ hx29 e0  _ (pre 0 1 0 hF hX)) ?_
    rintro _ s6 ⟨t7, rfl, hT, hG⟩
    obtain ⟨t8, hX, hF⟩ := aft 0 1 0 hF hX hT hG
    refine go ?_
    refine st hF 0 rfl fun s9 hF => ?_
    refine go ?_
    have e := pur H; subst e
    exact rg [.agg [i6 x29.1.kind, i6 x29.1.num, .str x29.1.name, sf Val.cells x29.1.items, i6 x29.1.fn.kind, i6 x29.1.fn.id, .str x29.1.fn.name, i6 x29.1.fn.num, sf cI x29.1.fn.ids, i6 x29.1.fn.data.kind, .str x29.1.fn.data.name, i6 x29.1.fn.data.num, sf cI x29.1.fn.data.sc, sf Fm.cells x29.1.fn.data.kids, sf Cor.cells x29.1.fn.kids, sf Slt.cells x29.1.env]] ⟨_, rfl, hX, Fx.self _⟩
   ·refine go ?_
    refine stT hF hX 0 rfl fun t11 s10 hF hX => ?_
    refine go ?_
    refine cdp H (fun h H => ?_) (fun h H => ?_)
    ·refine go ?_
     obtain ⟨o13, ho13, H⟩ := bnd H
     refine Qif a1 a2 c0 (IntKind.i64.wrap ((a2.length : Int) - 1)) _ ho13 _ rfl _ tt0 e0 b1 b3 ?_ ?_ _ _ _  S hX hF
     ·intro _ he T15 s16 t17 tT hX hF
      have he := he.symm
      subst he
      try dsimp only at H
      refine go ?_
      refine st hF 0 rfl fun s18 hF => ?_
      refine go ?_
      have e := pur H; subst e
      exact rg [.agg [i6 0, i6 0, .str zB, .Qab, i6 0, i6 0, .str zB, i6 0, .Qab, i6 0, .str zB, i6 0, .Qab, .Qab, .Qab, .Qab]] ⟨_, rfl, hX, Fx.self _⟩
     ·intro r hr s' hs
      subst hr
      have e := pur H; subst e
      first | exact hs | (try simp only [sf, i6, zB, Fm.Qaa, Xpn.Qaa, Cor.Qaa, Bnd.Qaa, Hit.Qaa, Rul.Qaa, Mac.Qaa, Stp.Qaa, Val.Qaa] at hs ⊢; exact hs)
    ·refine go ?_
     refine cdp H (fun h H => ?_) (fun h H => ?_)
     ·refine go ?_
      obtain ⟨x66, hx66, H⟩ := bnd H
      refine cl (Qfw a1.num _ hx66) ?_
      refine go ?_
      refine st hF 0 rfl fun s19 hF => ?_
      refine go ?_
      have e := pur H; subst e
      exact rg [.agg [i6 x66.kind, i6 x66.num, .str x66.name, sf Val.cells x66.items, i6 x66.fn.kind, i6 x66.fn.id, .str x66.fn.name, i6 x66.fn.num, sf cI x66.fn.ids, i6 x66.fn.data.kind, .str x66.fn.data.name, i6 x66.fn.data.num, sf cI x66.fn.data.sc, sf Fm.cells x66.fn.data.kids, sf Cor.cells x66.fn.kids, sf Slt.cells x66.env]] ⟨_, rfl, hX, Fx.self _⟩
     ·refine go ?_
      refine cdp H (fun h H => ?_) (fun h H => ?_)
      ·refine go ?_
       obtain ⟨x71, hx71, H⟩ := bnd H
       refine cl (Qib a1.data _ hx71) ?_
       refine go ?_
       refine st hF 0 rfl fun s20 hF => ?_
       refine go ?_
       have e := pur H; subst e
       exact rg [.agg [i6 x71.kind, i6 x71.num, .str x71.name, sf Val.cells x71.items, i6 x71.fn.kind, i6 x71.fn.id, .str x71.fn.name, i6 x71.fn.num, sf cI x71.fn.ids, i6 x71.fn.data.kind, .str x71.fn.data.name, i6 x71.fn.data.num, sf cI x71.fn.data.sc, sf Fm.cells x71.fn.data.kids, sf Cor.cells x71.fn.kids, sf Slt.cells x71.env]] ⟨_, rfl, hX, Fx.self _⟩
      ·refine go ?_
       refine cdp H (fun h H => ?_) (fun h H => ?_)
       ·refine go ?_
        refine st hF 0 rfl fun s21 hF => ?_
        refine go ?_
        have e := pur H; subst e
        exact rg [.agg [i6 4, i6 0, .str zB, .Qab, i6 a1.kind, i6 a1.id, .str a1.name, i6 a1.num, sf cI a1.ids, i6 a1.data.kind, .str a1.data.name, i6 a1.data.num, sf cI a1.data.sc, sf Fm.cells a1.data.kids, sf Cor.cells a1.kids, sf Slt.cells a2]] ⟨_, rfl, hX, Fx.self _⟩
       ·refine go ?_
        refine cdp H (fun h H => ?_) (fun h H => ?_)
        ·refine go ?_
         refine Qa0 E0 [.v, .v, .v, .v] (by kernel_rfl) ?_
         try simp only [go_sem, ↓reduceIte, Nat.reduceEqDiff, Nat.reduceAdd, Nat.reduceMul, Nat.reduceLeDiff, Nat.reduceLT, Int.reduceEq, Int.toNat_natCast, q, tT, hF.f, hF.m, hF.x hX, Qte]
         obtain ⟨x82, hx82, H⟩ := bnd H
         refine cv (Qgi [(ByteArray.mk #[108, 105, 115, 116]), (ByteArray.mk #[43]), (ByteArray.mk #[60]), (ByteArray.mk #[61]), (ByteArray.mk #[104, 101, 97, 100]), (ByteArray.mk #[116, 97, 105, 108])] a1.name _ hx82) ?_
         refine go ?_
         refine cdb H (fun h H => ?_) (fun h H => ?_)
         ·refine go ?_
          refine st hF 0 rfl fun s22 hF => ?_
          refine go ?_
          have e := pur H; subst e
          exact rg [.agg [i6 5, i6 0, .str a1.name, .Qab, i6 0, i6 0, .str zB, i6 0, .Qab, i6 0, .str zB, i6 0, .Qab, .Qab, .Qab, .Qab]] ⟨_, rfl, hX, Fx.self _⟩
         ·refine go ?_
          obtain ⟨x87, hx87, H⟩ := bnd H
          refine cx (Qdk 1 (Mch.mk (IntKind.i64.wrap (c0.fuel - 1)) c0.code) _ hx87 e0  _ (pre 0 1 0 hF hX)) ?_
          rintro _ s23 ⟨t24, rfl, hT, hG⟩
          obtain ⟨t25, hX, hF⟩ := aft 0 1 0 hF hX hT hG
          refine go ?_
          refine st hF 0 rfl fun s26 hF => ?_
          refine go ?_
          have e := pur H; subst e
          exact rg [.agg [i6 x87.1.kind, i6 x87.1.num, .str x87.1.name, sf Val.cells x87.1.items, i6 x87.1.fn.kind, i6 x87.1.fn.id, .str x87.1.fn.name, i6 x87.1.fn.num, sf cI x87.1.fn.ids, i6 x87.1.fn.data.kind, .str x87.1.fn.data.name, i6 x87.1.fn.data.num, sf cI x87.1.fn.data.sc, sf Fm.cells x87.1.fn.data.kids, sf Cor.cells x87.1.fn.kids, sf Slt.cells x87.1.env]] ⟨_, rfl, hX, Fx.self _⟩
        ·refine go ?_
         refine cdp H (fun h H => ?_) (fun h H => ?_)
         ·obtain ⟨x93, f1, H⟩ := bil (g := Cor.cells) Cor.Qac H
          refine go1 ?_
          obtain ⟨x96, hx96, H⟩ := bnd H
          refine cx (C0 x93 a2 (Mch.mk (IntKind.i64.wrap (c0.fuel - 1)) c0.code) _ hx96 e0  _ (pre 0 1 0 hF hX)) ?_
          rintro _ s27 ⟨t28, rfl, hT, hG⟩
          obtain ⟨t29, hX, hF⟩ := aft 0 1 0 hF hX hT hG
          refine go ?_
          refine Qad hF rfl fun b30 s31 hF => ?_
          refine go ?_
          refine st hF 0 rfl fun s32 hF => ?_
          refine go ?_
          obtain ⟨x104, g33, H⟩ := bnd H
          refine Qaj 3 101 104 (.bool x104) (gi q (fun q => ?_) (fun q => ?_)) (fun J => ?_)
          ·refine go ?_
           exact Qa8 101 g33
          ·refine go ?_
           exact Qa8 101 g33
          refine go ?_
          refine cdb H (fun h H => ?_) (fun h H => ?_)
          ·obtain ⟨x108, f1, H⟩ := bil (g := Cor.cells) Cor.Qac H
           refine go1 ?_
           obtain ⟨x111, hx111, H⟩ := bnd H
           refine cx (C0 x108 a2 x96.2 _ hx111 e0  _ (pre 0 1 0 hF hX)) ?_
           rintro _ s35 ⟨t36, rfl, hT, hG⟩
           obtain ⟨tt37, hX, hF⟩ := aft 0 1 0 hF hX hT hG
           refine go ?_
           refine st hF 1 rfl fun s38 hF => ?_
           refine go ?_
           have e := pur H; subst e
           exact rg [.agg [i6 x111.1.kind, i6 x111.1.num, .str x111.1.name, sf Val.cells x111.1.items, i6 x111.1.fn.kind, i6 x111.1.fn.id, .str x111.1.fn.name, i6 x111.1.fn.num, sf cI x111.1.fn.ids, i6 x111.1.fn.data.kind, .str x111.1.fn.data.name, i6 x111.1.fn.data.num, sf cI x111.1.fn.data.sc, sf Fm.cells x111.1.fn.data.kids, sf Cor.cells x111.1.fn.kids, sf Slt.cells x111.1.env]] ⟨_, rfl, hX, Fx.self _⟩
          ·obtain ⟨x115, f1, H⟩ := bil (g := Cor.cells) Cor.Qac H
           refine go1 ?_
           obtain ⟨x118, hx118, H⟩ := bnd H
           refine cx (C0 x115 a2 x96.2 _ hx118 e0  _ (pre 0 1 0 hF hX)) ?_
           rintro _ s39 ⟨t40, rfl, hT, hG⟩
           obtain ⟨t41, hX, hF⟩ := aft 0 1 0 hF hX hT hG
           refine go ?_
           refine st hF 1 rfl fun s42 hF => ?_
           refine go ?_
           have e := pur H; subst e
           exact rg [.agg [i6 x118.1.kind, i6 x118.1.num, .str x118.1.name, sf Val.cells x118.1.items, i6 x118.1.fn.kind, i6 x118.1.fn.id, .str x118.1.fn.name, i6 x118.1.fn.num, sf cI x118.1.fn.ids, i6 x118.1.fn.data.kind, .str x118.1.fn.data.name, i6 x118.1.fn.data.num, sf cI x118.1.fn.data.sc, sf Fm.cells x118.1.fn.data.kids, sf Cor.cells x118.1.fn.kids, sf Slt.cells x118.1.env]] ⟨_, rfl, hX, Fx.self _⟩
         ·have hF := hF.lit 34 16 (rws Val.cells []) rfl
          refine go ?_
          obtain ⟨o51, ho51, H⟩ := bnd H
          refine L0 a1 a2 [] 0 (IntKind.i64.wrap (c0.fuel - 1)) c0.code _ ho51 _ rfl _ tt0 e0 b1 b3 ?_ ?_ _ _ _ (.sl true (rws Val.cells [])) S hX hF
          ·intro Qrp Qc5 Qcr he T53 s54 t55 e52v0 tT hX hF
           have he := he.symm
           subst he
           try dsimp only at H
           refine go ?_
           refine cdn H (fun h H => ?_) (fun h H => ?_)
           ·refine go ?_
            refine st hF 0 rfl fun s56 hF => ?_
            refine go ?_
            have e := pur H; subst e
            exact rg [.agg [i6 0, i6 0, .str zB, .Qab, i6 0, i6 0, .str zB, i6 0, .Qab, i6 0, .str zB, i6 0, .Qab, .Qab, .Qab, .Qab]] ⟨_, rfl, hX, Fx.self _⟩
           ·refine go ?_
            obtain ⟨s57, hF, hw58, hb59, hz60⟩ := frz hF 0
            refine Qxi 9 (by simp [upd, tT]) hw58 hb59 ?_
            refine go ?_
            obtain ⟨E, hEq⟩ : ∃ E, E = EE s57 [] := ⟨_, rfl⟩
            have n61 : ¬ E b3 := by rw [hEq]; exact EE.not (hF.at 0 rfl) (by simp)
            have n62 : ¬ E b1 := by rw [hEq]; exact EE.not (hF.at 1 rfl) (by simp)
            have n63 : ¬ E e0 := by rw [hEq]; exact EE.not (hF.xat hX 0 rfl) (by simp)
            refine Qa0 E [.v, .v, .v, .v, .v, .x, .x, .v] (by kernel_rfl) ?_
            obtain ⟨x142, f1, H⟩ := bil (g := Val.cells) Val.Qac H
            obtain ⟨x145, f2, H⟩ := bls (g := Val.cells) Val.Qac (lo := some (i6 1)) (hi := none) rfl rfl H
            have z := And.intro (Qam (hF.at 0 rfl) n61) (And.intro (Qam (hF.at 1 rfl) n62) (Qam (hF.xat hX 0 rfl) n63)); refine gh2 ?_
            refine Qvg hF rfl fun b64 s65 nw66 mo67 hF => ?_
            have z := And.intro (Qam (hF.at 1 rfl) n61) (And.intro (Qam (hF.at 2 rfl) n62) (Qam (hF.xat hX 0 rfl) n63)); refine gh ?_
            refine stK hF 0 (show E _ from ((em0 hEq) _ nw66)) rfl fun s68 hF => ?_
            have z := And.intro (Qam (hF.at 1 rfl) n61) (And.intro (Qam (hF.at 2 rfl) n62) (Qam (hF.xat hX 0 rfl) n63)); refine gh ?_
            refine go ?_
            refine cdp H (fun h H => ?_) (fun h H => ?_)
            ·refine go ?_
             obtain ⟨x154, hx154, H⟩ := bnd H
             refine cx (Qh0 x142.name x145 (Mch.mk Qc5 Qcr) _ hx154 e0  _ (pre 0 1 0 hF hX)) ?_
             rintro _ s69 ⟨tt70, rfl, hT, hG⟩
             obtain ⟨t71, hX, hF⟩ := aft 0 1 0 hF hX hT hG
             refine go ?_
             refine st hF 1 rfl fun s72 hF => ?_
             refine go ?_
             have e := pur H; subst e
             exact rg [.agg [i6 x154.1.kind, i6 x154.1.num, .str x154.1.name, sf Val.cells x154.1.items, i6 x154.1.fn.kind, i6 x154.1.fn.id, .str x154.1.fn.name, i6 x154.1.fn.num, sf cI x154.1.fn.ids, i6 x154.1.fn.data.kind, .str x154.1.fn.data.name, i6 x154.1.fn.data.num, sf cI x154.1.fn.data.sc, sf Fm.cells x154.1.fn.data.kids, sf Cor.cells x154.1.fn.kids, sf Slt.cells x154.1.env]] ⟨_, rfl, hX, Fx.self _⟩
            ·refine go ?_
             refine cdp H (fun h H => ?_) (fun h H => ?_)
             ·refine go ?_
              refine cdn H (fun h H => ?_) (fun h H => ?_)
              ·refine go ?_
               obtain ⟨x165, hx165, H⟩ := bnd H
               refine cx (Qdk 3 (Mch.mk Qc5 Qcr) _ hx165 e0  _ (pre 0 1 0 hF hX)) ?_
               rintro _ s73 ⟨t74, rfl, hT, hG⟩
               obtain ⟨tt75, hX, hF⟩ := aft 0 1 0 hF hX hT hG
               refine go ?_
               refine st hF 1 rfl fun s76 hF => ?_
               refine go ?_
               have e := pur H; subst e
               exact rg [.agg [i6 x165.1.kind, i6 x165.1.num, .str x165.1.name, sf Val.cells x165.1.items, i6 x165.1.fn.kind, i6 x165.1.fn.id, .str x165.1.fn.name, i6 x165.1.fn.num, sf cI x165.1.fn.ids, i6 x165.1.fn.data.kind, .str x165.1.fn.data.name, i6 x165.1.fn.data.num, sf cI x165.1.fn.data.sc, sf Fm.cells x165.1.fn.data.kids, sf Cor.cells x165.1.fn.kids, sf Slt.cells x165.1.env]] ⟨_, rfl, hX, Fx.self _⟩
              ·refine go ?_
               obtain ⟨x168, hx168, H⟩ := bnd H
               refine cx (Qe3 x142.env _ hx168   _ (pre 0 0 0 hF hX)) ?_
               rintro v77 s78 ⟨t79, _, rfl, hT, hG⟩
               obtain ⟨t80, hX, hF⟩ := aft 0 0 0 hF hX hT hG
               refine go ?_
               obtain ⟨o83, ho83, H⟩ := bnd H
               refine Qig a1 Qc5 Qcr x142 x145 x168 0 _ ho83 _ rfl _ tt0 e0 b1 b3 b64 ?_ ?_ _ _ _ v77 S hX hF
               ·intro Qhg he T85 s86 t87 e84v0 tT hX hF
                have he := he.symm
                subst he
                refine go ?_
                obtain ⟨E, hEq⟩ : ∃ E, E = EE s86 [e0] := ⟨_, rfl⟩
                have n88 : ¬ E b64 := by rw [hEq]; exact EE.not (hF.at 0 rfl) (by simp only [List.mem_cons, List.not_mem_nil, or_false, not_or]; exact neX hF 0 rfl hX 0 rfl)
                have n89 : ¬ E b3 := by rw [hEq]; exact EE.not (hF.at 1 rfl) (by simp only [List.mem_cons, List.not_mem_nil, or_false, not_or]; exact neX hF 1 rfl hX 0 rfl)
                have n90 : ¬ E b1 := by rw [hEq]; exact EE.not (hF.at 2 rfl) (by simp only [List.mem_cons, List.not_mem_nil, or_false, not_or]; exact neX hF 2 rfl hX 0 rfl)
                refine Qa0 E [.v, .v, .v, .v, .v, .v, .v, .x, .x, .z] (by kernel_rfl) ?_
                obtain ⟨x192, f1, H⟩ := bil (g := Cor.cells) Cor.Qac H
                have z := And.intro (Qam (hF.at 0 rfl) n88) (And.intro (Qam (hF.at 1 rfl) n89) (Qam (hF.at 2 rfl) n90)); refine gh1 ?_
                obtain ⟨x195, hx195, H⟩ := bnd H
                obtain ⟨s91, hF, hw92, hb93, hz94⟩ := frz hF 0
                refine Qn5 (Qe3 Qhg _ hx195   _ (pre 0 0 0 hF hX)) (.cons hw92 (fun _ => rfl) .nil) hb93 ?_
                rintro v95 s96 ⟨t97, _, rfl, hT, hG⟩
                refine Qhi ((Fx.kept hT hG (by intro p hp; simp only [List.mem_cons, List.not_mem_nil, or_false] at hp <;> first | (rcases hp with rfl <;> (rw [hEq]; first | (refine EE.of ?_; simp; done) | exact EE.new rfl))| cases hp)).to hz94) fun kp99 => ?_
                obtain ⟨t98, hX, hF⟩ := aft 0 0 0 hF hX hT hG
                have z := And.intro (Qam (hF.at 0 rfl) n88) (And.intro (Qam (hF.at 1 rfl) n89) (Qam (hF.at 2 rfl) n90)); refine gh ?_
                obtain ⟨x196, hx196, H⟩ := bnd H
                obtain ⟨s100, hF, hw101, hb102, hz103⟩ := frz hF 0
                refine Qn5 (C0 x192 x195 (Mch.mk Qc5 Qcr) _ hx196 e0  _ (pre 0 1 0 hF hX)) (by (try simp only [sf, i6, zB, Cor.Qaa, Fm.Qaa]); exact (.cons (Wk.sub hb102 _) id (.cons (Wk.sub hb102 _) id (.cons hw101 (fun _ => rfl) .nil)))) hb102 ?_
                rintro _ s104 ⟨t105, rfl, hT, hG⟩
                refine Qhi ((Fx.kept hT hG (by intro p hp; simp only [List.mem_cons, List.not_mem_nil, or_false] at hp <;> first | (rcases hp with rfl <;> (rw [hEq]; first | (refine EE.of ?_; simp; done) | exact EE.new rfl))| cases hp)).to hz103) fun kp107 => ?_
                obtain ⟨t106, hX, hF⟩ := aft 0 1 0 hF hX hT hG
                have z := And.intro (Qam (hF.at 0 rfl) n88) (And.intro (Qam (hF.at 1 rfl) n89) (Qam (hF.at 2 rfl) n90)); refine gh ?_
                refine st hF 1 rfl fun s108 hF => ?_
                have z := And.intro (Qam (hF.at 0 rfl) n88) (And.intro (Qam (hF.at 1 rfl) n89) (Qam (hF.at 2 rfl) n90)); refine gh ?_
                refine go ?_
                have e := pur H; subst e
                exact rg [.agg [i6 x196.1.kind, i6 x196.1.num, .str x196.1.name, sf Val.cells x196.1.items, i6 x196.1.fn.kind, i6 x196.1.fn.id, .str x196.1.fn.name, i6 x196.1.fn.num, sf cI x196.1.fn.ids, i6 x196.1.fn.data.kind, .str x196.1.fn.data.name, i6 x196.1.fn.data.num, sf cI x196.1.fn.data.sc, sf Fm.cells x196.1.fn.data.kids, sf Cor.cells x196.1.fn.kids, sf Slt.cells x196.1.env]] ⟨_, rfl, hX, Fx.self _⟩
               ·trivial
             ·refine go ?_
              obtain ⟨x198, hx198, H⟩ := bnd H
              refine cx (Qdk 2 (Mch.mk Qc5 Qcr) _ hx198 e0  _ (pre 0 1 0 hF hX)) ?_
              rintro _ s109 ⟨t110, rfl, hT, hG⟩
              obtain ⟨t111, hX, hF⟩ := aft 0 1 0 hF hX hT hG
              refine go ?_
              refine st hF 1 rfl fun s112 hF => ?_
              refine go ?_
              have e := pur H; subst e
              exact rg [.agg [i6 x198.1.kind, i6 x198.1.num, .str x198.1.name, sf Val.cells x198.1.items, i6 x198.1.fn.kind, i6 x198.1.fn.id, .str x198.1.fn.name, i6 x198.1.fn.num, sf cI x198.1.fn.ids, i6 x198.1.fn.data.kind, .str x198.1.fn.data.name, i6 x198.1.fn.data.num, sf cI x198.1.fn.data.sc, sf Fm.cells x198.1.fn.data.kids, sf Cor.cells x198.1.fn.kids, sf Slt.cells x198.1.env]] ⟨_, rfl, hX, Fx.self _⟩
          ·trivial
 ·intro Qbc Qeg C0 L0 a1 a2 Qha Qkj Qal Qlw out H c hc Q tt0 e0 b1 b3 hE hR T ss tt z1v0 tT hX hF
  obtain rfl := lpe (rfl : Qaq Tryz.f29 1 = some _) hc
  refine Qak ?_
  have q := dum
  refine go ?_
  refine cdp H (fun h H => ?_) (fun h H => ?_)
  ·obtain ⟨x125, f1, H⟩ := bil (g := Cor.cells) Cor.Qac H
   refine go1 ?_
   refine Qad hF rfl fun b43 s44 hF => ?_
   refine go ?_
   refine st hF 0 rfl fun s45 hF => ?_
   refine go ?_
   obtain ⟨x131, hx131, H⟩ := bnd H
   refine cx (C0 x125 a2 (Mch.mk Qal Qlw) _ hx131 e0  _ (pre 0 1 0 hF hX)) ?_
   rintro _ s46 ⟨t47, rfl, hT, hG⟩
   obtain ⟨t48, hX, hF⟩ := aft 0 1 0 hF hX hT hG
   refine go ?_
   refine apd (g := Val.cells) hF 0 H (rdo (c := true) (g := Val.cells) Val.Qac) fun x133 H v49 s50 hF => ?_
   refine go ?_
   exact L0 a1 a2 x133 (IntKind.i64.wrap (Qkj + 1)) x131.2.fuel x131.2.code _ H _ rfl Q tt0 e0 b1 b3 hE hR _ _ _ v49 S hX (hF.drop 1 0)
  ·refine go ?_
   exact wq (hE _ _ _ (pur H).symm _ _ _ z1v0 S hX hF)
theorem Qns : ∀ (a0 : Val) (c0 : Int) r, Qdf a0 c0 = some r -> ∀ (e0 : Nat)  (ss : Sto), Pre ss [(e0, ⟨3, 1, [i6 c0]⟩)] [] -> Ctr Tryz.prog 30 [.agg (Val.cells a0), .ptr e0 0] ss (fun r' ss' => ∃ (tt' : Sto), r' = .bool r.1 /\ Tau (strip ss []) [(e0, ⟨3, 1, [i6 r.2]⟩)] tt' /\ Fx tt' ss' [] []) := by
 refine Qdf.partial_correctness  (motive_1 := fun a0 c0 r => ∀ (e0 : Nat)  (ss : Sto), Pre ss [(e0, ⟨3, 1, [i6 c0]⟩)] [] -> Ctr Tryz.prog 30 [.agg (Val.cells a0), .ptr e0 0] ss (fun r' ss' => ∃ (tt' : Sto), r' = .bool r.1 /\ Tau (strip ss []) [(e0, ⟨3, 1, [i6 r.2]⟩)] tt' /\ Fx tt' ss' [] [])) (motive_2 := fun a0 Qjy Qal out => ∀ c, Qaq Tryz.f30 1 = some c -> ∀ (Q : AX -> AS -> Prop) (tt0 : Sto) (e0 : Nat) (b1 : Nat), (∀ (Qc2 : Int), out = Sum.inr Qc2 -> ∀ (T : Nat -> AV) (ss : Sto) (tt : Sto), 0 + 0 = 0 -> Tau tt0 [(e0, ⟨3, 1, [i6 Qc2]⟩)] tt -> Fx tt ss [(b1, ⟨34, 16, [i6 a0.kind, i6 a0.num, .str a0.name, sf Val.cells a0.items, i6 a0.fn.kind, i6 a0.fn.id, .str a0.fn.name, i6 a0.fn.num, sf cI a0.fn.ids, i6 a0.fn.data.kind, .str a0.fn.data.name, i6 a0.fn.data.num, sf cI a0.fn.data.sc, sf Fm.cells a0.fn.data.kids, sf Cor.cells a0.fn.kids, sf Slt.cells a0.env]⟩)] [] -> Q (.ex 2) ⟨T, ss⟩) -> (∀ r, out = Sum.inl r -> ∀ s', Qi9 Tryz.prog [.tmp 4] (fun r' ss' => ∃ (tt' : Sto), r' = .bool r.1 /\ Tau tt0 [(e0, ⟨3, 1, [i6 r.2]⟩)] tt' /\ Fx tt' ss' [] []) s' -> Q .ret s') -> ∀ (T : Nat -> AV) (ss : Sto) (tt : Sto), T 1 = .ptr e0 0 /\ T 31 = sf Slt.cells a0.env /\ T 32 = i6 (a0.env.length : Int) /\ T 33 = i6 Qjy -> Tau tt0 [(e0, ⟨3, 1, [i6 Qal]⟩)] tt -> Fx tt ss [(b1, ⟨34, 16, [i6 a0.kind, i6 a0.num, .str a0.name, sf Val.cells a0.items, i6 a0.fn.kind, i6 a0.fn.id, .str a0.fn.name, i6 a0.fn.num, sf cI a0.fn.ids, i6 a0.fn.data.kind, .str a0.fn.data.name, i6 a0.fn.data.num, sf cI a0.fn.data.sc, sf Fm.cells a0.fn.data.kids, sf Cor.cells a0.fn.kids, sf Slt.cells a0.env]⟩)] [] -> aLp Tryz.prog c Q ⟨T, ss⟩) (motive_3 := fun a0 Qfs Qbd out => ∀ c, Qaq Tryz.f30 0 = some c -> ∀ (Q : AX -> AS -> Prop) (tt0 : Sto) (e0 : Nat) (b1 : Nat), (∀ (Qhf : Int), out = Sum.inr Qhf -> ∀ (T : Nat -> AV) (ss : Sto) (tt : Sto), T 1 = .ptr e0 0 /\ T 2 = .ptr b1 0 -> Tau tt0 [(e0, ⟨3, 1, [i6 Qhf]⟩)] tt -> Fx tt ss [(b1, ⟨34, 16, [i6 a0.kind, i6 a0.num, .str a0.name, sf Val.cells a0.items, i6 a0.fn.kind, i6 a0.fn.id, .str a0.fn.name, i6 a0.fn.num, sf cI a0.fn.ids, i6 a0.fn.data.kind, .str a0.fn.data.name, i6 a0.fn.data.num, sf cI a0.fn.data.sc, sf Fm.cells a0.fn.data.kids, sf Cor.cells a0.fn.kids, sf Slt.cells a0.env]⟩)] [] -> Q (.ex 0) ⟨T, ss⟩) -> (∀ r, out = Sum.inl r -> ∀ s', Qi9 Tryz.prog [.tmp 4] (fun r' ss' => ∃ (tt' : Sto), r' = .bool r.1 /\ Tau tt0 [(e0, ⟨3, 1, [i6 r.2]⟩)] tt' /\ Fx tt' ss' [] []) s' -> Q .ret s') -> ∀ (T : Nat -> AV) (ss : Sto) (tt : Sto), T 1 = .ptr e0 0 /\ T 2 = .ptr b1 0 /\ T 19 = sf Val.cells a0.items /\ T 20 = i6 (a0.items.length : Int) /\ T 21 = i6 Qfs -> Tau tt0 [(e0, ⟨3, 1, [i6 Qbd]⟩)] tt -> Fx tt ss [(b1, ⟨34, 16, [i6 a0.kind, i6 a0.num, .str a0.name, sf Val.cells a0.items, i6 a0.fn.kind, i6 a0.fn.id, .str a0.fn.name, i6 a0.fn.num, sf cI a0.fn.ids, i6 a0.fn.data.kind, .str a0.fn.data.name, i6 a0.fn.data.num, sf cI a0.fn.data.sc, sf Fm.cells a0.fn.data.kids, sf Cor.cells a0.fn.kids, sf Slt.cells a0.env]⟩)] [] -> aLp Tryz.prog c Q ⟨T, ss⟩) ?_ ?_ ?_
 ·intro Qdo Qdn L1 L0 a0 c0 r H
  intro e0  ss hP
  refine Qaz mixed Tryz.func30 rfl (by kernel_rfl) (rs := [.tmp 4]) rfl (by kernel_rfl) ?_
  obtain ⟨hF, hX⟩ := hP.start
  generalize strip ss [] = tt0 at hF hX ⊢
  have q := dum
  have tT := dum
  refine go ?_
  refine Qad hF rfl fun b1 ss2 hF => ?_
  refine go ?_
  refine stT hF hX 0 rfl fun tt4 ss3 hF hX => ?_
  refine go ?_
  refine cdp H (fun h H => ?_) (fun h H => ?_)
  ·refine go ?_
   have e := pur H; subst e
   exact rg [.bool false] ⟨_, rfl, hX, Fx.self _⟩
  ·refine go ?_
   obtain ⟨o11, ho11, H⟩ := bnd H
   refine L0 a0 0 (IntKind.i64.wrap (c0 - 1)) _ ho11 _ rfl _ tt0 e0 b1 ?_ ?_ _ _ _  S hX hF
   ·intro Qod he T13 s14 t15 tT hX hF
    have he := he.symm
    subst he
    try dsimp only at H
    refine go ?_
    obtain ⟨o22, ho22, H⟩ := bnd H
    refine L1 a0 0 Qod _ ho22 _ rfl _ tt0 e0 b1 ?_ ?_ _ _ _  S hX hF
    ·intro Qrh he T24 s25 t26 tT hX hF
     have he := he.symm
     subst he
     try dsimp only at H
     refine go ?_
     have e := pur H; subst e
     exact rg [.bool true] ⟨_, rfl, hX, Fx.self _⟩
    ·intro r hr s' hs
     subst hr
     have e := pur H; subst e
     first | exact hs | (try simp only [sf, i6, zB, Fm.Qaa, Xpn.Qaa, Cor.Qaa, Bnd.Qaa, Hit.Qaa, Rul.Qaa, Mac.Qaa, Stp.Qaa, Val.Qaa] at hs ⊢; exact hs)
   ·intro r hr s' hs
    subst hr
    have e := pur H; subst e
    first | exact hs | (try simp only [sf, i6, zB, Fm.Qaa, Xpn.Qaa, Cor.Qaa, Bnd.Qaa, Hit.Qaa, Rul.Qaa, Mac.Qaa, Stp.Qaa, Val.Qaa] at hs ⊢; exact hs)
 ·intro Qdf Qdo C0 L1 a0 Qjy Qal out H c hc Q tt0 e0 b1 hE hR T ss tt tT hX hF
  obtain rfl := lpe (rfl : Qaq Tryz.f30 1 = some _) hc
  refine Qak ?_
  have q := dum
  refine go ?_
  refine cdp H (fun h H => ?_) (fun h H => ?_)
  ·obtain ⟨x35, f1, H⟩ := bil (g := Slt.cells) Slt.Qac H
   refine go1 ?_
   refine Qad hF rfl fun b16 s17 hF => ?_
   refine go ?_
   refine st hF 0 rfl fun s18 hF => ?_
   refine go ?_
   obtain ⟨x40, hx40, H⟩ := bnd H
   refine cx (C0 x35.val Qal _ hx40 e0  _ (pre 0 1 0 hF hX)) ?_
   rintro _ s19 ⟨tt20, rfl, hT, hG⟩
   obtain ⟨t21, hX, hF⟩ := aft 0 1 0 hF hX hT hG
   refine go ?_
   refine cdb H (fun h H => ?_) (fun h H => ?_)
   ·refine go ?_
    exact wq (hR _ (pur H).symm _ (rg [.bool false] ⟨_, rfl, hX, Fx.self _⟩))
   ·refine go ?_
    exact L1 a0 (IntKind.i64.wrap (Qjy + 1)) x40.2 _ H _ rfl Q tt0 e0 b1 hE hR _ _ _  S hX (hF.drop 1 0)
  ·refine go ?_
   exact wq (hE _ (pur H).symm _ _ _  S hX hF)
 ·intro Qdf Qdn C0 L0 a0 Qfs Qbd out H c hc Q tt0 e0 b1 hE hR T ss tt tT hX hF
  obtain rfl := lpe (rfl : Qaq Tryz.f30 0 = some _) hc
  refine Qak ?_
  have q := dum
  refine go ?_
  refine cdp H (fun h H => ?_) (fun h H => ?_)
  ·obtain ⟨x23, f1, H⟩ := bil (g := Val.cells) Val.Qac H
   refine go1 ?_
   refine Qad hF rfl fun b5 s6 hF => ?_
   refine go ?_
   refine st hF 0 rfl fun s7 hF => ?_
   refine go ?_
   obtain ⟨x27, hx27, H⟩ := bnd H
   refine cx (C0 x23 Qbd _ hx27 e0  _ (pre 0 1 0 hF hX)) ?_
   rintro _ s8 ⟨tt9, rfl, hT, hG⟩
   obtain ⟨t10, hX, hF⟩ := aft 0 1 0 hF hX hT hG
   refine go ?_
   refine cdb H (fun h H => ?_) (fun h H => ?_)
   ·refine go ?_
    exact wq (hR _ (pur H).symm _ (rg [.bool false] ⟨_, rfl, hX, Fx.self _⟩))
   ·refine go ?_
    exact L0 a0 (IntKind.i64.wrap (Qfs + 1)) x27.2 _ H _ rfl Q tt0 e0 b1 hE hR _ _ _  S hX (hF.drop 1 0)
  ·refine go ?_
   exact wq (hE _ (pur H).symm _ _ _  S hX hF)
theorem Qgb : ∀ (a0 : List Int) r, Qcf a0 = some r -> Qdz Tryz.prog 76 [.sl (false) (rws cI a0)] (sf cI r) := by
 intro a0 r H ss
 unfold Qcf at H
 refine Qaz mixed Tryz.func76 rfl (by kernel_rfl) (rs := [.tmp 2]) rfl (by kernel_rfl) ?_
 have hF := Fx.refl ss
 have hX := Tau.none ss
 have hF := hF.lit 3 1 (rws cI []) rfl
 cases a0 with
 | nil =>
  obtain ⟨rfl, _⟩ := Qlo H
  try simp only [go_sem, ↓reduceIte, Nat.reduceEqDiff, Nat.reduceAdd, Nat.reduceMul, Nat.reduceLeDiff, Nat.reduceLT, Int.reduceEq, Int.toNat_natCast]
  refine Qty ?_ ?_
  ·try simp only [go_sem, ↓reduceIte, Nat.reduceEqDiff, Nat.reduceAdd, Nat.reduceMul, Nat.reduceLeDiff, Nat.reduceLT, Int.reduceEq, Int.toNat_natCast]
   exact Qrs (vs := [.Qab]) (by first | (simp only [go_sem, ↓reduceIte, Nat.reduceEqDiff, Nat.reduceAdd, Nat.reduceMul, Nat.reduceLeDiff, Nat.reduceLT, Int.reduceEq, Int.toNat_natCast]; done) | rfl | (simp only [go_sem, ↓reduceIte, Nat.reduceEqDiff, Nat.reduceAdd, Nat.reduceMul, Nat.reduceLeDiff, Nat.reduceLT, Int.reduceEq, Int.toNat_natCast]; rfl)) (Wk.Q1l .Qab hF.sub)
  ·try simp only [go_sem, ↓reduceIte, Nat.reduceEqDiff, Nat.reduceAdd, Nat.reduceMul, Nat.reduceLeDiff, Nat.reduceLT, Int.reduceEq, Int.toNat_natCast]
   refine Qpi hF 0 (g := cI) (xs := []) (ys := []) rfl (by decide) (by decide) (RdL.of (c := false) (fun _ => rfl) rfl) H fun v1 ss1 hF => ?_
   try simp only [go_sem, ↓reduceIte, Nat.reduceEqDiff, Nat.reduceAdd, Nat.reduceMul, Nat.reduceLeDiff, Nat.reduceLT, Int.reduceEq, Int.toNat_natCast, hF.cells 0 rfl, hF.len 0 rfl]
   exact Qrs (vs := [v1]) (by first | (simp only [go_sem, ↓reduceIte, Nat.reduceEqDiff, Nat.reduceAdd, Nat.reduceMul, Nat.reduceLeDiff, Nat.reduceLT, Int.reduceEq, Int.toNat_natCast, hF.cells 0 rfl, hF.len 0 rfl]; done) | rfl | (simp only [go_sem, ↓reduceIte, Nat.reduceEqDiff, Nat.reduceAdd, Nat.reduceMul, Nat.reduceLeDiff, Nat.reduceLT, Int.reduceEq, Int.toNat_natCast, hF.cells 0 rfl, hF.len 0 rfl]; rfl)) (hF.wk 0 rfl)
 | cons x xs =>
  try simp only [go_sem, ↓reduceIte, Nat.reduceEqDiff, Nat.reduceAdd, Nat.reduceMul, Nat.reduceLeDiff, Nat.reduceLT, Int.reduceEq, Int.toNat_natCast]
  refine Qpi hF 0 (g := cI) (xs := []) (ys := x :: xs) rfl (by decide) (by decide) (RdL.of (c := false) (fun _ => rfl) (by first | rfl | simp only [Qd5, Qfj, cI, cU, cS, cL])) H fun v1 ss1 hF => ?_
  try simp only [go_sem, ↓reduceIte, Nat.reduceEqDiff, Nat.reduceAdd, Nat.reduceMul, Nat.reduceLeDiff, Nat.reduceLT, Int.reduceEq, Int.toNat_natCast, hF.cells 0 rfl, hF.len 0 rfl]
  exact Qrs (vs := [v1]) (by first | (simp only [go_sem, ↓reduceIte, Nat.reduceEqDiff, Nat.reduceAdd, Nat.reduceMul, Nat.reduceLeDiff, Nat.reduceLT, Int.reduceEq, Int.toNat_natCast, hF.cells 0 rfl, hF.len 0 rfl]; done) | rfl | (simp only [go_sem, ↓reduceIte, Nat.reduceEqDiff, Nat.reduceAdd, Nat.reduceMul, Nat.reduceLeDiff, Nat.reduceLT, Int.reduceEq, Int.toNat_natCast, hF.cells 0 rfl, hF.len 0 rfl]; rfl)) (hF.wk 0 rfl)
end Go.Proofs.SA
