/- Printed by a program of mine: the plain functions that the code computes (D), and the walks that show it (W). -/
import Derived.Test.YtcoeidfiajaahaaGreatDoorGx
import Derived.Test.YtcoeidfiajaahaaGreatDoorSaTy
import Derived.Test.YtcoeidfiajaahaaGreatDoorGv
import Derived.Test.YtcoeidfiajaahaaGreatDoorSf
import Derived.Test.YtcoeidfiajaahaaGreatDoorvsD
import Derived.Test.YtcoeidfiajaahaaGreatDoorvsW1
set_option maxRecDepth 100000
set_option maxHeartbeats 2000000
set_option linter.unusedSimpArgs false
set_option linter.unusedVariables false
open Go Go.Proofs Go.Proofs.Shadow
open Go.IntKind (i64)
namespace Go.Proofs.SA
theorem Qsd : ∀ (a0 : Val) (a1 : Int) r, Qd8 a0 a1 = some r -> Qb0 Tryz.prog 40 [.agg (Val.cells a0), i6 a1] (.str r) := by
 refine Qd8.partial_correctness  (motive_1 := fun a0 a1 r => Qb0 Tryz.prog 40 [.agg (Val.cells a0), i6 a1] (.str r)) (motive_2 := fun a0 a1 Qac Qpr out => ∀ c, Qam Tryz.f40 0 = some c -> ∀ (Q : AX -> AS -> Prop) (tt : Sto) (b1 : Nat), (∀ (Qbn : List ByteArray), out = Qbn -> ∀ (T : Nat -> AV) (ss : Sto) (e0v0 : AV), T 5 = e0v0 -> Fx tt ss [(b1, ⟨34, 16, [i6 a0.kind, i6 a0.num, .str a0.name, sf Val.cells a0.items, i6 a0.fn.kind, i6 a0.fn.id, .str a0.fn.name, i6 a0.fn.num, sf cI a0.fn.ids, i6 a0.fn.data.kind, .str a0.fn.data.name, i6 a0.fn.data.num, sf cI a0.fn.data.sc, sf Fm.cells a0.fn.data.kids, sf Cor.cells a0.fn.kids, sf Slt.cells a0.env]⟩)] [⟨e0v0, 9, 1, rws cS Qbn⟩] -> Q (.ex 1) ⟨T, ss⟩) -> True -> ∀ (T : Nat -> AV) (ss : Sto) (z0v0 : AV), T 1 = i6 a1 /\ T 5 = z0v0 /\ T 34 = sf Val.cells a0.items /\ T 35 = i6 (a0.items.length : Int) /\ T 36 = i6 Qpr -> Fx tt ss [(b1, ⟨34, 16, [i6 a0.kind, i6 a0.num, .str a0.name, sf Val.cells a0.items, i6 a0.fn.kind, i6 a0.fn.id, .str a0.fn.name, i6 a0.fn.num, sf cI a0.fn.ids, i6 a0.fn.data.kind, .str a0.fn.data.name, i6 a0.fn.data.num, sf cI a0.fn.data.sc, sf Fm.cells a0.fn.data.kids, sf Cor.cells a0.fn.kids, sf Slt.cells a0.env]⟩)] [⟨z0v0, 9, 1, rws cS Qac⟩] -> Qbr (Qbc Tryz.prog c) Q ⟨T, ss⟩) ?_ ?_
 ·intro Qc5 L0 a0 a1 r H
  intro ss
  refine Qau mixed Tryz.func40 rfl (by kernel_rfl) (rs := [.tmp 4]) rfl (by kernel_rfl) ?_
  have hF := Fx.refl ss
  have hX := Tau.none ss
  have q := dum
  have tT := dum
  refine go ?_
  refine Qag hF rfl fun b1 ss2 hF => ?_
  refine go ?_
  refine cdp H (fun h H => ?_) (fun h H => ?_)
  ·refine go ?_
   have e := pur H; subst e
   exact rt [.str (ByteArray.mk #[46, 46])]
  ·refine go ?_
   refine cdp H (fun h H => ?_) (fun h H => ?_)
   ·refine go ?_
    obtain ⟨x16, hx16, H⟩ := bnd H
    refine cl (Qot a0.num _ hx16) ?_
    refine go ?_
    have e := pur H; subst e
    exact rt [.str x16]
   ·refine go ?_
    obtain ⟨Kb9, j4, H⟩ := bnd H
    refine Qca (fun s' => ∃ (T : Nat -> AV) (ss1 : Sto), s' = ⟨T, ss1⟩ /\ (T 1 = i6 a1 /\ T 2 = .ptr b1 0 /\ T 11 = i6 a0.kind /\ T 17 = .bool Kb9) /\ Fx ss ss1 [(b1, ⟨34, 16, [i6 a0.kind, i6 a0.num, .str a0.name, sf Val.cells a0.items, i6 a0.fn.kind, i6 a0.fn.id, .str a0.fn.name, i6 a0.fn.num, sf cI a0.fn.ids, i6 a0.fn.data.kind, .str a0.fn.data.name, i6 a0.fn.data.num, sf cI a0.fn.data.sc, sf Fm.cells a0.fn.data.kids, sf Cor.cells a0.fn.kids, sf Slt.cells a0.env]⟩)] []) (cdp j4 (fun h j4 => ?_) (fun h j4 => ?_)) ?_
    ·refine go ?_
     have e := pur j4
     subst e
     exact ⟨_, _, rfl, S, hF⟩
    ·refine go ?_
     have e := pur j4
     subst e
     exact ⟨_, _, rfl, S, hF⟩
    ·rintro s' ⟨T5, ss6, rfl, tT, hF⟩
     refine go ?_
     refine cdb H (fun h H => ?_) (fun h H => ?_)
     ·refine go ?_
      have e := pur H; subst e
      exact rt [.str a0.name]
     ·refine go ?_
      refine cdp H (fun h H => ?_) (fun h H => ?_)
      ·refine go ?_
       obtain ⟨x28, hx28, H⟩ := bnd H
       refine cl (Qot (a0.fn.ids.length : Int) _ hx28) ?_
       obtain ⟨x29, f1, H⟩ := bsc H
       refine go1 ?_
       refine go ?_
       have e := pur H; subst e
       exact rt [.str x29]
      ·refine go ?_
       refine cdp H (fun h H => ?_) (fun h H => ?_)
       ·have hF := hF.lit 9 1 (rws cS []) rfl
        refine go ?_
        obtain ⟨o13, ho13, H⟩ := bnd H
        refine L0 a0 a1 [] 0 _ ho13 _ rfl _ _ b1 ?_ ?_ _ _ (.sl true (rws cS [])) S hF
        ·intro Qi3 he T15 s16 e14v0 tT hF
         have he := he.symm
         subst he
         refine go ?_
         obtain ⟨x49, hx49, H⟩ := bnd H
         refine Qr8 (Qw5 Qi3 (ByteArray.mk #[32]) _ hx49) .str (.cons ((hF.wk 0 rfl).trans (Wk.sub (Sub.zero _) _)) (fun _ => rfl) (.cons (Wk.sub (Sub.zero _) _) id .nil)) ?_
         obtain ⟨x50, f1, H⟩ := bsc H
         obtain ⟨x51, f2, H⟩ := bsc H
         refine go2 ?_
         refine go ?_
         have e := pur H; subst e
         exact rt [.str x51]
        ·trivial
       ·refine go ?_
        have e := pur H; subst e
        exact rt [.str (ByteArray.mk #[63])]
 ·intro Qd8 Qc5 C0 L0 a0 a1 Qac Qpr out H c hc Q tt b1 hE hR T ss z0v0 tT hF
  obtain rfl := lpe (rfl : Qam Tryz.f40 0 = some _) hc
  refine Qah ?_
  have q := dum
  have hX := Tau.none tt
  refine go ?_
  refine cdp H (fun h H => ?_) (fun h H => ?_)
  ·obtain ⟨x38, f1, H⟩ := bil (g := Val.cells) Val.Qad H
   refine go1 ?_
   refine Qag hF rfl fun b8 s9 hF => ?_
   refine go ?_
   refine st hF 0 rfl fun s10 hF => ?_
   refine go ?_
   obtain ⟨x44, hx44, H⟩ := bnd H
   refine cl (C0 x38 (i64.wrap (a1 + 1)) _ hx44) ?_
   refine go ?_
   refine apd (g := cS) hF 0 H (rdo (c := true) (g := cS) (fun _ => rfl)) fun x46 H v11 s12 hF => ?_
   refine go ?_
   exact L0 a0 a1 x46 (i64.wrap (Qpr + 1)) _ H _ rfl Q tt b1 hE hR _ _ v11 S (hF.drop 1 0)
  ·refine go ?_
   exact hE _ (pur H).symm _ _ z0v0 S hF
theorem Qfx : ∀ (a0 : Val) r, Qc0 a0 = some r -> Qb0 Tryz.prog 14 [.agg (Val.cells a0)] (.str r) := by
 intro a0 r H
 intro ss
 unfold Qc0 at H
 refine Qau mixed Tryz.func14 rfl (by kernel_rfl) (rs := [.tmp 2]) rfl (by kernel_rfl) ?_
 have hF := Fx.refl ss
 have hX := Tau.none ss
 have q := dum
 have tT := dum
 refine go ?_
 refine Qag hF rfl fun b1 ss2 hF => ?_
 refine go ?_
 obtain ⟨x4, hx4, H⟩ := bnd H
 refine cl (Qsd a0 0 _ hx4) ?_
 refine go ?_
 have e := pur H; subst e
 exact rt [.str x4]
theorem Qqy : (∀ (a0 : Val) (a1 : Val) r, Qcs a0 a1 = some r -> Qb0 Tryz.prog 11 [.agg (Val.cells a0), .agg (Val.cells a1)] (.bool r)) /\ (∀ (a0 : List Val) (a1 : List Val) r, Qa5 a0 a1 = some r -> Qb0 Tryz.prog 34 [sf Val.cells a0, sf Val.cells a1, .fn 11 []] (.bool r)) := by
 have h := Qcs.mutual_partial_correctness  (motive_1 := fun a0 a1 r => Qb0 Tryz.prog 11 [.agg (Val.cells a0), .agg (Val.cells a1)] (.bool r)) (motive_2 := fun a0 a1 r => Qb0 Tryz.prog 34 [sf Val.cells a0, sf Val.cells a1, .fn 11 []] (.bool r)) (motive_3 := fun a0 a1 Qns out => ∀ c, Qam Tryz.f34 0 = some c -> ∀ (Q : AX -> AS -> Prop) (tt : Sto), (∀ (_u : Unit), out = Sum.inr () -> ∀ (T : Nat -> AV) (ss : Sto), 0 + 0 = 0 -> Fx tt ss [] [] -> Q (.ex 0) ⟨T, ss⟩) -> (∀ r, out = Sum.inl r -> ∀ s', Qkk Tryz.prog [.tmp 6] (fun r' ss' => r' = .bool r /\ ss' = tt) s' -> Q .ret s') -> ∀ (T : Nat -> AV) (ss : Sto), T 1 = sf Val.cells a1 /\ T 2 = .fn 11 [] /\ T 15 = sf Val.cells a0 /\ T 16 = i6 (a0.length : Int) /\ T 17 = i6 Qns -> Fx tt ss [] [] -> Qbr (Qbc Tryz.prog c) Q ⟨T, ss⟩) ?s0 ?s1 ?s2
 ·exact ⟨h.1, h.2.1⟩
 ·intro Qa5 C1 a0 a1 r H
  intro ss
  refine Qau mixed Tryz.func11 rfl (by kernel_rfl) (rs := [.tmp 4]) rfl (by kernel_rfl) ?_
  have hF := Fx.refl ss
  have hX := Tau.none ss
  have q := dum
  have tT := dum
  refine go ?_
  refine Qag hF rfl fun b1 ss2 hF => ?_
  refine go ?_
  refine Qag hF rfl fun b3 ss4 hF => ?_
  refine go ?_
  refine Qaq E0 [.v, .v, .v, .v, .v, .v, .v, .v, .v, .v, .v, .v, .v, .v, .v, .v, .v, .v, .v, .v, .v, .v, .v, .v, .v, .v, .v, .v, .v, .v, .v, .v, .v, .v] (by kernel_rfl) ?_
  refine go ?_
  obtain ⟨x16, g5, H⟩ := bnd H
  refine Qb4 5 11 16 (.bool x16) (ti q (fun q => ?_) (fun q => ?_)) (fun J => ?_)
  ·refine go ?_
   exact Qaw 11 g5
  ·refine go ?_
   exact Qaw 11 g5
  refine go ?_
  obtain ⟨x23, g7, H⟩ := bnd H
  refine Qb4 5 18 23 (.bool x23) (ti q (fun q => ?_) (fun q => ?_)) (fun J => ?_)
  ·refine go ?_
   exact Qaw 18 g7
  ·refine go ?_
   exact Qaw 18 g7
  refine go ?_
  obtain ⟨x30, g9, H⟩ := bnd H
  refine Qb4 5 25 30 (.bool x30) (ti q (fun q => ?_) (fun q => ?_)) (fun J => ?_)
  ·rw [if_pos (dbt q)] at g9
   refine go ?_
   obtain ⟨x29, hx29, g9⟩ := bnd g9
   refine cv (C1 a0.items a1.items _ hx29) ?_
   refine go ?_
   exact Qaw 25 g9
  ·rw [if_neg (dbf q)] at g9
   refine go ?_
   exact Qaw 25 g9
  refine go ?_
  obtain ⟨x37, g11, H⟩ := bnd H
  refine Qb4 5 32 37 (.bool x37) (ti q (fun q => ?_) (fun q => ?_)) (fun J => ?_)
  ·rw [if_pos (dbt q)] at g11
   refine go ?_
   obtain ⟨x33, hx33, g11⟩ := bnd g11
   refine cv (Qfx a0 _ hx33) ?_
   refine go ?_
   obtain ⟨x35, hx35, g11⟩ := bnd g11
   refine cv (Qfx a1 _ hx35) ?_
   refine go ?_
   exact Qaw 32 g11
  ·rw [if_neg (dbf q)] at g11
   refine go ?_
   exact Qaw 32 g11
  refine go ?_
  have e := pur H; subst e
  exact rt [.bool x37]
 ·intro Qao L0 a0 a1 r H
  intro ss
  refine Qau mixed Tryz.func34 rfl (by kernel_rfl) (rs := [.tmp 6]) rfl (by kernel_rfl) ?_
  have hF := Fx.refl ss
  have hX := Tau.none ss
  have q := dum
  have tT := dum
  refine go ?_
  refine cdn H (fun h H => ?_) (fun h H => ?_)
  ·refine go ?_
   have e := pur H; subst e
   exact rt [.bool false]
  ·refine go ?_
   obtain ⟨o7, ho7, H⟩ := bnd H
   refine L0 a0 a1 0 _ ho7 _ rfl _ _  ?_ ?_ _ _  S hF
   ·intro _ he T9 s10 tT hF
    have he := he.symm
    subst he
    dsimp only at H
    refine go ?_
    have e := pur H; subst e
    exact rt [.bool true]
   ·intro r hr s' hs
    subst hr
    have e := pur H; subst e
    first | exact hs | (try simp only [sf, i6, zB, Fm.Qaa, Xpn.Qaa, Cor.Qaa, Bnd.Qaa, Hit.Qaa, Rul.Qaa, Mac.Qaa, Stp.Qaa, Val.Qaa] at hs ⊢; exact hs)
 ·intro Qcs Qao C0 L0 a0 a1 Qns out H c hc Q tt  hE hR T ss tT hF
  obtain rfl := lpe (rfl : Qam Tryz.f34 0 = some _) hc
  refine Qah ?_
  have q := dum
  have hX := Tau.none tt
  refine go ?_
  refine cdp H (fun h H => ?_) (fun h H => ?_)
  ·obtain ⟨x20, f1, H⟩ := bil (g := Val.cells) Val.Qad H
   refine go1 ?_
   refine Qag hF rfl fun b1 ss2 hF => ?_
   refine go ?_
   refine st hF 0 rfl fun ss3 hF => ?_
   obtain ⟨x24, f1, H⟩ := bil (g := Val.cells) Val.Qad H
   refine go1 ?_
   refine Qag hF rfl fun b4 ss5 hF => ?_
   refine go ?_
   refine st hF 0 rfl fun ss6 hF => ?_
   refine go ?_
   obtain ⟨x29, hx29, H⟩ := bnd H
   refine cl (C0 x20 x24 _ hx29) ?_
   refine go ?_
   refine cdb H (fun h H => ?_) (fun h H => ?_)
   ·refine go ?_
    exact hR _ (pur H).symm _ (rt [.bool false])
   ·refine go ?_
    exact L0 a0 a1 (i64.wrap (Qns + 1)) _ H _ rfl Q tt  hE hR _ _  S (hF.drop 2 0)
  ·refine go ?_
   exact hE () (pur H).symm _ _  S hF
theorem Qjz : ∀ (a0 : Val) (a1 : Val) r, Qcs a0 a1 = some r -> Qb0 Tryz.prog 11 [.agg (Val.cells a0), .agg (Val.cells a1)] (.bool r) := Qqy.1
theorem Qsj : ∀ (Q0u : Int) (Qa1 : ByteArray) out, Qgw Q0u Qa1 = some out -> ∀ c, Qam Tryz.f89 0 = some c -> ∀ (Q : AX -> AS -> Prop) (tt : Sto), (∀ (Kjv : Int) (Qqo : ByteArray), out = (Kjv, Qqo) -> ∀ (T : Nat -> AV) (ss : Sto), T 0 = i6 Kjv /\ T 3 = .str Qqo -> Fx tt ss [] [] -> Q (.ex 0) ⟨T, ss⟩) -> True -> ∀ (T : Nat -> AV) (ss : Sto), T 0 = i6 Q0u /\ T 3 = .str Qa1 -> Fx tt ss [] [] -> Qbr (Qbc Tryz.prog c) Q ⟨T, ss⟩ := by
 refine Qgw.partial_correctness  _ ?_
 intro Qgw IH Q0u Qa1 out H c hc Q tt  hE hR T ss tT hF
 obtain rfl := lpe (rfl : Qam Tryz.f89 0 = some _) hc
 refine Qah ?_
 have q := dum
 have hX := Tau.none tt
 refine go ?_
 refine cdp H (fun h H => ?_) (fun h H => ?_)
 ·obtain ⟨x21, f1, H⟩ := bsc H
  refine go1 ?_
  refine go ?_
  exact IH  (i64.wrap (Q0u.tdiv 10)) x21 _ H _ rfl Q tt  hE hR _ _  S hF
 ·refine go ?_
  exact hE _ _ (pur H).symm _ _  S hF
theorem Qph : ∀ (a0 : Int) r, Qfz a0 = some r -> Qb0 Tryz.prog 89 [i6 a0] (.str r) := by
 refine Qfz.partial_correctness  (motive := fun a0 r => Qb0 Tryz.prog 89 [i6 a0] (.str r)) ?_
 ·intro Qfz C0 a0 r H
  intro ss
  refine Qau mixed Tryz.func89 rfl (by kernel_rfl) (rs := [.tmp 2]) rfl (by kernel_rfl) ?_
  have hF := Fx.refl ss
  have hX := Tau.none ss
  have q := dum
  have tT := dum
  refine go ?_
  refine cdp H (fun h H => ?_) (fun h H => ?_)
  ·refine go ?_
   have e := pur H; subst e
   exact rt [.str (ByteArray.mk #[45, 57, 50, 50, 51, 51, 55, 50, 48, 51, 54, 56, 53, 52, 55, 55, 53, 56, 48, 56])]
  ·refine go ?_
   refine cdp H (fun h H => ?_) (fun h H => ?_)
   ·refine go ?_
    obtain ⟨x10, hx10, H⟩ := bnd H
    refine cl (C0 (i64.wrap (0 - a0)) _ hx10) ?_
    obtain ⟨x11, f1, H⟩ := bsc H
    refine go1 ?_
    refine go ?_
    have e := pur H; subst e
    exact rt [.str x11]
   ·refine go ?_
    obtain ⟨o1, ho1, H⟩ := bnd H
    refine Qsj  a0 zB _ ho1 _ rfl _ _  ?_ ?_ _ _  S hF
    ·intro Kj1 Kj2 he T3 ss4 tT hF
     have he := he.symm
     subst he
     dsimp only at H
     obtain ⟨x30, f1, H⟩ := bsc H
     refine go1 ?_
     refine go ?_
     have e := pur H; subst e
     exact rt [.str x30]
    ·trivial
theorem Qyu : ∀ (a0 : Val) (a1 : Int) r, Qhz a0 a1 = some r -> Qb0 Tryz.prog 50 [.agg (Val.cells a0), i6 a1] (.str r) := by
 refine Qhz.partial_correctness  (motive_1 := fun a0 a1 r => Qb0 Tryz.prog 50 [.agg (Val.cells a0), i6 a1] (.str r)) (motive_2 := fun a0 a1 Qaj Qa7 out => ∀ c, Qam Tryz.f50 0 = some c -> ∀ (Q : AX -> AS -> Prop) (tt : Sto) (b1 : Nat), (∀ (Qvw : ByteArray), out = Qvw -> ∀ (T : Nat -> AV) (ss : Sto), T 5 = .str Qvw -> Fx tt ss [(b1, ⟨34, 16, [i6 a0.kind, i6 a0.num, .str a0.name, sf Val.cells a0.items, i6 a0.fn.kind, i6 a0.fn.id, .str a0.fn.name, i6 a0.fn.num, sf cI a0.fn.ids, i6 a0.fn.data.kind, .str a0.fn.data.name, i6 a0.fn.data.num, sf cI a0.fn.data.sc, sf Fm.cells a0.fn.data.kids, sf Cor.cells a0.fn.kids, sf Slt.cells a0.env]⟩)] [] -> Q (.ex 1) ⟨T, ss⟩) -> True -> ∀ (T : Nat -> AV) (ss : Sto), T 1 = i6 a1 /\ T 2 = .ptr b1 0 /\ T 5 = .str Qaj /\ T 6 = i6 Qa7 -> Fx tt ss [(b1, ⟨34, 16, [i6 a0.kind, i6 a0.num, .str a0.name, sf Val.cells a0.items, i6 a0.fn.kind, i6 a0.fn.id, .str a0.fn.name, i6 a0.fn.num, sf cI a0.fn.ids, i6 a0.fn.data.kind, .str a0.fn.data.name, i6 a0.fn.data.num, sf cI a0.fn.data.sc, sf Fm.cells a0.fn.data.kids, sf Cor.cells a0.fn.kids, sf Slt.cells a0.env]⟩)] [] -> Qbr (Qbc Tryz.prog c) Q ⟨T, ss⟩) ?_ ?_
 ·intro Qfr L0 a0 a1 r H
  intro ss
  refine Qau mixed Tryz.func50 rfl (by kernel_rfl) (rs := [.tmp 4]) rfl (by kernel_rfl) ?_
  have hF := Fx.refl ss
  have hX := Tau.none ss
  have q := dum
  have tT := dum
  refine go ?_
  refine Qag hF rfl fun b1 ss2 hF => ?_
  refine go ?_
  refine cdp H (fun h H => ?_) (fun h H => ?_)
  ·refine go ?_
   have e := pur H; subst e
   exact rt [.str (ByteArray.mk #[46, 46])]
  ·refine go ?_
   refine cdp H (fun h H => ?_) (fun h H => ?_)
   ·refine go ?_
    obtain ⟨x15, hx15, H⟩ := bnd H
    refine cl (Qph a0.num _ hx15) ?_
    refine go ?_
    have e := pur H; subst e
    exact rt [.str x15]
   ·refine go ?_
    obtain ⟨Kb8, j4, H⟩ := bnd H
    refine Qca (fun s' => ∃ (T : Nat -> AV) (ss1 : Sto), s' = ⟨T, ss1⟩ /\ (T 1 = i6 a1 /\ T 2 = .ptr b1 0 /\ T 10 = i6 a0.kind /\ T 16 = .bool Kb8) /\ Fx ss ss1 [(b1, ⟨34, 16, [i6 a0.kind, i6 a0.num, .str a0.name, sf Val.cells a0.items, i6 a0.fn.kind, i6 a0.fn.id, .str a0.fn.name, i6 a0.fn.num, sf cI a0.fn.ids, i6 a0.fn.data.kind, .str a0.fn.data.name, i6 a0.fn.data.num, sf cI a0.fn.data.sc, sf Fm.cells a0.fn.data.kids, sf Cor.cells a0.fn.kids, sf Slt.cells a0.env]⟩)] []) (cdp j4 (fun h j4 => ?_) (fun h j4 => ?_)) ?_
    ·refine go ?_
     have e := pur j4
     subst e
     exact ⟨_, _, rfl, S, hF⟩
    ·refine go ?_
     have e := pur j4
     subst e
     exact ⟨_, _, rfl, S, hF⟩
    ·rintro s' ⟨T5, ss6, rfl, tT, hF⟩
     refine go ?_
     refine cdb H (fun h H => ?_) (fun h H => ?_)
     ·refine go ?_
      have e := pur H; subst e
      exact rt [.str a0.name]
     ·refine go ?_
      refine cdp H (fun h H => ?_) (fun h H => ?_)
      ·refine go ?_
       obtain ⟨x27, hx27, H⟩ := bnd H
       refine cl (Qph (a0.fn.ids.length : Int) _ hx27) ?_
       obtain ⟨x28, f1, H⟩ := bsc H
       refine go1 ?_
       refine go ?_
       have e := pur H; subst e
       exact rt [.str x28]
      ·refine go ?_
       refine cdp H (fun h H => ?_) (fun h H => ?_)
       ·refine go ?_
        obtain ⟨o13, ho13, H⟩ := bnd H
        refine L0 a0 a1 (ByteArray.mk #[40]) 0 _ ho13 _ rfl _ _ b1 ?_ ?_ _ _  S hF
        ·intro Kfk he T15 s16 tT hF
         have he := he.symm
         subst he
         obtain ⟨x53, f1, H⟩ := bsc H
         refine go1 ?_
         refine go ?_
         have e := pur H; subst e
         exact rt [.str x53]
        ·trivial
       ·refine go ?_
        have e := pur H; subst e
        exact rt [.str (ByteArray.mk #[63])]
 ·intro Qhz Qfr C0 L0 a0 a1 Qaj Qa7 out H c hc Q tt b1 hE hR T ss tT hF
  obtain rfl := lpe (rfl : Qam Tryz.f50 0 = some _) hc
  refine Qah ?_
  have q := dum
  have hX := Tau.none tt
  refine go ?_
  refine cdp H (fun h H => ?_) (fun h H => ?_)
  ·refine go ?_
   obtain ⟨Kcc, j9, H⟩ := bnd H
   refine Qca (fun s' => ∃ (T : Nat -> AV) (ss1 : Sto), s' = ⟨T, ss1⟩ /\ (T 1 = i6 a1 /\ T 2 = .ptr b1 0 /\ T 5 = .str Kcc /\ T 6 = i6 Qa7) /\ Fx tt ss1 [(b1, ⟨34, 16, [i6 a0.kind, i6 a0.num, .str a0.name, sf Val.cells a0.items, i6 a0.fn.kind, i6 a0.fn.id, .str a0.fn.name, i6 a0.fn.num, sf cI a0.fn.ids, i6 a0.fn.data.kind, .str a0.fn.data.name, i6 a0.fn.data.num, sf cI a0.fn.data.sc, sf Fm.cells a0.fn.data.kids, sf Cor.cells a0.fn.kids, sf Slt.cells a0.env]⟩)] []) (cdp j9 (fun h j9 => ?_) (fun h j9 => ?_)) ?_
   ·obtain ⟨x41, f1, j9⟩ := bsc j9
    refine go1 ?_
    refine go ?_
    have e := pur j9
    subst e
    exact ⟨_, _, rfl, S, hF⟩
   ·refine go ?_
    have e := pur j9
    subst e
    exact ⟨_, _, rfl, S, hF⟩
   ·rintro s' ⟨T10, s11, rfl, tT, hF⟩
    obtain ⟨x46, f1, H⟩ := bil (g := Val.cells) Val.Qad H
    refine go1 ?_
    obtain ⟨x50, hx50, H⟩ := bnd H
    refine cl (C0 x46 (i64.wrap (a1 - 1)) _ hx50) ?_
    obtain ⟨x51, f1, H⟩ := bsc H
    refine go1 ?_
    refine go ?_
    exact L0 a0 a1 x51 (i64.wrap (Qa7 + 1)) _ H _ rfl Q tt b1 hE hR _ _  S hF
  ·refine go ?_
   exact hE _ (pur H).symm _ _  S hF
theorem Qjb : ∀ (a0 : Val) r, Qeu a0 = some r -> Qb0 Tryz.prog 22 [.agg (Val.cells a0)] (.str r) := by
 intro a0 r H
 intro ss
 unfold Qeu at H
 refine Qau mixed Tryz.func22 rfl (by kernel_rfl) (rs := [.tmp 2]) rfl (by kernel_rfl) ?_
 have hF := Fx.refl ss
 have hX := Tau.none ss
 have q := dum
 have tT := dum
 refine go ?_
 refine Qag hF rfl fun b1 ss2 hF => ?_
 refine go ?_
 obtain ⟨x4, hx4, H⟩ := bnd H
 refine cl (Qyu a0 40 _ hx4) ?_
 refine go ?_
 have e := pur H; subst e
 exact rt [.str x4]
theorem Qsh : ∀ (a0 : Val) (a1 : Val) r, Qe9 a0 a1 = some r -> Qb0 Tryz.prog 21 [.agg (Val.cells a0), .agg (Val.cells a1)] (.bool r) := by
 refine Qe9.partial_correctness  (motive_1 := fun a0 a1 r => Qb0 Tryz.prog 21 [.agg (Val.cells a0), .agg (Val.cells a1)] (.bool r)) (motive_2 := fun a0 a1 Qaj out => ∀ c, Qam Tryz.f21 0 = some c -> ∀ (Q : AX -> AS -> Prop) (tt : Sto) (b1 : Nat) (b3 : Nat), (∀ (_u : Unit), out = Sum.inr () -> ∀ (T : Nat -> AV) (ss : Sto), T 2 = .ptr b1 0 /\ T 3 = .ptr b3 0 -> Fx tt ss [(b3, ⟨34, 16, [i6 a1.kind, i6 a1.num, .str a1.name, sf Val.cells a1.items, i6 a1.fn.kind, i6 a1.fn.id, .str a1.fn.name, i6 a1.fn.num, sf cI a1.fn.ids, i6 a1.fn.data.kind, .str a1.fn.data.name, i6 a1.fn.data.num, sf cI a1.fn.data.sc, sf Fm.cells a1.fn.data.kids, sf Cor.cells a1.fn.kids, sf Slt.cells a1.env]⟩), (b1, ⟨34, 16, [i6 a0.kind, i6 a0.num, .str a0.name, sf Val.cells a0.items, i6 a0.fn.kind, i6 a0.fn.id, .str a0.fn.name, i6 a0.fn.num, sf cI a0.fn.ids, i6 a0.fn.data.kind, .str a0.fn.data.name, i6 a0.fn.data.num, sf cI a0.fn.data.sc, sf Fm.cells a0.fn.data.kids, sf Cor.cells a0.fn.kids, sf Slt.cells a0.env]⟩)] [] -> Q (.ex 0) ⟨T, ss⟩) -> (∀ r, out = Sum.inl r -> ∀ s', Qkk Tryz.prog [.tmp 4] (fun r' ss' => r' = .bool r /\ ss' = tt) s' -> Q .ret s') -> ∀ (T : Nat -> AV) (ss : Sto), T 2 = .ptr b1 0 /\ T 3 = .ptr b3 0 /\ T 5 = i6 Qaj -> Fx tt ss [(b3, ⟨34, 16, [i6 a1.kind, i6 a1.num, .str a1.name, sf Val.cells a1.items, i6 a1.fn.kind, i6 a1.fn.id, .str a1.fn.name, i6 a1.fn.num, sf cI a1.fn.ids, i6 a1.fn.data.kind, .str a1.fn.data.name, i6 a1.fn.data.num, sf cI a1.fn.data.sc, sf Fm.cells a1.fn.data.kids, sf Cor.cells a1.fn.kids, sf Slt.cells a1.env]⟩), (b1, ⟨34, 16, [i6 a0.kind, i6 a0.num, .str a0.name, sf Val.cells a0.items, i6 a0.fn.kind, i6 a0.fn.id, .str a0.fn.name, i6 a0.fn.num, sf cI a0.fn.ids, i6 a0.fn.data.kind, .str a0.fn.data.name, i6 a0.fn.data.num, sf cI a0.fn.data.sc, sf Fm.cells a0.fn.data.kids, sf Cor.cells a0.fn.kids, sf Slt.cells a0.env]⟩)] [] -> Qbr (Qbc Tryz.prog c) Q ⟨T, ss⟩) ?_ ?_
 ·intro Qda L0 a0 a1 r H
  intro ss
  refine Qau mixed Tryz.func21 rfl (by kernel_rfl) (rs := [.tmp 4]) rfl (by kernel_rfl) ?_
  have hF := Fx.refl ss
  have hX := Tau.none ss
  have q := dum
  have tT := dum
  refine go ?_
  refine Qag hF rfl fun b1 ss2 hF => ?_
  refine go ?_
  refine Qag hF rfl fun b3 ss4 hF => ?_
  refine go ?_
  obtain ⟨x17, g5, H⟩ := bnd H
  refine Qai 5 12 17 (.bool x17) (giN q (fun q => ?_) (fun q => ?_)) (fun J => ?_)
  ·refine go ?_
   exact Qaw 12 g5
  ·refine go ?_
   exact Qaw 12 g5
  refine go ?_
  obtain ⟨x24, g7, H⟩ := bnd H
  refine Qai 5 19 24 (.bool x24) (giN q (fun q => ?_) (fun q => ?_)) (fun J => ?_)
  ·refine go ?_
   exact Qaw 19 g7
  ·refine go ?_
   exact Qaw 19 g7
  refine go ?_
  obtain ⟨x33, g9, H⟩ := bnd H
  refine Qai 7 26 33 (.bool x33) (giN q (fun q => ?_) (fun q => ?_)) (fun J => ?_)
  ·refine go ?_
   exact Qaw 26 g9
  ·refine go ?_
   exact Qaw 26 g9
  refine go ?_
  refine cdb H (fun h H => ?_) (fun h H => ?_)
  ·refine go ?_
   have e := pur H; subst e
   exact rt [.bool false]
  ·refine go ?_
   obtain ⟨o11, ho11, H⟩ := bnd H
   refine L0 a0 a1 0 _ ho11 _ rfl _ _ b1 b3 ?_ ?_ _ _  S hF
   ·intro _ he T13 s14 tT hF
    have he := he.symm
    subst he
    dsimp only at H
    refine go ?_
    refine Qaq E0 [.v, .v, .v, .v, .v, .v] (by kernel_rfl) ?_
    refine go ?_
    obtain ⟨x54, hx54, H⟩ := bnd H
    refine cv (Qjb a0 _ hx54) ?_
    refine go ?_
    obtain ⟨x56, hx56, H⟩ := bnd H
    refine cv (Qjb a1 _ hx56) ?_
    refine go ?_
    have e := pur H; subst e
    exact rt [.bool (decide (x54 = x56))]
   ·intro r hr s' hs
    subst hr
    have e := pur H; subst e
    first | exact hs | (try simp only [sf, i6, zB, Fm.Qaa, Xpn.Qaa, Cor.Qaa, Bnd.Qaa, Hit.Qaa, Rul.Qaa, Mac.Qaa, Stp.Qaa, Val.Qaa] at hs ⊢; exact hs)
 ·intro Qe9 Qda C0 L0 a0 a1 Qaj out H c hc Q tt b1 b3 hE hR T ss tT hF
  obtain rfl := lpe (rfl : Qam Tryz.f21 0 = some _) hc
  refine Qah ?_
  have q := dum
  have hX := Tau.none tt
  refine go ?_
  refine cdp H (fun h H => ?_) (fun h H => ?_)
  ·refine go ?_
   refine Qaq E0 [.v, .v, .v, .v, .v, .v, .v, .v, .v, .v, .v, .v] (by kernel_rfl) ?_
   obtain ⟨x44, f1, H⟩ := bil (g := Val.cells) Val.Qad H
   obtain ⟨x49, f2, H⟩ := bil (g := Val.cells) Val.Qad H
   refine go2 ?_
   obtain ⟨x51, hx51, H⟩ := bnd H
   refine cv (C0 x44 x49 _ hx51) ?_
   refine go ?_
   refine cdb H (fun h H => ?_) (fun h H => ?_)
   ·refine go ?_
    exact hR _ (pur H).symm _ (rt [.bool false])
   ·refine go ?_
    exact L0 a0 a1 (i64.wrap (Qaj + 1)) _ H _ rfl Q tt b1 b3 hE hR _ _  S hF
  ·refine go ?_
   exact hE () (pur H).symm _ _  S hF
theorem Qpw : ∀ (a0 : List Int) r, Qi9 a0 = some r -> Qb0 Tryz.prog 6 [sf cU a0] (.bool r) := by
 intro a0 r H
 intro ss
 unfold Qi9 at H
 refine Qau mixed Tryz.func6 rfl (by kernel_rfl) (rs := [.tmp 2]) rfl (by kernel_rfl) ?_
 have hF := Fx.refl ss
 have hX := Tau.none ss
 have q := dum
 have tT := dum
 refine go ?_
 refine cdp H (fun h H => ?_) (fun h H => ?_)
 ·refine go ?_
  have e := pur H; subst e
  exact rt [.bool true]
 ·refine go ?_
  obtain ⟨x11, hx11, H⟩ := bnd H
  refine cl (Qoc a0 _ hx11) ?_
  refine go ?_
  refine Qag hF rfl fun b1 ss2 hF => ?_
  refine go ?_
  refine Qag hF rfl fun b3 ss4 hF => ?_
  refine go ?_
  refine st hF 1 rfl fun ss5 hF => ?_
  refine go ?_
  refine st hF 0 rfl fun ss6 hF => ?_
  refine go ?_
  obtain ⟨x16, hx16, H⟩ := bnd H
  refine cl (Qjz x11.1 x11.2 _ hx16) ?_
  refine go ?_
  refine Qaq E0 [.v, .v, .v, .v, .v, .v, .v, .v, .v, .v, .v, .v, .v, .v, .v, .v, .v, .v, .v, .v, .v, .v, .v, .v, .v] (by kernel_rfl) ?_
  refine go ?_
  obtain ⟨x20, hx20, H⟩ := bnd H
  refine cv (Qsh x11.1 x11.2 _ hx20) ?_
  refine go ?_
  obtain ⟨x28, g7, H⟩ := bnd H
  refine Qb4 5 23 28 (.bool x28) (tiN q (fun q => ?_) (fun q => ?_)) (fun J => ?_)
  ·rw [if_neg (dbf q)] at g7
   refine go ?_
   obtain ⟨x26, hx26, g7⟩ := bnd g7
   refine cv (Qjz x11.2 x11.1 _ hx26) ?_
   refine go ?_
   exact Qaw 23 g7
  ·rw [if_pos (dbt q)] at g7
   refine go ?_
   exact Qaw 23 g7
  refine go ?_
  obtain ⟨x34, g9, H⟩ := bnd H
  refine Qb4 4 30 34 (.bool x34) (tiN q (fun q => ?_) (fun q => ?_)) (fun J => ?_)
  ·rw [if_neg (dbf q)] at g9
   refine go ?_
   obtain ⟨x32, hx32, g9⟩ := bnd g9
   refine cv (Qjz x11.1 x11.1 _ hx32) ?_
   refine go ?_
   exact Qaw 30 g9
  ·rw [if_pos (dbt q)] at g9
   refine go ?_
   exact Qaw 30 g9
  refine go ?_
  obtain ⟨x41, g11, H⟩ := bnd H
  refine Qb4 5 36 41 (.bool x41) (tiN q (fun q => ?_) (fun q => ?_)) (fun J => ?_)
  ·rw [if_neg (dbf q)] at g11
   refine go ?_
   obtain ⟨x37, hx37, g11⟩ := bnd g11
   refine cv (Qfx x11.1 _ hx37) ?_
   refine go ?_
   obtain ⟨x39, hx39, g11⟩ := bnd g11
   refine cv (Qjb x11.1 _ hx39) ?_
   refine go ?_
   exact Qaw 36 g11
  ·rw [if_pos (dbt q)] at g11
   refine go ?_
   exact Qaw 36 g11
  refine go ?_
  refine cdb H (fun h H => ?_) (fun h H => ?_)
  ·refine go ?_
   have e := pur H; subst e
   exact rt [.bool false]
  ·refine go ?_
   refine Qaq E0 [.v, .v, .v, .v, .v, .v, .v, .v, .v, .v] (by kernel_rfl) ?_
   refine go ?_
   obtain ⟨x50, g13, H⟩ := bnd H
   refine Qb4 5 45 50 (.bool x50) (tiN q (fun q => ?_) (fun q => ?_)) (fun J => ?_)
   ·rw [if_neg (dbf q)] at g13
    refine go ?_
    obtain ⟨x46, hx46, g13⟩ := bnd g13
    refine cv (Qfx x11.1 _ hx46) ?_
    refine go ?_
    obtain ⟨x48, hx48, g13⟩ := bnd g13
    refine cv (Qfx x11.2 _ hx48) ?_
    refine go ?_
    exact Qaw 45 g13
   ·rw [if_pos (dbt q)] at g13
    refine go ?_
    exact Qaw 45 g13
   refine go ?_
   have e := pur H; subst e
   exact rt [.bool x50]
end Go.Proofs.SA
