/- Printed by a program of mine: the plain functions that the code computes (D), and the walks that show it (W). -/
import Derived.Test.YtcoeidfiajaahaaGreatDoorGx
import Derived.Test.YtcoeidfiajaahaaGreatDoorSaTy
import Derived.Test.YtcoeidfiajaahaaGreatDoorGv
import Derived.Test.YtcoeidfiajaahaaGreatDoorSf
import Derived.Test.YtcoeidfiajaahaaGreatDoorvsD
import Derived.Test.YtcoeidfiajaahaaGreatDoorvsW0
set_option maxRecDepth 100000
set_option maxHeartbeats 2000000
set_option linter.unusedSimpArgs false
set_option linter.unusedVariables false
open Go Go.Proofs Go.Proofs.Shadow
open Go.IntKind (i64)
namespace Go.Proofs.SA
theorem Qs5 : ∀ (a0 : List Hit) (Qac : List Hit) (Qba : Int) out, Qei a0 Qac Qba = some out -> ∀ c, Qam Tryz.f319 0 = some c -> ∀ (Q : AX -> AS -> Prop) (tt : Sto), (∀ (Qbn : List Hit), out = Qbn -> ∀ (T : Nat -> AV) (ss : Sto) (e0v0 : AV), T 3 = e0v0 -> Fx tt ss [] [⟨e0v0, 62, 12, rws Hit.cells Qbn⟩] -> Q (.ex 0) ⟨T, ss⟩) -> True -> ∀ (T : Nat -> AV) (ss : Sto) (z0v0 : AV), T 0 = sf Hit.cells a0 /\ T 3 = z0v0 /\ T 4 = i6 Qba -> Fx tt ss [] [⟨z0v0, 62, 12, rws Hit.cells Qac⟩] -> Qbr (Qbc Tryz.prog c) Q ⟨T, ss⟩ := by
 intro a0 Qac Qba
 revert Qac Qba
 refine Qei.partial_correctness a0 _ ?_
 intro Qei IH Qac Qba out H c hc Q tt  hE hR T ss z0v0 tT hF
 obtain rfl := lpe (rfl : Qam Tryz.f319 0 = some _) hc
 refine Qah ?_
 have q := dum
 have hX := Tau.none tt
 refine go ?_
 refine cdp H (fun h H => ?_) (fun h H => ?_)
 ·refine go ?_
  refine Qaq E0 [.v, .v, .v, .v, .v, .v, .v, .v, .v, .v, .v, .v, .v, .v, .v, .v, .x, .z] (by kernel_rfl) ?_
  obtain ⟨x15, f1, H⟩ := bil (g := Hit.cells) Hit.Qad H
  refine go1 ?_
  refine Qg4 hF rfl fun b1 ss2 hF => ?_
  refine go ?_
  refine st hF 0 rfl fun ss3 hF => ?_
  refine go ?_
  obtain ⟨Qtm, j5, H⟩ := bnd H
  refine Qca (fun s' => ∃ (T : Nat -> AV) (ss1 : Sto), s' = ⟨T, ss1⟩ /\ (T 0 = sf Hit.cells a0 /\ T 3 = z0v0 /\ T 4 = i6 Qba /\ T 5 = .ptr b1 0) /\ Fx tt ss1 [(b1, ⟨62, 12, [i6 x15.name.kind, .str x15.name.name, i6 x15.name.num, sf cI x15.name.sc, sf Fm.cells x15.name.kids, i6 Qtm, i6 x15.one.kind, .str x15.one.name, i6 x15.one.num, sf cI x15.one.sc, sf Fm.cells x15.one.kids, .Qab]⟩)] [⟨z0v0, 62, 12, rws Hit.cells Qac⟩]) (cdp j5 (fun h j5 => ?_) (fun h j5 => ?_)) ?_
  ·refine go ?_
   refine st hF 0 rfl fun ss6 hF => ?_
   refine go ?_
   have e := pur j5
   subst e
   exact ⟨_, _, rfl, S, hF⟩
  ·refine go ?_
   have e := pur j5
   subst e
   exact ⟨_, _, rfl, S, hF⟩
  ·rintro s' ⟨T7, s8, rfl, tT, hF⟩
   refine go ?_
   refine apw (g := Hit.cells) (rows := [[i6 x15.name.kind, .str x15.name.name, i6 x15.name.num, sf cI x15.name.sc, sf Fm.cells x15.name.kids, i6 Qtm, i6 x15.one.kind, .str x15.one.name, i6 x15.one.num, sf cI x15.one.sc, sf Fm.cells x15.one.kids, .Qab]]) hF 0 H Hit.Qad true rfl (by simp only [sf, i6, zB, Qb9, Qd3, cI, cU, cS, cL, Hit.Qaa, Fm.Qaa, Fm.kind, Fm.name, Fm.num, Fm.sc, Fm.kids, Hit.name, Hit.depth, Hit.one, Hit.many, Cor.kind, Cor.id, Cor.name, Cor.num, Cor.ids, Cor.data, Cor.kids, Val.kind, Val.num, Val.name, Val.items, Val.fn, Val.env, Slt.id, Slt.val, List.flatten_cons, List.flatten_nil, List.append_nil, List.cons_append, List.nil_append]; exact (.cons (.refl _) id (.cons (.refl _) id (.cons (.refl _) id (.cons (.refl _) id (.cons (.refl _) id (.cons (.refl _) id (.cons (.refl _) id (.cons (.refl _) id (.cons (.refl _) id (.cons (.refl _) id (.cons (.refl _) id (.cons .Qab (fun _ => rfl) .nil))))))))))))) fun x39 H v10 s11 hF => ?_
   refine go ?_
   exact IH  x39 (i64.wrap (Qba + 1)) _ H _ rfl Q tt  hE hR _ _ v10 S (hF.drop 1 0)
 ·refine go ?_
  exact hE _ (pur H).symm _ _ z0v0 S hF
theorem Qye : ∀ (a0 : List Hit) r, Qj4 a0 = some r -> Qb0 Tryz.prog 319 [sf Hit.cells a0] (sf Hit.cells r) := by
 intro a0 r H
 intro ss
 unfold Qj4 at H
 refine Qau mixed Tryz.func319 rfl (by kernel_rfl) (rs := [.tmp 2]) rfl (by kernel_rfl) ?_
 have hF := Fx.refl ss
 have hX := Tau.none ss
 have q := dum
 have tT := dum
 have hF := hF.lit 62 12 (rws Hit.cells []) rfl
 refine go ?_
 obtain ⟨o12, ho12, H⟩ := bnd H
 refine Qs5 a0 [] 0 _ ho12 _ rfl _ _  ?_ ?_ _ _ (.sl true (rws Hit.cells [])) S hF
 ·intro Qy2 he T14 s15 e13v0 tT hF
  have he := he.symm
  subst he
  refine go ?_
  have e := pur H; subst e
  exact rt [e13v0]
 ·trivial
theorem Q2k : ∀ (a0 : Fm) (a1 : List Hit) r, Qi8 a0 a1 = some r -> Qb0 Tryz.prog 313 [.agg (Fm.cells a0), sf Hit.cells a1] (.bool r) := by
 refine Qi8.partial_correctness  (motive_1 := fun a0 a1 r => Qb0 Tryz.prog 313 [.agg (Fm.cells a0), sf Hit.cells a1] (.bool r)) (motive_2 := fun a0 a1 Qaj out => ∀ c, Qam Tryz.f313 0 = some c -> ∀ (Q : AX -> AS -> Prop) (tt : Sto) (b1 : Nat), (∀ (_u : Unit), out = Sum.inr () -> ∀ (T : Nat -> AV) (ss : Sto), 0 + 0 = 0 -> Fx tt ss [(b1, ⟨26, 5, [i6 a0.kind, .str a0.name, i6 a0.num, sf cI a0.sc, sf Fm.cells a0.kids]⟩)] [] -> Q (.ex 0) ⟨T, ss⟩) -> (∀ r, out = Sum.inl r -> ∀ s', Qkk Tryz.prog [.tmp 4] (fun r' ss' => r' = .bool r /\ ss' = tt) s' -> Q .ret s') -> ∀ (T : Nat -> AV) (ss : Sto), T 1 = sf Hit.cells a1 /\ T 2 = .ptr b1 0 /\ T 5 = i6 Qaj -> Fx tt ss [(b1, ⟨26, 5, [i6 a0.kind, .str a0.name, i6 a0.num, sf cI a0.sc, sf Fm.cells a0.kids]⟩)] [] -> Qbr (Qbc Tryz.prog c) Q ⟨T, ss⟩) ?_ ?_
 ·intro Qfh L0 a0 a1 r H
  intro ss
  refine Qau mixed Tryz.func313 rfl (by kernel_rfl) (rs := [.tmp 4]) rfl (by kernel_rfl) ?_
  have hF := Fx.refl ss
  have hX := Tau.none ss
  have q := dum
  have tT := dum
  refine go ?_
  refine Qag hF rfl fun b1 ss2 hF => ?_
  refine go ?_
  obtain ⟨x7, hx7, H⟩ := bnd H
  refine cl (Qb6 a0 _ hx7) ?_
  refine go ?_
  obtain ⟨x13, g3, H⟩ := bnd H
  refine Qai 4 9 13 (.bool x13) (giN q (fun q => ?_) (fun q => ?_)) (fun J => ?_)
  ·rw [if_neg (dbf q)] at g3
   refine go ?_
   obtain ⟨x11, hx11, g3⟩ := bnd g3
   refine cl (Qoq a1 a0 _ hx11) ?_
   refine go ?_
   exact Qaw 9 g3
  ·rw [if_pos (dbt q)] at g3
   refine go ?_
   exact Qaw 9 g3
  refine go ?_
  refine cdb H (fun h H => ?_) (fun h H => ?_)
  ·refine go ?_
   have e := pur H; subst e
   exact rt [.bool false]
  ·refine go ?_
   obtain ⟨o11, ho11, H⟩ := bnd H
   refine L0 a0 a1 0 _ ho11 _ rfl _ _ b1 ?_ ?_ _ _  S hF
   ·intro _ he T13 s14 tT hF
    have he := he.symm
    subst he
    dsimp only at H
    refine go ?_
    have e := pur H; subst e
    exact rt [.bool true]
   ·intro r hr s' hs
    subst hr
    have e := pur H; subst e
    first | exact hs | (try simp only [sf, i6, zB, Fm.Qaa, Xpn.Qaa, Cor.Qaa, Bnd.Qaa, Hit.Qaa, Rul.Qaa, Mac.Qaa, Stp.Qaa, Val.Qaa] at hs ⊢; exact hs)
 ·intro Qi8 Qfh C0 L0 a0 a1 Qaj out H c hc Q tt b1 hE hR T ss tT hF
  obtain rfl := lpe (rfl : Qam Tryz.f313 0 = some _) hc
  refine Qah ?_
  have q := dum
  have hX := Tau.none tt
  refine go ?_
  refine cdp H (fun h H => ?_) (fun h H => ?_)
  ·obtain ⟨x24, f1, H⟩ := bil (g := Fm.cells) Fm.Qad H
   refine go1 ?_
   obtain ⟨x26, hx26, H⟩ := bnd H
   refine cl (Qb6 x24 _ hx26) ?_
   refine go ?_
   refine cdb H (fun h H => ?_) (fun h H => ?_)
   ·refine go ?_
    obtain ⟨x37, g5, H⟩ := bnd H
    refine Qai 7 30 37 (.bool x37) (giN q (fun q => ?_) (fun q => ?_)) (fun J => ?_)
    ·rw [if_neg (df q)] at g5
     obtain ⟨x34, f1, g5⟩ := bil (g := Fm.cells) Fm.Qad g5
     refine go1 ?_
     obtain ⟨x36, hx36, g5⟩ := bnd g5
     refine cl (Qb6 x34 _ hx36) ?_
     refine go ?_
     exact Qaw 30 g5
    ·rw [if_pos (dt q)] at g5
     refine go ?_
     exact Qaw 30 g5
    refine go ?_
    refine cdb H (fun h H => ?_) (fun h H => ?_)
    ·refine go ?_
     exact hR _ (pur H).symm _ (rt [.bool false])
    ·refine go ?_
     exact L0 a0 a1 (i64.wrap (Qaj + 1)) _ H _ rfl Q tt b1 hE hR _ _  S hF
   ·refine go ?_
    obtain ⟨x52, g7, H⟩ := bnd H
    refine Qai 7 45 52 (.bool x52) (gi q (fun q => ?_) (fun q => ?_)) (fun J => ?_)
    ·rw [if_pos (dt q)] at g7
     obtain ⟨x49, f1, g7⟩ := bil (g := Fm.cells) Fm.Qad g7
     refine go1 ?_
     obtain ⟨x51, hx51, g7⟩ := bnd g7
     refine cl (Qb6 x49 _ hx51) ?_
     refine go ?_
     exact Qaw 45 g7
    ·rw [if_neg (df q)] at g7
     refine go ?_
     exact Qaw 45 g7
    refine go ?_
    refine cdb H (fun h H => ?_) (fun h H => ?_)
    ·refine go ?_
     refine Qaq E0 [.v, .v, .v, .v, .v, .v, .v, .v, .v, .v, .v, .v, .v, .v, .v, .v, .v, .v, .v] (by kernel_rfl) ?_
     obtain ⟨x57, f1, H⟩ := bil (g := Fm.cells) Fm.Qad H
     refine go1 ?_
     obtain ⟨x59, hx59, H⟩ := bnd H
     refine cv (Qyf a1 x57 _ hx59) ?_
     refine go ?_
     obtain ⟨x71, g9, H⟩ := bnd H
     refine Qb4 9 62 71 (.bool x71) (tiN q (fun q => ?_) (fun q => ?_)) (fun J => ?_)
     ·rw [if_neg (dbf q)] at g9
      obtain ⟨x65, f1, g9⟩ := bil (g := Fm.cells) Fm.Qad g9
      refine go1 ?_
      obtain ⟨x68, hx68, g9⟩ := bnd g9
      refine cv (Qye a1 _ hx68) ?_
      refine go ?_
      obtain ⟨x69, hx69, g9⟩ := bnd g9
      refine cv (C0 x65 x68 _ hx69) ?_
      refine go ?_
      exact Qaw 62 g9
     ·rw [if_pos (dbt q)] at g9
      refine go ?_
      exact Qaw 62 g9
     refine go ?_
     refine cdb H (fun h H => ?_) (fun h H => ?_)
     ·refine go ?_
      exact hR _ (pur H).symm _ (rt [.bool false])
     ·refine go ?_
      exact L0 a0 a1 (i64.wrap (Qaj + 1)) _ H _ rfl Q tt b1 hE hR _ _  S hF
    ·obtain ⟨x75, f1, H⟩ := bil (g := Fm.cells) Fm.Qad H
     refine go1 ?_
     obtain ⟨x78, hx78, H⟩ := bnd H
     refine cl (C0 x75 a1 _ hx78) ?_
     refine go ?_
     refine cdb H (fun h H => ?_) (fun h H => ?_)
     ·refine go ?_
      exact hR _ (pur H).symm _ (rt [.bool false])
     ·refine go ?_
      exact L0 a0 a1 (i64.wrap (Qaj + 1)) _ H _ rfl Q tt b1 hE hR _ _  S hF
  ·refine go ?_
   exact hE () (pur H).symm _ _  S hF
theorem Qyg : ∀ (a0 : Rul) (a1 : List Fm) r, Qlc a0 a1 = some r -> Qb0 Tryz.prog 307 [.agg (Rul.cells a0), sf Fm.cells a1] (.bool r) := by
 intro a0 a1 r H
 intro ss
 unfold Qlc at H
 refine Qau mixed Tryz.func307 rfl (by kernel_rfl) (rs := [.tmp 4]) rfl (by kernel_rfl) ?_
 have hF := Fx.refl ss
 have hX := Tau.none ss
 have q := dum
 have tT := dum
 refine go ?_
 refine Qag hF rfl fun b1 ss2 hF => ?_
 refine go ?_
 refine Qaq E0 [.v, .v, .v, .v, .v, .v, .v, .v, .v, .v, .v, .v, .v, .v, .v, .v, .v, .v, .v, .v, .v, .v, .v, .v, .v, .v, .v, .v, .v, .v, .v, .v] (by kernel_rfl) ?_
 refine go ?_
 obtain ⟨x8, hx8, H⟩ := bnd H
 refine cv (Q2j a0.pat a1 _ hx8) ?_
 refine go ?_
 obtain ⟨x14, g3, H⟩ := bnd H
 refine Qb4 4 10 14 (.bool x14) (ti q (fun q => ?_) (fun q => ?_)) (fun J => ?_)
 ·refine go ?_
  exact Qaw 10 g3
 ·refine go ?_
  exact Qaw 10 g3
 refine go ?_
 obtain ⟨x21, g5, H⟩ := bnd H
 refine Qb4 5 16 21 (.bool x21) (ti q (fun q => ?_) (fun q => ?_)) (fun J => ?_)
 ·refine go ?_
  exact Qaw 16 g5
 ·refine go ?_
  exact Qaw 16 g5
 refine go ?_
 obtain ⟨x26, g7, H⟩ := bnd H
 refine Qb4 3 23 26 (.bool x26) (ti q (fun q => ?_) (fun q => ?_)) (fun J => ?_)
 ·rw [if_pos (dbt q)] at g7
  refine go ?_
  obtain ⟨x25, hx25, g7⟩ := bnd g7
  refine cv (Qbe a0.tpl _ hx25) ?_
  refine go ?_
  exact Qaw 23 g7
 ·rw [if_neg (dbf q)] at g7
  refine go ?_
  exact Qaw 23 g7
 refine go ?_
 obtain ⟨x35, g9, H⟩ := bnd H
 refine Qb4 7 28 35 (.bool x35) (ti q (fun q => ?_) (fun q => ?_)) (fun J => ?_)
 ·rw [if_pos (dbt q)] at g9
  refine go ?_
  obtain ⟨x33, hx33, g9⟩ := bnd g9
  refine cv (Qws a0.pat a1 _ hx33) ?_
  refine go ?_
  obtain ⟨x34, hx34, g9⟩ := bnd g9
  refine cv (Q2k a0.tpl x33 _ hx34) ?_
  refine go ?_
  exact Qaw 28 g9
 ·rw [if_neg (dbf q)] at g9
  refine go ?_
  exact Qaw 28 g9
 refine go ?_
 have e := pur H; subst e
 exact rt [.bool x35]
theorem Qrk : ∀ (a0 : List Rul) (a1 : List Fm) (Qaj : Int) out, Qem a0 a1 Qaj = some out -> ∀ c, Qam Tryz.f299 0 = some c -> ∀ (Q : AX -> AS -> Prop) (tt : Sto), (∀ (_u : Unit), out = Sum.inr () -> ∀ (T : Nat -> AV) (ss : Sto), T 0 = sf Rul.cells a0 /\ T 1 = sf Fm.cells a1 -> Fx tt ss [] [] -> Q (.ex 0) ⟨T, ss⟩) -> (∀ r, out = Sum.inl r -> ∀ s', Qkk Tryz.prog [.tmp 4] (fun r' ss' => r' = .bool r /\ ss' = tt) s' -> Q .ret s') -> ∀ (T : Nat -> AV) (ss : Sto), T 0 = sf Rul.cells a0 /\ T 1 = sf Fm.cells a1 /\ T 5 = i6 Qaj -> Fx tt ss [] [] -> Qbr (Qbc Tryz.prog c) Q ⟨T, ss⟩ := by
 intro a0 a1 Qaj
 revert Qaj
 refine Qem.partial_correctness a0 a1 _ ?_
 intro Qem IH Qaj out H c hc Q tt  hE hR T ss tT hF
 obtain rfl := lpe (rfl : Qam Tryz.f299 0 = some _) hc
 refine Qah ?_
 have q := dum
 have hX := Tau.none tt
 refine go ?_
 obtain ⟨x13, g1, H⟩ := bnd H
 refine Qai 2 11 13 (.bool x13) (gi q (fun q => ?_) (fun q => ?_)) (fun J => ?_)
 ·refine go ?_
  exact Qaw 11 g1
 ·refine go ?_
  exact Qaw 11 g1
 refine go ?_
 refine cdb H (fun h H => ?_) (fun h H => ?_)
 ·obtain ⟨x18, f1, H⟩ := bil (g := Rul.cells) Rul.Qad H
  refine go1 ?_
  obtain ⟨x21, hx21, H⟩ := bnd H
  refine cl (Qyg x18 a1 _ hx21) ?_
  refine go ?_
  refine cdb H (fun h H => ?_) (fun h H => ?_)
  ·refine go ?_
   exact hR _ (pur H).symm _ (rt [.bool false])
  ·refine go ?_
   exact IH  (i64.wrap (Qaj + 1)) _ H _ rfl Q tt  hE hR _ _  S hF
 ·refine go ?_
  exact hE () (pur H).symm _ _  S hF
theorem Qor : ∀ (a0 : List Rul) (a1 : List Fm) r, Qjk a0 a1 = some r -> Qb0 Tryz.prog 299 [sf Rul.cells a0, sf Fm.cells a1] (.bool r) := by
 intro a0 a1 r H
 intro ss
 unfold Qjk at H
 refine Qau mixed Tryz.func299 rfl (by kernel_rfl) (rs := [.tmp 4]) rfl (by kernel_rfl) ?_
 have hF := Fx.refl ss
 have hX := Tau.none ss
 have q := dum
 have tT := dum
 refine go ?_
 obtain ⟨o3, ho3, H⟩ := bnd H
 refine Qrk a0 a1 0 _ ho3 _ rfl _ _  ?_ ?_ _ _  S hF
 ·intro _ he T5 ss6 tT hF
  have he := he.symm
  subst he
  dsimp only at H
  refine go ?_
  obtain ⟨x29, g8, H⟩ := bnd H
  refine Qai 2 27 29 (.bool x29) (gi q (fun q => ?_) (fun q => ?_)) (fun J => ?_)
  ·rw [if_pos (dt q)] at g8
   refine go ?_
   obtain ⟨x28, hx28, g8⟩ := bnd g8
   refine cl (Qly a1 _ hx28) ?_
   refine go ?_
   exact Qaw 27 g8
  ·rw [if_neg (df q)] at g8
   refine go ?_
   exact Qaw 27 g8
  refine go ?_
  have e := pur H; subst e
  exact rt [.bool x29]
 ·intro r hr s' hs
  subst hr
  have e := pur H; subst e
  first | exact hs | (try simp only [sf, i6, zB, Fm.Qaa, Xpn.Qaa, Cor.Qaa, Bnd.Qaa, Hit.Qaa, Rul.Qaa, Mac.Qaa, Stp.Qaa, Val.Qaa] at hs ⊢; exact hs)
theorem Qoe : ∀ (a0 : Fm) (Qac : List Fm) (Qa2 : Int) out, Qco a0 Qac Qa2 = some out -> ∀ c, Qam Tryz.f294 0 = some c -> ∀ (Q : AX -> AS -> Prop) (tt : Sto) (b1 : Nat), (∀ (Qbn : List Fm), out = Qbn -> ∀ (T : Nat -> AV) (ss : Sto) (e0v0 : AV), T 1 = .ptr b1 0 /\ T 5 = e0v0 /\ T 6 = .sl true (rws Rul.cells []) -> Fx tt ss [(b1, ⟨26, 5, [i6 a0.kind, .str a0.name, i6 a0.num, sf cI a0.sc, sf Fm.cells a0.kids]⟩)] [⟨e0v0, 26, 5, rws Fm.cells Qbn⟩] -> Q (.ex 0) ⟨T, ss⟩) -> True -> ∀ (T : Nat -> AV) (ss : Sto) (z0v0 : AV), T 1 = .ptr b1 0 /\ T 5 = z0v0 /\ T 6 = .sl true (rws Rul.cells []) /\ T 7 = i6 Qa2 -> Fx tt ss [(b1, ⟨26, 5, [i6 a0.kind, .str a0.name, i6 a0.num, sf cI a0.sc, sf Fm.cells a0.kids]⟩)] [⟨z0v0, 26, 5, rws Fm.cells Qac⟩] -> Qbr (Qbc Tryz.prog c) Q ⟨T, ss⟩ := by
 intro a0 Qac Qa2
 revert Qac Qa2
 refine Qco.partial_correctness a0 _ ?_
 intro Qco IH Qac Qa2 out H c hc Q tt b1 hE hR T ss z0v0 tT hF
 obtain rfl := lpe (rfl : Qam Tryz.f294 0 = some _) hc
 refine Qah ?_
 have q := dum
 have hX := Tau.none tt
 obtain ⟨x46, f1, H⟩ := bil (g := Fm.cells) Fm.Qad H
 refine go1 ?_
 refine go ?_
 refine cdp H (fun h H => ?_) (fun h H => ?_)
 ·obtain ⟨x56, f1, H⟩ := bil (g := Fm.cells) Fm.Qad H
  obtain ⟨x60, f2, H⟩ := bil (g := Fm.cells) Fm.Qad H
  refine go2 ?_
  obtain ⟨x62, hx62, H⟩ := bnd H
  refine cl (Qh8 x60 _ hx62) ?_
  refine go ?_
  refine apd (g := Fm.cells) hF 0 H (rdo (c := true) (g := Fm.cells) Fm.Qad) fun x64 H v11 s12 hF => ?_
  refine go ?_
  exact IH  x64 (i64.wrap (Qa2 + 1)) _ H _ rfl Q tt b1 hE hR _ _ v11 S hF
 ·refine go ?_
  exact hE _ (pur H).symm _ _ z0v0 S hF
theorem Qof : ∀ (a0 : Fm) (Qi3 : List Fm) (Qd6 : List Rul) (Qdx : Int) out, Qcp a0 Qi3 Qd6 Qdx = some out -> ∀ c, Qam Tryz.f294 1 = some c -> ∀ (Q : AX -> AS -> Prop) (tt : Sto) (b1 : Nat) (e14v0 : AV), (∀ (Qv0 : List Rul), out = Sum.inr Qv0 -> ∀ (T : Nat -> AV) (ss : Sto) (e1v1 : AV), T 5 = e14v0 /\ T 6 = e1v1 -> Fx tt ss [(b1, ⟨26, 5, [i6 a0.kind, .str a0.name, i6 a0.num, sf cI a0.sc, sf Fm.cells a0.kids]⟩)] [⟨e1v1, 319, 10, rws Rul.cells Qv0⟩, ⟨e14v0, 26, 5, rws Fm.cells Qi3⟩] -> Q (.ex 2) ⟨T, ss⟩) -> (∀ r, out = Sum.inl r -> ∀ s', Qkk Tryz.prog [.tmp 2, .tmp 3, .tmp 4] (fun r' ss' => r' = .tup [sf Fm.cells r.1, sf Rul.cells r.2.1, .bool r.2.2] /\ ss' = tt) s' -> Q .ret s') -> ∀ (T : Nat -> AV) (ss : Sto) (z1v1 : AV), T 1 = .ptr b1 0 /\ T 5 = e14v0 /\ T 6 = z1v1 /\ T 8 = i6 Qdx -> Fx tt ss [(b1, ⟨26, 5, [i6 a0.kind, .str a0.name, i6 a0.num, sf cI a0.sc, sf Fm.cells a0.kids]⟩)] [⟨z1v1, 319, 10, rws Rul.cells Qd6⟩, ⟨e14v0, 26, 5, rws Fm.cells Qi3⟩] -> Qbr (Qbc Tryz.prog c) Q ⟨T, ss⟩ := by
 intro a0 Qi3 Qd6 Qdx
 revert Qd6 Qdx
 refine Qcp.partial_correctness a0 Qi3 _ ?_
 intro Qcp IH Qd6 Qdx out H c hc Q tt b1 e14v0 hE hR T ss z1v1 tT hF
 obtain rfl := lpe (rfl : Qam Tryz.f294 1 = some _) hc
 refine Qah ?_
 have q := dum
 have hX := Tau.none tt
 refine go ?_
 refine cdp H (fun h H => ?_) (fun h H => ?_)
 ·obtain ⟨x75, f1, H⟩ := bil (g := Fm.cells) Fm.Qad H
  refine go1 ?_
  obtain ⟨x88, g18, H⟩ := bnd H
  refine Qai 8 80 88 (.bool x88) (giN q (fun q => ?_) (fun q => ?_)) (fun J => ?_)
  ·rw [if_pos (dnf q)] at g18
   obtain ⟨x83, f1, g18⟩ := bil (g := Fm.cells) Fm.Qad g18
   refine go1 ?_
   refine go ?_
   exact Qaw 80 g18
  ·rw [if_neg (dnt q)] at g18
   refine go ?_
   exact Qaw 80 g18
  refine go ?_
  refine cdb H (fun h H => ?_) (fun h H => ?_)
  ·refine go ?_
   exact hR _ (pur H).symm _ (rt [.sl true (rws Fm.cells []), .sl true (rws Rul.cells []), .bool false])
  ·refine go ?_
   refine Qaq E0 [.v, .v, .v, .v, .v, .v, .v, .v, .v, .v, .v, .v, .v, .v, .v, .v, .v, .v, .v, .v, .v, .x, .v] (by kernel_rfl) ?_
   obtain ⟨x95, f1, H⟩ := bil (g := Fm.cells) Fm.Qad H
   obtain ⟨x98, f2, H⟩ := bil (g := Fm.cells) Fm.Qad H
   refine go2 ?_
   obtain ⟨x100, hx100, H⟩ := bnd H
   refine cv (Qh8 x98 _ hx100) ?_
   obtain ⟨x104, f1, H⟩ := bil (g := Fm.cells) Fm.Qad H
   obtain ⟨x107, f2, H⟩ := bil (g := Fm.cells) Fm.Qad H
   refine go2 ?_
   obtain ⟨x109, hx109, H⟩ := bnd H
   refine cv (Qh8 x107 _ hx109) ?_
   refine go ?_
   refine Q0w (g := Rul.cells) hF 0 H (rdo (c := true) (g := Rul.cells) Rul.Qad) fun x112 H v20 s21 hF => ?_
   refine go ?_
   exact IH  x112 (i64.wrap (Qdx + 1)) _ H _ rfl Q tt b1 e14v0 hE hR _ _ v20 S hF
 ·refine go ?_
  exact hE _ (pur H).symm _ _ z1v1 S hF
theorem Qq6 : ∀ (a0 : Fm) r, Qg7 a0 = some r -> Qb0 Tryz.prog 294 [.agg (Fm.cells a0)] (.tup [sf Fm.cells r.1, sf Rul.cells r.2.1, .bool r.2.2]) := by
 intro a0 r H
 intro ss
 unfold Qg7 at H
 refine Qau mixed Tryz.func294 rfl (by kernel_rfl) (rs := [.tmp 2, .tmp 3, .tmp 4]) rfl (by kernel_rfl) ?_
 have hF := Fx.refl ss
 have hX := Tau.none ss
 have q := dum
 have tT := dum
 refine go ?_
 refine Qag hF rfl fun b1 ss2 hF => ?_
 refine go ?_
 obtain ⟨x12, hx12, H⟩ := bnd H
 refine cl (Qbe a0 _ hx12) ?_
 refine go ?_
 obtain ⟨x18, g3, H⟩ := bnd H
 refine Qai 3 15 18 (.bool x18) (giN q (fun q => ?_) (fun q => ?_)) (fun J => ?_)
 ·refine go ?_
  exact Qaw 15 g3
 ·refine go ?_
  exact Qaw 15 g3
 refine go ?_
 obtain ⟨x24, g5, H⟩ := bnd H
 refine Qai 4 20 24 (.bool x24) (giN q (fun q => ?_) (fun q => ?_)) (fun J => ?_)
 ·refine go ?_
  exact Qaw 20 g5
 ·refine go ?_
  exact Qaw 20 g5
 refine go ?_
 obtain ⟨x32, g7, H⟩ := bnd H
 refine Qai 6 26 32 (.bool x32) (giN q (fun q => ?_) (fun q => ?_)) (fun J => ?_)
 ·rw [if_neg (dbf q)] at g7
  obtain ⟨x28, f1, g7⟩ := bil (g := Fm.cells) Fm.Qad g7
  refine go1 ?_
  refine go ?_
  exact Qaw 26 g7
 ·rw [if_pos (dbt q)] at g7
  refine go ?_
  exact Qaw 26 g7
 refine go ?_
 obtain ⟨x40, g9, H⟩ := bnd H
 refine Qai 6 34 40 (.bool x40) (giN q (fun q => ?_) (fun q => ?_)) (fun J => ?_)
 ·rw [if_neg (dbf q)] at g9
  obtain ⟨x36, f1, g9⟩ := bil (g := Fm.cells) Fm.Qad g9
  refine go1 ?_
  refine go ?_
  exact Qaw 34 g9
 ·rw [if_pos (dbt q)] at g9
  refine go ?_
  exact Qaw 34 g9
 refine go ?_
 refine cdb H (fun h H => ?_) (fun h H => ?_)
 ·refine go ?_
  have e := pur H; subst e
  exact rt [.sl true (rws Fm.cells []), .sl true (rws Rul.cells []), .bool false]
 ·have hF := hF.lit 26 5 (rws Fm.cells []) rfl
  refine go ?_
  obtain ⟨o13, ho13, H⟩ := bnd H
  refine Qoe a0 [] 0 _ ho13 _ rfl _ _ b1 ?_ ?_ _ _ (.sl true (rws Fm.cells [])) S hF
  ·intro Qi3 he T15 s16 e14v0 tT hF
   have he := he.symm
   subst he
   have hF := hF.lit 319 10 (rws Rul.cells []) rfl
   refine go ?_
   obtain ⟨o22, ho22, H⟩ := bnd H
   refine Qof a0 Qi3 [] 2 _ ho22 _ rfl _ _ b1 e14v0 ?_ ?_ _ _ (.sl true (rws Rul.cells [])) S hF
   ·intro Q43 he T24 s25 e23v1 tT hF
    have he := he.symm
    subst he
    dsimp only at H
    refine go ?_
    obtain ⟨x115, hx115, H⟩ := bnd H
    refine Qr8 (Qor Q43 Qi3 _ hx115) .bool (.cons ((hF.wk 0 rfl).trans (Wk.sub (Sub.zero _) _)) (fun _ => rfl) (.cons ((hF.wk 1 rfl).trans (Wk.sub (Sub.zero _) _)) (fun _ => rfl) .nil)) ?_
    refine go ?_
    refine cdb H (fun h H => ?_) (fun h H => ?_)
    ·refine go ?_
     have e := pur H; subst e
     exact rt [.sl true (rws Fm.cells []), .sl true (rws Rul.cells []), .bool false]
    ·refine go ?_
     have e := pur H; subst e
     exact rt [e14v0, e23v1, .bool true]
   ·intro r hr s' hs
    subst hr
    have e := pur H; subst e
    first | exact hs | (try simp only [sf, i6, zB, Fm.Qaa, Xpn.Qaa, Cor.Qaa, Bnd.Qaa, Hit.Qaa, Rul.Qaa, Mac.Qaa, Stp.Qaa, Val.Qaa] at hs ⊢; exact hs)
  ·trivial
theorem Qx8 : ∀ (a0 : List Bnd) (a1 : Fm) (a2 : Fm) r, Qla a0 a1 a2 = some r -> Qb0 Tryz.prog 109 [sf Bnd.cells a0, .agg (Fm.cells a1), .agg (Fm.cells a2)] (.bool r) := by
 intro a0 a1 a2 r H
 intro ss
 unfold Qla at H
 refine Qau mixed Tryz.func109 rfl (by kernel_rfl) (rs := [.tmp 6]) rfl (by kernel_rfl) ?_
 have hF := Fx.refl ss
 have hX := Tau.none ss
 have q := dum
 have tT := dum
 refine go ?_
 refine Qag hF rfl fun b1 ss2 hF => ?_
 refine go ?_
 refine Qag hF rfl fun b3 ss4 hF => ?_
 refine go ?_
 obtain ⟨x14, hx14, H⟩ := bnd H
 refine cl (Qma a0 a1 _ hx14) ?_
 refine go ?_
 obtain ⟨x20, hx20, H⟩ := bnd H
 refine cl (Qma a0 a2 _ hx20) ?_
 refine go ?_
 obtain ⟨x29, g5, H⟩ := bnd H
 refine Qai 2 27 29 (.bool x29) (giN q (fun q => ?_) (fun q => ?_)) (fun J => ?_)
 ·refine go ?_
  exact Qaw 27 g5
 ·refine go ?_
  exact Qaw 27 g5
 refine go ?_
 refine cdb H (fun h H => ?_) (fun h H => ?_)
 ·refine go ?_
  have e := pur H; subst e
  exact rt [.bool false]
 ·refine go ?_
  refine cdp H (fun h H => ?_) (fun h H => ?_)
  ·refine go ?_
   have e := pur H; subst e
   exact rt [.bool (decide (a1.name = a2.name))]
  ·refine go ?_
   refine Qaq E0 [.v, .v, .v, .v, .v, .v, .v, .v, .v, .v, .v, .v] (by kernel_rfl) ?_
   obtain ⟨x39, f1, H⟩ := bil (g := Bnd.cells) Bnd.Qad H
   obtain ⟨x44, f2, H⟩ := bil (g := Bnd.cells) Bnd.Qad H
   refine go2 ?_
   refine go ?_
   have e := pur H; subst e
   exact rt [.bool (decide (x39.id = x44.id))]
theorem Qui : ∀ (a0 : Fm) (a2 : List (List Hit)) (x17 : List Fm) (x21 : List Int) (Qac : List Hit) (Qbk : Int) (x30 : Fm) (x34 : Int) (Qd6 : List Hit) (Qir : Int) out, Qef a0 a2 x17 x21 Qac Qbk x30 x34 Qd6 Qir = some out -> ∀ c, Qam Tryz.f156 1 = some c -> ∀ (Q : AX -> AS -> Prop) (tt : Sto) (b1 : Nat) (b9 : Nat) (z0v0 : AV), (∀ (Qv0 : List Hit), out = Qv0 -> ∀ (T : Nat -> AV) (ss : Sto) (e1v1 : AV), T 2 = sf (cL Hit.cells) a2 /\ T 7 = z0v0 /\ T 8 = sf Fm.cells x17 /\ T 9 = sf cI x21 /\ T 10 = i6 Qbk /\ T 11 = .ptr b9 0 -> Fx tt ss [(b9, ⟨62, 12, [i6 x30.kind, .str x30.name, i6 x30.num, sf cI x30.sc, sf Fm.cells x30.kids, i6 (i64.wrap (x34 + 1)), i6 0, .str zB, i6 0, .Qab, .Qab, e1v1]⟩), (b1, ⟨26, 5, [i6 a0.kind, .str a0.name, i6 a0.num, sf cI a0.sc, sf Fm.cells a0.kids]⟩)] [⟨e1v1, 62, 12, rws Hit.cells Qv0⟩, ⟨z0v0, 62, 12, rws Hit.cells Qac⟩] -> Q (.ex 2) ⟨T, ss⟩) -> True -> ∀ (T : Nat -> AV) (ss : Sto) (z1v1 : AV), T 2 = sf (cL Hit.cells) a2 /\ T 7 = z0v0 /\ T 8 = sf Fm.cells x17 /\ T 9 = sf cI x21 /\ T 10 = i6 Qbk /\ T 11 = .ptr b9 0 /\ T 12 = i6 Qir -> Fx tt ss [(b9, ⟨62, 12, [i6 x30.kind, .str x30.name, i6 x30.num, sf cI x30.sc, sf Fm.cells x30.kids, i6 (i64.wrap (x34 + 1)), i6 0, .str zB, i6 0, .Qab, .Qab, z1v1]⟩), (b1, ⟨26, 5, [i6 a0.kind, .str a0.name, i6 a0.num, sf cI a0.sc, sf Fm.cells a0.kids]⟩)] [⟨z1v1, 62, 12, rws Hit.cells Qd6⟩, ⟨z0v0, 62, 12, rws Hit.cells Qac⟩] -> Qbr (Qbc Tryz.prog c) Q ⟨T, ss⟩ := by
 intro a0 a2 x17 x21 Qac Qbk x30 x34 Qd6 Qir
 revert Qd6 Qir
 refine Qef.partial_correctness a0 a2 x17 x21 Qac Qbk x30 x34 _ ?_
 intro Qef IH Qd6 Qir out H c hc Q tt b1 b9 z0v0 hE hR T ss z1v1 tT hF
 obtain rfl := lpe (rfl : Qam Tryz.f156 1 = some _) hc
 refine Qah ?_
 have q := dum
 have hX := Tau.none tt
 refine go ?_
 refine cdp H (fun h H => ?_) (fun h H => ?_)
 ·refine go ?_
  refine Qaq E0 [.v, .v, .v, .v, .v, .v, .v, .v, .v, .v, .x, .v, .z] (by kernel_rfl) ?_
  obtain ⟨x48, f1, H⟩ := bil (g := (cL Hit.cells)) (fun _ => rfl) H
  obtain ⟨x51, f2, H⟩ := bil (g := Hit.cells) Hit.Qad H
  refine go2 ?_
  refine Q0w (g := Hit.cells) hF 0 H (rdo (c := true) (g := Hit.cells) Hit.Qad) fun x54 H v12 s13 hF => ?_
  refine go ?_
  refine st hF 0 (hF.cells 0 rfl) fun s14 hF => ?_
  refine go ?_
  exact IH  x54 (i64.wrap (Qir + 1)) _ H _ rfl Q tt b1 b9 z0v0 hE hR _ _ v12 S hF
 ·refine go ?_
  exact hE _ (pur H).symm _ _ z1v1 S hF
theorem Quh : ∀ (a0 : Fm) (a2 : List (List Hit)) (x17 : List Fm) (x21 : List Int) (Qac : List Hit) (Qbk : Int) out, Qe5 a0 a2 x17 x21 Qac Qbk = some out -> ∀ c, Qam Tryz.f156 0 = some c -> ∀ (Q : AX -> AS -> Prop) (tt : Sto) (b1 : Nat), (∀ (Qbn : List Hit), out = Qbn -> ∀ (T : Nat -> AV) (ss : Sto) (e0v0 : AV), T 7 = e0v0 -> Fx tt ss [(b1, ⟨26, 5, [i6 a0.kind, .str a0.name, i6 a0.num, sf cI a0.sc, sf Fm.cells a0.kids]⟩)] [⟨e0v0, 62, 12, rws Hit.cells Qbn⟩] -> Q (.ex 0) ⟨T, ss⟩) -> True -> ∀ (T : Nat -> AV) (ss : Sto) (z0v0 : AV), T 2 = sf (cL Hit.cells) a2 /\ T 7 = z0v0 /\ T 8 = sf Fm.cells x17 /\ T 9 = sf cI x21 /\ T 10 = i6 Qbk -> Fx tt ss [(b1, ⟨26, 5, [i6 a0.kind, .str a0.name, i6 a0.num, sf cI a0.sc, sf Fm.cells a0.kids]⟩)] [⟨z0v0, 62, 12, rws Hit.cells Qac⟩] -> Qbr (Qbc Tryz.prog c) Q ⟨T, ss⟩ := by
 intro a0 a2 x17 x21 Qac Qbk
 revert Qac Qbk
 refine Qe5.partial_correctness a0 a2 x17 x21 _ ?_
 intro Qe5 IH Qac Qbk out H c hc Q tt b1 hE hR T ss z0v0 tT hF
 obtain rfl := lpe (rfl : Qam Tryz.f156 0 = some _) hc
 refine Qah ?_
 have q := dum
 have hX := Tau.none tt
 refine go ?_
 refine cdp H (fun h H => ?_) (fun h H => ?_)
 ·refine go ?_
  refine Qaq E0 [.v, .v, .v, .v, .v, .v, .v, .v, .v, .v, .x, .z] (by kernel_rfl) ?_
  obtain ⟨x30, f1, H⟩ := bil (g := Fm.cells) Fm.Qad H
  obtain ⟨x34, f2, H⟩ := bil (g := cI) (fun _ => rfl) H
  refine go2 ?_
  refine Qg4 hF rfl fun b9 s10 hF => ?_
  refine go ?_
  refine st hF 0 rfl fun s11 hF => ?_
  have hF := hF.nil 62 12
  refine go ?_
  obtain ⟨o15, ho15, H⟩ := bnd H
  refine Qui a0 a2 x17 x21 Qac Qbk x30 x34 [] 0 _ ho15 _ rfl _ _ b1 b9 z0v0 ?_ ?_ _ _ .Qab S hF
  ·intro Q42 he T17 s18 e16v1 tT hF
   have he := he.symm
   subst he
   refine go ?_
   refine Kn0 (g := Hit.cells) (rows := [[i6 x30.kind, .str x30.name, i6 x30.num, sf cI x30.sc, sf Fm.cells x30.kids, i6 (i64.wrap (x34 + 1)), i6 0, .str zB, i6 0, .Qab, .Qab, e16v1]]) hF 1 0 0 H Hit.Qad true rfl (by simp only [sf, i6, zB, Qb9, Qd3, cI, cU, cS, cL, Hit.Qaa, Fm.Qaa, Fm.kind, Fm.name, Fm.num, Fm.sc, Fm.kids, Hit.name, Hit.depth, Hit.one, Hit.many, Cor.kind, Cor.id, Cor.name, Cor.num, Cor.ids, Cor.data, Cor.kids, Val.kind, Val.num, Val.name, Val.items, Val.fn, Val.env, Slt.id, Slt.val, List.flatten_cons, List.flatten_nil, List.append_nil, List.cons_append, List.nil_append]; exact (.wk (.refl _) id (.wk (.refl _) id (.wk (.refl _) id (.wk (.refl _) id (.wk (.refl _) id (.wk (.refl _) id (.wk (.refl _) id (.wk (.refl _) id (.wk (.refl _) id (.wk .Qab (fun _ => rfl) (.wk .Qab (fun _ => rfl) (.own .nil))))))))))))) fun x59 H v20 s21 hF => ?_
   refine go ?_
   exact IH  x59 (i64.wrap (Qbk + 1)) _ H _ rfl Q tt b1 hE hR _ _ v20 S (hF.drop 1 0)
  ·trivial
 ·refine go ?_
  exact hE _ (pur H).symm _ _ z0v0 S hF
theorem Q0j : ∀ (a0 : Fm) (a1 : List Fm) (a2 : List (List Hit)) r, Qkx a0 a1 a2 = some r -> Qb0 Tryz.prog 156 [.agg (Fm.cells a0), sf Fm.cells a1, sf (cL Hit.cells) a2] (sf Hit.cells r) := by
 intro a0 a1 a2 r H
 intro ss
 unfold Qkx at H
 refine Qau mixed Tryz.func156 rfl (by kernel_rfl) (rs := [.tmp 6]) rfl (by kernel_rfl) ?_
 have hF := Fx.refl ss
 have hX := Tau.none ss
 have q := dum
 have tT := dum
 refine go ?_
 refine Qag hF rfl fun b1 ss2 hF => ?_
 have hF := hF.lit 26 5 (rws Fm.cells []) rfl
 refine go ?_
 obtain ⟨x17, hx17, H⟩ := bnd H
 refine cx (Qmb [] a0 a1 _ hx17  (.sl true (rws Fm.cells [])) _ (pre 0 0 1 hF hX)) ?_
 rintro _ ss3 ⟨tt4, rfl, hT, hG⟩
 have hF := Qxq 0 1 hF hX hT hG
 have hF := hF.lit 3 1 (rws cI []) rfl
 refine go ?_
 obtain ⟨x21, hx21, H⟩ := bnd H
 refine cx (Qkm [] a0 a1 0 _ hx21  (.sl true (rws cI [])) _ (pre 0 0 1 hF hX)) ?_
 rintro _ ss6 ⟨t7, rfl, hT, hG⟩
 have hF := Qxq 0 1 hF hX hT hG
 have hF := hF.lit 62 12 (rws Hit.cells []) rfl
 refine go ?_
 obtain ⟨o22, ho22, H⟩ := bnd H
 refine Quh a0 a2 x17 x21 [] 0 _ ho22 _ rfl _ _ b1 ?_ ?_ _ _ (.sl true (rws Hit.cells [])) S hF
 ·intro Q1t he T24 s25 e23v0 tT hF
  have he := he.symm
  subst he
  refine go ?_
  have e := pur H; subst e
  exact rt [e23v0]
 ·trivial
theorem Qsy : ∀ (a0 : List Bnd) (a1 : List Fm) (a2 : List Fm) (a3 : List Fm) (Qr5 : Int) (Qde : Int) out, Qee a0 a1 a2 a3 Qr5 Qde = some out -> ∀ c, Qam Tryz.f111 0 = some c -> ∀ (Q : AX -> AS -> Prop) (tt : Sto), (∀ (Kfg : Int), out = Kfg -> ∀ (T : Nat -> AV) (ss : Sto), T 0 = sf Bnd.cells a0 /\ T 1 = sf Fm.cells a1 /\ T 2 = sf Fm.cells a2 /\ T 3 = sf Fm.cells a3 /\ T 10 = .sl true (rws Hit.cells []) /\ T 11 = i6 Kfg -> Fx tt ss [] [] -> Q (.ex 0) ⟨T, ss⟩) -> True -> ∀ (T : Nat -> AV) (ss : Sto), T 0 = sf Bnd.cells a0 /\ T 1 = sf Fm.cells a1 /\ T 2 = sf Fm.cells a2 /\ T 3 = sf Fm.cells a3 /\ T 10 = .sl true (rws Hit.cells []) /\ T 11 = i6 Qr5 /\ T 12 = i6 Qde -> Fx tt ss [] [] -> Qbr (Qbc Tryz.prog c) Q ⟨T, ss⟩ := by
 intro a0 a1 a2 a3 Qr5 Qde
 revert Qr5 Qde
 refine Qee.partial_correctness a0 a1 a2 a3 _ ?_
 intro Qee IH Qr5 Qde out H c hc Q tt  hE hR T ss tT hF
 obtain rfl := lpe (rfl : Qam Tryz.f111 0 = some _) hc
 refine Qah ?_
 have q := dum
 have hX := Tau.none tt
 refine go ?_
 refine cdp H (fun h H => ?_) (fun h H => ?_)
 ·obtain ⟨x32, f1, H⟩ := bil (g := Fm.cells) Fm.Qad H
  refine go1 ?_
  obtain ⟨x34, hx34, H⟩ := bnd H
  refine cl (Qb6 x32 _ hx34) ?_
  refine go ?_
  refine cdb H (fun h H => ?_) (fun h H => ?_)
  ·refine go ?_
   exact IH  Qde (i64.wrap (Qde + 1)) _ H _ rfl Q tt  hE hR _ _  S hF
  ·refine go ?_
   exact IH  Qr5 (i64.wrap (Qde + 1)) _ H _ rfl Q tt  hE hR _ _  S hF
 ·refine go ?_
  exact hE _ (pur H).symm _ _  S hF
theorem Qug (fx0 : List Bnd) (fx1 : List Fm) : (∀ (a1 : Fm) (a3 : Fm) r, Qdc fx0 a1 fx1 a3 = some r -> Qb0 Tryz.prog 56 [sf Bnd.cells fx0, .agg (Fm.cells a1), sf Fm.cells fx1, .agg (Fm.cells a3)] (.tup [sf Hit.cells r.1, .bool r.2])) /\ (∀ (a1 : List Fm) (a3 : List Fm) r, Qnf fx0 a1 fx1 a3 = some r -> Qb0 Tryz.prog 111 [sf Bnd.cells fx0, sf Fm.cells a1, sf Fm.cells fx1, sf Fm.cells a3] (.tup [sf Hit.cells r.1, .bool r.2])) := by
 have h := Qdc.mutual_partial_correctness fx0 fx1 (motive_1 := fun a1 a3 r => Qb0 Tryz.prog 56 [sf Bnd.cells fx0, .agg (Fm.cells a1), sf Fm.cells fx1, .agg (Fm.cells a3)] (.tup [sf Hit.cells r.1, .bool r.2])) (motive_2 := fun a1 a3 r => Qb0 Tryz.prog 111 [sf Bnd.cells fx0, sf Fm.cells a1, sf Fm.cells fx1, sf Fm.cells a3] (.tup [sf Hit.cells r.1, .bool r.2])) (motive_3 := fun a1 a3 Qdo Qep Qfs Qf8 out => ∀ c, Qam Tryz.f111 1 = some c -> ∀ (Q : AX -> AS -> Prop) (tt : Sto), (∀ (Q1r : List Hit), out = Sum.inr Q1r -> ∀ (T : Nat -> AV) (ss : Sto) (e1v0 : AV), T 10 = e1v0 -> Fx tt ss [] [⟨e1v0, 62, 12, rws Hit.cells Q1r⟩] -> Q (.ex 2) ⟨T, ss⟩) -> (∀ r, out = Sum.inl r -> ∀ s', Qkk Tryz.prog [.tmp 8, .tmp 9] (fun r' ss' => r' = .tup [sf Hit.cells r.1, .bool r.2] /\ ss' = tt) s' -> Q .ret s') -> ∀ (T : Nat -> AV) (ss : Sto) (z1v0 : AV), T 0 = sf Bnd.cells fx0 /\ T 1 = sf Fm.cells a1 /\ T 2 = sf Fm.cells fx1 /\ T 3 = sf Fm.cells a3 /\ T 10 = z1v0 /\ T 11 = i6 Qdo /\ T 13 = i6 Qfs /\ T 14 = i6 Qf8 -> Fx tt ss [] [⟨z1v0, 62, 12, rws Hit.cells Qep⟩] -> Qbr (Qbc Tryz.prog c) Q ⟨T, ss⟩) (motive_4 := fun a1 a3 Qdo Qep Qf8 Kcd Qxo Qze out => ∀ c, Qam Tryz.f111 2 = some c -> ∀ (Q : AX -> AS -> Prop) (tt : Sto) (z1v0 : AV), (∀ (Kj0 : List (List Hit)) (Kfo : Int), out = Sum.inr (Kj0, Kfo) -> ∀ (T : Nat -> AV) (ss : Sto) (e2v1 : AV), T 0 = sf Bnd.cells fx0 /\ T 1 = sf Fm.cells a1 /\ T 2 = sf Fm.cells fx1 /\ T 3 = sf Fm.cells a3 /\ T 10 = z1v0 /\ T 11 = i6 Qdo /\ T 13 = i6 Kfo /\ T 14 = i6 Qf8 /\ T 17 = e2v1 -> Fx tt ss [] [⟨e2v1, 53, 1, rws (cL Hit.cells) Kj0⟩, ⟨z1v0, 62, 12, rws Hit.cells Qep⟩] -> Q (.ex 4) ⟨T, ss⟩) -> (∀ r, out = Sum.inl r -> ∀ s', Qkk Tryz.prog [.tmp 8, .tmp 9] (fun r' ss' => r' = .tup [sf Hit.cells r.1, .bool r.2] /\ ss' = tt) s' -> Q .ret s') -> ∀ (T : Nat -> AV) (ss : Sto) (z2v1 : AV), T 0 = sf Bnd.cells fx0 /\ T 1 = sf Fm.cells a1 /\ T 2 = sf Fm.cells fx1 /\ T 3 = sf Fm.cells a3 /\ T 10 = z1v0 /\ T 11 = i6 Qdo /\ T 13 = i6 Qxo /\ T 14 = i6 Qf8 /\ T 17 = z2v1 /\ T 18 = i6 Qze -> Fx tt ss [] [⟨z2v1, 53, 1, rws (cL Hit.cells) Kcd⟩, ⟨z1v0, 62, 12, rws Hit.cells Qep⟩] -> Qbr (Qbc Tryz.prog c) Q ⟨T, ss⟩) ?s0 ?s1 ?s2 ?s3
 ·exact ⟨h.1, h.2.1⟩
 ·intro Qnf C1 a1 a3 r H
  intro ss
  refine Qau mixed Tryz.func56 rfl (by kernel_rfl) (rs := [.tmp 8, .tmp 9]) rfl (by kernel_rfl) ?_
  have hF := Fx.refl ss
  have hX := Tau.none ss
  have q := dum
  have tT := dum
  refine go ?_
  refine Qag hF rfl fun b1 ss2 hF => ?_
  refine go ?_
  refine Qag hF rfl fun b3 ss4 hF => ?_
  refine go ?_
  refine cdp H (fun h H => ?_) (fun h H => ?_)
  ·refine go ?_
   refine cdp H (fun h H => ?_) (fun h H => ?_)
   ·refine go ?_
    have e := pur H; subst e
    exact rt [.sl true (rws Hit.cells []), .bool true]
   ·refine go ?_
    obtain ⟨x21, hx21, H⟩ := bnd H
    refine cl (Qlx fx1 a1 _ hx21) ?_
    refine go ?_
    refine cdb H (fun h H => ?_) (fun h H => ?_)
    ·refine go ?_
     obtain ⟨x31, g5, H⟩ := bnd H
     refine Qai 4 27 31 (.bool x31) (gi q (fun q => ?_) (fun q => ?_)) (fun J => ?_)
     ·rw [if_pos (dt q)] at g5
      refine go ?_
      obtain ⟨x30, hx30, g5⟩ := bnd g5
      refine cl (Qx8 fx0 a1 a3 _ hx30) ?_
      refine go ?_
      exact Qaw 27 g5
     ·rw [if_neg (df q)] at g5
      refine go ?_
      exact Qaw 27 g5
     refine go ?_
     have e := pur H; subst e
     exact rt [.sl true (rws Hit.cells []), .bool x31]
    ·refine go ?_
     have hF := hF.lit 62 12 (rws Hit.cells []) rfl
     refine apw (g := Hit.cells) (rows := [[i6 a1.kind, .str a1.name, i6 a1.num, sf cI a1.sc, sf Fm.cells a1.kids, i6 0, i6 a3.kind, .str a3.name, i6 a3.num, sf cI a3.sc, sf Fm.cells a3.kids, .Qab]]) hF 0 H Hit.Qad true rfl (by simp only [sf, i6, zB, Qb9, Qd3, cI, cU, cS, cL, Hit.Qaa, Fm.Qaa, Fm.kind, Fm.name, Fm.num, Fm.sc, Fm.kids, Hit.name, Hit.depth, Hit.one, Hit.many, Cor.kind, Cor.id, Cor.name, Cor.num, Cor.ids, Cor.data, Cor.kids, Val.kind, Val.num, Val.name, Val.items, Val.fn, Val.env, Slt.id, Slt.val, List.flatten_cons, List.flatten_nil, List.append_nil, List.cons_append, List.nil_append]; exact (.cons (.refl _) id (.cons (.refl _) id (.cons (.refl _) id (.cons (.refl _) id (.cons (.refl _) id (.cons (.refl _) id (.cons (.refl _) id (.cons (.refl _) id (.cons (.refl _) id (.cons (.refl _) id (.cons (.refl _) id (.cons .Qab (fun _ => rfl) .nil))))))))))))) fun x37 H v7 s8 hF => ?_
     refine go ?_
     have e := pur H; subst e
     exact rt [v7, .bool true]
  ·refine go ?_
   refine cdp H (fun h H => ?_) (fun h H => ?_)
   ·refine go ?_
    obtain ⟨x44, hx44, H⟩ := bnd H
    refine cl (Qgi a1 a3 _ hx44) ?_
    refine go ?_
    have e := pur H; subst e
    exact rt [.sl true (rws Hit.cells []), .bool x44]
   ·refine go ?_
    refine cdn H (fun h H => ?_) (fun h H => ?_)
    ·refine go ?_
     have e := pur H; subst e
     exact rt [.sl true (rws Hit.cells []), .bool false]
    ·refine go ?_
     obtain ⟨x55, hx55, H⟩ := bnd H
     refine cl (C1 a1.kids a3.kids _ hx55) ?_
     refine go ?_
     have e := pur H; subst e
     exact rt [sf Hit.cells x55.1, .bool x55.2]
 ·intro Qcx L1 a1 a3 r H
  intro ss
  refine Qau mixed Tryz.func111 rfl (by kernel_rfl) (rs := [.tmp 8, .tmp 9]) rfl (by kernel_rfl) ?_
  have hF := Fx.refl ss
  have hX := Tau.none ss
  have q := dum
  have tT := dum
  refine go ?_
  obtain ⟨o1, ho1, H⟩ := bnd H
  refine Qsy fx0 a1 fx1 a3 (-1) 0 _ ho1 _ rfl _ _  ?_ ?_ _ _  S hF
  ·intro Qdo he T3 ss4 tT hF
   have he := he.symm
   subst he
   refine go ?_
   obtain ⟨x44, g6, H⟩ := bnd H
   refine Qai 5 39 44 (.bool x44) (gi q (fun q => ?_) (fun q => ?_)) (fun J => ?_)
   ·refine go ?_
    exact Qaw 39 g6
   ·refine go ?_
    exact Qaw 39 g6
   refine go ?_
   obtain ⟨x56, g8, H⟩ := bnd H
   refine Qai 10 46 56 (.bool x56) (giN q (fun q => ?_) (fun q => ?_)) (fun J => ?_)
   ·rw [if_neg (dbf q)] at g8
    refine go ?_
    obtain ⟨x55, g10, g8⟩ := bnd g8
    refine Qai 6 49 55 (.bool x55) (gi q (fun q => ?_) (fun q => ?_)) (fun J => ?_)
    ·refine go ?_
     exact Qaw 49 g10
    ·refine go ?_
     exact Qaw 49 g10
    refine go ?_
    exact Qaw 46 g8
   ·rw [if_pos (dbt q)] at g8
    refine go ?_
    exact Qaw 46 g8
   refine go ?_
   refine cdb H (fun h H => ?_) (fun h H => ?_)
   ·refine go ?_
    have e := pur H; subst e
    exact rt [.sl true (rws Hit.cells []), .bool false]
   ·have hF := hF.lit 62 12 (rws Hit.cells []) rfl
    refine go ?_
    obtain ⟨o27, ho27, H⟩ := bnd H
    refine L1 a1 a3 Qdo [] 0 0 _ ho27 _ rfl _ _  ?_ ?_ _ _ (.sl true (rws Hit.cells [])) S hF
    ·intro Q45 he T29 s30 e28v0 tT hF
     have he := he.symm
     subst he
     dsimp only at H
     refine go ?_
     have e := pur H; subst e
     exact rt [e28v0, .bool true]
    ·intro r hr s' hs
     subst hr
     have e := pur H; subst e
     first | exact hs | (try simp only [sf, i6, zB, Fm.Qaa, Xpn.Qaa, Cor.Qaa, Bnd.Qaa, Hit.Qaa, Rul.Qaa, Mac.Qaa, Stp.Qaa, Val.Qaa] at hs ⊢; exact hs)
  ·trivial
 ·intro Qdc Qcx Qfg C0 L1 L0 a1 a3 Qdo Qep Qfs Qf8 out H c hc Q tt  hE hR T ss z1v0 tT hF
  obtain rfl := lpe (rfl : Qam Tryz.f111 1 = some _) hc
  refine Qah ?_
  have q := dum
  have hX := Tau.none tt
  refine go ?_
  refine cdp H (fun h H => ?_) (fun h H => ?_)
  ·obtain ⟨x66, f1, H⟩ := bil (g := Fm.cells) Fm.Qad H
   refine go1 ?_
   obtain ⟨x68, hx68, H⟩ := bnd H
   refine cl (Qb6 x66 _ hx68) ?_
   refine go ?_
   refine cdb H (fun h H => ?_) (fun h H => ?_)
   ·refine go ?_
    exact L1 a1 a3 Qdo Qep Qfs (i64.wrap (Qf8 + 1)) _ H _ rfl Q tt  hE hR _ _ z1v0 S hF
   ·refine go ?_
    refine cdn H (fun h H => ?_) (fun h H => ?_)
    ·refine go ?_
     refine Qaq E0 [.v, .v, .v, .v, .v, .v, .v, .v, .v, .v, .v, .v, .v, .v, .v, .v] (by kernel_rfl) ?_
     obtain ⟨x76, f1, H⟩ := bil (g := Fm.cells) Fm.Qad H
     obtain ⟨x81, f2, H⟩ := bil (g := Fm.cells) Fm.Qad H
     refine go2 ?_
     obtain ⟨x83, hx83, H⟩ := bnd H
     refine cv (C0 x76 x81 _ hx83) ?_
     refine go ?_
     refine cdb H (fun h H => ?_) (fun h H => ?_)
     ·refine go ?_
      exact hR _ (pur H).symm _ (rt [z1v0, .bool false])
     ·refine go ?_
      refine apd (g := Hit.cells) hF 0 H (rdo (c := false) (g := Hit.cells) Hit.Qad) fun x91 H v12 s13 hF => ?_
      refine go ?_
      exact L1 a1 a3 Qdo x91 (i64.wrap (Qfs + 1)) (i64.wrap (Qf8 + 1)) _ H _ rfl Q tt  hE hR _ _ v12 S hF
    ·have hF := hF.lit 53 1 (rws (cL Hit.cells) []) rfl
     refine go ?_
     obtain ⟨o16, ho16, H⟩ := bnd H
     refine L0 a1 a3 Qdo Qep Qf8 [] Qfs (i64.wrap ((a3.length : Int) - (i64.wrap ((a1.length : Int) - 2)))) _ ho16 _ rfl _ _ z1v0 ?_ ?_ _ _ (.sl true (rws (cL Hit.cells) [])) S hF
     ·intro Q1p Qvz he T18 s19 e17v1 tT hF
      have he := he.symm
      subst he
      dsimp only at H
      obtain ⟨x131, f1, H⟩ := bil (g := Fm.cells) Fm.Qad H
      refine go1 ?_
      obtain ⟨x135, hx135, H⟩ := bnd H
      obtain ⟨s21, hF, hw22, hb23, hz24⟩ := frz hF 0
      refine Q4q (Q0j x131 fx1 Q1p _ hx135 _) (by (try simp only [sf, i6, zB, Fm.Qaa]); exact (.cons (Wk.sub hb23 _) id (.cons (Wk.sub hb23 _) id (.cons hw22 (fun _ => rfl) .nil)))) hb23 ?_
      rintro _ _ ⟨rfl, rfl⟩
      refine go ?_
      refine apd (g := Hit.cells) hF 0 H (rdo (c := false) (g := Hit.cells) Hit.Qad) fun x136 H v25 s26 hF => ?_
      refine go ?_
      exact L1 a1 a3 Qdo x136 Qvz (i64.wrap (Qf8 + 1)) _ H _ rfl Q tt  hE hR _ _ v25 S hF
     ·intro r hr s' hs
      subst hr
      exact hR _ (pur H).symm _ hs
  ·refine go ?_
   exact hE _ (pur H).symm _ _ z1v0 S hF
 ·intro Qdc Qfg C0 L0 a1 a3 Qdo Qep Qf8 Kcd Qxo Qze out H c hc Q tt z1v0 hE hR T ss z2v1 tT hF
  obtain rfl := lpe (rfl : Qam Tryz.f111 2 = some _) hc
  refine Qah ?_
  have q := dum
  have hX := Tau.none tt
  refine go ?_
  refine cdp H (fun h H => ?_) (fun h H => ?_)
  ·refine go ?_
   refine Qaq E0 [.v, .v, .v, .v, .v, .v, .v, .v, .v, .v, .v, .v, .v, .v, .v, .v] (by kernel_rfl) ?_
   obtain ⟨x109, f1, H⟩ := bil (g := Fm.cells) Fm.Qad H
   obtain ⟨x114, f2, H⟩ := bil (g := Fm.cells) Fm.Qad H
   refine go2 ?_
   obtain ⟨x116, hx116, H⟩ := bnd H
   refine cv (C0 x109 x114 _ hx116) ?_
   refine go ?_
   refine cdb H (fun h H => ?_) (fun h H => ?_)
   ·refine go ?_
    exact hR _ (pur H).symm _ (rt [z1v0, .bool false])
   ·refine go ?_
    refine apd (g := (cL Hit.cells)) hF 0 H (rdo (c := true) (g := (cL Hit.cells)) (fun _ => rfl)) fun x125 H v14 s15 hF => ?_
    refine go ?_
    exact L0 a1 a3 Qdo Qep Qf8 x125 (i64.wrap (Qxo + 1)) (i64.wrap (Qze - 1)) _ H _ rfl Q tt z1v0 hE hR _ _ v14 S hF
  ·refine go ?_
   exact hE _ _ (pur H).symm _ _ z2v1 S hF
theorem Qoo : ∀ (a0 : List Bnd) (a1 : Fm) (a2 : List Fm) (a3 : Fm) r, Qdc a0 a1 a2 a3 = some r -> Qb0 Tryz.prog 56 [sf Bnd.cells a0, .agg (Fm.cells a1), sf Fm.cells a2, .agg (Fm.cells a3)] (.tup [sf Hit.cells r.1, .bool r.2]) := fun a0 a1 a2 a3 => (Qug a0 a2).1 a1 a3
theorem Qo7 : ∀ (a0 : List Bnd) (a1 : List Rul) (a2 : List Fm) (a3 : Fm) (Qbk : Int) out, Qch a0 a1 a2 a3 Qbk = some out -> ∀ c, Qam Tryz.f273 0 = some c -> ∀ (Q : AX -> AS -> Prop) (tt : Sto) (b1 : Nat), (∀ (_u : Unit), out = Sum.inr () -> ∀ (T : Nat -> AV) (ss : Sto), 0 + 0 = 0 -> Fx tt ss [(b1, ⟨26, 5, [i6 a3.kind, .str a3.name, i6 a3.num, sf cI a3.sc, sf Fm.cells a3.kids]⟩)] [] -> Q (.ex 0) ⟨T, ss⟩) -> (∀ r, out = Sum.inl r -> ∀ s', Qkk Tryz.prog [.tmp 8, .tmp 9] (fun r' ss' => r' = .tup [i6 r.1, .bool r.2] /\ ss' = tt) s' -> Q .ret s') -> ∀ (T : Nat -> AV) (ss : Sto), T 0 = sf Bnd.cells a0 /\ T 1 = sf Rul.cells a1 /\ T 2 = sf Fm.cells a2 /\ T 7 = .ptr b1 0 /\ T 10 = i6 Qbk -> Fx tt ss [(b1, ⟨26, 5, [i6 a3.kind, .str a3.name, i6 a3.num, sf cI a3.sc, sf Fm.cells a3.kids]⟩)] [] -> Qbr (Qbc Tryz.prog c) Q ⟨T, ss⟩ := by
 intro a0 a1 a2 a3 Qbk
 revert Qbk
 refine Qch.partial_correctness a0 a1 a2 a3 _ ?_
 intro Qch IH Qbk out H c hc Q tt b1 hE hR T ss tT hF
 obtain rfl := lpe (rfl : Qam Tryz.f273 0 = some _) hc
 refine Qah ?_
 have q := dum
 have hX := Tau.none tt
 refine go ?_
 refine cdp H (fun h H => ?_) (fun h H => ?_)
 ·refine go ?_
  refine Qaq E0 [.v, .v, .v, .v, .v, .v, .v, .v, .v, .v, .v, .v, .v, .v] (by kernel_rfl) ?_
  obtain ⟨x37, f1, H⟩ := bil (g := Rul.cells) Rul.Qad H
  refine go1 ?_
  obtain ⟨x42, hx42, H⟩ := bnd H
  refine cv (Qoo a0 x37.pat a2 a3 _ hx42) ?_
  refine go ?_
  refine cdb H (fun h H => ?_) (fun h H => ?_)
  ·refine go ?_
   exact hR _ (pur H).symm _ (rt [i6 Qbk, .bool true])
  ·refine go ?_
   exact IH  (i64.wrap (Qbk + 1)) _ H _ rfl Q tt b1 hE hR _ _  S hF
 ·refine go ?_
  exact hE () (pur H).symm _ _  S hF
theorem Qmp : ∀ (a0 : List Bnd) (a1 : List Rul) (a2 : List Fm) (a3 : Fm) r, Qh7 a0 a1 a2 a3 = some r -> Qb0 Tryz.prog 273 [sf Bnd.cells a0, sf Rul.cells a1, sf Fm.cells a2, .agg (Fm.cells a3)] (.tup [i6 r.1, .bool r.2]) := by
 intro a0 a1 a2 a3 r H
 intro ss
 unfold Qh7 at H
 refine Qau mixed Tryz.func273 rfl (by kernel_rfl) (rs := [.tmp 8, .tmp 9]) rfl (by kernel_rfl) ?_
 have hF := Fx.refl ss
 have hX := Tau.none ss
 have q := dum
 have tT := dum
 refine go ?_
 refine Qag hF rfl fun b1 ss2 hF => ?_
 refine go ?_
 obtain ⟨x14, hx14, H⟩ := bnd H
 refine cl (Qjq a0 _ hx14) ?_
 refine go ?_
 obtain ⟨x21, g3, H⟩ := bnd H
 refine Qai 4 17 21 (.bool x21) (giN q (fun q => ?_) (fun q => ?_)) (fun J => ?_)
 ·rw [if_neg (dbf q)] at g3
  refine go ?_
  obtain ⟨x19, hx19, g3⟩ := bnd g3
  refine cl (Qor a1 a2 _ hx19) ?_
  refine go ?_
  exact Qaw 17 g3
 ·rw [if_pos (dbt q)] at g3
  refine go ?_
  exact Qaw 17 g3
 refine go ?_
 obtain ⟨x26, g5, H⟩ := bnd H
 refine Qai 3 23 26 (.bool x26) (giN q (fun q => ?_) (fun q => ?_)) (fun J => ?_)
 ·rw [if_neg (dbf q)] at g5
  refine go ?_
  obtain ⟨x24, hx24, g5⟩ := bnd g5
  refine cl (Qbe a3 _ hx24) ?_
  refine go ?_
  exact Qaw 23 g5
 ·rw [if_pos (dbt q)] at g5
  refine go ?_
  exact Qaw 23 g5
 refine go ?_
 refine cdb H (fun h H => ?_) (fun h H => ?_)
 ·refine go ?_
  have e := pur H; subst e
  exact rt [i6 0, .bool false]
 ·refine go ?_
  obtain ⟨o7, ho7, H⟩ := bnd H
  refine Qo7 a0 a1 a2 a3 0 _ ho7 _ rfl _ _ b1 ?_ ?_ _ _  S hF
  ·intro _ he T9 s10 tT hF
   have he := he.symm
   subst he
   dsimp only at H
   refine go ?_
   have e := pur H; subst e
   exact rt [i6 0, .bool false]
  ·intro r hr s' hs
   subst hr
   have e := pur H; subst e
   first | exact hs | (try simp only [sf, i6, zB, Fm.Qaa, Xpn.Qaa, Cor.Qaa, Bnd.Qaa, Hit.Qaa, Rul.Qaa, Mac.Qaa, Stp.Qaa, Val.Qaa] at hs ⊢; exact hs)
theorem Qp4 : (∀ (a0 : Fm) r, Qct a0 = some r -> Qb0 Tryz.prog 315 [.agg (Fm.cells a0)] (.agg (Fm.cells r))) /\ (∀ (a0 : List Fm) r, Qhs a0 = some r -> Qb0 Tryz.prog 320 [sf Fm.cells a0] (sf Fm.cells r)) := by
 have h := Qct.mutual_partial_correctness  (motive_1 := fun a0 r => Qb0 Tryz.prog 315 [.agg (Fm.cells a0)] (.agg (Fm.cells r))) (motive_2 := fun a0 r => Qb0 Tryz.prog 320 [sf Fm.cells a0] (sf Fm.cells r)) (motive_3 := fun a0 Qac Qbq out => ∀ c, Qam Tryz.f320 0 = some c -> ∀ (Q : AX -> AS -> Prop) (tt : Sto), (∀ (Qbn : List Fm), out = Qbn -> ∀ (T : Nat -> AV) (ss : Sto) (e0v0 : AV), T 3 = e0v0 -> Fx tt ss [] [⟨e0v0, 26, 5, rws Fm.cells Qbn⟩] -> Q (.ex 0) ⟨T, ss⟩) -> True -> ∀ (T : Nat -> AV) (ss : Sto) (z0v0 : AV), T 3 = z0v0 /\ T 7 = sf Fm.cells a0 /\ T 8 = i6 (a0.length : Int) /\ T 9 = i6 Qbq -> Fx tt ss [] [⟨z0v0, 26, 5, rws Fm.cells Qac⟩] -> Qbr (Qbc Tryz.prog c) Q ⟨T, ss⟩) ?s0 ?s1 ?s2
 ·exact ⟨h.1, h.2.1⟩
 ·intro Qhs C1 a0 r H
  intro ss
  refine Qau mixed Tryz.func315 rfl (by kernel_rfl) (rs := [.cell 2 26]) rfl (by kernel_rfl) ?_
  have hF := Fx.refl ss
  have hX := Tau.none ss
  have q := dum
  have tT := dum
  refine go ?_
  refine Qag hF rfl fun b1 ss2 hF => ?_
  refine go ?_
  refine Qag hF rfl fun b3 ss4 hF => ?_
  refine go ?_
  refine apv (g := cI) H (fun _ => rfl) (rdo (c := false) (g := cI) (fun _ => rfl)) fun x6 H => ?_
  refine go ?_
  refine st hF 1 rfl fun ss5 hF => ?_
  refine go ?_
  obtain ⟨x10, hx10, H⟩ := bnd H
  refine cl (C1 a0.kids _ hx10) ?_
  refine go ?_
  refine st hF 1 rfl fun ss6 hF => ?_
  refine go ?_
  refine st hF 0 rfl fun s7 hF => ?_
  refine go ?_
  have e := pur H; subst e
  exact rt [.agg [i6 a0.kind, .str a0.name, i6 a0.num, sf cI x6, sf Fm.cells x10]]
 ·intro Qbw L0 a0 r H
  intro ss
  refine Qau mixed Tryz.func320 rfl (by kernel_rfl) (rs := [.tmp 2]) rfl (by kernel_rfl) ?_
  have hF := Fx.refl ss
  have hX := Tau.none ss
  have q := dum
  have tT := dum
  have hF := hF.lit 26 5 (rws Fm.cells []) rfl
  refine go ?_
  obtain ⟨o6, ho6, H⟩ := bnd H
  refine L0 a0 [] 0 _ ho6 _ rfl _ _  ?_ ?_ _ _ (.sl true (rws Fm.cells [])) S hF
  ·intro Kau he T8 s9 e7v0 tT hF
   have he := he.symm
   subst he
   refine go ?_
   have e := pur H; subst e
   exact rt [e7v0]
  ·trivial
 ·intro Qct Qbw C0 L0 a0 Qac Qbq out H c hc Q tt  hE hR T ss z0v0 tT hF
  obtain rfl := lpe (rfl : Qam Tryz.f320 0 = some _) hc
  refine Qah ?_
  have q := dum
  have hX := Tau.none tt
  refine go ?_
  refine cdp H (fun h H => ?_) (fun h H => ?_)
  ·obtain ⟨x11, f1, H⟩ := bil (g := Fm.cells) Fm.Qad H
   refine go1 ?_
   refine Qag hF rfl fun b1 ss2 hF => ?_
   refine go ?_
   refine st hF 0 rfl fun ss3 hF => ?_
   refine go ?_
   obtain ⟨x15, hx15, H⟩ := bnd H
   refine cl (C0 x11 _ hx15) ?_
   refine go ?_
   refine apd (g := Fm.cells) hF 0 H (rdo (c := true) (g := Fm.cells) Fm.Qad) fun x17 H v4 ss5 hF => ?_
   refine go ?_
   exact L0 a0 x17 (i64.wrap (Qbq + 1)) _ H _ rfl Q tt  hE hR _ _ v4 S (hF.drop 1 0)
  ·refine go ?_
   exact hE _ (pur H).symm _ _ z0v0 S hF
theorem Qlv : ∀ (a0 : Fm) r, Qct a0 = some r -> Qb0 Tryz.prog 315 [.agg (Fm.cells a0)] (.agg (Fm.cells r)) := Qp4.1
theorem Qq7 : ∀ (a0 : Rul) r, Qik a0 = some r -> Qb0 Tryz.prog 309 [.agg (Rul.cells a0)] (.agg (Rul.cells r)) := by
 intro a0 r H
 intro ss
 unfold Qik at H
 refine Qau mixed Tryz.func309 rfl (by kernel_rfl) (rs := [.cell 2 319]) rfl (by kernel_rfl) ?_
 have hF := Fx.refl ss
 have hX := Tau.none ss
 have q := dum
 have tT := dum
 refine go ?_
 refine Qag hF rfl fun b1 ss2 hF => ?_
 refine go ?_
 refine Qag hF rfl fun b3 ss4 hF => ?_
 refine go ?_
 obtain ⟨x5, hx5, H⟩ := bnd H
 refine cl (Qlv a0.pat _ hx5) ?_
 refine go ?_
 refine st hF 1 rfl fun ss5 hF => ?_
 refine go ?_
 obtain ⟨x9, hx9, H⟩ := bnd H
 refine cl (Qlv a0.tpl _ hx9) ?_
 refine go ?_
 refine st hF 1 rfl fun ss6 hF => ?_
 refine go ?_
 refine st hF 0 rfl fun s7 hF => ?_
 refine go ?_
 have e := pur H; subst e
 exact rt [.agg [i6 x5.kind, .str x5.name, i6 x5.num, sf cI x5.sc, sf Fm.cells x5.kids, i6 x9.kind, .str x9.name, i6 x9.num, sf cI x9.sc, sf Fm.cells x9.kids]]
theorem Ql9 : ∀ (a0 : List Rul) (Qac : List Rul) (Qbq : Int) out, Qbo a0 Qac Qbq = some out -> ∀ c, Qam Tryz.f305 0 = some c -> ∀ (Q : AX -> AS -> Prop) (tt : Sto), (∀ (Qbn : List Rul), out = Qbn -> ∀ (T : Nat -> AV) (ss : Sto) (e0v0 : AV), T 3 = e0v0 -> Fx tt ss [] [⟨e0v0, 319, 10, rws Rul.cells Qbn⟩] -> Q (.ex 0) ⟨T, ss⟩) -> True -> ∀ (T : Nat -> AV) (ss : Sto) (z0v0 : AV), T 3 = z0v0 /\ T 7 = sf Rul.cells a0 /\ T 8 = i6 (a0.length : Int) /\ T 9 = i6 Qbq -> Fx tt ss [] [⟨z0v0, 319, 10, rws Rul.cells Qac⟩] -> Qbr (Qbc Tryz.prog c) Q ⟨T, ss⟩ := by
 intro a0 Qac Qbq
 revert Qac Qbq
 refine Qbo.partial_correctness a0 _ ?_
 intro Qbo IH Qac Qbq out H c hc Q tt  hE hR T ss z0v0 tT hF
 obtain rfl := lpe (rfl : Qam Tryz.f305 0 = some _) hc
 refine Qah ?_
 have q := dum
 have hX := Tau.none tt
 refine go ?_
 refine cdp H (fun h H => ?_) (fun h H => ?_)
 ·obtain ⟨x11, f1, H⟩ := bil (g := Rul.cells) Rul.Qad H
  refine go1 ?_
  refine Qag hF rfl fun b1 ss2 hF => ?_
  refine go ?_
  refine st hF 0 rfl fun ss3 hF => ?_
  refine go ?_
  obtain ⟨x15, hx15, H⟩ := bnd H
  refine cl (Qq7 x11 _ hx15) ?_
  refine go ?_
  refine apd (g := Rul.cells) hF 0 H (rdo (c := true) (g := Rul.cells) Rul.Qad) fun x17 H v4 ss5 hF => ?_
  refine go ?_
  exact IH  x17 (i64.wrap (Qbq + 1)) _ H _ rfl Q tt  hE hR _ _ v4 S (hF.drop 1 0)
 ·refine go ?_
  exact hE _ (pur H).symm _ _ z0v0 S hF
theorem Qnx : ∀ (a0 : List Rul) r, Qf0 a0 = some r -> Qb0 Tryz.prog 305 [sf Rul.cells a0] (sf Rul.cells r) := by
 intro a0 r H
 intro ss
 unfold Qf0 at H
 refine Qau mixed Tryz.func305 rfl (by kernel_rfl) (rs := [.tmp 2]) rfl (by kernel_rfl) ?_
 have hF := Fx.refl ss
 have hX := Tau.none ss
 have q := dum
 have tT := dum
 have hF := hF.lit 319 10 (rws Rul.cells []) rfl
 refine go ?_
 obtain ⟨o6, ho6, H⟩ := bnd H
 refine Ql9 a0 [] 0 _ ho6 _ rfl _ _  ?_ ?_ _ _ (.sl true (rws Rul.cells [])) S hF
 ·intro Kau he T8 s9 e7v0 tT hF
  have he := he.symm
  subst he
  refine go ?_
  have e := pur H; subst e
  exact rt [e7v0]
 ·trivial
theorem Qpl : ∀ (a0 : Fm) (a1 : Fm) r, Qf3 a0 a1 = some r -> Qb0 Tryz.prog 316 [.agg (Fm.cells a0), .agg (Fm.cells a1)] (.bool r) := by
 intro a0 a1
 revert a0
 refine Qf3.partial_correctness a1 (motive_1 := fun a0 r => Qb0 Tryz.prog 316 [.agg (Fm.cells a0), .agg (Fm.cells a1)] (.bool r)) (motive_2 := fun a0 Qaj out => ∀ c, Qam Tryz.f316 0 = some c -> ∀ (Q : AX -> AS -> Prop) (tt : Sto) (b1 : Nat) (b3 : Nat), (∀ (_u : Unit), out = Sum.inr () -> ∀ (T : Nat -> AV) (ss : Sto), 0 + 0 = 0 -> Fx tt ss [(b3, ⟨26, 5, [i6 a1.kind, .str a1.name, i6 a1.num, sf cI a1.sc, sf Fm.cells a1.kids]⟩), (b1, ⟨26, 5, [i6 a0.kind, .str a0.name, i6 a0.num, sf cI a0.sc, sf Fm.cells a0.kids]⟩)] [] -> Q (.ex 0) ⟨T, ss⟩) -> (∀ r, out = Sum.inl r -> ∀ s', Qkk Tryz.prog [.tmp 4] (fun r' ss' => r' = .bool r /\ ss' = tt) s' -> Q .ret s') -> ∀ (T : Nat -> AV) (ss : Sto), T 2 = .ptr b1 0 /\ T 3 = .ptr b3 0 /\ T 5 = i6 Qaj -> Fx tt ss [(b3, ⟨26, 5, [i6 a1.kind, .str a1.name, i6 a1.num, sf cI a1.sc, sf Fm.cells a1.kids]⟩), (b1, ⟨26, 5, [i6 a0.kind, .str a0.name, i6 a0.num, sf cI a0.sc, sf Fm.cells a0.kids]⟩)] [] -> Qbr (Qbc Tryz.prog c) Q ⟨T, ss⟩) ?_ ?_
 ·intro Qej L0 a0 r H
  intro ss
  refine Qau mixed Tryz.func316 rfl (by kernel_rfl) (rs := [.tmp 4]) rfl (by kernel_rfl) ?_
  have hF := Fx.refl ss
  have hX := Tau.none ss
  have q := dum
  have tT := dum
  refine go ?_
  refine Qag hF rfl fun b1 ss2 hF => ?_
  refine go ?_
  refine Qag hF rfl fun b3 ss4 hF => ?_
  refine go ?_
  obtain ⟨x13, g5, H⟩ := bnd H
  refine Qai 3 10 13 (.bool x13) (gi q (fun q => ?_) (fun q => ?_)) (fun J => ?_)
  ·rw [if_pos (dt q)] at g5
   refine go ?_
   obtain ⟨x12, hx12, g5⟩ := bnd g5
   refine cl (Qgi a0 a1 _ hx12) ?_
   refine go ?_
   exact Qaw 10 g5
  ·rw [if_neg (df q)] at g5
   refine go ?_
   exact Qaw 10 g5
  refine go ?_
  refine cdb H (fun h H => ?_) (fun h H => ?_)
  ·refine go ?_
   have e := pur H; subst e
   exact rt [.bool true]
  ·refine go ?_
   obtain ⟨o7, ho7, H⟩ := bnd H
   refine L0 a0 0 _ ho7 _ rfl _ _ b1 b3 ?_ ?_ _ _  S hF
   ·intro _ he T9 s10 tT hF
    have he := he.symm
    subst he
    dsimp only at H
    refine go ?_
    have e := pur H; subst e
    exact rt [.bool false]
   ·intro r hr s' hs
    subst hr
    have e := pur H; subst e
    first | exact hs | (try simp only [sf, i6, zB, Fm.Qaa, Xpn.Qaa, Cor.Qaa, Bnd.Qaa, Hit.Qaa, Rul.Qaa, Mac.Qaa, Stp.Qaa, Val.Qaa] at hs ⊢; exact hs)
 ·intro Qf3 Qej C0 L0 a0 Qaj out H c hc Q tt b1 b3 hE hR T ss tT hF
  obtain rfl := lpe (rfl : Qam Tryz.f316 0 = some _) hc
  refine Qah ?_
  have q := dum
  have hX := Tau.none tt
  refine go ?_
  refine cdp H (fun h H => ?_) (fun h H => ?_)
  ·refine go ?_
   refine Qaq E0 [.v, .v, .v, .v, .v, .v, .v] (by kernel_rfl) ?_
   obtain ⟨x24, f1, H⟩ := bil (g := Fm.cells) Fm.Qad H
   refine go1 ?_
   obtain ⟨x27, hx27, H⟩ := bnd H
   refine cv (C0 x24 _ hx27) ?_
   refine go ?_
   refine cdb H (fun h H => ?_) (fun h H => ?_)
   ·refine go ?_
    exact hR _ (pur H).symm _ (rt [.bool true])
   ·refine go ?_
    exact L0 a0 (i64.wrap (Qaj + 1)) _ H _ rfl Q tt b1 b3 hE hR _ _  S hF
  ·refine go ?_
   exact hE () (pur H).symm _ _  S hF
theorem Qrg : ∀ (a0 : Fm) (a1 : List Hit) (Qaj : Int) (Qa7 : Int) out, Qcy a0 a1 Qaj Qa7 = some out -> ∀ c, Qam Tryz.f311 0 = some c -> ∀ (Q : AX -> AS -> Prop) (tt : Sto) (b1 : Nat), (∀ (Qvw : Int), out = Sum.inr Qvw -> ∀ (T : Nat -> AV) (ss : Sto), T 5 = i6 Qvw -> Fx tt ss [(b1, ⟨26, 5, [i6 a0.kind, .str a0.name, i6 a0.num, sf cI a0.sc, sf Fm.cells a0.kids]⟩)] [] -> Q (.ex 0) ⟨T, ss⟩) -> (∀ r, out = Sum.inl r -> ∀ s', Qkk Tryz.prog [.tmp 4] (fun r' ss' => r' = i6 r /\ ss' = tt) s' -> Q .ret s') -> ∀ (T : Nat -> AV) (ss : Sto), T 1 = sf Hit.cells a1 /\ T 2 = .ptr b1 0 /\ T 5 = i6 Qaj /\ T 6 = i6 Qa7 -> Fx tt ss [(b1, ⟨26, 5, [i6 a0.kind, .str a0.name, i6 a0.num, sf cI a0.sc, sf Fm.cells a0.kids]⟩)] [] -> Qbr (Qbc Tryz.prog c) Q ⟨T, ss⟩ := by
 intro a0 a1 Qaj Qa7
 revert Qaj Qa7
 refine Qcy.partial_correctness a0 a1 _ ?_
 intro Qcy IH Qaj Qa7 out H c hc Q tt b1 hE hR T ss tT hF
 obtain rfl := lpe (rfl : Qam Tryz.f311 0 = some _) hc
 refine Qah ?_
 have q := dum
 have hX := Tau.none tt
 refine go ?_
 refine cdp H (fun h H => ?_) (fun h H => ?_)
 ·refine go ?_
  refine Qaq E0 [.v, .v, .v, .v, .v, .v, .v, .v, .v, .v, .v, .v, .v, .v, .v, .v] (by kernel_rfl) ?_
  obtain ⟨x15, f1, H⟩ := bil (g := Hit.cells) Hit.Qad H
  refine go1 ?_
  obtain ⟨x28, g3, H⟩ := bnd H
  refine Qb4 8 20 28 (.bool x28) (tiN q (fun q => ?_) (fun q => ?_)) (fun J => ?_)
  ·rw [if_neg (df q)] at g3
   obtain ⟨x23, f1, g3⟩ := bil (g := Hit.cells) Hit.Qad g3
   refine go1 ?_
   obtain ⟨x26, hx26, g3⟩ := bnd g3
   refine cv (Qpl a0 x23.name _ hx26) ?_
   refine go ?_
   exact Qaw 20 g3
  ·rw [if_pos (dt q)] at g3
   refine go ?_
   exact Qaw 20 g3
  refine go ?_
  refine cdb H (fun h H => ?_) (fun h H => ?_)
  ·refine go ?_
   exact IH  Qaj (i64.wrap (Qa7 + 1)) _ H _ rfl Q tt b1 hE hR _ _  S hF
  ·refine go ?_
   obtain ⟨x40, g5, H⟩ := bnd H
   refine Qai 8 32 40 (.bool x40) (gi q (fun q => ?_) (fun q => ?_)) (fun J => ?_)
   ·rw [if_pos (dt q)] at g5
    obtain ⟨x35, f1, g5⟩ := bil (g := Hit.cells) Hit.Qad g5
    refine go1 ?_
    refine go ?_
    exact Qaw 32 g5
   ·rw [if_neg (df q)] at g5
    refine go ?_
    exact Qaw 32 g5
   refine go ?_
   refine cdb H (fun h H => ?_) (fun h H => ?_)
   ·refine go ?_
    exact hR _ (pur H).symm _ (rt [i6 (-1)])
   ·obtain ⟨x43, f1, H⟩ := bil (g := Hit.cells) Hit.Qad H
    refine go1 ?_
    refine go ?_
    exact IH  (x43.many.length : Int) (i64.wrap (Qa7 + 1)) _ H _ rfl Q tt b1 hE hR _ _  S hF
 ·refine go ?_
  exact hE _ (pur H).symm _ _  S hF
theorem Qwq : ∀ (a0 : Fm) (a1 : List Hit) r, Qji a0 a1 = some r -> Qb0 Tryz.prog 311 [.agg (Fm.cells a0), sf Hit.cells a1] (i6 r) := by
 intro a0 a1 r H
 intro ss
 unfold Qji at H
 refine Qau mixed Tryz.func311 rfl (by kernel_rfl) (rs := [.tmp 4]) rfl (by kernel_rfl) ?_
 have hF := Fx.refl ss
 have hX := Tau.none ss
 have q := dum
 have tT := dum
 refine go ?_
 refine Qag hF rfl fun b1 ss2 hF => ?_
 refine go ?_
 obtain ⟨o7, ho7, H⟩ := bnd H
 refine Qrg a0 a1 (-1) 0 _ ho7 _ rfl _ _ b1 ?_ ?_ _ _  S hF
 ·intro Kg4 he T9 s10 tT hF
  have he := he.symm
  subst he
  dsimp only at H
  refine go ?_
  have e := pur H; subst e
  exact rt [i6 Kg4]
 ·intro r hr s' hs
  subst hr
  have e := pur H; subst e
  first | exact hs | (try simp only [sf, i6, zB, Fm.Qaa, Xpn.Qaa, Cor.Qaa, Bnd.Qaa, Hit.Qaa, Rul.Qaa, Mac.Qaa, Stp.Qaa, Val.Qaa] at hs ⊢; exact hs)
theorem Qum : ∀ (a0 : Fm) (a1 : List Hit) (a2 : Int) (Qac : List Hit) (Qby : Int) out, Qe6 a0 a1 a2 Qac Qby = some out -> ∀ c, Qam Tryz.f312 0 = some c -> ∀ (Q : AX -> AS -> Prop) (tt : Sto) (b1 : Nat), (∀ (Qbn : List Hit), out = Qbn -> ∀ (T : Nat -> AV) (ss : Sto) (e0v0 : AV), T 7 = e0v0 -> Fx tt ss [(b1, ⟨26, 5, [i6 a0.kind, .str a0.name, i6 a0.num, sf cI a0.sc, sf Fm.cells a0.kids]⟩)] [⟨e0v0, 62, 12, rws Hit.cells Qbn⟩] -> Q (.ex 0) ⟨T, ss⟩) -> True -> ∀ (T : Nat -> AV) (ss : Sto) (z0v0 : AV), T 1 = sf Hit.cells a1 /\ T 2 = i6 a2 /\ T 3 = .ptr b1 0 /\ T 7 = z0v0 /\ T 8 = i6 Qby -> Fx tt ss [(b1, ⟨26, 5, [i6 a0.kind, .str a0.name, i6 a0.num, sf cI a0.sc, sf Fm.cells a0.kids]⟩)] [⟨z0v0, 62, 12, rws Hit.cells Qac⟩] -> Qbr (Qbc Tryz.prog c) Q ⟨T, ss⟩ := by
 intro a0 a1 a2 Qac Qby
 revert Qac Qby
 refine Qe6.partial_correctness a0 a1 a2 _ ?_
 intro Qe6 IH Qac Qby out H c hc Q tt b1 hE hR T ss z0v0 tT hF
 obtain rfl := lpe (rfl : Qam Tryz.f312 0 = some _) hc
 refine Qah ?_
 have q := dum
 have hX := Tau.none tt
 refine go ?_
 refine cdp H (fun h H => ?_) (fun h H => ?_)
 ·obtain ⟨x19, f1, H⟩ := bil (g := Hit.cells) Hit.Qad H
  refine go1 ?_
  refine Qag hF rfl fun b3 ss4 hF => ?_
  refine go ?_
  refine st hF 0 rfl fun ss5 hF => ?_
  refine go ?_
  obtain ⟨x29, g6, H⟩ := bnd H
  refine Qai 4 25 29 (.bool x29) (gi q (fun q => ?_) (fun q => ?_)) (fun J => ?_)
  ·rw [if_pos (dt q)] at g6
   refine go ?_
   obtain ⟨x28, hx28, g6⟩ := bnd g6
   refine cl (Qpl a0 x19.name _ hx28) ?_
   refine go ?_
   exact Qaw 25 g6
  ·rw [if_neg (df q)] at g6
   refine go ?_
   exact Qaw 25 g6
  refine go ?_
  obtain ⟨⟨Qxd, Qxe, Qr3, Qr4, Qxf, Qxg, Qxh, Qxi, Qxj, Qxk, Qxl, Qxm⟩, j9, H⟩ := bnd H
  refine Qca (fun s' => ∃ (T : Nat -> AV) (ss1 : Sto), s' = ⟨T, ss1⟩ /\ (T 1 = sf Hit.cells a1 /\ T 2 = i6 a2 /\ T 3 = .ptr b1 0 /\ T 7 = z0v0 /\ T 8 = i6 Qby /\ T 9 = .ptr b3 0) /\ Fx tt ss1 [(b3, ⟨62, 12, [i6 Qxd, .str Qxe, i6 Qxf, sf cI Qxg, sf Fm.cells Qxh, i6 Qxi, i6 Qxj, .str Qxk, i6 Qxl, sf cI Qxm, sf Fm.cells Qr3, sf Hit.cells Qr4]⟩), (b1, ⟨26, 5, [i6 a0.kind, .str a0.name, i6 a0.num, sf cI a0.sc, sf Fm.cells a0.kids]⟩)] [⟨z0v0, 62, 12, rws Hit.cells Qac⟩]) (cdb j9 (fun h j9 => ?_) (fun h j9 => ?_)) ?_
  ·obtain ⟨x33, f1, j9⟩ := bil (g := Hit.cells) Hit.Qad j9
   refine go1 ?_
   refine st hF 0 rfl fun s10 hF => ?_
   refine go ?_
   have e := pur j9
   injection e with e0 e
   injection e with e1 e
   injection e with e2 e
   injection e with e3 e
   injection e with e4 e
   injection e with e5 e
   injection e with e6 e
   injection e with e7 e
   injection e with e8 e
   injection e with e9 e
   injection e with e10 e
   subst e0
   subst e1
   subst e2
   subst e3
   subst e4
   subst e5
   subst e6
   subst e7
   subst e8
   subst e9
   subst e10
   subst e
   exact ⟨_, _, rfl, S, hF⟩
  ·refine go ?_
   have e := pur j9
   injection e with e0 e
   injection e with e1 e
   injection e with e2 e
   injection e with e3 e
   injection e with e4 e
   injection e with e5 e
   injection e with e6 e
   injection e with e7 e
   injection e with e8 e
   injection e with e9 e
   injection e with e10 e
   subst e0
   subst e1
   subst e2
   subst e3
   subst e4
   subst e5
   subst e6
   subst e7
   subst e8
   subst e9
   subst e10
   subst e
   exact ⟨_, _, rfl, S, hF⟩
  ·rintro s' ⟨T11, s12, rfl, tT, hF⟩
   refine go ?_
   refine apd (g := Hit.cells) hF 0 H (rdo (c := true) (g := Hit.cells) Hit.Qad) fun x38 H v14 s15 hF => ?_
   refine go ?_
   exact IH  x38 (i64.wrap (Qby + 1)) _ H _ rfl Q tt b1 hE hR _ _ v14 S (hF.drop 1 0)
 ·refine go ?_
  exact hE _ (pur H).symm _ _ z0v0 S hF
theorem Q0k : ∀ (a0 : Fm) (a1 : List Hit) (a2 : Int) r, Qky a0 a1 a2 = some r -> Qb0 Tryz.prog 312 [.agg (Fm.cells a0), sf Hit.cells a1, i6 a2] (sf Hit.cells r) := by
 intro a0 a1 a2 r H
 intro ss
 unfold Qky at H
 refine Qau mixed Tryz.func312 rfl (by kernel_rfl) (rs := [.tmp 6]) rfl (by kernel_rfl) ?_
 have hF := Fx.refl ss
 have hX := Tau.none ss
 have q := dum
 have tT := dum
 refine go ?_
 refine Qag hF rfl fun b1 ss2 hF => ?_
 have hF := hF.lit 62 12 (rws Hit.cells []) rfl
 refine go ?_
 obtain ⟨o16, ho16, H⟩ := bnd H
 refine Qum a0 a1 a2 [] 0 _ ho16 _ rfl _ _ b1 ?_ ?_ _ _ (.sl true (rws Hit.cells [])) S hF
 ·intro Kfl he T18 s19 e17v0 tT hF
  have he := he.symm
  subst he
  refine go ?_
  have e := pur H; subst e
  exact rt [e17v0]
 ·trivial
theorem Qyc : ∀ (a0 : Fm) (a1 : List Hit) r, Qjf a0 a1 = some r -> Qb0 Tryz.prog 306 [.agg (Fm.cells a0), sf Hit.cells a1] (.tup [.agg (Fm.cells r.1), .bool r.2]) := by
 refine Qjf.partial_correctness  (motive_1 := fun a0 a1 r => Qb0 Tryz.prog 306 [.agg (Fm.cells a0), sf Hit.cells a1] (.tup [.agg (Fm.cells r.1), .bool r.2])) (motive_2 := fun a0 a1 x45 Qac Qby Qbq out => ∀ c, Qam Tryz.f306 0 = some c -> ∀ (Q : AX -> AS -> Prop) (tt : Sto) (b1 : Nat) (b3 : Nat) (b12 : Nat), (∀ (Qbn : List Fm), out = Sum.inr Qbn -> ∀ (T : Nat -> AV) (ss : Sto) (e0v0 : AV), T 4 = .ptr b3 0 /\ T 7 = .ptr b12 0 -> Fx tt ss [(b12, ⟨26, 5, [i6 a0.kind, .str a0.name, i6 a0.num, sf cI x45, e0v0]⟩), (b3, ⟨26, 5, [i6 0, .str zB, i6 0, .Qab, .Qab]⟩), (b1, ⟨26, 5, [i6 a0.kind, .str a0.name, i6 a0.num, sf cI a0.sc, sf Fm.cells a0.kids]⟩)] [⟨e0v0, 26, 5, rws Fm.cells Qbn⟩] -> Q (.ex 0) ⟨T, ss⟩) -> (∀ r, out = Sum.inl r -> ∀ s', Qkk Tryz.prog [.cell 4 26, .tmp 5] (fun r' ss' => r' = .tup [.agg (Fm.cells r.1), .bool r.2] /\ ss' = tt) s' -> Q .ret s') -> ∀ (T : Nat -> AV) (ss : Sto) (z0v0 : AV), T 1 = sf Hit.cells a1 /\ T 2 = .ptr b1 0 /\ T 4 = .ptr b3 0 /\ T 7 = .ptr b12 0 /\ T 8 = i6 Qby /\ T 9 = i6 Qbq -> Fx tt ss [(b12, ⟨26, 5, [i6 a0.kind, .str a0.name, i6 a0.num, sf cI x45, z0v0]⟩), (b3, ⟨26, 5, [i6 0, .str zB, i6 0, .Qab, .Qab]⟩), (b1, ⟨26, 5, [i6 a0.kind, .str a0.name, i6 a0.num, sf cI a0.sc, sf Fm.cells a0.kids]⟩)] [⟨z0v0, 26, 5, rws Fm.cells Qac⟩] -> Qbr (Qbc Tryz.prog c) Q ⟨T, ss⟩) (motive_3 := fun a0 a1 x45 Qbq x74 Qi0 Qep Qir Qdx out => ∀ c, Qam Tryz.f306 1 = some c -> ∀ (Q : AX -> AS -> Prop) (tt : Sto) (b1 : Nat) (b3 : Nat) (b12 : Nat), (∀ (Q1r : List Fm) (Kaq : Int), out = Sum.inr (Q1r, Kaq) -> ∀ (T : Nat -> AV) (ss : Sto) (e1v0 : AV), T 1 = sf Hit.cells a1 /\ T 2 = .ptr b1 0 /\ T 4 = .ptr b3 0 /\ T 7 = .ptr b12 0 /\ T 8 = i6 Kaq /\ T 9 = i6 Qbq -> Fx tt ss [(b12, ⟨26, 5, [i6 a0.kind, .str a0.name, i6 a0.num, sf cI x45, e1v0]⟩), (b3, ⟨26, 5, [i6 0, .str zB, i6 0, .Qab, .Qab]⟩), (b1, ⟨26, 5, [i6 a0.kind, .str a0.name, i6 a0.num, sf cI a0.sc, sf Fm.cells a0.kids]⟩)] [⟨e1v0, 26, 5, rws Fm.cells Q1r⟩] -> Q (.ex 2) ⟨T, ss⟩) -> (∀ r, out = Sum.inl r -> ∀ s', Qkk Tryz.prog [.cell 4 26, .tmp 5] (fun r' ss' => r' = .tup [.agg (Fm.cells r.1), .bool r.2] /\ ss' = tt) s' -> Q .ret s') -> ∀ (T : Nat -> AV) (ss : Sto) (z1v0 : AV), T 1 = sf Hit.cells a1 /\ T 2 = .ptr b1 0 /\ T 4 = .ptr b3 0 /\ T 7 = .ptr b12 0 /\ T 8 = i6 Qdx /\ T 9 = i6 Qbq /\ T 10 = i6 Qi0 /\ T 11 = .bool x74 /\ T 12 = i6 Qir -> Fx tt ss [(b12, ⟨26, 5, [i6 a0.kind, .str a0.name, i6 a0.num, sf cI x45, z1v0]⟩), (b3, ⟨26, 5, [i6 0, .str zB, i6 0, .Qab, .Qab]⟩), (b1, ⟨26, 5, [i6 a0.kind, .str a0.name, i6 a0.num, sf cI a0.sc, sf Fm.cells a0.kids]⟩)] [⟨z1v0, 26, 5, rws Fm.cells Qep⟩] -> Qbr (Qbc Tryz.prog c) Q ⟨T, ss⟩) ?_ ?_ ?_
 ·intro Qdl L1 a0 a1 r H
  intro ss
  refine Qau mixed Tryz.func306 rfl (by kernel_rfl) (rs := [.cell 4 26, .tmp 5]) rfl (by kernel_rfl) ?_
  have hF := Fx.refl ss
  have hX := Tau.none ss
  have q := dum
  have tT := dum
  refine go ?_
  refine Qag hF rfl fun b1 ss2 hF => ?_
  refine go ?_
  refine Qag hF rfl fun b3 ss4 hF => ?_
  refine go ?_
  obtain ⟨Kcb, j6, H⟩ := bnd H
  refine Qca (fun s' => ∃ (T : Nat -> AV) (ss1 : Sto), s' = ⟨T, ss1⟩ /\ (T 1 = sf Hit.cells a1 /\ T 2 = .ptr b1 0 /\ T 4 = .ptr b3 0 /\ T 6 = i6 Kcb) /\ Fx ss ss1 [(b3, ⟨26, 5, [i6 0, .str zB, i6 0, .Qab, .Qab]⟩), (b1, ⟨26, 5, [i6 a0.kind, .str a0.name, i6 a0.num, sf cI a0.sc, sf Fm.cells a0.kids]⟩)] []) (cdp j6 (fun h j6 => ?_) (fun h j6 => ?_)) ?_
  ·refine go ?_
   obtain ⟨x21, hx21, j6⟩ := bnd j6
   refine cl (Qpk a1 a0 _ hx21) ?_
   refine go ?_
   have e := pur j6
   subst e
   exact ⟨_, _, rfl, S, hF⟩
  ·refine go ?_
   have e := pur j6
   subst e
   exact ⟨_, _, rfl, S, hF⟩
  ·rintro s' ⟨T7, s8, rfl, tT, hF⟩
   refine go ?_
   refine cdp H (fun h H => ?_) (fun h H => ?_)
   ·refine go ?_
    obtain ⟨E, hEq⟩ : ∃ E, E = EE s8 [b3] := ⟨_, rfl⟩
    have n10 : ¬ E b1 := by rw [hEq]; exact EE.not (hF.at 1 rfl) (by simp only [List.mem_cons, List.not_mem_nil, or_false, not_or]; exact neL hF 1 0 rfl rfl (by decide))
    refine Qaq E [.v, .v, .v, .v, .v, .v, .v, .v, .v, .v, .v, .v, .x, .v] (by kernel_rfl) ?_
    obtain ⟨x26, f1, H⟩ := bil (g := Hit.cells) Hit.Qad H
    have z := Qaf (hF.at 1 rfl) n10; refine gh1 ?_
    obtain ⟨x29, hx29, H⟩ := bnd H
    refine cv (Qh8 x26.one _ hx29) ?_
    obtain ⟨x32, f1, H⟩ := bil (g := Hit.cells) Hit.Qad H
    have z := Qaf (hF.at 1 rfl) n10; refine gh1 ?_
    refine stK hF 0 (by rw [hEq]; exact EE.of (by simp)) rfl fun s11 hF => ?_
    have z := Qaf (hF.at 1 rfl) n10; refine gh ?_
    refine go ?_
    have e := pur H; subst e
    exact rt [.agg [i6 x29.kind, .str x29.name, i6 x29.num, sf cI x29.sc, sf Fm.cells x29.kids], .bool (decide (x32.depth = 0))]
   ·refine go ?_
    refine Qaq E0 [.v, .v, .v, .v, .v, .v, .v, .v, .v, .v, .v, .x, .z] (by kernel_rfl) ?_
    refine go ?_
    obtain ⟨x45, hx45, H⟩ := bnd H
    refine Qzc (g := cI) (xs := []) (ys := a0.sc) (fun _ => rfl) (by decide) (by decide) (.inr (by first | rfl | simp only [Qb9, Qd3, cI, cU, cS, cL])) (.inr ⟨_, by first | rfl | simp only [Qb9, Qd3, cI, cU, cS, cL]⟩) hx45 ?_
    refine go ?_
    refine Qg4 hF rfl fun b12 s13 hF => ?_
    refine go ?_
    refine st hF 0 rfl fun s14 hF => ?_
    have hF := hF.nil 26 5
    refine go ?_
    obtain ⟨o42, ho42, H⟩ := bnd H
    refine L1 a0 a1 x45 [] 0 0 _ ho42 _ rfl _ _ b1 b3 b12 ?_ ?_ _ _ .Qab S hF
    ·intro Q48 he T44 s45 e43v0 tT hF
     have he := he.symm
     subst he
     dsimp only at H
     refine go ?_
     refine st hF 1 rfl fun s47 hF => ?_
     refine go ?_
     have e := pur H; subst e
     exact rt [.agg [i6 a0.kind, .str a0.name, i6 a0.num, sf cI x45, e43v0], .bool true]
    ·intro r hr s' hs
     subst hr
     have e := pur H; subst e
     first | exact hs | (try simp only [sf, i6, zB, Fm.Qaa, Xpn.Qaa, Cor.Qaa, Bnd.Qaa, Hit.Qaa, Rul.Qaa, Mac.Qaa, Stp.Qaa, Val.Qaa] at hs ⊢; exact hs)
 ·intro Qdl Qdm L1 L0 a0 a1 x45 Qac Qby Qbq out H c hc Q tt b1 b3 b12 hE hR T ss z0v0 tT hF
  obtain rfl := lpe (rfl : Qam Tryz.f306 0 = some _) hc
  refine Qah ?_
  have q := dum
  have hX := Tau.none tt
  refine go ?_
  refine cdp H (fun h H => ?_) (fun h H => ?_)
  ·obtain ⟨x57, f1, H⟩ := bil (g := Fm.cells) Fm.Qad H
   refine go1 ?_
   obtain ⟨x59, hx59, H⟩ := bnd H
   refine cl (Qb6 x57 _ hx59) ?_
   refine go ?_
   refine cdb H (fun h H => ?_) (fun h H => ?_)
   ·refine go ?_
    exact L1 a0 a1 x45 Qac Qby (i64.wrap (Qbq + 1)) _ H _ rfl Q tt b1 b3 b12 hE hR _ _ z0v0 S hF
   ·refine go ?_
    obtain ⟨x74, g15, H⟩ := bnd H
    refine Qai 7 67 74 (.bool x74) (gi q (fun q => ?_) (fun q => ?_)) (fun J => ?_)
    ·rw [if_pos (dt q)] at g15
     obtain ⟨x71, f1, g15⟩ := bil (g := Fm.cells) Fm.Qad g15
     refine go1 ?_
     obtain ⟨x73, hx73, g15⟩ := bnd g15
     refine cl (Qb6 x71 _ hx73) ?_
     refine go ?_
     exact Qaw 67 g15
    ·rw [if_neg (df q)] at g15
     refine go ?_
     exact Qaw 67 g15
    refine go ?_
    obtain ⟨Qi0, j18, H⟩ := bnd H
    refine Qca (fun s' => ∃ (T : Nat -> AV) (ss1 : Sto), s' = ⟨T, ss1⟩ /\ (T 1 = sf Hit.cells a1 /\ T 2 = .ptr b1 0 /\ T 4 = .ptr b3 0 /\ T 7 = .ptr b12 0 /\ T 8 = i6 Qby /\ T 9 = i6 Qbq /\ T 10 = i6 Qi0 /\ T 11 = .bool x74) /\ Fx tt ss1 [(b12, ⟨26, 5, [i6 a0.kind, .str a0.name, i6 a0.num, sf cI x45, z0v0]⟩), (b3, ⟨26, 5, [i6 0, .str zB, i6 0, .Qab, .Qab]⟩), (b1, ⟨26, 5, [i6 a0.kind, .str a0.name, i6 a0.num, sf cI a0.sc, sf Fm.cells a0.kids]⟩)] [⟨z0v0, 26, 5, rws Fm.cells Qac⟩]) (cdb j18 (fun h j18 => ?_) (fun h j18 => ?_)) ?_
    ·obtain ⟨x79, f1, j18⟩ := bil (g := Fm.cells) Fm.Qad j18
     refine go1 ?_
     obtain ⟨x82, hx82, j18⟩ := bnd j18
     refine cl (Qwq x79 a1 _ hx82) ?_
     refine go ?_
     have e := pur j18
     subst e
     exact ⟨_, _, rfl, S, hF⟩
    ·refine go ?_
     have e := pur j18
     subst e
     exact ⟨_, _, rfl, S, hF⟩
    ·rintro s' ⟨T19, s20, rfl, tT, hF⟩
     refine go ?_
     refine cdp H (fun h H => ?_) (fun h H => ?_)
     ·refine go ?_
      refine st hF 1 rfl fun s22 hF => ?_
      refine go ?_
      exact hR _ (pur H).symm _ (rt [.agg [i6 a0.kind, .str a0.name, i6 a0.num, sf cI a0.sc, sf Fm.cells a0.kids], .bool false])
     ·refine go ?_
      obtain ⟨o37, ho37, H⟩ := bnd H
      refine L0 a0 a1 x45 Qbq x74 Qi0 Qac 0 Qby _ ho37 _ rfl _ _ b1 b3 b12 ?_ ?_ _ _ z0v0 S hF
      ·intro Qpg Qv1 he T39 s40 e38v0 tT hF
       have he := he.symm
       subst he
       dsimp only at H
       refine go ?_
       exact L1 a0 a1 x45 Qpg Qv1 (i64.wrap (Qbq + 1)) _ H _ rfl Q tt b1 b3 b12 hE hR _ _ e38v0 S hF
      ·intro r hr s' hs
       subst hr
       exact hR _ (pur H).symm _ hs
  ·refine go ?_
   exact hE _ (pur H).symm _ _ z0v0 S hF
 ·intro Qjf Qdm C0 L0 a0 a1 x45 Qbq x74 Qi0 Qep Qir Qdx out H c hc Q tt b1 b3 b12 hE hR T ss z1v0 tT hF
  obtain rfl := lpe (rfl : Qam Tryz.f306 1 = some _) hc
  refine Qah ?_
  have q := dum
  have hX := Tau.none tt
  refine go ?_
  refine cdp H (fun h H => ?_) (fun h H => ?_)
  ·refine go ?_
   obtain ⟨Q0t, j24, H⟩ := bnd H
   refine Qca (fun s' => ∃ (T : Nat -> AV) (ss1 : Sto), s' = ⟨T, ss1⟩ /\ (T 1 = sf Hit.cells a1 /\ T 2 = .ptr b1 0 /\ T 4 = .ptr b3 0 /\ T 7 = .ptr b12 0 /\ T 8 = i6 Qdx /\ T 9 = i6 Qbq /\ T 10 = i6 Qi0 /\ T 11 = .bool x74 /\ T 12 = i6 Qir /\ T 13 = sf Hit.cells Q0t) /\ Fx tt ss1 [(b12, ⟨26, 5, [i6 a0.kind, .str a0.name, i6 a0.num, sf cI x45, z1v0]⟩), (b3, ⟨26, 5, [i6 0, .str zB, i6 0, .Qab, .Qab]⟩), (b1, ⟨26, 5, [i6 a0.kind, .str a0.name, i6 a0.num, sf cI a0.sc, sf Fm.cells a0.kids]⟩)] [⟨z1v0, 26, 5, rws Fm.cells Qep⟩]) (cdb j24 (fun h j24 => ?_) (fun h j24 => ?_)) ?_
   ·obtain ⟨x96, f1, j24⟩ := bil (g := Fm.cells) Fm.Qad j24
    refine go1 ?_
    obtain ⟨x100, hx100, j24⟩ := bnd j24
    refine cl (Q0k x96 a1 Qir _ hx100) ?_
    refine go ?_
    have e := pur j24
    subst e
    exact ⟨_, _, rfl, S, hF⟩
   ·refine go ?_
    have e := pur j24
    subst e
    exact ⟨_, _, rfl, S, hF⟩
   ·rintro s' ⟨T25, s26, rfl, tT, hF⟩
    obtain ⟨x105, f1, H⟩ := bil (g := Fm.cells) Fm.Qad H
    refine go1 ?_
    obtain ⟨x108, hx108, H⟩ := bnd H
    refine cl (C0 x105 Q0t _ hx108) ?_
    refine go ?_
    refine Qag hF rfl fun b28 s29 hF => ?_
    refine go ?_
    refine st hF 0 rfl fun s30 hF => ?_
    refine go ?_
    obtain ⟨x113, hx113, H⟩ := bnd H
    refine cl (Qoi x108.1 _ hx113) ?_
    refine go ?_
    obtain ⟨x120, g31, H⟩ := bnd H
    refine Qai 2 118 120 (.bool x120) (giN q (fun q => ?_) (fun q => ?_)) (fun J => ?_)
    ·refine go ?_
     exact Qaw 118 g31
    ·refine go ?_
     exact Qaw 118 g31
    refine go ?_
    refine cdb H (fun h H => ?_) (fun h H => ?_)
    ·refine go ?_
     refine st hF 2 rfl fun s33 hF => ?_
     refine go ?_
     exact hR _ (pur H).symm _ (rt [.agg [i6 a0.kind, .str a0.name, i6 a0.num, sf cI a0.sc, sf Fm.cells a0.kids], .bool false])
    ·refine go ?_
     refine apd (g := Fm.cells) hF 0 H (rdo (c := true) (g := Fm.cells) Fm.Qad) fun x126 H v34 s35 hF => ?_
     refine go ?_
     refine st hF 1 (hF.cells 0 rfl) fun s36 hF => ?_
     refine go ?_
     exact L0 a0 a1 x45 Qbq x74 Qi0 x126 (i64.wrap (Qir + 1)) (i64.wrap (Qdx + x113)) _ H _ rfl Q tt b1 b3 b12 hE hR _ _ v34 S (hF.drop 1 0)
  ·refine go ?_
   exact hE _ _ (pur H).symm _ _ z1v0 S hF
theorem Qq3 : ∀ (a0 : List Bnd) (a1 : List Rul) (a2 : List Fm) (a3 : Fm) r, Qii a0 a1 a2 a3 = some r -> Qb0 Tryz.prog 298 [sf Bnd.cells a0, sf Rul.cells a1, sf Fm.cells a2, .agg (Fm.cells a3)] (.tup [.agg (Fm.cells r.1), .bool r.2]) := by
 intro a0 a1 a2 a3 r H
 intro ss
 unfold Qii at H
 refine Qau mixed Tryz.func298 rfl (by kernel_rfl) (rs := [.cell 8 26, .tmp 9]) rfl (by kernel_rfl) ?_
 have hF := Fx.refl ss
 have hX := Tau.none ss
 have q := dum
 have tT := dum
 refine go ?_
 refine Qag hF rfl fun b1 ss2 hF => ?_
 refine go ?_
 refine Qag hF rfl fun b3 ss4 hF => ?_
 refine go ?_
 obtain ⟨x17, hx17, H⟩ := bnd H
 refine cl (Qnx a1 _ hx17) ?_
 refine go ?_
 obtain ⟨x23, hx23, H⟩ := bnd H
 refine cl (Qmp a0 x17 a2 a3 _ hx23) ?_
 refine go ?_
 refine cdb H (fun h H => ?_) (fun h H => ?_)
 ·refine go ?_
  refine st hF 0 rfl fun ss5 hF => ?_
  refine go ?_
  have e := pur H; subst e
  exact rt [.agg [i6 0, .str zB, i6 0, .Qab, .Qab], .bool false]
 ·refine go ?_
  refine Qaq E0 [.v, .v, .v, .v, .v, .v, .v, .v, .v, .v, .v, .v, .v, .v] (by kernel_rfl) ?_
  obtain ⟨x33, f1, H⟩ := bil (g := Rul.cells) Rul.Qad H
  refine go1 ?_
  obtain ⟨x38, hx38, H⟩ := bnd H
  refine cv (Qoo a0 x33.pat a2 a3 _ hx38) ?_
  obtain ⟨x44, f1, H⟩ := bil (g := Rul.cells) Rul.Qad H
  refine go1 ?_
  obtain ⟨x48, hx48, H⟩ := bnd H
  refine cl (Qyc x44.tpl x38.1 _ hx48) ?_
  refine go ?_
  refine Qag hF rfl fun b6 s7 hF => ?_
  refine go ?_
  refine st hF 0 rfl fun s8 hF => ?_
  refine go ?_
  obtain ⟨x57, g9, H⟩ := bnd H
  refine Qai 3 54 57 (.bool x57) (giN q (fun q => ?_) (fun q => ?_)) (fun J => ?_)
  ·rw [if_neg (dbf q)] at g9
   refine go ?_
   obtain ⟨x55, hx55, g9⟩ := bnd g9
   refine cl (Qbe x48.1 _ hx55) ?_
   refine go ?_
   exact Qaw 54 g9
  ·rw [if_pos (dbt q)] at g9
   refine go ?_
   exact Qaw 54 g9
  refine go ?_
  refine cdb H (fun h H => ?_) (fun h H => ?_)
  ·refine go ?_
   refine st hF 1 rfl fun s11 hF => ?_
   refine go ?_
   have e := pur H; subst e
   exact rt [.agg [i6 0, .str zB, i6 0, .Qab, .Qab], .bool false]
  ·refine go ?_
   refine st hF 1 rfl fun s12 hF => ?_
   refine go ?_
   have e := pur H; subst e
   exact rt [.agg [i6 x48.1.kind, .str x48.1.name, i6 x48.1.num, sf cI x48.1.sc, sf Fm.cells x48.1.kids], .bool true]
theorem Qyo : ∀ (a0 : Xpn) (a1 : Fm) (a2 : Int) (a3 : Int) r, Qlj a0 a1 a2 a3 = some r -> Qb0 Tryz.prog 272 [.agg (Xpn.cells a0), .agg (Fm.cells a1), i6 a2, i6 a3] (.tup [.agg (Xpn.cells r.1), .agg (Fm.cells r.2.1), i6 r.2.2]) := by
 intro a0 a1 a2 a3 r H
 intro ss
 unfold Qlj at H
 refine Qau mixed Tryz.func272 rfl (by kernel_rfl) (rs := [.cell 8 203, .cell 9 26, .tmp 10]) rfl (by kernel_rfl) ?_
 have hF := Fx.refl ss
 have hX := Tau.none ss
 have q := dum
 have tT := dum
 refine go ?_
 refine Qag hF rfl fun b1 ss2 hF => ?_
 refine go ?_
 refine Qag hF rfl fun b3 ss4 hF => ?_
 refine go ?_
 refine Qag hF rfl fun b5 ss6 hF => ?_
 refine go ?_
 refine Qag hF rfl fun b7 s8 hF => ?_
 refine go ?_
 refine cdp H (fun h H => ?_) (fun h H => ?_)
 ·refine go ?_
  refine st hF 1 rfl fun s9 hF => ?_
  refine go ?_
  refine st hF 0 rfl fun s10 hF => ?_
  refine go ?_
  have e := pur H; subst e
  exact rt [.agg [sf Bnd.cells a0.binds, sf Mac.cells a0.macs, i6 a0.scope, i6 a0.id, i6 a0.steps], .agg [i6 0, .str zB, i6 0, .Qab, .Qab], i6 4]
 ·refine go ?_
  obtain ⟨x27, hx27, H⟩ := bnd H
  refine cl (Qli a0 _ hx27) ?_
  refine go ?_
  refine st hF 3 rfl fun s11 hF => ?_
  refine go ?_
  refine cdb H (fun h H => ?_) (fun h H => ?_)
  ·refine go ?_
   refine st hF 1 rfl fun s12 hF => ?_
   refine go ?_
   refine st hF 0 rfl fun s13 hF => ?_
   refine go ?_
   have e := pur H; subst e
   exact rt [.agg [sf Bnd.cells x27.1.binds, sf Mac.cells x27.1.macs, i6 x27.1.scope, i6 x27.1.id, i6 x27.1.steps], .agg [i6 0, .str zB, i6 0, .Qab, .Qab], i6 4]
  ·refine go ?_
   refine st hF 3 rfl fun s14 hF => ?_
   refine go ?_
   refine Qaq E0 [.v, .v, .v, .v, .v, .v, .v, .x, .z] (by kernel_rfl) ?_
   refine go ?_
   obtain ⟨x42, hx42, H⟩ := bnd H
   refine cv (Qos (Xpn.mk x27.1.binds x27.1.macs x27.1.scope x27.1.id (i64.wrap (x27.1.steps + 1))) a2 _ hx42) ?_
   obtain ⟨x43, f1, H⟩ := bil (g := Mac.cells) Mac.Qad H
   refine go1 ?_
   refine Qg4 hF rfl fun b15 s16 hF => ?_
   refine go ?_
   refine st hF 0 rfl fun s17 hF => ?_
   refine go ?_
   obtain ⟨x48, hx48, H⟩ := bnd H
   refine cl (Qev a1 x27.1.scope 1 _ hx48) ?_
   refine go ?_
   refine Qag hF rfl fun b18 s19 hF => ?_
   refine go ?_
   refine st hF 0 rfl fun s20 hF => ?_
   refine go ?_
   obtain ⟨x50, hx50, H⟩ := bnd H
   refine cl (Qbe x48 _ hx50) ?_
   refine go ?_
   refine cdb H (fun h H => ?_) (fun h H => ?_)
   ·refine go ?_
    refine st hF 3 rfl fun s21 hF => ?_
    refine go ?_
    refine st hF 2 rfl fun s22 hF => ?_
    refine go ?_
    have e := pur H; subst e
    exact rt [.agg [sf Bnd.cells x27.1.binds, sf Mac.cells x27.1.macs, i6 x27.1.scope, i6 x27.1.id, i6 (i64.wrap (x27.1.steps + 1))], .agg [i6 0, .str zB, i6 0, .Qab, .Qab], i6 4]
   ·refine go ?_
    obtain ⟨x62, hx62, H⟩ := bnd H
    refine cl (Qmp x27.1.binds x43.rules x43.lits x48 _ hx62) ?_
    refine go ?_
    refine cdb H (fun h H => ?_) (fun h H => ?_)
    ·refine go ?_
     refine st hF 3 rfl fun s23 hF => ?_
     refine go ?_
     refine st hF 2 rfl fun s24 hF => ?_
     refine go ?_
     have e := pur H; subst e
     exact rt [.agg [sf Bnd.cells x27.1.binds, sf Mac.cells x27.1.macs, i6 x27.1.scope, i6 x27.1.id, i6 (i64.wrap (x27.1.steps + 1))], .agg [i6 0, .str zB, i6 0, .Qab, .Qab], i6 3]
    ·refine go ?_
     obtain ⟨x77, hx77, H⟩ := bnd H
     refine cl (Qq3 x27.1.binds x43.rules x43.lits x48 _ hx77) ?_
     refine go ?_
     refine Qag hF rfl fun b25 s26 hF => ?_
     refine go ?_
     refine st hF 0 rfl fun s27 hF => ?_
     refine go ?_
     refine cdb H (fun h H => ?_) (fun h H => ?_)
     ·refine go ?_
      refine st hF 4 rfl fun s28 hF => ?_
      refine go ?_
      refine st hF 3 rfl fun s29 hF => ?_
      refine go ?_
      have e := pur H; subst e
      exact rt [.agg [sf Bnd.cells x27.1.binds, sf Mac.cells x27.1.macs, i6 x27.1.scope, i6 x27.1.id, i6 (i64.wrap (x27.1.steps + 1))], .agg [i6 0, .str zB, i6 0, .Qab, .Qab], i6 4]
     ·refine go ?_
      obtain ⟨x87, hx87, H⟩ := bnd H
      refine cl (Qev x77.1 x27.1.scope 1 _ hx87) ?_
      refine go ?_
      refine Qag hF rfl fun b30 s31 hF => ?_
      refine go ?_
      refine st hF 0 rfl fun s32 hF => ?_
      refine go ?_
      obtain ⟨x89, hx89, H⟩ := bnd H
      refine cl (Qbe x87 _ hx89) ?_
      refine go ?_
      refine cdb H (fun h H => ?_) (fun h H => ?_)
      ·refine go ?_
       refine st hF 5 rfl fun s33 hF => ?_
       refine go ?_
       refine st hF 4 rfl fun s34 hF => ?_
       refine go ?_
       have e := pur H; subst e
       exact rt [.agg [sf Bnd.cells x27.1.binds, sf Mac.cells x27.1.macs, i6 x27.1.scope, i6 x27.1.id, i6 (i64.wrap (x27.1.steps + 1))], .agg [i6 0, .str zB, i6 0, .Qab, .Qab], i6 4]
      ·refine go ?_
       obtain ⟨E, hEq⟩ : ∃ E, E = EE s32 [b5, b7] := ⟨_, rfl⟩
       have n35 : ¬ E b30 := by rw [hEq]; exact EE.not (hF.at 0 rfl) (by simp only [List.mem_cons, List.not_mem_nil, or_false, not_or]; exact ⟨neL hF 0 5 rfl rfl (by decide), neL hF 0 4 rfl rfl (by decide)⟩)
       have n36 : ¬ E b25 := by rw [hEq]; exact EE.not (hF.at 1 rfl) (by simp only [List.mem_cons, List.not_mem_nil, or_false, not_or]; exact ⟨neL hF 1 5 rfl rfl (by decide), neL hF 1 4 rfl rfl (by decide)⟩)
       have n37 : ¬ E b18 := by rw [hEq]; exact EE.not (hF.at 2 rfl) (by simp only [List.mem_cons, List.not_mem_nil, or_false, not_or]; exact ⟨neL hF 2 5 rfl rfl (by decide), neL hF 2 4 rfl rfl (by decide)⟩)
       have n38 : ¬ E b15 := by rw [hEq]; exact EE.not (hF.at 3 rfl) (by simp only [List.mem_cons, List.not_mem_nil, or_false, not_or]; exact ⟨neL hF 3 5 rfl rfl (by decide), neL hF 3 4 rfl rfl (by decide)⟩)
       have n39 : ¬ E b3 := by rw [hEq]; exact EE.not (hF.at 6 rfl) (by simp only [List.mem_cons, List.not_mem_nil, or_false, not_or]; exact ⟨neL hF 6 5 rfl rfl (by decide), neL hF 6 4 rfl rfl (by decide)⟩)
       have n40 : ¬ E b1 := by rw [hEq]; exact EE.not (hF.at 7 rfl) (by simp only [List.mem_cons, List.not_mem_nil, or_false, not_or]; exact ⟨neL hF 7 5 rfl rfl (by decide), neL hF 7 4 rfl rfl (by decide)⟩)
       refine Qaq E [.v, .v, .x, .x, .v] (by kernel_rfl) ?_
       have z := And.intro (Qaf (hF.at 0 rfl) n35) (And.intro (Qaf (hF.at 1 rfl) n36) (And.intro (Qaf (hF.at 2 rfl) n37) (And.intro (Qaf (hF.at 3 rfl) n38) (And.intro (Qaf (hF.at 6 rfl) n39) (Qaf (hF.at 7 rfl) n40))))); refine gh ?_
       refine stK hF 5 (by rw [hEq]; exact EE.of (by simp)) rfl fun s41 hF => ?_
       have z := And.intro (Qaf (hF.at 0 rfl) n35) (And.intro (Qaf (hF.at 1 rfl) n36) (And.intro (Qaf (hF.at 2 rfl) n37) (And.intro (Qaf (hF.at 3 rfl) n38) (And.intro (Qaf (hF.at 6 rfl) n39) (Qaf (hF.at 7 rfl) n40))))); refine gh ?_
       refine stK hF 4 (by rw [hEq]; exact EE.of (by simp)) rfl fun s42 hF => ?_
       have z := And.intro (Qaf (hF.at 0 rfl) n35) (And.intro (Qaf (hF.at 1 rfl) n36) (And.intro (Qaf (hF.at 2 rfl) n37) (And.intro (Qaf (hF.at 3 rfl) n38) (And.intro (Qaf (hF.at 6 rfl) n39) (Qaf (hF.at 7 rfl) n40))))); refine gh ?_
       refine go ?_
       have e := pur H; subst e
       exact rt [.agg [sf Bnd.cells x27.1.binds, sf Mac.cells x27.1.macs, i6 x27.1.scope, i6 x27.1.id, i6 (i64.wrap (x27.1.steps + 1))], .agg [i6 x87.kind, .str x87.name, i6 x87.num, sf cI x87.sc, sf Fm.cells x87.kids], i6 0]
theorem Quu : ∀ (a1 : List Fm) (a2 : Fm) (a3 : Int) (Qax : List Bnd) (Qay : List Mac) (Qav : Int) (Qaz : Int) (Qa0 : Int) (Qac : List Int) (Qh5 : Int) out, Qe7 a1 a2 a3 Qax Qay Qav Qaz Qa0 Qac Qh5 = some out -> ∀ c, Qam Tryz.f292 0 = some c -> ∀ (Q : AX -> AS -> Prop) (tt : Sto) (b1 : Nat) (b3 : Nat) (b5 : Nat) (b7 : Nat) (b12 : Nat), (∀ (Qnz : List Bnd) (Qn0 : List Mac) (Qn1 : Int) (Qn2 : Int) (Qn3 : Int) (Qbn : List Int), out = Sum.inr (Qnz, Qn0, Qn1, Qn2, Qn3, Qbn) -> ∀ (T : Nat -> AV) (ss : Sto) (e0v0 : AV), T 3 = i6 a3 /\ T 4 = .ptr b1 0 /\ T 6 = .ptr b3 0 /\ T 8 = .ptr b5 0 /\ T 9 = .ptr b7 0 /\ T 12 = .ptr b12 0 -> Fx tt ss [(b12, ⟨31, 11, [i6 5, i6 0, .str zB, i6 0, e0v0, i6 0, .str zB, i6 0, .Qab, .Qab, .Qab]⟩), (b7, ⟨31, 11, [i6 0, i6 0, .str zB, i6 0, .Qab, i6 0, .str zB, i6 0, .Qab, .Qab, .Qab]⟩), (b5, ⟨203, 5, [.Qab, .Qab, i6 0, i6 0, i6 0]⟩), (b3, ⟨26, 5, [i6 a2.kind, .str a2.name, i6 a2.num, sf cI a2.sc, sf Fm.cells a2.kids]⟩), (b1, ⟨203, 5, [sf Bnd.cells Qnz, sf Mac.cells Qn0, i6 Qn1, i6 Qn2, i6 Qn3]⟩)] [⟨e0v0, 3, 1, rws cI Qbn⟩] -> Q (.ex 0) ⟨T, ss⟩) -> (∀ r, out = Sum.inl r -> ∀ s', Qkk Tryz.prog [.cell 8 203, .cell 9 31, .tmp 10] (fun r' ss' => r' = .tup [.agg (Xpn.cells r.1), .agg (Cor.cells r.2.1), i6 r.2.2] /\ ss' = tt) s' -> Q .ret s') -> ∀ (T : Nat -> AV) (ss : Sto) (z0v0 : AV), T 1 = sf Fm.cells a1 /\ T 3 = i6 a3 /\ T 4 = .ptr b1 0 /\ T 6 = .ptr b3 0 /\ T 8 = .ptr b5 0 /\ T 9 = .ptr b7 0 /\ T 12 = .ptr b12 0 /\ T 13 = i6 Qh5 -> Fx tt ss [(b12, ⟨31, 11, [i6 5, i6 0, .str zB, i6 0, z0v0, i6 0, .str zB, i6 0, .Qab, .Qab, .Qab]⟩), (b7, ⟨31, 11, [i6 0, i6 0, .str zB, i6 0, .Qab, i6 0, .str zB, i6 0, .Qab, .Qab, .Qab]⟩), (b5, ⟨203, 5, [.Qab, .Qab, i6 0, i6 0, i6 0]⟩), (b3, ⟨26, 5, [i6 a2.kind, .str a2.name, i6 a2.num, sf cI a2.sc, sf Fm.cells a2.kids]⟩), (b1, ⟨203, 5, [sf Bnd.cells Qax, sf Mac.cells Qay, i6 Qav, i6 Qaz, i6 Qa0]⟩)] [⟨z0v0, 3, 1, rws cI Qac⟩] -> Qbr (Qbc Tryz.prog c) Q ⟨T, ss⟩ := by
 intro a1 a2 a3 Qax Qay Qav Qaz Qa0 Qac Qh5
 revert Qax Qay Qav Qaz Qa0 Qac Qh5
 refine Qe7.partial_correctness a1 a2 a3 _ ?_
 intro Qe7 IH Qax Qay Qav Qaz Qa0 Qac Qh5 out H c hc Q tt b1 b3 b5 b7 b12 hE hR T ss z0v0 tT hF
 obtain rfl := lpe (rfl : Qam Tryz.f292 0 = some _) hc
 refine Qah ?_
 have q := dum
 have hX := Tau.none tt
 refine go ?_
 refine cdp H (fun h H => ?_) (fun h H => ?_)
 ·obtain ⟨x38, f1, H⟩ := bil (g := Fm.cells) Fm.Qad H
  refine go1 ?_
  refine go ?_
  refine cdn H (fun h H => ?_) (fun h H => ?_)
  ·refine go ?_
   refine st hF 2 rfl fun s15 hF => ?_
   refine go ?_
   refine st hF 1 rfl fun s16 hF => ?_
   refine go ?_
   exact hR _ (pur H).symm _ (rt [.agg [sf Bnd.cells Qax, sf Mac.cells Qay, i6 Qav, i6 Qaz, i6 Qa0], .agg [i6 0, i6 0, .str zB, i6 0, .Qab, i6 0, .str zB, i6 0, .Qab, .Qab, .Qab], i6 1])
  ·refine go ?_
   refine Qaq E0 [.v, .v, .v, .v, .v, .v, .v, .x, .z] (by kernel_rfl) ?_
   obtain ⟨x46, f1, H⟩ := bil (g := Fm.cells) Fm.Qad H
   refine go1 ?_
   obtain ⟨x50, hx50, H⟩ := bnd H
   refine cv (Qev x46 Qav 0 _ hx50) ?_
   refine go ?_
   refine Qg4 hF rfl fun b17 s18 hF => ?_
   refine go ?_
   refine st hF 0 rfl fun s19 hF => ?_
   refine go ?_
   obtain ⟨x52, hx52, H⟩ := bnd H
   refine cl (Qbe x50 _ hx52) ?_
   refine go ?_
   refine cdb H (fun h H => ?_) (fun h H => ?_)
   ·refine go ?_
    refine st hF 3 rfl fun s20 hF => ?_
    refine go ?_
    refine st hF 2 rfl fun s21 hF => ?_
    refine go ?_
    exact hR _ (pur H).symm _ (rt [.agg [sf Bnd.cells Qax, sf Mac.cells Qay, i6 Qav, i6 Qaz, i6 Qa0], .agg [i6 0, i6 0, .str zB, i6 0, .Qab, i6 0, .str zB, i6 0, .Qab, .Qab, .Qab], i6 4])
   ·refine go ?_
    obtain ⟨x59, hx59, H⟩ := bnd H
    refine cl (Qpn (Xpn.mk Qax Qay Qav Qaz Qa0) x50 _ hx59) ?_
    refine go ?_
    refine Qag hF rfl fun b22 s23 hF => ?_
    refine go ?_
    refine st hF 0 rfl fun s24 hF => ?_
    refine go ?_
    refine st hF 6 rfl fun s25 hF => ?_
    refine go ?_
    refine cdn H (fun h H => ?_) (fun h H => ?_)
    ·refine go ?_
     refine st hF 4 rfl fun s26 hF => ?_
     refine go ?_
     refine st hF 3 rfl fun s27 hF => ?_
     refine go ?_
     exact hR _ (pur H).symm _ (rt [.agg [sf Bnd.cells x59.1.binds, sf Mac.cells x59.1.macs, i6 x59.1.scope, i6 x59.1.id, i6 x59.1.steps], .agg [i6 0, i6 0, .str zB, i6 0, .Qab, i6 0, .str zB, i6 0, .Qab, .Qab, .Qab], i6 x59.2])
    ·refine go ?_
     refine apd (g := cI) hF 0 H (rdo (c := true) (g := cI) (fun _ => rfl)) fun x73 H v28 s29 hF => ?_
     refine go ?_
     refine st hF 2 (hF.cells 0 rfl) fun s30 hF => ?_
     refine go ?_
     exact IH  x59.1.binds x59.1.macs x59.1.scope x59.1.id x59.1.steps x73 (i64.wrap (Qh5 + 1)) _ H _ rfl Q tt b1 b3 b5 b7 b12 hE hR _ _ v28 S (hF.drop 2 0)
 ·refine go ?_
  exact hE _ _ _ _ _ _ (pur H).symm _ _ z0v0 S hF
theorem Qqf : ∀ (a1 : List Fm) (a2 : List Fm) (a3 : Fm) (a4 : Int) (Qax : List Bnd) (Qay : List Mac) (Qav : Int) (Qaz : Int) (Qa0 : Int) (Qkp : Int) out, Qc3 a1 a2 a3 a4 Qax Qay Qav Qaz Qa0 Qkp = some out -> ∀ c, Qam Tryz.f269 0 = some c -> ∀ (Q : AX -> AS -> Prop) (tt : Sto) (b1 : Nat) (b3 : Nat) (b5 : Nat) (b7 : Nat), (∀ (Qnz : List Bnd) (Qn0 : List Mac) (Qn1 : Int) (Qn2 : Int) (Qn3 : Int), out = Sum.inr (Qnz, Qn0, Qn1, Qn2, Qn3) -> ∀ (T : Nat -> AV) (ss : Sto), T 4 = i6 a4 /\ T 5 = .ptr b1 0 /\ T 8 = .ptr b3 0 /\ T 10 = .ptr b5 0 /\ T 11 = .ptr b7 0 -> Fx tt ss [(b7, ⟨31, 11, [i6 0, i6 0, .str zB, i6 0, .Qab, i6 0, .str zB, i6 0, .Qab, .Qab, .Qab]⟩), (b5, ⟨203, 5, [.Qab, .Qab, i6 0, i6 0, i6 0]⟩), (b3, ⟨26, 5, [i6 a3.kind, .str a3.name, i6 a3.num, sf cI a3.sc, sf Fm.cells a3.kids]⟩), (b1, ⟨203, 5, [sf Bnd.cells Qnz, sf Mac.cells Qn0, i6 Qn1, i6 Qn2, i6 Qn3]⟩)] [] -> Q (.ex 0) ⟨T, ss⟩) -> (∀ r, out = Sum.inl r -> ∀ s', Qkk Tryz.prog [.cell 10 203, .cell 11 31, .tmp 12] (fun r' ss' => r' = .tup [.agg (Xpn.cells r.1), .agg (Cor.cells r.2.1), i6 r.2.2] /\ ss' = tt) s' -> Q .ret s') -> ∀ (T : Nat -> AV) (ss : Sto), T 1 = sf Fm.cells a1 /\ T 2 = sf Fm.cells a2 /\ T 4 = i6 a4 /\ T 5 = .ptr b1 0 /\ T 8 = .ptr b3 0 /\ T 10 = .ptr b5 0 /\ T 11 = .ptr b7 0 /\ T 14 = i6 Qkp -> Fx tt ss [(b7, ⟨31, 11, [i6 0, i6 0, .str zB, i6 0, .Qab, i6 0, .str zB, i6 0, .Qab, .Qab, .Qab]⟩), (b5, ⟨203, 5, [.Qab, .Qab, i6 0, i6 0, i6 0]⟩), (b3, ⟨26, 5, [i6 a3.kind, .str a3.name, i6 a3.num, sf cI a3.sc, sf Fm.cells a3.kids]⟩), (b1, ⟨203, 5, [sf Bnd.cells Qax, sf Mac.cells Qay, i6 Qav, i6 Qaz, i6 Qa0]⟩)] [] -> Qbr (Qbc Tryz.prog c) Q ⟨T, ss⟩ := by
 intro a1 a2 a3 a4 Qax Qay Qav Qaz Qa0 Qkp
 revert Qax Qay Qav Qaz Qa0 Qkp
 refine Qc3.partial_correctness a1 a2 a3 a4 _ ?_
 intro Qc3 IH Qax Qay Qav Qaz Qa0 Qkp out H c hc Q tt b1 b3 b5 b7 hE hR T ss tT hF
 obtain rfl := lpe (rfl : Qam Tryz.f269 0 = some _) hc
 refine Qah ?_
 have q := dum
 have hX := Tau.none tt
 refine go ?_
 refine cdp H (fun h H => ?_) (fun h H => ?_)
 ·refine go ?_
  refine Qaq E0 [.v, .v, .v, .v, .v, .v, .v, .x, .z] (by kernel_rfl) ?_
  obtain ⟨x40, f1, H⟩ := bil (g := Fm.cells) Fm.Qad H
  refine go1 ?_
  obtain ⟨x44, hx44, H⟩ := bnd H
  refine cv (Qev x40 Qav 0 _ hx44) ?_
  refine go ?_
  refine Qg4 hF rfl fun b12 s13 hF => ?_
  refine go ?_
  refine st hF 0 rfl fun s14 hF => ?_
  refine go ?_
  refine Qaq E0 [.v, .v, .v, .v, .v, .v, .v, .x, .z] (by kernel_rfl) ?_
  obtain ⟨x47, f1, H⟩ := bil (g := Fm.cells) Fm.Qad H
  refine go1 ?_
  obtain ⟨x51, hx51, H⟩ := bnd H
  refine cv (Qev x47 Qav 0 _ hx51) ?_
  refine go ?_
  refine Qg4 hF rfl fun b15 s16 hF => ?_
  refine go ?_
  refine st hF 0 rfl fun s17 hF => ?_
  obtain ⟨x54, f1, H⟩ := bil (g := Fm.cells) Fm.Qad H
  refine go1 ?_
  refine go ?_
  refine cdn H (fun h H => ?_) (fun h H => ?_)
  ·refine go ?_
   refine st hF 3 rfl fun s18 hF => ?_
   refine go ?_
   refine st hF 2 rfl fun s19 hF => ?_
   refine go ?_
   exact hR _ (pur H).symm _ (rt [.agg [sf Bnd.cells Qax, sf Mac.cells Qay, i6 Qav, i6 Qaz, i6 Qa0], .agg [i6 0, i6 0, .str zB, i6 0, .Qab, i6 0, .str zB, i6 0, .Qab, .Qab, .Qab], i6 1])
  ·refine go ?_
   obtain ⟨x61, hx61, H⟩ := bnd H
   refine cl (Qbe x44 _ hx61) ?_
   refine go ?_
   obtain ⟨x67, g20, H⟩ := bnd H
   refine Qai 3 64 67 (.bool x67) (giN q (fun q => ?_) (fun q => ?_)) (fun J => ?_)
   ·rw [if_neg (dbf q)] at g20
    refine go ?_
    obtain ⟨x65, hx65, g20⟩ := bnd g20
    refine cl (Qbe x51 _ hx65) ?_
    refine go ?_
    exact Qaw 64 g20
   ·rw [if_pos (dbt q)] at g20
    refine go ?_
    exact Qaw 64 g20
   refine go ?_
   refine cdb H (fun h H => ?_) (fun h H => ?_)
   ·refine go ?_
    refine st hF 3 rfl fun s22 hF => ?_
    refine go ?_
    refine st hF 2 rfl fun s23 hF => ?_
    refine go ?_
    exact hR _ (pur H).symm _ (rt [.agg [sf Bnd.cells Qax, sf Mac.cells Qay, i6 Qav, i6 Qaz, i6 Qa0], .agg [i6 0, i6 0, .str zB, i6 0, .Qab, i6 0, .str zB, i6 0, .Qab, .Qab, .Qab], i6 4])
   ·refine go ?_
    obtain ⟨x72, hx72, H⟩ := bnd H
    refine cl (Qq6 x51 _ hx72) ?_
    refine go ?_
    refine cdb H (fun h H => ?_) (fun h H => ?_)
    ·refine go ?_
     refine st hF 3 rfl fun s24 hF => ?_
     refine go ?_
     refine st hF 2 rfl fun s25 hF => ?_
     refine go ?_
     exact hR _ (pur H).symm _ (rt [.agg [sf Bnd.cells Qax, sf Mac.cells Qay, i6 Qav, i6 Qaz, i6 Qa0], .agg [i6 0, i6 0, .str zB, i6 0, .Qab, i6 0, .str zB, i6 0, .Qab, .Qab, .Qab], i6 1])
    ·refine go ?_
     obtain ⟨x83, hx83, H⟩ := bnd H
     refine cl (Qpn (Xpn.mk Qax Qay Qav Qaz Qa0) x44 _ hx83) ?_
     refine go ?_
     refine Qag hF rfl fun b26 s27 hF => ?_
     refine go ?_
     refine st hF 0 rfl fun s28 hF => ?_
     refine go ?_
     refine st hF 6 rfl fun s29 hF => ?_
     refine go ?_
     refine cdn H (fun h H => ?_) (fun h H => ?_)
     ·refine go ?_
      refine st hF 4 rfl fun s30 hF => ?_
      refine go ?_
      refine st hF 3 rfl fun s31 hF => ?_
      refine go ?_
      exact hR _ (pur H).symm _ (rt [.agg [sf Bnd.cells x83.1.binds, sf Mac.cells x83.1.macs, i6 x83.1.scope, i6 x83.1.id, i6 x83.1.steps], .agg [i6 0, i6 0, .str zB, i6 0, .Qab, i6 0, .str zB, i6 0, .Qab, .Qab, .Qab], i6 x83.2])
     ·refine go ?_
      refine Qqn E0 [.v, .v, .v, .v, .v, .v, .v, .v, .v, .x, .x, .v, .z] [0, 1, 2, 4, 5, 6, 7, 8, 9, 3, 10, 11, 12] (by kernel_rfl) ?_
      refine go ?_
      have hF := hF.lit 282 3 (rws Mac.cells []) rfl
      refine Q0w (g := Mac.cells) hF 0 H (rdo (c := false) (g := Mac.cells) Mac.Qad) fun x95 H v32 s33 hF => ?_
      refine go ?_
      refine Knv (g := Mac.cells) hF 0 H (rdo (c := true) (g := Mac.cells) Mac.Qad) fun x102 H s35 hF => ?_
      refine go ?_
      refine st hF 6 rfl fun s36 hF => ?_
      refine go ?_
      exact IH  x83.1.binds x102 x83.1.scope x83.1.id x83.1.steps (i64.wrap (Qkp + 1)) _ H _ rfl Q tt b1 b3 b5 b7 hE hR _ _  S (hF.drop 3 0)
 ·refine go ?_
  exact hE _ _ _ _ _ (pur H).symm _ _  S hF
theorem Qtb (fx0 : Int) : (∀ (a0 : Xpn) (a1 : Fm) r, Qbp a0 a1 fx0 = some r -> Qb0 Tryz.prog 220 [.agg (Xpn.cells a0), .agg (Fm.cells a1), i6 fx0] (.tup [.agg (Xpn.cells r.1), .agg (Cor.cells r.2.1), i6 r.2.2])) /\ (∀ (a0 : Xpn) (a1 : Fm) (a2 : Int) r, Qlg a0 a1 a2 fx0 = some r -> Qb0 Tryz.prog 263 [.agg (Xpn.cells a0), .agg (Fm.cells a1), i6 a2, i6 fx0] (.tup [.agg (Xpn.cells r.1), .agg (Cor.cells r.2.1), i6 r.2.2])) /\ (∀ (a0 : Xpn) (a1 : List Fm) r, Qhg a0 a1 fx0 = some r -> Qb0 Tryz.prog 265 [.agg (Xpn.cells a0), sf Fm.cells a1, i6 fx0] (.tup [.agg (Xpn.cells r.1), sf Cor.cells r.2.1, i6 r.2.2])) /\ (∀ (a0 : Xpn) (a1 : List Fm) (a2 : Fm) r, Qj6 a0 a1 a2 fx0 = some r -> Qb0 Tryz.prog 292 [.agg (Xpn.cells a0), sf Fm.cells a1, .agg (Fm.cells a2), i6 fx0] (.tup [.agg (Xpn.cells r.1), .agg (Cor.cells r.2.1), i6 r.2.2])) /\ (∀ (a0 : Xpn) (a1 : List Fm) (a2 : List Fm) (a3 : Fm) r, Qjw a0 a1 a2 a3 fx0 = some r -> Qb0 Tryz.prog 269 [.agg (Xpn.cells a0), sf Fm.cells a1, sf Fm.cells a2, .agg (Fm.cells a3), i6 fx0] (.tup [.agg (Xpn.cells r.1), .agg (Cor.cells r.2.1), i6 r.2.2])) /\ (∀ (a0 : Xpn) (a1 : Fm) (a2 : Int) r, Qlz a0 a1 a2 fx0 = some r -> Qb0 Tryz.prog 264 [.agg (Xpn.cells a0), .agg (Fm.cells a1), i6 a2, i6 fx0] (.tup [.agg (Xpn.cells r.1), .agg (Cor.cells r.2.1), i6 r.2.2])) := by
 have h := Qbp.mutual_partial_correctness fx0 (motive_1 := fun a0 a1 r => Qb0 Tryz.prog 220 [.agg (Xpn.cells a0), .agg (Fm.cells a1), i6 fx0] (.tup [.agg (Xpn.cells r.1), .agg (Cor.cells r.2.1), i6 r.2.2])) (motive_2 := fun a0 a1 r => Qb0 Tryz.prog 265 [.agg (Xpn.cells a0), sf Fm.cells a1, i6 fx0] (.tup [.agg (Xpn.cells r.1), sf Cor.cells r.2.1, i6 r.2.2])) (motive_3 := fun a1 Qax Qay Qav Qaz Qa0 Qac Qbk out => ∀ c, Qam Tryz.f265 0 = some c -> ∀ (Q : AX -> AS -> Prop) (tt : Sto) (b1 : Nat) (b3 : Nat), (∀ (Qnz : List Bnd) (Qn0 : List Mac) (Qn1 : Int) (Qn2 : Int) (Qn3 : Int) (Qbn : List Cor), out = Sum.inr (Qnz, Qn0, Qn1, Qn2, Qn3, Qbn) -> ∀ (T : Nat -> AV) (ss : Sto) (e0v0 : AV), T 3 = .ptr b1 0 /\ T 6 = .ptr b3 0 /\ T 9 = e0v0 -> Fx tt ss [(b3, ⟨203, 5, [.Qab, .Qab, i6 0, i6 0, i6 0]⟩), (b1, ⟨203, 5, [sf Bnd.cells Qnz, sf Mac.cells Qn0, i6 Qn1, i6 Qn2, i6 Qn3]⟩)] [⟨e0v0, 31, 11, rws Cor.cells Qbn⟩] -> Q (.ex 0) ⟨T, ss⟩) -> (∀ r, out = Sum.inl r -> ∀ s', Qkk Tryz.prog [.cell 6 203, .tmp 7, .tmp 8] (fun r' ss' => r' = .tup [.agg (Xpn.cells r.1), sf Cor.cells r.2.1, i6 r.2.2] /\ ss' = tt) s' -> Q .ret s') -> ∀ (T : Nat -> AV) (ss : Sto) (z0v0 : AV), T 1 = sf Fm.cells a1 /\ T 2 = i6 fx0 /\ T 3 = .ptr b1 0 /\ T 6 = .ptr b3 0 /\ T 9 = z0v0 /\ T 10 = i6 Qbk -> Fx tt ss [(b3, ⟨203, 5, [.Qab, .Qab, i6 0, i6 0, i6 0]⟩), (b1, ⟨203, 5, [sf Bnd.cells Qax, sf Mac.cells Qay, i6 Qav, i6 Qaz, i6 Qa0]⟩)] [⟨z0v0, 31, 11, rws Cor.cells Qac⟩] -> Qbr (Qbc Tryz.prog c) Q ⟨T, ss⟩) (motive_4 := fun a0 a1 a2 r => Qb0 Tryz.prog 264 [.agg (Xpn.cells a0), .agg (Fm.cells a1), i6 a2, i6 fx0] (.tup [.agg (Xpn.cells r.1), .agg (Cor.cells r.2.1), i6 r.2.2])) (motive_5 := fun a0 a1 a2 r => Qb0 Tryz.prog 263 [.agg (Xpn.cells a0), .agg (Fm.cells a1), i6 a2, i6 fx0] (.tup [.agg (Xpn.cells r.1), .agg (Cor.cells r.2.1), i6 r.2.2])) (motive_6 := fun a0 a1 a2 a3 r => Qb0 Tryz.prog 269 [.agg (Xpn.cells a0), sf Fm.cells a1, sf Fm.cells a2, .agg (Fm.cells a3), i6 fx0] (.tup [.agg (Xpn.cells r.1), .agg (Cor.cells r.2.1), i6 r.2.2])) (motive_7 := fun a0 a1 a2 r => Qb0 Tryz.prog 292 [.agg (Xpn.cells a0), sf Fm.cells a1, .agg (Fm.cells a2), i6 fx0] (.tup [.agg (Xpn.cells r.1), .agg (Cor.cells r.2.1), i6 r.2.2])) ?s0 ?s1 ?s2 ?s3 ?s4 ?s5 ?s6
 ·exact ⟨h.1, h.2.2.2.2.1, h.2.1, h.2.2.2.2.2.2, h.2.2.2.2.2.1, h.2.2.2.1⟩
 ·intro Qhg Qlz Qlg C2 C5 C1 a0 a1 r H
  intro ss
  refine Qau mixed Tryz.func220 rfl (by kernel_rfl) (rs := [.cell 6 203, .cell 7 31, .tmp 8]) rfl (by kernel_rfl) ?_
  have hF := Fx.refl ss
  have hX := Tau.none ss
  have q := dum
  have tT := dum
  refine go ?_
  refine Qag hF rfl fun b1 ss2 hF => ?_
  refine go ?_
  refine Qag hF rfl fun b3 ss4 hF => ?_
  refine go ?_
  refine Qag hF rfl fun b5 ss6 hF => ?_
  refine go ?_
  refine Qag hF rfl fun b7 s8 hF => ?_
  refine go ?_
  refine cdp H (fun h H => ?_) (fun h H => ?_)
  ·refine go ?_
   obtain ⟨E, hEq⟩ : ∃ E, E = EE s8 [b5, b7] := ⟨_, rfl⟩
   have n9 : ¬ E b3 := by rw [hEq]; exact EE.not (hF.at 2 rfl) (by simp only [List.mem_cons, List.not_mem_nil, or_false, not_or]; exact ⟨neL hF 2 1 rfl rfl (by decide), neL hF 2 0 rfl rfl (by decide)⟩)
   have n10 : ¬ E b1 := by rw [hEq]; exact EE.not (hF.at 3 rfl) (by simp only [List.mem_cons, List.not_mem_nil, or_false, not_or]; exact ⟨neL hF 3 1 rfl rfl (by decide), neL hF 3 0 rfl rfl (by decide)⟩)
   refine Qaq E [.v, .v, .v, .v, .x, .x, .v] (by kernel_rfl) ?_
   have z := And.intro (Qaf (hF.at 2 rfl) n9) (Qaf (hF.at 3 rfl) n10); refine gh ?_
   refine stK hF 1 (by rw [hEq]; exact EE.of (by simp)) rfl fun s11 hF => ?_
   have z := And.intro (Qaf (hF.at 2 rfl) n9) (Qaf (hF.at 3 rfl) n10); refine gh ?_
   refine stK hF 0 (by rw [hEq]; exact EE.of (by simp)) rfl fun s12 hF => ?_
   have z := And.intro (Qaf (hF.at 2 rfl) n9) (Qaf (hF.at 3 rfl) n10); refine gh ?_
   refine go ?_
   have e := pur H; subst e
   exact rt [.agg [sf Bnd.cells a0.binds, sf Mac.cells a0.macs, i6 a0.scope, i6 a0.id, i6 a0.steps], .agg [i6 3, i6 0, .str zB, i6 a1.num, .Qab, i6 0, .str zB, i6 0, .Qab, .Qab, .Qab], i6 0]
  ·refine go ?_
   refine cdp H (fun h H => ?_) (fun h H => ?_)
   ·refine go ?_
    obtain ⟨x25, hx25, H⟩ := bnd H
    refine cl (Qym a0 a1 _ hx25) ?_
    refine go ?_
    refine st hF 1 rfl fun s13 hF => ?_
    refine go ?_
    refine st hF 0 rfl fun s14 hF => ?_
    refine go ?_
    have e := pur H; subst e
    exact rt [.agg [sf Bnd.cells x25.1.binds, sf Mac.cells x25.1.macs, i6 x25.1.scope, i6 x25.1.id, i6 x25.1.steps], .agg [i6 x25.2.1.kind, i6 x25.2.1.id, .str x25.2.1.name, i6 x25.2.1.num, sf cI x25.2.1.ids, i6 x25.2.1.data.kind, .str x25.2.1.data.name, i6 x25.2.1.data.num, sf cI x25.2.1.data.sc, sf Fm.cells x25.2.1.data.kids, sf Cor.cells x25.2.1.kids], i6 x25.2.2]
   ·refine go ?_
    refine cdp H (fun h H => ?_) (fun h H => ?_)
    ·refine go ?_
     refine st hF 1 rfl fun s15 hF => ?_
     refine go ?_
     refine st hF 0 rfl fun s16 hF => ?_
     refine go ?_
     have e := pur H; subst e
     exact rt [.agg [sf Bnd.cells a0.binds, sf Mac.cells a0.macs, i6 a0.scope, i6 a0.id, i6 a0.steps], .agg [i6 0, i6 0, .str zB, i6 0, .Qab, i6 0, .str zB, i6 0, .Qab, .Qab, .Qab], i6 1]
    ·obtain ⟨x37, f1, H⟩ := bil (g := Fm.cells) Fm.Qad H
     refine go1 ?_
     refine go ?_
     refine cdp H (fun h H => ?_) (fun h H => ?_)
     ·refine go ?_
      refine Qaq E0 [.v, .v, .v, .v, .v, .v, .v, .v, .v, .v, .v] (by kernel_rfl) ?_
      obtain ⟨x45, f1, H⟩ := bil (g := Fm.cells) Fm.Qad H
      refine go1 ?_
      obtain ⟨x47, hx47, H⟩ := bnd H
      refine cv (Qmv a0 x45 _ hx47) ?_
      refine go ?_
      refine cdp H (fun h H => ?_) (fun h H => ?_)
      ·refine go ?_
       refine st hF 1 rfl fun s17 hF => ?_
       refine go ?_
       refine st hF 0 rfl fun s18 hF => ?_
       refine go ?_
       have e := pur H; subst e
       exact rt [.agg [sf Bnd.cells a0.binds, sf Mac.cells a0.macs, i6 a0.scope, i6 a0.id, i6 a0.steps], .agg [i6 0, i6 0, .str zB, i6 0, .Qab, i6 0, .str zB, i6 0, .Qab, .Qab, .Qab], i6 2]
      ·refine go ?_
       refine cdp H (fun h H => ?_) (fun h H => ?_)
       ·refine go ?_
        obtain ⟨x61, hx61, H⟩ := bnd H
        refine cl (C1 a0 a1 x47.2 _ hx61) ?_
        refine go ?_
        refine st hF 1 rfl fun s19 hF => ?_
        refine go ?_
        refine st hF 0 rfl fun s20 hF => ?_
        refine go ?_
        have e := pur H; subst e
        exact rt [.agg [sf Bnd.cells x61.1.binds, sf Mac.cells x61.1.macs, i6 x61.1.scope, i6 x61.1.id, i6 x61.1.steps], .agg [i6 x61.2.1.kind, i6 x61.2.1.id, .str x61.2.1.name, i6 x61.2.1.num, sf cI x61.2.1.ids, i6 x61.2.1.data.kind, .str x61.2.1.data.name, i6 x61.2.1.data.num, sf cI x61.2.1.data.sc, sf Fm.cells x61.2.1.data.kids, sf Cor.cells x61.2.1.kids], i6 x61.2.2]
       ·refine go ?_
        refine cdp H (fun h H => ?_) (fun h H => ?_)
        ·refine go ?_
         obtain ⟨x71, hx71, H⟩ := bnd H
         refine cl (C5 a0 a1 x47.2 _ hx71) ?_
         refine go ?_
         refine st hF 1 rfl fun s21 hF => ?_
         refine go ?_
         refine st hF 0 rfl fun s22 hF => ?_
         refine go ?_
         have e := pur H; subst e
         exact rt [.agg [sf Bnd.cells x71.1.binds, sf Mac.cells x71.1.macs, i6 x71.1.scope, i6 x71.1.id, i6 x71.1.steps], .agg [i6 x71.2.1.kind, i6 x71.2.1.id, .str x71.2.1.name, i6 x71.2.1.num, sf cI x71.2.1.ids, i6 x71.2.1.data.kind, .str x71.2.1.data.name, i6 x71.2.1.data.num, sf cI x71.2.1.data.sc, sf Fm.cells x71.2.1.data.kids, sf Cor.cells x71.2.1.kids], i6 x71.2.2]
        ·refine go ?_
         obtain ⟨x80, hx80, H⟩ := bnd H
         refine cl (C2 a0 a1.kids _ hx80) ?_
         refine go ?_
         refine st hF 3 rfl fun s23 hF => ?_
         refine go ?_
         refine st hF 1 rfl fun s24 hF => ?_
         refine go ?_
         refine st hF 0 rfl fun s25 hF => ?_
         refine go ?_
         have e := pur H; subst e
         exact rt [.agg [sf Bnd.cells x80.1.binds, sf Mac.cells x80.1.macs, i6 x80.1.scope, i6 x80.1.id, i6 x80.1.steps], .agg [i6 6, i6 0, .str zB, i6 0, .Qab, i6 0, .str zB, i6 0, .Qab, .Qab, sf Cor.cells x80.2.1], i6 x80.2.2]
     ·refine go ?_
      obtain ⟨Qxc, hx80_1, H⟩ := bnd H
      refine cl (C2 a0 a1.kids _ hx80_1) ?_
      refine go ?_
      refine st hF 3 rfl fun s26 hF => ?_
      refine go ?_
      refine st hF 1 rfl fun s27 hF => ?_
      refine go ?_
      refine st hF 0 rfl fun s28 hF => ?_
      refine go ?_
      have e := pur H; subst e
      exact rt [.agg [sf Bnd.cells Qxc.1.binds, sf Mac.cells Qxc.1.macs, i6 Qxc.1.scope, i6 Qxc.1.id, i6 Qxc.1.steps], .agg [i6 6, i6 0, .str zB, i6 0, .Qab, i6 0, .str zB, i6 0, .Qab, .Qab, sf Cor.cells Qxc.2.1], i6 Qxc.2.2]
 ·intro Qgt L0 a0 a1 r H
  intro ss
  refine Qau mixed Tryz.func265 rfl (by kernel_rfl) (rs := [.cell 6 203, .tmp 7, .tmp 8]) rfl (by kernel_rfl) ?_
  have hF := Fx.refl ss
  have hX := Tau.none ss
  have q := dum
  have tT := dum
  refine go ?_
  refine Qag hF rfl fun b1 ss2 hF => ?_
  refine go ?_
  refine Qag hF rfl fun b3 ss4 hF => ?_
  have hF := hF.lit 31 11 (rws Cor.cells []) rfl
  refine go ?_
  obtain ⟨o21, ho21, H⟩ := bnd H
  refine L0 a1 a0.binds a0.macs a0.scope a0.id a0.steps [] 0 _ ho21 _ rfl _ _ b1 b3 ?_ ?_ _ _ (.sl true (rws Cor.cells [])) S hF
  ·intro Qzs Qzt Qzu Qzv Qzw Qnm he T23 s24 e22v0 tT hF
   have he := he.symm
   subst he
   dsimp only at H
   refine go ?_
   refine st hF 0 rfl fun s26 hF => ?_
   refine go ?_
   have e := pur H; subst e
   exact rt [.agg [sf Bnd.cells Qzs, sf Mac.cells Qzt, i6 Qzu, i6 Qzv, i6 Qzw], e22v0, i6 0]
  ·intro r hr s' hs
   subst hr
   have e := pur H; subst e
   first | exact hs | (try simp only [sf, i6, zB, Fm.Qaa, Xpn.Qaa, Cor.Qaa, Bnd.Qaa, Hit.Qaa, Rul.Qaa, Mac.Qaa, Stp.Qaa, Val.Qaa] at hs ⊢; exact hs)
 ·intro Qbp Qgt C0 L0 a1 Qax Qay Qav Qaz Qa0 Qac Qbk out H c hc Q tt b1 b3 hE hR T ss z0v0 tT hF
  obtain rfl := lpe (rfl : Qam Tryz.f265 0 = some _) hc
  refine Qah ?_
  have q := dum
  have hX := Tau.none tt
  refine go ?_
  refine cdp H (fun h H => ?_) (fun h H => ?_)
  ·refine go ?_
   obtain ⟨E, hEq⟩ : ∃ E, E = EE ss [] := ⟨_, rfl⟩
   have n5 : ¬ E b3 := by rw [hEq]; exact EE.not (hF.at 0 rfl) (by simp)
   have n6 : ¬ E b1 := by rw [hEq]; exact EE.not (hF.at 1 rfl) (by simp)
   refine Qaq E [.v, .v, .v, .v, .v, .v, .v, .v, .v, .v, .v, .x, .x, .x, .x, .v] (by kernel_rfl) ?_
   obtain ⟨x25, f1, H⟩ := bil (g := Fm.cells) Fm.Qad H
   have z := And.intro (Qaf (hF.at 0 rfl) n5) (Qaf (hF.at 1 rfl) n6); refine gh1 ?_
   obtain ⟨x28, hx28, H⟩ := bnd H
   refine cv (C0 (Xpn.mk Qax Qay Qav Qaz Qa0) x25 _ hx28) ?_
   have z := And.intro (Qaf (hF.at 0 rfl) n5) (Qaf (hF.at 1 rfl) n6); refine gh ?_
   refine Qml hF rfl fun b7 s8 nw9 mo10 hF => ?_
   have z := And.intro (Qaf (hF.at 1 rfl) n5) (Qaf (hF.at 2 rfl) n6); refine gh ?_
   refine Qml hF rfl fun b11 s12 nw13 mo14 hF => ?_
   have z := And.intro (Qaf (hF.at 2 rfl) n5) (Qaf (hF.at 3 rfl) n6); refine gh ?_
   refine stK hF 1 (show E _ from ((em0 hEq) _ nw9)) rfl fun s15 hF => ?_
   have z := And.intro (Qaf (hF.at 2 rfl) n5) (Qaf (hF.at 3 rfl) n6); refine gh ?_
   refine stK hF 0 (show E _ from ((fun x h => (em0 hEq) x (mo10 x h)) _ nw13)) rfl fun s16 hF => ?_
   have z := And.intro (Qaf (hF.at 2 rfl) n5) (Qaf (hF.at 3 rfl) n6); refine gh ?_
   refine go ?_
   refine st hF 3 rfl fun s17 hF => ?_
   refine go ?_
   refine cdn H (fun h H => ?_) (fun h H => ?_)
   ·refine go ?_
    refine st hF 2 rfl fun s18 hF => ?_
    refine go ?_
    exact hR _ (pur H).symm _ (rt [.agg [sf Bnd.cells x28.1.binds, sf Mac.cells x28.1.macs, i6 x28.1.scope, i6 x28.1.id, i6 x28.1.steps], z0v0, i6 x28.2.2])
   ·refine go ?_
    refine apd (g := Cor.cells) hF 0 H (rdo (c := true) (g := Cor.cells) Cor.Qad) fun x41 H v19 s20 hF => ?_
    refine go ?_
    exact L0 a1 x28.1.binds x28.1.macs x28.1.scope x28.1.id x28.1.steps x41 (i64.wrap (Qbk + 1)) _ H _ rfl Q tt b1 b3 hE hR _ _ v19 S (hF.drop 2 0)
  ·refine go ?_
   exact hE _ _ _ _ _ _ (pur H).symm _ _ z0v0 S hF
 ·intro Qbp C0 a0 a1 a2 r H
  intro ss
  refine Qau mixed Tryz.func264 rfl (by kernel_rfl) (rs := [.cell 8 203, .cell 9 31, .tmp 10]) rfl (by kernel_rfl) ?_
  have hF := Fx.refl ss
  have hX := Tau.none ss
  have q := dum
  have tT := dum
  refine go ?_
  refine Qag hF rfl fun b1 ss2 hF => ?_
  refine go ?_
  refine Qag hF rfl fun b3 ss4 hF => ?_
  refine go ?_
  refine Qag hF rfl fun b5 ss6 hF => ?_
  refine go ?_
  refine Qag hF rfl fun b7 s8 hF => ?_
  refine go ?_
  obtain ⟨x18, hx18, H⟩ := bnd H
  refine cl (Qyo a0 a1 a2 fx0 _ hx18) ?_
  refine go ?_
  refine Qag hF rfl fun b9 s10 hF => ?_
  refine go ?_
  refine st hF 4 rfl fun s11 hF => ?_
  refine go ?_
  refine st hF 0 rfl fun s12 hF => ?_
  refine go ?_
  refine cdn H (fun h H => ?_) (fun h H => ?_)
  ·refine go ?_
   refine st hF 2 rfl fun s13 hF => ?_
   refine go ?_
   refine st hF 1 rfl fun s14 hF => ?_
   refine go ?_
   have e := pur H; subst e
   exact rt [.agg [sf Bnd.cells x18.1.binds, sf Mac.cells x18.1.macs, i6 x18.1.scope, i6 x18.1.id, i6 x18.1.steps], .agg [i6 0, i6 0, .str zB, i6 0, .Qab, i6 0, .str zB, i6 0, .Qab, .Qab, .Qab], i6 x18.2.2]
  ·refine go ?_
   obtain ⟨x30, hx30, H⟩ := bnd H
   refine cl (C0 x18.1 x18.2.1 _ hx30) ?_
   refine go ?_
   refine st hF 2 rfl fun s15 hF => ?_
   refine go ?_
   refine st hF 1 rfl fun s16 hF => ?_
   refine go ?_
   have e := pur H; subst e
   exact rt [.agg [sf Bnd.cells x30.1.binds, sf Mac.cells x30.1.macs, i6 x30.1.scope, i6 x30.1.id, i6 x30.1.steps], .agg [i6 x30.2.1.kind, i6 x30.2.1.id, .str x30.2.1.name, i6 x30.2.1.num, sf cI x30.2.1.ids, i6 x30.2.1.data.kind, .str x30.2.1.data.name, i6 x30.2.1.data.num, sf cI x30.2.1.data.sc, sf Fm.cells x30.2.1.data.kids, sf Cor.cells x30.2.1.kids], i6 x30.2.2]
 ·intro Qhg Qjw Qj6 C2 C4 C3 a0 a1 a2 r H
  intro ss
  refine Qau mixed Tryz.func263 rfl (by kernel_rfl) (rs := [.cell 8 203, .cell 9 31, .tmp 10]) rfl (by kernel_rfl) ?_
  have hF := Fx.refl ss
  have hX := Tau.none ss
  have q := dum
  have tT := dum
  refine go ?_
  refine Qag hF rfl fun b1 ss2 hF => ?_
  refine go ?_
  refine Qag hF rfl fun b3 ss4 hF => ?_
  refine go ?_
  refine Qag hF rfl fun b5 ss6 hF => ?_
  refine go ?_
  refine Qag hF rfl fun b7 s8 hF => ?_
  refine go ?_
  obtain ⟨x29, g9, H⟩ := bnd H
  refine Qai 4 25 29 (.bool x29) (gi q (fun q => ?_) (fun q => ?_)) (fun J => ?_)
  ·refine go ?_
   exact Qaw 25 g9
  ·refine go ?_
   exact Qaw 25 g9
  refine go ?_
  refine cdb H (fun h H => ?_) (fun h H => ?_)
  ·refine go ?_
   obtain ⟨E, hEq⟩ : ∃ E, E = EE s8 [b5, b7] := ⟨_, rfl⟩
   have n11 : ¬ E b3 := by rw [hEq]; exact EE.not (hF.at 2 rfl) (by simp only [List.mem_cons, List.not_mem_nil, or_false, not_or]; exact ⟨neL hF 2 1 rfl rfl (by decide), neL hF 2 0 rfl rfl (by decide)⟩)
   have n12 : ¬ E b1 := by rw [hEq]; exact EE.not (hF.at 3 rfl) (by simp only [List.mem_cons, List.not_mem_nil, or_false, not_or]; exact ⟨neL hF 3 1 rfl rfl (by decide), neL hF 3 0 rfl rfl (by decide)⟩)
   refine Qaq E [.v, .v, .v, .v, .v, .v, .v, .x, .x, .v] (by kernel_rfl) ?_
   obtain ⟨x33, f1, H⟩ := bil (g := Fm.cells) Fm.Qad H
   have z := And.intro (Qaf (hF.at 2 rfl) n11) (Qaf (hF.at 3 rfl) n12); refine gh1 ?_
   obtain ⟨x35, hx35, H⟩ := bnd H
   refine cv (Qmr x33 _ hx35) ?_
   have z := And.intro (Qaf (hF.at 2 rfl) n11) (Qaf (hF.at 3 rfl) n12); refine gh ?_
   refine stK hF 1 (by rw [hEq]; exact EE.of (by simp)) rfl fun s13 hF => ?_
   have z := And.intro (Qaf (hF.at 2 rfl) n11) (Qaf (hF.at 3 rfl) n12); refine gh ?_
   refine stK hF 0 (by rw [hEq]; exact EE.of (by simp)) rfl fun s14 hF => ?_
   have z := And.intro (Qaf (hF.at 2 rfl) n11) (Qaf (hF.at 3 rfl) n12); refine gh ?_
   refine go ?_
   have e := pur H; subst e
   exact rt [.agg [sf Bnd.cells a0.binds, sf Mac.cells a0.macs, i6 a0.scope, i6 a0.id, i6 a0.steps], .agg [i6 4, i6 0, .str zB, i6 0, .Qab, i6 x35.kind, .str x35.name, i6 x35.num, sf cI x35.sc, sf Fm.cells x35.kids, .Qab], i6 0]
  ·refine go ?_
   obtain ⟨x45, g15, H⟩ := bnd H
   refine Qai 4 41 45 (.bool x45) (gi q (fun q => ?_) (fun q => ?_)) (fun J => ?_)
   ·refine go ?_
    exact Qaw 41 g15
   ·refine go ?_
    exact Qaw 41 g15
   refine go ?_
   refine cdb H (fun h H => ?_) (fun h H => ?_)
   ·refine go ?_
    obtain ⟨E, hEq⟩ : ∃ E, E = EE s8 [] := ⟨_, rfl⟩
    have n17 : ¬ E b7 := by rw [hEq]; exact EE.not (hF.at 0 rfl) (by simp)
    have n18 : ¬ E b5 := by rw [hEq]; exact EE.not (hF.at 1 rfl) (by simp)
    have n19 : ¬ E b3 := by rw [hEq]; exact EE.not (hF.at 2 rfl) (by simp)
    have n20 : ¬ E b1 := by rw [hEq]; exact EE.not (hF.at 3 rfl) (by simp)
    refine Qaq E [.v, .v, .v, .v, .v, .v, .v, .v, .v, .v, .x, .x, .v, .v] (by kernel_rfl) ?_
    obtain ⟨x50, f1, H⟩ := bls (g := Fm.cells) Fm.Qad (lo := some (i6 1)) (hi := none) rfl rfl H
    have z := And.intro (Qaf (hF.at 0 rfl) n17) (And.intro (Qaf (hF.at 1 rfl) n18) (And.intro (Qaf (hF.at 2 rfl) n19) (Qaf (hF.at 3 rfl) n20))); refine gh1 ?_
    obtain ⟨x52, hx52, H⟩ := bnd H
    refine cv (C2 a0 x50 _ hx52) ?_
    have z := And.intro (Qaf (hF.at 0 rfl) n17) (And.intro (Qaf (hF.at 1 rfl) n18) (And.intro (Qaf (hF.at 2 rfl) n19) (Qaf (hF.at 3 rfl) n20))); refine gh ?_
    refine Qml hF rfl fun b21 s22 nw23 mo24 hF => ?_
    have z := And.intro (Qaf (hF.at 1 rfl) n17) (And.intro (Qaf (hF.at 2 rfl) n18) (And.intro (Qaf (hF.at 3 rfl) n19) (Qaf (hF.at 4 rfl) n20))); refine gh ?_
    refine stK hF 0 (show E _ from ((em0 hEq) _ nw23)) rfl fun s25 hF => ?_
    have z := And.intro (Qaf (hF.at 1 rfl) n17) (And.intro (Qaf (hF.at 2 rfl) n18) (And.intro (Qaf (hF.at 3 rfl) n19) (Qaf (hF.at 4 rfl) n20))); refine gh ?_
    refine go ?_
    refine st hF 2 rfl fun s26 hF => ?_
    refine go ?_
    refine st hF 1 rfl fun s27 hF => ?_
    refine go ?_
    have e := pur H; subst e
    exact rt [.agg [sf Bnd.cells x52.1.binds, sf Mac.cells x52.1.macs, i6 x52.1.scope, i6 x52.1.id, i6 x52.1.steps], .agg [i6 7, i6 0, .str zB, i6 0, .Qab, i6 0, .str zB, i6 0, .Qab, .Qab, sf Cor.cells x52.2.1], i6 x52.2.2]
   ·refine go ?_
    obtain ⟨x68, g28, H⟩ := bnd H
    refine Qai 4 64 68 (.bool x68) (gi q (fun q => ?_) (fun q => ?_)) (fun J => ?_)
    ·refine go ?_
     exact Qaw 64 g28
    ·refine go ?_
     exact Qaw 64 g28
    refine go ?_
    obtain ⟨x76, g30, H⟩ := bnd H
    refine Qai 6 70 76 (.bool x76) (gi q (fun q => ?_) (fun q => ?_)) (fun J => ?_)
    ·rw [if_pos (dbt q)] at g30
     obtain ⟨x72, f1, g30⟩ := bil (g := Fm.cells) Fm.Qad g30
     refine go1 ?_
     refine go ?_
     exact Qaw 70 g30
    ·rw [if_neg (dbf q)] at g30
     refine go ?_
     exact Qaw 70 g30
    refine go ?_
    refine cdb H (fun h H => ?_) (fun h H => ?_)
    ·refine go ?_
     obtain ⟨E, hEq⟩ : ∃ E, E = EE s8 [b5, b7] := ⟨_, rfl⟩
     have n32 : ¬ E b3 := by rw [hEq]; exact EE.not (hF.at 2 rfl) (by simp only [List.mem_cons, List.not_mem_nil, or_false, not_or]; exact ⟨neL hF 2 1 rfl rfl (by decide), neL hF 2 0 rfl rfl (by decide)⟩)
     have n33 : ¬ E b1 := by rw [hEq]; exact EE.not (hF.at 3 rfl) (by simp only [List.mem_cons, List.not_mem_nil, or_false, not_or]; exact ⟨neL hF 3 1 rfl rfl (by decide), neL hF 3 0 rfl rfl (by decide)⟩)
     refine Qaq E [.v, .v, .v, .v, .v, .v, .v, .v, .v, .v, .v, .v, .v, .v, .v, .x, .x, .v] (by kernel_rfl) ?_
     obtain ⟨x80, f1, H⟩ := bil (g := Fm.cells) Fm.Qad H
     obtain ⟨x85, f2, H⟩ := bil (g := Fm.cells) Fm.Qad H
     have z := And.intro (Qaf (hF.at 2 rfl) n32) (Qaf (hF.at 3 rfl) n33); refine gh2 ?_
     obtain ⟨x88, hx88, H⟩ := bnd H
     refine cv (C3 a0 x80.kids x85 _ hx88) ?_
     have z := And.intro (Qaf (hF.at 2 rfl) n32) (Qaf (hF.at 3 rfl) n33); refine gh ?_
     refine stK hF 1 (by rw [hEq]; exact EE.of (by simp)) rfl fun s34 hF => ?_
     have z := And.intro (Qaf (hF.at 2 rfl) n32) (Qaf (hF.at 3 rfl) n33); refine gh ?_
     refine stK hF 0 (by rw [hEq]; exact EE.of (by simp)) rfl fun s35 hF => ?_
     have z := And.intro (Qaf (hF.at 2 rfl) n32) (Qaf (hF.at 3 rfl) n33); refine gh ?_
     refine go ?_
     have e := pur H; subst e
     exact rt [.agg [sf Bnd.cells x88.1.binds, sf Mac.cells x88.1.macs, i6 x88.1.scope, i6 x88.1.id, i6 x88.1.steps], .agg [i6 x88.2.1.kind, i6 x88.2.1.id, .str x88.2.1.name, i6 x88.2.1.num, sf cI x88.2.1.ids, i6 x88.2.1.data.kind, .str x88.2.1.data.name, i6 x88.2.1.data.num, sf cI x88.2.1.data.sc, sf Fm.cells x88.2.1.data.kids, sf Cor.cells x88.2.1.kids], i6 x88.2.2]
    ·refine go ?_
     obtain ⟨x97, g36, H⟩ := bnd H
     refine Qai 2 95 97 (.bool x97) (gi q (fun q => ?_) (fun q => ?_)) (fun J => ?_)
     ·refine go ?_
      exact Qaw 95 g36
     ·refine go ?_
      exact Qaw 95 g36
     refine go ?_
     obtain ⟨x103, g38, H⟩ := bnd H
     refine Qai 4 99 103 (.bool x103) (giN q (fun q => ?_) (fun q => ?_)) (fun J => ?_)
     ·refine go ?_
      exact Qaw 99 g38
     ·refine go ?_
      exact Qaw 99 g38
     refine go ?_
     refine cdb H (fun h H => ?_) (fun h H => ?_)
     ·refine go ?_
      refine st hF 1 rfl fun s40 hF => ?_
      refine go ?_
      refine st hF 0 rfl fun s41 hF => ?_
      refine go ?_
      have e := pur H; subst e
      exact rt [.agg [sf Bnd.cells a0.binds, sf Mac.cells a0.macs, i6 a0.scope, i6 a0.id, i6 a0.steps], .agg [i6 0, i6 0, .str zB, i6 0, .Qab, i6 0, .str zB, i6 0, .Qab, .Qab, .Qab], i6 1]
     ·obtain ⟨x109, f1, H⟩ := bil (g := Fm.cells) Fm.Qad H
      refine go1 ?_
      obtain ⟨x111, hx111, H⟩ := bnd H
      refine cl (Qwy x109 _ hx111) ?_
      refine go ?_
      refine cdb H (fun h H => ?_) (fun h H => ?_)
      ·refine go ?_
       refine st hF 1 rfl fun s42 hF => ?_
       refine go ?_
       refine st hF 0 rfl fun s43 hF => ?_
       refine go ?_
       have e := pur H; subst e
       exact rt [.agg [sf Bnd.cells a0.binds, sf Mac.cells a0.macs, i6 a0.scope, i6 a0.id, i6 a0.steps], .agg [i6 0, i6 0, .str zB, i6 0, .Qab, i6 0, .str zB, i6 0, .Qab, .Qab, .Qab], i6 1]
      ·refine go ?_
       refine cdp H (fun h H => ?_) (fun h H => ?_)
       ·refine go ?_
        obtain ⟨E, hEq⟩ : ∃ E, E = EE s8 [b5, b7] := ⟨_, rfl⟩
        have n44 : ¬ E b3 := by rw [hEq]; exact EE.not (hF.at 2 rfl) (by simp only [List.mem_cons, List.not_mem_nil, or_false, not_or]; exact ⟨neL hF 2 1 rfl rfl (by decide), neL hF 2 0 rfl rfl (by decide)⟩)
        have n45 : ¬ E b1 := by rw [hEq]; exact EE.not (hF.at 3 rfl) (by simp only [List.mem_cons, List.not_mem_nil, or_false, not_or]; exact ⟨neL hF 3 1 rfl rfl (by decide), neL hF 3 0 rfl rfl (by decide)⟩)
        refine Qaq E [.v, .v, .v, .v, .v, .v, .v, .v, .v, .v, .v, .v, .x, .x, .v] (by kernel_rfl) ?_
        obtain ⟨x126, f1, H⟩ := bil (g := Fm.cells) Fm.Qad H
        have z := And.intro (Qaf (hF.at 2 rfl) n44) (Qaf (hF.at 3 rfl) n45); refine gh1 ?_
        obtain ⟨x129, hx129, H⟩ := bnd H
        refine cv (C4 a0 x111.1 x111.2.1 x126 _ hx129) ?_
        have z := And.intro (Qaf (hF.at 2 rfl) n44) (Qaf (hF.at 3 rfl) n45); refine gh ?_
        refine stK hF 1 (by rw [hEq]; exact EE.of (by simp)) rfl fun s46 hF => ?_
        have z := And.intro (Qaf (hF.at 2 rfl) n44) (Qaf (hF.at 3 rfl) n45); refine gh ?_
        refine stK hF 0 (by rw [hEq]; exact EE.of (by simp)) rfl fun s47 hF => ?_
        have z := And.intro (Qaf (hF.at 2 rfl) n44) (Qaf (hF.at 3 rfl) n45); refine gh ?_
        refine go ?_
        have e := pur H; subst e
        exact rt [.agg [sf Bnd.cells x129.1.binds, sf Mac.cells x129.1.macs, i6 x129.1.scope, i6 x129.1.id, i6 x129.1.steps], .agg [i6 x129.2.1.kind, i6 x129.2.1.id, .str x129.2.1.name, i6 x129.2.1.num, sf cI x129.2.1.ids, i6 x129.2.1.data.kind, .str x129.2.1.data.name, i6 x129.2.1.data.num, sf cI x129.2.1.data.sc, sf Fm.cells x129.2.1.data.kids, sf Cor.cells x129.2.1.kids], i6 x129.2.2]
       ·refine go ?_
        obtain ⟨x137, hx137, H⟩ := bnd H
        refine cl (C2 a0 x111.2.1 _ hx137) ?_
        refine go ?_
        refine st hF 3 rfl fun s48 hF => ?_
        refine go ?_
        refine cdn H (fun h H => ?_) (fun h H => ?_)
        ·refine go ?_
         refine st hF 1 rfl fun s49 hF => ?_
         refine go ?_
         refine st hF 0 rfl fun s50 hF => ?_
         refine go ?_
         have e := pur H; subst e
         exact rt [.agg [sf Bnd.cells x137.1.binds, sf Mac.cells x137.1.macs, i6 x137.1.scope, i6 x137.1.id, i6 x137.1.steps], .agg [i6 0, i6 0, .str zB, i6 0, .Qab, i6 0, .str zB, i6 0, .Qab, .Qab, .Qab], i6 x137.2.2]
        ·refine go ?_
         obtain ⟨E, hEq⟩ : ∃ E, E = EE s48 [b1] := ⟨_, rfl⟩
         have n51 : ¬ E b7 := by rw [hEq]; exact EE.not (hF.at 0 rfl) (by simp only [List.mem_cons, List.not_mem_nil, or_false, not_or]; exact neL hF 0 3 rfl rfl (by decide))
         have n52 : ¬ E b5 := by rw [hEq]; exact EE.not (hF.at 1 rfl) (by simp only [List.mem_cons, List.not_mem_nil, or_false, not_or]; exact neL hF 1 3 rfl rfl (by decide))
         have n53 : ¬ E b3 := by rw [hEq]; exact EE.not (hF.at 2 rfl) (by simp only [List.mem_cons, List.not_mem_nil, or_false, not_or]; exact neL hF 2 3 rfl rfl (by decide))
         refine Qqn E [.v, .v, .v, .v, .v, .v, .x, .v, .v, .v, .v, .v, .x, .x, .x, .v] [1, 2, 3, 4, 5, 6, 0, 7, 8, 9, 10, 11, 12, 13, 14, 15] (by kernel_rfl) ?_
         obtain ⟨x151, f1, H⟩ := bil (g := Fm.cells) Fm.Qad H
         have z := And.intro (Qaf (hF.at 0 rfl) n51) (And.intro (Qaf (hF.at 1 rfl) n52) (Qaf (hF.at 2 rfl) n53)); refine gh1 ?_
         obtain ⟨x154, hx154, H⟩ := bnd H
         refine cv (C3 x137.1 x111.1 x151 _ hx154) ?_
         have z := And.intro (Qaf (hF.at 0 rfl) n51) (And.intro (Qaf (hF.at 1 rfl) n52) (Qaf (hF.at 2 rfl) n53)); refine gh ?_
         refine Qml hF rfl fun b54 s55 nw56 mo57 hF => ?_
         have z := And.intro (Qaf (hF.at 1 rfl) n51) (And.intro (Qaf (hF.at 2 rfl) n52) (Qaf (hF.at 3 rfl) n53)); refine gh ?_
         refine stK hF 4 (by rw [hEq]; exact EE.of (by simp)) rfl fun s58 hF => ?_
         have z := And.intro (Qaf (hF.at 1 rfl) n51) (And.intro (Qaf (hF.at 2 rfl) n52) (Qaf (hF.at 3 rfl) n53)); refine gh ?_
         refine stK hF 0 (show E _ from ((em0 hEq) _ nw56)) rfl fun s59 hF => ?_
         have z := And.intro (Qaf (hF.at 1 rfl) n51) (And.intro (Qaf (hF.at 2 rfl) n52) (Qaf (hF.at 3 rfl) n53)); refine gh ?_
         refine go ?_
         obtain ⟨E, hEq⟩ : ∃ E, E = EE s59 [b5, b7] := ⟨_, rfl⟩
         have n60 : ¬ E b54 := by rw [hEq]; exact EE.not (hF.at 0 rfl) (by simp only [List.mem_cons, List.not_mem_nil, or_false, not_or]; exact ⟨neL hF 0 2 rfl rfl (by decide), neL hF 0 1 rfl rfl (by decide)⟩)
         have n61 : ¬ E b3 := by rw [hEq]; exact EE.not (hF.at 3 rfl) (by simp only [List.mem_cons, List.not_mem_nil, or_false, not_or]; exact ⟨neL hF 3 2 rfl rfl (by decide), neL hF 3 1 rfl rfl (by decide)⟩)
         have n62 : ¬ E b1 := by rw [hEq]; exact EE.not (hF.at 4 rfl) (by simp only [List.mem_cons, List.not_mem_nil, or_false, not_or]; exact ⟨neL hF 4 2 rfl rfl (by decide), neL hF 4 1 rfl rfl (by decide)⟩)
         refine Qaq E [.v, .v, .v, .v, .v, .v, .v, .x, .x, .v] (by kernel_rfl) ?_
         have z := And.intro (Qaf (hF.at 0 rfl) n60) (And.intro (Qaf (hF.at 3 rfl) n61) (Qaf (hF.at 4 rfl) n62)); refine gh ?_
         obtain ⟨x162, hx162, H⟩ := bnd H
         refine Qzc (g := Cor.cells) (xs := [x154.2.1]) (ys := x137.2.1) Cor.Qad (by decide) (by decide) (.inr (by first | rfl | simp only [sf, i6, zB, Qb9, Qd3, cI, cU, cS, cL, Cor.Qaa, Fm.Qaa])) (.inr ⟨_, by first | rfl | simp only [sf, i6, zB, Qb9, Qd3, cI, cU, cS, cL, Cor.Qaa, Fm.Qaa]⟩) hx162 ?_
         have z := And.intro (Qaf (hF.at 0 rfl) n60) (And.intro (Qaf (hF.at 3 rfl) n61) (Qaf (hF.at 4 rfl) n62)); refine gh ?_
         refine stK hF 2 (by rw [hEq]; exact EE.of (by simp)) rfl fun s63 hF => ?_
         have z := And.intro (Qaf (hF.at 0 rfl) n60) (And.intro (Qaf (hF.at 3 rfl) n61) (Qaf (hF.at 4 rfl) n62)); refine gh ?_
         refine stK hF 1 (by rw [hEq]; exact EE.of (by simp)) rfl fun s64 hF => ?_
         have z := And.intro (Qaf (hF.at 0 rfl) n60) (And.intro (Qaf (hF.at 3 rfl) n61) (Qaf (hF.at 4 rfl) n62)); refine gh ?_
         refine go ?_
         have e := pur H; subst e
         exact rt [.agg [sf Bnd.cells x154.1.binds, sf Mac.cells x154.1.macs, i6 x154.1.scope, i6 x154.1.id, i6 x154.1.steps], .agg [i6 6, i6 0, .str zB, i6 0, .Qab, i6 0, .str zB, i6 0, .Qab, .Qab, sf Cor.cells x162], i6 x154.2.2]
 ·intro Qbp C0 a0 a1 a2 a3 r H
  intro ss
  refine Qau mixed Tryz.func269 rfl (by kernel_rfl) (rs := [.cell 10 203, .cell 11 31, .tmp 12]) rfl (by kernel_rfl) ?_
  have hF := Fx.refl ss
  have hX := Tau.none ss
  have q := dum
  have tT := dum
  refine go ?_
  refine Qag hF rfl fun b1 ss2 hF => ?_
  refine go ?_
  refine Qag hF rfl fun b3 ss4 hF => ?_
  refine go ?_
  refine Qag hF rfl fun b5 ss6 hF => ?_
  refine go ?_
  refine Qag hF rfl fun b7 s8 hF => ?_
  refine go ?_
  obtain ⟨x25, hx25, H⟩ := bnd H
  refine cl (Qli a0 _ hx25) ?_
  refine go ?_
  refine st hF 3 rfl fun s9 hF => ?_
  refine go ?_
  refine cdb H (fun h H => ?_) (fun h H => ?_)
  ·refine go ?_
   refine st hF 1 rfl fun s10 hF => ?_
   refine go ?_
   refine st hF 0 rfl fun s11 hF => ?_
   refine go ?_
   have e := pur H; subst e
   exact rt [.agg [sf Bnd.cells x25.1.binds, sf Mac.cells x25.1.macs, i6 x25.1.scope, i6 x25.1.id, i6 x25.1.steps], .agg [i6 0, i6 0, .str zB, i6 0, .Qab, i6 0, .str zB, i6 0, .Qab, .Qab, .Qab], i6 4]
  ·refine go ?_
   obtain ⟨o37, ho37, H⟩ := bnd H
   refine Qqf a1 a2 a3 fx0 x25.1.binds x25.1.macs x25.1.scope x25.1.id x25.1.steps 0 _ ho37 _ rfl _ _ b1 b3 b5 b7 ?_ ?_ _ _  S hF
   ·intro Qqt Qqu Qm6 Qqv Qqw he T39 s40 tT hF
    have he := he.symm
    subst he
    dsimp only at H
    refine go ?_
    obtain ⟨x107, hx107, H⟩ := bnd H
    refine cl (Qev a3 Qm6 0 _ hx107) ?_
    refine go ?_
    refine Qag hF rfl fun b42 s43 hF => ?_
    refine go ?_
    refine st hF 0 rfl fun s44 hF => ?_
    refine go ?_
    obtain ⟨x109, hx109, H⟩ := bnd H
    refine cl (Qbe x107 _ hx109) ?_
    refine go ?_
    refine cdb H (fun h H => ?_) (fun h H => ?_)
    ·refine go ?_
     refine st hF 2 rfl fun s45 hF => ?_
     refine go ?_
     refine st hF 1 rfl fun s46 hF => ?_
     refine go ?_
     have e := pur H; subst e
     exact rt [.agg [sf Bnd.cells Qqt, sf Mac.cells Qqu, i6 Qm6, i6 Qqv, i6 Qqw], .agg [i6 0, i6 0, .str zB, i6 0, .Qab, i6 0, .str zB, i6 0, .Qab, .Qab, .Qab], i6 4]
    ·refine go ?_
     obtain ⟨x116, hx116, H⟩ := bnd H
     refine cl (C0 (Xpn.mk Qqt Qqu Qm6 Qqv Qqw) x107 _ hx116) ?_
     refine go ?_
     refine st hF 2 rfl fun s47 hF => ?_
     refine go ?_
     refine st hF 1 rfl fun s48 hF => ?_
     refine go ?_
     have e := pur H; subst e
     exact rt [.agg [sf Bnd.cells x116.1.binds, sf Mac.cells x116.1.macs, i6 x116.1.scope, i6 x116.1.id, i6 x116.1.steps], .agg [i6 x116.2.1.kind, i6 x116.2.1.id, .str x116.2.1.name, i6 x116.2.1.num, sf cI x116.2.1.ids, i6 x116.2.1.data.kind, .str x116.2.1.data.name, i6 x116.2.1.data.num, sf cI x116.2.1.data.sc, sf Fm.cells x116.2.1.data.kids, sf Cor.cells x116.2.1.kids], i6 x116.2.2]
   ·intro r hr s' hs
    subst hr
    have e := pur H; subst e
    first | exact hs | (try simp only [sf, i6, zB, Fm.Qaa, Xpn.Qaa, Cor.Qaa, Bnd.Qaa, Hit.Qaa, Rul.Qaa, Mac.Qaa, Stp.Qaa, Val.Qaa] at hs ⊢; exact hs)
 ·intro Qbp C0 a0 a1 a2 r H
  intro ss
  refine Qau mixed Tryz.func292 rfl (by kernel_rfl) (rs := [.cell 8 203, .cell 9 31, .tmp 10]) rfl (by kernel_rfl) ?_
  have hF := Fx.refl ss
  have hX := Tau.none ss
  have q := dum
  have tT := dum
  refine go ?_
  refine Qag hF rfl fun b1 ss2 hF => ?_
  refine go ?_
  refine Qag hF rfl fun b3 ss4 hF => ?_
  refine go ?_
  refine Qag hF rfl fun b5 ss6 hF => ?_
  refine go ?_
  refine Qag hF rfl fun b7 s8 hF => ?_
  refine go ?_
  obtain ⟨x22, hx22, H⟩ := bnd H
  refine cl (Qli a0 _ hx22) ?_
  refine go ?_
  refine st hF 3 rfl fun s9 hF => ?_
  refine go ?_
  refine cdb H (fun h H => ?_) (fun h H => ?_)
  ·refine go ?_
   refine st hF 1 rfl fun s10 hF => ?_
   refine go ?_
   refine st hF 0 rfl fun s11 hF => ?_
   refine go ?_
   have e := pur H; subst e
   exact rt [.agg [sf Bnd.cells x22.1.binds, sf Mac.cells x22.1.macs, i6 x22.1.scope, i6 x22.1.id, i6 x22.1.steps], .agg [i6 0, i6 0, .str zB, i6 0, .Qab, i6 0, .str zB, i6 0, .Qab, .Qab, .Qab], i6 4]
  ·refine go ?_
   refine Qag hF rfl fun b12 s13 hF => ?_
   refine go ?_
   refine st hF 0 rfl fun s14 hF => ?_
   have hF := hF.nil 3 1
   refine go ?_
   obtain ⟨o31, ho31, H⟩ := bnd H
   refine Quu a1 a2 fx0 x22.1.binds x22.1.macs x22.1.scope x22.1.id x22.1.steps [] 0 _ ho31 _ rfl _ _ b1 b3 b5 b7 b12 ?_ ?_ _ _ .Qab S hF
   ·intro Qqp Qqq Qm5 Qqr Qqs Kfp he T33 s34 e32v0 tT hF
    have he := he.symm
    subst he
    dsimp only at H
    refine go ?_
    obtain ⟨x78, hx78, H⟩ := bnd H
    refine cl (Qev a2 Qm5 0 _ hx78) ?_
    refine go ?_
    refine Qag hF rfl fun b36 s37 hF => ?_
    refine go ?_
    refine st hF 0 rfl fun s38 hF => ?_
    refine go ?_
    obtain ⟨x80, hx80, H⟩ := bnd H
    refine cl (Qbe x78 _ hx80) ?_
    refine go ?_
    refine cdb H (fun h H => ?_) (fun h H => ?_)
    ·refine go ?_
     refine st hF 3 rfl fun s39 hF => ?_
     refine go ?_
     refine st hF 2 rfl fun s40 hF => ?_
     refine go ?_
     have e := pur H; subst e
     exact rt [.agg [sf Bnd.cells Qqp, sf Mac.cells Qqq, i6 Qm5, i6 Qqr, i6 Qqs], .agg [i6 0, i6 0, .str zB, i6 0, .Qab, i6 0, .str zB, i6 0, .Qab, .Qab, .Qab], i6 4]
    ·refine go ?_
     obtain ⟨x88, hx88, H⟩ := bnd H
     refine cl (C0 (Xpn.mk Qqp Qqq Qm5 Qqr Qqs) x78 _ hx88) ?_
     refine go ?_
     refine Qag hF rfl fun b41 s42 hF => ?_
     refine go ?_
     refine st hF 6 rfl fun s43 hF => ?_
     refine go ?_
     refine st hF 0 rfl fun s44 hF => ?_
     refine go ?_
     refine st hF 2 rfl fun s45 hF => ?_
     refine go ?_
     obtain ⟨E, hEq⟩ : ∃ E, E = EE s45 [b5, b7] := ⟨_, rfl⟩
     have n46 : ¬ E b41 := by rw [hEq]; exact EE.not (hF.at 0 rfl) (by simp only [List.mem_cons, List.not_mem_nil, or_false, not_or]; exact ⟨neL hF 0 4 rfl rfl (by decide), neL hF 0 3 rfl rfl (by decide)⟩)
     have n47 : ¬ E b36 := by rw [hEq]; exact EE.not (hF.at 1 rfl) (by simp only [List.mem_cons, List.not_mem_nil, or_false, not_or]; exact ⟨neL hF 1 4 rfl rfl (by decide), neL hF 1 3 rfl rfl (by decide)⟩)
     have n48 : ¬ E b12 := by rw [hEq]; exact EE.not (hF.at 2 rfl) (by simp only [List.mem_cons, List.not_mem_nil, or_false, not_or]; exact ⟨neL hF 2 4 rfl rfl (by decide), neL hF 2 3 rfl rfl (by decide)⟩)
     have n49 : ¬ E b3 := by rw [hEq]; exact EE.not (hF.at 5 rfl) (by simp only [List.mem_cons, List.not_mem_nil, or_false, not_or]; exact ⟨neL hF 5 4 rfl rfl (by decide), neL hF 5 3 rfl rfl (by decide)⟩)
     have n50 : ¬ E b1 := by rw [hEq]; exact EE.not (hF.at 6 rfl) (by simp only [List.mem_cons, List.not_mem_nil, or_false, not_or]; exact ⟨neL hF 6 4 rfl rfl (by decide), neL hF 6 3 rfl rfl (by decide)⟩)
     refine Qaq E [.v, .v, .v, .x, .x, .v] (by kernel_rfl) ?_
     have z := And.intro (Qaf (hF.at 0 rfl) n46) (And.intro (Qaf (hF.at 1 rfl) n47) (And.intro (Qaf (hF.at 2 rfl) n48) (And.intro (Qaf (hF.at 5 rfl) n49) (Qaf (hF.at 6 rfl) n50)))); refine gh ?_
     refine stK hF 4 (by rw [hEq]; exact EE.of (by simp)) rfl fun s51 hF => ?_
     have z := And.intro (Qaf (hF.at 0 rfl) n46) (And.intro (Qaf (hF.at 1 rfl) n47) (And.intro (Qaf (hF.at 2 rfl) n48) (And.intro (Qaf (hF.at 5 rfl) n49) (Qaf (hF.at 6 rfl) n50)))); refine gh ?_
     refine stK hF 3 (by rw [hEq]; exact EE.of (by simp)) rfl fun s52 hF => ?_
     have z := And.intro (Qaf (hF.at 0 rfl) n46) (And.intro (Qaf (hF.at 1 rfl) n47) (And.intro (Qaf (hF.at 2 rfl) n48) (And.intro (Qaf (hF.at 5 rfl) n49) (Qaf (hF.at 6 rfl) n50)))); refine gh ?_
     refine go ?_
     have e := pur H; subst e
     exact rt [.agg [sf Bnd.cells x88.1.binds, sf Mac.cells x88.1.macs, i6 x88.1.scope, i6 x88.1.id, i6 x88.1.steps], .agg [i6 5, i6 0, .str zB, i6 0, e32v0, i6 0, .str zB, i6 0, .Qab, .Qab, .sl true (rws Cor.cells [x88.2.1])], i6 x88.2.2]
   ·intro r hr s' hs
    subst hr
    have e := pur H; subst e
    first | exact hs | (try simp only [sf, i6, zB, Fm.Qaa, Xpn.Qaa, Cor.Qaa, Bnd.Qaa, Hit.Qaa, Rul.Qaa, Mac.Qaa, Stp.Qaa, Val.Qaa] at hs ⊢; exact hs)
theorem Qut : ∀ (a0 : Xpn) (a1 : Fm) (a2 : Int) r, Qbp a0 a1 a2 = some r -> Qb0 Tryz.prog 220 [.agg (Xpn.cells a0), .agg (Fm.cells a1), i6 a2] (.tup [.agg (Xpn.cells r.1), .agg (Cor.cells r.2.1), i6 r.2.2]) := fun a0 a1 a2 => (Qtb a2).1 a0 a1
theorem Qyj : ∀ (a0 : Int) (a1 : Int) r, Qle a0 a1 = some r -> Qb0 Tryz.prog 226 [i6 a0, i6 a1] (.bool r) := by
 intro a0 a1 r H
 intro ss
 unfold Qle at H
 refine Qau mixed Tryz.func226 rfl (by kernel_rfl) (rs := [.tmp 4]) rfl (by kernel_rfl) ?_
 have hF := Fx.refl ss
 have hX := Tau.none ss
 have q := dum
 have tT := dum
 refine go ?_
 obtain ⟨Ki5, j2, H⟩ := bnd H
 refine Qca (fun s' => ∃ (T : Nat -> AV) (ss1 : Sto), s' = ⟨T, ss1⟩ /\ (T 0 = i6 a0 /\ T 1 = i6 a1 /\ T 5 = i6 a0 /\ T 6 = .bool Ki5) /\ Fx ss ss1 [] []) (cdp j2 (fun h j2 => ?_) (fun h j2 => ?_)) ?_
 ·refine go ?_
  have e := pur j2
  subst e
  exact ⟨_, _, rfl, S, hF⟩
 ·refine go ?_
  refine cdp j2 (fun h j2 => ?_) (fun h j2 => ?_)
  ·refine go ?_
   have e := pur j2
   subst e
   exact ⟨_, _, rfl, S, hF⟩
  ·refine go ?_
   refine cdp j2 (fun h j2 => ?_) (fun h j2 => ?_)
   ·refine go ?_
    have e := pur j2
    subst e
    exact ⟨_, _, rfl, S, hF⟩
   ·refine go ?_
    have e := pur j2
    subst e
    exact ⟨_, _, rfl, S, hF⟩
 ·rintro s' ⟨T3, ss4, rfl, tT, hF⟩
  refine go ?_
  refine cdb H (fun h H => ?_) (fun h H => ?_)
  ·refine go ?_
   have e := pur H; subst e
   exact rt [.bool (decide (a1 = 0))]
  ·refine go ?_
   refine cdp H (fun h H => ?_) (fun h H => ?_)
   ·refine go ?_
    have e := pur H; subst e
    exact rt [.bool (decide (a1 = 1))]
   ·refine go ?_
    refine cdp H (fun h H => ?_) (fun h H => ?_)
    ·refine go ?_
     have e := pur H; subst e
     exact rt [.bool (decide (a1 ≥ 1))]
    ·refine go ?_
     obtain ⟨x26, g6, H⟩ := bnd H
     refine Qai 2 24 26 (.bool x26) (gi q (fun q => ?_) (fun q => ?_)) (fun J => ?_)
     ·refine go ?_
      exact Qaw 24 g6
     ·refine go ?_
      exact Qaw 24 g6
     refine go ?_
     have e := pur H; subst e
     exact rt [.bool x26]
theorem Quq : ∀ (a0 : Cor) r, Qix a0 = some r -> Qb0 Tryz.prog 227 [.agg (Cor.cells a0)] (.bool r) := by
 intro a0 r H
 intro ss
 unfold Qix at H
 refine Qau mixed Tryz.func227 rfl (by kernel_rfl) (rs := [.tmp 2]) rfl (by kernel_rfl) ?_
 have hF := Fx.refl ss
 have hX := Tau.none ss
 have q := dum
 have tT := dum
 refine go ?_
 refine Qag hF rfl fun b1 ss2 hF => ?_
 refine go ?_
 obtain ⟨x15, g3, H⟩ := bnd H
 refine Qai 8 7 15 (.bool x15) (gi q (fun q => ?_) (fun q => ?_)) (fun J => ?_)
 ·rw [if_pos (dt q)] at g3
  refine go ?_
  obtain ⟨x14, g5, g3⟩ := bnd g3
  refine Qai 3 11 14 (.bool x14) (giN q (fun q => ?_) (fun q => ?_)) (fun J => ?_)
  ·refine go ?_
   exact Qaw 11 g5
  ·refine go ?_
   exact Qaw 11 g5
  refine go ?_
  exact Qaw 7 g3
 ·rw [if_neg (df q)] at g3
  refine go ?_
  exact Qaw 7 g3
 refine go ?_
 obtain ⟨x25, g7, H⟩ := bnd H
 refine Qai 8 17 25 (.bool x25) (giN q (fun q => ?_) (fun q => ?_)) (fun J => ?_)
 ·rw [if_neg (dbf q)] at g7
  refine go ?_
  obtain ⟨x24, g9, g7⟩ := bnd g7
  refine Qai 3 21 24 (.bool x24) (gi q (fun q => ?_) (fun q => ?_)) (fun J => ?_)
  ·refine go ?_
   exact Qaw 21 g9
  ·refine go ?_
   exact Qaw 21 g9
  refine go ?_
  exact Qaw 17 g7
 ·rw [if_pos (dbt q)] at g7
  refine go ?_
  exact Qaw 17 g7
 refine go ?_
 refine cdb H (fun h H => ?_) (fun h H => ?_)
 ·refine go ?_
  have e := pur H; subst e
  exact rt [.bool false]
 ·refine go ?_
  obtain ⟨x34, g11, H⟩ := bnd H
  refine Qai 4 30 34 (.bool x34) (gi q (fun q => ?_) (fun q => ?_)) (fun J => ?_)
  ·rw [if_pos (dt q)] at g11
   refine go ?_
   obtain ⟨x32, hx32, g11⟩ := bnd g11
   refine cl (Qj0 a0.name _ hx32) ?_
   refine go ?_
   exact Qaw 30 g11
  ·rw [if_neg (df q)] at g11
   refine go ?_
   exact Qaw 30 g11
  refine go ?_
  obtain ⟨x44, g13, H⟩ := bnd H
  refine Qai 8 36 44 (.bool x44) (giN q (fun q => ?_) (fun q => ?_)) (fun J => ?_)
  ·rw [if_neg (dbf q)] at g13
   refine go ?_
   obtain ⟨x43, g15, g13⟩ := bnd g13
   refine Qai 3 40 43 (.bool x43) (gi q (fun q => ?_) (fun q => ?_)) (fun J => ?_)
   ·refine go ?_
    exact Qaw 40 g15
   ·refine go ?_
    exact Qaw 40 g15
   refine go ?_
   exact Qaw 36 g13
  ·rw [if_pos (dbt q)] at g13
   refine go ?_
   exact Qaw 36 g13
  refine go ?_
  refine cdb H (fun h H => ?_) (fun h H => ?_)
  ·refine go ?_
   have e := pur H; subst e
   exact rt [.bool false]
  ·refine go ?_
   obtain ⟨x57, g17, H⟩ := bnd H
   refine Qai 8 49 57 (.bool x57) (gi q (fun q => ?_) (fun q => ?_)) (fun J => ?_)
   ·rw [if_pos (dt q)] at g17
    refine go ?_
    obtain ⟨x56, g19, g17⟩ := bnd g17
    refine Qai 3 53 56 (.bool x56) (giN q (fun q => ?_) (fun q => ?_)) (fun J => ?_)
    ·refine go ?_
     exact Qaw 53 g19
    ·refine go ?_
     exact Qaw 53 g19
    refine go ?_
    exact Qaw 49 g17
   ·rw [if_neg (df q)] at g17
    refine go ?_
    exact Qaw 49 g17
   refine go ?_
   obtain ⟨x67, g21, H⟩ := bnd H
   refine Qai 8 59 67 (.bool x67) (giN q (fun q => ?_) (fun q => ?_)) (fun J => ?_)
   ·rw [if_neg (dbf q)] at g21
    refine go ?_
    obtain ⟨x66, g23, g21⟩ := bnd g21
    refine Qai 3 63 66 (.bool x66) (gi q (fun q => ?_) (fun q => ?_)) (fun J => ?_)
    ·refine go ?_
     exact Qaw 63 g23
    ·refine go ?_
     exact Qaw 63 g23
    refine go ?_
    exact Qaw 59 g21
   ·rw [if_pos (dbt q)] at g21
    refine go ?_
    exact Qaw 59 g21
   refine go ?_
   refine cdb H (fun h H => ?_) (fun h H => ?_)
   ·refine go ?_
    have e := pur H; subst e
    exact rt [.bool false]
   ·refine go ?_
    refine Qaq E0 [.v, .v, .v, .v, .v, .v, .v, .v, .v, .v, .v, .v, .v, .v, .v, .v, .v, .v, .v, .v, .v, .v, .v, .v, .v, .v, .v, .v, .v, .v] (by kernel_rfl) ?_
    refine go ?_
    obtain ⟨x85, g25, H⟩ := bnd H
    refine Qb4 13 72 85 (.bool x85) (ti q (fun q => ?_) (fun q => ?_)) (fun J => ?_)
    ·rw [if_pos (dt q)] at g25
     refine go ?_
     obtain ⟨x74, hx74, g25⟩ := bnd g25
     refine cv (Qbe a0.data _ hx74) ?_
     refine go ?_
     obtain ⟨x84, g27, g25⟩ := bnd g25
     refine Qb4 7 77 84 (.bool x84) (tiN q (fun q => ?_) (fun q => ?_)) (fun J => ?_)
     ·rw [if_neg (dbf q)] at g27
      refine go ?_
      obtain ⟨x79, hx79, g27⟩ := bnd g27
      refine cv (Qmr a0.data _ hx79) ?_
      refine go ?_
      obtain ⟨x82, hx82, g27⟩ := bnd g27
      refine cv (Qgi x79 a0.data _ hx82) ?_
      refine go ?_
      exact Qaw 77 g27
     ·rw [if_pos (dbt q)] at g27
      refine go ?_
      exact Qaw 77 g27
     refine go ?_
     exact Qaw 72 g25
    ·rw [if_neg (df q)] at g25
     refine go ?_
     exact Qaw 72 g25
    refine go ?_
    obtain ⟨x97, g29, H⟩ := bnd H
    refine Qb4 10 87 97 (.bool x97) (tiN q (fun q => ?_) (fun q => ?_)) (fun J => ?_)
    ·rw [if_neg (dbf q)] at g29
     refine go ?_
     obtain ⟨x96, g31, g29⟩ := bnd g29
     refine Qb4 5 91 96 (.bool x96) (ti q (fun q => ?_) (fun q => ?_)) (fun J => ?_)
     ·rw [if_neg (dnt q)] at g31
      refine go ?_
      obtain ⟨x94, hx94, g31⟩ := bnd g31
      refine cv (Qgi a0.data (Fm.mk 0 zB 0 [] []) _ hx94) ?_
      refine go ?_
      exact Qaw 91 g31
     ·rw [if_pos (dnf q)] at g31
      refine go ?_
      exact Qaw 91 g31
     refine go ?_
     exact Qaw 87 g29
    ·rw [if_pos (dbt q)] at g29
     refine go ?_
     exact Qaw 87 g29
    refine go ?_
    refine cdb H (fun h H => ?_) (fun h H => ?_)
    ·refine go ?_
     have e := pur H; subst e
     exact rt [.bool false]
    ·refine go ?_
     obtain ⟨x106, g33, H⟩ := bnd H
     refine Qai 4 102 106 (.bool x106) (giN q (fun q => ?_) (fun q => ?_)) (fun J => ?_)
     ·refine go ?_
      exact Qaw 102 g33
     ·refine go ?_
      exact Qaw 102 g33
     refine go ?_
     have e := pur H; subst e
     exact rt [.bool x106]
theorem Qwu : ∀ (a0 : Cor) (a2 : Int) (Qa2 : List Int) (Qby : Int) out, Qgr a0 a2 Qa2 Qby = some out -> ∀ c, Qam Tryz.f184 0 = some c -> ∀ (Q : AX -> AS -> Prop) (tt : Sto) (b1 : Nat), (∀ (Kam : List Int), out = Sum.inr Kam -> ∀ (T : Nat -> AV) (ss : Sto), T 2 = i6 a2 /\ T 3 = .ptr b1 0 /\ T 7 = sf cI Kam -> Fx tt ss [(b1, ⟨31, 11, [i6 a0.kind, i6 a0.id, .str a0.name, i6 a0.num, sf cI a0.ids, i6 a0.data.kind, .str a0.data.name, i6 a0.data.num, sf cI a0.data.sc, sf Fm.cells a0.data.kids, sf Cor.cells a0.kids]⟩)] [] -> Q (.ex 0) ⟨T, ss⟩) -> (∀ r, out = Sum.inl r -> ∀ s', Qkk Tryz.prog [.tmp 6] (fun r' ss' => r' = .bool r /\ ss' = tt) s' -> Q .ret s') -> ∀ (T : Nat -> AV) (ss : Sto), T 2 = i6 a2 /\ T 3 = .ptr b1 0 /\ T 7 = sf cI Qa2 /\ T 8 = i6 Qby -> Fx tt ss [(b1, ⟨31, 11, [i6 a0.kind, i6 a0.id, .str a0.name, i6 a0.num, sf cI a0.ids, i6 a0.data.kind, .str a0.data.name, i6 a0.data.num, sf cI a0.data.sc, sf Fm.cells a0.data.kids, sf Cor.cells a0.kids]⟩)] [] -> Qbr (Qbc Tryz.prog c) Q ⟨T, ss⟩ := by
 intro a0 a2 Qa2 Qby
 revert Qa2 Qby
 refine Qgr.partial_correctness a0 a2 _ ?_
 intro Qgr IH Qa2 Qby out H c hc Q tt b1 hE hR T ss tT hF
 obtain rfl := lpe (rfl : Qam Tryz.f184 0 = some _) hc
 refine Qah ?_
 have q := dum
 have hX := Tau.none tt
 refine go ?_
 refine cdp H (fun h H => ?_) (fun h H => ?_)
 ·obtain ⟨x49, f1, H⟩ := bil (g := cI) (fun _ => rfl) H
  refine go1 ?_
  obtain ⟨x59, g11, H⟩ := bnd H
  refine Qai 6 53 59 (.bool x59) (giN q (fun q => ?_) (fun q => ?_)) (fun J => ?_)
  ·rw [if_neg (df q)] at g11
   obtain ⟨x56, f1, g11⟩ := bil (g := cI) (fun _ => rfl) g11
   refine go1 ?_
   refine go ?_
   exact Qaw 53 g11
  ·rw [if_pos (dt q)] at g11
   refine go ?_
   exact Qaw 53 g11
  refine go ?_
  obtain ⟨x68, g13, H⟩ := bnd H
  refine Qai 7 61 68 (.bool x68) (giN q (fun q => ?_) (fun q => ?_)) (fun J => ?_)
  ·rw [if_neg (dbf q)] at g13
   obtain ⟨x65, f1, g13⟩ := bil (g := cI) (fun _ => rfl) g13
   refine go1 ?_
   obtain ⟨x67, hx67, g13⟩ := bnd g13
   refine cl (Qjt Qa2 x65 _ hx67) ?_
   refine go ?_
   exact Qaw 61 g13
  ·rw [if_pos (dbt q)] at g13
   refine go ?_
   exact Qaw 61 g13
  refine go ?_
  refine cdb H (fun h H => ?_) (fun h H => ?_)
  ·refine go ?_
   exact hR _ (pur H).symm _ (rt [.bool false])
  ·refine go ?_
   refine Qqn E0 [.v, .v, .v, .v, .v, .v, .v, .v, .x, .x, .v] [0, 1, 3, 4, 5, 6, 7, 8, 2, 9, 10] (by kernel_rfl) ?_
   obtain ⟨x75, f1, H⟩ := bil (g := cI) (fun _ => rfl) H
   refine go1 ?_
   have hF := hF.lit 3 1 (rws cI []) rfl
   refine Q0w (g := cI) hF 0 H (rdo (c := false) (g := cI) (fun _ => rfl)) fun x71 H v15 s16 hF => ?_
   refine go ?_
   refine Knv (g := cI) hF 0 H (rdo (c := true) (g := cI) (fun _ => rfl)) fun x78 H s18 hF => ?_
   refine go ?_
   exact IH  x78 (i64.wrap (Qby + 1)) _ H _ rfl Q tt b1 hE hR _ _  S hF
 ·refine go ?_
  exact hE _ (pur H).symm _ _  S hF
theorem Q2l : ∀ (a0 : Cor) (a1 : List Int) (a2 : Int) r, Qjv a0 a1 a2 = some r -> Qb0 Tryz.prog 184 [.agg (Cor.cells a0), sf cI a1, i6 a2] (.bool r) := by
 refine Qjv.partial_correctness  (motive_1 := fun a0 a1 a2 r => Qb0 Tryz.prog 184 [.agg (Cor.cells a0), sf cI a1, i6 a2] (.bool r)) (motive_2 := fun a0 a2 Qiy Qif out => ∀ c, Qam Tryz.f184 1 = some c -> ∀ (Q : AX -> AS -> Prop) (tt : Sto) (b1 : Nat), (∀ (_u : Unit), out = Sum.inr () -> ∀ (T : Nat -> AV) (ss : Sto), 0 + 0 = 0 -> Fx tt ss [(b1, ⟨31, 11, [i6 a0.kind, i6 a0.id, .str a0.name, i6 a0.num, sf cI a0.ids, i6 a0.data.kind, .str a0.data.name, i6 a0.data.num, sf cI a0.data.sc, sf Fm.cells a0.data.kids, sf Cor.cells a0.kids]⟩)] [] -> Q (.ex 2) ⟨T, ss⟩) -> (∀ r, out = Sum.inl r -> ∀ s', Qkk Tryz.prog [.tmp 6] (fun r' ss' => r' = .bool r /\ ss' = tt) s' -> Q .ret s') -> ∀ (T : Nat -> AV) (ss : Sto), T 2 = i6 a2 /\ T 3 = .ptr b1 0 /\ T 7 = sf cI Qiy /\ T 9 = i6 Qif -> Fx tt ss [(b1, ⟨31, 11, [i6 a0.kind, i6 a0.id, .str a0.name, i6 a0.num, sf cI a0.ids, i6 a0.data.kind, .str a0.data.name, i6 a0.data.num, sf cI a0.data.sc, sf Fm.cells a0.data.kids, sf Cor.cells a0.kids]⟩)] [] -> Qbr (Qbc Tryz.prog c) Q ⟨T, ss⟩) ?_ ?_
 ·intro Qhp L0 a0 a1 a2 r H
  intro ss
  refine Qau mixed Tryz.func184 rfl (by kernel_rfl) (rs := [.tmp 6]) rfl (by kernel_rfl) ?_
  have hF := Fx.refl ss
  have hX := Tau.none ss
  have q := dum
  have tT := dum
  refine go ?_
  refine Qag hF rfl fun b1 ss2 hF => ?_
  refine go ?_
  obtain ⟨x20, g3, H⟩ := bnd H
  refine Qai 7 13 20 (.bool x20) (giN q (fun q => ?_) (fun q => ?_)) (fun J => ?_)
  ·rw [if_neg (df q)] at g3
   refine go ?_
   obtain ⟨x18, hx18, g3⟩ := bnd g3
   refine cl (Qyj a0.kind (a0.kids.length : Int) _ hx18) ?_
   refine go ?_
   exact Qaw 13 g3
  ·rw [if_pos (dt q)] at g3
   refine go ?_
   exact Qaw 13 g3
  refine go ?_
  obtain ⟨x25, g5, H⟩ := bnd H
  refine Qai 3 22 25 (.bool x25) (giN q (fun q => ?_) (fun q => ?_)) (fun J => ?_)
  ·rw [if_neg (dbf q)] at g5
   refine go ?_
   obtain ⟨x23, hx23, g5⟩ := bnd g5
   refine cl (Quq a0 _ hx23) ?_
   refine go ?_
   exact Qaw 22 g5
  ·rw [if_pos (dbt q)] at g5
   refine go ?_
   exact Qaw 22 g5
  refine go ?_
  obtain ⟨x37, g7, H⟩ := bnd H
  refine Qai 10 27 37 (.bool x37) (giN q (fun q => ?_) (fun q => ?_)) (fun J => ?_)
  ·rw [if_neg (dbf q)] at g7
   refine go ?_
   obtain ⟨x36, g9, g7⟩ := bnd g7
   refine Qai 5 31 36 (.bool x36) (gi q (fun q => ?_) (fun q => ?_)) (fun J => ?_)
   ·rw [if_pos (dt q)] at g9
    refine go ?_
    obtain ⟨x34, hx34, g9⟩ := bnd g9
    refine cl (Qjt a1 a0.id _ hx34) ?_
    refine go ?_
    exact Qaw 31 g9
   ·rw [if_neg (df q)] at g9
    refine go ?_
    exact Qaw 31 g9
   refine go ?_
   exact Qaw 27 g7
  ·rw [if_pos (dbt q)] at g7
   refine go ?_
   exact Qaw 27 g7
  refine go ?_
  refine cdb H (fun h H => ?_) (fun h H => ?_)
  ·refine go ?_
   have e := pur H; subst e
   exact rt [.bool false]
  ·refine go ?_
   obtain ⟨o19, ho19, H⟩ := bnd H
   refine Qwu a0 a2 a1 0 _ ho19 _ rfl _ _ b1 ?_ ?_ _ _  S hF
   ·intro Qiy he T21 s22 tT hF
    have he := he.symm
    subst he
    dsimp only at H
    refine go ?_
    obtain ⟨o24, ho24, H⟩ := bnd H
    refine L0 a0 a2 Qiy 0 _ ho24 _ rfl _ _ b1 ?_ ?_ _ _  S hF
    ·intro _ he T26 s27 tT hF
     have he := he.symm
     subst he
     dsimp only at H
     refine go ?_
     have e := pur H; subst e
     exact rt [.bool true]
    ·intro r hr s' hs
     subst hr
     have e := pur H; subst e
     first | exact hs | (try simp only [sf, i6, zB, Fm.Qaa, Xpn.Qaa, Cor.Qaa, Bnd.Qaa, Hit.Qaa, Rul.Qaa, Mac.Qaa, Stp.Qaa, Val.Qaa] at hs ⊢; exact hs)
   ·intro r hr s' hs
    subst hr
    have e := pur H; subst e
    first | exact hs | (try simp only [sf, i6, zB, Fm.Qaa, Xpn.Qaa, Cor.Qaa, Bnd.Qaa, Hit.Qaa, Rul.Qaa, Mac.Qaa, Stp.Qaa, Val.Qaa] at hs ⊢; exact hs)
 ·intro Qjv Qhp C0 L0 a0 a2 Qiy Qif out H c hc Q tt b1 hE hR T ss tT hF
  obtain rfl := lpe (rfl : Qam Tryz.f184 1 = some _) hc
  refine Qah ?_
  have q := dum
  have hX := Tau.none tt
  refine go ?_
  refine cdp H (fun h H => ?_) (fun h H => ?_)
  ·obtain ⟨x89, f1, H⟩ := bil (g := Cor.cells) Cor.Qad H
   refine go1 ?_
   obtain ⟨x94, hx94, H⟩ := bnd H
   refine cl (C0 x89 Qiy (i64.wrap (a2 - 1)) _ hx94) ?_
   refine go ?_
   refine cdb H (fun h H => ?_) (fun h H => ?_)
   ·refine go ?_
    exact hR _ (pur H).symm _ (rt [.bool false])
   ·refine go ?_
    exact L0 a0 a2 Qiy (i64.wrap (Qif + 1)) _ H _ rfl Q tt b1 hE hR _ _  S hF
  ·refine go ?_
   exact hE () (pur H).symm _ _  S hF
theorem Qwt : ∀ (a0 : Cor) r, Qho a0 = some r -> Qb0 Tryz.prog 185 [.agg (Cor.cells a0)] (i6 r) := by
 refine Qho.partial_correctness  (motive_1 := fun a0 r => Qb0 Tryz.prog 185 [.agg (Cor.cells a0)] (i6 r)) (motive_2 := fun a0 Qa1 Qba out => ∀ c, Qam Tryz.f185 0 = some c -> ∀ (Q : AX -> AS -> Prop) (tt : Sto) (b1 : Nat), (∀ (Qqo : Int), out = Qqo -> ∀ (T : Nat -> AV) (ss : Sto), T 3 = i6 Qqo -> Fx tt ss [(b1, ⟨31, 11, [i6 a0.kind, i6 a0.id, .str a0.name, i6 a0.num, sf cI a0.ids, i6 a0.data.kind, .str a0.data.name, i6 a0.data.num, sf cI a0.data.sc, sf Fm.cells a0.data.kids, sf Cor.cells a0.kids]⟩)] [] -> Q (.ex 0) ⟨T, ss⟩) -> True -> ∀ (T : Nat -> AV) (ss : Sto), T 1 = .ptr b1 0 /\ T 3 = i6 Qa1 /\ T 4 = i6 Qba -> Fx tt ss [(b1, ⟨31, 11, [i6 a0.kind, i6 a0.id, .str a0.name, i6 a0.num, sf cI a0.ids, i6 a0.data.kind, .str a0.data.name, i6 a0.data.num, sf cI a0.data.sc, sf Fm.cells a0.data.kids, sf Cor.cells a0.kids]⟩)] [] -> Qbr (Qbc Tryz.prog c) Q ⟨T, ss⟩) ?_ ?_
 ·intro Qen L0 a0 r H
  intro ss
  refine Qau mixed Tryz.func185 rfl (by kernel_rfl) (rs := [.tmp 2]) rfl (by kernel_rfl) ?_
  have hF := Fx.refl ss
  have hX := Tau.none ss
  have q := dum
  have tT := dum
  refine go ?_
  refine Qag hF rfl fun b1 ss2 hF => ?_
  refine go ?_
  obtain ⟨o3, ho3, H⟩ := bnd H
  refine L0 a0 1 0 _ ho3 _ rfl _ _ b1 ?_ ?_ _ _  S hF
  ·intro Q3q he T5 ss6 tT hF
   have he := he.symm
   subst he
   refine go ?_
   have e := pur H; subst e
   exact rt [i6 Q3q]
  ·trivial
 ·intro Qho Qen C0 L0 a0 Qa1 Qba out H c hc Q tt b1 hE hR T ss tT hF
  obtain rfl := lpe (rfl : Qam Tryz.f185 0 = some _) hc
  refine Qah ?_
  have q := dum
  have hX := Tau.none tt
  refine go ?_
  refine cdp H (fun h H => ?_) (fun h H => ?_)
  ·obtain ⟨x16, f1, H⟩ := bil (g := Cor.cells) Cor.Qad H
   refine go1 ?_
   obtain ⟨x18, hx18, H⟩ := bnd H
   refine cl (C0 x16 _ hx18) ?_
   refine go ?_
   exact L0 a0 (i64.wrap (Qa1 + x18)) (i64.wrap (Qba + 1)) _ H _ rfl Q tt b1 hE hR _ _  S hF
  ·refine go ?_
   exact hE _ (pur H).symm _ _  S hF
theorem Qmo : ∀ (a0 : Cor) r, Qh6 a0 = some r -> Qb0 Tryz.prog 140 [.agg (Cor.cells a0)] (.bool r) := by
 intro a0 r H
 intro ss
 unfold Qh6 at H
 refine Qau mixed Tryz.func140 rfl (by kernel_rfl) (rs := [.tmp 2]) rfl (by kernel_rfl) ?_
 have hF := Fx.refl ss
 have hX := Tau.none ss
 have q := dum
 have tT := dum
 refine go ?_
 refine Qag hF rfl fun b1 ss2 hF => ?_
 refine go ?_
 obtain ⟨x5, hx5, H⟩ := bnd H
 refine cl (Q2l a0 [] 120 _ hx5) ?_
 refine go ?_
 obtain ⟨x10, g3, H⟩ := bnd H
 refine Qai 3 7 10 (.bool x10) (gi q (fun q => ?_) (fun q => ?_)) (fun J => ?_)
 ·rw [if_pos (dbt q)] at g3
  refine go ?_
  obtain ⟨x8, hx8, g3⟩ := bnd g3
  refine cl (Qwt a0 _ hx8) ?_
  refine go ?_
  exact Qaw 7 g3
 ·rw [if_neg (dbf q)] at g3
  refine go ?_
  exact Qaw 7 g3
 refine go ?_
 have e := pur H; subst e
 exact rt [.bool x10]
theorem Q0l : ∀ (a0 : Fm) (a1 : Int) r, Qmw a0 a1 = some r -> Qb0 Tryz.prog 182 [.agg (Fm.cells a0), i6 a1] (.tup [.agg (Xpn.cells r.1), .agg (Cor.cells r.2.1), i6 r.2.2]) := by
 intro a0 a1 r H
 intro ss
 unfold Qmw at H
 refine Qau mixed Tryz.func182 rfl (by kernel_rfl) (rs := [.cell 4 203, .cell 5 31, .tmp 6]) rfl (by kernel_rfl) ?_
 have hF := Fx.refl ss
 have hX := Tau.none ss
 have q := dum
 have tT := dum
 refine go ?_
 refine Qag hF rfl fun b1 ss2 hF => ?_
 refine go ?_
 refine Qag hF rfl fun b3 ss4 hF => ?_
 refine go ?_
 refine Qag hF rfl fun b5 ss6 hF => ?_
 refine go ?_
 obtain ⟨x11, hx11, H⟩ := bnd H
 refine cl (Qbe a0 _ hx11) ?_
 refine go ?_
 obtain ⟨x16, g7, H⟩ := bnd H
 refine Qai 2 14 16 (.bool x16) (giN q (fun q => ?_) (fun q => ?_)) (fun J => ?_)
 ·refine go ?_
  exact Qaw 14 g7
 ·refine go ?_
  exact Qaw 14 g7
 refine go ?_
 obtain ⟨x20, g9, H⟩ := bnd H
 refine Qai 2 18 20 (.bool x20) (giN q (fun q => ?_) (fun q => ?_)) (fun J => ?_)
 ·refine go ?_
  exact Qaw 18 g9
 ·refine go ?_
  exact Qaw 18 g9
 refine go ?_
 refine cdb H (fun h H => ?_) (fun h H => ?_)
 ·refine go ?_
  refine st hF 1 rfl fun s11 hF => ?_
  refine go ?_
  refine st hF 0 rfl fun s12 hF => ?_
  refine go ?_
  have e := pur H; subst e
  exact rt [.agg [.Qab, .Qab, i6 0, i6 0, i6 0], .agg [i6 0, i6 0, .str zB, i6 0, .Qab, i6 0, .str zB, i6 0, .Qab, .Qab, .Qab], i6 6]
 ·refine go ?_
  obtain ⟨E, hEq⟩ : ∃ E, E = EE ss6 [] := ⟨_, rfl⟩
  have n13 : ¬ E b5 := by rw [hEq]; exact EE.not (hF.at 0 rfl) (by simp)
  have n14 : ¬ E b3 := by rw [hEq]; exact EE.not (hF.at 1 rfl) (by simp)
  have n15 : ¬ E b1 := by rw [hEq]; exact EE.not (hF.at 2 rfl) (by simp)
  refine Qaq E [.v, .v, .v, .v, .v, .v, .v, .v, .x, .x, .x, .x, .v] (by kernel_rfl) ?_
  have z := And.intro (Qaf (hF.at 0 rfl) n13) (And.intro (Qaf (hF.at 1 rfl) n14) (Qaf (hF.at 2 rfl) n15)); refine gh ?_
  obtain ⟨x24, hx24, H⟩ := bnd H
  refine cv (Qnw  _ hx24) ?_
  have z := And.intro (Qaf (hF.at 0 rfl) n13) (And.intro (Qaf (hF.at 1 rfl) n14) (Qaf (hF.at 2 rfl) n15)); refine gh ?_
  obtain ⟨x27, hx27, H⟩ := bnd H
  refine cv (Qut x24 a0 a1 _ hx27) ?_
  have z := And.intro (Qaf (hF.at 0 rfl) n13) (And.intro (Qaf (hF.at 1 rfl) n14) (Qaf (hF.at 2 rfl) n15)); refine gh ?_
  refine Qml hF rfl fun b16 s17 nw18 mo19 hF => ?_
  have z := And.intro (Qaf (hF.at 1 rfl) n13) (And.intro (Qaf (hF.at 2 rfl) n14) (Qaf (hF.at 3 rfl) n15)); refine gh ?_
  refine Qml hF rfl fun b20 s21 nw22 mo23 hF => ?_
  have z := And.intro (Qaf (hF.at 2 rfl) n13) (And.intro (Qaf (hF.at 3 rfl) n14) (Qaf (hF.at 4 rfl) n15)); refine gh ?_
  refine stK hF 1 (show E _ from ((em0 hEq) _ nw18)) rfl fun s24 hF => ?_
  have z := And.intro (Qaf (hF.at 2 rfl) n13) (And.intro (Qaf (hF.at 3 rfl) n14) (Qaf (hF.at 4 rfl) n15)); refine gh ?_
  refine stK hF 0 (show E _ from ((fun x h => (em0 hEq) x (mo19 x h)) _ nw22)) rfl fun s25 hF => ?_
  have z := And.intro (Qaf (hF.at 2 rfl) n13) (And.intro (Qaf (hF.at 3 rfl) n14) (Qaf (hF.at 4 rfl) n15)); refine gh ?_
  refine go ?_
  refine cdn H (fun h H => ?_) (fun h H => ?_)
  ·refine go ?_
   refine st hF 3 rfl fun s26 hF => ?_
   refine go ?_
   refine st hF 2 rfl fun s27 hF => ?_
   refine go ?_
   have e := pur H; subst e
   exact rt [.agg [.Qab, .Qab, i6 0, i6 0, i6 0], .agg [i6 0, i6 0, .str zB, i6 0, .Qab, i6 0, .str zB, i6 0, .Qab, .Qab, .Qab], i6 x27.2.2]
  ·refine go ?_
   obtain ⟨x37, hx37, H⟩ := bnd H
   refine cl (Qmo x27.2.1 _ hx37) ?_
   refine go ?_
   refine cdb H (fun h H => ?_) (fun h H => ?_)
   ·refine go ?_
    refine st hF 3 rfl fun s28 hF => ?_
    refine go ?_
    refine st hF 2 rfl fun s29 hF => ?_
    refine go ?_
    have e := pur H; subst e
    exact rt [.agg [.Qab, .Qab, i6 0, i6 0, i6 0], .agg [i6 0, i6 0, .str zB, i6 0, .Qab, i6 0, .str zB, i6 0, .Qab, .Qab, .Qab], i6 4]
   ·refine go ?_
    obtain ⟨E, hEq⟩ : ∃ E, E = EE s25 [b3, b5] := ⟨_, rfl⟩
    have n30 : ¬ E b20 := by rw [hEq]; exact EE.not (hF.at 0 rfl) (by simp only [List.mem_cons, List.not_mem_nil, or_false, not_or]; exact ⟨neL hF 0 3 rfl rfl (by decide), neL hF 0 2 rfl rfl (by decide)⟩)
    have n31 : ¬ E b16 := by rw [hEq]; exact EE.not (hF.at 1 rfl) (by simp only [List.mem_cons, List.not_mem_nil, or_false, not_or]; exact ⟨neL hF 1 3 rfl rfl (by decide), neL hF 1 2 rfl rfl (by decide)⟩)
    have n32 : ¬ E b1 := by rw [hEq]; exact EE.not (hF.at 4 rfl) (by simp only [List.mem_cons, List.not_mem_nil, or_false, not_or]; exact ⟨neL hF 4 3 rfl rfl (by decide), neL hF 4 2 rfl rfl (by decide)⟩)
    refine Qaq E [.v, .v, .x, .x, .v] (by kernel_rfl) ?_
    have z := And.intro (Qaf (hF.at 0 rfl) n30) (And.intro (Qaf (hF.at 1 rfl) n31) (Qaf (hF.at 4 rfl) n32)); refine gh ?_
    refine stK hF 3 (by rw [hEq]; exact EE.of (by simp)) rfl fun s33 hF => ?_
    have z := And.intro (Qaf (hF.at 0 rfl) n30) (And.intro (Qaf (hF.at 1 rfl) n31) (Qaf (hF.at 4 rfl) n32)); refine gh ?_
    refine stK hF 2 (by rw [hEq]; exact EE.of (by simp)) rfl fun s34 hF => ?_
    have z := And.intro (Qaf (hF.at 0 rfl) n30) (And.intro (Qaf (hF.at 1 rfl) n31) (Qaf (hF.at 4 rfl) n32)); refine gh ?_
    refine go ?_
    have e := pur H; subst e
    exact rt [.agg [sf Bnd.cells x27.1.binds, sf Mac.cells x27.1.macs, i6 x27.1.scope, i6 x27.1.id, i6 x27.1.steps], .agg [i6 x27.2.1.kind, i6 x27.2.1.id, .str x27.2.1.name, i6 x27.2.1.num, sf cI x27.2.1.ids, i6 x27.2.1.data.kind, .str x27.2.1.data.name, i6 x27.2.1.data.num, sf cI x27.2.1.data.sc, sf Fm.cells x27.2.1.data.kids, sf Cor.cells x27.2.1.kids], i6 0]
theorem Qq4 : ∀ (a0 : Fm) (a1 : Int) r, Qij a0 a1 = some r -> Qb0 Tryz.prog 138 [.agg (Fm.cells a0), i6 a1] (.tup [.agg (Cor.cells r.1), i6 r.2]) := by
 intro a0 a1 r H
 intro ss
 unfold Qij at H
 refine Qau mixed Tryz.func138 rfl (by kernel_rfl) (rs := [.cell 4 31, .tmp 5]) rfl (by kernel_rfl) ?_
 have hF := Fx.refl ss
 have hX := Tau.none ss
 have q := dum
 have tT := dum
 refine go ?_
 refine Qag hF rfl fun b1 ss2 hF => ?_
 refine go ?_
 refine Qag hF rfl fun b3 ss4 hF => ?_
 refine go ?_
 obtain ⟨x12, hx12, H⟩ := bnd H
 refine cl (Q0l a0 a1 _ hx12) ?_
 refine go ?_
 refine Qag hF rfl fun b5 ss6 hF => ?_
 refine go ?_
 refine Qag hF rfl fun b7 s8 hF => ?_
 refine go ?_
 refine st hF 1 rfl fun s9 hF => ?_
 refine go ?_
 refine st hF 0 rfl fun s10 hF => ?_
 refine go ?_
 obtain ⟨x17, hx17, H⟩ := bnd H
 refine cl (Qmd x12.2.1 _ hx17) ?_
 refine go ?_
 refine st hF 2 rfl fun s11 hF => ?_
 refine go ?_
 have e := pur H; subst e
 exact rt [.agg [i6 x17.kind, i6 x17.id, .str x17.name, i6 x17.num, sf cI x17.ids, i6 x17.data.kind, .str x17.data.name, i6 x17.data.num, sf cI x17.data.sc, sf Fm.cells x17.data.kids, sf Cor.cells x17.kids], i6 x12.2.2]
theorem Qo6 : ∀ (a0 : List Int) r, Qg6 a0 = some r -> Qb0 Tryz.prog 84 [sf cU a0] (.tup [.agg (Cor.cells r.1), i6 r.2]) := by
 intro a0 r H
 intro ss
 unfold Qg6 at H
 refine Qau mixed Tryz.func84 rfl (by kernel_rfl) (rs := [.cell 2 31, .tmp 3]) rfl (by kernel_rfl) ?_
 have hF := Fx.refl ss
 have hX := Tau.none ss
 have q := dum
 have tT := dum
 refine go ?_
 refine Qag hF rfl fun b1 ss2 hF => ?_
 refine go ?_
 obtain ⟨x8, hx8, H⟩ := bnd H
 refine cx (Qjs a0 _ hx8   _ (pre 0 0 0 hF hX)) ?_
 rintro _ ss4 ⟨tt5, b3, rfl, hT, hG⟩
 have nw7 : ss2.var b3 = none := (hT.off b3 (by simp)).symm.trans (hG.var _ (List.mem_cons_self ..)).2.1
 have hF := Qxq 0 0 hF hX hT hG
 refine go ?_
 obtain ⟨x10, hx10, H⟩ := bnd H
 refine cx (Qan 4 x8 _ hx10 b3  _ (pre 1 0 0 hF hX)) ?_
 rintro _ s8 ⟨tt9, rfl, hT, hG⟩
 have hF := Qxq 1 0 hF hX hT hG
 refine go ?_
 refine cdp H (fun h H => ?_) (fun h H => ?_)
 ·refine go ?_
  obtain ⟨x13, hx13, H⟩ := bnd H
  refine cl (Qpm a0 _ hx13) ?_
  refine go ?_
  refine st hF 1 rfl fun s11 hF => ?_
  refine go ?_
  have e := pur H; subst e
  exact rt [.agg [i6 x13.kind, i6 x13.id, .str x13.name, i6 x13.num, sf cI x13.ids, i6 x13.data.kind, .str x13.data.name, i6 x13.data.num, sf cI x13.data.sc, sf Fm.cells x13.data.kids, sf Cor.cells x13.kids], i6 200]
 ·refine go ?_
  obtain ⟨x16, hx16, H⟩ := bnd H
  refine cx (Qyp x10.2 _ hx16 b3  _ (pre 1 0 0 hF hX)) ?_
  rintro _ s12 ⟨t13, rfl, hT, hG⟩
  have hF := Qxq 1 0 hF hX hT hG
  refine go ?_
  obtain ⟨x17, hx17, H⟩ := bnd H
  refine cl (Qq4 x16.1 20 _ hx17) ?_
  refine go ?_
  refine Qag hF rfl fun b15 s16 hF => ?_
  refine go ?_
  refine st hF 0 rfl fun s17 hF => ?_
  refine go ?_
  obtain ⟨⟨Qvc, Qvd, Qr2, Qve, Qvf, Qvg, Qvh, Qvi, Qvj, Qvk, Qvl⟩, j19, H⟩ := bnd H
  refine Qca (fun s' => ∃ (T : Nat -> AV) (ss1 : Sto), s' = ⟨T, ss1⟩ /\ (T 2 = .ptr b1 0 /\ T 4 = .ptr b3 0 /\ T 5 = .ptr b15 0) /\ Fx ss ss1 [(b15, ⟨31, 11, [i6 Qvc, i6 Qvd, .str Qve, i6 Qvf, sf cI Qvg, i6 Qvh, .str Qvi, i6 Qvj, sf cI Qvk, sf Fm.cells Qvl, sf Cor.cells Qr2]⟩), (b3, ⟨122, 2, [sf cU x16.2.b, i6 x16.2.p]⟩), (b1, ⟨31, 11, [i6 0, i6 0, .str zB, i6 0, .Qab, i6 0, .str zB, i6 0, .Qab, .Qab, .Qab]⟩)] []) (cdn j19 (fun h j19 => ?_) (fun h j19 => ?_)) ?_
  ·refine go ?_
   obtain ⟨x23, hx23, j19⟩ := bnd j19
   refine cl (Qpm a0 _ hx23) ?_
   refine go ?_
   refine st hF 0 rfl fun s20 hF => ?_
   refine go ?_
   have e := pur j19
   injection e with e0 e
   injection e with e1 e
   injection e with e2 e
   injection e with e3 e
   injection e with e4 e
   injection e with e5 e
   injection e with e6 e
   injection e with e7 e
   injection e with e8 e
   injection e with e9 e
   subst e0
   subst e1
   subst e2
   subst e3
   subst e4
   subst e5
   subst e6
   subst e7
   subst e8
   subst e9
   subst e
   exact ⟨_, _, rfl, S, hF⟩
  ·refine go ?_
   have e := pur j19
   injection e with e0 e
   injection e with e1 e
   injection e with e2 e
   injection e with e3 e
   injection e with e4 e
   injection e with e5 e
   injection e with e6 e
   injection e with e7 e
   injection e with e8 e
   injection e with e9 e
   subst e0
   subst e1
   subst e2
   subst e3
   subst e4
   subst e5
   subst e6
   subst e7
   subst e8
   subst e9
   subst e
   exact ⟨_, _, rfl, S, hF⟩
  ·rintro s' ⟨T21, s22, rfl, tT, hF⟩
   refine go ?_
   obtain ⟨E, hEq⟩ : ∃ E, E = EE s22 [b3, b1] := ⟨_, rfl⟩
   have n24 : ¬ E b15 := by rw [hEq]; exact EE.not (hF.at 0 rfl) (by simp only [List.mem_cons, List.not_mem_nil, or_false, not_or]; exact ⟨neL hF 0 1 rfl rfl (by decide), neL hF 0 2 rfl rfl (by decide)⟩)
   refine Qaq E [.v, .v, .v, .x, .x, .v] (by kernel_rfl) ?_
   have z := Qaf (hF.at 0 rfl) n24; refine gh ?_
   have hF := pck hF [1, 0, 2] []
   obtain ⟨x27, hx27, H⟩ := bnd H
   refine cx (Qa6 [500, 100, 20, 5, 0, 3001] x16.2 _ hx27 b3  _ (pre 1 0 0 hF hX)) ?_
   rintro _ s25 ⟨t26, rfl, hT, hG⟩
   refine Qke (Fx.kept hT hG (by intro p hp; simp only [List.mem_cons, List.not_mem_nil, or_false] at hp <;> first | (rcases hp with rfl <;> (rw [hEq]; first | (refine EE.of ?_; simp; done) | exact EE.new nw7))| cases hp)) fun kp28 => ?_
   have hF := Qxq 1 0 hF hX hT hG
   have z := Qaf (hF.at 1 rfl) n24; refine gh ?_
   refine stK hF 2 (by rw [hEq]; exact EE.of (by simp)) rfl fun s29 hF => ?_
   have z := Qaf (hF.at 1 rfl) n24; refine gh ?_
   refine go ?_
   have e := pur H; subst e
   exact rt [.agg [i6 Qvc, i6 Qvd, .str Qve, i6 Qvf, sf cI Qvg, i6 Qvh, .str Qvi, i6 Qvj, sf cI Qvk, sf Fm.cells Qvl, sf Cor.cells Qr2], i6 x27.1]
theorem Qtg : ∀ (a0 : List Slt) (a1 : Int) (Qaj : Int) out, Qfq a0 a1 Qaj = some out -> ∀ c, Qam Tryz.f186 0 = some c -> ∀ (Q : AX -> AS -> Prop) (tt : Sto) (b1 : Nat), (∀ (_u : Unit), out = Sum.inr () -> ∀ (T : Nat -> AV) (ss : Sto), T 4 = .ptr b1 0 -> Fx tt ss [(b1, ⟨34, 16, [i6 0, i6 0, .str zB, .Qab, i6 0, i6 0, .str zB, i6 0, .Qab, i6 0, .str zB, i6 0, .Qab, .Qab, .Qab, .Qab]⟩)] [] -> Q (.ex 0) ⟨T, ss⟩) -> (∀ r, out = Sum.inl r -> ∀ s', Qkk Tryz.prog [.cell 4 34] (fun r' ss' => r' = .agg (Val.cells r) /\ ss' = tt) s' -> Q .ret s') -> ∀ (T : Nat -> AV) (ss : Sto), T 0 = sf Slt.cells a0 /\ T 1 = i6 a1 /\ T 4 = .ptr b1 0 /\ T 5 = i6 Qaj -> Fx tt ss [(b1, ⟨34, 16, [i6 0, i6 0, .str zB, .Qab, i6 0, i6 0, .str zB, i6 0, .Qab, i6 0, .str zB, i6 0, .Qab, .Qab, .Qab, .Qab]⟩)] [] -> Qbr (Qbc Tryz.prog c) Q ⟨T, ss⟩ := by
 intro a0 a1 Qaj
 revert Qaj
 refine Qfq.partial_correctness a0 a1 _ ?_
 intro Qfq IH Qaj out H c hc Q tt b1 hE hR T ss tT hF
 obtain rfl := lpe (rfl : Qam Tryz.f186 0 = some _) hc
 refine Qah ?_
 have q := dum
 have hX := Tau.none tt
 refine go ?_
 refine cdp H (fun h H => ?_) (fun h H => ?_)
 ·obtain ⟨x15, f1, H⟩ := bil (g := Slt.cells) Slt.Qad H
  refine go1 ?_
  refine go ?_
  refine cdp H (fun h H => ?_) (fun h H => ?_)
  ·obtain ⟨x22, f1, H⟩ := bil (g := Slt.cells) Slt.Qad H
   refine go1 ?_
   refine st hF 0 rfl fun ss3 hF => ?_
   refine go ?_
   exact hR _ (pur H).symm _ (rt [.agg [i6 x22.val.kind, i6 x22.val.num, .str x22.val.name, sf Val.cells x22.val.items, i6 x22.val.fn.kind, i6 x22.val.fn.id, .str x22.val.fn.name, i6 x22.val.fn.num, sf cI x22.val.fn.ids, i6 x22.val.fn.data.kind, .str x22.val.fn.data.name, i6 x22.val.fn.data.num, sf cI x22.val.fn.data.sc, sf Fm.cells x22.val.fn.data.kids, sf Cor.cells x22.val.fn.kids, sf Slt.cells x22.val.env]])
  ·refine go ?_
   exact IH  (i64.wrap (Qaj - 1)) _ H _ rfl Q tt b1 hE hR _ _  S hF
 ·refine go ?_
  exact hE () (pur H).symm _ _  S hF
theorem Qyr : ∀ (a0 : List Slt) (a1 : Int) r, Qll a0 a1 = some r -> Qb0 Tryz.prog 186 [sf Slt.cells a0, i6 a1] (.agg (Val.cells r)) := by
 intro a0 a1 r H
 intro ss
 unfold Qll at H
 refine Qau mixed Tryz.func186 rfl (by kernel_rfl) (rs := [.cell 4 34]) rfl (by kernel_rfl) ?_
 have hF := Fx.refl ss
 have hX := Tau.none ss
 have q := dum
 have tT := dum
 refine go ?_
 refine Qag hF rfl fun b1 ss2 hF => ?_
 refine go ?_
 obtain ⟨o4, ho4, H⟩ := bnd H
 refine Qtg a0 a1 (i64.wrap ((a0.length : Int) - 1)) _ ho4 _ rfl _ _ b1 ?_ ?_ _ _  S hF
 ·intro _ he T6 s7 tT hF
  have he := he.symm
  subst he
  dsimp only at H
  refine go ?_
  refine st hF 0 rfl fun s9 hF => ?_
  refine go ?_
  have e := pur H; subst e
  exact rt [.agg [i6 0, i6 0, .str zB, .Qab, i6 0, i6 0, .str zB, i6 0, .Qab, i6 0, .str zB, i6 0, .Qab, .Qab, .Qab, .Qab]]
 ·intro r hr s' hs
  subst hr
  have e := pur H; subst e
  first | exact hs | (try simp only [sf, i6, zB, Fm.Qaa, Xpn.Qaa, Cor.Qaa, Bnd.Qaa, Hit.Qaa, Rul.Qaa, Mac.Qaa, Stp.Qaa, Val.Qaa] at hs ⊢; exact hs)
theorem Qme : ∀ (a0 : Fm) r, Qf6 a0 = some r -> Qb0 Tryz.prog 33 [.agg (Fm.cells a0)] (.agg (Val.cells r)) := by
 refine Qf6.partial_correctness  (motive_1 := fun a0 r => Qb0 Tryz.prog 33 [.agg (Fm.cells a0)] (.agg (Val.cells r))) (motive_2 := fun a0 Qac Qba out => ∀ c, Qam Tryz.f33 0 = some c -> ∀ (Q : AX -> AS -> Prop) (tt : Sto) (b1 : Nat) (b3 : Nat) (b7 : Nat), (∀ (Qbn : List Val), out = Qbn -> ∀ (T : Nat -> AV) (ss : Sto) (e0v0 : AV), T 2 = .ptr b3 0 /\ T 3 = .ptr b7 0 -> Fx tt ss [(b7, ⟨34, 16, [i6 3, i6 0, .str zB, e0v0, i6 0, i6 0, .str zB, i6 0, .Qab, i6 0, .str zB, i6 0, .Qab, .Qab, .Qab, .Qab]⟩), (b3, ⟨34, 16, [i6 0, i6 0, .str zB, .Qab, i6 0, i6 0, .str zB, i6 0, .Qab, i6 0, .str zB, i6 0, .Qab, .Qab, .Qab, .Qab]⟩), (b1, ⟨26, 5, [i6 a0.kind, .str a0.name, i6 a0.num, sf cI a0.sc, sf Fm.cells a0.kids]⟩)] [⟨e0v0, 34, 16, rws Val.cells Qbn⟩] -> Q (.ex 1) ⟨T, ss⟩) -> True -> ∀ (T : Nat -> AV) (ss : Sto) (z0v0 : AV), T 1 = .ptr b1 0 /\ T 2 = .ptr b3 0 /\ T 3 = .ptr b7 0 /\ T 4 = i6 Qba -> Fx tt ss [(b7, ⟨34, 16, [i6 3, i6 0, .str zB, z0v0, i6 0, i6 0, .str zB, i6 0, .Qab, i6 0, .str zB, i6 0, .Qab, .Qab, .Qab, .Qab]⟩), (b3, ⟨34, 16, [i6 0, i6 0, .str zB, .Qab, i6 0, i6 0, .str zB, i6 0, .Qab, i6 0, .str zB, i6 0, .Qab, .Qab, .Qab, .Qab]⟩), (b1, ⟨26, 5, [i6 a0.kind, .str a0.name, i6 a0.num, sf cI a0.sc, sf Fm.cells a0.kids]⟩)] [⟨z0v0, 34, 16, rws Val.cells Qac⟩] -> Qbr (Qbc Tryz.prog c) Q ⟨T, ss⟩) ?_ ?_
 ·intro Qfo L0 a0 r H
  intro ss
  refine Qau mixed Tryz.func33 rfl (by kernel_rfl) (rs := [.cell 2 34]) rfl (by kernel_rfl) ?_
  have hF := Fx.refl ss
  have hX := Tau.none ss
  have q := dum
  have tT := dum
  refine go ?_
  refine Qag hF rfl fun b1 ss2 hF => ?_
  refine go ?_
  refine Qag hF rfl fun b3 ss4 hF => ?_
  refine go ?_
  refine cdp H (fun h H => ?_) (fun h H => ?_)
  ·refine go ?_
   refine st hF 0 rfl fun ss5 hF => ?_
   refine go ?_
   have e := pur H; subst e
   exact rt [.agg [i6 1, i6 a0.num, .str zB, .Qab, i6 0, i6 0, .str zB, i6 0, .Qab, i6 0, .str zB, i6 0, .Qab, .Qab, .Qab, .Qab]]
  ·refine go ?_
   refine cdp H (fun h H => ?_) (fun h H => ?_)
   ·refine go ?_
    refine st hF 0 rfl fun ss6 hF => ?_
    refine go ?_
    have e := pur H; subst e
    exact rt [.agg [i6 2, i6 0, .str a0.name, .Qab, i6 0, i6 0, .str zB, i6 0, .Qab, i6 0, .str zB, i6 0, .Qab, .Qab, .Qab, .Qab]]
   ·refine go ?_
    refine Qag hF rfl fun b7 s8 hF => ?_
    refine go ?_
    refine st hF 0 rfl fun s9 hF => ?_
    have hF := hF.nil 34 16
    refine go ?_
    obtain ⟨o13, ho13, H⟩ := bnd H
    refine L0 a0 [] 0 _ ho13 _ rfl _ _ b1 b3 b7 ?_ ?_ _ _ .Qab S hF
    ·intro Qi3 he T15 s16 e14v0 tT hF
     have he := he.symm
     subst he
     refine go ?_
     refine st hF 1 rfl fun s18 hF => ?_
     refine go ?_
     have e := pur H; subst e
     exact rt [.agg [i6 3, i6 0, .str zB, e14v0, i6 0, i6 0, .str zB, i6 0, .Qab, i6 0, .str zB, i6 0, .Qab, .Qab, .Qab, .Qab]]
    ·trivial
 ·intro Qf6 Qfo C0 L0 a0 Qac Qba out H c hc Q tt b1 b3 b7 hE hR T ss z0v0 tT hF
  obtain rfl := lpe (rfl : Qam Tryz.f33 0 = some _) hc
  refine Qah ?_
  have q := dum
  have hX := Tau.none tt
  refine go ?_
  refine cdp H (fun h H => ?_) (fun h H => ?_)
  ·refine go ?_
   refine Qaq E0 [.v, .v, .v, .v, .v, .v, .v, .v, .v, .x, .v, .z] (by kernel_rfl) ?_
   obtain ⟨x30, f1, H⟩ := bil (g := Fm.cells) Fm.Qad H
   refine go1 ?_
   obtain ⟨x32, hx32, H⟩ := bnd H
   refine cv (C0 x30 _ hx32) ?_
   refine go ?_
   refine Q0w (g := Val.cells) hF 0 H (rdo (c := true) (g := Val.cells) Val.Qad) fun x34 H v10 s11 hF => ?_
   refine go ?_
   refine st hF 0 (hF.cells 0 rfl) fun s12 hF => ?_
   refine go ?_
   exact L0 a0 x34 (i64.wrap (Qba + 1)) _ H _ rfl Q tt b1 b3 b7 hE hR _ _ v10 S hF
  ·refine go ?_
   exact hE _ (pur H).symm _ _ z0v0 S hF
theorem Qw2 : ∀  r, Ql3  = some r -> Qb0 Tryz.prog 188 [] (sf cS r) := by
 intro  r H
 intro ss
 unfold Ql3 at H
 refine Qau mixed Tryz.func188 rfl (by kernel_rfl) (rs := [.tmp 0]) rfl (by kernel_rfl) ?_
 have hF := Fx.refl ss
 have hX := Tau.none ss
 have q := dum
 have tT := dum
 refine go ?_
 have e := pur H; subst e
 exact rt [.sl true (rws cS [(ByteArray.mk #[43]), (ByteArray.mk #[60]), (ByteArray.mk #[61]), (ByteArray.mk #[108, 105, 115, 116]), (ByteArray.mk #[104, 101, 97, 100]), (ByteArray.mk #[116, 97, 105, 108])])]
theorem Qwh : ∀ (a0 : List ByteArray) (a1 : ByteArray) (Qaj : Int) out, Qgl a0 a1 Qaj = some out -> ∀ c, Qam Tryz.f187 0 = some c -> ∀ (Q : AX -> AS -> Prop) (tt : Sto), (∀ (_u : Unit), out = Sum.inr () -> ∀ (T : Nat -> AV) (ss : Sto), 0 + 0 = 0 -> Fx tt ss [] [] -> Q (.ex 0) ⟨T, ss⟩) -> (∀ r, out = Sum.inl r -> ∀ s', Qkk Tryz.prog [.tmp 4] (fun r' ss' => r' = .bool r /\ ss' = tt) s' -> Q .ret s') -> ∀ (T : Nat -> AV) (ss : Sto), T 0 = sf cS a0 /\ T 1 = .str a1 /\ T 5 = i6 Qaj -> Fx tt ss [] [] -> Qbr (Qbc Tryz.prog c) Q ⟨T, ss⟩ := by
 intro a0 a1 Qaj
 revert Qaj
 refine Qgl.partial_correctness a0 a1 _ ?_
 intro Qgl IH Qaj out H c hc Q tt  hE hR T ss tT hF
 obtain rfl := lpe (rfl : Qam Tryz.f187 0 = some _) hc
 refine Qah ?_
 have q := dum
 have hX := Tau.none tt
 refine go ?_
 refine cdp H (fun h H => ?_) (fun h H => ?_)
 ·obtain ⟨x14, f1, H⟩ := bil (g := cS) (fun _ => rfl) H
  refine go1 ?_
  refine go ?_
  refine cdp H (fun h H => ?_) (fun h H => ?_)
  ·refine go ?_
   exact hR _ (pur H).symm _ (rt [.bool true])
  ·refine go ?_
   exact IH  (i64.wrap (Qaj + 1)) _ H _ rfl Q tt  hE hR _ _  S hF
 ·refine go ?_
  exact hE () (pur H).symm _ _  S hF
theorem Q2h : ∀ (a0 : List ByteArray) (a1 : ByteArray) r, Qoj a0 a1 = some r -> Qb0 Tryz.prog 187 [sf cS a0, .str a1] (.bool r) := by
 intro a0 a1 r H
 intro ss
 unfold Qoj at H
 refine Qau mixed Tryz.func187 rfl (by kernel_rfl) (rs := [.tmp 4]) rfl (by kernel_rfl) ?_
 have hF := Fx.refl ss
 have hX := Tau.none ss
 have q := dum
 have tT := dum
 refine go ?_
 obtain ⟨o1, ho1, H⟩ := bnd H
 refine Qwh a0 a1 0 _ ho1 _ rfl _ _  ?_ ?_ _ _  S hF
 ·intro _ he T3 ss4 tT hF
  have he := he.symm
  subst he
  dsimp only at H
  refine go ?_
  have e := pur H; subst e
  exact rt [.bool false]
 ·intro r hr s' hs
  subst hr
  have e := pur H; subst e
  first | exact hs | (try simp only [sf, i6, zB, Fm.Qaa, Xpn.Qaa, Cor.Qaa, Bnd.Qaa, Hit.Qaa, Rul.Qaa, Mac.Qaa, Stp.Qaa, Val.Qaa] at hs ⊢; exact hs)
theorem Qu0 : ∀ (a0 : List Val) (Qgg : Int) (Qaj : Int) out, Qe8 a0 Qgg Qaj = some out -> ∀ c, Qam Tryz.f274 0 = some c -> ∀ (Q : AX -> AS -> Prop) (tt : Sto) (b1 : Nat) (b3 : Nat), (∀ (Kak : Int), out = Sum.inr Kak -> ∀ (T : Nat -> AV) (ss : Sto), T 2 = .ptr b1 0 /\ T 4 = .ptr b3 0 -> Fx tt ss [(b3, ⟨34, 16, [i6 1, i6 Kak, .str zB, .Qab, i6 0, i6 0, .str zB, i6 0, .Qab, i6 0, .str zB, i6 0, .Qab, .Qab, .Qab, .Qab]⟩), (b1, ⟨34, 16, [i6 0, i6 0, .str zB, .Qab, i6 0, i6 0, .str zB, i6 0, .Qab, i6 0, .str zB, i6 0, .Qab, .Qab, .Qab, .Qab]⟩)] [] -> Q (.ex 0) ⟨T, ss⟩) -> (∀ r, out = Sum.inl r -> ∀ s', Qkk Tryz.prog [.cell 2 34, .tmp 3] (fun r' ss' => r' = .tup [.agg (Val.cells r.1), i6 r.2] /\ ss' = tt) s' -> Q .ret s') -> ∀ (T : Nat -> AV) (ss : Sto), T 0 = sf Val.cells a0 /\ T 2 = .ptr b1 0 /\ T 4 = .ptr b3 0 /\ T 5 = i6 Qaj -> Fx tt ss [(b3, ⟨34, 16, [i6 1, i6 Qgg, .str zB, .Qab, i6 0, i6 0, .str zB, i6 0, .Qab, i6 0, .str zB, i6 0, .Qab, .Qab, .Qab, .Qab]⟩), (b1, ⟨34, 16, [i6 0, i6 0, .str zB, .Qab, i6 0, i6 0, .str zB, i6 0, .Qab, i6 0, .str zB, i6 0, .Qab, .Qab, .Qab, .Qab]⟩)] [] -> Qbr (Qbc Tryz.prog c) Q ⟨T, ss⟩ := by
 intro a0 Qgg Qaj
 revert Qgg Qaj
 refine Qe8.partial_correctness a0 _ ?_
 intro Qe8 IH Qgg Qaj out H c hc Q tt b1 b3 hE hR T ss tT hF
 obtain rfl := lpe (rfl : Qam Tryz.f274 0 = some _) hc
 refine Qah ?_
 have q := dum
 have hX := Tau.none tt
 refine go ?_
 refine cdp H (fun h H => ?_) (fun h H => ?_)
 ·obtain ⟨x15, f1, H⟩ := bil (g := Val.cells) Val.Qad H
  refine go1 ?_
  refine go ?_
  refine cdn H (fun h H => ?_) (fun h H => ?_)
  ·refine go ?_
   refine st hF 1 rfl fun ss6 hF => ?_
   refine go ?_
   exact hR _ (pur H).symm _ (rt [.agg [i6 0, i6 0, .str zB, .Qab, i6 0, i6 0, .str zB, i6 0, .Qab, i6 0, .str zB, i6 0, .Qab, .Qab, .Qab, .Qab], i6 3])
  ·refine go ?_
   refine Qaq E0 [.v, .v, .v, .v, .v, .v, .v, .v, .v, .v, .z] (by kernel_rfl) ?_
   obtain ⟨x24, f1, H⟩ := bil (g := Val.cells) Val.Qad H
   refine go1 ?_
   refine st hF 0 rfl fun s7 hF => ?_
   refine go ?_
   exact IH  ((i64.wrap (Qgg + x24.num)).tmod 1000) (i64.wrap (Qaj + 1)) _ H _ rfl Q tt b1 b3 hE hR _ _  S hF
 ·refine go ?_
  exact hE _ (pur H).symm _ _  S hF
theorem Q0m : ∀ (a0 : List Val) r, Qmx a0 = some r -> Qb0 Tryz.prog 274 [sf Val.cells a0] (.tup [.agg (Val.cells r.1), i6 r.2]) := by
 intro a0 r H
 intro ss
 unfold Qmx at H
 refine Qau mixed Tryz.func274 rfl (by kernel_rfl) (rs := [.cell 2 34, .tmp 3]) rfl (by kernel_rfl) ?_
 have hF := Fx.refl ss
 have hX := Tau.none ss
 have q := dum
 have tT := dum
 refine go ?_
 refine Qag hF rfl fun b1 ss2 hF => ?_
 refine go ?_
 refine Qag hF rfl fun b3 ss4 hF => ?_
 refine go ?_
 refine st hF 0 rfl fun ss5 hF => ?_
 refine go ?_
 obtain ⟨o8, ho8, H⟩ := bnd H
 refine Qu0 a0 0 0 _ ho8 _ rfl _ _ b1 b3 ?_ ?_ _ _  S hF
 ·intro Q3r he T10 s11 tT hF
  have he := he.symm
  subst he
  dsimp only at H
  refine go ?_
  refine st hF 1 rfl fun s13 hF => ?_
  refine go ?_
  have e := pur H; subst e
  exact rt [.agg [i6 1, i6 Q3r, .str zB, .Qab, i6 0, i6 0, .str zB, i6 0, .Qab, i6 0, .str zB, i6 0, .Qab, .Qab, .Qab, .Qab], i6 0]
 ·intro r hr s' hs
  subst hr
  have e := pur H; subst e
  first | exact hs | (try simp only [sf, i6, zB, Fm.Qaa, Xpn.Qaa, Cor.Qaa, Bnd.Qaa, Hit.Qaa, Rul.Qaa, Mac.Qaa, Stp.Qaa, Val.Qaa] at hs ⊢; exact hs)
theorem Qys : ∀ (a0 : ByteArray) (a1 : List Val) r, Qlm a0 a1 = some r -> Qb0 Tryz.prog 229 [.str a0, sf Val.cells a1] (.tup [.agg (Val.cells r.1), i6 r.2]) := by
 intro a0 a1 r H
 intro ss
 unfold Qlm at H
 refine Qau mixed Tryz.func229 rfl (by kernel_rfl) (rs := [.cell 4 34, .tmp 5]) rfl (by kernel_rfl) ?_
 have hF := Fx.refl ss
 have hX := Tau.none ss
 have q := dum
 have tT := dum
 refine go ?_
 refine Qag hF rfl fun b1 ss2 hF => ?_
 refine go ?_
 refine cdp H (fun h H => ?_) (fun h H => ?_)
 ·refine go ?_
  refine apv (g := Val.cells) H Val.Qad (rdo (c := false) (g := Val.cells) Val.Qad) fun x12 H => ?_
  refine go ?_
  refine st hF 0 rfl fun ss3 hF => ?_
  refine go ?_
  have e := pur H; subst e
  exact rt [.agg [i6 3, i6 0, .str zB, sf Val.cells x12, i6 0, i6 0, .str zB, i6 0, .Qab, i6 0, .str zB, i6 0, .Qab, .Qab, .Qab, .Qab], i6 0]
 ·refine go ?_
  refine cdp H (fun h H => ?_) (fun h H => ?_)
  ·refine go ?_
   obtain ⟨x17, hx17, H⟩ := bnd H
   refine cl (Q0m a1 _ hx17) ?_
   refine go ?_
   refine st hF 0 rfl fun ss4 hF => ?_
   refine go ?_
   have e := pur H; subst e
   exact rt [.agg [i6 x17.1.kind, i6 x17.1.num, .str x17.1.name, sf Val.cells x17.1.items, i6 x17.1.fn.kind, i6 x17.1.fn.id, .str x17.1.fn.name, i6 x17.1.fn.num, sf cI x17.1.fn.ids, i6 x17.1.fn.data.kind, .str x17.1.fn.data.name, i6 x17.1.fn.data.num, sf cI x17.1.fn.data.sc, sf Fm.cells x17.1.fn.data.kids, sf Cor.cells x17.1.fn.kids, sf Slt.cells x17.1.env], i6 x17.2]
  ·refine go ?_
   obtain ⟨Kca, j6, H⟩ := bnd H
   refine Qca (fun s' => ∃ (T : Nat -> AV) (ss1 : Sto), s' = ⟨T, ss1⟩ /\ (T 0 = .str a0 /\ T 1 = sf Val.cells a1 /\ T 4 = .ptr b1 0 /\ T 20 = .bool Kca) /\ Fx ss ss1 [(b1, ⟨34, 16, [i6 0, i6 0, .str zB, .Qab, i6 0, i6 0, .str zB, i6 0, .Qab, i6 0, .str zB, i6 0, .Qab, .Qab, .Qab, .Qab]⟩)] []) (cdp j6 (fun h j6 => ?_) (fun h j6 => ?_)) ?_
   ·refine go ?_
    have e := pur j6
    subst e
    exact ⟨_, _, rfl, S, hF⟩
   ·refine go ?_
    have e := pur j6
    subst e
    exact ⟨_, _, rfl, S, hF⟩
   ·rintro s' ⟨T7, s8, rfl, tT, hF⟩
    refine go ?_
    refine cdb H (fun h H => ?_) (fun h H => ?_)
    ·refine go ?_
     obtain ⟨x32, g10, H⟩ := bnd H
     refine Qai 5 27 32 (.bool x32) (giN q (fun q => ?_) (fun q => ?_)) (fun J => ?_)
     ·rw [if_pos (dnf q)] at g10
      obtain ⟨x28, f1, g10⟩ := bil (g := Val.cells) Val.Qad g10
      refine go1 ?_
      refine go ?_
      exact Qaw 27 g10
     ·rw [if_neg (dnt q)] at g10
      refine go ?_
      exact Qaw 27 g10
     refine go ?_
     obtain ⟨x40, g12, H⟩ := bnd H
     refine Qai 6 34 40 (.bool x40) (giN q (fun q => ?_) (fun q => ?_)) (fun J => ?_)
     ·rw [if_neg (dbf q)] at g12
      obtain ⟨x35, f1, g12⟩ := bil (g := Val.cells) Val.Qad g12
      refine go1 ?_
      refine go ?_
      exact Qaw 34 g12
     ·rw [if_pos (dbt q)] at g12
      refine go ?_
      exact Qaw 34 g12
     refine go ?_
     refine cdb H (fun h H => ?_) (fun h H => ?_)
     ·refine go ?_
      refine st hF 0 rfl fun s14 hF => ?_
      refine go ?_
      have e := pur H; subst e
      exact rt [.agg [i6 0, i6 0, .str zB, .Qab, i6 0, i6 0, .str zB, i6 0, .Qab, i6 0, .str zB, i6 0, .Qab, .Qab, .Qab, .Qab], i6 3]
     ·refine go ?_
      refine cdp H (fun h H => ?_) (fun h H => ?_)
      ·obtain ⟨x45, f1, H⟩ := bil (g := Val.cells) Val.Qad H
       obtain ⟨x48, f2, H⟩ := bil (g := Val.cells) Val.Qad H
       refine go2 ?_
       refine st hF 0 rfl fun s15 hF => ?_
       refine go ?_
       have e := pur H; subst e
       exact rt [.agg [i6 x48.kind, i6 x48.num, .str x48.name, sf Val.cells x48.items, i6 x48.fn.kind, i6 x48.fn.id, .str x48.fn.name, i6 x48.fn.num, sf cI x48.fn.ids, i6 x48.fn.data.kind, .str x48.fn.data.name, i6 x48.fn.data.num, sf cI x48.fn.data.sc, sf Fm.cells x48.fn.data.kids, sf Cor.cells x48.fn.kids, sf Slt.cells x48.env], i6 0]
      ·obtain ⟨x51, f1, H⟩ := bil (g := Val.cells) Val.Qad H
       obtain ⟨x54, f2, H⟩ := bls (g := Val.cells) Val.Qad (lo := some (i6 1)) (hi := none) rfl rfl H
       refine go2 ?_
       refine st hF 0 rfl fun s16 hF => ?_
       refine go ?_
       have e := pur H; subst e
       exact rt [.agg [i6 3, i6 0, .str zB, sf Val.cells x54, i6 0, i6 0, .str zB, i6 0, .Qab, i6 0, .str zB, i6 0, .Qab, .Qab, .Qab, .Qab], i6 0]
    ·refine go ?_
     obtain ⟨x65, g17, H⟩ := bnd H
     refine Qai 5 60 65 (.bool x65) (giN q (fun q => ?_) (fun q => ?_)) (fun J => ?_)
     ·rw [if_pos (dnf q)] at g17
      obtain ⟨x61, f1, g17⟩ := bil (g := Val.cells) Val.Qad g17
      refine go1 ?_
      refine go ?_
      exact Qaw 60 g17
     ·rw [if_neg (dnt q)] at g17
      refine go ?_
      exact Qaw 60 g17
     refine go ?_
     obtain ⟨x72, g19, H⟩ := bnd H
     refine Qai 5 67 72 (.bool x72) (giN q (fun q => ?_) (fun q => ?_)) (fun J => ?_)
     ·rw [if_neg (dbf q)] at g19
      obtain ⟨x68, f1, g19⟩ := bil (g := Val.cells) Val.Qad g19
      refine go1 ?_
      refine go ?_
      exact Qaw 67 g19
     ·rw [if_pos (dbt q)] at g19
      refine go ?_
      exact Qaw 67 g19
     refine go ?_
     refine cdb H (fun h H => ?_) (fun h H => ?_)
     ·refine go ?_
      refine st hF 0 rfl fun s21 hF => ?_
      refine go ?_
      have e := pur H; subst e
      exact rt [.agg [i6 0, i6 0, .str zB, .Qab, i6 0, i6 0, .str zB, i6 0, .Qab, i6 0, .str zB, i6 0, .Qab, .Qab, .Qab, .Qab], i6 3]
     ·refine go ?_
      refine Qag hF rfl fun b22 s23 hF => ?_
      refine go ?_
      refine st hF 0 rfl fun s24 hF => ?_
      refine go ?_
      refine Qaq E0 [.v, .v, .v, .v, .v, .v, .v, .v, .v, .v, .v, .v, .v, .v, .v, .v, .v, .v, .v, .v, .v, .v, .v, .v, .v, .v, .v, .v] (by kernel_rfl) ?_
      refine go ?_
      obtain ⟨x87, g25, H⟩ := bnd H
      refine Qb4 9 78 87 (.bool x87) (ti q (fun q => ?_) (fun q => ?_)) (fun J => ?_)
      ·rw [if_pos (dt q)] at g25
       obtain ⟨x79, f1, g25⟩ := bil (g := Val.cells) Val.Qad g25
       obtain ⟨x83, f2, g25⟩ := bil (g := Val.cells) Val.Qad g25
       refine go2 ?_
       refine go ?_
       exact Qaw 78 g25
      ·rw [if_neg (df q)] at g25
       refine go ?_
       exact Qaw 78 g25
      refine go ?_
      obtain ⟨x102, g27, H⟩ := bnd H
      refine Qb4 13 89 102 (.bool x102) (tiN q (fun q => ?_) (fun q => ?_)) (fun J => ?_)
      ·rw [if_neg (dbf q)] at g27
       refine go ?_
       obtain ⟨x101, g29, g27⟩ := bnd g27
       refine Qb4 9 92 101 (.bool x101) (ti q (fun q => ?_) (fun q => ?_)) (fun J => ?_)
       ·rw [if_pos (dt q)] at g29
        obtain ⟨x93, f1, g29⟩ := bil (g := Val.cells) Val.Qad g29
        obtain ⟨x97, f2, g29⟩ := bil (g := Val.cells) Val.Qad g29
        refine go2 ?_
        refine go ?_
        exact Qaw 92 g29
       ·rw [if_neg (df q)] at g29
        refine go ?_
        exact Qaw 92 g29
       refine go ?_
       exact Qaw 89 g27
      ·rw [if_pos (dbt q)] at g27
       refine go ?_
       exact Qaw 89 g27
      refine go ?_
      refine cdb H (fun h H => ?_) (fun h H => ?_)
      ·refine go ?_
       refine st hF 0 rfl fun s31 hF => ?_
       refine go ?_
       refine st hF 1 rfl fun s32 hF => ?_
       refine go ?_
       have e := pur H; subst e
       exact rt [.agg [i6 1, i6 1, .str zB, .Qab, i6 0, i6 0, .str zB, i6 0, .Qab, i6 0, .str zB, i6 0, .Qab, .Qab, .Qab, .Qab], i6 0]
      ·refine go ?_
       refine st hF 1 rfl fun s33 hF => ?_
       refine go ?_
       have e := pur H; subst e
       exact rt [.agg [i6 1, i6 0, .str zB, .Qab, i6 0, i6 0, .str zB, i6 0, .Qab, i6 0, .str zB, i6 0, .Qab, .Qab, .Qab, .Qab], i6 0]
theorem Qtf : ∀ (a0 : Val) (a1 : List Val) (a2 : Int) (Qac : List Slt) (Qde : Int) out, Qdn a0 a1 a2 Qac Qde = some out -> ∀ c, Qam Tryz.f189 0 = some c -> ∀ (Q : AX -> AS -> Prop) (tt : Sto) (b1 : Nat) (b3 : Nat), (∀ (Qbn : List Slt), out = Qbn -> ∀ (T : Nat -> AV) (ss : Sto) (e0v0 : AV), T 2 = i6 a2 /\ T 3 = .ptr b1 0 /\ T 6 = .ptr b3 0 /\ T 11 = e0v0 -> Fx tt ss [(b3, ⟨34, 16, [i6 0, i6 0, .str zB, .Qab, i6 0, i6 0, .str zB, i6 0, .Qab, i6 0, .str zB, i6 0, .Qab, .Qab, .Qab, .Qab]⟩), (b1, ⟨34, 16, [i6 a0.kind, i6 a0.num, .str a0.name, sf Val.cells a0.items, i6 a0.fn.kind, i6 a0.fn.id, .str a0.fn.name, i6 a0.fn.num, sf cI a0.fn.ids, i6 a0.fn.data.kind, .str a0.fn.data.name, i6 a0.fn.data.num, sf cI a0.fn.data.sc, sf Fm.cells a0.fn.data.kids, sf Cor.cells a0.fn.kids, sf Slt.cells a0.env]⟩)] [⟨e0v0, 106, 17, rws Slt.cells Qbn⟩] -> Q (.ex 0) ⟨T, ss⟩) -> True -> ∀ (T : Nat -> AV) (ss : Sto) (z0v0 : AV), T 1 = sf Val.cells a1 /\ T 2 = i6 a2 /\ T 3 = .ptr b1 0 /\ T 6 = .ptr b3 0 /\ T 11 = z0v0 /\ T 12 = i6 Qde -> Fx tt ss [(b3, ⟨34, 16, [i6 0, i6 0, .str zB, .Qab, i6 0, i6 0, .str zB, i6 0, .Qab, i6 0, .str zB, i6 0, .Qab, .Qab, .Qab, .Qab]⟩), (b1, ⟨34, 16, [i6 a0.kind, i6 a0.num, .str a0.name, sf Val.cells a0.items, i6 a0.fn.kind, i6 a0.fn.id, .str a0.fn.name, i6 a0.fn.num, sf cI a0.fn.ids, i6 a0.fn.data.kind, .str a0.fn.data.name, i6 a0.fn.data.num, sf cI a0.fn.data.sc, sf Fm.cells a0.fn.data.kids, sf Cor.cells a0.fn.kids, sf Slt.cells a0.env]⟩)] [⟨z0v0, 106, 17, rws Slt.cells Qac⟩] -> Qbr (Qbc Tryz.prog c) Q ⟨T, ss⟩ := by
 intro a0 a1 a2 Qac Qde
 revert Qac Qde
 refine Qdn.partial_correctness a0 a1 a2 _ ?_
 intro Qdn IH Qac Qde out H c hc Q tt b1 b3 hE hR T ss z0v0 tT hF
 obtain rfl := lpe (rfl : Qam Tryz.f189 0 = some _) hc
 refine Qah ?_
 have q := dum
 have hX := Tau.none tt
 refine go ?_
 refine cdp H (fun h H => ?_) (fun h H => ?_)
 ·refine go ?_
  refine Qaq E0 [.v, .v, .v, .v, .v, .v, .v, .v, .v, .v, .v, .v, .v, .x, .v] (by kernel_rfl) ?_
  obtain ⟨x55, f1, H⟩ := bil (g := cI) (fun _ => rfl) H
  obtain ⟨x59, f2, H⟩ := bil (g := Val.cells) Val.Qad H
  refine go2 ?_
  refine Q0w (g := Slt.cells) hF 0 H (rdo (c := true) (g := Slt.cells) Slt.Qad) fun x63 H v13 s14 hF => ?_
  refine go ?_
  exact IH  x63 (i64.wrap (Qde + 1)) _ H _ rfl Q tt b1 b3 hE hR _ _ v13 S hF
 ·refine go ?_
  exact hE _ (pur H).symm _ _ z0v0 S hF
theorem Qw0 : (∀ (a0 : Cor) (a1 : List Slt) (a2 : Int) r, Qce a0 a1 a2 = some r -> Qb0 Tryz.prog 141 [.agg (Cor.cells a0), sf Slt.cells a1, i6 a2] (.tup [.agg (Val.cells r.1), i6 r.2.1, i6 r.2.2])) /\ (∀ (a0 : Val) (a1 : List Val) (a2 : Int) r, Qnh a0 a1 a2 = some r -> Qb0 Tryz.prog 189 [.agg (Val.cells a0), sf Val.cells a1, i6 a2] (.tup [.agg (Val.cells r.1), i6 r.2.1, i6 r.2.2])) := by
 have h := Qce.mutual_partial_correctness  (motive_1 := fun a0 a1 a2 r => Qb0 Tryz.prog 141 [.agg (Cor.cells a0), sf Slt.cells a1, i6 a2] (.tup [.agg (Val.cells r.1), i6 r.2.1, i6 r.2.2])) (motive_2 := fun a0 a1 a2 r => Qb0 Tryz.prog 189 [.agg (Val.cells a0), sf Val.cells a1, i6 a2] (.tup [.agg (Val.cells r.1), i6 r.2.1, i6 r.2.2])) (motive_3 := fun a0 a1 Qac Qh5 Qnk out => ∀ c, Qam Tryz.f141 0 = some c -> ∀ (Q : AX -> AS -> Prop) (tt : Sto) (b1 : Nat) (b3 : Nat), (∀ (Qbn : List Val) (Kjw : Int), out = Sum.inr (Qbn, Kjw) -> ∀ (T : Nat -> AV) (ss : Sto) (e0v0 : AV), T 2 = i6 Kjw /\ T 6 = .ptr b3 0 /\ T 12 = e0v0 -> Fx tt ss [(b3, ⟨34, 16, [i6 0, i6 0, .str zB, .Qab, i6 0, i6 0, .str zB, i6 0, .Qab, i6 0, .str zB, i6 0, .Qab, .Qab, .Qab, .Qab]⟩), (b1, ⟨31, 11, [i6 a0.kind, i6 a0.id, .str a0.name, i6 a0.num, sf cI a0.ids, i6 a0.data.kind, .str a0.data.name, i6 a0.data.num, sf cI a0.data.sc, sf Fm.cells a0.data.kids, sf Cor.cells a0.kids]⟩)] [⟨e0v0, 34, 16, rws Val.cells Qbn⟩] -> Q (.ex 1) ⟨T, ss⟩) -> (∀ r, out = Sum.inl r -> ∀ s', Qkk Tryz.prog [.cell 6 34, .tmp 7, .tmp 8] (fun r' ss' => r' = .tup [.agg (Val.cells r.1), i6 r.2.1, i6 r.2.2] /\ ss' = tt) s' -> Q .ret s') -> ∀ (T : Nat -> AV) (ss : Sto) (z0v0 : AV), T 1 = sf Slt.cells a1 /\ T 2 = i6 Qnk /\ T 3 = .ptr b1 0 /\ T 6 = .ptr b3 0 /\ T 12 = z0v0 /\ T 13 = i6 Qh5 -> Fx tt ss [(b3, ⟨34, 16, [i6 0, i6 0, .str zB, .Qab, i6 0, i6 0, .str zB, i6 0, .Qab, i6 0, .str zB, i6 0, .Qab, .Qab, .Qab, .Qab]⟩), (b1, ⟨31, 11, [i6 a0.kind, i6 a0.id, .str a0.name, i6 a0.num, sf cI a0.ids, i6 a0.data.kind, .str a0.data.name, i6 a0.data.num, sf cI a0.data.sc, sf Fm.cells a0.data.kids, sf Cor.cells a0.kids]⟩)] [⟨z0v0, 34, 16, rws Val.cells Qac⟩] -> Qbr (Qbc Tryz.prog c) Q ⟨T, ss⟩) ?s0 ?s1 ?s2
 ·exact ⟨h.1, h.2.1⟩
 ·intro Qce Qnh Qfp C0 C1 L0 a0 a1 a2 r H
  intro ss
  refine Qau mixed Tryz.func141 rfl (by kernel_rfl) (rs := [.cell 6 34, .tmp 7, .tmp 8]) rfl (by kernel_rfl) ?_
  have hF := Fx.refl ss
  have hX := Tau.none ss
  have q := dum
  have tT := dum
  refine go ?_
  refine Qag hF rfl fun b1 ss2 hF => ?_
  refine go ?_
  refine Qag hF rfl fun b3 ss4 hF => ?_
  refine go ?_
  refine cdp H (fun h H => ?_) (fun h H => ?_)
  ·refine go ?_
   refine st hF 0 rfl fun ss5 hF => ?_
   refine go ?_
   have e := pur H; subst e
   exact rt [.agg [i6 0, i6 0, .str zB, .Qab, i6 0, i6 0, .str zB, i6 0, .Qab, i6 0, .str zB, i6 0, .Qab, .Qab, .Qab, .Qab], i6 4, i6 0]
  ·refine go ?_
   refine cdp H (fun h H => ?_) (fun h H => ?_)
   ·refine go ?_
    obtain ⟨x29, hx29, H⟩ := bnd H
    refine cl (Qyr a1 a0.id _ hx29) ?_
    refine go ?_
    refine st hF 0 rfl fun ss6 hF => ?_
    refine go ?_
    have e := pur H; subst e
    exact rt [.agg [i6 x29.kind, i6 x29.num, .str x29.name, sf Val.cells x29.items, i6 x29.fn.kind, i6 x29.fn.id, .str x29.fn.name, i6 x29.fn.num, sf cI x29.fn.ids, i6 x29.fn.data.kind, .str x29.fn.data.name, i6 x29.fn.data.num, sf cI x29.fn.data.sc, sf Fm.cells x29.fn.data.kids, sf Cor.cells x29.fn.kids, sf Slt.cells x29.env], i6 0, i6 (i64.wrap (a2 - 1))]
   ·refine go ?_
    refine cdp H (fun h H => ?_) (fun h H => ?_)
    ·refine go ?_
     refine st hF 0 rfl fun s7 hF => ?_
     refine go ?_
     have e := pur H; subst e
     exact rt [.agg [i6 1, i6 a0.num, .str zB, .Qab, i6 0, i6 0, .str zB, i6 0, .Qab, i6 0, .str zB, i6 0, .Qab, .Qab, .Qab, .Qab], i6 0, i6 (i64.wrap (a2 - 1))]
    ·refine go ?_
     refine cdp H (fun h H => ?_) (fun h H => ?_)
     ·refine go ?_
      obtain ⟨x41, hx41, H⟩ := bnd H
      refine cl (Qme a0.data _ hx41) ?_
      refine go ?_
      refine st hF 0 rfl fun s8 hF => ?_
      refine go ?_
      have e := pur H; subst e
      exact rt [.agg [i6 x41.kind, i6 x41.num, .str x41.name, sf Val.cells x41.items, i6 x41.fn.kind, i6 x41.fn.id, .str x41.fn.name, i6 x41.fn.num, sf cI x41.fn.ids, i6 x41.fn.data.kind, .str x41.fn.data.name, i6 x41.fn.data.num, sf cI x41.fn.data.sc, sf Fm.cells x41.fn.data.kids, sf Cor.cells x41.fn.kids, sf Slt.cells x41.env], i6 0, i6 (i64.wrap (a2 - 1))]
     ·refine go ?_
      refine cdp H (fun h H => ?_) (fun h H => ?_)
      ·refine go ?_
       refine st hF 0 rfl fun s9 hF => ?_
       refine go ?_
       have e := pur H; subst e
       exact rt [.agg [i6 4, i6 0, .str zB, .Qab, i6 a0.kind, i6 a0.id, .str a0.name, i6 a0.num, sf cI a0.ids, i6 a0.data.kind, .str a0.data.name, i6 a0.data.num, sf cI a0.data.sc, sf Fm.cells a0.data.kids, sf Cor.cells a0.kids, sf Slt.cells a1], i6 0, i6 (i64.wrap (a2 - 1))]
      ·refine go ?_
       refine cdp H (fun h H => ?_) (fun h H => ?_)
       ·refine go ?_
        refine Qaq E0 [.v, .v, .v, .v] (by kernel_rfl) ?_
        refine go ?_
        obtain ⟨x51, hx51, H⟩ := bnd H
        refine cv (Qw2  _ hx51) ?_
        refine go ?_
        obtain ⟨x54, hx54, H⟩ := bnd H
        refine cv (Q2h x51 a0.name _ hx54) ?_
        refine go ?_
        refine cdb H (fun h H => ?_) (fun h H => ?_)
        ·refine go ?_
         refine st hF 0 rfl fun s10 hF => ?_
         refine go ?_
         have e := pur H; subst e
         exact rt [.agg [i6 5, i6 0, .str a0.name, .Qab, i6 0, i6 0, .str zB, i6 0, .Qab, i6 0, .str zB, i6 0, .Qab, .Qab, .Qab, .Qab], i6 0, i6 (i64.wrap (a2 - 1))]
        ·refine go ?_
         refine st hF 0 rfl fun s11 hF => ?_
         refine go ?_
         have e := pur H; subst e
         exact rt [.agg [i6 0, i6 0, .str zB, .Qab, i6 0, i6 0, .str zB, i6 0, .Qab, i6 0, .str zB, i6 0, .Qab, .Qab, .Qab, .Qab], i6 1, i6 (i64.wrap (a2 - 1))]
       ·refine go ?_
        refine cdp H (fun h H => ?_) (fun h H => ?_)
        ·obtain ⟨x66, f1, H⟩ := bil (g := Cor.cells) Cor.Qad H
         refine go1 ?_
         obtain ⟨x70, hx70, H⟩ := bnd H
         refine cl (C0 x66 a1 (i64.wrap (a2 - 1)) _ hx70) ?_
         refine go ?_
         refine Qag hF rfl fun b12 s13 hF => ?_
         refine go ?_
         refine st hF 0 rfl fun s14 hF => ?_
         refine go ?_
         refine cdn H (fun h H => ?_) (fun h H => ?_)
         ·refine go ?_
          refine st hF 1 rfl fun s15 hF => ?_
          refine go ?_
          have e := pur H; subst e
          exact rt [.agg [i6 0, i6 0, .str zB, .Qab, i6 0, i6 0, .str zB, i6 0, .Qab, i6 0, .str zB, i6 0, .Qab, .Qab, .Qab, .Qab], i6 x70.2.1, i6 x70.2.2]
         ·refine go ?_
          obtain ⟨x86, g16, H⟩ := bnd H
          refine Qai 3 83 86 (.bool x86) (gi q (fun q => ?_) (fun q => ?_)) (fun J => ?_)
          ·refine go ?_
           exact Qaw 83 g16
          ·refine go ?_
           exact Qaw 83 g16
          refine go ?_
          refine cdb H (fun h H => ?_) (fun h H => ?_)
          ·obtain ⟨x89, f1, H⟩ := bil (g := Cor.cells) Cor.Qad H
           refine go1 ?_
           obtain ⟨x93, hx93, H⟩ := bnd H
           refine cl (C0 x89 a1 x70.2.2 _ hx93) ?_
           refine go ?_
           refine st hF 1 rfl fun s18 hF => ?_
           refine go ?_
           have e := pur H; subst e
           exact rt [.agg [i6 x93.1.kind, i6 x93.1.num, .str x93.1.name, sf Val.cells x93.1.items, i6 x93.1.fn.kind, i6 x93.1.fn.id, .str x93.1.fn.name, i6 x93.1.fn.num, sf cI x93.1.fn.ids, i6 x93.1.fn.data.kind, .str x93.1.fn.data.name, i6 x93.1.fn.data.num, sf cI x93.1.fn.data.sc, sf Fm.cells x93.1.fn.data.kids, sf Cor.cells x93.1.fn.kids, sf Slt.cells x93.1.env], i6 x93.2.1, i6 x93.2.2]
          ·obtain ⟨x99, f1, H⟩ := bil (g := Cor.cells) Cor.Qad H
           refine go1 ?_
           obtain ⟨x103, hx103, H⟩ := bnd H
           refine cl (C0 x99 a1 x70.2.2 _ hx103) ?_
           refine go ?_
           refine st hF 1 rfl fun s19 hF => ?_
           refine go ?_
           have e := pur H; subst e
           exact rt [.agg [i6 x103.1.kind, i6 x103.1.num, .str x103.1.name, sf Val.cells x103.1.items, i6 x103.1.fn.kind, i6 x103.1.fn.id, .str x103.1.fn.name, i6 x103.1.fn.num, sf cI x103.1.fn.ids, i6 x103.1.fn.data.kind, .str x103.1.fn.data.name, i6 x103.1.fn.data.num, sf cI x103.1.fn.data.sc, sf Fm.cells x103.1.fn.data.kids, sf Cor.cells x103.1.fn.kids, sf Slt.cells x103.1.env], i6 x103.2.1, i6 x103.2.2]
        ·have hF := hF.lit 34 16 (rws Val.cells []) rfl
         refine go ?_
         obtain ⟨o26, ho26, H⟩ := bnd H
         refine L0 a0 a1 [] 0 (i64.wrap (a2 - 1)) _ ho26 _ rfl _ _ b1 b3 ?_ ?_ _ _ (.sl true (rws Val.cells [])) S hF
         ·intro Q44 Kat he T28 s29 e27v0 tT hF
          have he := he.symm
          subst he
          dsimp only at H
          refine go ?_
          obtain ⟨s31, hF, hw32, hb33, hz34⟩ := frz hF 0
          refine Kda 12 (by simp [upd, tT]) hw32 hb33 ?_
          refine go ?_
          obtain ⟨E, hEq⟩ : ∃ E, E = EE s31 [b3] := ⟨_, rfl⟩
          have n35 : ¬ E b1 := by rw [hEq]; exact EE.not (hF.at 1 rfl) (by simp only [List.mem_cons, List.not_mem_nil, or_false, not_or]; exact neL hF 1 0 rfl rfl (by decide))
          refine Qaq E [.v, .v, .v, .v, .v, .v, .v, .v, .v, .v, .x, .v, .v] (by kernel_rfl) ?_
          obtain ⟨x138, f1, H⟩ := bil (g := Val.cells) Val.Qad H
          obtain ⟨x141, f2, H⟩ := bls (g := Val.cells) Val.Qad (lo := some (i6 1)) (hi := none) rfl rfl H
          have z := Qaf (hF.at 1 rfl) n35; refine gh2 ?_
          obtain ⟨x143, hx143, H⟩ := bnd H
          refine cv (C1 x138 x141 Kat _ hx143) ?_
          have z := Qaf (hF.at 1 rfl) n35; refine gh ?_
          refine stK hF 0 (by rw [hEq]; exact EE.of (by simp)) rfl fun s36 hF => ?_
          have z := Qaf (hF.at 1 rfl) n35; refine gh ?_
          refine go ?_
          have e := pur H; subst e
          exact rt [.agg [i6 x143.1.kind, i6 x143.1.num, .str x143.1.name, sf Val.cells x143.1.items, i6 x143.1.fn.kind, i6 x143.1.fn.id, .str x143.1.fn.name, i6 x143.1.fn.num, sf cI x143.1.fn.ids, i6 x143.1.fn.data.kind, .str x143.1.fn.data.name, i6 x143.1.fn.data.num, sf cI x143.1.fn.data.sc, sf Fm.cells x143.1.fn.data.kids, sf Cor.cells x143.1.fn.kids, sf Slt.cells x143.1.env], i6 x143.2.1, i6 x143.2.2]
         ·intro r hr s' hs
          subst hr
          have e := pur H; subst e
          first | exact hs | (try simp only [sf, i6, zB, Fm.Qaa, Xpn.Qaa, Cor.Qaa, Bnd.Qaa, Hit.Qaa, Rul.Qaa, Mac.Qaa, Stp.Qaa, Val.Qaa] at hs ⊢; exact hs)
 ·intro Qce C0 a0 a1 a2 r H
  intro ss
  refine Qau mixed Tryz.func189 rfl (by kernel_rfl) (rs := [.cell 6 34, .tmp 7, .tmp 8]) rfl (by kernel_rfl) ?_
  have hF := Fx.refl ss
  have hX := Tau.none ss
  have q := dum
  have tT := dum
  refine go ?_
  refine Qag hF rfl fun b1 ss2 hF => ?_
  refine go ?_
  refine Qag hF rfl fun b3 ss4 hF => ?_
  refine go ?_
  refine cdp H (fun h H => ?_) (fun h H => ?_)
  ·refine go ?_
   obtain ⟨x20, hx20, H⟩ := bnd H
   refine cl (Qys a0.name a1 _ hx20) ?_
   refine go ?_
   refine Qag hF rfl fun b5 ss6 hF => ?_
   refine go ?_
   refine st hF 0 rfl fun s7 hF => ?_
   refine go ?_
   refine st hF 1 rfl fun s8 hF => ?_
   refine go ?_
   have e := pur H; subst e
   exact rt [.agg [i6 x20.1.kind, i6 x20.1.num, .str x20.1.name, sf Val.cells x20.1.items, i6 x20.1.fn.kind, i6 x20.1.fn.id, .str x20.1.fn.name, i6 x20.1.fn.num, sf cI x20.1.fn.ids, i6 x20.1.fn.data.kind, .str x20.1.fn.data.name, i6 x20.1.fn.data.num, sf cI x20.1.fn.data.sc, sf Fm.cells x20.1.fn.data.kids, sf Cor.cells x20.1.fn.kids, sf Slt.cells x20.1.env], i6 x20.2, i6 a2]
  ·refine go ?_
   refine cdn H (fun h H => ?_) (fun h H => ?_)
   ·refine go ?_
    refine st hF 0 rfl fun s9 hF => ?_
    refine go ?_
    have e := pur H; subst e
    exact rt [.agg [i6 0, i6 0, .str zB, .Qab, i6 0, i6 0, .str zB, i6 0, .Qab, i6 0, .str zB, i6 0, .Qab, .Qab, .Qab, .Qab], i6 2, i6 a2]
   ·refine go ?_
    refine cdn H (fun h H => ?_) (fun h H => ?_)
    ·refine go ?_
     refine st hF 0 rfl fun s10 hF => ?_
     refine go ?_
     have e := pur H; subst e
     exact rt [.agg [i6 0, i6 0, .str zB, .Qab, i6 0, i6 0, .str zB, i6 0, .Qab, i6 0, .str zB, i6 0, .Qab, .Qab, .Qab, .Qab], i6 3, i6 a2]
    ·refine go ?_
     have hF := hF.lit 106 17 (rws Slt.cells []) rfl
     refine apd (g := Slt.cells) hF 0 H (rdo (c := false) (g := Slt.cells) Slt.Qad) fun x43 H v11 s12 hF => ?_
     refine go ?_
     obtain ⟨o15, ho15, H⟩ := bnd H
     refine Qtf a0 a1 a2 x43 0 _ ho15 _ rfl _ _ b1 b3 ?_ ?_ _ _ v11 S hF
     ·intro Kap he T17 s18 e16v0 tT hF
      have he := he.symm
      subst he
      obtain ⟨x67, f1, H⟩ := bil (g := Cor.cells) Cor.Qad H
      refine go1 ?_
      obtain ⟨x71, hx71, H⟩ := bnd H
      obtain ⟨s20, hF, hw21, hb22, hz23⟩ := frz hF 0
      refine Q4q (C0 x67 Kap a2 _ hx71 _) (by (try simp only [sf, i6, zB, Cor.Qaa, Fm.Qaa]); exact (.cons (Wk.sub hb22 _) id (.cons hw21 (fun _ => rfl) (.cons (Wk.sub hb22 _) id .nil)))) hb22 ?_
      rintro _ _ ⟨rfl, rfl⟩
      refine go ?_
      refine st hF 0 rfl fun s24 hF => ?_
      refine go ?_
      have e := pur H; subst e
      exact rt [.agg [i6 x71.1.kind, i6 x71.1.num, .str x71.1.name, sf Val.cells x71.1.items, i6 x71.1.fn.kind, i6 x71.1.fn.id, .str x71.1.fn.name, i6 x71.1.fn.num, sf cI x71.1.fn.ids, i6 x71.1.fn.data.kind, .str x71.1.fn.data.name, i6 x71.1.fn.data.num, sf cI x71.1.fn.data.sc, sf Fm.cells x71.1.fn.data.kids, sf Cor.cells x71.1.fn.kids, sf Slt.cells x71.1.env], i6 x71.2.1, i6 x71.2.2]
     ·trivial
 ·intro Qce Qfp C0 L0 a0 a1 Qac Qh5 Qnk out H c hc Q tt b1 b3 hE hR T ss z0v0 tT hF
  obtain rfl := lpe (rfl : Qam Tryz.f141 0 = some _) hc
  refine Qah ?_
  have q := dum
  have hX := Tau.none tt
  refine go ?_
  refine cdp H (fun h H => ?_) (fun h H => ?_)
  ·obtain ⟨x119, f1, H⟩ := bil (g := Cor.cells) Cor.Qad H
   refine go1 ?_
   obtain ⟨x123, hx123, H⟩ := bnd H
   refine cl (C0 x119 a1 Qnk _ hx123) ?_
   refine go ?_
   refine Qag hF rfl fun b20 s21 hF => ?_
   refine go ?_
   refine st hF 0 rfl fun s22 hF => ?_
   refine go ?_
   refine cdn H (fun h H => ?_) (fun h H => ?_)
   ·refine go ?_
    refine st hF 1 rfl fun s23 hF => ?_
    refine go ?_
    exact hR _ (pur H).symm _ (rt [.agg [i6 0, i6 0, .str zB, .Qab, i6 0, i6 0, .str zB, i6 0, .Qab, i6 0, .str zB, i6 0, .Qab, .Qab, .Qab, .Qab], i6 x123.2.1, i6 x123.2.2])
   ·refine go ?_
    refine apd (g := Val.cells) hF 0 H (rdo (c := true) (g := Val.cells) Val.Qad) fun x136 H v24 s25 hF => ?_
    refine go ?_
    exact L0 a0 a1 x136 (i64.wrap (Qh5 + 1)) x123.2.2 _ H _ rfl Q tt b1 b3 hE hR _ _ v24 S (hF.drop 1 0)
  ·refine go ?_
   exact hE _ _ (pur H).symm _ _ z0v0 S hF
theorem Qyq : ∀ (a0 : Cor) (a1 : List Slt) (a2 : Int) r, Qce a0 a1 a2 = some r -> Qb0 Tryz.prog 141 [.agg (Cor.cells a0), sf Slt.cells a1, i6 a2] (.tup [.agg (Val.cells r.1), i6 r.2.1, i6 r.2.2]) := Qw0.1
theorem Qyt : ∀ (a0 : Val) (a1 : Int) r, Qhy a0 a1 = some r -> Qb0 Tryz.prog 142 [.agg (Val.cells a0), i6 a1] (i6 r) := by
 refine Qhy.partial_correctness  (motive_1 := fun a0 a1 r => Qb0 Tryz.prog 142 [.agg (Val.cells a0), i6 a1] (i6 r)) (motive_2 := fun a0 a1 Qm0 Q4o out => ∀ c, Qam Tryz.f142 1 = some c -> ∀ (Q : AX -> AS -> Prop) (tt : Sto) (b1 : Nat), (∀ (Kjz : Int), out = Kjz -> ∀ (T : Nat -> AV) (ss : Sto), T 5 = i6 Kjz -> Fx tt ss [(b1, ⟨34, 16, [i6 a0.kind, i6 a0.num, .str a0.name, sf Val.cells a0.items, i6 a0.fn.kind, i6 a0.fn.id, .str a0.fn.name, i6 a0.fn.num, sf cI a0.fn.ids, i6 a0.fn.data.kind, .str a0.fn.data.name, i6 a0.fn.data.num, sf cI a0.fn.data.sc, sf Fm.cells a0.fn.data.kids, sf Cor.cells a0.fn.kids, sf Slt.cells a0.env]⟩)] [] -> Q (.ex 2) ⟨T, ss⟩) -> True -> ∀ (T : Nat -> AV) (ss : Sto), T 1 = i6 a1 /\ T 2 = .ptr b1 0 /\ T 5 = i6 Qm0 /\ T 7 = i6 Q4o -> Fx tt ss [(b1, ⟨34, 16, [i6 a0.kind, i6 a0.num, .str a0.name, sf Val.cells a0.items, i6 a0.fn.kind, i6 a0.fn.id, .str a0.fn.name, i6 a0.fn.num, sf cI a0.fn.ids, i6 a0.fn.data.kind, .str a0.fn.data.name, i6 a0.fn.data.num, sf cI a0.fn.data.sc, sf Fm.cells a0.fn.data.kids, sf Cor.cells a0.fn.kids, sf Slt.cells a0.env]⟩)] [] -> Qbr (Qbc Tryz.prog c) Q ⟨T, ss⟩) (motive_3 := fun a0 a1 Qaj Qa7 out => ∀ c, Qam Tryz.f142 0 = some c -> ∀ (Q : AX -> AS -> Prop) (tt : Sto) (b1 : Nat), (∀ (Qvw : Int), out = Qvw -> ∀ (T : Nat -> AV) (ss : Sto), T 1 = i6 a1 /\ T 2 = .ptr b1 0 /\ T 5 = i6 Qvw -> Fx tt ss [(b1, ⟨34, 16, [i6 a0.kind, i6 a0.num, .str a0.name, sf Val.cells a0.items, i6 a0.fn.kind, i6 a0.fn.id, .str a0.fn.name, i6 a0.fn.num, sf cI a0.fn.ids, i6 a0.fn.data.kind, .str a0.fn.data.name, i6 a0.fn.data.num, sf cI a0.fn.data.sc, sf Fm.cells a0.fn.data.kids, sf Cor.cells a0.fn.kids, sf Slt.cells a0.env]⟩)] [] -> Q (.ex 0) ⟨T, ss⟩) -> True -> ∀ (T : Nat -> AV) (ss : Sto), T 1 = i6 a1 /\ T 2 = .ptr b1 0 /\ T 5 = i6 Qaj /\ T 6 = i6 Qa7 -> Fx tt ss [(b1, ⟨34, 16, [i6 a0.kind, i6 a0.num, .str a0.name, sf Val.cells a0.items, i6 a0.fn.kind, i6 a0.fn.id, .str a0.fn.name, i6 a0.fn.num, sf cI a0.fn.ids, i6 a0.fn.data.kind, .str a0.fn.data.name, i6 a0.fn.data.num, sf cI a0.fn.data.sc, sf Fm.cells a0.fn.data.kids, sf Cor.cells a0.fn.kids, sf Slt.cells a0.env]⟩)] [] -> Qbr (Qbc Tryz.prog c) Q ⟨T, ss⟩) ?_ ?_ ?_
 ·intro Qg3 Qg2 L1 L0 a0 a1 r H
  intro ss
  refine Qau mixed Tryz.func142 rfl (by kernel_rfl) (rs := [.tmp 4]) rfl (by kernel_rfl) ?_
  have hF := Fx.refl ss
  have hX := Tau.none ss
  have q := dum
  have tT := dum
  refine go ?_
  refine Qag hF rfl fun b1 ss2 hF => ?_
  refine go ?_
  obtain ⟨o5, ho5, H⟩ := bnd H
  refine L0 a0 a1 1 0 _ ho5 _ rfl _ _ b1 ?_ ?_ _ _  S hF
  ·intro Kg3 he T7 s8 tT hF
   have he := he.symm
   subst he
   refine go ?_
   obtain ⟨o12, ho12, H⟩ := bnd H
   refine L1 a0 a1 Kg3 0 _ ho12 _ rfl _ _ b1 ?_ ?_ _ _  S hF
   ·intro Kao he T14 s15 tT hF
    have he := he.symm
    subst he
    refine go ?_
    have e := pur H; subst e
    exact rt [i6 Kao]
   ·trivial
  ·trivial
 ·intro Qhy Qg3 C0 L1 a0 a1 Qm0 Q4o out H c hc Q tt b1 hE hR T ss tT hF
  obtain rfl := lpe (rfl : Qam Tryz.f142 1 = some _) hc
  refine Qah ?_
  have q := dum
  have hX := Tau.none tt
  refine go ?_
  obtain ⟨x40, g10, H⟩ := bnd H
  refine Qai 3 37 40 (.bool x40) (gi q (fun q => ?_) (fun q => ?_)) (fun J => ?_)
  ·refine go ?_
   exact Qaw 37 g10
  ·refine go ?_
   exact Qaw 37 g10
  refine go ?_
  refine cdb H (fun h H => ?_) (fun h H => ?_)
  ·obtain ⟨x47, f1, H⟩ := bil (g := Slt.cells) Slt.Qad H
   refine go1 ?_
   obtain ⟨x53, hx53, H⟩ := bnd H
   refine cl (C0 x47.val (i64.wrap (a1 - Qm0)) _ hx53) ?_
   refine go ?_
   exact L1 a0 a1 (i64.wrap (Qm0 + x53)) (i64.wrap (Q4o + 1)) _ H _ rfl Q tt b1 hE hR _ _  S hF
  ·refine go ?_
   exact hE _ (pur H).symm _ _  S hF
 ·intro Qhy Qg2 C0 L0 a0 a1 Qaj Qa7 out H c hc Q tt b1 hE hR T ss tT hF
  obtain rfl := lpe (rfl : Qam Tryz.f142 0 = some _) hc
  refine Qah ?_
  have q := dum
  have hX := Tau.none tt
  refine go ?_
  obtain ⟨x17, g3, H⟩ := bnd H
  refine Qai 3 14 17 (.bool x17) (gi q (fun q => ?_) (fun q => ?_)) (fun J => ?_)
  ·refine go ?_
   exact Qaw 14 g3
  ·refine go ?_
   exact Qaw 14 g3
  refine go ?_
  refine cdb H (fun h H => ?_) (fun h H => ?_)
  ·obtain ⟨x24, f1, H⟩ := bil (g := Val.cells) Val.Qad H
   refine go1 ?_
   obtain ⟨x29, hx29, H⟩ := bnd H
   refine cl (C0 x24 (i64.wrap (a1 - Qaj)) _ hx29) ?_
   refine go ?_
   exact L0 a0 a1 (i64.wrap (Qaj + x29)) (i64.wrap (Qa7 + 1)) _ H _ rfl Q tt b1 hE hR _ _  S hF
  ·refine go ?_
   exact hE _ (pur H).symm _ _  S hF
theorem Qpo : ∀ (a0 : Val) r, Qe1 a0 = some r -> Qb0 Tryz.prog 48 [.agg (Val.cells a0)] (.agg (Val.cells r)) := by
 refine Qe1.partial_correctness  (motive_1 := fun a0 r => Qb0 Tryz.prog 48 [.agg (Val.cells a0)] (.agg (Val.cells r))) (motive_2 := fun a0 x14 Qga Qd6 Qm0 out => ∀ c, Qam Tryz.f48 1 = some c -> ∀ (Q : AX -> AS -> Prop) (tt : Sto) (b1 : Nat) (b3 : Nat) (b5 : Nat) (e12v0 : AV), (∀ (Qv0 : List Slt), out = Qv0 -> ∀ (T : Nat -> AV) (ss : Sto) (e1v1 : AV), T 2 = .ptr b3 0 /\ T 3 = .ptr b5 0 -> Fx tt ss [(b5, ⟨34, 16, [i6 a0.kind, i6 a0.num, .str a0.name, e12v0, i6 x14.kind, i6 x14.id, .str x14.name, i6 x14.num, sf cI x14.ids, i6 x14.data.kind, .str x14.data.name, i6 x14.data.num, sf cI x14.data.sc, sf Fm.cells x14.data.kids, sf Cor.cells x14.kids, e1v1]⟩), (b3, ⟨34, 16, [i6 0, i6 0, .str zB, .Qab, i6 0, i6 0, .str zB, i6 0, .Qab, i6 0, .str zB, i6 0, .Qab, .Qab, .Qab, .Qab]⟩), (b1, ⟨34, 16, [i6 a0.kind, i6 a0.num, .str a0.name, sf Val.cells a0.items, i6 a0.fn.kind, i6 a0.fn.id, .str a0.fn.name, i6 a0.fn.num, sf cI a0.fn.ids, i6 a0.fn.data.kind, .str a0.fn.data.name, i6 a0.fn.data.num, sf cI a0.fn.data.sc, sf Fm.cells a0.fn.data.kids, sf Cor.cells a0.fn.kids, sf Slt.cells a0.env]⟩)] [⟨e1v1, 106, 17, rws Slt.cells Qv0⟩, ⟨e12v0, 34, 16, rws Val.cells Qga⟩] -> Q (.ex 2) ⟨T, ss⟩) -> True -> ∀ (T : Nat -> AV) (ss : Sto) (z1v1 : AV), T 1 = .ptr b1 0 /\ T 2 = .ptr b3 0 /\ T 3 = .ptr b5 0 /\ T 5 = i6 Qm0 -> Fx tt ss [(b5, ⟨34, 16, [i6 a0.kind, i6 a0.num, .str a0.name, e12v0, i6 x14.kind, i6 x14.id, .str x14.name, i6 x14.num, sf cI x14.ids, i6 x14.data.kind, .str x14.data.name, i6 x14.data.num, sf cI x14.data.sc, sf Fm.cells x14.data.kids, sf Cor.cells x14.kids, z1v1]⟩), (b3, ⟨34, 16, [i6 0, i6 0, .str zB, .Qab, i6 0, i6 0, .str zB, i6 0, .Qab, i6 0, .str zB, i6 0, .Qab, .Qab, .Qab, .Qab]⟩), (b1, ⟨34, 16, [i6 a0.kind, i6 a0.num, .str a0.name, sf Val.cells a0.items, i6 a0.fn.kind, i6 a0.fn.id, .str a0.fn.name, i6 a0.fn.num, sf cI a0.fn.ids, i6 a0.fn.data.kind, .str a0.fn.data.name, i6 a0.fn.data.num, sf cI a0.fn.data.sc, sf Fm.cells a0.fn.data.kids, sf Cor.cells a0.fn.kids, sf Slt.cells a0.env]⟩)] [⟨z1v1, 106, 17, rws Slt.cells Qd6⟩, ⟨e12v0, 34, 16, rws Val.cells Qga⟩] -> Qbr (Qbc Tryz.prog c) Q ⟨T, ss⟩) (motive_3 := fun a0 x14 Qac Qba out => ∀ c, Qam Tryz.f48 0 = some c -> ∀ (Q : AX -> AS -> Prop) (tt : Sto) (b1 : Nat) (b3 : Nat) (b5 : Nat), (∀ (Qbn : List Val), out = Qbn -> ∀ (T : Nat -> AV) (ss : Sto) (e0v0 : AV), T 1 = .ptr b1 0 /\ T 2 = .ptr b3 0 /\ T 3 = .ptr b5 0 -> Fx tt ss [(b5, ⟨34, 16, [i6 a0.kind, i6 a0.num, .str a0.name, e0v0, i6 x14.kind, i6 x14.id, .str x14.name, i6 x14.num, sf cI x14.ids, i6 x14.data.kind, .str x14.data.name, i6 x14.data.num, sf cI x14.data.sc, sf Fm.cells x14.data.kids, sf Cor.cells x14.kids, .Qab]⟩), (b3, ⟨34, 16, [i6 0, i6 0, .str zB, .Qab, i6 0, i6 0, .str zB, i6 0, .Qab, i6 0, .str zB, i6 0, .Qab, .Qab, .Qab, .Qab]⟩), (b1, ⟨34, 16, [i6 a0.kind, i6 a0.num, .str a0.name, sf Val.cells a0.items, i6 a0.fn.kind, i6 a0.fn.id, .str a0.fn.name, i6 a0.fn.num, sf cI a0.fn.ids, i6 a0.fn.data.kind, .str a0.fn.data.name, i6 a0.fn.data.num, sf cI a0.fn.data.sc, sf Fm.cells a0.fn.data.kids, sf Cor.cells a0.fn.kids, sf Slt.cells a0.env]⟩)] [⟨e0v0, 34, 16, rws Val.cells Qbn⟩] -> Q (.ex 0) ⟨T, ss⟩) -> True -> ∀ (T : Nat -> AV) (ss : Sto) (z0v0 : AV), T 1 = .ptr b1 0 /\ T 2 = .ptr b3 0 /\ T 3 = .ptr b5 0 /\ T 4 = i6 Qba -> Fx tt ss [(b5, ⟨34, 16, [i6 a0.kind, i6 a0.num, .str a0.name, z0v0, i6 x14.kind, i6 x14.id, .str x14.name, i6 x14.num, sf cI x14.ids, i6 x14.data.kind, .str x14.data.name, i6 x14.data.num, sf cI x14.data.sc, sf Fm.cells x14.data.kids, sf Cor.cells x14.kids, .Qab]⟩), (b3, ⟨34, 16, [i6 0, i6 0, .str zB, .Qab, i6 0, i6 0, .str zB, i6 0, .Qab, i6 0, .str zB, i6 0, .Qab, .Qab, .Qab, .Qab]⟩), (b1, ⟨34, 16, [i6 a0.kind, i6 a0.num, .str a0.name, sf Val.cells a0.items, i6 a0.fn.kind, i6 a0.fn.id, .str a0.fn.name, i6 a0.fn.num, sf cI a0.fn.ids, i6 a0.fn.data.kind, .str a0.fn.data.name, i6 a0.fn.data.num, sf cI a0.fn.data.sc, sf Fm.cells a0.fn.data.kids, sf Cor.cells a0.fn.kids, sf Slt.cells a0.env]⟩)] [⟨z0v0, 34, 16, rws Val.cells Qac⟩] -> Qbr (Qbc Tryz.prog c) Q ⟨T, ss⟩) ?_ ?_ ?_
 ·intro Qfn Qfm L1 L0 a0 r H
  intro ss
  refine Qau mixed Tryz.func48 rfl (by kernel_rfl) (rs := [.cell 2 34]) rfl (by kernel_rfl) ?_
  have hF := Fx.refl ss
  have hX := Tau.none ss
  have q := dum
  have tT := dum
  refine go ?_
  refine Qag hF rfl fun b1 ss2 hF => ?_
  refine go ?_
  refine Qag hF rfl fun b3 ss4 hF => ?_
  refine go ?_
  refine Qaq E0 [.v, .v, .v, .v, .v, .v, .v, .v, .v, .v, .x, .z] (by kernel_rfl) ?_
  refine go ?_
  obtain ⟨x14, hx14, H⟩ := bnd H
  refine cv (Qmd a0.fn _ hx14) ?_
  refine go ?_
  refine Qg4 hF rfl fun b5 ss6 hF => ?_
  refine go ?_
  refine st hF 0 rfl fun s7 hF => ?_
  have hF := hF.nil 34 16
  refine go ?_
  obtain ⟨o11, ho11, H⟩ := bnd H
  refine L0 a0 x14 [] 0 _ ho11 _ rfl _ _ b1 b3 b5 ?_ ?_ _ _ .Qab S hF
  ·intro Qga he T13 s14 e12v0 tT hF
   have he := he.symm
   subst he
   have hF := hF.nil 106 17
   refine go ?_
   obtain ⟨o19, ho19, H⟩ := bnd H
   refine L1 a0 x14 Qga [] 0 _ ho19 _ rfl _ _ b1 b3 b5 e12v0 ?_ ?_ _ _ .Qab S hF
   ·intro Kfn he T21 s22 e20v1 tT hF
    have he := he.symm
    subst he
    refine go ?_
    refine st hF 1 rfl fun s24 hF => ?_
    refine go ?_
    have e := pur H; subst e
    exact rt [.agg [i6 a0.kind, i6 a0.num, .str a0.name, e12v0, i6 x14.kind, i6 x14.id, .str x14.name, i6 x14.num, sf cI x14.ids, i6 x14.data.kind, .str x14.data.name, i6 x14.data.num, sf cI x14.data.sc, sf Fm.cells x14.data.kids, sf Cor.cells x14.kids, e20v1]]
   ·trivial
  ·trivial
 ·intro Qe1 Qfn C0 L1 a0 x14 Qga Qd6 Qm0 out H c hc Q tt b1 b3 b5 e12v0 hE hR T ss z1v1 tT hF
  obtain rfl := lpe (rfl : Qam Tryz.f48 1 = some _) hc
  refine Qah ?_
  have q := dum
  have hX := Tau.none tt
  refine go ?_
  refine cdp H (fun h H => ?_) (fun h H => ?_)
  ·refine go ?_
   refine Qaq E0 [.v, .v, .v, .v, .v, .v, .v, .v, .v, .v, .v, .v, .v, .v, .v, .v, .v, .x, .v, .z] (by kernel_rfl) ?_
   obtain ⟨x46, f1, H⟩ := bil (g := Slt.cells) Slt.Qad H
   refine go1 ?_
   obtain ⟨x55, hx55, H⟩ := bnd H
   refine cv (C0 x46.val _ hx55) ?_
   refine go ?_
   refine Q0w (g := Slt.cells) hF 0 H (rdo (c := true) (g := Slt.cells) Slt.Qad) fun x58 H v16 s17 hF => ?_
   refine go ?_
   refine st hF 0 (hF.cells 0 rfl) fun s18 hF => ?_
   refine go ?_
   exact L1 a0 x14 Qga x58 (i64.wrap (Qm0 + 1)) _ H _ rfl Q tt b1 b3 b5 e12v0 hE hR _ _ v16 S hF
  ·refine go ?_
   exact hE _ (pur H).symm _ _ z1v1 S hF
 ·intro Qe1 Qfm C0 L0 a0 x14 Qac Qba out H c hc Q tt b1 b3 b5 hE hR T ss z0v0 tT hF
  obtain rfl := lpe (rfl : Qam Tryz.f48 0 = some _) hc
  refine Qah ?_
  have q := dum
  have hX := Tau.none tt
  refine go ?_
  refine cdp H (fun h H => ?_) (fun h H => ?_)
  ·refine go ?_
   refine Qaq E0 [.v, .v, .v, .v, .v, .v, .v, .v, .v, .x, .v, .z] (by kernel_rfl) ?_
   obtain ⟨x28, f1, H⟩ := bil (g := Val.cells) Val.Qad H
   refine go1 ?_
   obtain ⟨x30, hx30, H⟩ := bnd H
   refine cv (C0 x28 _ hx30) ?_
   refine go ?_
   refine Q0w (g := Val.cells) hF 0 H (rdo (c := true) (g := Val.cells) Val.Qad) fun x32 H v8 s9 hF => ?_
   refine go ?_
   refine st hF 0 (hF.cells 0 rfl) fun s10 hF => ?_
   refine go ?_
   exact L0 a0 x14 x32 (i64.wrap (Qba + 1)) _ H _ rfl Q tt b1 b3 b5 hE hR _ _ v8 S hF
  ·refine go ?_
   exact hE _ (pur H).symm _ _ z0v0 S hF
theorem Qt2 : ∀ (a0 : Cor) (a1 : Int) r, Qjr a0 a1 = some r -> Qb0 Tryz.prog 85 [.agg (Cor.cells a0), i6 a1] (.tup [.agg (Val.cells r.1), i6 r.2]) := by
 intro a0 a1 r H
 intro ss
 unfold Qjr at H
 refine Qau mixed Tryz.func85 rfl (by kernel_rfl) (rs := [.cell 4 34, .tmp 5]) rfl (by kernel_rfl) ?_
 have hF := Fx.refl ss
 have hX := Tau.none ss
 have q := dum
 have tT := dum
 refine go ?_
 refine Qag hF rfl fun b1 ss2 hF => ?_
 refine go ?_
 refine Qag hF rfl fun b3 ss4 hF => ?_
 refine go ?_
 obtain ⟨x10, hx10, H⟩ := bnd H
 refine cl (Qmo a0 _ hx10) ?_
 refine go ?_
 obtain ⟨x15, g5, H⟩ := bnd H
 refine Qai 2 13 15 (.bool x15) (giN q (fun q => ?_) (fun q => ?_)) (fun J => ?_)
 ·refine go ?_
  exact Qaw 13 g5
 ·refine go ?_
  exact Qaw 13 g5
 refine go ?_
 obtain ⟨x19, g7, H⟩ := bnd H
 refine Qai 2 17 19 (.bool x19) (giN q (fun q => ?_) (fun q => ?_)) (fun J => ?_)
 ·refine go ?_
  exact Qaw 17 g7
 ·refine go ?_
  exact Qaw 17 g7
 refine go ?_
 refine cdb H (fun h H => ?_) (fun h H => ?_)
 ·refine go ?_
  refine st hF 0 rfl fun s9 hF => ?_
  refine go ?_
  have e := pur H; subst e
  exact rt [.agg [i6 0, i6 0, .str zB, .Qab, i6 0, i6 0, .str zB, i6 0, .Qab, i6 0, .str zB, i6 0, .Qab, .Qab, .Qab, .Qab], i6 5]
 ·refine go ?_
  obtain ⟨x25, hx25, H⟩ := bnd H
  refine cl (Qyq a0 [] a1 _ hx25) ?_
  refine go ?_
  refine Qag hF rfl fun b10 s11 hF => ?_
  refine go ?_
  refine st hF 0 rfl fun s12 hF => ?_
  refine go ?_
  refine cdn H (fun h H => ?_) (fun h H => ?_)
  ·refine go ?_
   refine st hF 1 rfl fun s13 hF => ?_
   refine go ?_
   have e := pur H; subst e
   exact rt [.agg [i6 0, i6 0, .str zB, .Qab, i6 0, i6 0, .str zB, i6 0, .Qab, i6 0, .str zB, i6 0, .Qab, .Qab, .Qab, .Qab], i6 x25.2.1]
  ·refine go ?_
   obtain ⟨x34, hx34, H⟩ := bnd H
   refine cl (Qyt x25.1 2000 _ hx34) ?_
   refine go ?_
   refine cdp H (fun h H => ?_) (fun h H => ?_)
   ·refine go ?_
    refine st hF 1 rfl fun s14 hF => ?_
    refine go ?_
    have e := pur H; subst e
    exact rt [.agg [i6 0, i6 0, .str zB, .Qab, i6 0, i6 0, .str zB, i6 0, .Qab, i6 0, .str zB, i6 0, .Qab, .Qab, .Qab, .Qab], i6 4]
   ·refine go ?_
    obtain ⟨x38, hx38, H⟩ := bnd H
    refine cl (Qpo x25.1 _ hx38) ?_
    refine go ?_
    refine st hF 1 rfl fun s15 hF => ?_
    refine go ?_
    have e := pur H; subst e
    exact rt [.agg [i6 x38.kind, i6 x38.num, .str x38.name, sf Val.cells x38.items, i6 x38.fn.kind, i6 x38.fn.id, .str x38.fn.name, i6 x38.fn.num, sf cI x38.fn.ids, i6 x38.fn.data.kind, .str x38.fn.data.name, i6 x38.fn.data.num, sf cI x38.fn.data.sc, sf Fm.cells x38.fn.data.kids, sf Cor.cells x38.fn.kids, sf Slt.cells x38.env], i6 x25.2.1]
theorem Qu2 : ∀ (a0 : List Int) r, Qjx a0 = some r -> Qb0 Tryz.prog 45 [sf cU a0] (.agg (Val.cells r)) := by
 intro a0 r H
 intro ss
 unfold Qjx at H
 refine Qau mixed Tryz.func45 rfl (by kernel_rfl) (rs := [.cell 2 34]) rfl (by kernel_rfl) ?_
 have hF := Fx.refl ss
 have hX := Tau.none ss
 have q := dum
 have tT := dum
 refine go ?_
 refine Qag hF rfl fun b1 ss2 hF => ?_
 refine go ?_
 obtain ⟨x9, hx9, H⟩ := bnd H
 refine cl (Qo6 a0 _ hx9) ?_
 refine go ?_
 refine Qag hF rfl fun b3 ss4 hF => ?_
 refine go ?_
 refine st hF 0 rfl fun ss5 hF => ?_
 refine go ?_
 obtain ⟨x14, hx14, H⟩ := bnd H
 refine cl (Qt2 x9.1 500 _ hx14) ?_
 refine go ?_
 refine Qag hF rfl fun b6 s7 hF => ?_
 refine go ?_
 refine st hF 0 rfl fun s8 hF => ?_
 refine go ?_
 refine cdn H (fun h H => ?_) (fun h H => ?_)
 ·refine go ?_
  obtain ⟨x20, hx20, H⟩ := bnd H
  refine cx (Qjs a0 _ hx20   _ (pre 0 0 0 hF hX)) ?_
  rintro _ s10 ⟨t11, b9, rfl, hT, hG⟩
  have nw13 : s8.var b9 = none := (hT.off b9 (by simp)).symm.trans (hG.var _ (List.mem_cons_self ..)).2.1
  have hF := Qxq 0 0 hF hX hT hG
  refine go ?_
  obtain ⟨x21, hx21, H⟩ := bnd H
  refine cx (Qgx 2 x20 _ hx21 b9  _ (pre 1 0 0 hF hX)) ?_
  rintro _ s14 ⟨t15, rfl, hT, hG⟩
  have hF := Qxq 1 0 hF hX hT hG
  refine go ?_
  obtain ⟨x22, hx22, H⟩ := bnd H
  refine cl (Qme x21.1 _ hx22) ?_
  refine go ?_
  refine st hF 3 rfl fun s17 hF => ?_
  refine go ?_
  have e := pur H; subst e
  exact rt [.agg [i6 x22.kind, i6 x22.num, .str x22.name, sf Val.cells x22.items, i6 x22.fn.kind, i6 x22.fn.id, .str x22.fn.name, i6 x22.fn.num, sf cI x22.fn.ids, i6 x22.fn.data.kind, .str x22.fn.data.name, i6 x22.fn.data.num, sf cI x22.fn.data.sc, sf Fm.cells x22.fn.data.kids, sf Cor.cells x22.fn.kids, sf Slt.cells x22.env]]
 ·refine go ?_
  refine st hF 2 rfl fun s18 hF => ?_
  refine go ?_
  have e := pur H; subst e
  exact rt [.agg [i6 x14.1.kind, i6 x14.1.num, .str x14.1.name, sf Val.cells x14.1.items, i6 x14.1.fn.kind, i6 x14.1.fn.id, .str x14.1.fn.name, i6 x14.1.fn.num, sf cI x14.1.fn.ids, i6 x14.1.fn.data.kind, .str x14.1.fn.data.name, i6 x14.1.fn.data.num, sf cI x14.1.fn.data.sc, sf Fm.cells x14.1.fn.data.kids, sf Cor.cells x14.1.fn.kids, sf Slt.cells x14.1.env]]
theorem Qoc : ∀ (a0 : List Int) r, Qgk a0 = some r -> Qb0 Tryz.prog 20 [sf cU a0] (.tup [.agg (Val.cells r.1), .agg (Val.cells r.2)]) := by
 intro a0 r H
 intro ss
 unfold Qgk at H
 refine Qau mixed Tryz.func20 rfl (by kernel_rfl) (rs := [.cell 2 34, .cell 3 34]) rfl (by kernel_rfl) ?_
 have hF := Fx.refl ss
 have hX := Tau.none ss
 have q := dum
 have tT := dum
 refine go ?_
 refine Qag hF rfl fun b1 ss2 hF => ?_
 refine go ?_
 refine Qag hF rfl fun b3 ss4 hF => ?_
 refine go ?_
 obtain ⟨x7, hx7, H⟩ := bnd H
 refine cl (Qu2 a0 _ hx7) ?_
 refine go ?_
 refine Qag hF rfl fun b5 ss6 hF => ?_
 refine go ?_
 refine st hF 0 rfl fun s7 hF => ?_
 refine go ?_
 obtain ⟨x9, hx9, H⟩ := bnd H
 refine cx (Qjs a0 _ hx9   _ (pre 0 0 0 hF hX)) ?_
 rintro _ s9 ⟨t10, b8, rfl, hT, hG⟩
 have nw12 : s7.var b8 = none := (hT.off b8 (by simp)).symm.trans (hG.var _ (List.mem_cons_self ..)).2.1
 have hF := Qxq 0 0 hF hX hT hG
 refine go ?_
 obtain ⟨x11, hx11, H⟩ := bnd H
 refine cx (Qan 3 x9 _ hx11 b8  _ (pre 1 0 0 hF hX)) ?_
 rintro _ s13 ⟨t14, rfl, hT, hG⟩
 have hF := Qxq 1 0 hF hX hT hG
 refine go ?_
 refine cdp H (fun h H => ?_) (fun h H => ?_)
 ·refine go ?_
  obtain ⟨E, hEq⟩ : ∃ E, E = EE s13 [b1] := ⟨_, rfl⟩
  have n16 : ¬ E b8 := by rw [hEq]; exact EE.not (hF.at 0 rfl) (by simp only [List.mem_cons, List.not_mem_nil, or_false, not_or]; exact neL hF 0 3 rfl rfl (by decide))
  have n17 : ¬ E b5 := by rw [hEq]; exact EE.not (hF.at 1 rfl) (by simp only [List.mem_cons, List.not_mem_nil, or_false, not_or]; exact neL hF 1 3 rfl rfl (by decide))
  have n18 : ¬ E b3 := by rw [hEq]; exact EE.not (hF.at 2 rfl) (by simp only [List.mem_cons, List.not_mem_nil, or_false, not_or]; exact neL hF 2 3 rfl rfl (by decide))
  refine Qaq E [.v, .v, .v, .x, .z] (by kernel_rfl) ?_
  have z := And.intro (Qaf (hF.at 0 rfl) n16) (And.intro (Qaf (hF.at 1 rfl) n17) (Qaf (hF.at 2 rfl) n18)); refine gh ?_
  obtain ⟨x15, hx15, H⟩ := bnd H
  refine cv (Qpo x7 _ hx15) ?_
  have z := And.intro (Qaf (hF.at 0 rfl) n16) (And.intro (Qaf (hF.at 1 rfl) n17) (Qaf (hF.at 2 rfl) n18)); refine gh ?_
  refine stK hF 3 (by rw [hEq]; exact EE.of (by simp)) rfl fun s19 hF => ?_
  have z := And.intro (Qaf (hF.at 0 rfl) n16) (And.intro (Qaf (hF.at 1 rfl) n17) (Qaf (hF.at 2 rfl) n18)); refine gh ?_
  refine st hF 2 rfl fun s20 hF => ?_
  have z := And.intro (Qaf (hF.at 0 rfl) n16) (And.intro (Qaf (hF.at 1 rfl) n17) (Qaf (hF.at 2 rfl) n18)); refine gh ?_
  refine go ?_
  have e := pur H; subst e
  exact rt [.agg [i6 x7.kind, i6 x7.num, .str x7.name, sf Val.cells x7.items, i6 x7.fn.kind, i6 x7.fn.id, .str x7.fn.name, i6 x7.fn.num, sf cI x7.fn.ids, i6 x7.fn.data.kind, .str x7.fn.data.name, i6 x7.fn.data.num, sf cI x7.fn.data.sc, sf Fm.cells x7.fn.data.kids, sf Cor.cells x7.fn.kids, sf Slt.cells x7.env], .agg [i6 x15.kind, i6 x15.num, .str x15.name, sf Val.cells x15.items, i6 x15.fn.kind, i6 x15.fn.id, .str x15.fn.name, i6 x15.fn.num, sf cI x15.fn.ids, i6 x15.fn.data.kind, .str x15.fn.data.name, i6 x15.fn.data.num, sf cI x15.fn.data.sc, sf Fm.cells x15.fn.data.kids, sf Cor.cells x15.fn.kids, sf Slt.cells x15.env]]
 ·refine go ?_
  obtain ⟨E, hEq⟩ : ∃ E, E = EE s13 [b8, b1] := ⟨_, rfl⟩
  have n21 : ¬ E b5 := by rw [hEq]; exact EE.not (hF.at 1 rfl) (by simp only [List.mem_cons, List.not_mem_nil, or_false, not_or]; exact ⟨neL hF 1 0 rfl rfl (by decide), neL hF 1 3 rfl rfl (by decide)⟩)
  have n22 : ¬ E b3 := by rw [hEq]; exact EE.not (hF.at 2 rfl) (by simp only [List.mem_cons, List.not_mem_nil, or_false, not_or]; exact ⟨neL hF 2 0 rfl rfl (by decide), neL hF 2 3 rfl rfl (by decide)⟩)
  refine Qaq E [.v, .v, .x, .v, .x, .z] (by kernel_rfl) ?_
  have z := And.intro (Qaf (hF.at 1 rfl) n21) (Qaf (hF.at 2 rfl) n22); refine gh ?_
  obtain ⟨x18, hx18, H⟩ := bnd H
  refine cx (Qgx 2 x11.2 _ hx18 b8  _ (pre 1 0 0 hF hX)) ?_
  rintro _ s23 ⟨t24, rfl, hT, hG⟩
  refine Qke (Fx.kept hT hG (by intro p hp; simp only [List.mem_cons, List.not_mem_nil, or_false] at hp <;> first | (rcases hp with rfl <;> (rw [hEq]; first | (refine EE.of ?_; simp; done) | exact EE.new nw12))| cases hp)) fun kp26 => ?_
  have hF := Qxq 1 0 hF hX hT hG
  have z := And.intro (Qaf (hF.at 1 rfl) n21) (Qaf (hF.at 2 rfl) n22); refine gh ?_
  obtain ⟨x19, hx19, H⟩ := bnd H
  refine cv (Qme x18.1 _ hx19) ?_
  have z := And.intro (Qaf (hF.at 1 rfl) n21) (Qaf (hF.at 2 rfl) n22); refine gh ?_
  refine stK hF 3 (by rw [hEq]; exact EE.of (by simp)) rfl fun s27 hF => ?_
  have z := And.intro (Qaf (hF.at 1 rfl) n21) (Qaf (hF.at 2 rfl) n22); refine gh ?_
  refine st hF 2 rfl fun s28 hF => ?_
  have z := And.intro (Qaf (hF.at 1 rfl) n21) (Qaf (hF.at 2 rfl) n22); refine gh ?_
  refine go ?_
  have e := pur H; subst e
  exact rt [.agg [i6 x7.kind, i6 x7.num, .str x7.name, sf Val.cells x7.items, i6 x7.fn.kind, i6 x7.fn.id, .str x7.fn.name, i6 x7.fn.num, sf cI x7.fn.ids, i6 x7.fn.data.kind, .str x7.fn.data.name, i6 x7.fn.data.num, sf cI x7.fn.data.sc, sf Fm.cells x7.fn.data.kids, sf Cor.cells x7.fn.kids, sf Slt.cells x7.env], .agg [i6 x19.kind, i6 x19.num, .str x19.name, sf Val.cells x19.items, i6 x19.fn.kind, i6 x19.fn.id, .str x19.fn.name, i6 x19.fn.num, sf cI x19.fn.ids, i6 x19.fn.data.kind, .str x19.fn.data.name, i6 x19.fn.data.num, sf cI x19.fn.data.sc, sf Fm.cells x19.fn.data.kids, sf Cor.cells x19.fn.kids, sf Slt.cells x19.env]]
theorem Qot : ∀ (a0 : Int) r, Qhl a0 = some r -> Qb0 Tryz.prog 79 [i6 a0] (.str r) := fun a0 r H =>
 Ka8 Tryz.func79 (by kernel_rfl) (by kernel_rfl) (by kernel_rfl) (fun n h0 h1 w ht => Tryz.strconv_Itoa n h0 h1 w ht) H
theorem Qw5 : ∀ (a0 : List ByteArray) (a1 : ByteArray) r, Qjg a0 a1 = some r -> Qb0 Tryz.prog 80 [sf cS a0, .str a1] (.str r) := fun a0 a1 r H =>
 Kba Tryz.func80 (by kernel_rfl) (by kernel_rfl) (fun a c sep w => Tryz.strings_Join_none a c sep w) (fun bk o c xs sep w h1 h2 h3 h4 h5 => Tryz.strings_Join bk o c xs sep w h1 h2 h3 h4 h5) H
end Go.Proofs.SA
