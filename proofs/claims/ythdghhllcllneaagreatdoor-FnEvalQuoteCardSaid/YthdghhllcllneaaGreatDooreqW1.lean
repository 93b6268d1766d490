/- Printed by a program of mine: the plain functions that the code computes (D), and the walks that show it (W). -/
import Derived.Test.YthdghhllcllneaaGreatDoorGx
import Derived.Test.YthdghhllcllneaaGreatDoorSaTy
import Derived.Test.YthdghhllcllneaaGreatDoorChecked
import Derived.Lib.Strings
import Derived.Lib.Slices
import Derived.Lib.Walk
import Derived.Lib.Bytealg
import Derived.Test.YthdghhllcllneaaGreatDoorGv
import Derived.Test.YthdghhllcllneaaGreatDoorSf
import Derived.Test.YthdghhllcllneaaGreatDooreqD
import Derived.Test.YthdghhllcllneaaGreatDooreqW0
set_option maxRecDepth 100000
set_option maxHeartbeats 2000000
set_option linter.unusedSimpArgs false
set_option linter.unusedVariables false
open Go Go.Proofs Go.Proofs.Shadow
namespace Go.Proofs.SA
theorem Ql9 : ∀ (a0 : Fm) r, Qd3 a0 = some r -> Qdz Tryz.prog 91 [.agg (Fm.cells a0)] (.agg (Fm.cells r)) := by
 refine Qd3.partial_correctness  (motive_1 := fun a0 r => Qdz Tryz.prog 91 [.agg (Fm.cells a0)] (.agg (Fm.cells r))) (motive_2 := fun a0 x14 Qag Qjr out => ∀ c, Qaq Tryz.f91 0 = some c -> ∀ (Q : AX -> AS -> Prop) (tt : Sto) (b1 : Nat) (b3 : Nat) (b5 : Nat), (∀ (Qeh : List Fm), out = Qeh -> ∀ (T : Nat -> AV) (ss : Sto) (e0v0 : AV), T 2 = .ptr b3 0 /\ T 3 = .ptr b5 0 -> Fx tt ss [(b5, ⟨26, 5, [i6 a0.kind, .str a0.name, i6 a0.num, sf cI x14, e0v0]⟩), (b3, ⟨26, 5, [i6 0, .str zB, i6 0, .Qab, .Qab]⟩), (b1, ⟨26, 5, [i6 a0.kind, .str a0.name, i6 a0.num, sf cI a0.sc, sf Fm.cells a0.kids]⟩)] [⟨e0v0, 26, 5, rws Fm.cells Qeh⟩] -> Q (.ex 0) ⟨T, ss⟩) -> True -> ∀ (T : Nat -> AV) (ss : Sto) (z0v0 : AV), T 2 = .ptr b3 0 /\ T 3 = .ptr b5 0 /\ T 17 = sf Fm.cells a0.kids /\ T 18 = i6 (a0.kids.length : Int) /\ T 19 = i6 Qjr -> Fx tt ss [(b5, ⟨26, 5, [i6 a0.kind, .str a0.name, i6 a0.num, sf cI x14, z0v0]⟩), (b3, ⟨26, 5, [i6 0, .str zB, i6 0, .Qab, .Qab]⟩), (b1, ⟨26, 5, [i6 a0.kind, .str a0.name, i6 a0.num, sf cI a0.sc, sf Fm.cells a0.kids]⟩)] [⟨z0v0, 26, 5, rws Fm.cells Qag⟩] -> aLp Tryz.prog c Q ⟨T, ss⟩) ?_ ?_
 ·intro Qci L0 a0 r H
  intro ss
  refine Qaz mixed Tryz.func91 rfl (by kernel_rfl) (rs := [.cell 2 26]) rfl (by kernel_rfl) ?_
  have hF := Fx.refl ss
  have hX := Tau.none ss
  have q := dum
  have tT := dum
  refine go ?_
  refine Qad hF rfl fun b1 ss2 hF => ?_
  refine go ?_
  refine Qad hF rfl fun b3 s4 hF => ?_
  refine go ?_
  refine Qa0 E0 [.v, .v, .v, .v, .v, .v, .v, .v, .v, .v, .x, .z] (by kernel_rfl) ?_
  refine go ?_
  obtain ⟨x14, hx14, H⟩ := bnd H
  refine cv (Qgb a0.sc _ hx14) ?_
  refine go ?_
  refine Qh8 hF rfl fun b5 s6 hF => ?_
  refine go ?_
  refine st hF 0 rfl fun s7 hF => ?_
  have hF := hF.nil 26 5
  refine go ?_
  obtain ⟨o14, ho14, H⟩ := bnd H
  refine L0 a0 x14 [] 0 _ ho14 _ rfl _ _ b1 b3 b5 ?_ ?_ _ _ .Qab S hF
  ·intro Qdh he T16 s17 e15v0 tT hF
   have he := he.symm
   subst he
   refine go ?_
   refine st hF 1 rfl fun s19 hF => ?_
   refine go ?_
   have e := pur H; subst e
   exact rt [.agg [i6 a0.kind, .str a0.name, i6 a0.num, sf cI x14, e15v0]]
  ·trivial
 ·intro Qd3 Qci C0 L0 a0 x14 Qag Qjr out H c hc Q tt b1 b3 b5 hE hR T ss z0v0 tT hF
  obtain rfl := lpe (rfl : Qaq Tryz.f91 0 = some _) hc
  refine Qak ?_
  have q := dum
  have hX := Tau.none tt
  refine go ?_
  refine cdp H (fun h H => ?_) (fun h H => ?_)
  ·obtain ⟨x21, f1, H⟩ := bil (g := Fm.cells) Fm.Qac H
   refine go1 ?_
   refine Qad hF rfl fun b8 s9 hF => ?_
   refine go ?_
   refine st hF 0 rfl fun s10 hF => ?_
   refine go ?_
   refine Qa0 E0 [.v, .v, .v, .v, .v, .x, .v, .z] (by kernel_rfl) ?_
   refine go ?_
   obtain ⟨x26, hx26, H⟩ := bnd H
   refine cv (C0 x21 _ hx26) ?_
   refine go ?_
   refine Qq9 (g := Fm.cells) hF 0 H (rdo (c := true) (g := Fm.cells) Fm.Qac) fun x28 H v11 s12 hF => ?_
   refine go ?_
   refine st hF 1 (hF.cells 0 rfl) fun s13 hF => ?_
   refine go ?_
   exact L0 a0 x14 x28 (IntKind.i64.wrap (Qjr + 1)) _ H _ rfl Q tt b1 b3 b5 hE hR _ _ v11 S (hF.drop 1 0)
  ·refine go ?_
   exact wq (hE _ (pur H).symm _ _ z0v0 S hF)
theorem Ql8 : ∀ (a0 : Cor) r, Qd2 a0 = some r -> Qdz Tryz.prog 57 [.agg (Cor.cells a0)] (.agg (Cor.cells r)) := by
 refine Qd2.partial_correctness  (motive_1 := fun a0 r => Qdz Tryz.prog 57 [.agg (Cor.cells a0)] (.agg (Cor.cells r))) (motive_2 := fun a0 x16 x19 Qag Qju out => ∀ c, Qaq Tryz.f57 0 = some c -> ∀ (Q : AX -> AS -> Prop) (tt : Sto) (b1 : Nat) (b3 : Nat) (b5 : Nat), (∀ (Qeh : List Cor), out = Qeh -> ∀ (T : Nat -> AV) (ss : Sto) (e0v0 : AV), T 2 = .ptr b3 0 /\ T 3 = .ptr b5 0 -> Fx tt ss [(b5, ⟨31, 11, [i6 a0.kind, i6 a0.id, .str a0.name, i6 a0.num, sf cI x16, i6 x19.kind, .str x19.name, i6 x19.num, sf cI x19.sc, sf Fm.cells x19.kids, e0v0]⟩), (b3, ⟨31, 11, [i6 0, i6 0, .str zB, i6 0, .Qab, i6 0, .str zB, i6 0, .Qab, .Qab, .Qab]⟩), (b1, ⟨31, 11, [i6 a0.kind, i6 a0.id, .str a0.name, i6 a0.num, sf cI a0.ids, i6 a0.data.kind, .str a0.data.name, i6 a0.data.num, sf cI a0.data.sc, sf Fm.cells a0.data.kids, sf Cor.cells a0.kids]⟩)] [⟨e0v0, 31, 11, rws Cor.cells Qeh⟩] -> Q (.ex 0) ⟨T, ss⟩) -> True -> ∀ (T : Nat -> AV) (ss : Sto) (z0v0 : AV), T 2 = .ptr b3 0 /\ T 3 = .ptr b5 0 /\ T 22 = sf Cor.cells a0.kids /\ T 23 = i6 (a0.kids.length : Int) /\ T 24 = i6 Qju -> Fx tt ss [(b5, ⟨31, 11, [i6 a0.kind, i6 a0.id, .str a0.name, i6 a0.num, sf cI x16, i6 x19.kind, .str x19.name, i6 x19.num, sf cI x19.sc, sf Fm.cells x19.kids, z0v0]⟩), (b3, ⟨31, 11, [i6 0, i6 0, .str zB, i6 0, .Qab, i6 0, .str zB, i6 0, .Qab, .Qab, .Qab]⟩), (b1, ⟨31, 11, [i6 a0.kind, i6 a0.id, .str a0.name, i6 a0.num, sf cI a0.ids, i6 a0.data.kind, .str a0.data.name, i6 a0.data.num, sf cI a0.data.sc, sf Fm.cells a0.data.kids, sf Cor.cells a0.kids]⟩)] [⟨z0v0, 31, 11, rws Cor.cells Qag⟩] -> aLp Tryz.prog c Q ⟨T, ss⟩) ?_ ?_
 ·intro Qch L0 a0 r H
  intro ss
  refine Qaz mixed Tryz.func57 rfl (by kernel_rfl) (rs := [.cell 2 31]) rfl (by kernel_rfl) ?_
  have hF := Fx.refl ss
  have hX := Tau.none ss
  have q := dum
  have tT := dum
  refine go ?_
  refine Qad hF rfl fun b1 ss2 hF => ?_
  refine go ?_
  refine Qad hF rfl fun b3 s4 hF => ?_
  refine go ?_
  refine Qa0 E0 [.v, .v, .v, .v, .v, .v, .v, .v, .v, .v, .v, .v, .v, .v, .v, .x, .z] (by kernel_rfl) ?_
  refine go ?_
  obtain ⟨x16, hx16, H⟩ := bnd H
  refine cv (Qgb a0.ids _ hx16) ?_
  refine go ?_
  obtain ⟨x19, hx19, H⟩ := bnd H
  refine cv (Ql9 a0.data _ hx19) ?_
  refine go ?_
  refine Qh8 hF rfl fun b5 s6 hF => ?_
  refine go ?_
  refine st hF 0 rfl fun s7 hF => ?_
  have hF := hF.nil 31 11
  refine go ?_
  obtain ⟨o14, ho14, H⟩ := bnd H
  refine L0 a0 x16 x19 [] 0 _ ho14 _ rfl _ _ b1 b3 b5 ?_ ?_ _ _ .Qab S hF
  ·intro Qdh he T16 s17 e15v0 tT hF
   have he := he.symm
   subst he
   refine go ?_
   refine st hF 1 rfl fun s19 hF => ?_
   refine go ?_
   have e := pur H; subst e
   exact rt [.agg [i6 a0.kind, i6 a0.id, .str a0.name, i6 a0.num, sf cI x16, i6 x19.kind, .str x19.name, i6 x19.num, sf cI x19.sc, sf Fm.cells x19.kids, e15v0]]
  ·trivial
 ·intro Qd2 Qch C0 L0 a0 x16 x19 Qag Qju out H c hc Q tt b1 b3 b5 hE hR T ss z0v0 tT hF
  obtain rfl := lpe (rfl : Qaq Tryz.f57 0 = some _) hc
  refine Qak ?_
  have q := dum
  have hX := Tau.none tt
  refine go ?_
  refine cdp H (fun h H => ?_) (fun h H => ?_)
  ·obtain ⟨x26, f1, H⟩ := bil (g := Cor.cells) Cor.Qac H
   refine go1 ?_
   refine Qad hF rfl fun b8 s9 hF => ?_
   refine go ?_
   refine st hF 0 rfl fun s10 hF => ?_
   refine go ?_
   refine Qa0 E0 [.v, .v, .v, .v, .v, .x, .v, .z] (by kernel_rfl) ?_
   refine go ?_
   obtain ⟨x31, hx31, H⟩ := bnd H
   refine cv (C0 x26 _ hx31) ?_
   refine go ?_
   refine Qq9 (g := Cor.cells) hF 0 H (rdo (c := true) (g := Cor.cells) Cor.Qac) fun x33 H v11 s12 hF => ?_
   refine go ?_
   refine st hF 1 (hF.cells 0 rfl) fun s13 hF => ?_
   refine go ?_
   exact L0 a0 x16 x19 x33 (IntKind.i64.wrap (Qju + 1)) _ H _ rfl Q tt b1 b3 b5 hE hR _ _ v11 S (hF.drop 1 0)
  ·refine go ?_
   exact wq (hE _ (pur H).symm _ _ z0v0 S hF)
theorem Qlk : ∀ (a0 : Val) r, Qbt a0 = some r -> Qdz Tryz.prog 31 [.agg (Val.cells a0)] (.agg (Val.cells r)) := by
 refine Qbt.partial_correctness  (motive_1 := fun a0 r => Qdz Tryz.prog 31 [.agg (Val.cells a0)] (.agg (Val.cells r))) (motive_2 := fun a0 x16 Qdh Qit Qjz out => ∀ c, Qaq Tryz.f31 1 = some c -> ∀ (Q : AX -> AS -> Prop) (tt : Sto) (b1 : Nat) (b3 : Nat) (b5 : Nat) (e15v0 : AV), (∀ (Q2i : List Slt), out = Q2i -> ∀ (T : Nat -> AV) (ss : Sto) (e1v1 : AV), T 2 = .ptr b3 0 /\ T 3 = .ptr b5 0 -> Fx tt ss [(b5, ⟨34, 16, [i6 a0.kind, i6 a0.num, .str a0.name, e15v0, i6 x16.kind, i6 x16.id, .str x16.name, i6 x16.num, sf cI x16.ids, i6 x16.data.kind, .str x16.data.name, i6 x16.data.num, sf cI x16.data.sc, sf Fm.cells x16.data.kids, sf Cor.cells x16.kids, e1v1]⟩), (b3, ⟨34, 16, [i6 0, i6 0, .str zB, .Qab, i6 0, i6 0, .str zB, i6 0, .Qab, i6 0, .str zB, i6 0, .Qab, .Qab, .Qab, .Qab]⟩), (b1, ⟨34, 16, [i6 a0.kind, i6 a0.num, .str a0.name, sf Val.cells a0.items, i6 a0.fn.kind, i6 a0.fn.id, .str a0.fn.name, i6 a0.fn.num, sf cI a0.fn.ids, i6 a0.fn.data.kind, .str a0.fn.data.name, i6 a0.fn.data.num, sf cI a0.fn.data.sc, sf Fm.cells a0.fn.data.kids, sf Cor.cells a0.fn.kids, sf Slt.cells a0.env]⟩)] [⟨e1v1, 78, 17, rws Slt.cells Q2i⟩, ⟨e15v0, 34, 16, rws Val.cells Qdh⟩] -> Q (.ex 2) ⟨T, ss⟩) -> True -> ∀ (T : Nat -> AV) (ss : Sto) (z1v1 : AV), T 2 = .ptr b3 0 /\ T 3 = .ptr b5 0 /\ T 34 = sf Slt.cells a0.env /\ T 35 = i6 (a0.env.length : Int) /\ T 36 = i6 Qjz -> Fx tt ss [(b5, ⟨34, 16, [i6 a0.kind, i6 a0.num, .str a0.name, e15v0, i6 x16.kind, i6 x16.id, .str x16.name, i6 x16.num, sf cI x16.ids, i6 x16.data.kind, .str x16.data.name, i6 x16.data.num, sf cI x16.data.sc, sf Fm.cells x16.data.kids, sf Cor.cells x16.kids, z1v1]⟩), (b3, ⟨34, 16, [i6 0, i6 0, .str zB, .Qab, i6 0, i6 0, .str zB, i6 0, .Qab, i6 0, .str zB, i6 0, .Qab, .Qab, .Qab, .Qab]⟩), (b1, ⟨34, 16, [i6 a0.kind, i6 a0.num, .str a0.name, sf Val.cells a0.items, i6 a0.fn.kind, i6 a0.fn.id, .str a0.fn.name, i6 a0.fn.num, sf cI a0.fn.ids, i6 a0.fn.data.kind, .str a0.fn.data.name, i6 a0.fn.data.num, sf cI a0.fn.data.sc, sf Fm.cells a0.fn.data.kids, sf Cor.cells a0.fn.kids, sf Slt.cells a0.env]⟩)] [⟨z1v1, 78, 17, rws Slt.cells Qit⟩, ⟨e15v0, 34, 16, rws Val.cells Qdh⟩] -> aLp Tryz.prog c Q ⟨T, ss⟩) (motive_3 := fun a0 x16 Qag Qfs out => ∀ c, Qaq Tryz.f31 0 = some c -> ∀ (Q : AX -> AS -> Prop) (tt : Sto) (b1 : Nat) (b3 : Nat) (b5 : Nat), (∀ (Qeh : List Val), out = Qeh -> ∀ (T : Nat -> AV) (ss : Sto) (e0v0 : AV), T 1 = .ptr b1 0 /\ T 2 = .ptr b3 0 /\ T 3 = .ptr b5 0 -> Fx tt ss [(b5, ⟨34, 16, [i6 a0.kind, i6 a0.num, .str a0.name, e0v0, i6 x16.kind, i6 x16.id, .str x16.name, i6 x16.num, sf cI x16.ids, i6 x16.data.kind, .str x16.data.name, i6 x16.data.num, sf cI x16.data.sc, sf Fm.cells x16.data.kids, sf Cor.cells x16.kids, .Qab]⟩), (b3, ⟨34, 16, [i6 0, i6 0, .str zB, .Qab, i6 0, i6 0, .str zB, i6 0, .Qab, i6 0, .str zB, i6 0, .Qab, .Qab, .Qab, .Qab]⟩), (b1, ⟨34, 16, [i6 a0.kind, i6 a0.num, .str a0.name, sf Val.cells a0.items, i6 a0.fn.kind, i6 a0.fn.id, .str a0.fn.name, i6 a0.fn.num, sf cI a0.fn.ids, i6 a0.fn.data.kind, .str a0.fn.data.name, i6 a0.fn.data.num, sf cI a0.fn.data.sc, sf Fm.cells a0.fn.data.kids, sf Cor.cells a0.fn.kids, sf Slt.cells a0.env]⟩)] [⟨e0v0, 34, 16, rws Val.cells Qeh⟩] -> Q (.ex 0) ⟨T, ss⟩) -> True -> ∀ (T : Nat -> AV) (ss : Sto) (z0v0 : AV), T 1 = .ptr b1 0 /\ T 2 = .ptr b3 0 /\ T 3 = .ptr b5 0 /\ T 19 = sf Val.cells a0.items /\ T 20 = i6 (a0.items.length : Int) /\ T 21 = i6 Qfs -> Fx tt ss [(b5, ⟨34, 16, [i6 a0.kind, i6 a0.num, .str a0.name, z0v0, i6 x16.kind, i6 x16.id, .str x16.name, i6 x16.num, sf cI x16.ids, i6 x16.data.kind, .str x16.data.name, i6 x16.data.num, sf cI x16.data.sc, sf Fm.cells x16.data.kids, sf Cor.cells x16.kids, .Qab]⟩), (b3, ⟨34, 16, [i6 0, i6 0, .str zB, .Qab, i6 0, i6 0, .str zB, i6 0, .Qab, i6 0, .str zB, i6 0, .Qab, .Qab, .Qab, .Qab]⟩), (b1, ⟨34, 16, [i6 a0.kind, i6 a0.num, .str a0.name, sf Val.cells a0.items, i6 a0.fn.kind, i6 a0.fn.id, .str a0.fn.name, i6 a0.fn.num, sf cI a0.fn.ids, i6 a0.fn.data.kind, .str a0.fn.data.name, i6 a0.fn.data.num, sf cI a0.fn.data.sc, sf Fm.cells a0.fn.data.kids, sf Cor.cells a0.fn.kids, sf Slt.cells a0.env]⟩)] [⟨z0v0, 34, 16, rws Val.cells Qag⟩] -> aLp Tryz.prog c Q ⟨T, ss⟩) ?_ ?_ ?_
 ·intro Qb1 Qb0 L1 L0 a0 r H
  intro ss
  refine Qaz mixed Tryz.func31 rfl (by kernel_rfl) (rs := [.cell 2 34]) rfl (by kernel_rfl) ?_
  have hF := Fx.refl ss
  have hX := Tau.none ss
  have q := dum
  have tT := dum
  refine go ?_
  refine Qad hF rfl fun b1 ss2 hF => ?_
  refine go ?_
  refine Qad hF rfl fun b3 s4 hF => ?_
  refine go ?_
  refine Qa0 E0 [.v, .v, .v, .v, .v, .v, .v, .v, .v, .v, .x, .z] (by kernel_rfl) ?_
  refine go ?_
  obtain ⟨x16, hx16, H⟩ := bnd H
  refine cv (Ql8 a0.fn _ hx16) ?_
  refine go ?_
  refine Qh8 hF rfl fun b5 s6 hF => ?_
  refine go ?_
  refine st hF 0 rfl fun s7 hF => ?_
  have hF := hF.nil 34 16
  refine go ?_
  obtain ⟨o14, ho14, H⟩ := bnd H
  refine L0 a0 x16 [] 0 _ ho14 _ rfl _ _ b1 b3 b5 ?_ ?_ _ _ .Qab S hF
  ·intro Qdh he T16 s17 e15v0 tT hF
   have he := he.symm
   subst he
   have hF := hF.nil 78 17
   refine go ?_
   obtain ⟨o25, ho25, H⟩ := bnd H
   refine L1 a0 x16 Qdh [] 0 _ ho25 _ rfl _ _ b1 b3 b5 e15v0 ?_ ?_ _ _ .Qab S hF
   ·intro Qy0 he T27 s28 e26v1 tT hF
    have he := he.symm
    subst he
    refine go ?_
    refine st hF 1 rfl fun s30 hF => ?_
    refine go ?_
    have e := pur H; subst e
    exact rt [.agg [i6 a0.kind, i6 a0.num, .str a0.name, e15v0, i6 x16.kind, i6 x16.id, .str x16.name, i6 x16.num, sf cI x16.ids, i6 x16.data.kind, .str x16.data.name, i6 x16.data.num, sf cI x16.data.sc, sf Fm.cells x16.data.kids, sf Cor.cells x16.kids, e26v1]]
   ·trivial
  ·trivial
 ·intro Qbt Qb1 C0 L1 a0 x16 Qdh Qit Qjz out H c hc Q tt b1 b3 b5 e15v0 hE hR T ss z1v1 tT hF
  obtain rfl := lpe (rfl : Qaq Tryz.f31 1 = some _) hc
  refine Qak ?_
  have q := dum
  have hX := Tau.none tt
  refine go ?_
  refine cdp H (fun h H => ?_) (fun h H => ?_)
  ·obtain ⟨x38, f1, H⟩ := bil (g := Slt.cells) Slt.Qac H
   refine go1 ?_
   refine Qad hF rfl fun b19 s20 hF => ?_
   refine go ?_
   refine st hF 0 rfl fun s21 hF => ?_
   refine go ?_
   refine Qa0 E0 [.v, .v, .v, .v, .v, .v, .v, .v, .v, .x, .v, .z] (by kernel_rfl) ?_
   refine go ?_
   obtain ⟨x46, hx46, H⟩ := bnd H
   refine cv (C0 x38.val _ hx46) ?_
   refine go ?_
   refine Qq9 (g := Slt.cells) hF 0 H (rdo (c := true) (g := Slt.cells) Slt.Qac) fun x49 H v22 s23 hF => ?_
   refine go ?_
   refine st hF 1 (hF.cells 0 rfl) fun s24 hF => ?_
   refine go ?_
   exact L1 a0 x16 Qdh x49 (IntKind.i64.wrap (Qjz + 1)) _ H _ rfl Q tt b1 b3 b5 e15v0 hE hR _ _ v22 S (hF.drop 1 0)
  ·refine go ?_
   exact wq (hE _ (pur H).symm _ _ z1v1 S hF)
 ·intro Qbt Qb0 C0 L0 a0 x16 Qag Qfs out H c hc Q tt b1 b3 b5 hE hR T ss z0v0 tT hF
  obtain rfl := lpe (rfl : Qaq Tryz.f31 0 = some _) hc
  refine Qak ?_
  have q := dum
  have hX := Tau.none tt
  refine go ?_
  refine cdp H (fun h H => ?_) (fun h H => ?_)
  ·obtain ⟨x23, f1, H⟩ := bil (g := Val.cells) Val.Qac H
   refine go1 ?_
   refine Qad hF rfl fun b8 s9 hF => ?_
   refine go ?_
   refine st hF 0 rfl fun s10 hF => ?_
   refine go ?_
   refine Qa0 E0 [.v, .v, .v, .v, .v, .x, .v, .z] (by kernel_rfl) ?_
   refine go ?_
   obtain ⟨x28, hx28, H⟩ := bnd H
   refine cv (C0 x23 _ hx28) ?_
   refine go ?_
   refine Qq9 (g := Val.cells) hF 0 H (rdo (c := true) (g := Val.cells) Val.Qac) fun x30 H v11 s12 hF => ?_
   refine go ?_
   refine st hF 1 (hF.cells 0 rfl) fun s13 hF => ?_
   refine go ?_
   exact L0 a0 x16 x30 (IntKind.i64.wrap (Qfs + 1)) _ H _ rfl Q tt b1 b3 b5 hE hR _ _ v11 S (hF.drop 1 0)
  ·refine go ?_
   exact wq (hE _ (pur H).symm _ _ z0v0 S hF)
theorem Ql4 : ∀ (a0 : Cor) (a1 : Int) r, Qf5 a0 a1 = some r -> Qdz Tryz.prog 14 [.agg (Cor.cells a0), i6 a1] (.tup [.agg (Val.cells r.1), i6 r.2]) := by
 intro a0 a1 r H
 intro ss
 unfold Qf5 at H
 refine Qaz mixed Tryz.func14 rfl (by kernel_rfl) (rs := [.cell 4 34, .tmp 5]) rfl (by kernel_rfl) ?_
 have hF := Fx.refl ss
 have hX := Tau.none ss
 have q := dum
 have tT := dum
 refine go ?_
 refine Qad hF rfl fun b1 ss2 hF => ?_
 refine go ?_
 refine Qad hF rfl fun b3 s4 hF => ?_
 refine go ?_
 obtain ⟨x10, hx10, H⟩ := bnd H
 refine cl (Qlh a0 _ hx10) ?_
 refine go ?_
 obtain ⟨x16, g5, H⟩ := bnd H
 refine Qaj 3 13 16 (.bool x16) (giN q (fun q => ?_) (fun q => ?_)) (fun J => ?_)
 ·rw [if_neg (dbf q)] at g5
  refine go ?_
  obtain ⟨x14, hx14, g5⟩ := bnd g5
  refine cl (Qec a1 0 3000 _ hx14) ?_
  refine go ?_
  exact Qa8 13 g5
 ·rw [if_pos (dbt q)] at g5
  refine go ?_
  exact Qa8 13 g5
 refine go ?_
 refine cdb H (fun h H => ?_) (fun h H => ?_)
 ·refine go ?_
  refine st hF 0 rfl fun s7 hF => ?_
  refine go ?_
  have e := pur H; subst e
  exact rt [.agg [i6 0, i6 0, .str zB, .Qab, i6 0, i6 0, .str zB, i6 0, .Qab, i6 0, .str zB, i6 0, .Qab, .Qab, .Qab, .Qab], i6 5]
 ·refine go ?_
  refine Qad hF rfl fun b8 s9 hF => ?_
  refine go ?_
  obtain ⟨x23, hx23, H⟩ := bnd H
  refine cx (Qjj a0 [] (Mch.mk a1 0) _ hx23 b8  _ (pre 1 0 0 hF hX)) ?_
  rintro _ s10 ⟨t11, rfl, hT, hG⟩
  have hF := Quc 1 0 hF hX hT hG
  refine go ?_
  refine Qad hF rfl fun b13 s14 hF => ?_
  refine go ?_
  refine st hF 0 rfl fun s15 hF => ?_
  refine go ?_
  refine cdn H (fun h H => ?_) (fun h H => ?_)
  ·refine go ?_
   obtain ⟨E, hEq⟩ : ∃ E, E = EE s15 [b3] := ⟨_, rfl⟩
   have n16 : ¬ E b13 := by rw [hEq]; exact EE.not (hF.at 0 rfl) (by simp only [List.mem_cons, List.not_mem_nil, or_false, not_or]; exact neL hF 0 2 rfl rfl (by decide))
   have n17 : ¬ E b8 := by rw [hEq]; exact EE.not (hF.at 1 rfl) (by simp only [List.mem_cons, List.not_mem_nil, or_false, not_or]; exact neL hF 1 2 rfl rfl (by decide))
   have n18 : ¬ E b1 := by rw [hEq]; exact EE.not (hF.at 3 rfl) (by simp only [List.mem_cons, List.not_mem_nil, or_false, not_or]; exact neL hF 3 2 rfl rfl (by decide))
   refine Qa0 E [.v, .v, .v, .v, .v, .x, .v] (by kernel_rfl) ?_
   have z := And.intro (Qam (hF.at 0 rfl) n16) (And.intro (Qam (hF.at 1 rfl) n17) (Qam (hF.at 3 rfl) n18)); refine gh ?_
   refine stK hF 2 (by rw [hEq]; exact EE.of (by simp)) rfl fun s19 hF => ?_
   have z := And.intro (Qam (hF.at 0 rfl) n16) (And.intro (Qam (hF.at 1 rfl) n17) (Qam (hF.at 3 rfl) n18)); refine gh ?_
   refine go ?_
   have e := pur H; subst e
   exact rt [.agg [i6 0, i6 0, .str zB, .Qab, i6 0, i6 0, .str zB, i6 0, .Qab, i6 0, .str zB, i6 0, .Qab, .Qab, .Qab, .Qab], i6 x23.2.code]
  ·refine go ?_
   refine Qad hF rfl fun b20 s21 hF => ?_
   refine go ?_
   refine st hF 0 rfl fun s22 hF => ?_
   refine go ?_
   obtain ⟨x35, hx35, H⟩ := bnd H
   refine cx (Qns x23.1 2000 _ hx35 b20  _ (pre 1 0 0 hF hX)) ?_
   rintro _ s23 ⟨t24, rfl, hT, hG⟩
   have hF := Quc 1 0 hF hX hT hG
   refine go ?_
   refine cdb H (fun h H => ?_) (fun h H => ?_)
   ·refine go ?_
    refine st hF 3 rfl fun s26 hF => ?_
    refine go ?_
    have e := pur H; subst e
    exact rt [.agg [i6 0, i6 0, .str zB, .Qab, i6 0, i6 0, .str zB, i6 0, .Qab, i6 0, .str zB, i6 0, .Qab, .Qab, .Qab, .Qab], i6 4]
   ·refine go ?_
    obtain ⟨x39, hx39, H⟩ := bnd H
    refine cl (Qlk x23.1 _ hx39) ?_
    refine go ?_
    refine st hF 3 rfl fun s27 hF => ?_
    refine go ?_
    have e := pur H; subst e
    exact rt [.agg [i6 x39.kind, i6 x39.num, .str x39.name, sf Val.cells x39.items, i6 x39.fn.kind, i6 x39.fn.id, .str x39.fn.name, i6 x39.fn.num, sf cI x39.fn.ids, i6 x39.fn.data.kind, .str x39.fn.data.name, i6 x39.fn.data.num, sf cI x39.fn.data.sc, sf Fm.cells x39.fn.data.kids, sf Cor.cells x39.fn.kids, sf Slt.cells x39.env], i6 0]
theorem Qka : ∀ (a0 : Fm) (Qag : List ByteArray) (Qjt : Int) out, Qer a0 Qag Qjt = some out -> ∀ c, Qaq Tryz.f33 0 = some c -> ∀ (Q : AX -> AS -> Prop) (tt : Sto) (b1 : Nat), (∀ (Qeh : List ByteArray), out = Qeh -> ∀ (T : Nat -> AV) (ss : Sto) (e0v0 : AV), T 1 = .ptr b1 0 /\ T 3 = e0v0 -> Fx tt ss [(b1, ⟨26, 5, [i6 a0.kind, .str a0.name, i6 a0.num, sf cI a0.sc, sf Fm.cells a0.kids]⟩)] [⟨e0v0, 9, 1, rws cS Qeh⟩] -> Q (.ex 1) ⟨T, ss⟩) -> True -> ∀ (T : Nat -> AV) (ss : Sto) (z0v0 : AV), T 1 = .ptr b1 0 /\ T 3 = z0v0 /\ T 21 = sf cI a0.sc /\ T 22 = i6 (a0.sc.length : Int) /\ T 23 = i6 Qjt -> Fx tt ss [(b1, ⟨26, 5, [i6 a0.kind, .str a0.name, i6 a0.num, sf cI a0.sc, sf Fm.cells a0.kids]⟩)] [⟨z0v0, 9, 1, rws cS Qag⟩] -> aLp Tryz.prog c Q ⟨T, ss⟩ := by
 intro a0 Qag Qjt
 revert Qag Qjt
 refine Qer.partial_correctness a0 _ ?_
 intro Qer IH Qag Qjt out H c hc Q tt b1 hE hR T ss z0v0 tT hF
 obtain rfl := lpe (rfl : Qaq Tryz.f33 0 = some _) hc
 refine Qak ?_
 have q := dum
 have hX := Tau.none tt
 refine go ?_
 refine cdp H (fun h H => ?_) (fun h H => ?_)
 ·obtain ⟨x25, f1, H⟩ := bil (g := cI) (fun _ => rfl) H
  refine go1 ?_
  refine go ?_
  obtain ⟨x29, hx29, H⟩ := bnd H
  refine cl (Qgg x25 _ hx29) ?_
  refine go ?_
  refine apd (g := cS) hF 0 H (rdo (c := true) (g := cS) (fun _ => rfl)) fun x31 H v3 s4 hF => ?_
  refine go ?_
  exact IH  x31 (IntKind.i64.wrap (Qjt + 1)) _ H _ rfl Q tt b1 hE hR _ _ v3 S hF
 ·refine go ?_
  exact wq (hE _ (pur H).symm _ _ z0v0 S hF)
theorem Qma : ∀ (a0 : Fm) r, Qd4 a0 = some r -> Qdz Tryz.prog 33 [.agg (Fm.cells a0)] (.str r) := by
 refine Qd4.partial_correctness  (motive_1 := fun a0 r => Qdz Tryz.prog 33 [.agg (Fm.cells a0)] (.str r)) (motive_2 := fun a0 Qha Qj0 out => ∀ c, Qaq Tryz.f33 1 = some c -> ∀ (Q : AX -> AS -> Prop) (tt : Sto) (b1 : Nat), (∀ (Qva : List ByteArray), out = Qva -> ∀ (T : Nat -> AV) (ss : Sto) (e1v0 : AV), T 6 = e1v0 -> Fx tt ss [(b1, ⟨26, 5, [i6 a0.kind, .str a0.name, i6 a0.num, sf cI a0.sc, sf Fm.cells a0.kids]⟩)] [⟨e1v0, 9, 1, rws cS Qva⟩] -> Q (.ex 3) ⟨T, ss⟩) -> True -> ∀ (T : Nat -> AV) (ss : Sto) (z1v0 : AV), T 6 = z1v0 /\ T 47 = sf Fm.cells a0.kids /\ T 48 = i6 (a0.kids.length : Int) /\ T 49 = i6 Qj0 -> Fx tt ss [(b1, ⟨26, 5, [i6 a0.kind, .str a0.name, i6 a0.num, sf cI a0.sc, sf Fm.cells a0.kids]⟩)] [⟨z1v0, 9, 1, rws cS Qha⟩] -> aLp Tryz.prog c Q ⟨T, ss⟩) ?_ ?_
 ·intro Qcj L0 a0 r H
  intro ss
  refine Qaz mixed Tryz.func33 rfl (by kernel_rfl) (rs := [.tmp 2]) rfl (by kernel_rfl) ?_
  have hF := Fx.refl ss
  have hX := Tau.none ss
  have q := dum
  have tT := dum
  refine go ?_
  refine Qad hF rfl fun b1 ss2 hF => ?_
  refine go ?_
  refine cdp H (fun h H => ?_) (fun h H => ?_)
  ·refine go ?_
   refine cdp H (fun h H => ?_) (fun h H => ?_)
   ·refine go ?_
    have e := pur H; subst e
    exact rt [.str a0.name]
   ·have hF := hF.lit 9 1 (rws cS []) rfl
    refine go ?_
    obtain ⟨o5, ho5, H⟩ := bnd H
    refine Qka a0 [] 0 _ ho5 _ rfl _ _ b1 ?_ ?_ _ _ (.sl true (rws cS [])) S hF
    ·intro Q0c he T7 s8 e6v0 tT hF
     have he := he.symm
     subst he
     refine go ?_
     refine Qa0 E0 [.v, .v, .v, .v, .x, .v, .v, .v] (by kernel_rfl) ?_
     obtain ⟨x35, f1, H⟩ := bsc H
     refine go1 ?_
     obtain ⟨x37, hx37, H⟩ := bnd H
     refine Qh6 (Qhn Q0c (ByteArray.mk #[44]) _ hx37) .str (.cons ((hF.wk 0 rfl).trans (Wk.sub (Sub.zero _) _)) (fun _ => rfl) (.cons (Wk.sub (Sub.zero _) _) id .nil)) ?_
     obtain ⟨x38, f1, H⟩ := bsc H
     obtain ⟨x39, f2, H⟩ := bsc H
     refine go2 ?_
     refine go ?_
     have e := pur H; subst e
     exact rt [.str x39]
    ·trivial
  ·refine go ?_
   refine cdp H (fun h H => ?_) (fun h H => ?_)
   ·refine go ?_
    obtain ⟨x44, hx44, H⟩ := bnd H
    refine cl (Qgg a0.num _ hx44) ?_
    refine go ?_
    have e := pur H; subst e
    exact rt [.str x44]
   ·have hF := hF.lit 9 1 (rws cS []) rfl
    refine go ?_
    obtain ⟨o15, ho15, H⟩ := bnd H
    refine L0 a0 [] 0 _ ho15 _ rfl _ _ b1 ?_ ?_ _ _ (.sl true (rws cS [])) S hF
    ·intro Qu9 he T17 s18 e16v0 tT hF
     have he := he.symm
     subst he
     refine go ?_
     obtain ⟨x60, hx60, H⟩ := bnd H
     refine Qh6 (Qhn Qu9 (ByteArray.mk #[32]) _ hx60) .str (.cons ((hF.wk 0 rfl).trans (Wk.sub (Sub.zero _) _)) (fun _ => rfl) (.cons (Wk.sub (Sub.zero _) _) id .nil)) ?_
     obtain ⟨x61, f1, H⟩ := bsc H
     obtain ⟨x62, f2, H⟩ := bsc H
     refine go2 ?_
     refine go ?_
     have e := pur H; subst e
     exact rt [.str x62]
    ·trivial
 ·intro Qd4 Qcj C0 L0 a0 Qha Qj0 out H c hc Q tt b1 hE hR T ss z1v0 tT hF
  obtain rfl := lpe (rfl : Qaq Tryz.f33 1 = some _) hc
  refine Qak ?_
  have q := dum
  have hX := Tau.none tt
  refine go ?_
  refine cdp H (fun h H => ?_) (fun h H => ?_)
  ·obtain ⟨x51, f1, H⟩ := bil (g := Fm.cells) Fm.Qac H
   refine go1 ?_
   refine Qad hF rfl fun b10 s11 hF => ?_
   refine go ?_
   refine st hF 0 rfl fun s12 hF => ?_
   refine go ?_
   obtain ⟨x55, hx55, H⟩ := bnd H
   refine cl (C0 x51 _ hx55) ?_
   refine go ?_
   refine apd (g := cS) hF 0 H (rdo (c := true) (g := cS) (fun _ => rfl)) fun x57 H v13 s14 hF => ?_
   refine go ?_
   exact L0 a0 x57 (IntKind.i64.wrap (Qj0 + 1)) _ H _ rfl Q tt b1 hE hR _ _ v13 S (hF.drop 1 0)
  ·refine go ?_
   exact wq (hE _ (pur H).symm _ _ z1v0 S hF)
theorem Qkp : ∀ (a0 : Fm) r, Qe1 a0 = some r -> Qdz Tryz.prog 16 [.agg (Fm.cells a0)] (.str r) := by
 intro a0 r H
 intro ss
 unfold Qe1 at H
 refine Qaz mixed Tryz.func16 rfl (by kernel_rfl) (rs := [.tmp 2]) rfl (by kernel_rfl) ?_
 have hF := Fx.refl ss
 have hX := Tau.none ss
 have q := dum
 have tT := dum
 refine go ?_
 refine Qad hF rfl fun b1 ss2 hF => ?_
 refine go ?_
 obtain ⟨x4, hx4, H⟩ := bnd H
 refine cl (Qfa a0 _ hx4) ?_
 refine go ?_
 refine cdb H (fun h H => ?_) (fun h H => ?_)
 ·refine go ?_
  have e := pur H; subst e
  exact rt [.str zB]
 ·refine go ?_
  obtain ⟨x7, hx7, H⟩ := bnd H
  refine cl (Qma a0 _ hx7) ?_
  refine go ?_
  have e := pur H; subst e
  exact rt [.str x7]
theorem Ql6 : ∀ (a0 : Fm) r, Qf6 a0 = some r -> Qdz Tryz.prog 17 [.agg (Fm.cells a0)] (i6 r) := by
 refine Qf6.partial_correctness  (motive_1 := fun a0 r => Qdz Tryz.prog 17 [.agg (Fm.cells a0)] (i6 r)) (motive_2 := fun a0 Qbr Qi8 out => ∀ c, Qaq Tryz.f17 0 = some c -> ∀ (Q : AX -> AS -> Prop) (tt : Sto) (b1 : Nat), (∀ (Qu7 : Int), out = Qu7 -> ∀ (T : Nat -> AV) (ss : Sto), T 3 = i6 Qu7 -> Fx tt ss [(b1, ⟨26, 5, [i6 a0.kind, .str a0.name, i6 a0.num, sf cI a0.sc, sf Fm.cells a0.kids]⟩)] [] -> Q (.ex 0) ⟨T, ss⟩) -> True -> ∀ (T : Nat -> AV) (ss : Sto), T 3 = i6 Qbr /\ T 7 = sf Fm.cells a0.kids /\ T 8 = i6 (a0.kids.length : Int) /\ T 9 = i6 Qi8 -> Fx tt ss [(b1, ⟨26, 5, [i6 a0.kind, .str a0.name, i6 a0.num, sf cI a0.sc, sf Fm.cells a0.kids]⟩)] [] -> aLp Tryz.prog c Q ⟨T, ss⟩) ?_ ?_
 ·intro Qft L0 a0 r H
  intro ss
  refine Qaz mixed Tryz.func17 rfl (by kernel_rfl) (rs := [.tmp 2]) rfl (by kernel_rfl) ?_
  have hF := Fx.refl ss
  have hX := Tau.none ss
  have q := dum
  have tT := dum
  refine go ?_
  refine Qad hF rfl fun b1 ss2 hF => ?_
  refine go ?_
  obtain ⟨o6, ho6, H⟩ := bnd H
  refine L0 a0 1 0 _ ho6 _ rfl _ _ b1 ?_ ?_ _ _  S hF
  ·intro Q0d he T8 s9 tT hF
   have he := he.symm
   subst he
   refine go ?_
   have e := pur H; subst e
   exact rt [i6 Q0d]
  ·trivial
 ·intro Qf6 Qft C0 L0 a0 Qbr Qi8 out H c hc Q tt b1 hE hR T ss tT hF
  obtain rfl := lpe (rfl : Qaq Tryz.f17 0 = some _) hc
  refine Qak ?_
  have q := dum
  have hX := Tau.none tt
  refine go ?_
  refine cdp H (fun h H => ?_) (fun h H => ?_)
  ·obtain ⟨x11, f1, H⟩ := bil (g := Fm.cells) Fm.Qac H
   refine go1 ?_
   refine Qad hF rfl fun b3 s4 hF => ?_
   refine go ?_
   refine st hF 0 rfl fun s5 hF => ?_
   refine go ?_
   obtain ⟨x15, hx15, H⟩ := bnd H
   refine cl (C0 x11 _ hx15) ?_
   refine go ?_
   exact L0 a0 (IntKind.i64.wrap (Qbr + x15)) (IntKind.i64.wrap (Qi8 + 1)) _ H _ rfl Q tt b1 hE hR _ _  S (hF.drop 1 0)
  ·refine go ?_
   exact wq (hE _ (pur H).symm _ _  S hF)
theorem Qkd : ∀ (a0 : List Int) r, Qfx a0 = some r -> Qdz Tryz.prog 3 [sf cU a0] (.bool r) := by
 intro a0 r H
 intro ss
 unfold Qfx at H
 refine Qaz mixed Tryz.func3 rfl (by kernel_rfl) (rs := [.tmp 2]) rfl (by kernel_rfl) ?_
 have hF := Fx.refl ss
 have hX := Tau.none ss
 have q := dum
 have tT := dum
 refine go ?_
 refine cdp H (fun h H => ?_) (fun h H => ?_)
 ·refine go ?_
  have e := pur H; subst e
  exact rt [.bool true]
 ·refine go ?_
  obtain ⟨x15, hx15, H⟩ := bnd H
  refine cl (Qi3 a0 _ hx15) ?_
  refine go ?_
  refine Qad hF rfl fun b1 ss2 hF => ?_
  refine go ?_
  refine st hF 0 rfl fun ss3 hF => ?_
  refine go ?_
  obtain ⟨x18, hx18, H⟩ := bnd H
  refine cl (Qli x15 _ hx18) ?_
  refine go ?_
  refine Qad hF rfl fun b4 s5 hF => ?_
  refine go ?_
  refine st hF 0 rfl fun s6 hF => ?_
  refine go ?_
  obtain ⟨x23, hx23, H⟩ := bnd H
  refine cl (Qlp x15 _ hx23) ?_
  refine go ?_
  refine Qad hF rfl fun b7 s8 hF => ?_
  refine go ?_
  refine st hF 0 rfl fun s9 hF => ?_
  refine go ?_
  obtain ⟨x28, hx28, H⟩ := bnd H
  refine cl (Qgm x18.1 x23.1 _ hx28) ?_
  refine go ?_
  obtain ⟨x34, g10, H⟩ := bnd H
  refine Qaj 3 31 34 (.bool x34) (giN q (fun q => ?_) (fun q => ?_)) (fun J => ?_)
  ·refine go ?_
   exact Qa8 31 g10
  ·refine go ?_
   exact Qa8 31 g10
  refine go ?_
  obtain ⟨x38, g12, H⟩ := bnd H
  refine Qaj 2 36 38 (.bool x38) (giN q (fun q => ?_) (fun q => ?_)) (fun J => ?_)
  ·refine go ?_
   exact Qa8 36 g12
  ·refine go ?_
   exact Qa8 36 g12
  refine go ?_
  refine cdb H (fun h H => ?_) (fun h H => ?_)
  ·refine go ?_
   obtain ⟨x41, hx41, H⟩ := bnd H
   refine cl (Qgm x18.1 x23.1 _ hx41) ?_
   refine go ?_
   obtain ⟨x46, g14, H⟩ := bnd H
   refine Qaj 3 43 46 (.bool x46) (gi q (fun q => ?_) (fun q => ?_)) (fun J => ?_)
   ·refine go ?_
    exact Qa8 43 g14
   ·refine go ?_
    exact Qa8 43 g14
   refine go ?_
   have e := pur H; subst e
   exact rt [.bool x46]
  ·refine go ?_
   obtain ⟨x48, hx48, H⟩ := bnd H
   refine cl (Qia x15 _ hx48) ?_
   refine go ?_
   refine Qad hF rfl fun b16 s17 hF => ?_
   refine go ?_
   refine st hF 0 rfl fun s18 hF => ?_
   refine go ?_
   obtain ⟨x52, hx52, H⟩ := bnd H
   refine cl (Ql4 (Cor.mk 4 0 zB 0 [] x48 []) 1 _ hx52) ?_
   refine go ?_
   refine Qad hF rfl fun b19 s20 hF => ?_
   refine go ?_
   refine st hF 0 rfl fun s21 hF => ?_
   refine go ?_
   refine Qa0 E0 [.v, .v, .v, .v, .v, .v, .v, .v, .v, .v, .v, .v, .v, .v, .v, .v, .v, .v, .v, .v, .v] (by kernel_rfl) ?_
   refine go ?_
   obtain ⟨x61, g22, H⟩ := bnd H
   refine Qgh 3 58 61 (.bool x61) (ti q (fun q => ?_) (fun q => ?_)) (fun J => ?_)
   ·rw [if_pos (dt q)] at g22
    refine go ?_
    obtain ⟨x60, hx60, g22⟩ := bnd g22
    refine cv (Qgm x52.1 x18.1 _ hx60) ?_
    refine go ?_
    exact Qa8 58 g22
   ·rw [if_neg (df q)] at g22
    refine go ?_
    exact Qa8 58 g22
   refine go ?_
   obtain ⟨x74, g24, H⟩ := bnd H
   refine Qgh 11 63 74 (.bool x74) (ti q (fun q => ?_) (fun q => ?_)) (fun J => ?_)
   ·rw [if_pos (dbt q)] at g24
    refine go ?_
    obtain ⟨x64, hx64, g24⟩ := bnd g24
    refine cv (Qf0 x18.1 _ hx64) ?_
    refine go ?_
    obtain ⟨x66, hx66, g24⟩ := bnd g24
    refine cv (Qia x15 _ hx66) ?_
    refine go ?_
    obtain ⟨x67, hx67, g24⟩ := bnd g24
    refine cv (Qkp x66 _ hx67) ?_
    refine go ?_
    obtain ⟨x73, g26, g24⟩ := bnd g24
    refine Qgh 3 70 73 (.bool x73) (tiN q (fun q => ?_) (fun q => ?_)) (fun J => ?_)
    ·rw [if_neg (df q)] at g26
     refine go ?_
     obtain ⟨x71, hx71, g26⟩ := bnd g26
     refine cv (Ql6 x15 _ hx71) ?_
     refine go ?_
     exact Qa8 70 g26
    ·rw [if_pos (dt q)] at g26
     refine go ?_
     exact Qa8 70 g26
    refine go ?_
    exact Qa8 63 g24
   ·rw [if_neg (dbf q)] at g24
    refine go ?_
    exact Qa8 63 g24
   refine go ?_
   have e := pur H; subst e
   exact rt [.bool x74]
end Go.Proofs.SA
