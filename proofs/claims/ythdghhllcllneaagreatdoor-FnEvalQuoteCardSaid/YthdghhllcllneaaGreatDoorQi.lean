/- StepsText: the program's and the reference's. -/
import Derived.Test.YthdghhllcllneaaGreatDoorQh
import Derived.Test.YthdghhllcllneaaGreatDoorQv
set_option linter.unusedVariables false
set_option linter.unusedSimpArgs false
set_option maxRecDepth 100000
open Go Go.Proofs Go.Proofs.Shadow
namespace Go.Proofs.Shadow
theorem Qhx {α β : Type} (F : List β -> Nat -> List α -> Option (List β)) (T : α -> β) (hn : ∀ z i, F z i [] = some z) : ∀ (l : List α) (z : List β) (i : Nat), (∀ x ∈ l, ∀ z i r, z.length <= 1073741824 -> F z i (x :: r) = F (z ++ [T x]) (i + 1) r) -> z.length + l.length <= 1073741824 -> F z i l = some (z ++ l.map T) := by
 intro l
 induction l with
 | nil => intro z i _ _; rw [hn]; simp
 | cons x l ih =>
  intro z i hc hz
  simp only [List.length_cons] at hz
  rw [hc x (List.mem_cons_self ..) z i l (by omega), ih _ _ (fun y hy => hc y (List.mem_cons_of_mem _ hy)) (by simp; omega), List.map_cons, List.append_assoc]; rfl
mutual
def Fm.strip : Fm -> Fm
 | .mk k s n _ ks => .mk k s n [] (Fm.Qr2 ks)
def Fm.Qr2 : List Fm -> List Fm
 | [] => []
 | f :: fs => f.strip :: Fm.Qr2 fs
end
theorem Fm.Qpv : ∀ l, Fm.Qr2 l = l.map Fm.strip
 | [] => rfl
 | f :: fs => by rw [Fm.Qr2, Fm.Qpv fs]; rfl
theorem Fm.Qje (f : Fm) : f.strip = .mk f.kind f.name f.num [] (f.kids.map Fm.strip) := by cases f; rw [Fm.strip, Fm.Qpv]; rfl
theorem Qr3 {α β : Type} (g : β -> Nat) (h : α -> β) : ∀ l : List α, Qc4 g (l.map h) = Qc4 (fun x => g (h x)) l
 | [] => rfl
 | x :: l => by rw [List.map_cons, Qc4, Qc4, Qr3 g h l]
theorem Fm.Qmo (f : Fm) : f.strip.sz <= f.sz := by
 induction f using Fm.ind with
 | h f ih =>
  rw [Fm.Qff, Fm.Qff f, Fm.Qje]
  have := Qpx (fun x => Fm.sz (Fm.strip x)) Fm.sz f.kids ih
  simp only [Fm.name, Fm.sc, Fm.kids, Qr3, List.length_map, List.length_nil] at this ⊢
  omega
def FT : Nat -> Fm -> List UInt8
 | 0, _ => []
 | d + 1, f => if f.kind = 2 then Lib.itoa f.num else if f.kind = 1 then f.name.data.toList else [40] ++ Lib.join (f.kids.map (FT d)) [32] ++ [41]
end Go.Proofs.Shadow
namespace Go.Proofs.SA
theorem Q11 : ∀ (d : Nat) (f : Fm), FIs d f -> (FT d f).length <= 30 + 31 * f.sz := by
 intro d
 induction d with
 | zero => intro f h; exact h.elim
 | succ d ih =>
  intro f hf
  have hz := Fm.Qff f
  rw [FT]
  rcases hf with h | h | h
  ·rw [if_neg (by omega), if_pos h.1]
   have : f.name.data.toList.length = f.name.size := rfl
   omega
  ·rw [if_pos h.1]
   have := Qkx (n := f.num) (by omega) (by omega)
   omega
  ·rw [if_neg (by omega), if_neg (by omega)]
   have h1 := Qky (FT d) Fm.sz f.kids (fun x hx => ih x (h.2.2.2.2 x hx))
   have h2 := Qms (f.kids.map (FT d)) [32]
   simp only [List.length_append, List.length_cons, List.length_nil, List.length_map] at h2 ⊢
   omega
theorem Qlz : ∀ f : Fm, f.sz <= 1048576 -> Qct f = some f.strip := by
 intro f
 induction f using Fm.ind with
 | h f ih =>
  intro hf
  have hz := Fm.Qff f
  rw [Qct, Qj6 _ _ (by omega), Qhx (Qc6 f) Fm.strip (fun _ _ => rfl) f.kids [] 0 (fun x hx z i r hzb => by
   have := Fm.Qid hx
   rw [Qc6, Qby, Qau, ih x hx (by omega), Qau, Qem (by simp; omega), Qau]) (by simp; omega), Qau, Qby, Fm.Qje, List.nil_append]
theorem Qv5 {g x : Fm} (h : x ∈ g.strip.kids) : ∃ y : Fm, x = y.strip := by
 rw [Fm.Qje] at h
 obtain ⟨y, _, e⟩ := List.mem_map.1 h
 exact ⟨y, e.symm⟩
theorem Qpk : ∀ (d : Nat) (g : Fm), FIs d g.strip -> g.strip.sz <= 1048576 -> Qd4 g.strip = some (bs (FT d g.strip)) := by
 intro d
 induction d with
 | zero => intro g h; exact h.elim
 | succ d ih =>
  intro g hf hs
  have hz := Fm.Qff g.strip
  have hsc : g.strip.sc = [] := by rw [Fm.Qje]; rfl
  have hkid := fun x => @Qv5 g x
  generalize g.strip = f at hf hs hz hsc hkid
  rw [Qd4, FT]
  rcases hf with h | h | h
  ·rw [if_pos h.1, if_neg (show ¬ f.kind = 2 by omega), if_pos h.1, if_pos (by rw [hsc]; rfl), Qu0]; rfl
  ·rw [if_neg (by omega), if_pos h.1, if_pos h.1, Qc1, Qog (by omega) (by omega)]; rfl
  ·have hl := Qky (FT d) Fm.sz f.kids (fun x hx => Q11 d x (h.2.2.2.2 x hx))
   have hj := Qms (f.kids.map (FT d)) [32]
   simp only [List.length_append, List.length_cons, List.length_nil, List.length_map] at hj
   rw [if_neg (by omega), if_neg (by omega), if_neg (by omega), if_neg (by omega), Qkt _ _ (by omega),
    Qpb (Qds f) (FT d) (fun _ _ => rfl) f.kids [] 0 (fun x hx z i r hzb => by
     have hxs := Qg8 Fm.sz _ _ hx
     obtain ⟨y, rfl⟩ := hkid x hx
     rw [Qds, Qby, Qau, ih y (h.2.2.2.2 _ hx) (by omega), Qau, Qem (by simp; omega), Qau]) (by simp; omega), Qau,
    List.nil_append, Qd1, show (ByteArray.mk #[32]) = bs [32] from rfl, Qrx (by omega) (by simp only [List.length_cons, List.length_nil]; omega), Qau,
    show (ByteArray.mk #[40]) = bs [40] from rfl, Qm7 (by rw [Qhz, Qhz]; simp only [List.length_cons, List.length_nil]; omega), Qau, Qo8,
    show (ByteArray.mk #[41]) = bs [41] from rfl, Qm7 (by rw [Qhz, Qhz]; simp only [List.length_append, List.length_cons, List.length_nil]; omega), Qau, Qo8]
   rfl
open Classical in
noncomputable def FF (f : Fm) : List UInt8 := if FV f.strip then FT 40 f.strip else []
theorem Q3f {f : Fm} (hf : f.sz <= 1048576) : Qe1 f.strip = some (bs (FF f)) := by
 have hs := Fm.Qmo f
 obtain ⟨b, hb, hv⟩ := Qoe (f := f.strip) (by omega)
 rw [Qe1, hb, Qau, FF]
 cases b
 ·rw [if_pos (show (!false) = true from rfl), if_neg (fun h => by cases hv.2 h)]; rfl
 ·rw [if_neg (by decide), if_pos (hv.1 rfl), Qpk 40 f (hv.1 rfl).1 (by omega)]; rfl
end Go.Proofs.SA
