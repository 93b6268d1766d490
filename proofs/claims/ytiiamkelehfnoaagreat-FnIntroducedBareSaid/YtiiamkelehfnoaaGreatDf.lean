/- slices.DeleteFunc as impl.withoutScope calls it: the shelf's contract laid at this program. -/
import Derived.Shelf.SlicesE.DeleteFunc
import Derived.Test.YtiiamkelehfnoaaGreatProg
import Derived.Lib.SliceRun
set_option linter.unusedVariables false
set_option linter.unusedSimpArgs false
namespace Go.Proofs
open Go.Shelf Go.RowKit Go.Lib Go.Sort
def Tryz.Qlr : Go.Shelf.Ren := ⟨fun | 10 => 71 | 6 => 97 | n => n, fun | 22 => 23 | 23 => 3 | 25 => 99 | n => n, fun | n => n⟩
theorem Tryz.Qg5 : SlLaysH.n10 Tryz.prog Tryz.Qlr := {
 mixed := by kernel_rfl
 f6 := ⟨Tryz.f97.name, by decide, Tryz.func97.trans (congrArg some (by kernel_rfl))⟩
 f10 := ⟨Tryz.f71.name, by decide, Tryz.func71.trans (congrArg some (by kernel_rfl))⟩
 t0 := Tryz.underlying0
 a0 := Tryz.isAgg0
 z0 := Tryz.sizeOf0
 v0 := Tryz.zeroValue0
 t3 := Tryz.underlying3
 a3 := Tryz.isAgg3
 z3 := Tryz.sizeOf3
 v3 := Tryz.zeroValue3
 t4 := Tryz.underlying4
 a4 := Tryz.isAgg4
 z4 := Tryz.sizeOf4
 v4 := Tryz.zeroValue4
 t22 := Tryz.underlying23
 a22 := Tryz.isAgg23
 z22 := Tryz.sizeOf23
 v22 := Tryz.zeroValue23
 a23 := Tryz.isAgg3
 z23 := Tryz.sizeOf3
 t25 := Tryz.underlying99
 a25 := Tryz.isAgg99
 z25 := Tryz.sizeOf99
 v25 := Tryz.zeroValue99 }
theorem Tryz.Qcp (lim x : Int) (B : Nat) (W : World) (hc : W.cell? ⟨B, 0, none⟩ = some (.int .i64 lim)) :
  FnGives Tryz.prog 72 #[.pointer (some ⟨B, 0, none⟩)] #[.int .i64 x] (.bool (decide (x = lim))) W := by
 show Calls Tryz.prog 72 #[.int .i64 x, .pointer (some ⟨B, 0, none⟩)] W _
 go_enter Tryz.func72, Tryz.ntmps72
 go_wp2
 all_goals (go_ret; exact ⟨by simp_all; rfl, 0, rfl⟩)
theorem Tryz.Qnb (lim : Int) (B : Nat) (w : World) (hB : B < w.heap.size) (hcell : w.cell? ⟨B, 0, none⟩ = some (.int .i64 lim)) :
  PredAt Tryz.prog 72 #[.pointer (some ⟨B, 0, none⟩)] (Value.int .i64) (fun x => decide (x = lim)) w :=
 fun W x hb => Tryz.Qcp lim x B W ((hb.cell (p := ⟨B, 0, none⟩) hB).trans hcell)
theorem Tryz.Qm9 (lim : Int) (B blk off size : Nat) (w : World) (hB : B < w.heap.size) (hne : B ≠ blk) (hcell : w.cell? ⟨B, 0, none⟩ = some (.int .i64 lim)) :
  PredOver Tryz.prog 72 #[.pointer (some ⟨B, 0, none⟩)] (Value.int .i64) (fun x => decide (x = lim)) blk off size w :=
 fun n os dk x _ => Tryz.Qcp lim x B _ (by
  unfold sortWorld
  rw [cell?_grow _ _ _ (by show B < (putRow _ _ _ _ _).heap.size; rw [size_putRow]; exact hB), cell?_putRow_other _ _ blk off _ _ (Or.inl hne)]
  exact hcell)
theorem Tryz.Qn7 (blk off cap : Nat) (d : List Int) (lim : Int) (B : Nat) (w : World) (hB : B < w.heap.size) (hne : B ≠ blk) (hcell : w.cell? ⟨B, 0, none⟩ = some (.int .i64 lim)) (hH : Holds (Value.int .i64) w blk off d.toArray) (hsz : d.length <= 9223372036854775807) (hcap : d.length <= cap) :
  Calls Tryz.prog 71 #[.slice (some ⟨blk, off, none⟩) d.length cap, .func (.func 72) #[] #[.pointer (some ⟨B, 0, none⟩)]] w fun e w' => e = .returned (.slice (some ⟨blk, off, none⟩) (d.filter fun x => !decide (x = lim)).length cap) /\
   ∃ q, w' = putRow (Value.int .i64) (Sort.ahead w q) blk off ((d.filter fun x => !decide (x = lim)) ++ List.replicate (d.length - (d.filter fun x => !decide (x = lim)).length) 0).toArray := by
 have eg : ∀ args w, (callFunc 72 args).run Tryz.prog w = .ok (.enter 72 args) w := enters_of Tryz.func72 (by kernel_rfl) rfl
 have hcon := AnyE.slices_DeleteFunc Tryz.Qg5 (Value.int .i64) (fun _ => rfl) (fun x => decide (x = lim)) 72 #[.pointer (some ⟨B, 0, none⟩)] eg 0 Tryz.zeroValue3 blk off cap d.toArray w
  (Tryz.Qnb lim B _ hB hcell) (Tryz.Qm9 lim B blk off d.toArray.size _ hB hne hcell) hH (by simpa using hsz) (by simpa using hcap)
 change Calls Tryz.prog 71 _ _ _ at hcon
 simpa using hcon
theorem Tryz.Sd (a : Option Addr) (cap : Nat) (fv : Value) (w : World) : Calls Tryz.prog 71 #[.slice a 0 cap, fv] w fun e w' => e = .returned (.slice a 0 cap) /\ w' = w := by
 have hcon := AnyE.slices_IndexFunc_empty (P := Tryz.prog) (ρ := Tryz.Qlr) { Tryz.Qg5 with } a cap fv w
 change Calls Tryz.prog 97 _ _ _ at hcon
 go_enter Tryz.func71, Tryz.ntmps71
 go_wp2_with (go_at_call 97; refine hcon.mono ?_; rintro e w' ⟨rfl, rfl⟩)
 all_goals (go_ret; exact ⟨rfl, rfl⟩)
end Go.Proofs
