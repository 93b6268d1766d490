/- Decimal numbers: the program's and the reference's. -/
import Derived.Test.YtmacemmkocjkaaaDoorQa
import Derived.Test.YtmacemmkocjkaaaDoorGv
import Derived.Laws.BitsAllLaws
set_option linter.unusedVariables false
set_option linter.unusedSimpArgs false
set_option maxRecDepth 100000
open Go Go.Proofs Go.Proofs.Shadow
namespace Go.Proofs.Shadow
/-- The bytes of a list. -/
def bs (l : List UInt8) : ByteArray := ⟨l.toArray⟩
theorem bs_size (l : List UInt8) : (bs l).size = l.length := by simp [bs, ByteArray.size]
theorem bs_app (a b : List UInt8) : bs a ++ bs b = bs (a ++ b) := by
  apply ByteArray.ext
  rw [ByteArray.data_append]
  simp [bs]
theorem bs_data (s : ByteArray) : bs s.data.toList = s := by cases s; rfl
theorem wrap_u8 {a : Int} (h1 : 0 ≤ a) (h2 : a < 256) : IntKind.wrap .u8 a = a := by
  rw [IntKind.wrap_u8']; omega
theorem nDigits_le {u : Nat} (h : u < 10000000000000000000) : Lib.nDigits u ≤ 19 := by
  rcases Nat.lt_or_ge 19 (Lib.nDigits u) with h1 | h1
  · exfalso
    have : ∀ k u : Nat, k + 1 ≤ Lib.nDigits u → 10 ^ k ≤ u ∨ k = 0 := by
      intro k
      induction k with
      | zero => intro u _; exact .inr rfl
      | succ k ih =>
        intro u hu
        left
        by_cases h10 : u < 10
        · rw [Lib.nDigits_small h10] at hu; omega
        · rw [Lib.nDigits_big h10] at hu
          rcases ih (u / 10) (by omega) with h2 | h2
          · rw [Nat.pow_succ]; omega
          · subst h2; simp; omega
    rcases this 19 u h1 with h2 | h2
    · omega
    · cases h2
  · exact h1
theorem dec_len {u : Nat} (h : u < 10000000000000000000) : (Lib.decDigits u).length ≤ 19 := by rw [Lib.decDigits_length]; exact nDigits_le h
theorem itoa_len {n : Int} (h0 : -9223372036854775808 ≤ n) (h1 : n ≤ 9223372036854775807) : (Lib.itoa n).length ≤ 20 := by
  unfold Lib.itoa
  split
  · have := dec_len (u := n.natAbs) (by omega); simp only [List.length_cons]; omega
  · have := dec_len (u := n.toNat) (by omega); omega
theorem itoaF_eq {n : Int} (h0 : -9223372036854775808 ≤ n) (h1 : n ≤ 9223372036854775807) : itoaF n = some (bs (Lib.itoa n)) := by
  have := itoa_len h0 h1
  unfold itoaF
  rw [if_pos ⟨h0, h1, by omega⟩]; rfl
end Go.Proofs.Shadow
namespace Go.Proofs.SA
theorem dec_l0 : ∀ (u : Nat) (s : List UInt8), u < 9223372036854775808 → s.length + Lib.nDigits u ≤ 1000000 → ∃ (k : Nat) (t : List UInt8), spec_l15Dec_l0 (u : Int) (bs s) = some ((k : Int), bs t) ∧ k < 10 ∧ UInt8.ofNat (48 + k) :: t = Lib.decDigits u ++ s := by
  intro u
  induction u using Nat.strongRecOn with
  | _ u ih =>
    intro s hu hs
    rw [spec_l15Dec_l0]
    by_cases h : u < 10
    · rw [if_neg (by omega)]
      exact ⟨u, s, rfl, h, by rw [Lib.decDigits, dif_pos h]; rfl⟩
    · have hd := Lib.nDigits_big h
      have e1 : (u : Int).tmod 10 = ((u % 10 : Nat) : Int) := tmod_nat _ _
      have e2 : (u : Int).tdiv 10 = ((u / 10 : Nat) : Int) := tdiv_nat _ _
      rw [if_pos (by omega), e1, e2, wrap_id (a := 48 + ((u % 10 : Nat) : Int)) (by omega) (by omega), wrap_u8 (by omega) (by omega), wrap_id (by omega) (by omega)]
      have e3 : strOfNums [48 + ((u % 10 : Nat) : Int)] = bs [UInt8.ofNat (48 + u % 10)] := by
        unfold strOfNums bs
        rw [List.map_cons, List.map_nil, show (48 + ((u % 10 : Nat) : Int)).toNat = 48 + u % 10 by omega]
      rw [e3, scat_ok (by rw [bs_size, bs_size]; simp; omega), bsome, bs_app]
      obtain ⟨k, t, h1, h2, h3⟩ := ih (u / 10) (by omega) (UInt8.ofNat (48 + u % 10) :: s) (by omega) (by simp; omega)
      refine ⟨k, t, h1, h2, ?_⟩
      rw [h3]
      conv => rhs; rw [Lib.decDigits, dif_neg h]
      simp
theorem dec_nat {u : Nat} (hu : u < 9223372036854775808) : spec_l15Dec (u : Int) = some (bs (Lib.decDigits u)) := by
  have hn := nDigits_le (u := u) (by omega)
  obtain ⟨k, t, h1, h2, h3⟩ := dec_l0 u [] hu (by simp; omega)
  rw [spec_l15Dec, if_neg (by omega), if_neg (by omega)]
  rw [show (ByteArray.mk #[]) = bs [] from rfl, h1, bsome]
  rw [List.append_nil] at h3
  have hl : t.length + 1 = Lib.nDigits u := by rw [← Lib.decDigits_length, ← h3]; rfl
  have e3 : strOfNums [IntKind.u8.wrap (IntKind.i64.wrap (48 + (k : Int)))] = bs [UInt8.ofNat (48 + k)] := by
    rw [wrap_id (by omega) (by omega), wrap_u8 (by omega) (by omega)]
    unfold strOfNums bs
    rw [List.map_cons, List.map_nil, show (48 + (k : Int)).toNat = 48 + k by omega]
  simp only [e3]
  rw [scat_ok (by rw [bs_size, bs_size]; simp; omega), bsome, psome, bs_app, List.singleton_append, h3]
theorem dec_eq {n : Int} (h0 : -9223372036854775808 ≤ n) (h1 : n ≤ 9223372036854775807) : spec_l15Dec n = some (bs (Lib.itoa n)) := by
  unfold Lib.itoa
  by_cases hn : n < 0
  · rw [if_pos hn]
    by_cases hm : n < -9223372036854775807
    · obtain rfl : n = -9223372036854775808 := by omega
      rw [spec_l15Dec, if_pos (by omega)]
      rw [psome, Lib.decDigits_eq, Lib.nDigits_unique 18 _ (by decide) (by decide)]
      rfl
    · rw [spec_l15Dec, if_neg hm, if_pos hn, wrap_id (by omega) (by omega)]
      have e : (0 - n) = ((n.natAbs : Nat) : Int) := by omega
      have hl := dec_len (u := n.natAbs) (by omega)
      rw [e, dec_nat (by omega), bsome, show (ByteArray.mk #[45]) = bs [45] from rfl, scat_ok (by rw [bs_size, bs_size]; simp; omega), bsome, psome, bs_app]
      rfl
  · rw [if_neg hn]
    have e : n = ((n.toNat : Nat) : Int) := by omega
    conv => lhs; rw [e]
    rw [dec_nat (by omega)]
end Go.Proofs.SA
