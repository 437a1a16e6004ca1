/-
  The walk of the statement on what is put into a field.
-/
import Derived.Test.YtploclopllfmdaaBitsE
namespace Go.Proofs.Ytploclopllfmdaa.bw
open Go.RowKit Go.Proofs.Ytploclopllfmdaa.bp Go.Proofs.Ytploclopllfmdaa.bl
set_option linter.unusedVariables false

/-! ### what is put back is got -/
theorem back_get (w v lo n : Nat) (h : lo + n ≤ 64) : getF (putF w lo n v) lo n = getF v 0 n := by
  apply Nat.eq_of_testBit_eq
  intro i
  have e := testBit_getF v 0 n (by omega) i
  rw [show ((0 : Nat) : Int) = 0 from rfl] at e
  rw [testBit_getF _ _ _ h, e]
  by_cases hi : i < n
  · rw [testBit_putF _ _ _ _ h _ (by omega), if_pos (by omega), show lo + i - lo = 0 + i from by omega]
  · rw [decide_eq_false hi, Bool.false_and, Bool.false_and]

theorem back_low (w v lo n : Nat) (h : lo + n ≤ 64) : getF (putF w lo n v) 0 lo = getF w 0 lo := by
  apply Nat.eq_of_testBit_eq
  intro i
  have e := fun x => testBit_getF x 0 lo (by omega) i
  simp only [show ((0 : Nat) : Int) = 0 from rfl] at e
  rw [e, e]
  by_cases hi : i < lo
  · rw [testBit_putF _ _ _ _ h _ (by omega), if_neg (by omega)]
  · rw [decide_eq_false hi, Bool.false_and, Bool.false_and]

theorem back_high (w v lo n : Nat) (h : lo + n ≤ 64) : getF (putF w lo n v) ((lo : Int) + (n : Int)) (64 - (lo : Int) - (n : Int)) = getF w ((lo : Int) + (n : Int)) (64 - (lo : Int) - (n : Int)) := by
  rw [show ((lo : Int) + (n : Int)) = ((lo + n : Nat) : Int) from by omega, show (64 - (lo : Int) - (n : Int)) = ((64 - lo - n : Nat) : Int) from by omega]
  apply Nat.eq_of_testBit_eq
  intro i
  rw [testBit_getF _ _ _ (by omega), testBit_getF _ _ _ (by omega)]
  by_cases hi : i < 64 - lo - n
  · rw [testBit_putF _ _ _ _ h _ (by omega), if_neg (by omega)]
  · rw [decide_eq_false hi, Bool.false_and, Bool.false_and]

theorem back_put (w v lo n : Nat) (h : lo + n ≤ 64) (hw : w < 18446744073709551616) : putF (putF w lo n v) lo n (getF w lo n) = w := by
  refine eq_of_bits (putF_lt _ _ _ _ (putF_lt _ _ _ _ hw)) hw fun i hi => ?_
  rw [testBit_putF _ _ _ _ h _ hi, testBit_getF _ _ _ h]
  by_cases c : lo ≤ i ∧ i < lo + n
  · rw [if_pos c, decide_eq_true (by omega), Bool.true_and, show lo + (i - lo) = i from by omega]
  · rw [if_neg c, testBit_putF _ _ _ _ h _ hi, if_neg c]

theorem back_args (lo n : Int) (h1 : -9223372036854775808 ≤ lo) (h2 : lo ≤ 9223372036854775807) (n1 : -9223372036854775808 ≤ n) (n2 : n ≤ 9223372036854775807) :
    ∃ L N : Nat, L + N ≤ 64 ∧ (IntKind.u64.wrap lo).tmod 65 = L ∧ (IntKind.u64.wrap n).tmod (65 - (L : Int)) = N := by
  rw [IntKind.wrap_u64, IntKind.wrap_u64, Int.tmod_eq_emod_of_nonneg (by omega)]
  have hL : (lo % 18446744073709551616) % 65 < 65 := Int.emod_lt_of_pos _ (by omega)
  have hL0 : 0 ≤ (lo % 18446744073709551616) % 65 := Int.emod_nonneg _ (by omega)
  obtain ⟨L, hL'⟩ := Int.eq_ofNat_of_zero_le hL0
  rw [hL'] at hL
  have hN : (n % 18446744073709551616) % (65 - (L : Int)) < 65 - (L : Int) := Int.emod_lt_of_pos _ (by omega)
  have hN0 : 0 ≤ (n % 18446744073709551616) % (65 - (L : Int)) := Int.emod_nonneg _ (by omega)
  obtain ⟨N, hN'⟩ := Int.eq_ofNat_of_zero_le hN0
  exact ⟨L, N, by omega, hL', by rw [Int.tmod_eq_emod_of_nonneg (by omega)]; exact hN'⟩

theorem back_any (x lo n v : Int) (w : World) (w1 : 0 ≤ x) (w2 : x ≤ 18446744073709551615) (v1 : 0 ≤ v) (v2 : v ≤ 18446744073709551615)
    (h1 : -9223372036854775808 ≤ lo) (h2 : lo ≤ 9223372036854775807) (n1 : -9223372036854775808 ≤ n) (n2 : n ≤ 9223372036854775807) :
    Calls Try.prog 4 #[.int .u64 x, .int .i64 lo, .int .i64 n, .int .u64 v] w fun e w' => e = .returned (.bool true) ∧ Below w.heap.size w w' := by
  obtain ⟨X, rfl⟩ := Int.eq_ofNat_of_zero_le w1
  obtain ⟨V, rfl⟩ := Int.eq_ofNat_of_zero_le v1
  obtain ⟨L, N, hLN, e1, e2⟩ := back_args lo n h1 h2 n1 n2
  have hw : X < 18446744073709551616 := by omega
  have b1 := back_get X V L N hLN
  have b2 := back_low X V L N hLN
  have b3 := back_high X V L N hLN
  have b4 := back_put X V L N hLN hw
  have b5 := putF_lt X L N V hw
  have b6 := getF_lt X L N hw
  have e3 : IntKind.u64.wrap (65 - (L : Int)) = 65 - (L : Int) := by rw [IntKind.wrap_u64]; omega
  go_enter Try.func4, Try.ntmps4
  go_wp2_with (first | (go_at_call 15; refine (known_any _).mono ?_; rintro e w' ⟨rfl, rfl⟩) | (go_at_call 11; refine (get_any _ _ _ _ (by omega) (by omega) (by omega) (by omega)).mono ?_; rintro e w' ⟨rfl, rfl⟩) | (go_at_call 13; refine (put_any _ _ _ _ _ (by omega) (by omega) (by omega) (by omega) (by omega) (by omega)).mono ?_; rintro e w' ⟨rfl, rfl⟩))
  go_ret
  exact ⟨rfl, Below.refl _ _⟩
end Go.Proofs.Ytploclopllfmdaa.bw
