/-
  The walk of the statement on words that are turned.
-/
import Derived.Test.YtploclopllfmdaaBitsE
namespace Go.Proofs.Ytploclopllfmdaa.bw
open Go.RowKit Go.Proofs.Ytploclopllfmdaa.bp Go.Proofs.Ytploclopllfmdaa.bl
set_option linter.unusedVariables false

theorem turns_arg (n : Int) : ∃ b : Nat, b < 64 ∧ n % 64 = b ∧ (n.tmod 64 + 64).tmod 64 = b ∧ (-(b : Int)) % 64 = ((64 - b) % 64 : Nat) ∧ -64 < n.tmod 64 ∧ n.tmod 64 < 64 := by
  have m : -64 < n.tmod 64 ∧ n.tmod 64 < 64 := by rw [Int.tmod_eq_emod]; split <;> omega
  have h : (n.tmod 64 + 64).tmod 64 = n % 64 := by
    rw [Int.tmod_eq_emod_of_nonneg]
    · rw [Int.tmod_eq_emod]; split <;> omega
    · rw [Int.tmod_eq_emod]; split <;> omega
  exact ⟨(n % 64).toNat, by omega, by omega, by omega, by omega, m⟩

theorem turns_any (x n : Int) (w : World) (w1 : 0 ≤ x) (w2 : x ≤ 18446744073709551615) (n1 : -9223372036854775808 ≤ n) (n2 : n ≤ 9223372036854775807) :
    Calls Try.prog 8 #[.int .u64 x, .int .i64 n] w fun e w' => e = .returned (.bool true) ∧ Below w.heap.size w w' := by
  obtain ⟨X, rfl⟩ := Int.eq_ofNat_of_zero_le w1
  have hX : X < 18446744073709551616 := by omega
  obtain ⟨b, hb, e1, e2, e3, m1, m2⟩ := turns_arg n
  have E1 := Lib.hid e1
  have E3 := Lib.hid e3
  clear e1 e3
  have t1 := turn_turn X b hX hb
  have t2 := turn_lt X b
  have s1 := swap_swap X hX
  have s2 := swap_lt X
  have o1 := ones_turn X b hb
  have hbel := Below.refl w.heap.size w
  go_enter Try.func8, Try.ntmps8
  go_wp2_with (first | (go_at_call 28; (with_reducible refine (turn_any _ n b _ w1 w2 hb E1.out).mono ?_); rintro e w' ⟨rfl, rfl⟩) | (go_at_call 28; (with_reducible refine (turn_any _ (-(b : Int)) ((64 - b) % 64) _ (by omega) (by omega) (by omega) E3.out).mono ?_); rintro e w' ⟨rfl, rfl⟩) | (go_at_call 15; refine (known_any _).mono ?_; rintro e w' ⟨rfl, rfl⟩) | (go_at_call 27; refine (rcount_any _ _ (by omega) (by omega)).mono ?_; rintro e w' ⟨rfl, rfl⟩) | (go_at_call 29; refine (rturn_any _ _ _ (by omega) (by omega) (by omega) (by omega)).mono ?_; rintro e W1 ⟨rfl, hb1⟩; replace hbel := bthen hbel hb1; clear hb1) | (go_at_call 30; refine (swap_any _ _ (by omega) (by omega)).mono ?_; rintro e w' ⟨rfl, rfl⟩) | (go_at_call 31; refine (rswap_any _ _ (by omega) (by omega)).mono ?_; rintro e W1 ⟨rfl, hb1⟩; replace hbel := bthen hbel hb1; clear hb1) | (go_at_call 32; refine (ones_any _ _ (by omega) (by omega)).mono ?_; rintro e w' ⟨rfl, rfl⟩) | (go_at_call 26; refine (top_any _ _ (by omega) (by omega)).mono ?_; rintro e w' ⟨rfl, rfl⟩) | (go_at_call 33; refine (bottom_any _ _ (by omega) (by omega)).mono ?_; rintro e w' ⟨rfl, rfl⟩))
  go_ret
  exact ⟨rfl, hbel⟩
end Go.Proofs.Ytploclopllfmdaa.bw
