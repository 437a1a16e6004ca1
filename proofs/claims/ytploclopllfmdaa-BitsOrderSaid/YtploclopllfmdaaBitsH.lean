/-
  The walk of the statement on the order of flipped numbers.
-/
import Derived.Test.YtploclopllfmdaaBitsE
namespace Go.Proofs.Ytploclopllfmdaa.bw
open Go.RowKit Go.Proofs.Ytploclopllfmdaa.bp Go.Proofs.Ytploclopllfmdaa.bl
set_option linter.unusedVariables false

theorem order_arg (n : Int) (h1 : -9223372036854775808 ≤ n) (h2 : n ≤ 9223372036854775807) :
    ∃ M : Nat, M ≤ 61 ∧ (IntKind.u64.wrap n).tmod 62 = (M : Int) := by
  rw [IntKind.wrap_u64, Int.tmod_eq_emod_of_nonneg (by omega)]
  exact ⟨((n % 18446744073709551616) % 62).toNat, by omega, by omega⟩

theorem near_eq (a : Int) (N : Nat) (a1 : -9223372036854775808 ≤ a) (a2 : a ≤ 9223372036854775807) : topW (zig a) ≤ (N : Int) ↔ (-((pw N : Nat) : Int) ≤ a ∧ a < ((pw N : Nat) : Int)) := by
  unfold topW
  rw [top_le _ _ _ (by simpa using zig_lt a a1 a2), ← show pw (N + 1) = 2 ^ (N + 1) from rfl, pw_succ]
  unfold zig
  split <;> omega

set_option maxHeartbeats 1000000 in
theorem order_any (a b n : Int) (w : World) (a1 : -9223372036854775808 ≤ a) (a2 : a ≤ 9223372036854775807) (b1 : -9223372036854775808 ≤ b) (b2 : b ≤ 9223372036854775807)
    (n1 : -9223372036854775808 ≤ n) (n2 : n ≤ 9223372036854775807) :
    Calls Try.prog 7 #[.int .i64 a, .int .i64 b, .int .i64 n] w fun e w' => e = .returned (.bool true) ∧ w = w' := by
  obtain ⟨M, hM, he⟩ := order_arg n n1 n2
  have za := zig_lt a a1 a2
  have zb := zig_lt b b1 b2
  have fa := flip_lt a a2
  have fb := flip_lt b b2
  have hp : (2 : Int) ^ (1 + M) = ((pw (1 + M) : Nat) : Int) := by unfold pw; simp
  have hq : pw (1 + M) ≤ 4611686018427387904 := Nat.pow_le_pow_right (by omega) (by omega : 1 + M ≤ 62)
  have hpos := pw_pos (1 + M)
  have hn := near_eq a (1 + M) a1 a2
  rw [show (((1 + M : Nat)) : Int) = 1 + (M : Int) from by omega] at hn
  have hnb : (decide (topW (zig a) ≤ 1 + (M : Int))) = (decide (-((pw (1 + M) : Nat) : Int) ≤ a) && decide (a < ((pw (1 + M) : Nat) : Int))) := by
    rw [← Bool.decide_and]; exact decide_eq_decide.2 hn
  have hN := Lib.hid hnb
  clear hn hnb
  have key : ∀ c d : Int, (c = d ∨ c < d ∨ d < c) := by omega
  rcases key a b with h | h | h
  · subst h
    go_enter Try.func7, Try.ntmps7
    by_cases c1 : -((pw (1 + M) : Nat) : Int) ≤ a
    · by_cases c2 : a < ((pw (1 + M) : Nat) : Int)
      · have c3 : topW (zig a) ≤ 1 + (M : Int) := of_decide_eq_true (by rw [hN.out]; simp [c1, c2])
        go_wp2_with (first | (go_at_call 15; refine (known_any _).mono ?_; rintro e w' ⟨rfl, rfl⟩) | (go_at_call 19; refine (zig_any _ _ (by omega) (by omega)).mono ?_; rintro e w' ⟨rfl, rfl⟩) | (go_at_call 23; refine (flip_any _ _ (by omega) (by omega)).mono ?_; rintro e w' ⟨rfl, rfl⟩) | (go_at_call 26; refine (top_any _ _ (by omega) (by omega)).mono ?_; rintro e w' ⟨rfl, rfl⟩))
        go_ret
        exact ⟨ret_bool (by simp; try omega), rfl⟩
      · have c3 : 1 + (M : Int) < topW (zig a) := by have := of_decide_eq_false (p := topW (zig a) ≤ 1 + (M : Int)) (by rw [hN.out]; simp [c2]); omega
        go_wp2_with (first | (go_at_call 15; refine (known_any _).mono ?_; rintro e w' ⟨rfl, rfl⟩) | (go_at_call 19; refine (zig_any _ _ (by omega) (by omega)).mono ?_; rintro e w' ⟨rfl, rfl⟩) | (go_at_call 23; refine (flip_any _ _ (by omega) (by omega)).mono ?_; rintro e w' ⟨rfl, rfl⟩) | (go_at_call 26; refine (top_any _ _ (by omega) (by omega)).mono ?_; rintro e w' ⟨rfl, rfl⟩))
        go_ret
        exact ⟨ret_bool (by simp; omega), rfl⟩
    · have c3 : 1 + (M : Int) < topW (zig a) := by have := of_decide_eq_false (p := topW (zig a) ≤ 1 + (M : Int)) (by rw [hN.out]; simp [c1]); omega
      go_wp2_with (first | (go_at_call 15; refine (known_any _).mono ?_; rintro e w' ⟨rfl, rfl⟩) | (go_at_call 19; refine (zig_any _ _ (by omega) (by omega)).mono ?_; rintro e w' ⟨rfl, rfl⟩) | (go_at_call 23; refine (flip_any _ _ (by omega) (by omega)).mono ?_; rintro e w' ⟨rfl, rfl⟩) | (go_at_call 26; refine (top_any _ _ (by omega) (by omega)).mono ?_; rintro e w' ⟨rfl, rfl⟩))
      go_ret
      exact ⟨ret_bool (by simp; omega), rfl⟩
  · have f1 : flipW a < flipW b := by unfold flipW; omega
    have f2 : (a == b) = false := by rw [beq_eq_false_iff_ne]; omega
    have f3 : (((flipW a : Nat) : Int) == ((flipW b : Nat) : Int)) = false := by rw [beq_eq_false_iff_ne]; omega
    have f4 : (((zig a : Nat) : Int) == ((zig b : Nat) : Int)) = false := by rw [beq_eq_false_iff_ne]; unfold zig; split <;> split <;> omega
    go_enter Try.func7, Try.ntmps7
    by_cases c1 : -((pw (1 + M) : Nat) : Int) ≤ a
    · by_cases c2 : a < ((pw (1 + M) : Nat) : Int)
      · have c3 : topW (zig a) ≤ 1 + (M : Int) := of_decide_eq_true (by rw [hN.out]; simp [c1, c2])
        go_wp2_with (first | (go_at_call 15; refine (known_any _).mono ?_; rintro e w' ⟨rfl, rfl⟩) | (go_at_call 19; refine (zig_any _ _ (by omega) (by omega)).mono ?_; rintro e w' ⟨rfl, rfl⟩) | (go_at_call 23; refine (flip_any _ _ (by omega) (by omega)).mono ?_; rintro e w' ⟨rfl, rfl⟩) | (go_at_call 26; refine (top_any _ _ (by omega) (by omega)).mono ?_; rintro e w' ⟨rfl, rfl⟩))
        go_ret
        exact ⟨ret_bool (by simp; try omega), rfl⟩
      · have c3 : 1 + (M : Int) < topW (zig a) := by have := of_decide_eq_false (p := topW (zig a) ≤ 1 + (M : Int)) (by rw [hN.out]; simp [c2]); omega
        go_wp2_with (first | (go_at_call 15; refine (known_any _).mono ?_; rintro e w' ⟨rfl, rfl⟩) | (go_at_call 19; refine (zig_any _ _ (by omega) (by omega)).mono ?_; rintro e w' ⟨rfl, rfl⟩) | (go_at_call 23; refine (flip_any _ _ (by omega) (by omega)).mono ?_; rintro e w' ⟨rfl, rfl⟩) | (go_at_call 26; refine (top_any _ _ (by omega) (by omega)).mono ?_; rintro e w' ⟨rfl, rfl⟩))
        go_ret
        exact ⟨ret_bool (by simp; omega), rfl⟩
    · have c3 : 1 + (M : Int) < topW (zig a) := by have := of_decide_eq_false (p := topW (zig a) ≤ 1 + (M : Int)) (by rw [hN.out]; simp [c1]); omega
      go_wp2_with (first | (go_at_call 15; refine (known_any _).mono ?_; rintro e w' ⟨rfl, rfl⟩) | (go_at_call 19; refine (zig_any _ _ (by omega) (by omega)).mono ?_; rintro e w' ⟨rfl, rfl⟩) | (go_at_call 23; refine (flip_any _ _ (by omega) (by omega)).mono ?_; rintro e w' ⟨rfl, rfl⟩) | (go_at_call 26; refine (top_any _ _ (by omega) (by omega)).mono ?_; rintro e w' ⟨rfl, rfl⟩))
      go_ret
      exact ⟨ret_bool (by simp; omega), rfl⟩
  · have f1 : flipW b < flipW a := by unfold flipW; omega
    have f2 : (a == b) = false := by rw [beq_eq_false_iff_ne]; omega
    have f3 : (((flipW a : Nat) : Int) == ((flipW b : Nat) : Int)) = false := by rw [beq_eq_false_iff_ne]; omega
    have f4 : (((zig a : Nat) : Int) == ((zig b : Nat) : Int)) = false := by rw [beq_eq_false_iff_ne]; unfold zig; split <;> split <;> omega
    go_enter Try.func7, Try.ntmps7
    by_cases c1 : -((pw (1 + M) : Nat) : Int) ≤ a
    · by_cases c2 : a < ((pw (1 + M) : Nat) : Int)
      · have c3 : topW (zig a) ≤ 1 + (M : Int) := of_decide_eq_true (by rw [hN.out]; simp [c1, c2])
        go_wp2_with (first | (go_at_call 15; refine (known_any _).mono ?_; rintro e w' ⟨rfl, rfl⟩) | (go_at_call 19; refine (zig_any _ _ (by omega) (by omega)).mono ?_; rintro e w' ⟨rfl, rfl⟩) | (go_at_call 23; refine (flip_any _ _ (by omega) (by omega)).mono ?_; rintro e w' ⟨rfl, rfl⟩) | (go_at_call 26; refine (top_any _ _ (by omega) (by omega)).mono ?_; rintro e w' ⟨rfl, rfl⟩))
        go_ret
        exact ⟨ret_bool (by simp; try omega), rfl⟩
      · have c3 : 1 + (M : Int) < topW (zig a) := by have := of_decide_eq_false (p := topW (zig a) ≤ 1 + (M : Int)) (by rw [hN.out]; simp [c2]); omega
        go_wp2_with (first | (go_at_call 15; refine (known_any _).mono ?_; rintro e w' ⟨rfl, rfl⟩) | (go_at_call 19; refine (zig_any _ _ (by omega) (by omega)).mono ?_; rintro e w' ⟨rfl, rfl⟩) | (go_at_call 23; refine (flip_any _ _ (by omega) (by omega)).mono ?_; rintro e w' ⟨rfl, rfl⟩) | (go_at_call 26; refine (top_any _ _ (by omega) (by omega)).mono ?_; rintro e w' ⟨rfl, rfl⟩))
        go_ret
        exact ⟨ret_bool (by simp; omega), rfl⟩
    · have c3 : 1 + (M : Int) < topW (zig a) := by have := of_decide_eq_false (p := topW (zig a) ≤ 1 + (M : Int)) (by rw [hN.out]; simp [c1]); omega
      go_wp2_with (first | (go_at_call 15; refine (known_any _).mono ?_; rintro e w' ⟨rfl, rfl⟩) | (go_at_call 19; refine (zig_any _ _ (by omega) (by omega)).mono ?_; rintro e w' ⟨rfl, rfl⟩) | (go_at_call 23; refine (flip_any _ _ (by omega) (by omega)).mono ?_; rintro e w' ⟨rfl, rfl⟩) | (go_at_call 26; refine (top_any _ _ (by omega) (by omega)).mono ?_; rintro e w' ⟨rfl, rfl⟩))
      go_ret
      exact ⟨ret_bool (by simp; omega), rfl⟩
end Go.Proofs.Ytploclopllfmdaa.bw
