/-
  The walk of the statement on signed numbers as words.
-/
import Derived.Test.YtploclopllfmdaaBitsE
namespace Go.Proofs.Ytploclopllfmdaa.bw
open Go.RowKit Go.Proofs.Ytploclopllfmdaa.bp Go.Proofs.Ytploclopllfmdaa.bl

theorem get_hi (x : Nat) : ((getF x 32 32 : Nat) : Int) = (x : Int) / 4294967296 % 4294967296 := by
  unfold getF
  rw [if_pos (by decide), show (32 : Int).toNat = 32 from rfl]
  omega
theorem get_lo (x : Nat) : ((getF x 0 32 : Nat) : Int) = (x : Int) % 4294967296 := by
  unfold getF
  rw [if_pos (by decide), show (32 : Int).toNat = 32 from rfl, show (0 : Int).toNat = 0 from rfl]
  omega

set_option maxHeartbeats 1000000 in
theorem signs_any (a x n : Int) (w : World) (a1 : -9223372036854775808 ≤ a) (a2 : a ≤ 9223372036854775807) (w1 : 0 ≤ x) (w2 : x ≤ 18446744073709551615) :
    Calls Try.prog 5 #[.int .i64 a, .int .u64 x, .int .i64 n] w fun e w' => e = .returned (.bool true) ∧ Below w.heap.size w w' := by
  obtain ⟨X, rfl⟩ := Int.eq_ofNat_of_zero_le w1
  go_enter Try.func5, Try.ntmps5
  go_wp2_with (first | (go_at_call 16; refine (split_any _ _ (by omega) (by omega)).mono ?_; rintro e w' ⟨rfl, rfl⟩))
  go_loopw [9] (fun i wr => ∃ k : Int, -1 ≤ k ∧ k ≤ 66 ∧ i = .int .i64 k ∧ Below w.heap.size w wr) (fun i _ => (66 - intOf i).toNat)
  case atStart => exact ⟨-1, by omega, by omega, rfl, Below.refl _ _⟩
  case round =>
    obtain ⟨k, hk1, hk2, rfl, hbel⟩ := hrel
    by_cases hlt : k < 66
    · go_wp2_with (first | (go_at_call 17; refine (sign_any _ _ _ (by omega) (by omega)).mono ?_; rintro e w' ⟨rfl, rfl⟩) | (go_at_call 18; refine (rsign_any _ _ _ (by omega) (by omega)).mono ?_; rintro e W1 ⟨rfl, hb1⟩; replace hbel := bthen hbel hb1; clear hb1))
      go_roundw
      case rel => exact ⟨k + 1, by omega, by omega, rfl, hbel⟩
      case measure => simp [intOf]; omega
    · have : k = 66 := by omega
      subst this
      have z2 := zig_lt a a1 a2
      have z4 := zag_bounds X (by omega)
      have f2 := flip_lt a a2
      have f4 := unflip_bounds X (by omega)
      have z1 := zag_zig a
      have z3 := zig_zag X
      have f1 := unflip_flip a a1
      have f3 := flip_unflip X
      have g1 : (((X : Int) / 4294967296) == ((getF X 32 32 : Nat) : Int)) = true := by rw [get_hi, beq_iff_eq]; omega
      have g2 : (((X : Int) % 4294967296) == ((getF X 0 32 : Nat) : Int)) = true := by rw [get_lo, beq_iff_eq]
      have fe : (((flipW a : Nat) : Int) == IntKind.u64.wrap (IntKind.u64.wrap a + 9223372036854775808)) = true := by
        rw [beq_iff_eq, IntKind.wrap_u64, IntKind.wrap_u64]; unfold flipW; omega
      have je : ((X : Int) / 4294967296 * 4294967296 + (X : Int) % 4294967296 == (X : Int)) = true := by rw [beq_iff_eq]; omega
      go_wp2_with (first | (go_at_call 15; refine (known_any _).mono ?_; rintro e w' ⟨rfl, rfl⟩) | (go_at_call 19; refine (zig_any _ _ (by omega) (by omega)).mono ?_; rintro e w' ⟨rfl, rfl⟩) | (go_at_call 21; refine (zag_any _ _ (by omega) (by omega)).mono ?_; rintro e w' ⟨rfl, rfl⟩) | (go_at_call 23; refine (flip_any _ _ (by omega) (by omega)).mono ?_; rintro e w' ⟨rfl, rfl⟩) | (go_at_call 22; refine (unflip_any _ _ (by omega) (by omega)).mono ?_; rintro e w' ⟨rfl, rfl⟩) | (go_at_call 17; refine (sign_any _ _ _ (by omega) (by omega)).mono ?_; rintro e w' ⟨rfl, rfl⟩) | (go_at_call 18; refine (rsign_any _ _ _ (by omega) (by omega)).mono ?_; rintro e W1 ⟨rfl, hb1⟩; replace hbel := bthen hbel hb1; clear hb1) | (go_at_call 20; refine (rzig_any _ _ (by omega) (by omega)).mono ?_; rintro e w' ⟨rfl, rfl⟩) | (go_at_call 12; refine (rget_any _ _ _ _ (by omega) (by omega) (by omega) (by omega)).mono ?_; rintro e W1 ⟨rfl, hb1⟩; replace hbel := bthen hbel hb1; clear hb1) | (go_at_call 24; refine (join_any _ _ _ (by omega) (by omega) (by omega) (by omega)).mono ?_; rintro e w' ⟨rfl, rfl⟩))
      go_ret
      exact ⟨rfl, hbel⟩

end Go.Proofs.Ytploclopllfmdaa.bw
