/-
  The walks of the statements on words.
-/
import Derived.Test.YtploclopllfmdaaBitsC
import Derived.Test.YtploclopllfmdaaBitsD
namespace Go.Proofs.Ytploclopllfmdaa.bw
open Go.RowKit Go.Proofs.Ytploclopllfmdaa.bp Go.Proofs.Ytploclopllfmdaa.bl

theorem known_get : getF 43981 4 8 = 188 := by decide
theorem known_put : putF 43981 4 8 291 = 41533 := by decide
theorem known_turn : turn 1 63 = 9223372036854775808 := by decide

theorem known_any (w : World) :
    Calls Try.prog 15 #[] w fun e w' => e = .returned (.bool true) ∧ w = w' := by
  have g1 := known_get
  have g2 := known_put
  have g3 : zig (-3) = 5 := by decide
  have g4 : sign 15 4 = -1 := by decide
  have g5 : (((turn 1 63 : Nat) : Int) == 9223372036854775808) = true := by rw [known_turn]; rfl
  go_enter Try.func15, Try.ntmps15
  go_wp2_with (first | (go_at_call 11; refine (get_any _ _ _ _ (by omega) (by omega) (by omega) (by omega)).mono ?_; rintro e w' ⟨rfl, rfl⟩) | (go_at_call 13; refine (put_any _ _ _ _ _ (by omega) (by omega) (by omega) (by omega) (by omega) (by omega)).mono ?_; rintro e w' ⟨rfl, rfl⟩) | (go_at_call 19; refine (zig_any _ _ (by omega) (by omega)).mono ?_; rintro e w' ⟨rfl, rfl⟩) | (go_at_call 17; refine (sign_any _ _ _ (by omega) (by omega)).mono ?_; rintro e w' ⟨rfl, rfl⟩) | (go_at_call 28; refine (turn_any _ _ 63 _ (by omega) (by omega) (by omega) (by omega)).mono ?_; rintro e w' ⟨rfl, rfl⟩))
  go_ret
  exact ⟨rfl, rfl⟩

theorem bthen {W a b : World} (h : Below W.heap.size W a) (k : Below a.heap.size a b) : Below W.heap.size W b := h.trans (k.mono h.size)

theorem fields_any (x lo n v : Int) (w : World) (w1 : 0 ≤ x) (w2 : x ≤ 18446744073709551615) (v1 : 0 ≤ v) (v2 : v ≤ 18446744073709551615)
    (h1 : -9223372036854775808 ≤ lo) (h2 : lo ≤ 9223372036854775807) :
    Calls Try.prog 3 #[.int .u64 x, .int .i64 lo, .int .i64 n, .int .u64 v] w fun e w' => e = .returned (.bool true) ∧ Below w.heap.size w w' := by
  go_enter Try.func3, Try.ntmps3
  go_wp2_with fail
  go_loopw [9] (fun i wr => ∃ k : Nat, k ≤ 66 ∧ i = .int .i64 k ∧ Below w.heap.size w wr) (fun i _ => 66 - (intOf i).toNat)
  case atStart => exact ⟨0, Nat.zero_le _, rfl, Below.refl _ _⟩
  case round =>
    obtain ⟨k, hk, rfl, hbel⟩ := hrel
    by_cases hlt : k < 66
    · go_wp2_with (first | (go_at_call 9; refine (low_any _ _).mono ?_; rintro e w' ⟨rfl, rfl⟩) | (go_at_call 11; refine (get_any _ _ _ _ (by omega) (by omega) (by omega) (by omega)).mono ?_; rintro e w' ⟨rfl, rfl⟩) | (go_at_call 13; refine (put_any _ _ _ _ _ (by omega) (by omega) (by omega) (by omega) (by omega) (by omega)).mono ?_; rintro e w' ⟨rfl, rfl⟩) | (go_at_call 10; refine (rlow_any _ _).mono ?_; rintro e W1 ⟨rfl, hb1⟩; replace hbel := bthen hbel hb1; clear hb1) | (go_at_call 12; refine (rget_any _ _ _ _ (by omega) (by omega) (by omega) (by omega)).mono ?_; rintro e W1 ⟨rfl, hb1⟩; replace hbel := bthen hbel hb1; clear hb1) | (go_at_call 14; refine (rput_any _ _ _ _ _ (by omega) (by omega) (by omega) (by omega) (by omega) (by omega)).mono ?_; rintro e W1 ⟨rfl, hb1⟩; replace hbel := bthen hbel hb1; clear hb1))
      go_roundw
      case rel => exact ⟨k + 1, by omega, by go_num, hbel⟩
      case measure => simp [intOf]; omega
    · have : k = 66 := by omega
      subst this
      go_wp2_with (first | (go_at_call 15; refine (known_any _).mono ?_; rintro e w' ⟨rfl, rfl⟩) | (go_at_call 9; refine (low_any _ _).mono ?_; rintro e w' ⟨rfl, rfl⟩) | (go_at_call 11; refine (get_any _ _ _ _ (by omega) (by omega) (by omega) (by omega)).mono ?_; rintro e w' ⟨rfl, rfl⟩) | (go_at_call 13; refine (put_any _ _ _ _ _ (by omega) (by omega) (by omega) (by omega) (by omega) (by omega)).mono ?_; rintro e w' ⟨rfl, rfl⟩) | (go_at_call 10; refine (rlow_any _ _).mono ?_; rintro e W1 ⟨rfl, hb1⟩; replace hbel := bthen hbel hb1; clear hb1) | (go_at_call 12; refine (rget_any _ _ _ _ (by omega) (by omega) (by omega) (by omega)).mono ?_; rintro e W1 ⟨rfl, hb1⟩; replace hbel := bthen hbel hb1; clear hb1) | (go_at_call 14; refine (rput_any _ _ _ _ _ (by omega) (by omega) (by omega) (by omega) (by omega) (by omega)).mono ?_; rintro e W1 ⟨rfl, hb1⟩; replace hbel := bthen hbel hb1; clear hb1))
      go_ret
      exact ⟨rfl, hbel⟩
end Go.Proofs.Ytploclopllfmdaa.bw
