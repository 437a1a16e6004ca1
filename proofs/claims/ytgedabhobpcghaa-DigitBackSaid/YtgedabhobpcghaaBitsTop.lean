/-
  The walk of bits.Top alone.
-/
import Derived.Test.YtgedabhobpcghaaRows
import Derived.Test.YtgedabhobpcghaaBitsLawsB
import Derived.WalkKit
import Derived.Lib.Hide
import Derived.WalkSpells
import Derived.WalkLawsBesides
namespace Go.Proofs.Ytgedabhobpcghaa.bw
open Go.RowKit Go.Proofs.Ytgedabhobpcghaa.bp Go.Proofs.Ytgedabhobpcghaa.bl

theorem top_any (x : Int) (w : World) (w1 : 0 ≤ x) (w2 : x ≤ 18446744073709551615) :
    Calls Try.prog 26 #[.int .u64 x] w fun e w' => e = .returned (.int .i64 (topW x.toNat)) ∧ w = w' := by
  obtain ⟨X, rfl⟩ := Int.eq_ofNat_of_zero_le w1
  rw [Int.toNat_natCast]
  unfold topW
  go_enter Try.func26, Try.ntmps26
  go_wp2
  go_loop [3, 4, 5] (fun t j i => ∃ k : Nat, k ≤ 64 ∧ i = .int .i64 k ∧ t = .int .i64 (top (fun i => X.testBit i) k)) (fun _ _ i => 64 - (intOf i).toNat)
  case atStart => exact ⟨0, Nat.zero_le _, rfl, rfl⟩
  case round =>
    obtain ⟨k, hk, rfl, rfl⟩ := hrel
    by_cases hlt : k < 64
    · have bt := bit_test X k (by omega)
      cases hb : X.testBit k
      · have hs : Hid (top (fun i => X.testBit i) (k + 1) = top (fun i => X.testBit i) k) := by show _ = _; simp only [top]; rw [if_neg (by simp [hb])]
        rw [hb] at bt
        clear hb
        go_wp2
        go_round
        case rel => exact ⟨k + 1, by omega, by go_num, by rw [hs.out]⟩
        case measure => simp [intOf]; omega
      · have hs : Hid (top (fun i => X.testBit i) (k + 1) = k) := by show _ = _; simp only [top]; rw [if_pos (by simp [hb])]
        rw [hb] at bt
        clear hb
        go_wp2
        go_round
        case rel => exact ⟨k + 1, by omega, by go_num, by rw [hs.out]⟩
        case measure => simp [intOf]; omega
    · have : k = 64 := by omega
      subst this
      go_wp2
      go_ret
      exact ⟨rfl, rfl⟩

end Go.Proofs.Ytgedabhobpcghaa.bw
