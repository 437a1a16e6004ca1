/-
  The walks of the functions of package bits: signed numbers, turned words, ones.
-/
import Derived.Test.YtploclopllfmdaaRows
import Derived.Test.YtploclopllfmdaaBitsLawsB
import Derived.Test.YtploclopllfmdaaBitsA
import Derived.WalkKit
import Derived.Lib.Hide
import Derived.WalkSpells
import Derived.WalkLawsBesides
namespace Go.Proofs.Ytploclopllfmdaa.bw
open Go.RowKit Go.Proofs.Ytploclopllfmdaa.bp Go.Proofs.Ytploclopllfmdaa.bl

theorem zig_any (n : Int) (w : World) (h1 : -9223372036854775808 ≤ n) (h2 : n ≤ 9223372036854775807) :
    Calls Try.prog 19 #[.int .i64 n] w fun e w' => e = .returned (.int .u64 ((zig n : Nat) : Int)) ∧ w = w' := by
  go_enter Try.func19, Try.ntmps19
  go_wp2
  go_ret
  exact ⟨ret_int (zig_eq n h1 h2), rfl⟩

theorem zag_any (n : Int) (w : World) (h1 : 0 ≤ n) (h2 : n ≤ 18446744073709551615) :
    Calls Try.prog 21 #[.int .u64 n] w fun e w' => e = .returned (.int .i64 (zag n.toNat)) ∧ w = w' := by
  go_enter Try.func21, Try.ntmps21
  go_wp2
  go_ret
  exact ⟨ret_int (zag_eq n h1 h2), rfl⟩

theorem flip_any (n : Int) (w : World) (h1 : -9223372036854775808 ≤ n) (h2 : n ≤ 9223372036854775807) :
    Calls Try.prog 23 #[.int .i64 n] w fun e w' => e = .returned (.int .u64 ((flipW n : Nat) : Int)) ∧ w = w' := by
  go_enter Try.func23, Try.ntmps23
  go_wp2
  go_ret
  exact ⟨ret_int (flip_eq n h1 h2), rfl⟩

theorem unflip_any (n : Int) (w : World) (h1 : 0 ≤ n) (h2 : n ≤ 18446744073709551615) :
    Calls Try.prog 22 #[.int .u64 n] w fun e w' => e = .returned (.int .i64 (unflipW n.toNat)) ∧ w = w' := by
  go_enter Try.func22, Try.ntmps22
  go_wp2
  go_ret
  exact ⟨ret_int (unflip_eq n h1 h2), rfl⟩

theorem sign_any (x n : Int) (w : World) (w1 : 0 ≤ x) (w2 : x ≤ 18446744073709551615) :
    Calls Try.prog 17 #[.int .u64 x, .int .i64 n] w fun e w' => e = .returned (.int .i64 (sign x.toNat n)) ∧ w = w' := by
  obtain ⟨X, rfl⟩ := Int.eq_ofNat_of_zero_le w1
  by_cases h1 : n < 1
  · go_enter Try.func17, Try.ntmps17
    go_wp2
    go_ret
    exact ⟨ret_int (by unfold sign; rw [if_pos h1]), rfl⟩
  · by_cases h2 : 64 < n
    · go_enter Try.func17, Try.ntmps17
      go_wp2
      go_ret
      exact ⟨ret_int (sign_top X n (by omega) (by omega)), rfl⟩
    · obtain ⟨N, rfl⟩ := Int.eq_ofNat_of_zero_le (by omega : 0 ≤ n)
      go_enter Try.func17, Try.ntmps17
      go_wp2
      go_ret
      exact ⟨ret_int (sign_mid X N (by omega) (by omega)), rfl⟩

theorem turn_any (x n : Int) (b : Nat) (w : World) (w1 : 0 ≤ x) (w2 : x ≤ 18446744073709551615) (hb : b < 64) (hn : n % 64 = b) :
    Calls Try.prog 28 #[.int .u64 x, .int .i64 n] w fun e w' => e = .returned (.int .u64 ((turn x.toNat b : Nat) : Int)) ∧ w = w' := by
  have he : (IntKind.u64.wrap n).tmod 64 = b := by rw [IntKind.wrap_u64, Int.tmod_eq_emod_of_nonneg (by omega)]; omega
  clear hn
  go_enter Try.func28, Try.ntmps28
  go_wp2
  go_ret
  exact ⟨ret_int (turn_eq x b w1 w2 hb), rfl⟩

theorem swap_any (x : Int) (w : World) (w1 : 0 ≤ x) (w2 : x ≤ 18446744073709551615) :
    Calls Try.prog 30 #[.int .u64 x] w fun e w' => e = .returned (.int .u64 ((swap x.toNat : Nat) : Int)) ∧ w = w' := by
  obtain ⟨X, rfl⟩ := Int.eq_ofNat_of_zero_le w1
  rw [Int.toNat_natCast]
  go_enter Try.func30, Try.ntmps30
  go_wp2
  go_loop [0, 3, 4] (fun v out i => ∃ k : Nat, k ≤ 8 ∧ i = .int .i64 k ∧ v = .int .u64 ((shrN X k : Nat) : Int) ∧ out = .int .u64 ((swp X k : Nat) : Int)) (fun _ _ i => 8 - (intOf i).toNat)
  case atStart => exact ⟨0, Nat.zero_le _, rfl, by rw [shrN_zero], rfl⟩
  case round =>
    obtain ⟨k, hk, rfl, rfl, rfl⟩ := hrel
    by_cases hlt : k < 8
    · have b1 := shrN_lt X k (by omega)
      have b2 := swp_small X k hlt
      go_wp2
      go_round
      case rel => exact ⟨k + 1, by omega, by go_num, by rw [shrN_succ]; go_num, by rw [swp_step X k hlt]⟩
      case measure => simp [intOf]; omega
    · have : k = 8 := by omega
      subst this
      go_wp2
      go_ret
      exact ⟨ret_int (by rw [swp_eq]), rfl⟩

theorem ones_any (x : Int) (w : World) (w1 : 0 ≤ x) (w2 : x ≤ 18446744073709551615) :
    Calls Try.prog 32 #[.int .u64 x] w fun e w' => e = .returned (.int .i64 ((ones x.toNat : Nat) : Int)) ∧ w = w' := by
  obtain ⟨X, rfl⟩ := Int.eq_ofNat_of_zero_le w1
  rw [Int.toNat_natCast]
  go_enter Try.func32, Try.ntmps32
  go_wp2
  go_loop [0, 3] (fun v n => ∃ u c : Nat, u < 18446744073709551616 ∧ v = .int .u64 (u : Int) ∧ n = .int .i64 (c : Int) ∧ Hid (c + ones u = ones X)) (fun v _ => (intOf v).toNat)
  case atStart => exact ⟨X, 0, by omega, rfl, rfl, Nat.zero_add _⟩
  case round =>
    obtain ⟨u, c, hu, rfl, rfl, hc⟩ := hrel
    have hx := ones_le X
    have hcb : c ≤ 64 := by have := hc.out; omega
    clear hx
    by_cases h0 : u = 0
    · subst h0
      go_wp2
      go_ret
      exact ⟨ret_int (by have := hc.out; rw [ones_zero] at this; omega), rfl⟩
    · have hlt := and_pred_lt u h0
      have hO := Lib.hid (ones_clr u hu h0)
      have hA := Lib.hid (and_pred u hu h0)
      have hpos : 1 ≤ u := by omega
      have hne : ((u : Int) != 0) = true := by rw [bne_iff_ne]; omega
      go_wp2
      go_round
      case rel => exact ⟨u &&& (u - 1), c + 1, by omega, by rw [hA.out], by go_num, by have := hO.out; have := hc.out; show _ = _; omega⟩
      case measure => rw [hA.out]; simp [intOf]; omega

theorem top_any (x : Int) (w : World) (w1 : 0 ≤ x) (w2 : x ≤ 18446744073709551615) :
    Calls Try.prog 26 #[.int .u64 x] w fun e w' => e = .returned (.int .i64 (topW x.toNat)) ∧ w = w' := by
  obtain ⟨X, rfl⟩ := Int.eq_ofNat_of_zero_le w1
  rw [Int.toNat_natCast]
  unfold topW
  go_enter Try.func26, Try.ntmps26
  go_wp2
  go_loop [3, 4, 5] (fun t j i => ∃ k : Nat, k ≤ 64 ∧ i = .int .i64 k ∧ t = .int .i64 (top (fun i => X.testBit i) k)) (fun _ _ i => 64 - (intOf i).toNat)
  case atStart => exact ⟨0, Nat.zero_le _, rfl, rfl⟩
  case round =>
    obtain ⟨k, hk, rfl, rfl⟩ := hrel
    by_cases hlt : k < 64
    · have bt := bit_test X k (by omega)
      cases hb : X.testBit k
      · have hs : Hid (top (fun i => X.testBit i) (k + 1) = top (fun i => X.testBit i) k) := by show _ = _; simp only [top]; rw [if_neg (by simp [hb])]
        rw [hb] at bt
        clear hb
        go_wp2
        go_round
        case rel => exact ⟨k + 1, by omega, by go_num, by rw [hs.out]⟩
        case measure => simp [intOf]; omega
      · have hs : Hid (top (fun i => X.testBit i) (k + 1) = k) := by show _ = _; simp only [top]; rw [if_pos (by simp [hb])]
        rw [hb] at bt
        clear hb
        go_wp2
        go_round
        case rel => exact ⟨k + 1, by omega, by go_num, by rw [hs.out]⟩
        case measure => simp [intOf]; omega
    · have : k = 64 := by omega
      subst this
      go_wp2
      go_ret
      exact ⟨rfl, rfl⟩

theorem bottom_any (x : Int) (w : World) (w1 : 0 ≤ x) (w2 : x ≤ 18446744073709551615) :
    Calls Try.prog 33 #[.int .u64 x] w fun e w' => e = .returned (.int .i64 (botW x.toNat)) ∧ w = w' := by
  have ha := and_neg x w1 w2
  have hb : x.toNat &&& (18446744073709551616 - x.toNat) ≤ 18446744073709551615 := by have := @Nat.and_le_left x.toNat (18446744073709551616 - x.toNat); omega
  have hc := Lib.hid (bottom_eq x.toNat (by omega))
  generalize x.toNat &&& (18446744073709551616 - x.toNat) = y at *
  go_enter Try.func33, Try.ntmps33
  go_wp2_with (go_at_call 26; refine (top_any _ _ (by omega) (by omega)).mono ?_; rintro e w' ⟨rfl, rfl⟩)
  go_ret
  exact ⟨ret_int (by rw [← hc.out]), rfl⟩

theorem join_any (x n : Int) (w : World) (w1 : 0 ≤ x) (w2 : x ≤ 4294967295) (h1 : 0 ≤ n) (h2 : n ≤ 4294967295) :
    Calls Try.prog 24 #[.int .u32 x, .int .u32 n] w fun e w' => e = .returned (.int .u64 (x * 4294967296 + n)) ∧ w = w' := by
  obtain ⟨X, rfl⟩ := Int.eq_ofNat_of_zero_le w1
  obtain ⟨N, rfl⟩ := Int.eq_ofNat_of_zero_le h1
  go_enter Try.func24, Try.ntmps24
  go_wp2
  go_ret
  exact ⟨ret_int (by rw [show ((X : Int) * 4294967296) = ((X * 4294967296 : Nat) : Int) from by omega, u64_or_nat _ _ (by omega) (by omega), nat_join 32 _ _ (by omega) (by omega)]; omega), rfl⟩

theorem split_any (x : Int) (w : World) (w1 : 0 ≤ x) (w2 : x ≤ 18446744073709551615) :
    Calls Try.prog 16 #[.int .u64 x] w fun e w' => e = .returned (.tuple #[.int .u32 (x / 4294967296), .int .u32 (x % 4294967296)]) ∧ w = w' := by
  go_enter Try.func16, Try.ntmps16
  go_wp2
  go_ret2
  exact ⟨rfl, rfl⟩
end Go.Proofs.Ytploclopllfmdaa.bw
