/-
  Layer 2: numerals' laws of small bytes.
-/
import Derived.Test.YtapeejndekoicaaDigitPlainC
import Derived.Test.YtapeejndekoicaaDigitLaws
namespace Go.Proofs.Ytapeejndekoicaa.dp
theorem pw_two (k : Nat) : (2 : Int) ^ (7 * k) = pw k := by unfold pw; rw [Int.pow_mul]; rfl
theorem pw_nat (k : Nat) : pw k = ((2 ^ (7 * k) : Nat) : Int) := by rw [← pw_two]; simp
theorem and127 (x : Int) (h0 : 0 ≤ x) (h1 : x ≤ 255) : bits .and .u8 x 127 = x % 128 := by
  obtain ⟨X, rfl⟩ := Int.eq_ofNat_of_zero_le h0
  have := u8_and_nat X 127 (by omega) (by omega)
  rw [show ((127 : Nat) : Int) = 127 from rfl] at this
  rw [this, show (127 : Nat) = 2 ^ 7 - 1 from rfl, Nat.and_two_pow_sub_one_eq_mod]
  simp
theorem or_step (n x : Int) (k : Nat) (n0 : 0 ≤ n) (n1 : n < pw k) (x0 : 0 ≤ x) (x1 : x ≤ 255) (hb : x % 128 * pw k + pw k ≤ 18446744073709551616) :
    bits .or .u64 n (IntKind.u64.wrap (IntKind.u64.wrap (bits .and .u8 x 127) * 2 ^ (7 * k))) = n + x % 128 * pw k := by
  have hp := pw_pos k
  have hm : 0 ≤ x % 128 := by omega
  have hz : 0 ≤ x % 128 * pw k := Int.mul_nonneg hm (by omega)
  rw [and127 x x0 x1, IntWalk.u64_in (x % 128) ⟨hm, by omega⟩, pw_two, IntWalk.u64_in (x % 128 * pw k) ⟨hz, by omega⟩]
  obtain ⟨N, rfl⟩ := Int.eq_ofNat_of_zero_le n0
  obtain ⟨X, hX⟩ := Int.eq_ofNat_of_zero_le hm
  rw [hX] at hb hz ⊢
  rw [pw_nat] at n1 hb hz ⊢
  have e : ((X : Int) * ((2 ^ (7 * k) : Nat) : Int)) = ((X * 2 ^ (7 * k) : Nat) : Int) := by rw [Int.natCast_mul]
  rw [e] at hb hz ⊢
  rw [u64_or_nat _ _ (by omega) (by omega), Nat.or_comm, Nat.mul_comm X, ← Nat.two_pow_add_eq_or_of_lt (by omega)]
  omega
theorem mul_step (n x : Int) (k : Nat) (n0 : 0 ≤ n) (n1 : n < pw k) (hb : x % 128 * pw k + pw k ≤ 18446744073709551616) : IntKind.u64.wrap (n + IntKind.u64.wrap (x % 128 * pw k)) = n + x % 128 * pw k := by
  have hp := pw_pos k
  have hz : 0 ≤ x % 128 * pw k := Int.mul_nonneg (by omega) (by omega)
  rw [IntWalk.u64_in (x % 128 * pw k) ⟨hz, by omega⟩, IntWalk.u64_in _ ⟨by omega, by omega⟩]
theorem pw_step (k : Nat) (h : k ≤ 8) : IntKind.u64.wrap (pw k * 128) = pw (k + 1) := by
  have h1 := pw_le k h
  have h2 := pw_pos k
  rw [pw_succ, IntWalk.u64_in _ ⟨by omega, by omega⟩]
end Go.Proofs.Ytapeejndekoicaa.dp
