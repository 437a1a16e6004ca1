/-
  What the walk leaves of bits' operations, in plain numbers.
-/
import Derived.Test.YtgedabhobpcghaaBitsPlain
import Derived.WalkKit
namespace Go.Proofs.Ytgedabhobpcghaa.bl
open Go.Proofs.Ytgedabhobpcghaa.bp

theorem two_pow_cast (k : Nat) : ((2:Int) ^ k) = ((2 ^ k : Nat) : Int) := by simp

theorem low_eq (n : Int) (h1 : 1 ≤ n) (h2 : n < 64) : IntKind.u64.wrap (IntKind.u64.wrap (2 ^ n.toNat) - 1) = ((low n.toNat : Nat) : Int) := by
  obtain ⟨k, rfl⟩ := Int.eq_ofNat_of_zero_le (by omega : 0 ≤ n)
  have h := pow_lt k (by omega)
  have hp := Nat.two_pow_pos k
  unfold low
  rw [Int.toNat_natCast, show min k 64 = k from by omega]
  rw [two_pow_cast, IntKind.wrap_u64, IntKind.wrap_u64]
  omega

theorem get_eq (w lo n : Int) (w1 : 0 ≤ w) (w2 : w ≤ 18446744073709551615) (h : there lo n = true) :
    bits BinOp.and IntKind.u64 (w / 2 ^ lo.toNat) ((low n.toNat : Nat) : Int) = ((getF w.toNat lo n : Nat) : Int) := by
  obtain ⟨b1, b2, b3, b4⟩ := (there_iff _ _).1 h
  obtain ⟨W, rfl⟩ := Int.eq_ofNat_of_zero_le w1
  obtain ⟨L, rfl⟩ := Int.eq_ofNat_of_zero_le b1
  obtain ⟨N, rfl⟩ := Int.eq_ofNat_of_zero_le b2
  simp only [Int.toNat_natCast]
  rw [two_pow_cast, ← Int.natCast_ediv, u64_and_nat _ _ (Nat.lt_of_le_of_lt (Nat.div_le_self _ _) (by omega)) (low_lt _)]
  congr 1
  unfold getF low
  rw [if_pos h, show min N 64 = N from by omega, Nat.and_two_pow_sub_one_eq_mod]
  simp

theorem shl_nat (v k : Nat) : IntKind.u64.wrap ((v : Int) * 2 ^ k) = ((v * 2 ^ k % 18446744073709551616 : Nat) : Int) := by
  rw [two_pow_cast, IntKind.wrap_u64, Int.natCast_emod, Int.natCast_mul]
  rfl

theorem testBit_shl (v k i : Nat) (hi : i < 64) : (v * 2 ^ k % 18446744073709551616).testBit i = (decide (k ≤ i) && v.testBit (i - k)) := by
  have e : (18446744073709551616 : Nat) = 2 ^ 64 := by decide
  rw [e, Nat.testBit_mod_two_pow, Nat.testBit_mul_two_pow]
  simp [hi]

theorem testBit_compl (b i : Nat) (hb : b < 18446744073709551616) (hi : i < 64) : (18446744073709551615 - b).testBit i = !(b.testBit i) := by
  have e : (18446744073709551615 - b : Nat) = 2 ^ 64 - (b + 1) := by omega
  rw [e, Nat.testBit_two_pow_sub_succ (by simpa using hb)]
  simp [hi]

theorem put_eq (w lo n v : Int) (w1 : 0 ≤ w) (w2 : w ≤ 18446744073709551615) (v1 : 0 ≤ v) (v2 : v ≤ 18446744073709551615) (h : there lo n = true) :
    bits BinOp.or IntKind.u64 (bits BinOp.andNot IntKind.u64 w (IntKind.u64.wrap (((low n.toNat : Nat) : Int) * 2 ^ lo.toNat)))
      (bits BinOp.and IntKind.u64 (IntKind.u64.wrap (v * 2 ^ lo.toNat)) (IntKind.u64.wrap (((low n.toNat : Nat) : Int) * 2 ^ lo.toNat))) =
    ((putF w.toNat lo n v.toNat : Nat) : Int) := by
  obtain ⟨b1, b2, b3, b4⟩ := (there_iff _ _).1 h
  obtain ⟨W, rfl⟩ := Int.eq_ofNat_of_zero_le w1
  obtain ⟨V, rfl⟩ := Int.eq_ofNat_of_zero_le v1
  obtain ⟨L, rfl⟩ := Int.eq_ofNat_of_zero_le b1
  obtain ⟨N, rfl⟩ := Int.eq_ofNat_of_zero_le b2
  simp only [Int.toNat_natCast]
  rw [shl_nat, shl_nat]
  have hm : low N * 2 ^ L % 18446744073709551616 < 18446744073709551616 := Nat.mod_lt _ (by decide)
  have hv : V * 2 ^ L % 18446744073709551616 < 18446744073709551616 := Nat.mod_lt _ (by decide)
  have hW : W < 18446744073709551616 := by omega
  have e64 : (18446744073709551616 : Nat) = 2 ^ 64 := by decide
  rw [u64_andNot_nat _ _ hW hm, u64_and_nat _ _ hv hm]
  have ha : W &&& (18446744073709551615 - low N * 2 ^ L % 18446744073709551616) < 18446744073709551616 := Nat.lt_of_le_of_lt Nat.and_le_left hW
  have hb : V * 2 ^ L % 18446744073709551616 &&& low N * 2 ^ L % 18446744073709551616 < 18446744073709551616 := Nat.lt_of_le_of_lt Nat.and_le_left hv
  rw [u64_or_nat _ _ ha hb]
  congr 1
  refine eq_of_bits ?_ (putF_lt _ _ _ _ hW) ?_
  · rw [e64] at ha hb ⊢; exact Nat.or_lt_two_pow ha hb
  · intro i hi
    rw [testBit_putF _ _ _ _ (by omega) i hi, Nat.testBit_or, Nat.testBit_and, Nat.testBit_and, testBit_compl _ _ hm hi, testBit_shl _ _ _ hi, testBit_shl _ _ _ hi, testBit_low]
    by_cases c1 : L ≤ i
    · by_cases c2 : i < L + N
      · have c3 : i - L < N ∧ i - L < 64 := by omega
        simp [c1, c2, c3]
      · have c3 : ¬ (i - L < N ∧ i - L < 64) := by omega
        simp [c1, c2, c3]
    · simp [c1]

end Go.Proofs.Ytgedabhobpcghaa.bl
