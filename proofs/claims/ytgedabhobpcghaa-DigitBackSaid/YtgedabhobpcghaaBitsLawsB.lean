/-
  What the walk leaves of bits' operations, in plain numbers: signed numbers, turned words, ones.
-/
import Derived.Test.YtgedabhobpcghaaBitsLaws
import Derived.Test.YtgedabhobpcghaaBitsPlainB
import Derived.WalkKit
namespace Go.Proofs.Ytgedabhobpcghaa.bl
open Go.Proofs.Ytgedabhobpcghaa.bp Go.RowKit

theorem xor_ones (b : Nat) (hb : b < 18446744073709551616) : b ^^^ 18446744073709551615 = 18446744073709551615 - b := by
  refine eq_of_bits ?_ (by omega) fun i hi => ?_
  · have e : (18446744073709551616 : Nat) = 2 ^ 64 := by decide
    rw [e] at hb ⊢
    exact Nat.xor_lt_two_pow hb (by omega)
  · rw [Nat.testBit_xor, testBit_compl _ _ hb hi, show (18446744073709551615 : Nat) = 2 ^ 64 - 1 from by decide, Nat.testBit_two_pow_sub_one, decide_eq_true hi, Bool.xor_true]

theorem xor_high (b : Nat) (hb : b < 18446744073709551616) : b ^^^ 9223372036854775808 = if b < 9223372036854775808 then b + 9223372036854775808 else b - 9223372036854775808 := by
  have e64 : (18446744073709551616 : Nat) = 2 ^ 64 := by decide
  have e63 : (9223372036854775808 : Nat) = 2 ^ 63 := by decide
  refine eq_of_bits ?_ (by split <;> omega) fun i hi => ?_
  · rw [e64] at hb ⊢
    exact Nat.xor_lt_two_pow hb (by decide)
  · rw [Nat.testBit_xor, e63, Nat.testBit_two_pow]
    have key : ∀ c : Nat, c < 2 ^ 63 → (c.testBit i ^^ decide (63 = i)) = (2 ^ 63 + c).testBit i := by
      intro c hc
      by_cases h : i = 63
      · subst h
        rw [Nat.testBit_two_pow_add_eq]
        simp
      · rw [Nat.testBit_two_pow_add_gt (by omega)]
        simp [Ne.symm h]
    by_cases hc : b < 2 ^ 63
    · rw [if_pos hc, key b hc, Nat.add_comm]
    · rw [if_neg hc]
      have h2 := key (b - 2 ^ 63) (by omega)
      have h3 : 2 ^ 63 + (b - 2 ^ 63) = b := by omega
      rw [h3] at h2
      rw [← h2]
      simp

theorem zig_eq (n : Int) (h1 : -9223372036854775808 ≤ n) (h2 : n ≤ 9223372036854775807) :
    bits BinOp.xor IntKind.u64 (IntKind.u64.wrap (IntKind.u64.wrap n * 2)) (IntKind.u64.wrap (n / 9223372036854775808)) = ((zig n : Nat) : Int) := by
  rw [IntKind.wrap_u64, IntKind.wrap_u64, IntKind.wrap_u64]
  by_cases h : 0 ≤ n
  · have e1 : n % 18446744073709551616 * 2 % 18446744073709551616 = ((zig n : Nat) : Int) := by unfold zig; rw [if_pos h]; omega
    have e2 : n / 9223372036854775808 % 18446744073709551616 = ((0 : Nat) : Int) := by omega
    rw [e1, e2, bits_xor_u64_nat _ _ (zig_lt n h1 h2) (by decide), Nat.xor_zero]
  · have e1 : n % 18446744073709551616 * 2 % 18446744073709551616 = ((18446744073709551615 - zig n : Nat) : Int) := by unfold zig; rw [if_neg h]; omega
    have e2 : n / 9223372036854775808 % 18446744073709551616 = ((18446744073709551615 : Nat) : Int) := by omega
    have := zig_lt n h1 h2
    rw [e1, e2, bits_xor_u64_nat _ _ (by omega) (by decide), xor_ones _ (by omega)]
    congr 1
    omega

theorem and1 (x : Int) (h₀ : 0 ≤ x) (h₁ : x ≤ 18446744073709551615) : bits .and .u64 x 1 = x % 2 := by
  obtain ⟨w, rfl⟩ := Int.eq_ofNat_of_zero_le h₀
  rw [show (1 : Int) = ((1 : Nat) : Int) from rfl, u64_and_nat _ _ (by omega) (by decide), nat_mask1]
  omega

theorem zag_eq (n : Int) (h1 : 0 ≤ n) (h2 : n ≤ 18446744073709551615) :
    bits BinOp.xor IntKind.i64 (n / 2) (wrap64 (-wrap64 (bits BinOp.and IntKind.u64 n 1))) = zag n.toNat := by
  obtain ⟨w, rfl⟩ := Int.eq_ofNat_of_zero_le h1
  rw [and1 _ h1 h2, Int.toNat_natCast]
  have hw : wrap64 (((w : Int)) % 2) = ((w : Int)) % 2 := by unfold wrap64; omega
  rw [hw]
  show IntKind.i64.wrap ((BitVec.ofInt 64 ((w : Int) / 2) ^^^ BitVec.ofInt 64 (wrap64 (-((w : Int) % 2)))).toNat : Int) = _
  have e1 : (BitVec.ofInt 64 ((w : Int) / 2)).toNat = w / 2 := by
    rw [show ((w : Int) / 2) = ((w / 2 : Nat) : Int) from by omega, BitVec.ofInt_natCast, BitVec.toNat_ofNat]
    exact Nat.mod_eq_of_lt (by omega)
  rw [BitVec.toNat_xor, e1, IntKind.wrap_i64]
  by_cases h : w % 2 = 0
  · have e2 : wrap64 (-((w : Int) % 2)) = 0 := by unfold wrap64; omega
    rw [e2]
    have e3 : (BitVec.ofInt 64 0).toNat = 0 := by decide
    rw [e3, Nat.xor_zero]
    unfold zag
    rw [if_pos h]
    omega
  · have e2 : wrap64 (-((w : Int) % 2)) = -1 := by unfold wrap64; omega
    rw [e2]
    have e3 : (BitVec.ofInt 64 (-1)).toNat = 18446744073709551615 := by decide
    rw [e3, xor_ones _ (by omega)]
    unfold zag
    rw [if_neg h]
    omega

theorem flip_eq (n : Int) (h1 : -9223372036854775808 ≤ n) (h2 : n ≤ 9223372036854775807) :
    bits BinOp.xor IntKind.u64 (IntKind.u64.wrap n) 9223372036854775808 = ((flipW n : Nat) : Int) := by
  rw [IntKind.wrap_u64]
  have e1 : n % 18446744073709551616 = (((n % 18446744073709551616).toNat : Nat) : Int) := by omega
  rw [e1, show (9223372036854775808 : Int) = ((9223372036854775808 : Nat) : Int) from rfl, bits_xor_u64_nat _ _ (by omega) (by decide), xor_high _ (by omega)]
  unfold flipW
  congr 1
  split <;> omega

theorem unflip_eq (n : Int) (h1 : 0 ≤ n) (h2 : n ≤ 18446744073709551615) :
    wrap64 (bits BinOp.xor IntKind.u64 n 9223372036854775808) = unflipW n.toNat := by
  obtain ⟨w, rfl⟩ := Int.eq_ofNat_of_zero_le h1
  rw [show (9223372036854775808 : Int) = ((9223372036854775808 : Nat) : Int) from rfl, bits_xor_u64_nat _ _ (by omega) (by decide), xor_high _ (by omega), Int.toNat_natCast]
  unfold unflipW wrap64
  split <;> omega

theorem pow_split (k : Nat) (h : k ≤ 64) : 2 ^ k * 2 ^ (64 - k) = 18446744073709551616 := by
  rw [← Nat.pow_add, show k + (64 - k) = 64 from by omega]

theorem mod_shl (x n : Nat) (h : n ≤ 64) : x * 2 ^ (64 - n) % 18446744073709551616 = x % 2 ^ n * 2 ^ (64 - n) := by
  rw [← pow_split n h, Nat.mul_mod_mul_right]

theorem mod_high (x n : Nat) (hn : 1 ≤ n) : x % 2 ^ n = (if x.testBit (n - 1) = true then 2 ^ (n - 1) else 0) + x % 2 ^ (n - 1) := by
  obtain ⟨k, rfl⟩ : ∃ k, n = k + 1 := ⟨n - 1, by omega⟩
  rw [Nat.mod_pow_succ, Nat.add_sub_cancel, Nat.testBit_eq_decide_div_mod_eq]
  have hm : x / 2 ^ k % 2 < 2 := Nat.mod_lt _ (by omega)
  by_cases h : x / 2 ^ k % 2 = 1
  · simp [h]; omega
  · have h0 : x / 2 ^ k % 2 = 0 := by omega
    simp [h0]

theorem sign_mid (x n : Nat) (h1 : 1 ≤ n) (h2 : n ≤ 64) :
    wrap64 (IntKind.u64.wrap ((x : Int) * 2 ^ (64 - n))) / 2 ^ (64 - n) = sign x n := by
  rw [shl_nat, mod_shl _ _ h2]
  have hp := Nat.two_pow_pos (64 - n)
  have hs := pow_split n h2
  have hh : 2 ^ n = 2 * 2 ^ (n - 1) := by
    obtain ⟨k, rfl⟩ : ∃ k, n = k + 1 := ⟨n - 1, by omega⟩
    rw [Nat.pow_succ, Nat.add_sub_cancel]; omega
  have hm := mod_high x n h1
  have hl := Nat.mod_lt x (Nat.two_pow_pos (n - 1))
  unfold sign
  rw [if_neg (by omega), Int.toNat_natCast, show min n 64 = n from by omega]
  rw [show ((2 : Int) ^ (n - 1)) = ((2 ^ (n - 1) : Nat) : Int) from by simp, show ((2 : Int) ^ (64 - n)) = ((2 ^ (64 - n) : Nat) : Int) from by simp]
  generalize 2 ^ (n - 1) = H at *
  generalize 2 ^ (64 - n) = P at *
  rw [hh] at hs
  have hs2 : H * P = 9223372036854775808 := by
    have : 2 * H * P = 2 * (H * P) := Nat.mul_assoc _ _ _
    omega
  by_cases hb : x.testBit (n - 1) = true
  · rw [if_pos hb] at hm ⊢
    rw [hm]
    generalize x % H = m at *
    have e1 : (H + m) * P = 9223372036854775808 + m * P := by rw [Nat.add_mul, hs2]
    have e2 : m * P < 9223372036854775808 := by rw [← hs2]; exact Nat.mul_lt_mul_of_pos_right hl hp
    have e3 : wrap64 (((H + m) * P : Nat) : Int) = ((m : Int) - H) * P := by
      rw [Int.sub_mul, ← Int.natCast_mul, ← Int.natCast_mul, hs2, e1]
      unfold wrap64
      omega
    rw [e3, Int.mul_ediv_cancel _ (by omega)]
  · rw [if_neg hb] at hm ⊢
    rw [hm]
    generalize x % H = m at *
    have e2 : m * P < 9223372036854775808 := by rw [← hs2]; exact Nat.mul_lt_mul_of_pos_right hl hp
    have e3 : wrap64 (((0 + m) * P : Nat) : Int) = (m : Int) * P := by
      rw [Nat.zero_add, ← Int.natCast_mul]
      unfold wrap64
      omega
    rw [e3, Int.mul_ediv_cancel _ (by omega)]

theorem sign_top (x : Nat) (n : Int) (hx : x < 18446744073709551616) (h2 : 64 ≤ n) : wrap64 (x : Int) = sign x n := by
  unfold sign
  rw [if_neg (by omega), show min n.toNat 64 = 64 from by omega]
  have hm := mod_high x 64 (by omega)
  have hl := Nat.mod_lt x (Nat.two_pow_pos (64 - 1))
  have hx2 : x % 2 ^ 64 = x := Nat.mod_eq_of_lt (by simpa using hx)
  rw [hx2] at hm
  have e : (2 : Nat) ^ (64 - 1) = 9223372036854775808 := by decide
  have e' : (2 : Int) ^ (64 - 1) = 9223372036854775808 := by decide
  rw [e'] 
  rw [e] at hm hl ⊢
  generalize x % 9223372036854775808 = m at *
  split at hm
  · rename_i hb; rw [if_pos hb]; unfold wrap64; omega
  · rename_i hb; rw [if_neg hb]; unfold wrap64; omega

theorem turn_eq (x : Int) (b : Nat) (w1 : 0 ≤ x) (w2 : x ≤ 18446744073709551615) (hb : b < 64) :
    bits BinOp.or IntKind.u64 (IntKind.u64.wrap (x * 2 ^ b)) (x / 2 ^ (64 - b)) = ((turn x.toNat b : Nat) : Int) := by
  obtain ⟨w, rfl⟩ := Int.eq_ofNat_of_zero_le w1
  rw [shl_nat, two_pow_cast, ← Int.natCast_ediv, Int.toNat_natCast]
  have ha : w * 2 ^ b % 18446744073709551616 < 18446744073709551616 := Nat.mod_lt _ (by decide)
  have hd : w / 2 ^ (64 - b) < 18446744073709551616 := Nat.lt_of_le_of_lt (Nat.div_le_self _ _) (by omega)
  rw [u64_or_nat _ _ ha hd]
  congr 1
  have e64 : (18446744073709551616 : Nat) = 2 ^ 64 := by decide
  refine eq_of_bits (by rw [e64] at ha hd ⊢; exact Nat.or_lt_two_pow ha hd) (turn_lt _ _) fun i hi => ?_
  unfold turn
  rw [Nat.testBit_or, testBit_shl _ _ _ hi, Nat.testBit_div_two_pow, testBit_tab _ _ hi]
  by_cases h : b ≤ i
  · have h1 : w.testBit (i + (64 - b)) = false := testBit_big w _ (by omega) (by omega)
    rw [h1, decide_eq_true h, Bool.or_false, Bool.true_and]
    congr 1
    omega
  · rw [decide_eq_false h, Bool.false_and, Bool.false_or]
    congr 1
    omega

def shrN (w k : Nat) : Nat := w / 2 ^ (8 * k)
theorem shrN_zero (w : Nat) : shrN w 0 = w := by simp [shrN]
theorem shrN_succ (w k : Nat) : shrN w (k + 1) = shrN w k / 256 := by
  unfold shrN
  rw [Nat.div_div_eq_div_mul, show 8 * (k + 1) = 8 * k + 8 from by omega, Nat.pow_add]
theorem shrN_lt (w k : Nat) (h : w < 18446744073709551616) : shrN w k < 18446744073709551616 := Nat.lt_of_le_of_lt (Nat.div_le_self _ _) h

theorem swp_step (w k : Nat) (h : k < 8) : bits BinOp.or IntKind.u64 (((swp w k : Nat) : Int) * 256) (((shrN w k : Nat) : Int) % 256) = ((swp w (k + 1) : Nat) : Int) := by
  have h1 := swp_lt w k
  have h2 : 2 ^ (8 * k) ≤ 2 ^ 56 := Nat.pow_le_pow_right (by omega) (by omega)
  have e56 : (2 : Nat) ^ 56 = 72057594037927936 := by decide
  have e1 : ((swp w k : Nat) : Int) * 256 = ((swp w k * 256 : Nat) : Int) := by omega
  have e2 : ((shrN w k : Nat) : Int) % 256 = ((shrN w k % 256 : Nat) : Int) := by omega
  rw [e1, e2, u64_or_nat _ _ (by omega) (by omega)]
  congr 1
  simp only [swp]
  rw [nat_join 8 _ _ (by omega) (by omega)]
  rfl

theorem swp_small (w k : Nat) (h : k < 8) : swp w k < 72057594037927936 := by
  have h1 := swp_lt w k
  have h2 : 2 ^ (8 * k) ≤ 2 ^ 56 := Nat.pow_le_pow_right (by omega) (by omega)
  have e56 : (2 : Nat) ^ 56 = 72057594037927936 := by decide
  omega

theorem and_pred (v : Nat) (h : v < 18446744073709551616) (h0 : v ≠ 0) : bits BinOp.and IntKind.u64 (v : Int) ((v : Int) - 1) = ((v &&& (v - 1) : Nat) : Int) := by
  have e : ((v : Int) - 1) = ((v - 1 : Nat) : Int) := by omega
  rw [e, u64_and_nat _ _ h (by omega)]

theorem and_pred_lt (v : Nat) (h0 : v ≠ 0) : v &&& (v - 1) < v := Nat.lt_of_le_of_lt Nat.and_le_right (by omega)

theorem bit_test (w k : Nat) (h : w < 18446744073709551616) : (bits BinOp.and IntKind.u64 ((w : Int) / 2 ^ k) 1 == 1) = w.testBit k := by
  rw [two_pow_cast, ← Int.natCast_ediv, and1 _ (Int.natCast_nonneg _) (by have := Nat.div_le_self w (2 ^ k); omega)]
  rw [Nat.testBit_eq_decide_div_mod_eq, Bool.eq_iff_iff, beq_iff_eq, decide_eq_true_eq]
  generalize w / 2 ^ k = q
  omega

theorem and_neg (x : Int) (w1 : 0 ≤ x) (w2 : x ≤ 18446744073709551615) : bits BinOp.and IntKind.u64 x (IntKind.u64.wrap (-x)) = ((x.toNat &&& (18446744073709551616 - x.toNat) : Nat) : Int) := by
  obtain ⟨w, rfl⟩ := Int.eq_ofNat_of_zero_le w1
  rw [IntKind.wrap_u64, Int.toNat_natCast]
  by_cases h : w = 0
  · subst h; decide
  · have e : -(w : Int) % 18446744073709551616 = ((18446744073709551616 - w : Nat) : Int) := by omega
    rw [e, u64_and_nat _ _ (by omega) (by omega)]

theorem bottom_eq (w : Nat) (h : w < 18446744073709551616) : topW (w &&& (18446744073709551616 - w)) = botW w := by
  by_cases h0 : w = 0
  · subst h0; decide
  · exact botW_eq w h h0

end Go.Proofs.Ytgedabhobpcghaa.bl
