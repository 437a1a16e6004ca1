/-
  Layer 2, plain: what is written as small bytes, or as bytes, is read. No program is imported.
-/
import Derived.Test.YtapeejndekoicaaDigitPlainB
import Derived.Test.YtapeejndekoicaaDigitPlainC
import Derived.Test.YtapeejndekoicaaDigitPlainD
namespace Go.Proofs.Ytapeejndekoicaa.dp
theorem beF_beB (n : Nat) : ∀ k (m : Nat), beF (m : Int) (beB n k) = ((m * 256 ^ k + n % 256 ^ k : Nat) : Int) := by
  intro k
  induction k with
  | zero => intro m; simp [beB, beF, Nat.mod_one]
  | succ k ih =>
    intro m
    rw [beB, beF, show (m : Int) * 256 + ((n / 256 ^ k % 256 : Nat) : Int) = ((m * 256 + n / 256 ^ k % 256 : Nat) : Int) from by omega, ih]
    rw [Nat.pow_succ, Nat.mod_mul, Nat.add_mul, Nat.mul_assoc, Nat.mul_comm 256 (256 ^ k), Nat.mul_comm (n / 256 ^ k % 256), Nat.add_assoc, Nat.add_comm (256 ^ k * _)]
theorem pw_cast (i : Nat) : pw i = ((128 ^ i : Nat) : Int) := by unfold pw; simp
theorem mul_pw (m i : Nat) : ((m : Int)) * pw i = ((m * 128 ^ i : Nat) : Int) := by rw [pw_cast]; simp
theorem rsF_sma : ∀ (f m i : Nat) (acc : Int) (t : List Int), 1 ≤ f → i + f = 10 → m < 128 ^ f → m * 128 ^ i < 18446744073709551616 → (0 < i → 0 < m) →
    rsF (smaK f m ++ t) i acc = (acc + m * pw i, (i : Int) + ((smaK f m).length : Int), 0) := by
  intro f
  induction f with
  | zero => intro m i acc t h; omega
  | succ f ih =>
    intro m i acc t _ hi hm hb h0
    by_cases hlt : m < 128
    · rw [smaK, if_pos hlt, List.singleton_append, rsF, if_neg, if_pos (by omega)]
      · simp
      · rintro (⟨h9, h1⟩ | ⟨h1, h2⟩)
        · subst h9
          rw [show (128 : Nat) ^ 9 = 9223372036854775808 from by decide] at hb
          omega
        · have := h0 h1; omega
    · have hf : 1 ≤ f := by
        rcases Nat.eq_zero_or_pos f with h | h
        · subst h; simp at hm; omega
        · exact h
      have hp : 128 ^ (i + 1) = 128 ^ i * 128 := Nat.pow_succ ..
      have hd : m / 128 * 128 ^ (i + 1) ≤ m * 128 ^ i := by
        rw [hp, Nat.mul_comm (128 ^ i), ← Nat.mul_assoc]
        exact Nat.mul_le_mul_right _ (by omega)
      rw [smaK, if_neg hlt, List.cons_append, rsF, if_neg (by omega), if_neg (by omega), ih (m / 128) (i + 1) _ t hf (by omega) (by rw [Nat.pow_succ] at hm; omega) (by omega) (by omega)]
      have e : acc + (((m % 128 + 128 : Nat) : Int) - 128) * pw i + ((m / 128 : Nat) : Int) * pw (i + 1) = acc + (m : Int) * pw i := by
        rw [pw_succ, show (((m % 128 + 128 : Nat) : Int) - 128) = ((m % 128 : Nat) : Int) from by omega, mul_pw, mul_pw, Int.mul_comm (pw i) 128, ← Int.mul_assoc, show ((m / 128 : Nat) : Int) * 128 = ((m / 128 * 128 : Nat) : Int) from by omega, mul_pw]
        have : m % 128 * 128 ^ i + m / 128 * 128 * 128 ^ i = m * 128 ^ i := by rw [← Nat.add_mul]; congr 1; omega
        omega
      rw [e]
      simp
      omega
theorem readS_smaL (n : Nat) (h : n < 18446744073709551616) (t : List Int) : readS (smaL n ++ t) = ((n : Int), ((smaL n).length : Int), 0) := by
  unfold readS smaL
  rw [rsF_sma 10 n 0 0 t (by decide) rfl (Nat.lt_of_lt_of_le h (by decide)) (by omega) (by omega)]
  simp [pw]
end Go.Proofs.Ytapeejndekoicaa.dp
