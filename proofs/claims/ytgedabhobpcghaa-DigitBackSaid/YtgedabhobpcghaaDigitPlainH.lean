/-
  Layer 2, plain: numbers as bytes, as the document makes them. No program is imported.
-/
import Derived.Test.YtgedabhobpcghaaDigitPlainF
namespace Go.Proofs.Ytgedabhobpcghaa.dp
open Go.Proofs.Ytgedabhobpcghaa.bp

theorem sizeK_eq (f n : Nat) : sizeK (f + 1) n = if n = 0 then 0 else sizeK f (n / 256) + 1 := rfl
theorem sizeK_fuel : ∀ (f n : Nat), n < 256 ^ f → sizeK (f + 1) n = sizeK f n := by
  intro f
  induction f with
  | zero => intro n h; simp at h; subst h; rfl
  | succ f ih =>
    intro n h
    rw [sizeK_eq (f + 1) n, sizeK_eq f n]
    by_cases h0 : n = 0
    · rw [if_pos h0, if_pos h0]
    · rw [if_neg h0, if_neg h0, ih (n / 256) (by rw [Nat.pow_succ] at h; omega)]
theorem sizeO_step (n : Nat) (h : n < 18446744073709551616) (h0 : n ≠ 0) : sizeO n = sizeO (n / 256) + 1 := by
  unfold sizeO
  rw [show (8 : Nat) = 7 + 1 from rfl, sizeK, if_neg h0, sizeK_fuel 7 (n / 256)]
  have : (256 : Nat) ^ 7 = 72057594037927936 := by decide
  omega
/-- A number's bytes alone. -/
def beN (n : Nat) : List Int := beB n (sizeO n)
theorem beN_zero : beN 0 = [] := by decide
theorem beN_step (n : Nat) (h : n < 18446744073709551616) (h0 : n ≠ 0) : beN n = beN (n / 256) ++ [((n % 256 : Nat) : Int)] := by
  unfold beN
  rw [sizeO_step n h h0, beB_snoc]
theorem ordL_beN (n : Nat) : ordL n = ((beN n).length : Int) :: beN n := by unfold beN; rw [beB_len]; rfl
/-- How many groups. -/
theorem smaK_size : ∀ (f n : Nat), n < 128 ^ f → 1 ≤ f → n < 128 ^ (smaK f n).length ∧ ((smaK f n).length = 1 ∨ 128 ^ ((smaK f n).length - 1) ≤ n) := by
  intro f
  induction f with
  | zero => intro n _ h; omega
  | succ f ih =>
    intro n h _
    rw [smaK]
    by_cases hlt : n < 128
    · rw [if_pos hlt]; simp; omega
    · rw [if_neg hlt, List.length_cons, Nat.add_sub_cancel]
      have hf : 1 ≤ f := by
        rcases Nat.eq_zero_or_pos f with h1 | h1
        · subst h1; simp at h; omega
        · exact h1
      rw [Nat.pow_succ] at h
      obtain ⟨h1, h2⟩ := ih (n / 128) (by omega) hf
      refine ⟨by rw [Nat.pow_succ]; omega, .inr ?_⟩
      have hp := smaK_pos f (n / 128) hf
      rcases h2 with h2 | h2
      · rw [h2]; simp; omega
      · rw [show (smaK f (n / 128)).length = ((smaK f (n / 128)).length - 1) + 1 from by omega, Nat.pow_succ]
        omega
theorem pow_128 (s : Nat) : (128 : Nat) ^ s = 2 ^ (7 * s) := by rw [Nat.pow_mul]
theorem topW_small (n : Nat) (h : n < 18446744073709551616) : (if (topW n + 7) / 7 ≤ 1 then 1 else (topW n + 7) / 7) = ((smaL n).length : Int) ∧ (smaL n).length ≤ 10 ∧ 1 ≤ (smaL n).length := by
  obtain ⟨h1, h2⟩ := smaK_size 10 n (Nat.lt_of_lt_of_le h (by decide)) (by decide)
  have h3 := smaK_pos 10 n (by decide)
  have h4 := smaK_len 10 n
  have hb := top_bounds (fun i => n.testBit i) 64
  have hn : n < 2 ^ 64 := Nat.lt_of_lt_of_le h (by decide)
  have hl := fun m => top_le n 64 m hn
  unfold topW smaL
  obtain ⟨s, hs⟩ : ∃ s, s = (smaK 10 n).length := ⟨_, rfl⟩
  rw [← hs] at h1 h2 h3 h4 ⊢
  refine ⟨?_, h4, h3⟩
  rw [pow_128] at h1
  have u1 := (hl (7 * s - 1)).2 (by rw [show 7 * s - 1 + 1 = 7 * s from by omega]; exact h1)
  by_cases hs1 : s = 1
  · subst hs1
    rw [if_pos (by omega)]; rfl
  · have h2 : 128 ^ (s - 1) ≤ n := by rcases h2 with h2 | h2 <;> first | omega | exact h2
    rw [pow_128] at h2
    have u2 : ¬ top (fun i => n.testBit i) 64 ≤ ((7 * s - 8 : Nat) : Int) := fun hh => by
      have := (hl (7 * s - 8)).1 hh
      rw [show 7 * s - 8 + 1 = 7 * (s - 1) from by omega] at this
      omega
    rw [if_neg (by omega)]
    omega
end Go.Proofs.Ytgedabhobpcghaa.dp
