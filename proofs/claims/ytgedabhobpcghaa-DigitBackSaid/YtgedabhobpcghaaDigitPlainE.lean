/-
  Layer 2, plain: how many bytes a number has, by its highest bit. No program is imported.
-/
import Derived.Test.YtgedabhobpcghaaDigitPlainD
import Derived.Test.YtgedabhobpcghaaBitsPlainB
namespace Go.Proofs.Ytgedabhobpcghaa.dp
open Go.Proofs.Ytgedabhobpcghaa.bp

theorem up (n P : Nat) (h : n / 256 < P) : n < P * 256 := by omega
theorem dn (n P : Nat) (h : n < P * 256) : n / 256 < P := by omega
theorem lo (n P : Nat) (h : P ≤ n / 256) : P * 256 ≤ n := by omega
theorem sizeK_spec (f : Nat) : ∀ n, n < 256 ^ f → n < 256 ^ sizeK f n ∧ (sizeK f n = 0 ∨ 256 ^ (sizeK f n - 1) ≤ n) ∧ sizeK f n ≤ f := by
  induction f with
  | zero => intro n h; exact ⟨h, .inl rfl, Nat.le_refl _⟩
  | succ f ih =>
    intro n h
    rw [sizeK]
    split
    · rename_i h0; subst h0; exact ⟨by decide, .inl rfl, by omega⟩
    · rw [Nat.pow_succ] at h
      obtain ⟨h1, h2, h3⟩ := ih (n / 256) (dn _ _ h)
      refine ⟨by rw [Nat.pow_succ]; exact up _ _ h1, .inr ?_, by omega⟩
      rw [Nat.add_sub_cancel]
      rcases h2 with h2 | h2
      · rw [h2]; simp; omega
      · rcases Nat.eq_zero_or_pos (sizeK f (n / 256)) with h4 | h4
        · rw [h4]; simp; omega
        · have e : sizeK f (n / 256) = (sizeK f (n / 256) - 1) + 1 := by omega
          rw [e, Nat.pow_succ]
          exact lo _ _ h2
theorem pow_256 (s : Nat) : (256 : Nat) ^ s = 2 ^ (8 * s) := by rw [Nat.pow_mul]
theorem topW_size (n : Nat) (h : n < 18446744073709551616) : (topW n + 8) / 8 = (sizeO n : Int) ∧ sizeO n ≤ 8 := by
  obtain ⟨h1, h2, h3⟩ := sizeK_spec 8 n (Nat.lt_of_lt_of_le h (by decide))
  have hb := top_bounds (fun i => n.testBit i) 64
  have hn : n < 2 ^ 64 := Nat.lt_of_lt_of_le h (by decide)
  have hl := fun m => top_le n 64 m hn
  unfold topW sizeO
  obtain ⟨s, hs⟩ : ∃ s, s = sizeK 8 n := ⟨_, rfl⟩
  rw [← hs] at h1 h2 h3 ⊢
  refine ⟨?_, h3⟩
  rw [pow_256] at h1
  rcases Nat.eq_zero_or_pos s with h0 | h0
  · subst h0
    have : n = 0 := by simpa using h1
    subst this
    decide
  · have h2 : 256 ^ (s - 1) ≤ n := by rcases h2 with h2 | h2 <;> first | omega | exact h2
    rw [pow_256] at h2
    have u1 := (hl (8 * s - 1)).2 (by rw [show 8 * s - 1 + 1 = 8 * s from by omega]; exact h1)
    rcases Nat.lt_or_ge 1 s with h4 | h4
    · have u2 : ¬ top (fun i => n.testBit i) 64 ≤ ((8 * s - 9 : Nat) : Int) := fun hh => by
        have := (hl (8 * s - 9)).1 hh
        rw [show 8 * s - 9 + 1 = 8 * (s - 1) from by omega] at this
        omega
      omega
    · have e : s = 1 := by omega
      subst e
      have h5 : 1 ≤ n := by simpa using h2
      have u2 : top (fun i => n.testBit i) 64 ≠ -1 := fun hh => by
        have := (hl 0).1 (by rw [hh]; decide)
        have : n = 1 := by simp at this; omega
        subst this
        revert hh
        decide
      omega
end Go.Proofs.Ytgedabhobpcghaa.dp
