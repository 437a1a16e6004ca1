/-
  Layer 2, plain: which bytes come first. No program is imported.
-/
namespace Go.Proofs.Ytapeejndekoicaa.dp
/-- Which come first. -/
def cmpL : List Int → List Int → Int
  | [], [] => 0
  | [], _ :: _ => -1
  | _ :: _, [] => 1
  | x :: xs, y :: ys => if x < y then -1 else if y < x then 1 else cmpL xs ys
def lessL : List Int → List Int → Bool
  | _, [] => false
  | [], _ :: _ => true
  | x :: xs, y :: ys => if x = y then lessL xs ys else decide (x < y)

theorem cmpL_bounds : ∀ xs ys, cmpL xs ys = -1 ∨ cmpL xs ys = 0 ∨ cmpL xs ys = 1
  | [], [] => .inr (.inl rfl)
  | [], _ :: _ => .inl rfl
  | _ :: _, [] => .inr (.inr rfl)
  | x :: xs, y :: ys => by
    rw [cmpL]
    split
    · exact .inl rfl
    · split
      · exact .inr (.inr rfl)
      · exact cmpL_bounds xs ys
theorem cmpL_neg : ∀ xs ys, cmpL ys xs = - cmpL xs ys
  | [], [] => rfl
  | [], _ :: _ => rfl
  | _ :: _, [] => rfl
  | x :: xs, y :: ys => by
    rw [cmpL, cmpL]
    by_cases h1 : x < y
    · rw [if_neg (by omega), if_pos h1, if_pos h1]; rfl
    · by_cases h2 : y < x
      · rw [if_pos h2, if_neg h1, if_pos h2]
      · rw [if_neg h2, if_neg h1, if_neg h1, if_neg h2]; exact cmpL_neg xs ys
theorem cmpL_zero : ∀ xs ys, cmpL xs ys = 0 ↔ xs = ys
  | [], [] => by simp [cmpL]
  | [], _ :: _ => by simp [cmpL]
  | _ :: _, [] => by simp [cmpL]
  | x :: xs, y :: ys => by
    rw [cmpL, List.cons.injEq]
    split
    · constructor
      · intro h; omega
      · intro h; omega
    · split
      · constructor
        · intro h; omega
        · intro h; omega
      · rw [cmpL_zero xs ys]
        constructor
        · intro h; exact ⟨by omega, h⟩
        · intro h; exact h.2
theorem lessL_cmp : ∀ xs ys, lessL xs ys = decide (cmpL xs ys = -1)
  | [], [] => by simp [lessL, cmpL]
  | [], _ :: _ => by simp [lessL, cmpL]
  | _ :: _, [] => by simp [lessL, cmpL]
  | x :: xs, y :: ys => by
    rw [lessL, cmpL]
    by_cases h : x = y
    · rw [if_pos h, if_neg (by omega), if_neg (by omega)]; exact lessL_cmp xs ys
    · rw [if_neg h]
      by_cases h1 : x < y
      · simp [h1]
      · rw [if_neg h1, if_pos (by omega)]; simp [h1]
/-- The same bytes? -/
theorem same_less (xs ys : List Int) : (!lessL xs ys && !lessL ys xs) = decide (xs = ys) := by
  have hn := cmpL_neg xs ys
  have hb := cmpL_bounds xs ys
  have hz := cmpL_zero xs ys
  rw [lessL_cmp, lessL_cmp, hn]
  rcases hb with h | h | h
  · have : xs ≠ ys := fun e => by rw [hz.2 e] at h; omega
    simp [h, this]
  · rw [h]
    simp [hz.1 h]
  · have : xs ≠ ys := fun e => by rw [hz.2 e] at h; omega
    simp [h, this]
end Go.Proofs.Ytapeejndekoicaa.dp
