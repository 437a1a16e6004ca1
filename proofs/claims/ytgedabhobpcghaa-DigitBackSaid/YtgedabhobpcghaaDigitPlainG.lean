/-
  Layer 2, plain: ordered bytes come in the order of their numbers. No program is imported.
-/
import Derived.Test.YtgedabhobpcghaaDigitPlain
import Derived.Test.YtgedabhobpcghaaDigitPlainF
namespace Go.Proofs.Ytgedabhobpcghaa.dp

theorem cmpL_beB (a b : Nat) (s t : List Int) : ∀ k, cmpL (beB a k ++ s) (beB b k ++ t) = if a % 256 ^ k < b % 256 ^ k then -1 else if b % 256 ^ k < a % 256 ^ k then 1 else cmpL s t := by
  intro k
  induction k with
  | zero => simp [beB, Nat.mod_one]
  | succ k ih =>
    have hp : 0 < 256 ^ k := Nat.pow_pos (by decide)
    have ra := Nat.mod_lt a hp
    have rb := Nat.mod_lt b hp
    rw [beB, beB, List.cons_append, List.cons_append, cmpL, ih, Nat.pow_succ, Nat.mod_mul, Nat.mod_mul]
    generalize a / 256 ^ k % 256 = x
    generalize b / 256 ^ k % 256 = y
    generalize a % 256 ^ k = p at *
    generalize b % 256 ^ k = q at *
    generalize 256 ^ k = P at *
    rcases Nat.lt_trichotomy x y with h | h | h
    · have : P * x + P ≤ P * y := by rw [← Nat.mul_succ]; exact Nat.mul_le_mul_left _ h
      rw [if_pos (by omega), if_pos (by omega)]
    · subst h
      rw [if_neg (by omega), if_neg (by omega)]
      by_cases h1 : p < q
      · rw [if_pos h1, if_pos (by omega)]
      · by_cases h2 : q < p
        · rw [if_neg h1, if_pos h2, if_neg (by omega), if_pos (by omega)]
        · rw [if_neg h1, if_neg h2, if_neg (by omega), if_neg (by omega)]
    · have : P * y + P ≤ P * x := by rw [← Nat.mul_succ]; exact Nat.mul_le_mul_left _ h
      rw [if_neg (by omega), if_pos (by omega), if_neg (by omega), if_pos (by omega)]
theorem size_mono (a b : Nat) (ha : a < 18446744073709551616) (hb : b < 18446744073709551616) (h : sizeO a < sizeO b) : a < b := by
  obtain ⟨k1, _, _⟩ := sizeO_spec a ha
  obtain ⟨_, j2, _⟩ := sizeO_spec b hb
  have : 256 ^ sizeO a ≤ 256 ^ (sizeO b - 1) := Nat.pow_le_pow_right (by decide) (by omega)
  omega
theorem cmpL_ordL (a b : Nat) (ha : a < 18446744073709551616) (hb : b < 18446744073709551616) (s t : List Int) : cmpL (ordL a ++ s) (ordL b ++ t) = if a < b then -1 else if b < a then 1 else cmpL s t := by
  unfold ordL
  rw [List.cons_append, List.cons_append, cmpL]
  rcases Nat.lt_trichotomy (sizeO a) (sizeO b) with h | h | h
  · rw [if_pos (by omega), if_pos (size_mono a b ha hb h)]
  · rw [if_neg (by omega), if_neg (by omega), ← h, cmpL_beB]
    obtain ⟨k1, _, _⟩ := sizeO_spec a ha
    obtain ⟨j1, _, _⟩ := sizeO_spec b hb
    rw [← h] at j1
    rw [Nat.mod_eq_of_lt k1, Nat.mod_eq_of_lt j1]
  · have := size_mono b a hb ha h
    rw [if_neg (by omega), if_pos (by omega), if_neg (by omega), if_pos (by omega)]
/-- None begins another one's. -/
theorem ordL_prefix (a b : Nat) (h : ordL a = (ordL b).take (ordL a).length) : (ordL a).length = (ordL b).length := by
  unfold ordL at h ⊢
  rw [List.length_cons, List.take_succ_cons] at h
  injection h with h1 h2
  have : sizeO a = sizeO b := by omega
  rw [List.length_cons, List.length_cons, beB_len, beB_len, this]
/-- The first unlike numbers of two rows. -/
def firstU : List Int → List Int → Int
  | x :: xs, y :: ys => if x < y then -1 else if y < x then 1 else firstU xs ys
  | _, _ => 0
def ordF (l : List Int) : List Int := l.flatMap fun v => ordL v.toNat
theorem cmpL_ordF : ∀ (l m : List Int), l.length = m.length → (∀ v ∈ l, 0 ≤ v ∧ v ≤ 18446744073709551615) → (∀ v ∈ m, 0 ≤ v ∧ v ≤ 18446744073709551615) → cmpL (ordF l) (ordF m) = firstU l m
  | [], [], _, _, _ => rfl
  | [], _ :: _, h, _, _ => by simp at h
  | _ :: _, [], h, _, _ => by simp at h
  | x :: xs, y :: ys, h, hl, hm => by
    have e1 : ordF (x :: xs) = ordL x.toNat ++ ordF xs := by simp [ordF]
    have e2 : ordF (y :: ys) = ordL y.toNat ++ ordF ys := by simp [ordF]
    have hx := hl x (by simp)
    have hy := hm y (by simp)
    have ih := cmpL_ordF xs ys (by simpa using h) (fun v hv => hl v (by simp [hv])) (fun v hv => hm v (by simp [hv]))
    rw [e1, e2, cmpL_ordL _ _ (by omega) (by omega), ih, firstU]
    by_cases h1 : x < y
    · rw [if_pos (by omega), if_pos h1]
    · by_cases h2 : y < x
      · rw [if_neg (by omega), if_pos (by omega), if_neg h1, if_pos h2]
      · rw [if_neg (by omega), if_neg (by omega), if_neg h1, if_neg h2]
end Go.Proofs.Ytgedabhobpcghaa.dp
