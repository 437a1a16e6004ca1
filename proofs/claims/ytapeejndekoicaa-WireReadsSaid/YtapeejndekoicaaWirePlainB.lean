/-
  Layer 3, plain: what a reader finds. No program is imported.
-/
import Derived.Test.YtapeejndekoicaaDigitPlainB
import Derived.Test.YtapeejndekoicaaDigitPlainC
namespace Go.Proofs.Ytapeejndekoicaa.wp
open Go.Proofs.Ytapeejndekoicaa.dp
/-- A number of so many bytes: its value, how many bytes, the error. -/
def fixF (s : Nat) (l : List Int) : Int × Int × Int := if l.length < s then (0, 0, 4) else (beF 0 (l.take s), (s : Int), 0)
def numF (most : Int) (l : List Int) : Int × Int × Int :=
  if (readS l).2.2 = 0 then (if most < (readS l).1 then (0, 0, 5) else ((readS l).1, (readS l).2.1, 0)) else (0, 0, (readS l).2.2)
def txtF (most : Int) (l : List Int) : List Int × Int × Int :=
  if (readS l).2.2 = 0 then
    (if (if most < 0 then 0 else most) < (readS l).1 then ([], 0, 2)
     else if (l.length : Int) - (readS l).2.1 < (readS l).1 then ([], 0, 4)
     else ((l.drop (readS l).2.1.toNat).take (readS l).1.toNat, (readS l).2.1 + (readS l).1, 0))
  else ([], 0, (readS l).2.2)
/-- A reader that has met no error goes on by what was found. -/
def tkF {α : Type} (z : α) (r : α × Int × Int) (l : List Int) (e : Int) : α × List Int × Int := if e = 0 then (r.1, l.drop r.2.1.toNat, r.2.2) else (z, l, e)
theorem rsF_bounds : ∀ (l : List Int) (i : Nat) (n : Int), (∀ v ∈ l, 0 ≤ v ∧ v ≤ 255) → i ≤ 9 → 0 ≤ n → n < pw i → (rsF l i n).2.2 = 0 → 0 ≤ (rsF l i n).1 ∧ (rsF l i n).1 < 18446744073709551616 ∧ (i : Int) + 1 ≤ (rsF l i n).2.1 ∧ (rsF l i n).2.1 ≤ i + l.length := by
  intro l
  induction l with
  | nil => intro i n _ _ _ _ h; simp [rsF] at h
  | cons x xs ih =>
    intro i n hB hi h0 h1 h
    have hx := hB x (by simp)
    rw [rsF] at h ⊢
    split
    · rename_i g; rw [if_pos g] at h; simp at h
    · rename_i g
      rw [if_neg g] at h
      have hpp := pw_pos i
      split
      · rename_i g2
        simp only
        refine ⟨by have := Int.mul_nonneg hx.1 (by omega : 0 ≤ pw i); omega, ?_, Int.le_refl _, by simp; omega⟩
        by_cases h9 : i = 9
        · subst h9
          have hx1 : x ≤ 1 := by omega
          have : x * pw 9 ≤ 1 * pw 9 := Int.mul_le_mul_of_nonneg_right hx1 (by omega)
          rw [pw_nine] at *
          omega
        · have hpl := pw_le i (by omega)
          have : x * pw i ≤ 127 * pw i := Int.mul_le_mul_of_nonneg_right (by omega) (by omega)
          omega
      · rename_i g2
        rw [if_neg g2] at h
        by_cases h9 : i = 9
        · omega
        · have hm : 0 ≤ (x - 128) * pw i := Int.mul_nonneg (by omega) (by omega)
          have hm2 : (x - 128) * pw i ≤ 127 * pw i := Int.mul_le_mul_of_nonneg_right (by omega) (by omega)
          obtain ⟨k1, k2, k3, k4⟩ := ih (i + 1) (n + (x - 128) * pw i) (fun v hv => hB v (by simp [hv])) (by omega) (by omega) (by rw [pw_succ]; omega) h
          exact ⟨k1, k2, by omega, by simp; omega⟩
theorem readS_bounds (l : List Int) (hB : ∀ v ∈ l, 0 ≤ v ∧ v ≤ 255) (h : (readS l).2.2 = 0) : 0 ≤ (readS l).1 ∧ (readS l).1 < 18446744073709551616 ∧ 1 ≤ (readS l).2.1 ∧ (readS l).2.1 ≤ l.length := by
  have := rsF_bounds l 0 0 hB (by omega) (by omega) (by decide) h
  unfold readS at *
  simp at this ⊢
  exact this
theorem txtF_k (most : Int) (l : List Int) (hB : ∀ v ∈ l, 0 ≤ v ∧ v ≤ 255) : (0 ≤ (txtF most l).2.1 ∧ (txtF most l).2.1 ≤ l.length) ∧ ((txtF most l).2.2 ≠ 0 → (txtF most l).2.1 = 0) := by
  have hbd := readS_bounds l hB
  unfold txtF
  generalize (if most < 0 then 0 else most) = M
  by_cases h : (readS l).2.2 = 0
  · rw [if_pos h]
    obtain ⟨b1, b2, b3, b4⟩ := hbd h
    by_cases h1 : M < (readS l).1
    · rw [if_pos h1]; simp
    · rw [if_neg h1]
      by_cases h2 : (l.length : Int) - (readS l).2.1 < (readS l).1
      · rw [if_pos h2]; simp
      · rw [if_neg h2]
        simp only
        omega
  · rw [if_neg h]; simp
/-- What is got of a field: the number, the text, the bytes that are left, the error. -/
def getF (k most : Nat) (l : List Int) (e : Int) : (Int × List Int) × List Int × Int :=
  if k = 0 then (((tkF 0 (fixF 1 l) l e).1, []), (tkF 0 (fixF 1 l) l e).2)
  else if k = 1 then (((tkF 0 (fixF 2 l) l e).1, []), (tkF 0 (fixF 2 l) l e).2)
  else if k = 2 then (((tkF 0 (fixF 8 l) l e).1, []), (tkF 0 (fixF 8 l) l e).2)
  else if k = 3 then (((tkF 0 (numF most l) l e).1, []), (tkF 0 (numF most l) l e).2)
  else ((0, (tkF [] (txtF (most % 1000000 : Nat) l) l e).1), (tkF [] (txtF (most % 1000000 : Nat) l) l e).2)
end Go.Proofs.Ytapeejndekoicaa.wp
